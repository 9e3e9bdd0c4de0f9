/- Parts of the proof. -/
import Derived.Test.YtdhnndleffachaaGreatDoorP02
import Derived.Test.YtdhnndleffachaaGreatDoorP00
set_option linter.all false
namespace Go.AI.Edge
variable{bN:List (List Int)}
def rowOf(bN:List (List Int))(u:Nat):Nat->List Int
 |0=>[]
 |k+1=>rowOf bN u k++List.replicate ((((bN[k]?).getD []).map Int.toNat).count u) (k:Int)
theorem Ob(i u:Nat):∀(ts:List Int)(out:List (List Int)),(∀t∈ts,t.toNat<out.length)->((jX out i ts)[u]?).getD []=((out[u]?).getD [])++List.replicate ((ts.map Int.toNat).count u) (i:Int)
 |[],out,_=>by simp[jX]
 |t::ts,out,h=>by
  show((jX (uH out i t) i ts)[u]?).getD []=_;rw[Ob i u ts (uH out i t) (fun x hx=>by rw[Fi];exact h x (EE _ hx))];have ht:=h t (Dq ..);have e:((uH out i t)[u]?).getD []=((out[u]?).getD [])++(if t.toNat=u then [(i:Int)] else []):=by
   unfold uH;rw[eu];by_cases e:t.toNat=u
   .subst e;rw[aY rfl,aY ht,aY rfl];rfl
   .rw[bc e,bc e,List.append_nil]
  rw[e,IV,List.count_cons,Af];congr 1;by_cases e:t.toNat=u
  .rw[aY e];simp[e,List.replicate_succ]
  .rw[bc e];simp[e]
theorem Cg{bN:List (List Int)}{n:Nat}(h:∀ts∈bN,∀t∈ts,t.toNat<n)(u:Nat):∀k,((upto n bN k)[u]?).getD []=rowOf bN u k
 |0=>by unfold upto rowOf;rw[T7];split<;>rfl
 |k+1=>by
  unfold upto rowOf;cases hk:bN[k]? with
  |none=>
   dsimp only;rw[Cg h u k];simp
  |some ts=>
   dsimp only;rw[Ob k u ts _ (fun t ht=>by rw[qg];exact h ts (bU hk) t ht),Cg h u k];rfl
theorem rH(h:∀ts∈bN,∀t∈ts,t.toNat<bN.length){u:Nat}{ps:List Int}(hp:(bp bN)[u]?=some ps):ps=rowOf bN u bN.length:=by have:=Cg h u bN.length;unfold bp at hp;rw[hp] at this;exact this
def lZ(bN:List (List Int))(u k:Nat):Nat:=(((bN[k]?).getD []).map Int.toNat).count u
theorem wB(bN:List (List Int))(u:Nat)(f:Int->Bool):∀k,((rowOf bN u k).filter f).length=((List.range k).map fun i:Nat=>if f (i:Int) then lZ bN u i else 0).sum
 |0=>rfl
 |k+1=>by unfold rowOf;rw[List.filter_append,IZ,wB bN u f k,List.range_succ,List.map_append,List.sum_append_nat];congr 1;simp only[IV,List.map_nil,OI,List.sum_nil,IW];rw[List.filter_replicate];unfold lZ;split<;>simp
theorem kV(bN:List (List Int))(u k:Nat):(rowOf bN u k).length=((List.range k).map fun i=>lZ bN u i).sum:=by have:=wB bN u (fun _=>true) k;rw[List.filter_eq_self.2 (fun _ _=>rfl)] at this;simpa using this
theorem AJ(f:Nat->Bool)(g:Nat->Nat):∀l:List Nat,(l.map fun i=>if f i then g i else 0).sum=((l.filter f).map g).sum
 |[]=>rfl
 |x::l=>by rw[IV,OI,AJ f g l,List.filter_cons];cases f x<;>simp
theorem On{l m:List Nat}(h:l.Perm m)(g:Nat->Nat):(l.map g).sum=(m.map g).sum:=by
 induction h with
 |nil=>rfl
 |cons x _ ih=>simp[ih]
 |swap x y l=>simp;omega
 |trans _ _ a b=>exact a.trans b
theorem Gm{bN LG:List (List Int)}{aQ:List Nat}(nd:aQ.Nodup)(dQ:∀x∈aQ,x<bN.length)(hl:LG.length=aQ.length)(ot:∀(i k:Nat),aQ[i]?=some k->∃ts EX,bN[k]?=some ts/\LG[i]?=some EX/\EX.length=ts.length/\∀(j:Nat)(t t':Int),ts[j]?=some t->EX[j]?=some t'->0<=t'/\aQ[t'.toNat]?=some t.toNat){i k:Nat}(hk:aQ[i]?=some k)(f:Int->Bool)(hf:∀x:Nat,x<bN.length->(f (x:Int)=true↔x∈aQ)):(rowOf LG i LG.length).length=((rowOf bN k bN.length).filter f).length:=by
 rw[kV,wB,AJ (fun i=>f (i:Int))];have e1:(List.range LG.length).map (fun j=>lZ LG i j)=aQ.map (fun j=>lZ bN k j):=by
  refine yT fun j=>?_;rw[tV,tV];rcases Ae j aQ.length with hj|hj
  .have ho:aQ[j]?=some aQ[j]:=ff hj;rw[List.getElem?_range (by omega),ho];simp only[EF];congr 1;obtain⟨ts,EX,h1,h2,h3,h4⟩:=ot j _ ho;unfold lZ;rw[h1,h2];simp only[Option.getD_some];have:EX.map (fun t=>decide (t.toNat=i))=ts.map (fun t=>decide (t.toNat=k)):=by
    refine yT fun q=>?_;rw[tV,tV];rcases Ae q ts.length with hq|hq
    .have a1:ts[q]?=some ts[q]:=ff hq;have a2:EX[q]?=some (EX[q]'(by omega)):=ff (by omega);obtain⟨_,b2⟩:=h4 q _ _ a1 a2;rw[a1,a2];simp only[EF];congr 1;refine decide_eq_decide.2 ⟨fun h=>?_,fun h=>?_⟩
     .rw[h,hk] at b2;cases b2;rfl
     .rw[h] at b2;have l1:=(bK.mp b2).1;have l2:=(bK.mp hk).1;have m1:=(bK.mp b2).2;have m2:=(bK.mp hk).2;exact(List.getElem_inj nd).1 (m1.trans m2.symm)
    .rw[qY (by omega),qY (by omega)];rfl
   have c1:∀(l:List Int)(u:Nat),(l.map Int.toNat).count u=(l.map (fun t=>decide (t.toNat=u))).count true:=by
    intro l u;induction l with
    |nil=>rfl
    |cons x l ih=>simp[List.count_cons,ih]
   rw[c1,c1,this]
  .rw[qY (by simp;omega),qY (by omega)];rfl
 rw[e1];refine On ?_ _;refine(List.perm_ext_iff_of_nodup nd (List.Pairwise.filter _ List.nodup_range)).2 fun x=>?_;rw[VX,PY];constructor
 .intro h;exact⟨dQ x h,(hf x (dQ x h)).2 h⟩
 .rintro⟨h1,h2⟩;exact(hf x h1).1 h2
end Go.AI.Edge
namespace Go.Proofs.YtdhnndleffachaaGreatDoor
open Go.AI
variable{AH B F G T:SV}{C b bytes c d f k l n n0 o s sC:Nat}{QQ:aO->Env->ab->Prop}{R:Env->ab->Prop}{bs:List GB}{e e':Env}{fl funcs:List GF}{h h1 h2:ab}{mE:List (List Int)}{names ns xs:List ByteArray}{rb ro:Bool}{v:Value}{ws:List SV}{x:Int}{z:List Value}{α:Type}
def bg:Enc Int:=⟨fun x=>[.int .i64 x],1,fun _=>rfl,by decide,fun _=>rfl⟩
@[simp] theorem Sl:bg.sz=1:=rfl
@[simp] theorem ajr(x:Int):bg.enc x=[.int .i64 x]:=rfl
def gQ:Enc SV:=⟨fun w=>[w.v],1,fun _=>rfl,by decide,fun w=>rfl⟩
@[simp] theorem aaY:gQ.sz=1:=rfl
@[simp] theorem ajs(w:SV):gQ.enc w=[w.v]:=rfl
theorem bJ.Ws{E:Enc α}{xs:List α}(a:bJ E n0 h v xs):∃L:SV,v=L.v:=by
 rcases a with⟨_,rfl⟩|⟨b,s,rfl,_⟩
 .exact⟨⟨none,0,0⟩,rfl⟩
 .exact⟨⟨some ⟨b,0,none⟩,xs.length,xs.length⟩,rfl⟩
structure je{α:Type}(E:Enc α)(n0:Nat)(h:ab)(d:Nat)(ws:List SV)(mE:List (List α)):Prop where
 aC:∃s,h.tr.get d=some (.aC (gQ.flat ws) false 0 s)
 len:ws.length=mE.length
 acc:∀(i:Nat)(w:SV)(xs:List α),ws[i]?=some w->mE[i]?=some xs->bJ E n0 h w.v xs
 dis:∀(i j:Nat)(wi wj:SV)(b:Nat),ws[i]?=some wi->ws[j]?=some wj->i≠j->aw wi.v b->¬aw wj.v b
 new:n0<=d
 p7:∀(i:Nat)(w:SV),ws[i]?=some w->¬aw w.v d
theorem je.grow{α:Type}{E:Enc α}{n0:Nat}{S:Nat->Prop}{h h':ab}{d:Nat}{ws:List SV}{mE:List (List α)}(w:je E n0 h d ws mE)(ok:bl h)(g:aa S h h')(hS:∀b,n0<=b->¬S b):je E n0 h' d ws mE:=by obtain⟨s,hb⟩:=w.aC;refine⟨⟨s,g.get ok hb (hS _ w.new)⟩,w.len,fun i w' xs h1 h2=>?_,w.dis,w.new,w.p7⟩;have a:=w.acc i w' xs h1 h2;exact a.grow ok g (fun b hb=>hS b (a.of hb))
theorem je.aX{E:Enc α}{h h':ab}{mE:List (List α)}(w:je E n0 h d ws mE)(ok:bl h)(g:aa aG h h'):je E n0 h' d ws mE:=w.grow ok g (fun _ _ h=>h)
theorem Ho(ws:List SV)(i:Nat)(x:SV)(h:i<ws.length):aR (gQ.flat ws) i [x.v]=gQ.flat (ws.set i x):=by have:=gQ.dS ws i x h;simpa using this
theorem oh(hd:h.tr.get d=some (.aC (gQ.flat ws) ro o s)){x:SV}(hk:ws[k]?=some x):aV h d k 1=some [x.v]:=by have hl:=(bK.mp hk).1;rw[cx hd (by rw[gQ.bh];show k+1<=ws.length*1;omega)];have:=gQ.jQ ws k 0 1 x hk (by decide);simp only[IW] at this;rw[show k=k*gQ.sz from(Nat.mul_one k).symm,this];rfl
theorem je.set{α:Type}{E:Enc α}{n0:Nat}{h h2:ab}(ok:bl h){d:Nat}{ws:List SV}{mE:List (List α)}(w:je E n0 h d ws mE){i:Nat}{wi W:SV}{xs ys:List α}(hi:ws[i]?=some wi)(hx:mE[i]?=some xs)(g:aa (aw wi.v) h h2)(a:bJ E n0 h2 W.v ys)(hf:∀b,aw W.v b->h.next<=b):∃s,h2.tr.get d=some (.aC (gQ.flat ws) false 0 s)/\je E n0 (put h2 d i (gQ.flat ws) [W.v] 0) d (ws.set i W) (mE.set i ys):=by
 obtain⟨s,hb⟩:=w.aC;have hdl:=(ok.bE hb).lt;have fu:=(bK.mp hi).1;have cC:=g.get ok hb (w.p7 i wi hi);refine⟨s,cC,?_⟩;have gp:aa (· =d) h2 (put h2 d i (gQ.flat ws) [W.v] 0):=aJ g.ok cC;refine⟨⟨h2.clock,by rw[aA,Ho ws i W fu]⟩,by simp[w.len],fun j w' zs h1 h3=>?_,fun j k wj wk b h1 h3 hjk XL HD=>?_,w.new,fun j w' h1=>?_⟩
 .rw[eu] at h1 h3;by_cases e:i=j
  .subst e;rw[aY rfl,aY fu] at h1;rw[aY rfl,aY (by rw[<-w.len];exact fu)] at h3;cases h1;cases h3;exact a.grow g.ok gp (fun b hb e=>by have:=hf b hb;omega)
  .rw[bc e] at h1 h3;have a':=w.acc j w' zs h1 h3;exact(a'.grow ok g (fun b hb cC=>w.dis i j wi w' b hi h1 e cC hb)).grow g.ok gp (fun b hb e2=>w.p7 j w' h1 (e2▸hb))
 .rw[eu] at h1 h3;have bE:∀(k:Nat)(w':SV),ws[k]?=some w'->∀b,aw w'.v b->b<h.next:=by
   intro k w' hk b hb;have pc:=(bK.mp hk).1;obtain⟨off,n,cap,e⟩:=hb;rcases w.acc k w' _ hk (ff (by rw[<-w.len];exact pc)) with⟨_,e2⟩|⟨b',s',e2,jf,_⟩
   .rw[e2] at e;cases e
   .rw[e2] at e;cases e;exact ok.wf _ _ jf
  by_cases e:i=j
  .subst e;rw[aY rfl,aY fu] at h1;rw[bc hjk] at h3;cases h1;have h4:=hf b XL;have h5:=bE k wk h3 b HD;omega
  .rw[bc e] at h1;by_cases e':i=k
   .subst e';rw[aY rfl,aY fu] at h3;cases h3;have:=hf b HD;have:=bE j wj h1 b XL;omega
   .rw[bc e'] at h3;exact w.dis j k wj wk b h1 h3 hjk XL HD
 .rw[eu] at h1;by_cases e:i=j
  .subst e;rw[aY rfl,aY fu] at h1;cases h1;exact fun hb=>by have:=hf d hb;omega
  .rw[bc e] at h1;exact w.p7 j w' h1
theorem j4{E:Enc α}(ok:bl h){v w:Value}{xs:List α}{y:α}(hz:z.length=E.sz)(a:bJ E n0 h v xs)(hw:aL E h w [y])(hl:xs.length<1000000)(Eo:bytes<=1000)(hn:n0<=h.next):∃v' h',iQ h z bytes false v w=some (v',h')/\bJ E n0 h' v' (xs++[y])/\aa (aw v) h h'/\∀b,aw v' b->b=h.next:=by
 unfold iQ;rw[v5 hz hw];dsimp only;have r1:roomy (xs.length+1)=true:=by simp[roomy];omega
 have r2:roomy ((xs.length+1)*bytes)=true:=by have:(xs.length+1)*bytes<=1000000*1000:=Nat.mul_le_mul (by omega) Eo;simp[roomy];omega
 have hp:=E.pos;have hp':E.sz≠0:=by omega
 rcases a with⟨rfl,rfl⟩|⟨b,s,rfl,hb,hx,H8⟩
 .have r3:roomy bytes=true:=by simp[roomy];omega
  refine⟨.slice (some ⟨h.next,0,none⟩) 1 1,aD h (E.flat [y]) E.sz,?_,.inr ⟨h.next,0,rfl,by simp,by simp,hn⟩,(aH ok _ _).aX,?_⟩
  .have r4:roomy 1=true:=rfl;simp[eA,hz,hp,r3,r4]
  .rintro b⟨off,n,cap,e⟩;cases e;rfl
 .refine⟨.slice (some ⟨h.next,0,none⟩) (xs.length+1) (xs.length+1),aD {h with tr:=h.tr.del b} (E.flat xs++E.flat [y]) E.sz,?_,.inr ⟨h.next,0,by simp,?_,by simp,hn⟩,?_,?_⟩
  .have e1:¬xs.length+1<=xs.length:=by omega
   have e2:(E.flat xs).take (xs.length*E.sz)=E.flat xs:=gJ_ (by simp);simp[eA,hz,hp,r1,r2,hb,e1,e2,hp']
  .have:=bq {h with tr:=h.tr.del b} (E.flat xs++E.flat [y]) E.sz;rw[Enc.dG];exact this
  .refine((kq ok b).bH ?_).trans (aH (kq ok b).ok _ _).aX;rintro x _ rfl;exact⟨_,_,_,rfl⟩
  .rintro b'⟨off,n,cap,e⟩;cases e;rfl
def ax(l:List Nat)(e e':Env):Prop:=∀t,t∉l->ai e' t=ai e t
theorem ax.refl(l:List Nat)(e:Env):ax l e e:=fun _ _=>rfl
theorem ax.set{l:List Nat}{e e':Env}{k:Nat}{v:Value}(K:ax l e e')(hk:k∈l:=by decide):ax l e (Tr.set e' k v):=fun t ht=>by rw[Env.aW,bc (by rintro rfl;exact ht hk)];exact K t ht
theorem ax.at{l:List Nat}{t:Nat}(K:ax l e e')(f:ai e t=v)(ht:t∉l:=by decide):ai e' t=v:=(K t ht).trans f
theorem ax.trans{l:List Nat}{e e1 e2:Env}(a:ax l e e1)(b:ax l e1 e2):ax l e e2:=fun t ht=>(b t ht).trans (a t ht)
theorem gH{F:Nat->Option bZ}{d:Option Nat}{l:List bm}{o:Option (Value×ab)}(ho:o=some (v,h))(H:aF F l (fN e d v) h R):RQ F d l e R o:=by rw[ho];exact H
theorem tw{F:Nat->Option bZ}{mU:List Nat}{d:Option Nat}{m:List (bm×List Nat)}{o:Option (Value×ab)}(ho:o=some (v,h))(H:still (fN e d v) h k mU=true/\aZ F k m (fN e d v) h R):RO F k mU d m e R o:=by rw[ho];exact H
def aj(name:ByteArray)(params ag:Int)(blocks:SV):List Value:=[.string name,.int .i64 params,.int .i64 ag,blocks.v]
theorem R_(w:je bg n0 h d ws mE):SliceR (lsR h) 1 h (SV.v ⟨some ⟨d,0,none⟩,mE.length,c⟩) mE:=by
 obtain⟨s,hb⟩:=w.aC;refine⟨_,c,rfl,.inr ⟨d,0,_,_,_,_,rfl,hb,fun i xs hx=>?_⟩⟩;have fu:=(bK.mp hx).1;obtain⟨wi,hw⟩:=ay ws i (show i<ws.length by rw[w.len];exact fu);have:=gQ.pJ ws i wi hw;simp only[aaY,Nat.mul_one] at this;rw[Ek,Nat.mul_one,this];refine⟨rfl,wi,rfl,?_⟩;have a:=w.acc i wi xs hw hx;rcases a with⟨rfl,e⟩|⟨b,s',e,jf,qm,_⟩
 .rw[e];exact⟨none,0,rfl,.inl ⟨rfl,.inl rfl⟩⟩
 .rw[e];refine⟨_,_,rfl,.inr ⟨b,0,_,_,_,_,rfl,jf,fun k x hk=>?_⟩⟩;have:=bg.pJ xs k x hk;simp only[Sl,Nat.mul_one] at this;rw[Ek,Nat.mul_one,this];exact⟨rfl,rfl⟩
theorem Mb(h:ab)(ok:bl h)(E:Enc α)(n n0:Nat)(hn:n0<=h.next):je E n0 (aD h (iP [.slice none 0 0] n) 0) h.next (List.replicate n cJ) (List.replicate n []):=by
 have hr:iP [Value.slice none 0 0] n=gQ.flat (List.replicate n cJ):=by
  have:∀n,iP [Value.slice none 0 0] n=gQ.flat (List.replicate n cJ):=by
   intro n;induction n with
   |zero=>rfl
   |succ n ih=>rw[List.replicate_succ,Enc.eo,<-ih];rfl
  exact this n
 refine⟨⟨0,by rw[<-hr];exact bq _ _ _⟩,by simp,fun i w xs h1 h2=>?_,fun i j wi wj b h1 _ _ hb=>?_,hn,fun i w h1 hb=>?_⟩
 .rw[T7] at h1 h2;split at h1
  .rename_i hi;rw[aY hi] at h2;cases h1;cases h2;exact .inl ⟨rfl,rfl⟩
  .cases h1
 .rw[T7] at h1;split at h1<;>cases h1;obtain⟨_,_,_,e⟩:=hb;cases e
 .rw[T7] at h1;split at h1<;>cases h1;obtain⟨_,_,_,e⟩:=hb;cases e
def aiD(h h2:ab)(b:GB)(mE:List (List Int))(n0 d k:Nat)(e:Env)(m:Nat)(e':Env)(h3:ab):Prop:=
 ∃(j:Nat) (Cj:List SV),m=b.to.length-j/\j<=b.to.length/\ai e' 24=.int .i64 j/\ax [25,26,27,7,28,29,30,31,32,33,34,35,36,37,38,24] e e'/\aa aG h h3/\h2.next<=h3.next/\je bg n0 h3 d Cj (Edge.jX mE k (b.to.take j))
theorem PZ(ok:bl h){b:GB}(hT:SliceR nR 1 h T.v b.to)(h2l:b.to.length<=2)(hn:n<=1000)(ht:∀t∈b.to,0<=t/\t<n)(w:je bg n0 h2 d ws mE)(u6:mE.length=n)(cj:∀u:Nat,((mE[u]?).getD []).length<=2*k)(hk:k<=1000)(g2:aa aG h h2)(qk:n0<=h2.next)(afU:h.next<=n0)(f3:ai e 3=.slice (some ⟨d,0,none⟩) n n)(f4:ai e 4=.int .i64 k)(f22:ai e 22=T.v)(f23:ai e 23=.int .i64 b.to.length)(f24:ai e 24=.int .i64 0)(C:∀e' h' Cj,aa aG h h'->h2.next<=h'.next->ax [25,26,27,7,28,29,30,31,32,33,34,35,36,37,38,24] e e'->je bg n0 h' d Cj (Edge.jX mE k b.to)->QQ (.exit 2) e' h'):az FF (.loop qy) e h2 QQ:=by
 have vj:=SliceR.len hT;refine az.loop (aiD h h2 b mE n0 d k e) ?_ (n:=b.to.length)
  ⟨0,ws,rfl,by omega,f24,ax.refl _ _,g2,dH _,by simpa [Edge.jX] using w⟩
 rintro m e' h3⟨j,Cj,rfl,hj,OT,K,g3,SB,w3⟩;unfold qy;have q3:=K.at f3;have q4:=K.at f4;have q22:=K.at f22;have q23:=K.at f23;by_cases aM:j<b.to.length
 .have hx:b.to[j]?=some b.to[j]:=ff aM;have hm:=Ai aM;generalize b.to[j]=t at hx hm;obtain⟨SF,htn⟩:=ht t hm;obtain⟨u,rfl⟩:∃u:Nat,t=u:=⟨t.toNat,by omega⟩;have Et:u<n:=by omega
  obtain⟨bT,off,c,AM,_,_,rfl,_,cS⟩:=SliceR.later ok hT hx;have r0:=cS h3 g3 0 1 (by decide);simp[-ae] at r0;have wj:=wrap_i64 (j+1) (by omega) (by omega);obtain⟨s3,Bx⟩:=w3.aC;have ags:(Edge.jX mE k (b.to.take j)).length=n:=by rw[Edge.B1,u6]
  have as1:Cj.length=n:=by rw[w3.len,ags]
  have hw:Cj[u]?=some Cj[u]:=ff (by omega);have Ew:(Edge.jX mE k (b.to.take j))[u]?=some (Edge.jX mE k (b.to.take j))[u]:=ff (by omega);generalize Cj[u]=wu at hw;generalize hxe:(Edge.jX mE k (b.to.take j))[u]=xs at Ew;have Qp:=oh Bx hw;have agr:xs.length<1000000:=by
   have h1:=Edge.BE k u (b.to.take j) mE;rw[Ew] at h1;have LN:=cj u;simp at h1;have:(b.to.take j).length<=2:=by simp;omega
   simp at this;omega
  simp at q22;simp[-ae] at Qp;have od3:=g3.ok.bE Bx;simp[q3,q4,q22,q23,OT,AM,vj,aM,r0,Et,Qp,-ae,od3];have g4:=aH g3.ok (bg.enc (k:Int)) 0;have w4:=w3.aX g3.ok g4;have hw4:aL bg (aD h3 (bg.enc (k:Int)) 0) (.slice (some ⟨h3.next,0,none⟩) 1 1) [(k:Int)]:=⟨_,_,rfl,.inr ⟨h3.next,0,_,_,_,_,rfl,bq _ _ _,by simp,by simp⟩⟩;obtain⟨v',h5,ha,Ds,g5,OP⟩:=j4 (bytes:=8) g4.ok (z:=[.int .i64 0]) rfl (w4.acc u wu xs hw Ew) hw4 agr (by decide) (by show n0<=h3.next+1;omega);refine gH ha ?_;obtain⟨V,rfl⟩:=bJ.Ws Ds;obtain⟨s5,XS,w5⟩:=w4.set g4.ok hw Ew g5 Ds (fun b hb=>by rw[OP b hb];exact dH _);have XM:∀b,aw wu.v b->n0<=b:=fun b hb=>(w3.acc u wu xs hw Ew).of hb;have hdl:u<=(gQ.flat Cj).length-1:=by simp;omega
  have afu:u+1<=Cj.length:=by omega
  simp[Et,XS,afu,wj,OT];refine⟨b.to.length-(j+1),by omega,j+1,Cj.set u V,rfl,by omega,by simp,?_,?_,?_,?_⟩
  .repeat (refine ax.set ?_)
   exact K
  .have ym:aa aG h h5:=(g3.trans g4).trans' g5 (fun _ _ h=>h) (fun b hb h=>by have:=XM b h;omega);exact ym.put ⟨s5,XS⟩ (.inl (by have:=w3.new;omega))
  .have:=g5.next;simp at this⊢;omega
  .rw[Edge.JD hx];have:(Edge.uH (Edge.jX mE k (b.to.take j)) k (u:Int))=(Edge.jX mE k (b.to.take j)).set u (xs++[(k:Int)]):=by unfold Edge.uH;rw[gP_,Ew];rfl
   rw[this];simpa using w5
 .have:j=b.to.length:=by omega
  subst this;rw[xK] at w3;simp[q23,OT];exact C _ _ Cj g3 SB (K.set) w3
def bt(bs:List GB):List (List Int):=bs.map (·.to)
structure jn(bs:List GB):Prop where
 len:bs.length<=1000
 two:∀b∈bs,b.to.length<=2
 to:∀b∈bs,∀t∈b.to,0<=t/\t<bs.length
def AhI(h:ab)(B:SV)(bs:List GB)(d:Nat)(n0:Nat)(m:Nat)(e:Env)(h2:ab):Prop:=
 ∃(j:Nat) (ws:List SV),m=bs.length-j/\j<=bs.length/\ai e 3=.slice (some ⟨d,0,none⟩) bs.length bs.length/\ai e 13=B.v/\ai e 14=.int .i64 bs.length/\ai e 15=.int .i64 j/\aa aG h h2/\n0<=h2.next/\je bg n0 h2 d ws (Edge.upto bs.length (bt bs) j)
theorem jk(ok:bl h){name:ByteArray}{p r:Int}(hB:yM h B bs)(E:jn bs):aE FF uS [.agg ⟨aj name p r B⟩] h (fun v h'=>aa aG h h'/\∃d ws,v=.slice (some ⟨d,0,none⟩) bs.length bs.length/\je bg h.next h' d ws (Edge.bp (bt bs))):=by
 have cV:=SliceR.len hB;have hl:=E.len;have r1:roomy bs.length=true:=by simp[roomy];omega
 have r2:roomy (bs.length*24)=true:=by simp[roomy];omega
 refine aE.of HN ?_;unfold zj;simp[aj,cV,r1,r2];refine az.cut (fun h1=>aa aG h h1/\je bg h.next h1 (h.next+1) (List.replicate bs.length cJ) (List.replicate bs.length [])) ?_ ?_
 .have g1:=aH ok (aj name p r B) 0;have:=Mb (aD h (aj name p r B) 0) g1.ok bg bs.length h.next (Nat.le_succ _);refine⟨?_,by simpa [aj,cV] using this⟩;have g2:=g1.new (iP [.slice none 0 0] bs.length) 0;simpa [aj,cV] using g2
 rintro h1⟨g1,w1⟩;have hn1:h.next+1<h1.next:=by obtain⟨s,hb⟩:=w1.aC;exact g1.ok.bE hb
 refine az.loop (AhI h B bs (h.next+1) h.next) ?_ (n:=bs.length) ⟨0,_,rfl,by omega,by simp,by simp[cV],by simp[cV],by simp,g1,by omega,by simpa [Edge.upto] using w1⟩;rintro m e h2⟨j,ws,rfl,hj,f3,f13,f14,f15,g2,LR,w2⟩;unfold wY;by_cases aM:j<bs.length
 .have hx:bs[j]?=some bs[j]:=ff aM;have hm:=Ai aM;generalize bs[j]=x at hx hm;obtain⟨bb,off,c,dZ,_,_,⟨P,L,T,rfl,sP,sL,sT⟩,_,cS⟩:=SliceR.later ok hB hx;have r0:=cS h2 g2 0 6 (by decide);simp[-ae] at r0;have wj:=wrap_i64 (j+1) (by omega) (by omega);have vj:=SliceR.len sT;simp at f13;have Xo:=f13;rw[dZ,cV] at Xo;simp[f3,Xo,f14,f15,aM,r0,-ae,au];refine az.cut (fun h3=>aa aG h2 h3) ?_ ?_
  .exact(aa.refl g2.ok).var _ _
  rintro h3 g3;have dw:=g2.trans g3;refine PZ ok sT (E.two x hm) E.len (E.to x hm) (k:=j) (w2.aX g2.ok g3) (Edge.qg _ _ _) (fun u=>Edge.p9 (fun ts ot=>?_) u j) (by omega) dw (xf LR g3.next) (dH _) (by simp[f3]) (by simp) (by simp) (by simp[vj]) (by simp) ?_
  .unfold bt at ot;obtain⟨y,hy,rfl⟩:=j_.1 ot;exact E.two y hy
  .intro e' h' Cj g' Uv K w';have yE:=K.at (t:=15) (by simp;exact f15);have q3:=K.at (t:=3) (by simp;exact f3);have q13:=K.at (t:=13) (by simp;exact f13);have JA:=K.at (t:=14) (by simp;exact f14);simp[yE,wj];refine⟨bs.length-(j+1),by omega,j+1,Cj,rfl,by omega,by simp[q3],by simp[q13],by simp[JA],by simp,g',xf LR (xf g3.next Uv),?_⟩;have Uq:(bt bs)[j]?=some x.to:=by simp[bt,hx]
   have:Edge.upto bs.length (bt bs) (j+1)=Edge.jX (Edge.upto bs.length (bt bs) j) j x.to:=by show(match(bt bs)[j]? with|some ts=>Edge.jX (Edge.upto bs.length (bt bs) j) j ts|none=>Edge.upto bs.length (bt bs) j)=_;rw[Uq]
   rw[this];exact w'
 .have:j=bs.length:=by omega
  subst this;simp[f3,f14,f15];refine⟨g2,ws,?_⟩;have:Edge.bp (bt bs)=Edge.upto bs.length (bt bs) bs.length:=by simp[Edge.bp,bt]
  rw[this];exact w2
def aiI(h h2:ab)(b:GB)(mE:List (List Int))(n0 d k:Nat)(e:Env)(m:Nat)(e':Env)(h3:ab):Prop:=
 ∃(j:Nat) (Cj:List SV),m=b.to.length-j/\j<=b.to.length/\ai e' 24=.int .i64 j/\ax [25,26,27,7,28,29,30,31,32,33,34,35,36,37,38,24] e e'/\aa aG h h3/\h2.next<=h3.next/\je bg n0 h3 d Cj (Edge.jX mE k (b.to.take j))
theorem Py(ok:bl h){b:GB}(hT:SliceR nR 1 h T.v b.to)(h2l:b.to.length<=2)(hn:n<=1000)(ht:∀t∈b.to,0<=t/\t<n)(w:je bg n0 h2 d ws mE)(u6:mE.length=n)(cj:∀u:Nat,((mE[u]?).getD []).length<=2*k)(hk:k<=1000)(g2:aa aG h h2)(qk:n0<=h2.next)(afU:h.next<=n0)(f3:ai e 3=.slice (some ⟨d,0,none⟩) n n)(f4:ai e 4=.int .i64 k)(f22:ai e 22=T.v)(f23:ai e 23=.int .i64 b.to.length)(f24:ai e 24=.int .i64 0)(C:∀e' h' Cj,aa aG h h'->h2.next<=h'.next->ax [25,26,27,7,28,29,30,31,32,33,34,35,36,37,38,24] e e'->je bg n0 h' d Cj (Edge.jX mE k b.to)->QQ (.exit 2) e' h'):az FF (.loop tC) e h2 QQ:=by
 have vj:=SliceR.len hT;refine az.loop (aiI h h2 b mE n0 d k e) ?_ (n:=b.to.length)
  ⟨0,ws,rfl,by omega,f24,ax.refl _ _,g2,dH _,by simpa [Edge.jX] using w⟩
 rintro m e' h3⟨j,Cj,rfl,hj,OT,K,g3,SB,w3⟩;unfold tC;have q3:=K.at f3;have q4:=K.at f4;have q22:=K.at f22;have q23:=K.at f23;by_cases aM:j<b.to.length
 .have hx:b.to[j]?=some b.to[j]:=ff aM;have hm:=Ai aM;generalize b.to[j]=t at hx hm;obtain⟨SF,htn⟩:=ht t hm;obtain⟨u,rfl⟩:∃u:Nat,t=u:=⟨t.toNat,by omega⟩;have Et:u<n:=by omega
  obtain⟨bT,off,c,AM,_,_,rfl,_,cS⟩:=SliceR.later ok hT hx;have r0:=cS h3 g3 0 1 (by decide);simp[-ae] at r0;have wj:=wrap_i64 (j+1) (by omega) (by omega);obtain⟨s3,Bx⟩:=w3.aC;have ags:(Edge.jX mE k (b.to.take j)).length=n:=by rw[Edge.B1,u6]
  have as1:Cj.length=n:=by rw[w3.len,ags]
  have hw:Cj[u]?=some Cj[u]:=ff (by omega);have Ew:(Edge.jX mE k (b.to.take j))[u]?=some (Edge.jX mE k (b.to.take j))[u]:=ff (by omega);generalize Cj[u]=wu at hw;generalize hxe:(Edge.jX mE k (b.to.take j))[u]=xs at Ew;have Qp:=oh Bx hw;have agr:xs.length<1000000:=by
   have h1:=Edge.BE k u (b.to.take j) mE;rw[Ew] at h1;have LN:=cj u;simp at h1;have:(b.to.take j).length<=2:=by simp;omega
   simp at this;omega
  simp at q22;simp[-ae] at Qp;have od3:=g3.ok.bE Bx;simp[q3,q4,q22,q23,OT,AM,vj,aM,r0,Et,Qp,-ae,od3];have g4:=aH g3.ok (bg.enc (k:Int)) 0;have w4:=w3.aX g3.ok g4;have hw4:aL bg (aD h3 (bg.enc (k:Int)) 0) (.slice (some ⟨h3.next,0,none⟩) 1 1) [(k:Int)]:=⟨_,_,rfl,.inr ⟨h3.next,0,_,_,_,_,rfl,bq _ _ _,by simp,by simp⟩⟩;obtain⟨v',h5,ha,Ds,g5,OP⟩:=j4 (bytes:=8) g4.ok (z:=[.int .i64 0]) rfl (w4.acc u wu xs hw Ew) hw4 agr (by decide) (by show n0<=h3.next+1;omega);refine gH ha ?_;obtain⟨V,rfl⟩:=bJ.Ws Ds;obtain⟨s5,XS,w5⟩:=w4.set g4.ok hw Ew g5 Ds (fun b hb=>by rw[OP b hb];exact dH _);have XM:∀b,aw wu.v b->n0<=b:=fun b hb=>(w3.acc u wu xs hw Ew).of hb;have hdl:u<=(gQ.flat Cj).length-1:=by simp;omega
  have afu:u+1<=Cj.length:=by omega
  simp[Et,XS,afu,wj,OT];refine⟨b.to.length-(j+1),by omega,j+1,Cj.set u V,rfl,by omega,by simp,?_,?_,?_,?_⟩
  .repeat (refine ax.set ?_)
   exact K
  .have ym:aa aG h h5:=(g3.trans g4).trans' g5 (fun _ _ h=>h) (fun b hb h=>by have:=XM b h;omega);exact ym.put ⟨s5,XS⟩ (.inl (by have:=w3.new;omega))
  .have:=g5.next;simp at this⊢;omega
  .rw[Edge.JD hx];have:(Edge.uH (Edge.jX mE k (b.to.take j)) k (u:Int))=(Edge.jX mE k (b.to.take j)).set u (xs++[(k:Int)]):=by unfold Edge.uH;rw[gP_,Ew];rfl
   rw[this];simpa using w5
 .have:j=b.to.length:=by omega
  subst this;rw[xK] at w3;simp[q23,OT];exact C _ _ Cj g3 SB (K.set) w3
theorem Mu(ok:bl h){name:ByteArray}{p r:Int}(hB:yM h B bs)(E:jn bs):aE FF BJ [.agg ⟨aj name p r B⟩] h (fun v h'=>aa aG h h'/\∃d ws,v=.slice (some ⟨d,0,none⟩) bs.length bs.length/\je bg h.next h' d ws (Edge.bp (bt bs))):=by
 have cV:=SliceR.len hB;have hl:=E.len;have r1:roomy bs.length=true:=by simp[roomy];omega
 have r2:roomy (bs.length*24)=true:=by simp[roomy];omega
 refine aE.of JX ?_;unfold A8;simp[aj,cV,r1,r2];refine az.cut (fun h1=>aa aG h h1/\je bg h.next h1 (h.next+1) (List.replicate bs.length cJ) (List.replicate bs.length [])) ?_ ?_
 .have g1:=aH ok (aj name p r B) 0;have:=Mb (aD h (aj name p r B) 0) g1.ok bg bs.length h.next (Nat.le_succ _);refine⟨?_,by simpa [aj,cV] using this⟩;have g2:=g1.new (iP [.slice none 0 0] bs.length) 0;simpa [aj,cV] using g2
 rintro h1⟨g1,w1⟩;have hn1:h.next+1<h1.next:=by obtain⟨s,hb⟩:=w1.aC;exact g1.ok.bE hb
 refine az.loop (AhI h B bs (h.next+1) h.next) ?_ (n:=bs.length) ⟨0,_,rfl,by omega,by simp,by simp[cV],by simp[cV],by simp,g1,by omega,by simpa [Edge.upto] using w1⟩;rintro m e h2⟨j,ws,rfl,hj,f3,f13,f14,f15,g2,LR,w2⟩;unfold x5;by_cases aM:j<bs.length
 .have hx:bs[j]?=some bs[j]:=ff aM;have hm:=Ai aM;generalize bs[j]=x at hx hm;obtain⟨bb,off,c,dZ,_,_,⟨P,L,T,rfl,sP,sL,sT⟩,_,cS⟩:=SliceR.later ok hB hx;have r0:=cS h2 g2 0 6 (by decide);simp[-ae] at r0;have wj:=wrap_i64 (j+1) (by omega) (by omega);have vj:=SliceR.len sT;simp at f13;have Xo:=f13;rw[dZ,cV] at Xo;simp[f3,Xo,f14,f15,aM,r0,-ae,au];refine az.cut (fun h3=>aa aG h2 h3) ?_ ?_
  .exact(aa.refl g2.ok).var _ _
  rintro h3 g3;have dw:=g2.trans g3;refine Py ok sT (E.two x hm) E.len (E.to x hm) (k:=j) (w2.aX g2.ok g3) (Edge.qg _ _ _) (fun u=>Edge.p9 (fun ts ot=>?_) u j) (by omega) dw (xf LR g3.next) (dH _) (by simp[f3]) (by simp) (by simp) (by simp[vj]) (by simp) ?_
  .unfold bt at ot;obtain⟨y,hy,rfl⟩:=j_.1 ot;exact E.two y hy
  .intro e' h' Cj g' Uv K w';have yE:=K.at (t:=15) (by simp;exact f15);have q3:=K.at (t:=3) (by simp;exact f3);have q13:=K.at (t:=13) (by simp;exact f13);have JA:=K.at (t:=14) (by simp;exact f14);simp[yE,wj];refine⟨bs.length-(j+1),by omega,j+1,Cj,rfl,by omega,by simp[q3],by simp[q13],by simp[JA],by simp,g',xf LR (xf g3.next Uv),?_⟩;have Uq:(bt bs)[j]?=some x.to:=by simp[bt,hx]
   have:Edge.upto bs.length (bt bs) (j+1)=Edge.jX (Edge.upto bs.length (bt bs) j) j x.to:=by show(match(bt bs)[j]? with|some ts=>Edge.jX (Edge.upto bs.length (bt bs) j) j ts|none=>Edge.upto bs.length (bt bs) j)=_;rw[Uq]
   rw[this];exact w'
 .have:j=bs.length:=by omega
  subst this;simp[f3,f14,f15];refine⟨g2,ws,?_⟩;have:Edge.bp (bt bs)=Edge.upto bs.length (bt bs) bs.length:=by simp[Edge.bp,bt]
  rw[this];exact w2
structure vF(b:GB):Prop where
 ph:b.dk.length<=140737488355328
 li:b.list.length<=140737488355328
 to:b.to.length<=140737488355328
 row:∀p∈b.dk,p.row.length<=140737488355328
 args:∀x∈b.list,x.args.length<=140737488355328
def xj(n:Nat)(ag:Int)(bs:List GB):Prop:=∀b∈bs,L7 n ag b
theorem xj.take{n:Nat}{ag:Int}{bs:List GB}{j:Nat}{b:GB}(h:xj n ag (bs.take j))(hx:bs[j]?=some b)(hb:L7 n ag b):xj n ag (bs.take (j+1)):=by
 intro x qm;rw[yS,hx] at qm;rcases rM.1 qm with h1|h1
 .exact h x h1
 .simp at h1;rw[h1];exact hb
theorem xj.ends{ag:Int}(h:xj bs.length ag bs)(hl:bs.length<=1000):jn bs:=by
 refine⟨hl,fun b hb=>?_,fun b hb t ht=>?_⟩
 .rcases(h b hb).kind with⟨_,e⟩|⟨_,t,e⟩|⟨_,t,u,e,_⟩<;>rw[e]<;>simp
 .have:=(h b hb).to t ht;unfold acO at this;omega
section
variable{gs fs blocks ah:SV}{name:ByteArray}{params ag:Int}
def aoK(h:ab)(gs fs B ah:SV)(name:ByteArray)(params ag:Int)(bs:List GB)(m:Nat)(e:Env)(h2:ab):Prop:=
 ∃j:Nat,m=bs.length-j/\j<=bs.length/\ai e 1=.pointer (some ⟨h.next,0,none⟩)/\ai e 16=B.v/\ai e 17=.int .i64 bs.length/\ai e 18=.int .i64 j/\aa aG h h2/\h2.tr.get h.next=some (.aC (aP gs fs name params ag B ah) false 0 0)/\xj bs.length ag (bs.take j)
theorem TG(ok:bl h)(hw:D9 h)(hr:0<=ag/\ag<1000000)(hB:yM h B bs)(hl:bs.length<=1000)(sm:∀b∈bs,vF b)(g1:aa aG h h1)(MX:h1.tr.get h.next=some (.aC (aP gs fs name params ag B ah) false 0 0))(f1:ai e 1=.pointer (some ⟨h.next,0,none⟩))(f16:ai e 16=B.v)(f17:ai e 17=.int .i64 bs.length)(f18:ai e 18=.int .i64 0)(bad:∀c e' h',c≠0->ai e' 2=.int .i64 c->aa aG h h'->QQ .ret e' h')(Ag:∀e' h',ai e' 1=.pointer (some ⟨h.next,0,none⟩)->aa aG h h'->h'.tr.get h.next=some (.aC (aP gs fs name params ag B ah) false 0 0)->xj bs.length ag bs->QQ (.exit 0) e' h'):az FF (.loop jW) e h1 QQ:=by
 have cV:=SliceR.len hB;refine az.loop (aoK h gs fs B ah name params ag bs) ?_ (n:=bs.length) ⟨0,rfl,by omega,f1,f16,f17,f18,g1,MX,fun b hb=>by simp at hb⟩;rintro m e h2⟨j,rfl,hj,f1,f16,f17,f18,g2,qZ,hE⟩;unfold jW;by_cases aM:j<bs.length
 .have hx:bs[j]?=some bs[j]:=ff aM;have hm:=Ai aM;generalize bs[j]=x at hx hm;obtain⟨bb,off,c,dZ,_,_,⟨P,L,T,rfl,sP,sL,sT⟩,_,cS⟩:=SliceR.later ok hB hx;have r0:=cS h2 g2 0 6 (by decide);simp[-ae] at r0;have wj:=wrap_i64 (j+1) (by omega) (by omega);have oC2:=g2.ok.bE qZ;have xL:=qZ;simp only[aP] at xL;have aeD:=f16;simp at aeD;rw[dZ,cV] at aeD;simp[f1,aeD,f17,f18,aM,r0,-ae,au,bj,aN,oC2,aq xL];refine aF.cut (fun h3=>aa aG h2 h3) ?_ ?_
  .exact(aa.refl g2.ok).var _ _
  rintro h3 g3;have dw:=g2.trans g3;refine aF.call (V:=u7 (fun c=>c=0->L7 bs.length ag x) h3) ?_ ?_
  .have E:aE FF my [.agg ⟨aP gs fs name params ag B ah⟩,.agg ⟨[.int .i64 x.kind,.bool x.on.1,.int .i64 x.on.2,T.v]⟩] h3 (u7 (fun c=>c=0->L7 bs.length ag x) h3):=by rw[<-cV];exact Xl dw.ok (hw.grow ok dw) hr (by omega) (b:=x) (by have:=(sm x hm).to;omega) (sT.mono ok dw fun _ _ h=>h)
   simpa [aP,cV] using E
  rintro _ h4⟨g4,c,rfl,hc⟩;have oE:=dw.trans g4;by_cases he:c=0
  .subst he;simp[f18,wj];refine⟨bs.length-(j+1),by omega,j+1,rfl,by omega,by simp[f1],by simp[f16],by simp[f17],by simp,oE,(g3.trans g4).get g2.ok qZ,hE.take hx (hc rfl)⟩
  .have:=tv he;simp[this];exact bad c _ _ he (by simp) oE
 .have:j=bs.length:=by omega
  subst this;rw[xK] at hE;simp[f17,f18];exact Ag _ _ (by simp[f1]) g2 qZ hE
structure Wv(ag:Int)(uB:List (List Int))(i:Nat)(b:GB):Prop where
 dk:∀p∈b.dk,i≠0/\∃l,uB[i]?=some l/\It ag l.length p
 list:∀x∈b.list,AW ag x
def OY(ag:Int)(uB:List (List Int))(bs:List GB):Prop:=∀(i:Nat) b,bs[i]?=some b->Wv ag uB i b
def apa(h h1:ab)(e0:Env)(P:SV)(ag:Int)(n:Nat)(i:Nat)(ps:List GP)(C:Nat)(cc:List Value)(sC:Nat)(m:Nat)(e:Env)(h2:ab):Prop:=
 ∃j:Nat,m=ps.length-j/\j<=ps.length/\ax [47,48,49,9,50,51,52,53,10,54,55,56,57,46,2] e0 e/\ai e 46=.int .i64 j/\aa aG h1 h2/\∀p∈ps.take j,i≠0/\It ag n p
theorem TJ(ok:bl h)(hr:0<=ag/\ag<1000000){i:Nat}{l:List Int}(hi:mE[i]?=some l)(hA:SliceR (lsR h1) 1 h1 AH.v mE){P:SV}{ps:List GP}(hP:SliceR (pR h) 2 h P.v ps)(xh:ps.length<=140737488355328)(sm:∀p∈ps,p.row.length<=140737488355328)(g1:aa aG h h1)(MX:h1.tr.get C=some (.aC (aP gs fs name params ag B AH) false 0 sC))(f1:ai e 1=.pointer (some ⟨C,0,none⟩))(f6:ai e 6=.int .i64 i)(f44:ai e 44=P.v)(f45:ai e 45=.int .i64 ps.length)(f46:ai e 46=.int .i64 0)(bad:∀c e' h',c≠0->ai e' 2=.int .i64 c->aa aG h1 h'->QQ .ret e' h')(Ag:∀e' h',ax [47,48,49,9,50,51,52,53,10,54,55,56,57,46,2] e e'->aa aG h1 h'->(∀p∈ps,i≠0/\It ag l.length p)->QQ (.exit 4) e' h'):az FF (.loop jU) e h1 QQ:=by
 have iF:=SliceR.len hP;refine az.loop (apa h h1 e P ag l.length i ps C (aP gs fs name params ag B AH) sC) ?_ (n:=ps.length) ⟨0,rfl,by omega,ax.refl _ _,f46,.refl g1.ok,fun p hp=>by simp at hp⟩;rintro m e' h2⟨j,rfl,hj,K,Wr,g2,hE⟩;have jd:=g1.trans g2;unfold jU;have q1:=K.at f1;have q6:=K.at f6;have Hb:=K.at f44;have Le:=K.at f45;by_cases aM:j<ps.length
 .have hx:ps[j]?=some ps[j]:=ff aM;have hm:=Ai aM;generalize ps[j]=x at hx hm;obtain⟨bb,off,c,oG,_,_,⟨W,rfl,sW⟩,_,cS⟩:=SliceR.later ok hP hx;have r0:=cS h2 jd 0 2 (by decide);simp[-ae] at r0;have wj:=wrap_i64 (j+1) (by omega) (by omega);have qZ:=g2.get g1.ok MX;have oC2:=g2.ok.bE qZ;simp only[aP] at qZ;simp at Hb;rw[oG,iF] at Hb;simp[q1,q6,Hb,Le,Wr,aM,r0,-ae,au,bj,aN,oC2,aq qZ];refine aF.cut (fun h3=>aa aG h2 h3) ?_ ?_
  .exact(aa.refl g2.ok).var _ _
  rintro h3 g3;have dw:=jd.trans g3;have IU:=g2.trans g3;refine aF.call (V:=u7 (fun c=>c=0->i≠0/\It ag l.length x) h3) ?_ ?_
  .have E:aE FF mz [.agg ⟨aP gs fs name params ag B AH⟩,.int .i64 i,.agg ⟨[.int .i64 x.dst,W.v]⟩] h3 (u7 (fun c=>c=0->i≠0/\It ag l.length x) h3):=
    Zm dw.ok hr (hA.mono g1.ok IU fun _ _ r=>r.mono g1.ok IU) hi (by have:=sm x hm;omega) (sW.mono ok dw fun _ _ h=>h)
   simpa [aP] using E
  rintro _ h4⟨g4,c,rfl,hc⟩;have g14:=IU.trans g4;by_cases he:c=0
  .subst he;simp[Wr,wj];refine⟨ps.length-(j+1),by omega,j+1,rfl,by omega,?_,by simp,g14,?_⟩
   .repeat (refine ax.set ?_)
    exact K
   .intro p hp;rw[yS,hx] at hp;rcases rM.1 hp with h|h
    .exact hE p h
    .simp at h;rw[h];exact hc rfl
  .have:=tv he;simp[this];exact bad c _ _ he (by simp) g14
 .have:j=ps.length:=by omega
  subst this;rw[xK] at hE;simp[Le,Wr];exact Ag _ _ (K.set) g2 hE
def aoT(h h1:ab)(e0:Env)(ag:Int)(xs:List GI)(m:Nat)(e:Env)(h2:ab):Prop:=
 ∃j:Nat,m=xs.length-j/\j<=xs.length/\ax [62,63,64,12,65,66,67,13,68,69,70,71,61,2] e0 e/\ai e 61=.int .i64 j/\aa aG h1 h2/\∀x∈xs.take j,AW ag x
theorem TH(ok:bl h)(hr:0<=ag/\ag<1000000)(hF:SliceR (fR h) 4 h fs.v funcs)(mV:funcs.length<1000000/\∀f∈funcs,f.params<=6){L:SV}{xs:List GI}(hL:SliceR (iR h) 8 h L.v xs)(u6:xs.length<=140737488355328)(sm:∀x∈xs,x.args.length<=140737488355328)(g1:aa aG h h1)(MX:h1.tr.get C=some (.aC (aP gs fs name params ag B AH) false 0 sC))(f1:ai e 1=.pointer (some ⟨C,0,none⟩))(f59:ai e 59=L.v)(f60:ai e 60=.int .i64 xs.length)(f61:ai e 61=.int .i64 0)(bad:∀c e' h',c≠0->ai e' 2=.int .i64 c->aa aG h1 h'->QQ .ret e' h')(Ag:∀e' h',ax [62,63,64,12,65,66,67,13,68,69,70,71,61,2] e e'->aa aG h1 h'->(∀x∈xs,AW ag x)->QQ (.exit 6) e' h'):az FF (.loop jT) e h1 QQ:=by
 have tc:=SliceR.len hL;refine az.loop (aoT h h1 e ag xs) ?_ (n:=xs.length) ⟨0,rfl,by omega,ax.refl _ _,f61,.refl g1.ok,fun p hp=>by simp at hp⟩;rintro m e' h2⟨j,rfl,hj,K,q61,g2,hE⟩;have jd:=g1.trans g2;unfold jT;have q1:=K.at f1;have q59:=K.at f59;have q60:=K.at f60;by_cases aM:j<xs.length
 .have hx:xs[j]?=some xs[j]:=ff aM;have hm:=Ai aM;generalize xs[j]=x at hx hm;obtain⟨bb,off,c,hLa,_,_,⟨W,rfl,sW⟩,_,cS⟩:=SliceR.later ok hL hx;have r0:=cS h2 jd 0 8 (by decide);simp[aK,-ae] at r0;have wj:=wrap_i64 (j+1) (by omega) (by omega);have qZ:=g2.get g1.ok MX;have oC2:=g2.ok.bE qZ;simp only[aP] at qZ;simp at q59;rw[hLa,tc] at q59;simp[q1,q59,q60,q61,aM,r0,-ae,au,bj,aN,oC2,aq qZ];refine aF.cut (fun h3=>aa aG h2 h3) ?_ ?_
  .exact(aa.refl g2.ok).var _ _
  rintro h3 g3;have dw:=jd.trans g3;have IU:=g2.trans g3;refine aF.call (V:=u7 (fun c=>c=0->AW ag x) h3) ?_ ?_
  .have E:=Yx (gs:=gs) (fs:=fs) (name:=name) (params:=params) (ag:=ag) (blocks:=B) (ah:=AH) dw.ok hr (hF.mono ok dw fun _ _ r=>r.mono ok dw) mV (x:=x) (sW.mono ok dw fun _ _ h=>h) (by have:=sm x hm;omega);simpa [aP,aK] using E
  rintro _ h4⟨g4,c,rfl,hc⟩;have g14:=IU.trans g4;by_cases he:c=0
  .subst he;simp[q61,wj];refine⟨xs.length-(j+1),by omega,j+1,rfl,by omega,?_,by simp,g14,?_⟩
   .repeat (refine ax.set ?_)
    exact K
   .intro p hp;rw[yS,hx] at hp;rcases rM.1 hp with h|h
    .exact hE p h
    .simp at h;rw[h];exact hc rfl
  .have:=tv he;simp[this];exact bad c _ _ he (by simp) g14
 .have:j=xs.length:=by omega
  subst this;rw[xK] at hE;simp[q60,q61];exact Ag _ _ (K.set) g2 hE
end
section
variable{gs fs blocks ah:SV}{name:ByteArray}{params ag:Int}
def BlI(h h1:ab)(C:Nat)(B:SV)(ag:Int)(bs:List GB)(mE:List (List Int))(m:Nat)(e:Env)(h2:ab):Prop:=
 ∃j:Nat,m=bs.length-j/\j<=bs.length/\ai e 1=.pointer (some ⟨C,0,none⟩)/\ai e 36=B.v/\ai e 37=.int .i64 bs.length/\ai e 38=.int .i64 j/\aa aG h1 h2/\OY ag mE (bs.take j)
theorem Mj(ok:bl h)(hr:0<=ag/\ag<1000000)(u6:mE.length=bs.length)(hA:SliceR (lsR h1) 1 h1 AH.v mE)(hF:SliceR (fR h) 4 h fs.v funcs)(mV:funcs.length<1000000/\∀f∈funcs,f.params<=6)(hB:yM h B bs)(hl:bs.length<=1000)(sm:∀b∈bs,vF b)(g1:aa aG h h1)(MX:h1.tr.get C=some (.aC (aP gs fs name params ag B AH) false 0 sC))(f1:ai e 1=.pointer (some ⟨C,0,none⟩))(f36:ai e 36=B.v)(f37:ai e 37=.int .i64 bs.length)(f38:ai e 38=.int .i64 0)(bad:∀c e' h',c≠0->ai e' 2=.int .i64 c->aa aG h1 h'->QQ .ret e' h')(Ag:∀e' h',aa aG h1 h'->OY ag mE bs->QQ (.exit 2) e' h'):az FF (.loop jV) e h1 QQ:=by
 have cV:=SliceR.len hB;refine az.loop (BlI h h1 C B ag bs mE) ?_ (n:=bs.length) ⟨0,rfl,by omega,f1,f36,f37,f38,.refl g1.ok,fun i b hb=>by simp at hb⟩;rintro m e h2⟨j,rfl,hj,f1,f36,f37,f38,g2,hE⟩;have jd:=g1.trans g2;unfold jV;by_cases aM:j<bs.length
 .have hx:bs[j]?=some bs[j]:=ff aM;have hm:=Ai aM;generalize bs[j]=x at hx hm;obtain⟨bb,off,c,dZ,_,_,⟨P,L,T,rfl,sP,sL,sT⟩,_,cS⟩:=SliceR.later ok hB hx;have r0:=cS h2 jd 0 6 (by decide);simp[-ae] at r0;have wj:=wrap_i64 (j+1) (by omega) (by omega);have iF:=SliceR.len sP;have tc:=SliceR.len sL;have aeF:=f36;simp at aeF;rw[dZ,cV] at aeF;obtain⟨l,fu⟩:=ay mE j;simp[aeF,f37,f38,aM,r0,-ae,au,bj,aN];refine az.cut (fun h3=>aa aG h2 h3/\∃s,h3.tr.get h2.next=some (.aC [P.v,L.v,.int .i64 x.kind,.bool x.on.1,.int .i64 x.on.2,T.v] false 0 s)) ?_ ?_
  .exact⟨(aa.refl g2.ok).var _ _,h2.clock,by simp⟩
  rintro h3⟨g3,s3,vT⟩;have dw:=jd.trans g3;have IU:=g2.trans g3;refine TJ (C:=C) dw.ok hr fu (hA.mono g1.ok IU fun _ _ r=>r.mono g1.ok IU) (sP.mono ok dw fun _ _ r=>r.mono ok dw) (sm x hm).ph (sm x hm).row (.refl dw.ok) (IU.get g1.ok MX) (by simp[f1]) (by simp) (by simp) (by simp[iF]) (by simp) ?_ ?_
  .intro c e' h' hc q g';simp[q];exact bad c _ _ hc q (IU.trans g')
  .intro e4 h4 K4 g4 hph;have g14:=IU.trans g4;have oE:=g1.trans g14;have q7:=K4.at (t:=7) (v:=.pointer (some ⟨h2.next,0,none⟩)) (by simp);have q1:=K4.at (t:=1) (v:=.pointer (some ⟨C,0,none⟩)) (by simp[f1]);have q36:=K4.at (t:=36) (v:=B.v) (by simp;exact f36);have Zt:=K4.at (t:=37) (v:=.int .i64 bs.length) (by simp[f37]);have LY:=K4.at (t:=38) (v:=.int .i64 j) (by simp[f38]);have Dw:=g4.get dw.ok vT;simp at Dw;simp[q7,Dw];refine TH (C:=C) oE.ok hr (hF.mono ok oE fun _ _ r=>r.mono ok oE) mV (sL.mono ok oE fun _ _ r=>r.mono ok oE) (sm x hm).li (sm x hm).args (.refl oE.ok) (g14.get g1.ok MX) (by simp[q1]) (by simp) (by simp[tc]) (by simp) ?_ ?_
   .intro c e' h' hc q g';simp[q];exact bad c _ _ hc q (g14.trans g')
   .intro e5 h5 K5 g5 hli;have u1:=K5.at (t:=1) (v:=.pointer (some ⟨C,0,none⟩)) (by simp[q1]);have u36:=K5.at (t:=36) (v:=B.v) (by simp;simpa using q36);have u37:=K5.at (t:=37) (v:=.int .i64 bs.length) (by simp[Zt]);have u38:=K5.at (t:=38) (v:=.int .i64 j) (by simp[LY]);simp[u38,wj];refine⟨bs.length-(j+1),by omega,j+1,rfl,by omega,by simp[u1],by simp;simpa using u36,by simp[u37],by simp,g14.trans g5,?_⟩;intro i b hb;rw[yS,hx] at hb;by_cases hi:i<j
    .rw[FX (by simp;omega)] at hb;exact hE i b hb
    .rw[HA (by simp;omega)] at hb;have vz:i=j:=by have:=(bK.mp hb).1;simp at this;omega
     subst vz;simp at hb;have:i-min i bs.length=0:=by omega
     rw[this] at hb;simp at hb;subst hb;exact⟨fun p hp=>⟨(hph p hp).1,l,fu,(hph p hp).2⟩,hli⟩
 .have:j=bs.length:=by omega
  subst this;rw[xK] at hE;simp[f37,f38];exact Ag _ _ g2 hE
structure Cp(ag:Int)(bs:List GB):Prop where
 ends:xj bs.length ag bs
 Mh:OY ag (Edge.bp (bt bs)) bs
theorem TD(ok:bl h)(hw:D9 h)(hr:0<=ag/\ag<1000000)(hF:SliceR (fR h) 4 h fs.v funcs)(mV:funcs.length<1000000/\∀f∈funcs,f.params<=6)(hB:yM h B bs)(hl:bs.length<=1000)(sm:∀b∈bs,vF b):aE FF qN [.agg ⟨aP gs fs name params ag B ah⟩] h (u7 (fun c=>c=0->Cp ag bs) h):=by
 have cV:=SliceR.len hB;refine aE.of yN ?_;unfold qH;simp[aP,cV];refine az.cut (fun h1=>aa aG h h1/\h1.tr.get h.next=some (.aC (aP gs fs name params ag B ah) false 0 0)) ?_ ?_
 .exact⟨(aa.refl ok).new _ _,by simp[aP,cV]⟩
 rintro h1⟨g1,MX⟩;refine TG ok hw hr hB hl sm g1 MX (by simp) (by simp[cV]) (by simp) (by simp) ?_ ?_
 .intro c e' h' hc q g';simp[q];exact⟨g',c,rfl,fun h=>absurd h hc⟩
 .intro e2 h2 q1 g2 qZ hE;have xL:=qZ;simp[aP] at xL;simp[q1,xL];have A:=Mu g2.ok (name:=name) (p:=params) (r:=ag) (hB.mono ok g2) (hE.ends hl);refine aF.call (V:=fun v h'=>aa aG h2 h'/\∃d ws,v=.slice (some ⟨d,0,none⟩) bs.length bs.length/\je bg h2.next h' d ws (Edge.bp (bt bs))) (by simpa [aj] using A) ?_;rintro _ h3⟨g3,d,ws,rfl,w3⟩;have dw:=g2.trans g3;have I0:=g3.get g2.ok qZ;have aba:=I0;simp[aP] at aba;simp[q1,aba];have u6:(Edge.bp (bt bs)).length=bs.length:=by rw[Edge.cR];simp[bt]
  have oC3:=(g2.ok.bE qZ).lt;refine az.cut (fun h4=>aa aG h h4/\SliceR (lsR h4) 1 h4 (SV.v ⟨some ⟨d,0,none⟩,bs.length,bs.length⟩) (Edge.bp (bt bs))/\∃s,h4.tr.get h.next=some (.aC (aP gs fs name params ag B ⟨some ⟨d,0,none⟩,bs.length,bs.length⟩) false 0 s)) ?_ ?_
  .have gp:aa (· =h.next) h3 (put h3 h.next 6 [.slice gs.a gs.l gs.c,.slice fs.a fs.l fs.c,.string name,.int .i64 params,.int .i64 ag,.slice B.a B.l B.c,.slice ah.a ah.l ah.c] [.slice (some ⟨d,0,none⟩) bs.length bs.length] 0):=aJ dw.ok aba;refine⟨dw.put ⟨_,aba⟩ (.inl (dH _)),?_,h3.clock,by simp[aP]⟩;have w4:=w3.grow dw.ok gp (fun b hb e=>by omega);have:=R_ (c:=bs.length) w4;rw[u6] at this;simpa using this
  rintro h4⟨g4,hA4,s4,Ua⟩;refine Mj (AH:=⟨some ⟨d,0,none⟩,bs.length,bs.length⟩) ok hr u6 hA4 hF mV hB hl sm g4 Ua (by simp[q1]) (by simp) (by simp[cV]) (by simp) ?_ ?_
  .intro c e' h' hc q g';simp[q];exact⟨g4.trans g',c,rfl,fun h=>absurd h hc⟩
  .intro e' h' g' hb;simp;exact⟨g4.trans g',0,rfl,fun _=>⟨hE,hb⟩⟩
end
def aiX(h:ab)(s:ByteArray)(m:Nat)(e:Env)(h2:ab):Prop:=∃j:Nat,m=s.size-j/\ai e 0=.string s/\ai e 14=.int .i64 s.size/\ai e 15=.int .i64 j/\h2=h/\j<=s.size
theorem Jq(h:ab)(s:ByteArray):aE FF DL [.string s] h (fun v h'=>h'=h/\∃b:Bool,v=.bool b):=by
 refine aE.of Ml ?_;unfold C6;by_cases h1:s.size<1
 .have Kw:(s.size:Int)<1:=by omega
  simp[Kw]
 have Kw:¬(s.size:Int)<1:=by omega
 by_cases h2:12<s.size
 .have LN:(12:Int)<s.size:=by omega
  simp[Kw,LN]
 have LN:¬(12:Int)<s.size:=by omega
 simp[Kw,LN];refine az.loop (aiX h s) ?_ (n:=s.size)
  ⟨0,rfl,by simp,by simp,by simp,rfl,by omega⟩
 rintro m e h3⟨j,rfl,f0,f14,f15,rfl,hj⟩;unfold zH;by_cases aM:j<s.size
 .have wj:=wrap_i64 (j+1) (by omega) (by omega);obtain⟨c,hc⟩:∃c:Int,((s[j]'aM).toNat:Int)=c:=⟨_,rfl⟩;by_cases k1:97<=c
  .by_cases k2:c<=122
   .have k3:¬122<c:=by omega
    have k4:¬c<97:=by omega
    simp[f0,f14,f15,aM,hc,k1,k2,k3,k4,wj];exact⟨s.size-(j+1),by omega,j+1,rfl,by simp[f0],by simp[f14],by simp,rfl,by omega⟩
   .have k3:122<c:=by omega
    have k4:¬c<97:=by omega
    by_cases q1:65<=c
    .by_cases q2:c<=90
     .have q3:¬90<c:=by omega
      have q4:¬c<65:=by omega
      simp[f0,f14,f15,aM,hc,k1,k2,k3,k4,q1,q2,q3,q4,wj];exact⟨s.size-(j+1),by omega,j+1,rfl,by simp[f0],by simp[f14],by simp,rfl,by omega⟩
     .have q3:90<c:=by omega
      have q4:¬c<65:=by omega
      by_cases u1:c=95
      .have u2:(c==95)=true:=by simpa using u1
       simp[f0,f14,f15,aM,hc,k1,k2,k3,k4,q1,q2,q3,q4,u2,wj];exact⟨s.size-(j+1),by omega,j+1,rfl,by simp[f0],by simp[f14],by simp,rfl,by omega⟩
      .have u2:(c==95)=false:=by simpa using u1
       by_cases d1:0<j
       .have d2:¬(j=0):=by omega
        by_cases p1:48<=c
        .by_cases p2:c<=57
         .have p3:¬57<c:=by omega
          have p4:¬c<48:=by omega
          simp[f0,f14,f15,aM,hc,k1,k2,k3,k4,q1,q2,q3,q4,u2,d1,d2,p1,p2,p3,p4,wj];exact⟨s.size-(j+1),by omega,j+1,rfl,by simp[f0],by simp[f14],by simp,rfl,by omega⟩
         .have p3:57<c:=by omega
          have p4:¬c<48:=by omega
          simp[f0,f14,f15,aM,hc,k1,k2,k3,k4,q1,q2,q3,q4,u2,d1,d2,p1,p2,p3,p4]
        .have p2:c<48:=by omega
         simp[f0,f14,f15,aM,hc,k1,k2,k3,k4,q1,q2,q3,q4,u2,d1,d2,p1,p2]
       .have d2:j=0:=by omega
        subst d2;simp[f0,f14,f15,aM,hc,k1,k2,k3,k4,q1,q2,q3,q4,u2]
    .have q2:c<65:=by omega
     by_cases u1:c=95
     .have u2:(c==95)=true:=by simpa using u1
      simp[f0,f14,f15,aM,hc,k1,k2,k3,k4,q1,q2,u2,wj];exact⟨s.size-(j+1),by omega,j+1,rfl,by simp[f0],by simp[f14],by simp,rfl,by omega⟩
     .have u2:(c==95)=false:=by simpa using u1
      by_cases d1:0<j
      .have d2:¬(j=0):=by omega
       by_cases p1:48<=c
       .by_cases p2:c<=57
        .have p3:¬57<c:=by omega
         have p4:¬c<48:=by omega
         simp[f0,f14,f15,aM,hc,k1,k2,k3,k4,q1,q2,u2,d1,d2,p1,p2,p3,p4,wj];exact⟨s.size-(j+1),by omega,j+1,rfl,by simp[f0],by simp[f14],by simp,rfl,by omega⟩
        .have p3:57<c:=by omega
         have p4:¬c<48:=by omega
         simp[f0,f14,f15,aM,hc,k1,k2,k3,k4,q1,q2,u2,d1,d2,p1,p2,p3,p4]
       .have p2:c<48:=by omega
        simp[f0,f14,f15,aM,hc,k1,k2,k3,k4,q1,q2,u2,d1,d2,p1,p2]
      .have d2:j=0:=by omega
       subst d2;simp[f0,f14,f15,aM,hc,k1,k2,k3,k4,q1,q2,u2]
  .have k2:c<97:=by omega
   by_cases q1:65<=c
   .by_cases q2:c<=90
    .have q3:¬90<c:=by omega
     have q4:¬c<65:=by omega
     simp[f0,f14,f15,aM,hc,k1,k2,q1,q2,q3,q4,wj];exact⟨s.size-(j+1),by omega,j+1,rfl,by simp[f0],by simp[f14],by simp,rfl,by omega⟩
    .have q3:90<c:=by omega
     have q4:¬c<65:=by omega
     by_cases u1:c=95
     .have u2:(c==95)=true:=by simpa using u1
      simp[f0,f14,f15,aM,hc,k1,k2,q1,q2,q3,q4,u2,wj];exact⟨s.size-(j+1),by omega,j+1,rfl,by simp[f0],by simp[f14],by simp,rfl,by omega⟩
     .have u2:(c==95)=false:=by simpa using u1
      by_cases d1:0<j
      .have d2:¬(j=0):=by omega
       by_cases p1:48<=c
       .by_cases p2:c<=57
        .have p3:¬57<c:=by omega
         have p4:¬c<48:=by omega
         simp[f0,f14,f15,aM,hc,k1,k2,q1,q2,q3,q4,u2,d1,d2,p1,p2,p3,p4,wj];exact⟨s.size-(j+1),by omega,j+1,rfl,by simp[f0],by simp[f14],by simp,rfl,by omega⟩
        .have p3:57<c:=by omega
         have p4:¬c<48:=by omega
         simp[f0,f14,f15,aM,hc,k1,k2,q1,q2,q3,q4,u2,d1,d2,p1,p2,p3,p4]
       .have p2:c<48:=by omega
        simp[f0,f14,f15,aM,hc,k1,k2,q1,q2,q3,q4,u2,d1,d2,p1,p2]
      .have d2:j=0:=by omega
       subst d2;simp[f0,f14,f15,aM,hc,k1,k2,q1,q2,q3,q4,u2]
   .have q2:c<65:=by omega
    by_cases u1:c=95
    .have u2:(c==95)=true:=by simpa using u1
     simp[f0,f14,f15,aM,hc,k1,k2,q1,q2,u2,wj];exact⟨s.size-(j+1),by omega,j+1,rfl,by simp[f0],by simp[f14],by simp,rfl,by omega⟩
    .have u2:(c==95)=false:=by simpa using u1
     by_cases d1:0<j
     .have d2:¬(j=0):=by omega
      by_cases p1:48<=c
      .by_cases p2:c<=57
       .have p3:¬57<c:=by omega
        have p4:¬c<48:=by omega
        simp[f0,f14,f15,aM,hc,k1,k2,q1,q2,u2,d1,d2,p1,p2,p3,p4,wj];exact⟨s.size-(j+1),by omega,j+1,rfl,by simp[f0],by simp[f14],by simp,rfl,by omega⟩
       .have p3:57<c:=by omega
        have p4:¬c<48:=by omega
        simp[f0,f14,f15,aM,hc,k1,k2,q1,q2,u2,d1,d2,p1,p2,p3,p4]
      .have p2:c<48:=by omega
       simp[f0,f14,f15,aM,hc,k1,k2,q1,q2,u2,d1,d2,p1,p2]
     .have d2:j=0:=by omega
      subst d2;simp[f0,f14,f15,aM,hc,k1,k2,q1,q2,u2]
 .have:j=s.size:=by omega
  subst this;simp[f14,f15]
def uJ:Enc ByteArray:=⟨fun x=>[.string x],1,fun _=>rfl,by decide,fun _=>rfl⟩
@[simp] theorem ahF:uJ.sz=1:=rfl
@[simp] theorem aez(x:ByteArray):uJ.enc x=[.string x]:=rfl
theorem Ig(s:aL uJ h v xs)(hl:xs.length<1000000)(x:ByteArray):aE FF jJ [v,.string x] h (fun v h'=>h'=h/\∃i:Int,v=.int .i64 i):=by
 obtain⟨a,cap,rfl,_⟩:=id s;refine aE.of qp ?_;unfold jE;simp;refine az.loop (fun m e h2=>∃j:Nat,m=xs.length-j/\j<=xs.length/\ai e 0=.slice a xs.length cap/\ai e 1=.string x/\ai e 7=.int .i64 xs.length/\ai e 8=.int .i64 j/\h2=h) ?_ (n:=xs.length)
  ⟨0,rfl,by omega,by simp,by simp,by simp,by simp,rfl⟩
 rintro m e h2⟨j,rfl,hj,f0,f1,f7,f8,rfl⟩;unfold iY;by_cases aM:j<xs.length
 .have hx:xs[j]?=some xs[j]:=ff aM;generalize xs[j]=y at hx;obtain⟨b,off,c,hv,_,_,cS⟩:=s.read hx;have r0:=cS 0 1 (by decide);cases hv;simp[-ae] at r0;obtain⟨j',Uq⟩:∃j',j'=j+1:=⟨_,rfl⟩;have wj:IntKind.i64.wrap ((j:Int)+1)=(j':Int):=by rw[wrap_i64 _ (by omega) (by omega)];omega
  cases hxy:(x==y) with
  |true=>simp[f0,f1,f7,f8,aM,r0,hxy,-ae]
  |false=>
   simp[f0,f1,f7,f8,aM,r0,hxy,wj,-ae];exact⟨xs.length-j',by omega,j',rfl,by omega,rfl⟩
 .have:j=xs.length:=by omega
  subst this;simp[f7,f8]
theorem vh(s:aL uJ h v xs)(hl:xs.length<1000000)(x:ByteArray):aE FF iK [v,.string x] h (fun v h'=>h'=h/\∃b:Bool,v=.bool b):=by
 refine aE.of ox ?_;unfold iI;simp;refine aF.call (by simpa using Ig s hl x) ?_;rintro _ h2⟨rfl,i,rfl⟩;by_cases h0:0<=i
 .simp[h0]
 .have h0':i<0:=by omega
  simp[h0,h0']
structure zO(f:GF):Prop where
 params:0<=f.params/\f.params<=6
 ag:f.params<=f.ag/\f.ag<=100
 blocks:1<=f.blocks.length/\f.blocks.length<=40
 many:gY f.blocks<=300
section
variable{gs fs ah:SV}
def aiP(h:ab)(gs fs B ah:SV)(f:GF)(v:Value)(m:Nat)(e:Env)(h2:ab):Prop:=
 ∃j:Nat,m=f.blocks.length-j/\j<=f.blocks.length/\ai e 1=v/\ai e 2=.pointer (some ⟨h.next,0,none⟩)/\ai e 5=.int .i64 (IntKind.i64.wrap (gY (f.blocks.take j):Int))/\ai e 10=B.v/\ai e 11=.int .i64 f.blocks.length/\ai e 12=.int .i64 j/\aa aG h h2/\h2.tr.get h.next=some (.aC (aP gs fs f.name f.params f.ag B ah) false 0 0)
theorem Um(ok:bl h){f:GF}(hB:yM h B f.blocks)(hm:Fits f.blocks)(s:aL uJ h v xs)(hl:xs.length<1000000):aE FF qO [.agg ⟨aP gs fs f.name f.params f.ag B ah⟩,v] h (u7 (fun c=>c=0->zO f) h):=by
 have cV:=SliceR.len hB;refine aE.of yO ?_;unfold qI;simp[aP,cV];refine az.cut (fun h1=>aa aG h h1/\h1.tr.get h.next=some (.aC (aP gs fs f.name f.params f.ag B ah) false 0 0)) ?_ ?_
 .exact⟨(aa.refl ok).new _ _,by simp[aP,cV]⟩
 rintro h1⟨g1,MX⟩;refine az.loop (aiP h gs fs B ah f v) ?_ (n:=f.blocks.length) ⟨0,rfl,by omega,by simp,by simp,by simp[gY,wrap_i64],by simp[cV],by simp,by simp,g1,MX⟩;rintro m e h2⟨j,rfl,hj,f1,f2,f5,f10,f11,f12,g2,qZ⟩;unfold oQ;by_cases aM:j<f.blocks.length
 .have hx:f.blocks[j]?=some f.blocks[j]:=ff aM;generalize f.blocks[j]=x at hx;obtain⟨bb,off,c,dZ,_,_,⟨P,L,T,rfl,sP,sL,sT⟩,_,cS⟩:=SliceR.later ok hB hx;have r0:=cS h2 g2 0 6 (by decide);simp[-ae] at r0;have iF:=SliceR.len sP;have tc:=SliceR.len sL;have hle:=Gr hx;have hf:=hm.2 x (bU hx);have EG:=hm.1;have wj:=wrap_i64 (j+1) (by omega) (by omega);have w1:IntKind.i64.wrap ((x.dk.length:Int)+(x.list.length:Int))=(x.dk.length:Int)+(x.list.length:Int):=wrap_i64 _ (by omega) (by omega);have w2:IntKind.i64.wrap (IntKind.i64.wrap (gY (f.blocks.take j):Int)+((x.dk.length:Int)+(x.list.length:Int)))=IntKind.i64.wrap ((gY (f.blocks.take (j+1)):Nat):Int):=by rw[wrap_add,hle];congr 1
  have aeC:=f10;simp at aeC;rw[dZ,cV] at aeC;simp[f1,f2,f5,aeC,f11,f12,aM,r0,-ae,au,iF,tc,w1,w2,wj];refine⟨f.blocks.length-(j+1),by omega,j+1,rfl,by omega,by simp[f1],by simp[f2],by simp,by simp;simpa using f10,by simp[f11],by simp,g2.var _ _,?_⟩;have oC2:=g2.ok.bE qZ;simpa [oC2] using qZ
 .have:j=f.blocks.length:=by omega
  subst this;rw[xK] at f5;have xL:=qZ;simp[aP] at xL;simp[f11,f12,f2,xL];refine aF.call (V:=fun v h'=>h'=h2/\∃b:Bool,v=.bool b) (by simpa using Jq h2 f.name) ?_;rintro _ LN⟨eh,b,rfl⟩;rw[eh];cases b with
  |false=>
   simp;exact⟨g2,12,rfl,fun h=>by cases h⟩
  |true=>
   simp[f1,f2,xL];refine aF.call (V:=fun v h'=>h'=h2/\∃b:Bool,v=.bool b) (by simpa [f1] using vh (s.aX ok g2) hl f.name) ?_;rintro _ h2''⟨eh',b,rfl⟩;rw[eh'];cases b with
   |true=>
    simp;exact⟨g2,7,rfl,fun h=>by cases h⟩
   |false=>
    simp[f2,xL];refine aF.call (by simpa using gq h2 f.params 0 6) ?_;rintro _ h3⟨rfl,eh3⟩;rw[eh3];by_cases hp:0<=f.params/\f.params<=6
    .have hd:(decide (0<=f.params)&&decide (f.params<=6))=true:=by simpa using hp
     rw[hd];simp[f2,xL];refine aF.call (by simpa using gq h2 f.ag f.params 100) ?_;rintro _ h4⟨rfl,eh4⟩;rw[eh4];by_cases hr:f.params<=f.ag/\f.ag<=100
     .have Ic:(decide (f.params<=f.ag)&&decide (f.ag<=100))=true:=by simpa using hr
      rw[Ic];simp[f2,xL];refine aF.call (by simpa [cV] using gq h2 (f.blocks.length:Int) 1 40) ?_;rintro _ h5⟨rfl,eh5⟩;rw[eh5];by_cases hb:(1:Int)<=f.blocks.length/\(f.blocks.length:Int)<=40
      .have Bx:(decide ((1:Int)<=f.blocks.length)&&decide ((f.blocks.length:Int)<=40))=true:=by simpa using hb
       rw[Bx];rw[JK hm (by omega)] at f5;by_cases hmm:(300:Int)<gY f.blocks
       .simp[f5,hmm];exact⟨g2,2,rfl,fun h=>by cases h⟩
       .simp[f5,hmm];exact⟨g2,0,rfl,fun _=>⟨hp,hr,by omega,by omega⟩⟩
      .have Bx:(decide ((1:Int)<=f.blocks.length)&&decide ((f.blocks.length:Int)<=40))=false:=by simpa using hb
       rw[Bx];simp;exact⟨g2,2,rfl,fun h=>by cases h⟩
     .have Ic:(decide (f.params<=f.ag)&&decide (f.ag<=100))=false:=by simpa using hr
      rw[Ic];simp;exact⟨g2,3,rfl,fun h=>by cases h⟩
    .have hd:(decide (0<=f.params)&&decide (f.params<=6))=false:=by simpa using hp
     rw[hd];simp;exact⟨g2,3,rfl,fun h=>by cases h⟩
end
theorem T9(ok:bl h){X sX:Nat}{g:GG}{I:SV}(hX:h.tr.get X=some (.aC [.string g.name,.int .i64 g.size,I.v] false 0 sX))(hI:I.l=g.init.length)(fu:g.init.length<=140737488355328)(s:aL uJ h v xs)(hl:xs.length<1000000){W:Int}(hW:0<=W/\W<=200)(f3:ai e 3=v)(f4:ai e 4=.int .i64 W)(f6:ai e 6=.pointer (some ⟨X,0,none⟩))(f7:ai e 7=.int .i64 0)(H:∀c e',ax [37,38,39,40,36,7,42,43,44,45,41,47,48,49,50,46,52,53,54,55,56,57,51,59,60,61,62,63,58] e e'->ai e' 7=.int .i64 c->(c=0->1<=g.size/\(g.size<=200/\(g.init.length:Int)<=g.size)/\W+g.size<=200)->QQ .normal e' h):az FF FV e h QQ:=by
 unfold FV;simp at hX;simp[f6,hX];refine aF.call (V:=fun v h'=>h'=h/\∃b:Bool,v=.bool b) (by simpa using Jq h g.name) ?_;rintro _ h2⟨eh,b,rfl⟩;rw[eh];cases b with
 |false=>
  simp;exact H 12 _ (by(repeat refine ax.set ?_);exact ax.refl _ _) (by simp) (fun h=>by cases h)
 |true=>
  simp[f3,f6,hX];refine aF.call (V:=fun v h'=>h'=h/\∃b:Bool,v=.bool b) (by simpa [f3] using vh s hl g.name) ?_;rintro _ h3⟨eh3,b,rfl⟩;rw[eh3];cases b with
  |true=>
   simp;exact H 7 _ (by(repeat refine ax.set ?_);exact ax.refl _ _) (by simp) (fun h=>by cases h)
  |false=>
   simp[f6,hX];refine aF.call (by simpa using gq h g.size 1 200) ?_;rintro _ h4⟨rfl,eh4⟩;rw[eh4];by_cases hp:1<=g.size/\g.size<=200
   .have hd:(decide (1<=g.size)&&decide (g.size<=200))=true:=by simpa using hp
    rw[hd];by_cases hi:g.size<(I.l:Int)
    .simp[f6,hX,hi];exact H 9 _ (by(repeat refine ax.set ?_);exact ax.refl _ _) (by simp) (fun h=>by cases h)
    .have ww:=wrap_i64 (W+g.size) (by omega) (by omega);by_cases hw:200<W+g.size
     .simp[f4,f6,hX,hi,ww,hw];exact H 10 _ (by(repeat refine ax.set ?_);exact ax.refl _ _) (by simp) (fun h=>by cases h)
     .simp[f4,f6,hX,hi,ww,hw];exact H 0 _ (by(repeat refine ax.set ?_);exact ax.refl _ _) (by simp[f7]) (fun _=>⟨hp.1,⟨hp.2,by omega⟩,by omega⟩)
   .have hd:(decide (1<=g.size)&&decide (g.size<=200))=false:=by simpa using hp
    rw[hd];simp;exact H 3 _ (by(repeat refine ax.set ?_);exact ax.refl _ _) (by simp) (fun h=>by cases h)
structure OZ(h h2:ab)(G F:SV)(e:Env)(v:Value)(names:List ByteArray):Prop where
 f1:ai e 1=.pointer (some ⟨h.next,0,none⟩)
 f2:ai e 2=.pointer (some ⟨h.next+1,0,none⟩)
 f3:ai e 3=v
 g:aa aG h h2
 U:h2.tr.get h.next=some (.aC [G.v,F.v] false 0 0)
 R:∃s,h2.tr.get (h.next+1)=some (.aC [.int .i64 0,.int .i64 0] false 0 s)
 names:bJ uJ (h.next+2) h2 v names
theorem OZ.grow{h h2 h3:ab}{G F:SV}{e e':Env}{v:Value}{names:List ByteArray}(c:OZ h h2 G F e v names)(g:aa aG h2 h3)(k1:ai e' 1=ai e 1)(k2:ai e' 2=ai e 2)(k3:ai e' 3=ai e 3):OZ h h3 G F e' v names:=by obtain⟨s,hR⟩:=c.R;exact⟨k1.trans c.f1,k2.trans c.f2,k3.trans c.f3,c.g.trans g,g.get c.g.ok c.U,⟨s,g.get c.g.ok hR⟩,c.names.grow c.g.ok g (fun _ _ h=>h)⟩
def aaJ(h:ab)(Q:aO->Env->ab->Prop):Prop:=∀(c a:Int)(e':Env)(h':ab),c≠0->aa aG h h'->(∃s,h'.tr.get (h.next+1)=some (.aC [.int .i64 c,.int .i64 a] false 0 s))->ai e' 2=.pointer (some ⟨h.next+1,0,none⟩)->Q .ret e' h'
theorem Iz(c:OZ h h2 G F e v names)(hl:names.length<1000000)(x:ByteArray):∃v' h5,iQ (aD h2 [.string x] 0) [.string ⟨⟨[]⟩⟩] 16 false v (.slice (some ⟨h2.next,0,none⟩) 1 1)=some (v',h5)/\aa (aw v) h2 h5/\∀e',ai e' 1=ai e 1->ai e' 2=ai e 2->ai e' 3=v'->OZ h h5 G F e' v' (names++[x]):=by
 have g4:=aH c.g.ok (uJ.enc x) 0;have hA4:=c.names.grow c.g.ok g4 (fun _ _ h=>h);have hw4:aL uJ (aD h2 (uJ.enc x) 0) (.slice (some ⟨h2.next,0,none⟩) 1 1) [x]:=⟨_,_,rfl,.inr ⟨h2.next,0,_,_,_,_,rfl,bq _ _ _,by simp,by simp⟩⟩;obtain⟨s,hR⟩:=c.R;have dQ:=c.g.ok.wf _ _ hR;obtain⟨v',h5,ha,Ds,g5,OP⟩:=j4 (bytes:=16) g4.ok (z:=[.string ⟨⟨[]⟩⟩]) rfl hA4 hw4 hl (by decide) (by show h.next+2<=h2.next+1;omega);have lo:∀b,aw v b->h.next+2<=b:=fun b hb=>c.names.of hb;have ex:aa (aw v) h2 h5:=g4.aX.trans g5;have go:aa aG h h5:=c.g.trans' ex (fun _ _ h=>h) (fun b hb e=>by have:=lo b e;omega);refine⟨v',h5,ha,ex,fun e' k1 k2 k3=>⟨k1.trans c.f1,k2.trans c.f2,k3,go,ex.get c.g.ok c.U (fun e=>by have:=lo _ e;omega),⟨s,ex.get c.g.ok hR (fun e=>by have:=lo _ e;omega)⟩,Ds⟩⟩
theorem Z3(c:OZ h h2 G F e v names)(bad:aaJ h QQ){cc:Int}(hc:cc≠0)(a:Int){h3:ab}(g3:aa aG h2 h3)(k2:ai e' 2=ai e 2):(∃s,h3.tr.get (h.next+1)=some (.aC [.int .i64 0,.int .i64 0] false 0 s))/\∀h4,h4=put h3 (h.next+1) 0 [.int .i64 0,.int .i64 0] [.int .i64 cc,.int .i64 a] 0->QQ .ret e' h4:=by
 obtain⟨s,hR⟩:=c.R;have Ky:=g3.get c.g.ok hR;refine⟨⟨s,Ky⟩,fun h4 e4=>?_⟩;subst e4;refine bad cc a e' _ hc ((c.g.trans g3).put ⟨s,Ky⟩ (.inl (by omega))) ⟨h3.clock,by simp⟩ (k2.trans c.f2)
def GlI(h:ab)(G F:SV)(gl:List GG)(m:Nat)(e:Env)(h2:ab):Prop:=
 ∃(j:Nat) (v:Value) (W:Int),m=gl.length-j/\j<=gl.length/\OZ h h2 G F e v ((gl.take j).map (·.name))/\ai e 4=.int .i64 W/\0<=W/\W<=200/\ai e 29=G.v/\ai e 30=.int .i64 gl.length/\ai e 31=.int .i64 j/\∀g∈gl.take j,1<=g.size/\g.size<=200/\(g.init.length:Int)<=g.size
theorem HW(ok:bl h){gl:List GG}(hG:SliceR (gR h) 3 h G.v gl)(hl:gl.length<=10)(sm:∀g∈gl,g.init.length<=140737488355328)(c:OZ h h1 G F e (.slice none 0 0) [])(f4:ai e 4=.int .i64 0)(f29:ai e 29=G.v)(f30:ai e 30=.int .i64 gl.length)(f31:ai e 31=.int .i64 0)(bad:aaJ h QQ)(Ag:∀e' h' v,OZ h h' G F e' v (gl.map (·.name))->(∀g∈gl,1<=g.size/\g.size<=200/\(g.init.length:Int)<=g.size)->QQ (.exit 0) e' h'):az FF (.loop tB) e h1 QQ:=by
 have hGl:=SliceR.len hG;refine az.loop (GlI h G F gl) ?_ (n:=gl.length) ⟨0,_,0,rfl,by omega,by simpa using c,f4,by omega,by omega,f29,f30,f31,fun g hg=>by simp at hg⟩;rintro m e h2⟨j,v,W,rfl,hj,c,f4,hW0,hW1,f29,f30,f31,hs⟩;unfold tB;by_cases aM:j<gl.length
 .have hx:gl[j]?=some gl[j]:=ff aM;have hm:=Ai aM;generalize gl[j]=x at hx hm;obtain⟨bb,off,cc,hGa,_,_,⟨I,rfl,sI⟩,_,cS⟩:=SliceR.later ok hG hx;have r0:=cS h2 c.g 0 3 (by decide);simp[-ae] at r0;have wj:=wrap_i64 (j+1) (by omega) (by omega);have aa2:=f29;simp at aa2;rw[hGa,hGl] at aa2;have Wh:((gl.take j).map (·.name)).length<1000000:=by simp;omega
  simp[aa2,f30,f31,aM,r0,-ae];refine az.cut (fun h3=>aa aG h2 h3/\∃s,h3.tr.get h2.next=some (.aC [.string x.name,.int .i64 x.size,I.v] false 0 s)) ?_ ?_
  .exact⟨(aa.refl c.g.ok).var _ _,h2.clock,by simp⟩
  rintro h3⟨g3,s3,iO⟩;have dw:=c.g.trans g3;have OK:=c.names.grow c.g.ok g3 (fun _ _ h=>h);refine T9 dw.ok iO (SliceR.len sI) (sm x hm) OK.sl Wh ⟨hW0,hW1⟩ (by simp[c.f3]) (by simp[f4]) (by simp) (by simp) ?_;intro cd e4 K q7 hcd;have k1:=K.at (t:=1) (v:=ai e 1) (by simp);have k2:=K.at (t:=2) (v:=ai e 2) (by simp);have k3:=K.at (t:=3) (v:=ai e 3) (by simp);have k4:=K.at (t:=4) (v:=ai e 4) (by simp);have k5:=K.at (t:=5) (v:=.int .i64 j) (by simp);have k6:=K.at (t:=6) (v:=.pointer (some ⟨h2.next,0,none⟩)) (by simp);have k29:=K.at (t:=29) (v:=ai e 29) (by simp[aa2,f29]);have k30:=K.at (t:=30) (v:=ai e 30) (by simp);have k31:=K.at (t:=31) (v:=ai e 31) (by simp);have c3:=c.grow (e':=e4) g3 k1 k2 k3;unfold Xw;by_cases he:cd=0
  .subst he;obtain⟨w1,w2,w3⟩:=hcd rfl;simp at iO;have ww:=wrap_i64 (W+x.size) (by omega) (by omega);simp[q7,k3,c.f3,k6,iO];obtain⟨v',h5,ha,ex,mk⟩:=Iz c3 Wh x.name;refine gH ha ?_;have lt3:=(g3.ok.bE iO).lt;have Ao:h5.tr.get h2.next=some (.aC [.string x.name,.int .i64 x.size,.slice I.a I.l I.c] false 0 s3):=by
    refine ex.get c3.g.ok iO (fun e=>?_);obtain⟨o,n,cp,e⟩:=e;rcases c.names with⟨_,e2⟩|⟨b2,s2,e2,cC,_⟩
    .rw[e2] at e;cases e
    .rw[e2] at e;cases e;have:=c.g.ok.wf _ _ cC;omega
   simp[k4,f4,k6,Ao,ww,k31,f31,wj];refine⟨gl.length-(j+1),by omega,j+1,v',W+x.size,rfl,by omega,?_,by simp,by omega,by omega,by simp[k29,f29],by simp[k30,f30],by simp,?_⟩
   .have e1:(gl.take (j+1)).map (·.name)=(gl.take j).map (·.name)++[x.name]:=by rw[yS,hx];simp
    rw[e1];exact mk _ (by simp) (by simp) (by simp)
   .intro g hg;rw[yS,hx] at hg;rcases rM.1 hg with h|h
    .exact hs g h
    .simp at h;rw[h];exact⟨w1,w2⟩
  .have ct:=tv he;simp[q7,ct,k5];refine aF.call (by simpa using ko h3 dw.ok cd (j:Int)) ?_;rintro _ h4⟨rfl,g4⟩;obtain⟨⟨s4,Ue⟩,tb⟩:=Z3 (QQ:=QQ) c3 bad he (j:Int) g4 (e':=Tr.set (Tr.set (Tr.set (Tr.set (Tr.set e4 64 (.int .i64 cd)) 65 (.bool true)) 66 (.int .i64 cd)) 67 (.int .i64 j)) 68 (.agg #[.int .i64 cd,.int .i64 j])) (by simp);simp[k2,c.f2,Ue];exact tb _ rfl
 .have:j=gl.length:=by omega
  subst this;rw[xK] at c hs;simp[f30,f31];exact Ag _ _ v (c.grow (.refl c.g.ok) (by simp) (by simp) (by simp)) hs
def HdI(h:ab)(G F:SV)(fl:List GF)(ns:List ByteArray)(m:Nat)(e:Env)(h2:ab):Prop:=
 ∃(j:Nat) (v:Value),m=fl.length-j/\j<=fl.length/\OZ h h2 G F e v (ns++(fl.take j).map (·.name))/\ai e 80=F.v/\ai e 81=.int .i64 fl.length/\ai e 82=.int .i64 j/\∀f∈fl.take j,zO f
theorem MD(ok:bl h)(hF:SliceR (fR h) 4 h F.v fl)(hl:fl.length<=10)(sm:∀f∈fl,Fits f.blocks)(hns:ns.length<=10){v0:Value}(c:OZ h h1 G F e v0 ns)(f80:ai e 80=F.v)(f81:ai e 81=.int .i64 fl.length)(f82:ai e 82=.int .i64 0)(bad:aaJ h QQ)(Ag:∀e' h' v,OZ h h' G F e' v (ns++fl.map (·.name))->(∀f∈fl,zO f)->QQ (.exit 3) e' h'):az FF (.loop tA) e h1 QQ:=by
 have qi:=SliceR.len hF;refine az.loop (HdI h G F fl ns) ?_ (n:=fl.length) ⟨0,_,rfl,by omega,by simpa using c,f80,f81,f82,fun g hg=>by simp at hg⟩;rintro m e h2⟨j,v,rfl,hj,c,f80,f81,f82,hs⟩;unfold tA;by_cases aM:j<fl.length
 .have hx:fl[j]?=some fl[j]:=ff aM;have hm:=Ai aM;generalize fl[j]=x at hx hm;obtain⟨bb,off,cc,zu,_,_,⟨B,rfl,sB⟩,_,cS⟩:=SliceR.later ok hF hx;have r0:=cS h2 c.g 0 4 (by decide);simp[-ae] at r0;have wj:=wrap_i64 (j+1) (by omega) (by omega);have aeG:=f80;simp at aeG;rw[zu,qi] at aeG;have Wh:(ns++(fl.take j).map (·.name)).length<1000000:=by simp;omega
  have hU:=c.U;simp at hU;have oU:=c.g.ok.bE hU;simp[aeG,f81,f82,c.f1,aM,r0,-ae,au,bj,aN,oU,aq hU];refine aF.cut (fun h3=>aa aG h2 h3/\∃s,h3.tr.get h2.next=some (.aC [.string x.name,.int .i64 x.params,.int .i64 x.ag,B.v] false 0 s)) ?_ ?_
  .exact⟨((aa.refl c.g.ok).var _ _).trans (((aa.refl ((aa.refl (S:=aG) c.g.ok).var _ _).ok)).var _ _),h2.clock,by simp⟩
  rintro h3⟨g3,s3,iO⟩;have dw:=c.g.trans g3;have OK:=c.names.grow c.g.ok g3 (fun _ _ h=>h);refine aF.call (V:=u7 (fun c=>c=0->zO x) h3) ?_ ?_
  .have E:=Um (gs:=G) (fs:=F) (ah:=cJ) dw.ok (f:=x) (sB.mono ok dw fun _ _ r=>r.mono ok dw) (sm x hm) OK.sl Wh;simpa [aP,cJ,c.f3,zu,qi] using E
  rintro _ h4⟨g4,cd,rfl,hcd⟩;have g24:=g3.trans g4;have vS:=g4.get dw.ok iO;simp at vS;have lt2:=(g3.ok.bE iO).lt;by_cases he:cd=0
  .subst he;have c4:=c.grow (e':=e) g24 rfl rfl rfl;obtain⟨v',h5,ha,ex,mk⟩:=Iz c4 Wh x.name;simp[c.f3,vS];refine gH ha ?_;simp[f82,wj];refine⟨fl.length-(j+1),by omega,j+1,v',rfl,by omega,?_,by simp;exact f80,by simp[f81],by simp,?_⟩
   .have e1:ns++(fl.take (j+1)).map (·.name)=ns++(fl.take j).map (·.name)++[x.name]:=by rw[yS,hx];simp
    rw[e1];exact mk _ (by simp) (by simp) (by simp)
   .intro g hg;rw[yS,hx] at hg;rcases rM.1 hg with h|h
    .exact hs g h
    .simp at h;rw[h];exact hcd rfl
  .have ct:=tv he;simp[ct];refine aF.call (by simpa using ko h4 (dw.trans g4).ok cd (j:Int)) ?_;rintro _ h5⟨rfl,g5⟩;obtain⟨s,hR⟩:=c.R;have HB:=(g24.trans g5).get c.g.ok hR;simp[c.f2,HB];exact bad cd j _ _ he (((c.g.trans g24).trans g5).put ⟨s,HB⟩ (.inl (by omega))) ⟨h5.clock,by simp⟩ (by simp[c.f2])
 .have:j=fl.length:=by omega
  subst this;rw[xK] at c hs;simp[f81,f82];exact Ag _ _ v (c.grow (.refl c.g.ok) (by simp) (by simp) (by simp)) hs
def BdI(h:ab)(G F:SV)(fl:List GF)(v:Value)(ns:List ByteArray)(m:Nat)(e:Env)(h2:ab):Prop:=
 ∃j:Nat,m=fl.length-j/\j<=fl.length/\OZ h h2 G F e v ns/\ai e 105=F.v/\ai e 106=.int .i64 fl.length/\ai e 107=.int .i64 j/\∀f∈fl.take j,Cp f.ag f.blocks
theorem Ka(ok:bl h)(hw:D9 h)(hF:SliceR (fR h) 4 h F.v fl)(hl:fl.length<=10)(sm:∀f∈fl,∀b∈f.blocks,vF b)(hd:∀f∈fl,zO f)(c:OZ h h1 G F e v ns)(f105:ai e 105=F.v)(f106:ai e 106=.int .i64 fl.length)(f107:ai e 107=.int .i64 0)(bad:aaJ h QQ)(Ag:∀e' h',OZ h h' G F e' v ns->(∀f∈fl,Cp f.ag f.blocks)->QQ (.exit 5) e' h'):az FF (.loop tz) e h1 QQ:=by
 have qi:=SliceR.len hF;refine az.loop (BdI h G F fl v ns) ?_ (n:=fl.length) ⟨0,rfl,by omega,c,f105,f106,f107,fun g hg=>by simp at hg⟩;rintro m e h2⟨j,rfl,hj,c,f105,f106,f107,hs⟩;unfold tz;by_cases aM:j<fl.length
 .have hx:fl[j]?=some fl[j]:=ff aM;have hm:=Ai aM;generalize fl[j]=x at hx hm;obtain⟨bb,off,cc,zu,_,_,⟨B,rfl,sB⟩,_,cS⟩:=SliceR.later ok hF hx;have r0:=cS h2 c.g 0 4 (by decide);simp[-ae] at r0;have wj:=wrap_i64 (j+1) (by omega) (by omega);have Xn:=f105;simp at Xn;rw[zu,qi] at Xn;have hU:=c.U;simp at hU;have oU:=c.g.ok.bE hU;obtain⟨hp,hr,hb,_⟩:=hd x hm;simp[Xn,f106,f107,c.f1,aM,r0,-ae,au,bj,aN,oU,aq hU];refine aF.cut (fun h3=>aa aG h2 h3) ?_ ?_
  .exact((aa.refl c.g.ok).var _ _).trans (((aa.refl ((aa.refl (S:=aG) c.g.ok).var _ _).ok)).var _ _)
  rintro h3 g3;have dw:=c.g.trans g3;refine aF.call (V:=u7 (fun c=>c=0->Cp x.ag x.blocks) h3) ?_ ?_
  .have E:=TD (gs:=G) (fs:=F) (name:=x.name) (params:=x.params) (ag:=x.ag) (ah:=cJ) dw.ok (hw.grow ok dw) (by omega) (hF.mono ok dw fun _ _ r=>r.mono ok dw) ⟨by omega,fun f hf=>(hd f hf).params.2⟩ (sB.mono ok dw fun _ _ r=>r.mono ok dw) (by omega) (sm x hm);simpa [aP,cJ,zu,qi] using E
  rintro _ h4⟨g4,cd,rfl,hcd⟩;have g24:=g3.trans g4;by_cases he:cd=0
  .subst he;simp[f107,wj];refine⟨fl.length-(j+1),by omega,j+1,rfl,by omega,c.grow g24 (by simp) (by simp) (by simp),by simp;exact f105,by simp[f106],by simp,?_⟩;intro g hg;rw[yS,hx] at hg;rcases rM.1 hg with h|h
   .exact hs g h
   .simp at h;rw[h];exact hcd rfl
  .have ct:=tv he;simp[ct];refine aF.call (by simpa using ko h4 (dw.trans g4).ok cd (j:Int)) ?_;rintro _ h5⟨rfl,g5⟩;obtain⟨s,hR⟩:=c.R;have HB:=(g24.trans g5).get c.g.ok hR;simp[c.f2,HB];exact bad cd j _ _ he (((c.g.trans g24).trans g5).put ⟨s,HB⟩ (.inl (by omega))) ⟨h5.clock,by simp⟩ (by simp[c.f2])
 .have:j=fl.length:=by omega
  subst this;rw[xK] at hs;simp[f106,f107];exact Ag _ _ (c.grow (.refl c.g.ok) (by simp) (by simp) (by simp)) hs
def Oc:ByteArray:=⟨⟨[109,97,105,110]⟩⟩
theorem Nq(h:ab)(ok:bl h)(name:ByteArray)(a b:Int)(s:SV):aE FF kv [.agg ⟨[.string name,.int .i64 a,.int .i64 b,s.v]⟩] h (fun v h'=>v=.bool (name==Oc)/\aa aG h h'):=by refine aE.of Fw ?_;unfold xn;simp[Oc];exact(aa.refl ok).new _ _
theorem Gk(ok:bl h)(hF:SliceR (fR h) 4 h F.v fl)(hl:fl.length<1000000):aE FF fL [F.v,.func (.func kv) #[] #[]] h (fun v h'=>aa aG h h'/\∃i:Int,v=.int .i64 i/\(i= -1\/∃j:Nat,i=j/\j<fl.length)):=by
 have qi:=SliceR.len hF;refine aE.of lk ?_;unfold fH;simp;refine az.loop (fun m e h2=>∃j:Nat,m=fl.length-j/\j<=fl.length/\ai e 0=F.v/\ai e 1=.func (.func kv) #[] #[]/\ai e 7=.int .i64 fl.length/\ai e 8=.int .i64 j/\aa aG h h2) ?_ (n:=fl.length)
  ⟨0,rfl,by omega,by simp,by simp,by simp[qi],by simp,.refl ok⟩
 rintro m e h2⟨j,rfl,hj,f0,f1,f7,f8,g2⟩;unfold fk;by_cases aM:j<fl.length
 .have hx:fl[j]?=some fl[j]:=ff aM;generalize fl[j]=x at hx;obtain⟨bb,off,cc,zu,_,_,⟨B,rfl,sB⟩,_,cS⟩:=SliceR.later ok hF hx;have r0:=cS h2 g2 0 4 (by decide);simp[-ae] at r0;have wj:=wrap_i64 (j+1) (by omega) (by omega);have f0':=f0;simp at f0';rw[zu,qi] at f0';simp[f0',f1,f7,f8,aM,r0,-ae];refine aF.cu (V:=fun v h'=>v=.bool (x.name==Oc)/\aa aG h2 h') ?_ ?_
  .have I:cP FF (.func (.func kv) #[] #[]) [.agg ⟨[.string x.name,.int .i64 x.params,.int .i64 x.ag,B.v]⟩] h2 (fun v h'=>v=.bool (x.name==Oc)/\aa aG h2 h'):=cP.func (by simpa using Nq h2 g2.ok x.name x.params x.ag B);simpa [f1] using I
  rintro _ h3⟨rfl,g3⟩;cases hmn:(x.name==Oc) with
  |true=>
   simp;exact⟨g2.trans g3,j,rfl,aM⟩
  |false=>
   simp[f8,wj];exact⟨fl.length-(j+1),by omega,j+1,rfl,by omega,by simpa [zu,qi] using f0,by simp[f1],by simp[f7],by simp,g2.trans g3⟩
 .have:j=fl.length:=by omega
  subst this;simp[f7,f8];exact g2
structure Fh(u:GU):Prop where
 gn:u.globals.length<=10
 fn:u.funcs.length<=10
 gs:∀g∈u.globals,1<=g.size/\g.size<=200/\(g.init.length:Int)<=g.size
 head:∀f∈u.funcs,zO f
 body:∀f∈u.funcs,Cp f.ag f.blocks
 one:0<u.funcs.length
structure Cr(u:GU):Prop where
 init:∀g∈u.globals,g.init.length<=140737488355328
 fs:∀f∈u.funcs,Fits f.blocks
 bs:∀f∈u.funcs,∀b∈f.blocks,vF b
def EZ(P:Prop)(h:ab)(v:Value)(h':ab):Prop:=aa aG h h'/\∃c a:Int,v=.agg ⟨[.int .i64 c,.int .i64 a]⟩/\(c≠0\/(c=0/\a=0/\P))
theorem PH(ok:bl h)(hw:D9 h){u:GU}(hu:uR h G F u)(sm:Cr u):aE FF BI [.agg ⟨[G.v,F.v]⟩] h (EZ (Fh u) h):=by
 have hGl:=SliceR.len hu.1;have qi:=SliceR.len hu.2;refine aE.of JW ?_;unfold A0;simp;have fin:∀(c a:Int)(e':Env)(h':ab),c≠0->aa aG h h'->(∃s,h'.tr.get (h.next+1)=some (.aC [.int .i64 c,.int .i64 a] false 0 s))->ai e' 2=.pointer (some ⟨h.next+1,0,none⟩)->ze [.cell 2 (some 2)] (EZ (Fh u) h) .ret e' h':=by intro c a e' h' hc g ⟨s,hR⟩ q2;simp[q2,hR];exact⟨g,c,a,rfl,.inl hc⟩
 refine aF.cut (fun h1=>aa aG h h1/\h1.tr.get h.next=some (.aC [G.v,F.v] false 0 0)/\h1.tr.get (h.next+1)=some (.aC [.int .i64 0,.int .i64 0] false 0 0)) ?_ ?_
 .exact⟨((aa.refl ok).new _ _).new _ _,by simp,by simp⟩
 rintro h1⟨g1,hU1,yV⟩;have afa:=hU1;simp at afa;have early:∀e l R,ai e 2=.pointer (some ⟨h.next+1,0,none⟩)->(∀e' h',ai e' 2=.pointer (some ⟨h.next+1,0,none⟩)->aa aG h h'->(∃s,h'.tr.get (h.next+1)=some (.aC [.int .i64 0,.int .i64 0] false 0 s))->ai e' 27=.agg #[.int .i64 2,.int .i64 0]->aF FF l e' h' R)->aF FF (⟨(some 27),none,(.call (.func 36) [(.const (.int .i64 2)),(.const (.int .i64 0))])⟩::l) e h1 R:=by intro e l R q2 K;refine aF.call (by simpa using ko h1 g1.ok 2 0) ?_;rintro _ h2⟨rfl,g2⟩;exact K _ _ (by simp[q2]) (g1.trans g2) ⟨_,g2.get g1.ok yV⟩ (by simp)
 by_cases hg:(10:Int)<G.l
 .simp[hg];refine early _ _ _ (by simp) ?_;intro e' h' q2 g' ⟨s,hR⟩ Wq;simp[q2,Wq,hR];exact⟨g'.put ⟨s,hR⟩ (.inl (by omega)),2,0,rfl,.inl (by decide)⟩
 by_cases hf:(10:Int)<F.l
 .simp[hg,hf,afa];refine early _ _ _ (by simp) ?_;intro e' h' q2 g' ⟨s,hR⟩ Wq;simp[q2,Wq,hR];exact⟨g'.put ⟨s,hR⟩ (.inl (by omega)),2,0,rfl,.inl (by decide)⟩
 simp[hg,hf,afa];have ajH:u.globals.length<=10:=by omega
 have aeH:u.funcs.length<=10:=by omega
 refine HW (F:=F) ok hu.1 ajH sm.init ⟨by simp,by simp,by simp,g1,hU1,⟨0,yV⟩,.inl ⟨rfl,rfl⟩⟩ (by simp) (by simp) (by simp[hGl]) (by simp) ?_ ?_
 .intro c a e' h' hc g hR q2;simpa using fin c a e' h' hc g hR q2
 intro e2 h2 v2 c2 hgs;have yo:=c2.U;simp at yo;simp[c2.f1,yo];refine MD ok hu.2 aeH sm.fs (by simp;omega) (c2.grow (.refl c2.g.ok) (by simp) (by simp) (by simp)) (by simp) (by simp[qi]) (by simp) ?_ ?_
 .intro c a e' h' hc g hR q2;simpa using fin c a e' h' hc g hR q2
 intro e3 h3 v3 c3 hhd;have FY:=c3.U;simp at FY;simp[c3.f1,FY];refine Ka ok hw hu.2 aeH sm.bs hhd (c3.grow (.refl c3.g.ok) (by simp) (by simp) (by simp)) (by simp) (by simp[qi]) (by simp) ?_ ?_
 .intro c a e' h' hc g hR q2;simpa using fin c a e' h' hc g hR q2
 intro e4 h4 c4 hbd;have V0:=c4.U;simp at V0;simp[c4.f1,V0];refine aF.call (V:=fun v h'=>aa aG h4 h'/\∃i:Int,v=.int .i64 i/\(i= -1\/∃j:Nat,i=j/\j<u.funcs.length)) (by simpa using Gk c4.g.ok (hu.2.mono ok c4.g fun _ _ r=>r.mono ok c4.g) (by omega)) ?_;rintro _ h5⟨g5,i,rfl,hi⟩;have c5:=c4.grow (e':=e4) g5 rfl rfl rfl;have hU5:=c5.U;simp at hU5;obtain⟨s5,HB⟩:=c5.R;rcases hi with rfl|⟨j,rfl,hj⟩
 .simp;refine aF.call (by simpa using ko h5 c5.g.ok 6 0) ?_;rintro _ h6⟨rfl,g6⟩;have OM:=g6.get c5.g.ok HB;simp[c5.f2,OM];exact⟨(c5.g.trans g6).put ⟨_,OM⟩ (.inl (by omega)),6,0,rfl,.inl (by decide)⟩
 .have hx:u.funcs[j]?=some u.funcs[j]:=ff hj;generalize u.funcs[j]=x at hx;obtain⟨bb,off,cc,zu,_,_,⟨B,rfl,sB⟩,_,cS⟩:=SliceR.later ok hu.2 hx;have r0:=cS h5 c5.g 1 1 (by decide);simp[-ae] at r0;have I7:¬(j:Int)<0:=by omega
  by_cases hp:0<x.params
  .simp[c5.f1,aq hU5,zu,qi,hj,r0,hp,I7,-ae];refine aF.call (by simpa using ko h5 c5.g.ok 5 (j:Int)) ?_;rintro _ h6⟨rfl,g6⟩;have OM:=g6.get c5.g.ok HB;simp[c5.f2,OM];exact⟨(c5.g.trans g6).put ⟨_,OM⟩ (.inl (by omega)),5,j,rfl,.inl (by decide)⟩
  .simp[c5.f1,c5.f2,aq hU5,zu,qi,hj,r0,hp,I7,-ae,HB,au];exact⟨c5.g.put ⟨_,HB⟩ (.inl (by omega)),0,0,rfl,.inr ⟨rfl,rfl,ajH,aeH,hgs,hhd,hbd,by omega⟩⟩
theorem jc(n:Int)(h:0<=n)(h':n<18446744073709551616):IntKind.u64.wrap n=n:=by simp only[IntKind.wrap,IntKind.signed,IntKind.bits];simp;omega
theorem QF(n:Nat)(h:n<4294967296):(BitVec.ofInt 64 (n:Int) &&& BitVec.ofInt 64 4294967295).toNat=n:=by
 have e1:(BitVec.ofInt 64 (n:Int)).toNat=n:=by rw[BitVec.toNat_ofInt];omega
 have e2:(BitVec.ofInt 64 4294967295).toNat=2^32-1:=by decide
 rw[BitVec.toNat_and,e1,e2,Nat.and_two_pow_sub_one_eq_mod];omega
theorem QH(h:ab)(n:Nat)(hn:n<1000000):aE FF uw [.int .u64 1,.int .u64 (n:Nat)] h (fun v h'=>v=.tuple #[.int .u64 0,.int .u64 (n:Nat)]/\h'=h):=by
 refine aE.of Bl ?_;unfold ud;have w0:IntKind.u64.wrap 0=0:=jc _ (by omega) (by omega);have w1:IntKind.u64.wrap 1=1:=jc _ (by omega) (by omega);have wn:IntKind.u64.wrap (n:Int)=n:=jc _ (by omega) (by omega);have a1:gD .and .u64 1 4294967295=some (.int .u64 1):=by have:=QF 1 (by omega);show some (Value.int .u64 (IntKind.u64.wrap ((BitVec.ofInt 64 ((1:Nat):Int) &&& BitVec.ofInt 64 4294967295).toNat:Int)))=_;rw[this];simp[w1]
 have a2:gD .and .u64 (n:Int) 4294967295=some (.int .u64 n):=by have:=QF n (by omega);show some (Value.int .u64 (IntKind.u64.wrap ((BitVec.ofInt 64 (n:Int) &&& BitVec.ofInt 64 4294967295).toNat:Int)))=_;rw[this,wn]
 have a3:gD .and .u64 0 4294967295=some (.int .u64 0):=by have:=QF 0 (by omega);show some (Value.int .u64 (IntKind.u64.wrap ((BitVec.ofInt 64 ((0:Nat):Int) &&& BitVec.ofInt 64 4294967295).toNat:Int)))=_;rw[this];simp[w0]
 have s0:kJ .shr .u64 0 32=some (.int .u64 0):=by rfl
 have s1:kJ .shr .u64 1 32=some (.int .u64 0):=by rfl
 have sn:kJ .shr .u64 (n:Int) 32=some (.int .u64 0):=by
  have dn:(n:Int).fdiv (2^32)=0:=by rw[Int.fdiv_eq_ediv_of_nonneg _ (by decide)];exact Int.ediv_eq_zero_of_lt (by omega) (by omega)
  show(if(32:Int)<0 then none else some (Value.int .u64 ((n:Int).fdiv (2^(min (32:Int).toNat 64)))))=_;rw[bc (by decide),show min (32:Int).toNat 64=32 by decide,dn]
 have p0:gD .mul .u64 0 (n:Int)=some (.int .u64 0):=by simp[w0]
 have p1:gD .mul .u64 1 (n:Int)=some (.int .u64 n):=by simp[wn]
 have p2:gD .mul .u64 1 0=some (.int .u64 0):=by simp[w0]
 have p3:gD .mul .u64 0 0=some (.int .u64 0):=by simp[w0]
 have q0:gD .add .u64 0 0=some (.int .u64 0):=by simp[w0]
 simp[-gD,a1,a2,a3,s0,s1,sn,p0,p1,p2,p3,q0]
theorem ND(h:ab)(n:Nat)(hn:n<1000000):aE FF ml [.int .u64 1,.int .u64 (n:Nat)] h (fun v h'=>v=.tuple #[.int .u64 0,.int .u64 (n:Nat)]/\h'=h):=by refine aE.of Eh ?_;unfold wJ;simp;rw[yH (t:=false) rfl];simp;refine aF.call (V:=fun v h'=>v=.tuple #[.int .u64 0,.int .u64 (n:Nat)]/\h'=h) (by simpa using QH h n hn) ?_;rintro _ h'⟨rfl,rfl⟩;simp
theorem yF(E:Enc α)(z0:α)(hz:z=E.enc z0)(n:Nat):iP z n=E.flat (List.replicate n z0):=by
 induction n with
 |zero=>rfl
 |succ n ih=>rw[iP,ih,hz,List.replicate_succ,E.eo]
def filled{α:Type}(x z:α)(k n:Nat):List α:=List.replicate k x++List.replicate (n-k) z
theorem IQ(E:Enc α)(x z:α){k m n:Nat}(hk:k+m<=n):aR (E.flat (filled x z k n)) (k*E.sz) (E.flat (List.replicate m x))=E.flat (filled x z (k+m) n):=by
 have h1:(E.flat (filled x z k n)).take (k*E.sz)=E.flat (List.replicate k x):=by rw[E.fE];congr 1;simp[filled]
 have h2:(E.flat (filled x z k n)).drop (k*E.sz+m*E.sz)=E.flat (List.replicate (n-(k+m)) z):=by rw[<-tW,E.jP];congr 1;simp[filled,List.drop_append];omega
 unfold aR;rw[E.bh,List.length_replicate,h1,h2,<-E.dG,<-E.dG,List.replicate_append_replicate];rfl
def Hc(o:Nat):ak:=(J_ (G_ [m_ 34 8,m_ 35 7,z_ 36 35,B_ 37 .lss 34 36] (H_ 37 0)) (P_ 1 (V_ [D_ (m_ 38 8),D_ (m_ 39 7),D_ (m_ 40 8),(o_ 41 (.slice o (t_ 39) (some (t_ 40)) none none),[]),D_ (m_ 42 7),D_ (m_ 43 8),(o_ 44 (.slice o (t_ 42) none (some (t_ 43)) none),[]),(o_ 45 (.copy o (t_ 41) (t_ 44)),[]),D_ (B_ 46 .add 38 45),D_ (m_ 8 46)])))
def EO(z:List Value)(o bytes:Nat):ak:=(G_ [o_ 4 (.mv (.const (.slice none 0 0)))] (J_ (G_ [m_ 9 1,C_ 10 .lss 9 0] (I_ 10 (O_ [⟨(some 11),none,.bad⟩,⟨none,none,.bad⟩]) .skip)) (G_ [m_ 13 0,z_ 14 13,o_ 15 (.conv .u64 (t_ 14)),m_ 16 1,o_ 17 (.conv .u64 (t_ 16)),o_ 18 (.call (.func ml) [t_ 15,t_ 17]),m_ 12 18,o_ 19 (.ext 0 (t_ 12)),o_ 20 (.ext 1 (t_ 12)),m_ 5 19,m_ 6 20] (J_ (G_ [m_ 21 5,o_ 22 (.bin .gtr [] (t_ 21) (.const (.int .u64 0))),m_ 23 22,q_ 24 23 false (.mv (t_ 6)),q_ 25 23 false (.bin .gtr [] (t_ 24) (.const (.int .u64 9223372036854775807))),o_ 26 (.pick (t_ 23) (b_ true) (t_ 25))] (I_ 26 (O_ [⟨(some 27),none,.bad⟩,⟨none,none,.bad⟩]) .skip)) (G_ [m_ 28 6,o_ 29 (.conv .i64 (t_ 28)),o_ 30 (.gK z bytes (t_ 29) (t_ 29)),m_ 7 30] (G_ [m_ 31 7,m_ 32 0,o_ 33 (.copy o (t_ 31) (t_ 32)),m_ 8 33] (J_ (P_ 0 (.loop (Hc o))) (G_ [m_ 47 7,m_ 4 47] .ret))))))))
theorem DW(E:Enc α)(hf:FF f=some ⟨[.tmp 4],EO z E.sz bytes,.no⟩)(Eo:bytes<=1000)(z0 x:α)(hz:z=E.enc z0)(ok:bl h)(n:Nat)(hn:0<n/\n<1000000){b off c:Nat}(hs:aL E h (.slice (some ⟨b,off,none⟩) 1 c) [x]):aE FF f [.slice (some ⟨b,off,none⟩) 1 c,.int .i64 n] h (fun v h'=>aa aG h h'/\∃d s,v=.slice (some ⟨d,0,none⟩) n n/\h.next<=d/\h'.tr.get d=some (.aC (E.flat (List.replicate n x)) false 0 s)):=by
 have zx:z.length=E.sz:=by rw[hz,E.len]
 have hp:=E.pos;have w1:IntKind.u64.wrap 1=1:=jc _ (by omega) (by omega);have wn:IntKind.u64.wrap (n:Int)=n:=jc _ (by omega) (by omega);have wn':IntKind.i64.wrap (n:Int)=n:=wrap_i64 _ (by omega) (by omega);have n0:¬(n:Int)<0:=by omega
 have n1:¬(9223372036854775807:Int)<n:=by omega
 have r1:roomy n=true:=by simp[roomy];omega
 have r2:roomy (n*bytes)=true:=by have:n*bytes<=1000000*1000:=Nat.mul_le_mul (by omega) Eo;simp[roomy];omega
 obtain⟨b',QU,c',e',Ga,⟨_,_,_,_,hbb⟩,cS⟩:=hs.read (i:=0) (x:=x) rfl;injection e' with e1 e2 e3;cases e1;have yq:=cS 0 E.sz (by omega);simp only[Nat.zero_mul,IW,List.drop_zero] at yq;have qM:aV h b off E.sz=some (E.enc x):=by rw[yq,gJ_ (by rw[E.len];exact dH _)]
 have oB:=ok.bE hbb;have m1:Nat.min 1 n=1:=by show min 1 n=1;omega
 have m2:E.sz<=n*E.sz:=Nat.le_mul_of_pos_left _ hn.1;refine aE.of hf ?_;unfold EO;simp[n0,w1,wn];refine aF.call (V:=fun v h'=>v=.tuple #[.int .u64 0,.int .u64 (n:Nat)]/\h'=h) (by simpa using ND h n hn.2) ?_;rintro _ h'⟨rfl,e⟩;subst e;simp[n1,wn',r1,r2,zx,hp,m1,aN,oB,qM,E.len,yF E z0 hz,m2,-ae];have g0:aa aG h' (put (aD h' (E.flat (List.replicate n z0)) 0) h'.next 0 (E.flat (List.replicate n z0)) (E.enc x) 0):=(aa.refl ok).var _ _;have Wc:(put (aD h' (E.flat (List.replicate n z0)) 0) h'.next 0 (E.flat (List.replicate n z0)) (E.enc x) 0).tr.get h'.next=some (.aC (E.flat (filled x z0 1 n)) false 0 h'.clock):=by rw[aA,Kg];have:=IQ E x z0 (k:=0) (m:=1) (n:=n) (by omega);simp only[filled,List.replicate_zero,List.nil_append,Nat.sub_zero,Nat.zero_mul,Ek,List.replicate_one,E.eo,E.Xp,List.append_nil] at this⊢;rw[this]
 refine az.cut (fun h1=>aa aG h' h1/\∃s,h1.tr.get h'.next=some (.aC (E.flat (filled x z0 1 n)) false 0 s)) ⟨g0,_,Wc⟩ ?_;rintro h1⟨g1,s1,Wd⟩;refine az.loop (fun m e h2=>∃k:Nat,m=n-k/\1<=k/\k<=n/\ai e 7=.slice (some ⟨h'.next,0,none⟩) n n/\ai e 8=.int .i64 k/\aa aG h' h2/\∃s,h2.tr.get h'.next=some (.aC (E.flat (filled x z0 k n)) false 0 s)) ?_ (n:=n-1)
  ⟨1,rfl,dH _,hn.1,by simp,by simp,g1,s1,Wd⟩
 rintro m e h2⟨k,rfl,hk1,KF,f7,f8,g2,s2,Ic⟩;unfold Hc;by_cases dQ:k<n
 .have q1:Nat.min k (n-k)=min k (n-k):=rfl;obtain⟨j,hj⟩:∃j,j=min k (n-k):=⟨_,rfl⟩;rw[<-hj] at q1;have q2:¬j=0:=by omega
  have q3:k<=n:=by omega
  have Er:aV h2 h'.next 0 (j*E.sz)=some (E.flat (List.replicate j x)):=by have I7:j*E.sz<=(filled x z0 k n).length*E.sz:=FW _ (by simp[filled];omega);rw[cx Ic (by simpa using I7),List.drop_zero,E.fE];congr 2;rw[filled,List.take_append_of_le_length (by simp;omega),List.take_replicate,Nat.min_eq_left (by omega)]
  have cj:k*E.sz+j*E.sz<=(filled x z0 k n).length*E.sz:=by rw[<-tW];exact FW _ (by simp[filled];omega)
  obtain⟨k',CH⟩:∃k',k'=k+j:=⟨_,rfl⟩;have wk:IntKind.i64.wrap ((k:Int)+(j:Int))=(k':Int):=by rw[wrap_i64 _ (by omega) (by omega)];omega
  have hq:(k:Int)<(n:Int):=by omega
  simp[f7,f8,dQ,hq,q1,q2,q3,Ic,aB,Er,cj,wk,-ae];refine⟨n-k',by omega,k',rfl,by omega,by omega,by simp,?_,?_⟩
  .exact aa.put g2.tick ⟨_,Ic⟩ (.inl (dH _))
  .rw[CH,<-IQ E x z0 (by omega)]
 .have:k=n:=by omega
  subst this;simp[f7,f8];refine⟨g2,s2,?_⟩;rw[Ic];simp[filled]
def uK:Enc (Int×Int):=⟨fun x=>[.int .i64 x.1,.int .i64 x.2],2,fun _=>rfl,by decide,fun _=>rfl⟩
@[simp] theorem aaZ:uK.sz=2:=rfl
@[simp] theorem ajv(x:Int×Int):uK.enc x=[.int .i64 x.1,.int .i64 x.2]:=rfl
theorem jR{E:Enc α}{x:α}(hb:h.tr.get b=some (.aC (E.enc x) ro o s)):aL E h (.slice (some ⟨b,0,none⟩) 1 c) [x]:=
 ⟨_,c,rfl,.inr ⟨b,0,_,ro,o,s,rfl,hb,by simp[E.len],by simp[gJ_,E.len]⟩⟩
theorem N6(ok:bl h)(n:Nat)(hn:0<n/\n<1000000){b ro o s c:Nat}(hb:h.tr.get b=some (.aC [.int .i64 x] rb o s)):aE FF iW [.slice (some ⟨b,0,none⟩) 1 c,.int .i64 n] h (fun v h'=>aa aG h h'/\∃d s,v=.slice (some ⟨d,0,none⟩) n n/\h.next<=d/\h'.tr.get d=some (.aC (bg.flat (List.replicate n x)) false 0 s)):=
 DW bg (z:=[.int .i64 0]) (bytes:=8) mG (by decide) 0 x rfl ok n hn (jR hb)
theorem He(ok:bl h)(n:Nat)(hn:0<n/\n<1000000){b ro o s c:Nat}{x:Int×Int}(hb:h.tr.get b=some (.aC [.int .i64 x.1,.int .i64 x.2] rb o s)):aE FF cY [.slice (some ⟨b,0,none⟩) 1 c,.int .i64 n] h (fun v h'=>aa aG h h'/\∃d s,v=.slice (some ⟨d,0,none⟩) n n/\h.next<=d/\h'.tr.get d=some (.aC (uK.flat (List.replicate n x)) false 0 s)):=
 DW uK (z:=[.int .i64 0,.int .i64 0]) (bytes:=16) eM (by decide) (0,0) x rfl ok n hn (jR hb)
theorem UX(h:ab):aE FF ml [.int .u64 1,.int .u64 0] h (fun v h'=>v=.tuple #[.int .u64 0,.int .u64 0]/\h'=h):=by simpa using ND h 0 (by omega)
theorem DX(E:Enc α)(hf:FF f=some ⟨[.tmp 4],EO z E.sz bytes,.no⟩)(hz:z.length=E.sz)(ok:bl h){b off c:Nat} :aE FF f [.slice (some ⟨b,off,none⟩) 1 c,.int .i64 0] h (fun v h'=>aa aG h h'/\∃d s,v=.slice (some ⟨d,0,none⟩) 0 0/\h.next<=d/\h'.tr.get d=some (.aC [] false 0 s)):=by
 have hp:=E.pos;have w1:IntKind.u64.wrap 1=1:=jc _ (by omega) (by omega);have w0:IntKind.u64.wrap 0=0:=jc _ (by omega) (by omega);have w0':IntKind.i64.wrap 0=0:=wrap_i64 _ (by omega) (by omega);have m1:Nat.min 1 0=0:=rfl;refine aE.of hf ?_;unfold EO;simp[w1,w0];refine aF.call (V:=fun v h'=>v=.tuple #[.int .u64 0,.int .u64 0]/\h'=h) (by simpa using UX h) ?_;rintro _ h'⟨rfl,e⟩;subst e;simp[w0',roomy,hz,hp,iP,m1];rw[pH];unfold Hc;simp;exact aH ok _ _
theorem ZA(ok:bl h)(n:Nat)(hn:n<1000000){b o s c:Nat}{x:Int×Int}(hb:h.tr.get b=some (.aC [.int .i64 x.1,.int .i64 x.2] rb o s)):aE FF cY [.slice (some ⟨b,0,none⟩) 1 c,.int .i64 n] h (fun v h'=>aa aG h h'/\∃d s,v=.slice (some ⟨d,0,none⟩) n n/\h.next<=d/\h'.tr.get d=some (.aC (uK.flat (List.replicate n x)) false 0 s)):=by
 cases n with
 |zero=>exact DX uK (z:=[.int .i64 0,.int .i64 0]) (bytes:=16) eM rfl ok
 |succ n=>exact He ok (n+1) ⟨by omega,hn⟩ (ro:=0) hb
theorem Hd(ok:bl h)(n:Nat)(hn:n<1000000){b o s c:Nat}(hb:h.tr.get b=some (.aC [.int .i64 x] rb o s)):aE FF iW [.slice (some ⟨b,0,none⟩) 1 c,.int .i64 n] h (fun v h'=>aa aG h h'/\∃d s,v=.slice (some ⟨d,0,none⟩) n n/\h.next<=d/\h'.tr.get d=some (.aC (bg.flat (List.replicate n x)) false 0 s)):=by
 cases n with
 |zero=>exact DX bg (z:=[.int .i64 0]) (bytes:=8) mG rfl ok
 |succ n=>exact N6 ok (n+1) ⟨by omega,hn⟩ (ro:=0) hb
theorem kQ(ok:bl h){ob:rV}(hl:h.tr.get l=some ob)(env:Env)(ps:List Nat)(asg body:ak)(st:VT):aa (· =l) h (gM h l env ps asg body st):=by
 refine⟨dH _,dH _,fun x hx hn=>?_,⟨fun x o hx=>?_,fun x cs ro o s hx=>?_⟩⟩
 .simp only[gM,Tr.aW];rw[bc hn]
 .simp only[gM,Tr.aW] at hx⊢;by_cases e:x=l
  .subst e;exact ok.wf _ _ hl
  .rw[bc e] at hx;exact ok.wf x o hx
 .simp only[gM,Tr.aW] at hx⊢;by_cases e:x=l
  .rw[aY e] at hx;cases hx
  .rw[bc e] at hx;exact ok.st x cs ro o s hx
theorem p8(h:ab)(l:Nat)(env:Env)(ps:List Nat)(asg body:ak)(st:VT):(gM h l env ps asg body st).tr.get l=some (.loop env ps asg body st):=by simp[gM,Tr.aW]
theorem AF{S:Nat->Prop}(ok:bl h1){l p1 p2:Nat}{asg body:ak}{v1 v2:Value}{K:ab->Prop}(hS:¬S l)(hl:h1.tr.get l=some (.loop e [p1,p2] asg body .ready))(H:az FF asg (Tr.set (Tr.set e p1 v1) p2 v2) h1 (fun x e2 h2=>x=.normal/\aa aG h1 h2/\∀h3,aa (· =l) h2 h3->az FF body e2 h3 (fun x _ h4=>x=.normal/\aa S h3 h4/\K h4)))(hK:∀h4 h5,K h4->bl h4->aa (· =l) h4 h5->K h5):cP FF (.func (.yield l) #[] #[]) [v1,v2] h1 (fun r h5=>r=.bool true/\aa (fun x=>S x\/x=l) h1 h5/\h5.tr.get l=some (.loop e [p1,p2] asg body .ready)/\K h5):=by
 refine cP.yield hl (by simp[jb];rfl) ?_;refine H.mono ?_;rintro x e2 h2⟨rfl,g2,H2⟩;have uO:=g2.get ok hl;refine⟨rfl,uO,?_⟩;have gs:=kQ g2.ok uO e [p1,p2] asg body .busy;refine(H2 _ gs).mono ?_;rintro x e3 h4⟨rfl,g4,k4⟩;have I8:=g4.get gs.ok (p8 h2 l e [p1,p2] asg body .busy) hS;have gt:=kQ g4.ok I8 e [p1,p2] asg body .ready;refine⟨⟨_,_,_,_,I8,rfl,rfl,rfl,rfl⟩,rfl,?_,p8 _ _ _ _ _ _ _,hK _ _ k4 g4.ok gt⟩;exact((g2.aX.trans' gs (fun _ _ h=>h) (fun _ _ h=>.inr h)).trans' g4 (fun _ _ h=>h) (fun _ _ h=>.inl h)).trans' gt (fun _ _ h=>h) (fun _ _ h=>.inr h)
theorem HJ(h:ab)(to:SV):aE FF ia [to.v] h (fun v h'=>v=.func (.func bQ) #[] #[.pointer (some ⟨h.next,0,none⟩)]/\h'=aD h [to.v] 0):=by refine aE.of tT ?_;unfold kX;simp
def BwI(ns:List Int)(y:Value)(b:Nat)(I:Nat->ab->Prop)(m:Nat)(e:Env)(h2:ab):Prop:=m<=ns.length/\ai e 0=y/\ai e 1=.pointer (some ⟨b,0,none⟩)/\ai e 3=.int .i64 ((m:Int)-1)/\I m h2
theorem Fp{h0 h:ab}(gL:bl h0){ns:List Int}(hT:SliceR nR 1 h0 T.v ns)(hl:ns.length<1000000){y:Value}(I:Nat->ab->Prop)(hI:∀j h2,I j h2->aa aG h0 h2/\∃s,h2.tr.get b=some (.aC [T.v] false 0 s))(H:∀j x h2,ns[j]?=some x->I (j+1) h2->cP FF y [.int .i64 j,.int .i64 x] h2 (fun v h'=>v=.bool true/\I j h'))(hi:I ns.length h):aE FF bQ [y,.pointer (some ⟨b,0,none⟩)] h (fun _ h'=>I 0 h'):=by
 have vj:=SliceR.len hT;obtain⟨_,s0,H8⟩:=hI _ _ hi;simp at H8;have w:=wrap_i64 ((ns.length:Int)-1) (by omega) (by omega);refine aE.of qV ?_;unfold j5;simp[H8,vj,w];refine az.loop (BwI ns y b I) ?_ (n:=ns.length) ⟨dH _,by simp,by simp,by simp,hi⟩;rintro m e h2⟨hj,f0,f1,f3,hi⟩;unfold jm;cases m with
 |zero=>
  have:¬(0:Int)<= -1:=by omega
  simp[f3];exact hi
 |succ j=>
  have hx:ns[j]?=some ns[j]:=ff (by omega);generalize ns[j]=x at hx;obtain⟨g2,s,hb⟩:=hI _ _ hi;simp at hb;obtain⟨bT,off,c,AM,_,_,rfl,_,cS⟩:=SliceR.later gL hT hx;have r0:=cS h2 g2 0 1 (by decide);simp[-ae] at r0;have e3:(((j+1:Nat):Int)-1)=(j:Int):=by omega
  rw[e3] at f3;have aM:j<ns.length:=by omega
  have wj:=wrap_i64 ((j:Int)-1) (by omega) (by omega);rw[AM,vj] at hb;simp[f0,f1,f3,aq hb,aM,r0,-ae];refine aF.cu (V:=fun v h'=>v=.bool true/\I j h') (by simpa [f0] using H j x h2 hx hi) ?_;rintro _ h3⟨rfl,hi3⟩;simp[f3,wj];exact⟨j,by omega,by omega,by simp[f0],by simp[f1],by simp,hi3⟩
end Go.Proofs.YtdhnndleffachaaGreatDoor
namespace Go.Proofs.YtdhnndleffachaaGreatDoor
open Go Go.AI
variable{cs:List Value}{h:ab}{sz:Nat}{v:Value}{α β:Type}
def yb:Ty:=.pair .bool (.pair (.int .i64) .unit)
def SJ:Ty:=.pair (.int .i64) (.pair (.int .i64) (.pair yb (.pair yb (.pair (.int .i64) (.pair (.sl yb) .unit)))))
def SX:Ty:=.pair (.int .i64) (.pair (.sl yb) .unit)
def ajw:Ty:=.pair (.int .i64) (.pair yb (.pair (.sl (.int .i64)) .unit))
def yg:Ty:=.pair (.sl SX) (.pair (.sl SJ) (.pair ajw .unit))
def Kt:Ty:=.pair .str (.pair (.int .i64) (.pair (.int .i64) (.pair (.sl yg) .unit)))
def Bu:Ty:=.pair .str (.pair (.int .i64) (.pair (.sl (.int .i64)) .unit))
def C3:Ty:=.pair (.sl Bu) (.pair (.sl Kt) .unit)
theorem pI{R:List Value->α->Prop}{R':List Value->β->Prop}{xs:List α}(f:α->β)(s:SliceR R sz h v xs)(H:∀c x,R c x->R' c (f x)):SliceR R' sz h v (xs.map f):=by
 obtain⟨a,cap,rfl,s⟩:=s;refine⟨a,cap,by rw[gU_],?_⟩;rcases s with⟨rfl,s⟩|⟨b,off,cs,ro,o,st,rfl,hb,he⟩
 .exact .inl ⟨rfl,s⟩
 .refine .inr ⟨b,off,cs,ro,o,st,rfl,hb,fun i y hy=>?_⟩;rw[tV,Option.map_eq_some_iff] at hy;obtain⟨x,hx,rfl⟩:=hy;exact⟨(he i x hx).1,H _ _ (he i x hx).2⟩
theorem oi{R:List Value->α->Prop}{xs:List α}(s:SliceR R sz h v xs):∃S:SV,v=S.v:=by obtain⟨a,cap,rfl,_⟩:=s;exact⟨⟨a,xs.length,cap⟩,rfl⟩
def toV(x:yb.den):Bool×Int:=(x.1,x.2.1)
def toI(x:SJ.den):GI:=⟨x.1,x.2.1,toV x.2.2.1,toV x.2.2.2.1,x.2.2.2.2.1,List.map toV x.2.2.2.2.2.1⟩
def toP(x:SX.den):GP:=⟨x.1,List.map toV x.2.1⟩
def toB(x:yg.den):GB:=⟨List.map toP x.1,List.map toI x.2.1,x.2.2.1.1,toV x.2.2.1.2.1,List.map id x.2.2.1.2.2.1⟩
def toF(x:Kt.den):GF:=⟨x.1,x.2.1,x.2.2.1,List.map toB x.2.2.2.1⟩
def toG(x:Bu.den):GG:=⟨x.1,x.2.1,List.map id x.2.2.1⟩
def toU(x:C3.den):GU:=⟨List.map toG x.1,List.map toF x.2.1⟩
theorem ES{x:yb.den}(r:rep yb h cs x):vR cs (toV x):=by obtain⟨a,b,_⟩:=x;obtain⟨c1,_,rfl,e1,c2,_,rfl,e2,e3⟩:=r;simp only[rep] at e1 e2 e3;subst e1 e2 e3;rfl
theorem N4{xs:List Int}(s:SliceR (rep (.int .i64) h) (Ty.sz (.int .i64)) h v xs):SliceR nR 1 h v (List.map id xs):=
 pI id s fun c x r=>by simpa [rep,nR] using r
theorem N5{xs:List yb.den}(s:SliceR (rep yb h) yb.sz h v xs):SliceR vR 2 h v (List.map toV xs):=
 pI toV s fun _ _ r=>ES r
theorem acu{x:SJ.den}(r:rep SJ h cs x):iR h cs (toI x):=by obtain⟨op,dst,a,b,fn,vs,_⟩:=x;obtain⟨c1,_,rfl,e1,c2,_,rfl,e2,c3,_,rfl,ea,c4,_,rfl,eb,c5,_,rfl,e5,c6,_,rfl,⟨v,rfl,s⟩,e7⟩:=r;have ea:=ES ea;have eb:=ES eb;simp only[rep,vR] at e1 e2 ea eb e5 e7;subst e1 e2 ea eb e5 e7;obtain⟨S,rfl⟩:=oi s;exact⟨S,rfl,N5 s⟩
theorem acv{x:SX.den}(r:rep SX h cs x):pR h cs (toP x):=by obtain⟨dst,vs,_⟩:=x;obtain⟨c1,_,rfl,e1,c6,_,rfl,⟨v,rfl,s⟩,e7⟩:=r;simp only[rep] at e1 e7;subst e1 e7;obtain⟨S,rfl⟩:=oi s;exact⟨S,rfl,N5 s⟩
theorem Vo{x:yg.den}(r:rep yg h cs x):bR h cs (toB x):=by obtain⟨ps,ls,⟨k,on,ts,_⟩,_⟩:=x;obtain⟨c1,_,rfl,⟨v1,rfl,s1⟩,c2,_,rfl,⟨v2,rfl,s2⟩,c3,_,rfl,⟨c4,_,rfl,e4,c5,_,rfl,e5,c6,_,rfl,⟨v3,rfl,s3⟩,e6⟩,e7⟩:=r;have e5:=ES e5;simp only[rep,vR] at e4 e5 e6 e7;subst e4 e5 e6 e7;obtain⟨S1,rfl⟩:=oi s1;obtain⟨S2,rfl⟩:=oi s2;obtain⟨S3,rfl⟩:=oi s3;exact⟨S1,S2,S3,rfl,pI toP s1 fun _ _ r=>acv r,pI toI s2 fun _ _ r=>acu r,N4 s3⟩
theorem Zy{x:Kt.den}(r:rep Kt h cs x):fR h cs (toF x):=by obtain⟨n,p,q,bs,_⟩:=x;obtain⟨c1,_,rfl,e1,c2,_,rfl,e2,c3,_,rfl,e3,c4,_,rfl,⟨v,rfl,s⟩,e7⟩:=r;simp only[rep] at e1 e2 e3 e7;subst e1 e2 e3 e7;obtain⟨S,rfl⟩:=oi s;exact⟨S,rfl,pI toB s fun _ _ r=>Vo r⟩
theorem Ra{x:Bu.den}(r:rep Bu h cs x):gR h cs (toG x):=by obtain⟨n,p,bs,_⟩:=x;obtain⟨c1,_,rfl,e1,c2,_,rfl,e2,c4,_,rfl,⟨v,rfl,s⟩,e7⟩:=r;simp only[rep] at e1 e2 e7;subst e1 e2 e7;obtain⟨S,rfl⟩:=oi s;exact⟨S,rfl,N4 s⟩
theorem Zz{x:C3.den}(r:rep C3 h cs x):∃G F:SV,cs=[G.v,F.v]/\uR h G F (toU x):=by obtain⟨gs,fs,_⟩:=x;obtain⟨c1,_,rfl,⟨v1,rfl,s1⟩,c2,_,rfl,⟨v2,rfl,s2⟩,e7⟩:=r;simp only[rep] at e7;subst e7;obtain⟨S1,rfl⟩:=oi s1;obtain⟨S2,rfl⟩:=oi s2;exact⟨S1,S2,rfl,pI toG s1 fun _ _ r=>Ra r,pI toF s2 fun _ _ r=>Zy r⟩
theorem map_le(f:α->β)(l:List α)(h:l.length<=140737488351232):(List.map f l).length<=140737488355328:=by rw[gU_];omega
theorem WV{x:C3.den}(b:Bd (some 140737488351232) C3 x):Small (toU x)/\Cr (toU x):=by
 obtain⟨gs,fs,_⟩:=x;obtain⟨⟨g1,g2⟩,⟨f1,f2⟩,_⟩:=b;have g1:=g1 _ rfl;have f1:=f1 _ rfl;have hb:∀b:yg.den,Bd (some 140737488351232) yg b->vF (toB b):=by
  rintro⟨ps,ls,⟨k,on,ts,_⟩,_⟩ ⟨⟨p1,p2⟩,⟨l1,l2⟩,⟨_,_,⟨t1,_⟩,_⟩,_⟩;have p1:=p1 _ rfl;have l1:=l1 _ rfl;have t1:=t1 _ rfl;refine⟨?_,?_,?_,fun p hp=>?_,fun x hx=>?_⟩
  .exact map_le _ _ p1
  .exact map_le _ _ l1
  .exact map_le _ _ t1
  .obtain⟨y,hy,rfl⟩:=j_.1 hp;obtain⟨_,⟨h1,_⟩,_⟩:=p2 y hy;have h1:=h1 _ rfl;exact map_le _ _ h1
  .obtain⟨y,hy,rfl⟩:=j_.1 hx;obtain⟨_,_,_,_,_,⟨h1,_⟩,_⟩:=l2 y hy;have h1:=h1 _ rfl;exact map_le _ _ h1
 have hf:∀f∈(toU ⟨gs,fs,()⟩).funcs,Fits f.blocks/\∀b∈f.blocks,vF b:=by
  intro f hf;obtain⟨y,hy,rfl⟩:=j_.1 hf;obtain⟨_,_,_,⟨h1,h2⟩,_⟩:=f2 y hy;have h1:=h1 _ rfl;have Ia:∀b∈(toF y).blocks,vF b:=by intro b cC;obtain⟨z,hz,rfl⟩:=j_.1 cC;exact hb z (h2 z hz)
  exact⟨⟨map_le _ _ h1,fun b hb=>⟨(Ia b hb).ph,(Ia b hb).li⟩⟩,Ia⟩
 refine⟨⟨?_,fun f h=>(hf f h).1⟩,fun g hg=>?_,fun f h=>(hf f h).1,fun f h=>(hf f h).2⟩
 .exact map_le _ _ f1
 .obtain⟨y,hy,rfl⟩:=j_.1 hg;obtain⟨_,_,⟨h1,_⟩,_⟩:=g2 y hy;have h1:=h1 _ rfl;exact map_le _ _ h1
end Go.Proofs.YtdhnndleffachaaGreatDoor
namespace Go.AI.Dfs
variable{b n x:Nat}{l:List Nat}
structure DS where
 seen:List Bool
 left:List Nat
def row(dD:List (List Nat))(b:Nat):List Nat:=(dD[b]?).getD []
def visitM(dD:List (List Nat)):Nat->Nat->DS->DS
 |0,_,s=>s
 |k+1,b,s=>
  let s1:=(row dD b).reverse.foldl (fun s t=>if s.seen[t]?=some true then s else visitM dD k t s) ⟨s.seen.set b true,s.left⟩
  ⟨s1.seen,s1.left++[b]⟩
def foldM(dD:List (List Nat))(k:Nat)(l:List Nat)(s:DS):DS:=l.foldl (fun s t=>if s.seen[t]?=some true then s else visitM dD k t s) s
theorem qh(dD:List (List Nat))(k b:Nat)(s:DS):visitM dD (k+1) b s=⟨(foldM dD k (row dD b).reverse ⟨s.seen.set b true,s.left⟩).seen,(foldM dD k (row dD b).reverse ⟨s.seen.set b true,s.left⟩).left++[b]⟩:=rfl
theorem IS(dD:List (List Nat))(k:Nat)(s:DS):foldM dD k [] s=s:=rfl
theorem vP(dD:List (List Nat))(k t:Nat)(l:List Nat)(s:DS):foldM dD k (t::l) s=foldM dD k l (if s.seen[t]?=some true then s else visitM dD k t s):=rfl
structure Vis(n:Nat)(s s':DS)(new:List Nat):Prop where
 left:s'.left=s.left++new
 len:s'.seen.length=n
 seen:∀x,s'.seen[x]?=some true↔(s.seen[x]?=some true\/x∈new)
 fresh:∀x∈new,¬s.seen[x]?=some true/\x<n
 nodup:new.Nodup
def vD(l:List Nat)(x p:Nat):Prop:=∃l1 l2,l=l1++x::l2/\p∈l2
theorem vD.app{x p:Nat}(h:vD l x p)(a b:List Nat):vD (a++l++b) x p:=by obtain⟨l1,l2,rfl,hp⟩:=h;exact⟨a++l1,l2++b,by simp,List.mem_append_left _ hp⟩
theorem vD.last(h:x∈l):vD (l++[b]) x b:=by obtain⟨l1,l2,rfl⟩:=List.append_of_mem h;exact⟨l1,l2++[b],by simp,by simp⟩
def c7(s:DS):Nat:=s.seen.countP (fun x=> !x)
theorem Vis.trans{s s1 s2:DS}{l1 l2:List Nat}(h1:Vis n s s1 l1)(h2:Vis n s1 s2 l2):Vis n s s2 (l1++l2):=by
 refine⟨by rw[h2.left,h1.left,Af],h2.len,fun x=>?_,fun x hx=>?_,?_⟩
 .rw[h2.seen,h1.seen,rM,or_assoc]
 .rcases rM.1 hx with hx|hx
  .exact h1.fresh x hx
  .have:=h2.fresh x hx;exact⟨fun e=>this.1 ((h1.seen x).2 (.inl e)),this.2⟩
 .refine List.nodup_append.2 ⟨h1.nodup,h2.nodup,fun a ha b hb e=>?_⟩;subst e;exact(h2.fresh a hb).1 ((h1.seen a).2 (.inr ha))
theorem countP_set{l:List Bool}(h:l[b]?=some false):(l.set b true).countP (fun x=> !x)+1=l.countP (fun x=> !x):=by
 induction l generalizing b with
 |nil=>simp at h
 |cons a l ih=>
  cases b with
  |zero=>simp at h;subst h;simp[List.set_cons_zero]
  |succ b=>
   simp at h;have:=ih h;rw[List.set_cons_succ,List.countP_cons,List.countP_cons];omega
theorem countP_le{l m:List Bool}(hl:l.length=m.length)(h:∀x:Nat,l[x]?=some true->m[x]?=some true):m.countP (fun x=> !x)<=l.countP (fun x=> !x):=by
 induction l generalizing m with
 |nil=>cases m with
  |nil=>simp
  |cons b m=>simp at hl
 |cons a l ih=>
  cases m with
  |nil=>simp at hl
  |cons b m=>
   simp at hl;have:=ih hl (fun x hx=>by have:=h (x+1) (by simpa using hx);simpa using this);have h0:=h 0;simp at h0;rw[List.countP_cons,List.countP_cons];cases a<;>cases b<;>simp_all<;>omega
section
variable{dD:List (List Nat)}{n:Nat}
def RZ(dD:List (List Nat))(n b:Nat)(s s':DS):Prop:=
 ∃new,Vis n s s' (new++[b])/\(∀x∈new++[b],∀t∈row dD x,s'.seen[t]?=some true)/\∀x∈new,∃p,x∈row dD p/\vD (new++[b]) x p
def aeg(dD:List (List Nat))(n:Nat)(l:List Nat)(s s':DS):Prop:=
 ∃new,Vis n s s' new/\(∀x∈new,∀t∈row dD x,s'.seen[t]?=some true)/\(∀t∈l,s'.seen[t]?=some true)/\∀x∈new,x∈l\/∃p,x∈row dD p/\vD new x p
theorem Ks(ht:∀b t,t∈row dD b->t<n){k:Nat}(ih:∀b s,s.seen.length=n->b<n->¬s.seen[b]?=some true->c7 s<=k->RZ dD n b s (visitM dD k b s)):∀(l:List Nat)(s:DS),s.seen.length=n->(∀t∈l,t<n)->c7 s<=k->aeg dD n l s (foldM dD k l s)
 |[],s,hn,_,_=>⟨[],⟨by simp[IS],hn,by simp[IS],by simp,.nil⟩,by simp,by simp,by simp⟩
 |t::l,s,hn,hl,hk=>by
  rw[vP];by_cases hs:s.seen[t]?=some true
  .rw[aY hs];obtain⟨new,h1,h2,h3,h4⟩:=Ks ht ih l s hn (fun x hx=>hl x (EE _ hx)) hk;refine⟨new,h1,h2,fun x hx=>?_,fun x hx=>?_⟩
   .rcases List.mem_cons.1 hx with rfl|hx
    .exact(h1.seen x).2 (.inl hs)
    .exact h3 x hx
   .rcases h4 x hx with h|h
    .exact .inl (EE _ h)
    .exact .inr h
  .rw[bc hs];obtain⟨n1,v1,c1,p1⟩:=ih t s hn (hl t (Dq ..)) hs hk;have hle:c7 (visitM dD k t s)<=k:=xf (countP_le (by rw[hn,v1.len]) (fun x hx=>(v1.seen x).2 (.inl hx))) hk;obtain⟨n2,v2,c2,t2,p2⟩:=Ks ht ih l _ v1.len (fun x hx=>hl x (EE _ hx)) hle;refine⟨n1++[t]++n2,v1.trans v2,fun x hx u hu=>?_,fun x hx=>?_,fun x hx=>?_⟩
   .rcases rM.1 hx with hx|hx
    .exact(v2.seen u).2 (.inl (c1 x hx u hu))
    .exact c2 x hx u hu
   .rcases List.mem_cons.1 hx with rfl|hx
    .exact(v2.seen x).2 (.inl ((v1.seen x).2 (.inr (by simp))))
    .exact t2 x hx
   .rcases rM.1 hx with hx|hx
    .rcases rM.1 hx with hx|hx
     .obtain⟨p,h1,h2⟩:=p1 x hx;exact .inr ⟨p,h1,by simpa using h2.app [] n2⟩
     .simp at hx;subst hx;exact .inl (Dq ..)
    .rcases p2 x hx with h|⟨p,h1,h2⟩
     .exact .inl (EE _ h)
     .exact .inr ⟨p,h1,by simpa using h2.app (n1++[t]) []⟩
theorem Ox(ht:∀b t,t∈row dD b->t<n):∀(k b:Nat)(s:DS),s.seen.length=n->b<n->¬s.seen[b]?=some true->c7 s<=k->RZ dD n b s (visitM dD k b s)
 |0,b,s,hn,hb,hs,hk=>by
  exfalso;have hf:s.seen[b]?=some false:=by
   rw[ff (by omega)] at hs⊢;cases h:s.seen[b] with
   |true=>rw[h] at hs;exact absurd rfl hs
   |false=>rfl
  have:=countP_set hf;unfold c7 at hk;omega
 |k+1,b,s,hn,hb,hs,hk=>by
  have hf:s.seen[b]?=some false:=by
   rw[ff (by omega)] at hs⊢;cases h:s.seen[b] with
   |true=>rw[h] at hs;exact absurd rfl hs
   |false=>rfl
  have hc:=countP_set hf;obtain⟨new,v,c,t,p⟩:=Ks ht (Ox ht k) (row dD b).reverse ⟨s.seen.set b true,s.left⟩ (by simpa using hn) (fun x hx=>ht b x (List.mem_reverse.1 hx)) (by unfold c7 at hk⊢;dsimp only;omega);rw[qh];have jh:∀x,(s.seen.set b true)[x]?=some true↔(s.seen[x]?=some true\/x=b):=by
   intro x;rw[eu];by_cases e:b=x
   .subst e;simp;omega
   .rw[bc e];simp[Ne.symm e]
  refine⟨new,⟨by rw[v.left];simp,v.len,fun x=>?_,fun x hx=>?_,?_⟩,fun x hx u hu=>?_,fun x hx=>?_⟩
  .have:=v.seen x;dsimp only at this⊢;rw[this,jh,rM];simp;constructor
   .rintro((h|h)|h)
    .exact .inl h
    .exact .inr (.inr h)
    .exact .inr (.inl h)
   .rintro(h|h|h)
    .exact .inl (.inl h)
    .exact .inr h
    .exact .inl (.inr h)
  .rcases rM.1 hx with hx|hx
   .have:=v.fresh x hx;exact⟨fun e=>this.1 ((jh x).2 (.inl e)),this.2⟩
   .simp at hx;subst hx;exact⟨hs,hb⟩
  .refine List.nodup_append.2 ⟨v.nodup,by simp,fun a ha c hc e=>?_⟩;simp at hc;subst e;subst hc;exact(v.fresh a ha).1 ((jh a).2 (.inr rfl))
  .rcases rM.1 hx with hx|hx
   .exact c x hx u hu
   .simp at hx;subst hx;exact t u (List.mem_reverse.2 hu)
  .rcases p x hx with h|⟨q,h1,h2⟩
   .exact⟨b,List.mem_reverse.1 h,vD.last hx⟩
   .exact⟨q,h1,by simpa using h2.app [] [b]⟩
end
theorem Ac{s:DS}(hb:b<s.seen.length)(hs:¬s.seen[b]?=some true):c7 ⟨s.seen.set b true,s.left⟩+1=c7 s:=by
 have hf:s.seen[b]?=some false:=by
  rw[ff hb] at hs⊢;cases h:s.seen[b] with
  |true=>rw[h] at hs;exact absurd rfl hs
  |false=>rfl
 exact countP_set hf
theorem MS{dD:List (List Nat)}{k:Nat}(ih:∀b s,(visitM dD k b s).seen.length=s.seen.length):∀(l:List Nat)(s:DS),(foldM dD k l s).seen.length=s.seen.length
 |[],s=>rfl
 |t::l,s=>by
  rw[vP,MS ih l];split
  .rfl
  .exact ih t s
theorem JJ(dD:List (List Nat)):∀(k b:Nat)(s:DS),(visitM dD k b s).seen.length=s.seen.length
 |0,_,_=>rfl
 |k+1,b,s=>by rw[qh];dsimp only;rw[MS (JJ dD k)];simp
theorem vQ{dD:List (List Nat)}{k n:Nat}(ih:∀b s,s.seen.length=n->b<n->¬s.seen[b]?=some true->(visitM dD k b s).left.length+c7 (visitM dD k b s)<=s.left.length+c7 s):∀(l:List Nat)(s:DS),s.seen.length=n->(∀t∈l,t<n)->(foldM dD k l s).left.length+c7 (foldM dD k l s)<=s.left.length+c7 s
 |[],s,_,_=>dH _
 |t::l,s,hn,hl=>by
  rw[vP];split
  .exact vQ ih l s hn (fun x hx=>hl x (EE _ hx))
  .rename_i h;have h1:=ih t s hn (hl t (Dq ..)) h;have h2:=vQ ih l (visitM dD k t s) (by rw[JJ];exact hn) (fun x hx=>hl x (EE _ hx));omega
theorem D4{dD:List (List Nat)}{n:Nat}(ht:∀b t,t∈row dD b->t<n):∀(k b:Nat)(s:DS),s.seen.length=n->b<n->¬s.seen[b]?=some true->(visitM dD k b s).left.length+c7 (visitM dD k b s)<=s.left.length+c7 s
 |0,_,_,_,_,_=>dH _
 |k+1,b,s,hn,hb,hs=>by have h1:=Ac (s:=s) (b:=b) (by omega) hs;have h2:=vQ (D4 ht k) (row dD b).reverse ⟨s.seen.set b true,s.left⟩ (by simpa using hn) (fun t AP=>ht b t (List.mem_reverse.1 AP));rw[qh];dsimp only at h2⊢;rw[IZ];have:c7 ⟨(foldM dD k (row dD b).reverse ⟨s.seen.set b true,s.left⟩).seen,(foldM dD k (row dD b).reverse ⟨s.seen.set b true,s.left⟩).left++[b]⟩=c7 (foldM dD k (row dD b).reverse ⟨s.seen.set b true,s.left⟩):=rfl;rw[this];simp only[List.length_singleton];omega
theorem HX(l:List Bool)(b:Nat):(l.set b true).countP (fun x=> !x)<=l.countP (fun x=> !x):=by
 induction l generalizing b with
 |nil=>simp
 |cons a l ih=>
  cases b with
  |zero=>rw[List.set_cons_zero,List.countP_cons,List.countP_cons];simp
  |succ b=>rw[List.set_cons_succ,List.countP_cons,List.countP_cons];have:=ih b;omega
theorem xI{dD:List (List Nat)}{k:Nat}(ih:∀b s,c7 (visitM dD k b s)<=c7 s):∀(l:List Nat)(s:DS),c7 (foldM dD k l s)<=c7 s
 |[],s=>dH _
 |t::l,s=>by
  rw[vP];refine xf (xI ih l _) ?_;split
  .exact dH _
  .exact ih t s
theorem Ci(dD:List (List Nat)):∀(k b:Nat)(s:DS),c7 (visitM dD k b s)<=c7 s
 |0,_,_=>dH _
 |k+1,b,s=>by rw[qh];have h1:=xI (Ci dD k) (row dD b).reverse ⟨s.seen.set b true,s.left⟩;have h2:c7 ⟨s.seen.set b true,s.left⟩<=c7 s:=HX _ _;exact xf h1 h2
def mO(dD:List (List Nat))(n:Nat):List Nat:=(visitM dD n 0 ⟨List.replicate n false,[]⟩).left
theorem yD{dD:List (List Nat)}(h0:0<n)(ht:∀b t,t∈row dD b->t<n):(mO dD n).Nodup/\(∀x∈mO dD n,x<n)/\(∃new,mO dD n=new++[0])/\(∀x∈mO dD n,∀t∈row dD x,t∈mO dD n)/\∀x∈mO dD n,x≠0->∃p,x∈row dD p/\vD (mO dD n) x p:=by
 obtain⟨new,v,c,p⟩:=Ox ht n 0 ⟨List.replicate n false,[]⟩ (by simp) h0 (by simp[T7]) (by unfold c7;exact xf (List.countP_le_length) (by simp))
 have hl:mO dD n=new++[0]:=by unfold mO;rw[v.left];simp
 rw[hl];refine⟨v.nodup,fun x hx=>(v.fresh x hx).2,⟨new,rfl⟩,fun x hx t ht=>?_,fun x hx h=>?_⟩
 .have:=(v.seen t).1 (c x hx t ht);rcases this with h|h
  .simp[T7] at h
  .exact h
 .rcases rM.1 hx with hx|hx
  .exact p x hx
  .simp at hx;exact absurd hx h
end Go.AI.Dfs
namespace Go.Proofs.YtdhnndleffachaaGreatDoor
open Go.AI
variable{B L:SV}{Fb Lf S V W b k n o s sb:Nat}{bs:List GB}{h h0:ab}{name:ByteArray}{p r:Int}{ro:Bool}
def cX:Enc Bool:=⟨fun x=>[.bool x],1,fun _=>rfl,by decide,fun _=>rfl⟩
@[simp] theorem ang:cX.sz=1:=rfl
@[simp] theorem ajt(x:Bool):cX.enc x=[.bool x]:=rfl
theorem AD{ws:List Bool}(hW:h.tr.get W=some (.aC (cX.flat ws) ro o s)){x:Bool}(hk:ws[k]?=some x):aV h W k 1=some [.bool x]:=by have hl:=(bK.mp hk).1;rw[cx hW (by rw[cX.bh];show k+1<=ws.length*1;omega)];have:=cX.jQ ws k 0 1 x hk (by decide);simp only[IW] at this;rw[show k=k*cX.sz from(Nat.mul_one k).symm,this];rfl
theorem qf(ws:List Bool)(i:Nat)(x:Bool)(h:i<ws.length):aR (cX.flat ws) i [.bool x]=cX.flat (ws.set i x):=by have:=cX.dS ws i x h;simpa using this
def qG(bs:List GB):List (List Nat):=bs.map fun b=>b.to.map Int.toNat
structure Tv(h0 h:ab)(n S sb Fb V Lf:Nat)(name:ByteArray)(p r:Int)(B L:SV)(s:Dfs.DS):Prop where
 g:aa aG h0 h
 n1:h0.next<=sb
 n2:h0.next<=Lf
 hS:∃t,h.tr.get S=some (.aC [.slice (some ⟨sb,0,none⟩) n n] false 0 t)
 CM:∃t,h.tr.get sb=some (.aC (cX.flat s.seen) false 0 t)
 hF:∃t,h.tr.get Fb=some (.aC (aj name p r B) false 0 t)
 hV:∃t,h.tr.get V=some (.aC [.func (.func ky) #[] #[.pointer (some ⟨S,0,none⟩),.pointer (some ⟨Fb,0,none⟩),.pointer (some ⟨V,0,none⟩),.pointer (some ⟨Lf,0,none⟩)]] false 0 t)
 hL:∃t,h.tr.get Lf=some (.aC [L.v] false 0 t)
 acc:bJ bg h0.next h L.v (s.left.map fun x:Nat=>(x:Int))
 len:s.seen.length=n
 ll:s.left.length+Dfs.c7 s<=n
 ne:S≠sb/\S≠Lf/\sb≠Fb/\sb≠V/\sb≠Lf/\Fb≠Lf/\V≠Lf
 p7:∀b,aw L.v b->b≠S/\b≠sb/\b≠Fb/\b≠V/\b≠Lf
def PW(sb Lf:Nat)(L:SV)(x:Nat):Prop:=x=sb\/x=Lf\/aw L.v x
def WK(S sb Fb V Lf:Nat)(L:SV)(x:Nat):Prop:=x=S\/x=sb\/x=Fb\/x=V\/x=Lf\/aw L.v x
theorem Tv.uQ{h0 h h':ab}{s:Dfs.DS}(w:Tv h0 h n S sb Fb V Lf name p r B L s){Q:Nat->Prop}(g:aa Q h h')(hq:∀x,WK S sb Fb V Lf L x->¬Q x)(g0:aa aG h0 h'):Tv h0 h' n S sb Fb V Lf name p r B L s:=by
 obtain⟨t1,h1⟩:=w.hS;obtain⟨t2,h2⟩:=w.CM;obtain⟨t3,h3⟩:=w.hF;obtain⟨t4,h4⟩:=w.hV;obtain⟨t5,h5⟩:=w.hL;have ok:=w.g.ok;exact⟨g0,w.n1,w.n2,⟨t1,g.get ok h1 (hq _ (.inl rfl))⟩,⟨t2,g.get ok h2 (hq _ (.inr (.inl rfl)))⟩,⟨t3,g.get ok h3 (hq _ (.inr (.inr (.inl rfl))))⟩,⟨t4,g.get ok h4 (hq _ (.inr (.inr (.inr (.inl rfl)))))⟩,⟨t5,g.get ok h5 (hq _ (.inr (.inr (.inr (.inr (.inl rfl))))))⟩,w.acc.grow ok g (fun b hb=>hq _ (.inr (.inr (.inr (.inr (.inr hb)))))),w.len,w.ll,w.ne,w.p7⟩
theorem Tv.bE{s:Dfs.DS}(w:Tv h0 h n S sb Fb V Lf name p r B L s):∀x,WK S sb Fb V Lf L x->x<h.next:=by
 obtain⟨t1,h1⟩:=w.hS;obtain⟨t2,h2⟩:=w.CM;obtain⟨t3,h3⟩:=w.hF;obtain⟨t4,h4⟩:=w.hV;obtain⟨t5,h5⟩:=w.hL;have ok:=w.g.ok;rintro x (rfl|rfl|rfl|rfl|rfl|⟨off,m,cap,e⟩)
 .exact ok.wf _ _ h1
 .exact ok.wf _ _ h2
 .exact ok.wf _ _ h3
 .exact ok.wf _ _ h4
 .exact ok.wf _ _ h5
 .rcases w.acc with⟨_,e2⟩|⟨b2,s2,e2,cC,_⟩
  .rw[e2] at e;cases e
  .rw[e2] at e;cases e;exact ok.wf _ _ cC
def uF:ak:=(P_ 1 (G_ [l_ 21 1,m_ 22 7,a_ 23 1 21 22,l_ 24 23,o_ 25 (.un .not (t_ 24))] (I_ 25 (O_ [l_ 26 3,m_ 27 7,o_ 28 (.call (t_ 26) [t_ 27])]) .skip)))
def ye:ak:=(.ops [⟨(some 7),none,(.mv (.tmp 20))⟩])
def LH:ak:=(.ops [⟨(some 8),none,(.load none (.tmp 1))⟩,⟨(some 9),none,(.mv (.tmp 0))⟩,⟨(some 10),none,(.dx none 1 (.tmp 8) (.tmp 9))⟩,⟨none,none,(.store 1 (.tmp 10) (.const (.bool true)))⟩])
def ad_:ak:=(O_ [f_ 11 3 2,l_ 12 11,m_ 13 0,a_ 14 6 12 13,f_ 15 2 14,f_ 16 3 15,l_ 17 16,o_ 18 (.call (.func ia) [t_ 17])])
def Ru:ak:=(O_ [l_ 29 4,m_ 30 0,v_ 31 D6 1 30,A_ 32 D6 8 29 31,s_ 1 4 32])
theorem Z8:xp=.seq LH (.seq (.seq ad_ (.block 0 (.ET (.tmp 18) [19,20] ye uF))) Ru):=rfl
def WR(h0 h:ab)(n S sb Fb V Lf:Nat)(name:ByteArray)(p r:Int)(B L:SV)(s':Dfs.DS)(h':ab):Prop:=
 ∃L':SV,Tv h0 h' n S sb Fb V Lf name p r B L' s'/\aa (PW sb Lf L) h h'/\∀x,aw L'.v x->aw L.v x\/h.next<=x
theorem acQ{s:Dfs.DS}(hn:n<=1000)(w:Tv h0 h n S sb Fb V Lf name p r B L s)(yZ:s.left.length+1+Dfs.c7 s<=n){e:Env}(f0:ai e 0=.int .i64 b)(f4:ai e 4=.pointer (some ⟨Lf,0,none⟩)){QQ:aO->Env->ab->Prop}(H:∀e' h',WR h0 h n S sb Fb V Lf name p r B L ⟨s.seen,s.left++[b]⟩ h'->QQ .normal e' h'):az FF Ru e h QQ:=by
 obtain⟨t5,hL⟩:=w.hL;have ok:=w.g.ok;simp at hL;unfold Ru;simp[f0,f4,hL];have g4:=aH ok (bg.enc (b:Int)) 0;have hA4:=w.acc.grow ok g4 (fun _ _ h=>h);have hw4:aL bg (aD h (bg.enc (b:Int)) 0) (.slice (some ⟨h.next,0,none⟩) 1 1) [(b:Int)]:=⟨_,_,rfl,.inr ⟨h.next,0,_,_,_,_,rfl,bq _ _ _,by simp,by simp⟩⟩;have h0n:=w.g.next;obtain⟨v',h5,ha,Ds,g5,OP⟩:=j4 (bytes:=8) g4.ok (z:=[.int .i64 0]) rfl hA4 hw4 (by simp;omega) (by decide) (by show h0.next<=h.next+1;omega);refine gH ha ?_;obtain⟨W,rfl⟩:=bJ.Ws Ds;have ow:=w.bE;have ex:aa (aw L.v) h h5:=g4.aX.trans g5;have hL5:=ex.get ok hL (fun e=>(w.p7 _ e).2.2.2.2 rfl);have lo:∀x,aw L.v x->h0.next<=x:=fun x hx=>w.acc.of hx;have Hz:aa aG h0 h5:=w.g.trans' ex (fun _ _ h=>h) (fun x hx e=>by have:=lo x e;omega);simp[hL5,f4];obtain⟨t1,h1⟩:=w.hS;obtain⟨t2,h2⟩:=w.CM;obtain⟨t3,h3⟩:=w.hF;obtain⟨t4,h4⟩:=w.hV;obtain⟨m1,m2,m3,m4,m5,m6,m7⟩:=w.ne;have gp:aa (· =Lf) h5 (put h5 Lf 0 [.slice L.a L.l L.c] [.slice W.a W.l W.c] 0):=aJ Hz.ok hL5;have kp:∀x (ob:rV),h.tr.get x=some ob->¬aw L.v x->x≠Lf->(put h5 Lf 0 [.slice L.a L.l L.c] [.slice W.a W.l W.c] 0).tr.get x=some ob:=fun x ob hx n1 n2=>gp.get Hz.ok (ex.get ok hx n1) n2;have lW:∀x,aw W.v x->h.next+1<=x:=fun x hx=>by have:=OP x hx;simp at this;omega
 refine H _ _ ⟨W,⟨Hz.put ⟨_,hL5⟩ (.inl w.n2),w.n1,w.n2,⟨t1,kp _ _ h1 (fun e=>(w.p7 _ e).1 rfl) m2⟩,⟨t2,kp _ _ h2 (fun e=>(w.p7 _ e).2.1 rfl) m5⟩,⟨t3,kp _ _ h3 (fun e=>(w.p7 _ e).2.2.1 rfl) m6⟩,⟨t4,kp _ _ h4 (fun e=>(w.p7 _ e).2.2.2.1 rfl) m7⟩,⟨h5.clock,by simp⟩,?_,w.len,?_,w.ne,fun x hx=>?_⟩,?_,fun x hx=>.inr (by have:=lW x hx;omega)⟩
 .have:=Ds.grow Hz.ok gp (fun x hx e=>by have:=lW x hx;have:=ow Lf (.inr (.inr (.inr (.inr (.inl rfl)))));omega);simpa using this
 .have:Dfs.c7 ⟨s.seen,s.left++[b]⟩=Dfs.c7 s:=rfl;rw[this];simp;omega
 .have:=lW x hx;have o1:=ow S (.inl rfl);have o2:=ow sb (.inr (.inl rfl));have o3:=ow Fb (.inr (.inr (.inl rfl)));have o4:=ow V (.inr (.inr (.inr (.inl rfl))));have o5:=ow Lf (.inr (.inr (.inr (.inr (.inl rfl)))));exact⟨by omega,by omega,by omega,by omega,by omega⟩
 .exact ex.trans' gp (fun x _ h=>.inr (.inr h)) (fun x _ e=>.inr (.inl e)) |>.bH (fun _ _ h=>h)
theorem ZB{x:GB}(h:bs[b]?=some x):Dfs.row (qG bs) b=x.to.map Int.toNat:=by unfold Dfs.row qG;rw[tV,h];rfl
theorem Ce(E:jn bs):∀b t,t∈Dfs.row (qG bs) b->t<bs.length:=by
 intro b t ht;unfold Dfs.row qG at ht;rw[tV] at ht;cases hb:bs[b]? with
 |none=>rw[hb] at ht;simp at ht
 |some x=>
  rw[hb] at ht;simp at ht;obtain⟨a,ha,rfl⟩:=ht;have:=E.to x (bU hb) a ha;omega
theorem PV{dD:List (List Nat)}{k:Nat}{ns:List Nat}{j x:Nat}(hx:ns[j]?=some x)(s:Dfs.DS):Dfs.foldM dD k (ns.reverse.take (ns.length-j)) s=(let s1:=Dfs.foldM dD k (ns.reverse.take (ns.length-(j+1))) s;if s1.seen[x]?=some true then s1 else Dfs.visitM dD k x s1):=by
 have hj:=(bK.mp hx).1;have e:ns.length-j=(ns.length-(j+1))+1:=by omega
 have hr:ns.reverse[ns.length-(j+1)]?=some x:=by rw[List.getElem?_reverse (by omega)];rw[<-hx];congr 1;omega
 rw[e,yS,hr];unfold Dfs.foldM;rw[List.foldl_append];rfl
section
variable{h0:ab}{bs:List GB}{B:SV}
theorem Rv(gL:bl h0)(hB:yM h0 B bs)(E:jn bs)(hn:bs.length=n):∀(k b:Nat)(h:ab)(L:SV)(s:Dfs.DS),Tv h0 h n S sb Fb V Lf name p r B L s->b<n->¬s.seen[b]?=some true->Dfs.c7 s<=k->aE FF ky [.int .i64 b,.pointer (some ⟨S,0,none⟩),.pointer (some ⟨Fb,0,none⟩),.pointer (some ⟨V,0,none⟩),.pointer (some ⟨Lf,0,none⟩)] h (fun _ h'=>WR h0 h n S sb Fb V Lf name p r B L (Dfs.visitM (qG bs) k b s) h'):=by
 intro k;induction k with
 |zero=>
  intro b h L s w hb hs hk;have:=Dfs.Ac (s:=s) (b:=b) (by rw[w.len];exact hb) hs;omega
 |succ k ih=>
  intro b h L s w hb hs hk;have Wh:=E.len;have cV:=SliceR.len hB;have hfs:=Dfs.Ac (s:=s) (b:=b) (by rw[w.len];exact hb) hs;obtain⟨x,hx⟩:=ay bs b;have hm:=bU hx;obtain⟨t1,hS⟩:=w.hS;obtain⟨t2,CM⟩:=w.CM;obtain⟨t3,hF⟩:=w.hF;obtain⟨m1,m2,m3,m4,m5,m6,m7⟩:=w.ne;have ok:=w.g.ok;have ow:=w.bE;have y5:b+1<=s.seen.length:=by rw[w.len];omega
  refine aE.of Fx ?_;rw[Z8];rw[show LH=_ from rfl];unfold LH;simp[hS,hb,CM,y5]
  
  refine az.cut (fun h1=>Tv h0 h1 n S sb Fb V Lf name p r B L ⟨s.seen.set b true,s.left⟩/\aa (· =sb) h h1) ?_ ?_
  .have gp:aa (· =sb) h (put h sb b (cX.flat s.seen) [.bool true] 0):=aJ ok CM;have kp:∀y (ob:rV),h.tr.get y=some ob->y≠sb->(put h sb b (cX.flat s.seen) [.bool true] 0).tr.get y=some ob:=fun y ob hy n1=>gp.get ok hy n1;obtain⟨t4,hV⟩:=w.hV;obtain⟨t5,hL⟩:=w.hL;refine⟨⟨w.g.put ⟨_,CM⟩ (.inl w.n1),w.n1,w.n2,⟨t1,kp _ _ hS m1⟩,⟨h.clock,by rw[aA,qf _ _ _ (by omega)]⟩,⟨t3,kp _ _ hF (Ne.symm m3)⟩,⟨t4,kp _ _ hV (Ne.symm m4)⟩,⟨t5,kp _ _ hL (Ne.symm m5)⟩,w.acc.grow ok gp (fun y hy e=>(w.p7 y hy).2.1 e),by simp[w.len],?_,w.ne,w.p7⟩,gp⟩;have:=w.ll;show s.left.length+Dfs.c7 ⟨s.seen.set b true,s.left⟩<=n;omega
  rintro h1⟨w1,g1⟩;obtain⟨bb,off,c,dZ,_,_,⟨P,L2,T,rfl,sP,sL,sT⟩,_,cS⟩:=SliceR.later gL hB hx;have r5:=cS h1 w1.g 5 1 (by decide);simp[-ae] at r5;obtain⟨t6,ta⟩:=w1.hF;simp only[aj] at ta;have vj:=SliceR.len sT;unfold ad_;rw[hn] at cV;simp only[SV.Tj,dZ,cV] at ta;simp[aq ta,hb,r5,-ae];refine aF.call (V:=fun v h'=>v=.func (.func bQ) #[] #[.pointer (some ⟨h1.next,0,none⟩)]/\h'=aD h1 [T.v] 0) (by simpa using HJ h1 T) ?_;rintro _ h2⟨rfl,e2⟩;have MV:aa aG h1 h2:=by rw[e2];exact aH w1.g.ok _ _
  have akD:h2.tr.get h1.next=some (.aC [T.v] false 0 0):=by rw[e2];exact bq _ _ _
  have hnx2:h2.next=h1.next+1:=by rw[e2];rfl
  clear e2;simp;have g2':=w1.g.trans MV;have ok2:=g2'.ok;have ow1:=w1.bE;have ale:h.next<=h1.next:=g1.next;have ob2:=ok2.bE akD;generalize hse:(⟨s.seen.set b true,s.left⟩:Dfs.DS)=s1 at*;have arA:Dfs.c7 s1<=k:=by omega
  have ala:s1.seen.length=n:=w1.len;obtain⟨ns,hns⟩:∃ns,ns=x.to.map Int.toNat:=⟨_,rfl⟩;have ar8:ns.length=x.to.length:=by rw[hns];simp
  have hltn:∀(i:Nat),WK S sb Fb V Lf L i->i<h2.next:=fun i hi=>by have:=ow1 i hi;have:=MV.next;omega
  refine az.ET (g:=bQ) (first:= #[]) (caps:= #[.pointer (some ⟨h1.next,0,none⟩)]) (by simp) ?_;obtain⟨e,he⟩:∃e,e=((((((((((((((((Tr.nil.set 0 (Value.int IntKind.i64 ↑b)).set 1 (Value.pointer (some { block:=S,off:=0 }))).set 2 (Value.pointer (some { block:=Fb,off:=0 }))).set 3 (Value.pointer (some { block:=V,off:=0 }))).set 4 (Value.pointer (some { block:=Lf,off:=0 }))).set 8 (Value.slice (some { block:=sb,off:=0 }) n n)).set 9 (Value.int IntKind.i64 ↑b)).set 10 (Value.pointer (some { block:=sb,off:=b }))).set 11 (Value.pointer (some { block:=Fb,off:=3 }))).set 12 (Value.slice (some { block:=bb,off:=off }) n B.c)).set 13 (Value.int IntKind.i64 ↑b)).set 14 (Value.pointer (some { block:=bb,off:=off+b*6 }))).set 15 (Value.pointer (some { block:=bb,off:=off+b*6+2 }))).set 16 (Value.pointer (some { block:=bb,off:=off+b*6+2+3 }))).set 17 (Value.slice T.a T.l T.c)).set 18 (Value.func (Fn.func bQ) #[] #[Value.pointer (some { block:=h1.next,off:=0 })])):=⟨_,rfl⟩;rw[<-he];have e1:ai e 1=.pointer (some ⟨S,0,none⟩):=by rw[he];simp
  have e3:ai e 3=.pointer (some ⟨V,0,none⟩):=by rw[he];simp
  have e0:ai e 0=.int .i64 b:=by rw[he];simp
  have e4:ai e 4=.pointer (some ⟨Lf,0,none⟩):=by rw[he];simp
  clear he;have g23:aa aG h2 (h2.new (.loop e [19,20] ye uF .ready)):=by
   refine⟨Nat.le_succ _,dH _,fun b hb _=>FU _ hb,⟨fun b ob hb=>?_,fun b cs ro op s hb=>?_⟩⟩
   .simp only[ab.new,Tr.aW] at hb⊢;by_cases e:b=h2.next
    .omega
    .rw[bc e] at hb;exact Nat.lt_succ_of_lt (ok2.wf b ob hb)
   .simp only[ab.new,Tr.aW] at hb⊢;by_cases e:b=h2.next
    .rw[aY e] at hb;cases hb
    .rw[bc e] at hb;exact ok2.st b cs ro op s hb
  have XY:(h2.new (.loop e [19,20] ye uF .ready)).tr.get h2.next=some (.loop e [19,20] ye uF .ready):=by simp[ab.new,Tr.aW]
  have hnx3:(h2.new (.loop e [19,20] ye uF .ready)).next=h2.next+1:=rfl
  generalize h2.new (.loop e [19,20] ye uF .ready)=h3 at*;have IU:aa aG h1 h3:=MV.trans g23;have w3:Tv h0 h3 n S sb Fb V Lf name p r B L s1:=w1.uQ IU (fun _ _ h=>h) (w1.g.trans IU);have arj:=g23.get ok2 akD
  
  let I:Nat->ab->Prop:=fun j hh=>∃L':SV,Tv h0 hh n S sb Fb V Lf name p r B L' (Dfs.foldM (qG bs) k (ns.reverse.take (ns.length-j)) s1)/\(∀y,aw L'.v y->aw L.v y\/h3.next<=y)/\aa (fun y=>PW sb Lf L y\/y=h2.next) h3 hh/\hh.tr.get h2.next=some (.loop e [19,20] ye uF .ready)/\hh.tr.get h1.next=some (.aC [T.v] false 0 0)
  have agJ:∀L':SV,(∀y,aw L'.v y->aw L.v y\/h3.next<=y)->∀y,WK S sb Fb V Lf L' y->y≠h2.next/\y≠h1.next:=by
   intro L' hL' y hy;have lo:∀y,WK S sb Fb V Lf L y->y<h1.next:=ow1;rcases hy with h|h|h|h|h|h
   .have:=lo y (.inl h);omega
   .have:=lo y (.inr (.inl h));omega
   .have:=lo y (.inr (.inr (.inl h)));omega
   .have:=lo y (.inr (.inr (.inr (.inl h))));omega
   .have:=lo y (.inr (.inr (.inr (.inr (.inl h)))));omega
   .rcases hL' y h with h|h
    .have:=lo y (.inr (.inr (.inr (.inr (.inr h)))));omega
    .omega
  have BD:=Fp (h0:=h0) (h:=h3) gL (b:=h1.next) sT (by have:=E.two x hm;omega) (y:=.func (.yield h2.next) #[] #[]) I (fun j hh ⟨L',w',_,_,_,jf⟩=>⟨w'.g,0,jf⟩) ?_ ⟨L,by rw[<-ar8];simpa [Dfs.foldM] using w3,fun y hy=>.inl hy,.refl w3.g.ok,XY,arj⟩
  .refine(by simpa using BD:aE FF bQ _ _ _).mono ?_;rintro _ h4⟨L',w4,hL4,g34,I8,HC⟩;refine rZ.ready I8 ?_;refine Eq.mp (by rw[Q0];rfl) (?_:az FF _ _ _ _);have gd:aa (· =h2.next) h4 (zq h4 h2.next):=kq w4.g.ok h2.next;have l02:h0.next<=h2.next:=g2'.next;have w5:=w4.uQ gd (fun y hy e=>(agJ L' hL4 y hy).1 e) (w4.g.trans' gd (fun _ _ h=>h) (fun y hy e=>by omega));have rp:Dfs.row (qG bs) b=ns:=by rw[ZB hx,hns]
   have oH:ns.reverse.take (ns.length-0)=ns.reverse:=gJ_ (by simp);rw[oH] at w5;have afr:=Dfs.vQ (Dfs.D4 (Ce E) k) ns.reverse s1 (by rw[ala,hn]) (fun t ht=>Ce E b t (by rw[rp];exact List.mem_reverse.1 ht));have asF:s1.left=s.left:=by rw[<-hse]
   have yZ:=w.ll;rw[asF] at afr;refine acQ (by omega) w5 (by omega) e0 e4 ?_;rintro e' h'⟨L2',w6,g6,Qb⟩;simp;have hv:Dfs.visitM (qG bs) (k+1) b s=⟨(Dfs.foldM (qG bs) k ns.reverse s1).seen,(Dfs.foldM (qG bs) k ns.reverse s1).left++[b]⟩:=by rw[Dfs.qh,rp,hse]
   rw[hv];have l5:h4.next<=(zq h4 h2.next).next:=gd.next
   refine⟨L2',w6,?_,fun y hy=>?_⟩
   .have q1:aa (PW sb Lf L) h h1:=g1.bH (fun _ _ e=>.inl e);have q2:aa (PW sb Lf L) h h3:=q1.trans IU.aX;have q3:aa (PW sb Lf L) h h4:=q2.trans' g34 (fun _ _ h=>h) (fun y hy h=>h.elim id (fun e=>by omega));have q4:aa (PW sb Lf L) h (zq h4 h2.next):=q3.trans' gd (fun _ _ h=>h) (fun y hy e=>by omega);refine q4.trans' g6 (fun _ _ h=>h) (fun y hy h=>?_);rcases h with h|h|h
    .exact .inl h
    .exact .inr (.inl h)
    .rcases hL4 y h with h|h
     .exact .inr (.inr h)
     .omega
   .rcases Qb y hy with h|h
    .rcases hL4 y h with h|h
     .exact .inl h
     .exact .inr (by omega)
    .exact .inr (by have:=g34.next;omega)
  .intro j y hh hy ⟨L',w',hL',g3h,hlh,hbh⟩;have CV:=w'.g.ok;have nL:=agJ L' hL';have l3h:=g3h.next;have hyn:(ns[j]?)=some y.toNat:=by rw[hns,tV,hy];rfl
   obtain⟨hy0,vC⟩:=E.to x hm y (bU hy);obtain⟨u,rfl⟩:∃u:Nat,y=u:=⟨y.toNat,by omega⟩;rw[gP_] at hyn;have xg:u<n:=by omega
   have te:=PV (dD:=qG bs) (k:=k) hyn s1;generalize hsj:Dfs.foldM (qG bs) k (ns.reverse.take (ns.length-(j+1))) s1=sj at*;have aws:sj.seen.length=n:=w'.len;have hfj:Dfs.c7 sj<=k:=by rw[<-hsj];exact xf (Dfs.xI (Dfs.Ci (qG bs) k) _ _) arA
   obtain⟨bv,hbv⟩:=ay sj.seen u
   let K:ab->Prop:=fun h'=>∃L'':SV,Tv h0 h' n S sb Fb V Lf name p r B L'' (Dfs.foldM (qG bs) k (ns.reverse.take (ns.length-j)) s1)/\(∀z,aw L''.v z->aw L.v z\/h3.next<=z)/\h'.tr.get h1.next=some (.aC [T.v] false 0 0)
   refine(AF (S:=PW sb Lf L') (K:=K) CV (l:=h2.next) (fun h=>?_) hlh ?_ ?_).mono ?_
   .rcases h with h|h|h
    .exact(nL sb (.inr (.inl rfl))).1 h.symm
    .exact(nL Lf (.inr (.inr (.inr (.inr (.inl rfl)))))).1 h.symm
    .exact(nL _ (.inr (.inr (.inr (.inr (.inr h)))))).1 rfl
   .unfold ye;simp;refine⟨.refl CV,fun h5 g5=>?_⟩;have l0h:h0.next<=h2.next:=g2'.next;have w5:=w'.uQ g5 (fun y hy e=>(nL y hy).1 e) (w'.g.trans' g5 (fun _ _ h=>h) (fun y hy e=>by omega));have Su:=g5.get CV hbh (fun e=>by omega);obtain⟨t7,hS5⟩:=w5.hS;obtain⟨t8,asG⟩:=w5.CM;obtain⟨t9,hV5⟩:=w5.hV;have rs:=AD asG hbv;unfold uF;cases bv with
    |true=>
     simp[e1,aq hS5,xg,rs,-ae];refine⟨.refl w5.g.ok,L',?_,hL',Su⟩;rw[te];simpa [hbv] using w5
    |false=>
     simp[e1,e3,aq hS5,aq hV5,xg,rs,-ae];refine aF.cu (V:=fun _ h'=>WR h0 h5 n S sb Fb V Lf name p r B L' (Dfs.visitM (qG bs) k u sj) h') ?_ ?_
     .have V1:cP FF (.func (.func ky) #[] #[.pointer (some ⟨S,0,none⟩),.pointer (some ⟨Fb,0,none⟩),.pointer (some ⟨V,0,none⟩),.pointer (some ⟨Lf,0,none⟩)]) [.int .i64 u] h5 (fun _ h'=>WR h0 h5 n S sb Fb V Lf name p r B L' (Dfs.visitM (qG bs) k u sj) h'):=
       cP.func (by simpa using ih u h5 L' sj w5 xg (by rw[hbv];simp) hfj)
      simpa using V1
     rintro v h6⟨L'',w6,g6,Qb⟩;simp;have l5h:=g5.next;refine⟨g6,L'',?_,fun z hz=>?_,g6.get w5.g.ok Su (fun h=>?_)⟩
     .rw[te];simpa [hbv] using w6
     .rcases Qb z hz with h|h
      .exact hL' z h
      .exact .inr (by omega)
     .rcases h with h|h|h
      .exact(nL sb (.inr (.inl rfl))).2 h.symm
      .exact(nL Lf (.inr (.inr (.inr (.inr (.inl rfl)))))).2 h.symm
      .exact(nL _ (.inr (.inr (.inr (.inr (.inr h)))))).2 rfl
   .rintro h5 h6⟨L'',w6,Qb,V3⟩ ok5 g6;have l0h:h0.next<=h2.next:=g2'.next;exact⟨L'',w6.uQ g6 (fun y hy e=>(agJ L'' Qb y hy).1 e) (w6.g.trans' g6 (fun _ _ h=>h) (fun y hy e=>by omega)),Qb,g6.get ok5 V3 (fun e=>by omega)⟩
   .rintro v h5⟨rfl,g5,Sy,L'',w6,Qb,V3⟩;refine⟨rfl,L'',w6,Qb,?_,Sy,V3⟩;refine g3h.trans' g5 (fun _ _ h=>h) (fun z hz h=>?_);rcases h with h|h
    .rcases h with h|h|h
     .exact .inl (.inl h)
     .exact .inl (.inr (.inl h))
     .rcases hL' z h with h|h
      .exact .inl (.inr (.inr h))
      .omega
    .exact .inr h
end
theorem iH{ws:List Int}(hW:h.tr.get W=some (.aC (bg.flat ws) ro o s)){x:Int}(hk:ws[k]?=some x):aV h W k 1=some [.int .i64 x]:=by have hl:=(bK.mp hk).1;rw[cx hW (by rw[bg.bh];show k+1<=ws.length*1;omega)];have:=bg.jQ ws k 0 1 x hk (by decide);simp only[IW] at this;rw[show k=k*bg.sz from(Nat.mul_one k).symm,this];rfl
theorem oq(ws:List Int)(i:Nat)(x:Int)(h:i<ws.length):aR (bg.flat ws) i [.int .i64 x]=bg.flat (ws.set i x):=by have:=bg.dS ws i x h;simpa using this
def qQ(bs:List GB):List Int:=(Dfs.mO (qG bs) bs.length).map fun x:Nat=>(x:Int)
theorem FL(n:Nat):Dfs.c7 ⟨List.replicate n false,[]⟩=n:=by
 unfold Dfs.c7;dsimp only;induction n with
 |zero=>rfl
 |succ n ih=>rw[List.replicate_succ,List.countP_cons,ih];rfl
theorem Jz(ok:bl h){name:ByteArray}{p r:Int}(hB:yM h B bs)(E:jn bs)(h0:0<bs.length):aE FF BO [.agg ⟨aj name p r B⟩] h (fun v h'=>aa aG h h'/\∃L:SV,v=L.v/\bJ bg h.next h' L.v (qQ bs)):=by
 have cV:=SliceR.len hB;have hl:=E.len;have r1:roomy bs.length=true:=by simp[roomy];omega
 have r2:roomy (bs.length*1)=true:=by simp[roomy];omega
 have hr:iP [Value.bool false] bs.length=cX.flat (List.replicate bs.length false):=by
  have:∀n,iP [Value.bool false] n=cX.flat (List.replicate n false):=by
   intro n;induction n with
   |zero=>rfl
   |succ n ih=>rw[List.replicate_succ,Enc.eo,<-ih];rfl
  exact this _
 refine aE.of J4 ?_;unfold Bf;simp[aj,cV,r1,hr];refine aF.cut (fun h1=>Tv h h1 bs.length (h.next+3) (h.next+2) h.next (h.next+4) (h.next+1) name p r B cJ ⟨List.replicate bs.length false,[]⟩) ?_ ?_
 .refine⟨?_,by omega,by omega,⟨h.clock,?_⟩,⟨0,?_⟩,⟨0,?_⟩,⟨h.clock+1,?_⟩,⟨0,?_⟩,.inl ⟨rfl,rfl⟩,by simp,by simp[FL],by omega,fun b ⟨_,_,_,e⟩=>by cases e⟩
  .repeat (first|exact .refl ok|apply aa.new|refine aa.put ?_ (by simp[AL]) (.inl (by omega)))
  .simp[AL]
  .simp[AL]
  .simp[AL,aj,cV]
  .simp[AL]
  .simp[AL,cJ]
 intro h1 w;obtain⟨t4,hV⟩:=w.hV;have lV:=(w.g.ok.bE hV).lt;refine aF.cu (V:=fun _ h'=>WR h h1 bs.length (h.next+3) (h.next+2) h.next (h.next+4) (h.next+1) name p r B cJ (Dfs.visitM (qG bs) bs.length 0 ⟨List.replicate bs.length false,[]⟩) h') ?_ ?_
 .have V1:=Rv ok hB E rfl bs.length 0 h1 cJ _ w h0 (by simp[T7]) (by rw[FL];exact dH _);have V2:cP FF (.func (.func ky) #[] #[.pointer (some ⟨h.next+3,0,none⟩),.pointer (some ⟨h.next,0,none⟩),.pointer (some ⟨h.next+4,0,none⟩),.pointer (some ⟨h.next+1,0,none⟩)]) [.int .i64 0] h1 _:=cP.func (by simpa using V1);simpa using V2
 rintro v h2⟨L,w2,g2,_⟩;obtain⟨t5,hL⟩:=w2.hL;simp at hL;simp[hL];exact⟨w2.g,L,⟨rfl,rfl,rfl⟩,w2.acc⟩
def api(n0 b:Nat)(h:ab)(xs:List Int)(m:Nat)(e:Env)(h2:ab):Prop:=
 ∃(i:Nat) (ys:List Int),m=xs.length-i/\i<=xs.length/\ai e 0=.slice (some ⟨b,0,none⟩) xs.length xs.length/\ai e 2=.int .i64 i/\ai e 3=.int .i64 ((xs.length:Int)-1-i)/\aa (· =b) h h2/\(∃s,h2.tr.get b=some (.aC (bg.flat ys) false 1 s))/\ys.length=xs.length/\∀k,k<xs.length->ys[k]?=if k<i\/xs.length<=k+i then xs[xs.length-1-k]? else xs[k]?
theorem Li(ok:bl h){n0:Nat}{xs:List Int}(a:bJ bg n0 h L.v xs)(hl:xs.length<1000000):aE FF mf [L.v] h (fun _ h'=>aa (aw L.v) h h'/\bJ bg n0 h' L.v xs.reverse):=by
 have w:=wrap_i64 ((xs.length:Int)-1) (by omega) (by omega);refine aE.of uI ?_;unfold lO;rcases a with⟨rfl,e⟩|⟨b,s,e,hb,hx,hn⟩
 .have w0:IntKind.i64.wrap (0-1)= -1:=wrap_i64 _ (by omega) (by omega);have w0':IntKind.i64.wrap (-1)= -1:=wrap_i64 _ (by omega) (by omega);rw[e];simp[w0,w0'];rw[pH];unfold gI;simp;exact⟨.refl ok,.inl ⟨rfl,rfl⟩⟩
 .rw[e];simp[w];refine az.loop (api n0 b h xs) ?_ (n:=xs.length) ⟨0,xs,rfl,by omega,by simp,by simp,by simp,.refl ok,⟨s,hb⟩,rfl,fun k hk=>by rw[bc (by omega)]⟩;rintro m e2 h2⟨i,ys,rfl,hi,f0,f2,f3,g2,⟨s2,cC⟩,vC,Je⟩;unfold gI;by_cases vz:(i:Int)<(xs.length:Int)-1-i
  .obtain⟨j,hj⟩:∃j:Nat,(j:Int)=(xs.length:Int)-1-i:=⟨xs.length-1-i,by omega⟩;have aM:j<xs.length:=by omega
   have fu:i<xs.length:=by omega
   rw[<-hj] at f3;have akZ:i<j:=by omega
   obtain⟨x,hx1⟩:=ay ys i;obtain⟨y,hy1⟩:=ay ys j;have rx:=iH cC hx1;have ry:=iH cC hy1;have wi:=wrap_i64 ((i:Int)+1) (by omega) (by omega);have wj:=wrap_i64 ((j:Int)-1) (by omega) (by omega);have k1:i+1<=ys.length:=by omega
   have k2:j+1<=ys.length:=by omega
   have sp1:aR (bg.flat ys) i [.int .i64 y]=bg.flat (ys.set i y):=oq _ _ _ (by omega);have ZZ:aR (bg.flat (ys.set i y)) j [.int .i64 x]=bg.flat ((ys.set i y).set j x):=oq _ _ _ (by simp;omega);simp[f0,f2,f3,akZ,aM,fu,aB,rx,ry,cC,k1,k2,wi,wj,sp1,-ae];have vk:(put (tick h2) b i (bg.flat ys) [.int .i64 y] 1).tr.get b=some (.aC (bg.flat (ys.set i y)) false 1 (tick h2).clock):=by rw[aA,sp1]
   have g3:aa (· =b) h (put (tick h2) b i (bg.flat ys) [.int .i64 y] 1):=g2.tick.trans (aJ g2.tick.ok cC);refine⟨xs.length-(i+1),by omega,i+1,(ys.set i y).set j x,rfl,by omega,by simp[f0],by simp,by simp;omega,g3.trans (aJ g3.ok vk),⟨_,by rw[aA,ZZ]⟩,by simp[vC],fun k hk=>?_⟩;rw[eu,eu];have hyi:=Je i fu;have hyj:=Je j aM;rw[bc (by omega)] at hyi hyj;by_cases e1:j=k
   .subst e1;rw[aY rfl,aY (by simp;omega),aY (by omega),<-hx1,hyi];congr 1;omega
   .rw[bc e1];by_cases e2:i=k
    .subst e2;rw[aY rfl,aY (by omega),aY (by omega),<-hy1,hyj];congr 1;omega
    .rw[bc e2,Je k hk];by_cases c:k<i\/xs.length<=k+i
     .rw[aY c,aY (by omega)]
     .rw[bc c,bc (by omega)]
  .simp[f2,f3,vz];have e:ys=xs.reverse:=by
    refine yT fun k=>?_;by_cases hk:k<xs.length
    .rw[List.getElem?_reverse hk,Je k hk];split
     .rfl
     .congr 1;omega
    .rw[qY (by omega),qY (by simp;omega)]
   refine⟨g2.bH (fun x _ e=>e▸⟨_,_,_,rfl⟩),.inr ⟨b,s2,by simp,by rw[<-e];exact cC,by simpa using hx,hn⟩⟩
theorem GW(ok:bl h){name:ByteArray}{p r:Int}(hB:yM h B bs)(E:jn bs)(h0:0<bs.length):aE FF qv [.agg ⟨aj name p r B⟩] h (fun v h'=>aa aG h h'/\∃L:SV,v=L.v/\bJ bg h.next h' L.v (qQ bs).reverse):=by
 refine aE.of Ec ?_;unfold wE;simp[aj];have g0:=aH ok (aj name p r B) 0;refine aF.call (V:=fun v h'=>aa aG (aD h (aj name p r B) 0) h'/\∃L:SV,v=L.v/\bJ bg (h.next+1) h' L.v (qQ bs)) (by simpa [aj] using Jz g0.ok (name:=name) (p:=p) (r:=r) (hB.mono ok g0) E h0) ?_;rintro _ h1⟨g1,L,rfl,hA⟩;have gg:=g0.trans g1;have cj:(qQ bs).length<1000000:=by
  have P:=Dfs.yD h0 (Ce E);have:(Dfs.mO (qG bs) bs.length).length<=bs.length:=by have:=gK_ P.1 (l₂:=List.range bs.length) (fun x hx=>PY.2 (P.2.1 x hx));simpa using this
  have:=E.len;unfold qQ;simp;omega
 simp;refine aF.call (V:=fun _ h'=>aa (aw L.v) h1 h'/\bJ bg (h.next+1) h' L.v (qQ bs).reverse) (by simpa using Li gg.ok hA cj) ?_;rintro _ h2⟨g2,MW⟩;simp;refine⟨gg.trans' g2 (fun _ _ h=>h) (fun x hx e=>by have:=hA.of e;omega),L,⟨rfl,rfl,rfl⟩,?_⟩;rcases MW with a|⟨b,s,e,hb,hx,hn⟩
 .exact .inl a
 .exact .inr ⟨b,s,e,hb,hx,by omega⟩
end Go.Proofs.YtdhnndleffachaaGreatDoor
namespace Go.AI.Dom
variable{A B u:Nat->Nat}{b i k x y:Nat}
inductive de(u:Nat->Nat):Nat->Nat->Prop
 |refl (x:Nat):de u x x
 |step {x y:Nat} :de u (u x) y->de u x y
structure Down(u:Nat->Nat):Prop where
 zero:u 0=0
 lt:∀i,0<i->u i<i
theorem de.trans{x y z:Nat}(h:de u x y)(k:de u y z):de u x z:=by
 induction h with
 |refl=>exact k
 |step _ ih=>exact .step (ih k)
theorem de.le(d:Down u)(h:de u x y):y<=x:=by
 induction h with
 |refl=>exact dH _
 | @step x y _ ih=>
  rcases uM x with rfl|hx
  .rw[d.zero] at ih;exact ih
  .have:=d.lt x hx;omega
theorem de.up(h:de u x y)(hn:x≠y):de u (u x) y:=by
 cases h with
 |refl=>exact absurd rfl hn
 |step h=>exact h
theorem de.local{u v:Nat->Nat}(d:Down u)(e:∀i,i<b->u i=v i)(h:de u x y)(hx:x<b):de v x y:=by
 induction h with
 |refl=>exact .refl _
 | @step x y _ ih=>
  refine .step ?_;rw[<-e x hx];refine ih ?_;rcases uM x with rfl|h0
  .rw[d.zero];exact hx
  .have:=d.lt x h0;omega
def mix(A B:Nat->Nat)(b i:Nat):Nat:=if i<b then B i else A i
theorem YR(h:i<b):mix A B b i=B i:=aY h
theorem QG(h:¬i<b):mix A B b i=A i:=bc h
theorem Down.mix{A B:Nat->Nat}(a:Down A)(b:Down B)(k:Nat):Down (mix A B k):=by
 refine⟨?_,fun i hi=>?_⟩
 .unfold Dom.mix;split
  .exact b.zero
  .exact a.zero
 .unfold Dom.mix;split
  .exact b.lt i hi
  .exact a.lt i hi
theorem uc(a:Down A)(b:Down B)(hx:x<k):de (mix A B k) x y↔de B x y:=
 ⟨fun h=>h.local (a.mix b k) (fun i hi=>YR hi) hx,fun h=>h.local b (fun i hi=>(YR hi).symm) hx⟩
theorem MQ(a:Down A)(hb:0<b):∀w,∃q,q<b/\de A w q/\∀B,de (mix A B b) w q/\∀x,x<b->de (mix A B b) w x->de (mix A B b) q x:=by
 intro w;induction w using Nat.strongRecOn with
 |ind w ih=>
  by_cases h:w<b
  .exact⟨w,h,.refl _,fun B=>⟨.refl _,fun _ _ h=>h⟩⟩
  .have hw:0<w:=by omega
   obtain⟨q,h1,h2,h3⟩:=ih (A w) (a.lt w hw);refine⟨q,h1,.step h2,fun B=>?_⟩;obtain⟨h4,h5⟩:=h3 B;refine⟨.step (by rw[QG h];exact h4),fun x hx hA=>?_⟩;have:=hA.up (by omega);rw[QG h] at this;exact h5 x hx this
section
variable(m:Nat)(uB:Nat->List Nat)
def Round(A B:Nat->Nat):Prop:=∀b,0<b->b<m->(∀w∈uB b,de (mix A B b) w (B b))/\∀z,(∀w∈uB b,de (mix A B b) w z)->de (mix A B b) (B b) z
def WN(B:Nat->Nat):Prop:=∀b,0<b->b<m->(∀w∈uB b,w<b->de B w (B b))/\∀z,(∀w∈uB b,w<b->de B w z)->de B (B b) z
def vb(A B:Nat->Nat):Prop:=∀p,0<p->p<m->de B (A p) (B p)
end
section
variable{m:Nat}{uB:Nat->List Nat}{A B C:Nat->Nat}
theorem vb.mono(dA:Down A)(dB:Down B)(W:∀p,0<p->p<k->de B (A p) (B p)):∀w,w<k->∀x,de B w x->de A w x:=by
 intro w;induction w using Nat.strongRecOn with
 |ind w ih=>
  intro hw x hx;by_cases e:w=x
  .subst e;exact .refl _
  .rcases uM w with rfl|h0
   .have:=hx.le dB;omega
   .have h1:=hx.up e;have h2:=(W w h0 hw).trans h1;exact .step (ih (A w) (dA.lt w h0) (by have:=dA.lt w h0;omega) x h2)
theorem vb.below(dA:Down A)(dB:Down B)(W:∀p,0<p->p<k->de B (A p) (B p))(hb:0<b):∀p,p<k->∃q,q<b/\de A p q/\de (mix A B b) p q/\∀x,x<b->de B p x->de B q x:=by
 intro p;induction p using Nat.strongRecOn with
 |ind p ih=>
  intro hp;by_cases h:p<b
  .exact⟨p,h,.refl _,.refl _,fun _ _ h=>h⟩
  .have h0:0<p:=by omega
   have hl:=dA.lt p h0;obtain⟨q,h1,h2,h3,h4⟩:=ih (A p) hl (by omega);refine⟨q,h1,.step h2,.step (by rw[QG h];exact h3),fun x hx hB=>?_⟩;exact h4 x hx ((W p h0 hp).trans (hB.up (by omega)))
theorem vb.over(dB:Down B)(W:∀p,0<p->p<k->de C (B p) (C p)):∀w,w<k->∀u,de B w u->∀x,x<=u->de C w x->de C u x:=by
 intro w;induction w using Nat.strongRecOn with
 |ind w ih=>
  intro hw u hu x hx hC;by_cases e:w=u
  .subst e;exact hC
  .have hle:=hu.le dB;have h0:0<w:=by omega
   have hl:=dB.lt w h0;exact ih (B w) hl (by omega) u (hu.up e) x hx ((W w h0 hw).trans (hC.up (by omega)))
theorem Hf(dA:Down A)(dB:Down B)(dC:Down C)(hf:∀b,0<b->b<m->∃w∈uB b,w<b)(hp:∀b w,w∈uB b->w<m)(hAB:WN m uB B\/(Round m uB A B/\vb m A B))(hBC:Round m uB B C):vb m B C:=by
 intro p;induction p using Nat.strongRecOn with
 |ind p ih=>
  intro h0 LU;have W:∀q,0<q->q<p->de C (B q) (C q):=fun q hq hqp=>ih q hqp hq (by omega);have mono:=vb.mono dB dC W;obtain⟨c1,_⟩:=hBC p h0 LU;have hx:=dC.lt p h0;have hu:=dB.lt p h0
  
  have hB:de B (B p) (C p):=by
   rcases hAB with h|⟨h,hW⟩
   .refine(h p h0 LU).2 _ fun w hw Yo=>?_;exact mono w Yo _ ((uc dB dC Yo).1 (c1 w hw))
   .refine(uc dA dB hu).1 ((h p h0 LU).2 _ fun w hw=>?_);by_cases Yo:w<p
    .exact(uc dA dB Yo).2 (mono w Yo _ ((uc dB dC Yo).1 (c1 w hw)))
    .obtain⟨q,q1,q2,q3⟩:=MQ dB h0 w;have h1:=(q3 C).2 _ hx (c1 w hw);have h2:=mono q q1 _ ((uc dB dC q1).1 h1);have h3:=q2.trans h2;obtain⟨r,r1,_,r3,r4⟩:=vb.below dA dB hW h0 w (hp p w hw);exact r3.trans ((uc dA dB r1).2 (r4 _ hx h3))
  have hle:=hB.le dB;obtain⟨w,hw,Yo⟩:=hf p h0 LU;have hwu:de B w (B p):=by
   rcases hAB with h|⟨h,_⟩
   .exact(h p h0 LU).1 w hw Yo
   .exact(uc dA dB Yo).1 ((h p h0 LU).1 w hw)
  exact vb.over dB W w Yo _ hwu _ hle ((uc dB dC Yo).1 (c1 w hw))
theorem vb.le(dB:Down B)(dA:Down A)(W:vb m A B):∀p,p<m->B p<=A p:=by
 intro p hp;rcases uM p with rfl|h0
 .rw[dB.zero,dA.zero];exact dH _
 .exact(W p h0 hp).le dB
end
def total(u:Nat->Nat):Nat->Nat
 |0=>0
 |n+1=>total u n+u n
theorem Ov{u v:Nat->Nat} :∀n,(∀i,i<n->u i<=v i)->total u n<=total v n
 |0,_=>dH _
 |n+1,h=>by have:=Ov n (fun i hi=>h i (by omega));have:=h n (by omega);simp only[total];omega
theorem Ow{u v:Nat->Nat} :∀n,(∀i,i<n->u i<=v i)->(∃i,i<n/\u i≠v i)->total u n<total v n
 |0,_,⟨i,hi,_⟩=>by omega
 |n+1,h,⟨i,hi,hn⟩=>by
  have h1:=Ov n (fun i hi=>h i (by omega));have h2:=h n (by omega);simp only[total];by_cases e:i=n
  .subst e;omega
  .have:=Ow n (fun i hi=>h i (by omega)) ⟨i,by omega,hn⟩;omega
theorem D2{u:Nat->Nat}{k:Nat} :∀n,(∀i,i<n->u i<=k)->total u n<=n*k
 |0,_=>by simp[total]
 |n+1,h=>by have:=D2 n (fun i hi=>h i (by omega));have:=h n (by omega);simp only[total,tW];omega
end Go.AI.Dom
namespace Go.AI.Tree
open Go.AI.Dom
variable{A V:Nat->Nat}{aQ:List Nat}{ah:List (List Int)}{b i k n x y z:Nat}{p:Int}{ps us:List Int}
structure OE(aQ:List Nat)(us:List Int)(n:Nat)(V:Nat->Nat)(k:Nat):Prop where
 len:us.length=n
 set:∀(i x:Nat),aQ[i]?=some x->i<k->∃y:Nat,aQ[V i]?=some y/\us[x]?=some (y:Int)
 un:∀(i x:Nat),aQ[i]?=some x->k<=i->us[x]?=some (-1)
 out:∀x,x<n->x∉aQ->us[x]?=some (-1)
structure Ord(aQ:List Nat)(n:Nat):Prop where
 nd:aQ.Nodup
 lt:∀x∈aQ,x<n
 zero:aQ[0]?=some 0
theorem Ord.inj(o:Ord aQ n){i j x:Nat}(hi:aQ[i]?=some x)(hj:aQ[j]?=some x):i=j:=by have h1:=(bK.mp hi).1;have h2:=(bK.mp hj).1;have e1:=(bK.mp hi).2;have e2:=(bK.mp hj).2;exact(List.getElem_inj o.nd).1 (e1.trans e2.symm)
theorem Mc(d:Down V)(h:y<x)(w:Nat):(de V x w/\de V y w)↔(de V (V x) w/\de V y w):=by
 constructor
 .rintro⟨h1,h2⟩;have:=h2.le d;exact⟨h1.up (by omega),h2⟩
 .rintro⟨h1,h2⟩;exact⟨.step h1,h2⟩
def zN(aQ:List Nat)(V:Nat->Nat)(k:Nat)(ps:List Int)(sE:Int):Prop:=
 (sE= -1/\∀p∈ps,∀i,i<k->¬ ∃x:Nat,aQ[i]?=some x/\p=x)\/∃z y:Nat,z<k/\aQ[z]?=some y/\sE=y/\(∃p∈ps,∃i,i<k/\∃x:Nat,aQ[i]?=some x/\p=x)/\∀w,de V z w↔ ∀p∈ps,∀i,i<k->(∃x:Nat,aQ[i]?=some x/\p=x)->de V i w
theorem zN.nil(aQ:List Nat)(V:Nat->Nat)(k:Nat):zN aQ V k [] (-1):=.inl ⟨rfl,fun p hp=>by cases hp⟩
theorem zN.skip{sE p:Int}(b:zN aQ V k ps sE)(hp:∀i,i<k->¬ ∃x:Nat,aQ[i]?=some x/\p=x):zN aQ V k (ps++[p]) sE:=by
 rcases b with⟨e,h⟩|⟨z,y,hz,hy,e,⟨q,hq,hq2⟩,h⟩
 .refine .inl ⟨e,fun q hq=>?_⟩;rcases rM.1 hq with hq|hq
  .exact h q hq
  .simp at hq;subst hq;exact hp
 .refine .inr ⟨z,y,hz,hy,e,⟨q,rM.2 (.inl hq),hq2⟩,fun w=>(h w).trans ⟨fun H q hq i hi hx=>?_,fun H q hq=>H q (rM.2 (.inl hq))⟩⟩;rcases rM.1 hq with hq|hq
  .exact H q hq i hi hx
  .simp at hq;subst hq;exact absurd hx (hp i hi)
theorem zN.one(o:Ord aQ n)(b:zN aQ V k ps (-1))(hi:i<k)(hx:aQ[i]?=some x)(hp:p=x):zN aQ V k (ps++[p]) p:=by
 rcases b with⟨_,h⟩|⟨z,y,_,_,e,_⟩
 .refine .inr ⟨i,x,hi,hx,hp,⟨p,by simp,i,hi,x,hx,hp⟩,fun w=>⟨fun H q hq j hj ⟨x',qm,hq'⟩=>?_,fun H=>H p (by simp) i hi ⟨x,hx,hp⟩⟩⟩;rcases rM.1 hq with hq|hq
  .exact absurd ⟨x',qm,hq'⟩ (h q hq j hj)
  .simp at hq;subst hq;have:x'=x:=by omega
   subst this;rw[o.inj qm hx];exact H
 .omega
theorem zN.meet(o:Ord aQ n){a:Nat}{m:Int}(b:zN aQ V k ps (a:Int))(hx:aQ[i]?=some x)(hi:i<k)(hp:p=x)(hm:∀za,aQ[za]?=some a->za<k->∃z y:Nat,z<k/\aQ[z]?=some y/\m=y/\∀w,de V z w↔(de V za w/\de V i w)):zN aQ V k (ps++[p]) m:=by
 rcases b with⟨e,h⟩|⟨z,y,hz,hy,e,⟨q,hq,hq2⟩,h⟩
 .omega
 .have:a=y:=by omega
  subst this;obtain⟨z',y',Wm,EI,e',h'⟩:=hm z hy hz;refine .inr ⟨z',y',Wm,EI,e',⟨q,rM.2 (.inl hq),hq2⟩,fun w=>(h' w).trans ?_⟩;rw[h w];constructor
  .rintro⟨h1,h2⟩ q hq j hj ⟨x',qm,hq'⟩;rcases rM.1 hq with hq|hq
   .exact h1 q hq j hj ⟨x',qm,hq'⟩
   .simp at hq;subst hq;have:x'=x:=by omega
    subst this;rw[o.inj qm hx];exact h2
  .intro H;exact⟨fun q hq=>H q (rM.2 (.inl hq)),H p (by simp) i hi ⟨x,hx,hp⟩⟩
def mC(aQ:List Nat)(ah:List (List Int))(b:Nat):List Nat:=
 (List.range aQ.length).filter fun i=>match aQ[i]?,aQ[b]? with
  |some x,some y=>((ah[y]?).getD []).contains (x:Int)
  |_,_=>false
theorem rQ(hy:aQ[b]?=some y)(iT:ah[y]?=some ps) :i∈mC aQ ah b↔ ∃x:Nat,aQ[i]?=some x/\(x:Int)∈ps:=by
 unfold mC;rw[VX,PY,hy];constructor
 .rintro⟨h1,h2⟩;cases hx:aQ[i]? with
  |none=>rw[hx] at h2;simp at h2
  |some x=>rw[hx] at h2;simp[iT] at h2;exact⟨x,rfl,h2⟩
 .rintro⟨x,hx,hm⟩;refine⟨(bK.mp hx).1,?_⟩;rw[hx];simpa [iT] using hm
theorem G8(b w:Nat)(h:w∈mC aQ ah b):w<aQ.length:=by unfold mC at h;exact PY.1 (VX.1 h).1
def zc(V:Nat->Nat)(i z j:Nat):Nat:=if j=i then z else V j
theorem Down.zc{V:Nat->Nat}(d:Down V){i z:Nat}(hi:0<i)(hz:z<i):Down (zc V i z):=by
 refine⟨?_,fun j hj=>?_⟩
 .unfold Tree.zc;rw[bc (by omega)];exact d.zero
 .unfold Tree.zc;split
  .omega
  .exact d.lt j hj
structure WG(aQ:List Nat)(ah:List (List Int))(n:Nat)(us:List Int)(first:Bool)(A V:Nat->Nat)(i:Nat)(dO:Bool):Prop where
 rep:OE aQ us n V (if first then i else aQ.length)
 dn:Down V
 bE:first=false->∀j,i<=j->V j=A j
 amK:first=true->∀b,0<b->b<i->(∀w∈mC aQ ah b,w<b->de V w (V b))/\∀z,(∀w∈mC aQ ah b,w<b->de V w z)->de V (V b) z
 rnd:first=false->∀b,0<b->b<i->(∀w∈mC aQ ah b,de (mix A V b) w (V b))/\∀z,(∀w∈mC aQ ah b,de (mix A V b) w z)->de (mix A V b) (V b) z
 chg:first=false->dO=true->∃j,j<i/\V j≠A j
theorem OE.put(o:Ord aQ n)(r:OE aQ us n V k)(hx:aQ[i]?=some x)(hy:aQ[z]?=some y)(hk:k<=i+1)(Cn:i<=k):OE aQ (us.set x (y:Int)) n (zc V i z) (i+1):=by
 have Jd:x<us.length:=by rw[r.len];exact o.lt x (bU hx)
 refine⟨by simp[r.len],fun j w hj hjk=>?_,fun j w hj hjk=>?_,fun w hw hn=>?_⟩
 .by_cases e:j=i
  .subst e;rw[hx] at hj;cases hj;exact⟨y,by rw[zc,aY rfl,hy],by rw[eu,aY rfl,aY Jd]⟩
  .obtain⟨y',h1,h2⟩:=r.set j w hj (by omega);refine⟨y',by rw[zc,bc e,h1],?_⟩;rw[eu,bc (fun e'=>e (by subst e';exact o.inj hj hx)),h2]
 .have ct:¬x=w:=fun e'=>by subst e';have:=o.inj hj hx;omega
  rw[eu,bc ct];exact r.un j w hj (by omega)
 .rw[eu,bc (fun e':x=w=>hn (e'▸bU hx))];exact r.out w hw hn
theorem OE.aur(o:Ord aQ n)(r:OE aQ us n V k)(hx:aQ[i]?=some x)(hy:aQ[z]?=some y)(hk:i<k):OE aQ (us.set x (y:Int)) n (zc V i z) k:=by
 have Jd:x<us.length:=by rw[r.len];exact o.lt x (bU hx)
 refine⟨by simp[r.len],fun j w hj hjk=>?_,fun j w hj hjk=>?_,fun w hw hn=>?_⟩
 .by_cases e:j=i
  .subst e;rw[hx] at hj;cases hj;exact⟨y,by rw[zc,aY rfl,hy],by rw[eu,aY rfl,aY Jd]⟩
  .obtain⟨y',h1,h2⟩:=r.set j w hj (by omega);refine⟨y',by rw[zc,bc e,h1],?_⟩;rw[eu,bc (fun e'=>e (by subst e';exact o.inj hj hx)),h2]
 .have ct:¬x=w:=fun e'=>by subst e';have:=o.inj hj hx;omega
  rw[eu,bc ct];exact r.un j w hj (by omega)
 .rw[eu,bc (fun e':x=w=>hn (e'▸bU hx))];exact r.out w hw hn
theorem SM(hb:b<=i):mix A (zc V i z) b=mix A V b:=by
 funext j;unfold mix zc;by_cases h:j<b
 .rw[aY h,aY h,bc (by omega)]
 .rw[bc h,bc h]
theorem WG.step{aQ:List Nat}{ah:List (List Int)}{n:Nat}(o:Ord aQ n){us:List Int}{first dO:Bool}{A V:Nat->Nat}{i:Nat}(m:WG aQ ah n us first A V i dO)(h0:0<i){x:Nat}(hx:aQ[i]?=some x){ps:List Int}(iT:ah[x]?=some ps)(hf:∃w∈mC aQ ah i,w<i){sE:Int}(hb:zN aQ V (if first then i else aQ.length) ps sE):∃y z:Nat,sE=y/\aQ[z]?=some y/\WG aQ ah n (us.set x sE) first A (zc V i z) (i+1) (dO||(decide (us[x]? ≠some sE))):=by
 have fu:=(bK.mp hx).1;obtain⟨w0,Wl,hw0i⟩:=hf;have hk:i<=(if first then i else aQ.length):=by split<;>omega
 obtain⟨xw,hxw,Gi⟩:=(rQ hx iT).1 Wl;rcases hb with⟨e,h⟩|⟨z,y,hz,hy,rfl,_,H⟩
 .exact absurd ⟨xw,hxw,rfl⟩ (h _ Gi w0 (by omega))
 have hzi:z<i:=by have:=((H z).1 (.refl _)) _ Gi w0 (by omega) ⟨xw,hxw,rfl⟩;have:=this.le m.dn;omega
 refine⟨y,z,rfl,hy,?_⟩;have dn':Down (zc V i z):=Down.zc m.dn h0 hzi;have loc:∀w u,w<i->(de (zc V i z) w u↔de V w u):=fun w u hw=>⟨fun h=>h.local dn' (fun j hj=>by unfold zc;rw[bc (by omega)]) hw,fun h=>h.local m.dn (fun j hj=>by unfold zc;rw[bc (by omega)]) hw⟩;cases xO:first with
 |true=>
  have r:=m.rep;rw[xO] at r H;simp only[aY] at r H;refine⟨?_,dn',fun h=>by simp at h,fun _ b H8 hbi=>?_,fun h=>by simp at h,fun h=>by simp at h⟩
  .have:=r.put o hx hy (by omega) (by omega);simpa using this
  .by_cases e:b=i
   .subst e;have hV:zc V b z b=z:=by unfold zc;rw[aY rfl]
    rw[hV];refine⟨fun w hw hwb=>?_,fun u hu=>?_⟩
    .obtain⟨x',qm,We⟩:=(rQ hx iT).1 hw;exact(loc w z hwb).2 (((H z).1 (.refl _)) _ We w hwb ⟨x',qm,rfl⟩)
    .refine(loc z u hzi).2 ((H u).2 fun p hp j hj ⟨x',qm,hp'⟩=>?_);exact(loc j u hj).1 (hu j ((rQ hx iT).2 ⟨x',qm,hp'▸hp⟩) hj)
   .have afp:b<i:=by omega
    have hV:zc V i z b=V b:=by unfold zc;rw[bc e]
    rw[hV];obtain⟨h1,h2⟩:=m.amK xO b H8 afp;have hVb:=m.dn.lt b H8;refine⟨fun w hw hwb=>(loc w _ (by omega)).2 (h1 w hw hwb),fun u hu=>(loc _ u (by omega)).2 (h2 u fun w hw hwb=>(loc w u (by omega)).1 (hu w hw hwb))⟩
 |false=>
  have r:=m.rep;rw[xO] at r H;simp only[Sp,if_false] at r H;have bE:=m.bE xO;have arZ:mix A V i=V:=by
   funext j;unfold mix;split
   .rfl
   .exact(bE j (by omega)).symm
  refine⟨?_,dn',fun _ j hj=>?_,fun h=>by simp at h,fun _ b H8 hbi=>?_,fun _ hm=>?_⟩
  .have:=r.aur o hx hy fu;simpa using this
  .unfold zc;rw[bc (by omega)];exact bE j (by omega)
  .by_cases e:b=i
   .subst e;have hV:zc V b z b=z:=by unfold zc;rw[aY rfl]
    rw[hV,SM (dH _),arZ];refine⟨fun w hw=>?_,fun u hu=>?_⟩
    .obtain⟨x',qm,We⟩:=(rQ hx iT).1 hw;exact((H z).1 (.refl _)) _ We w (G8 _ _ hw) ⟨x',qm,rfl⟩
    .refine(H u).2 fun p hp j hj ⟨x',qm,hp'⟩=>?_;exact hu j ((rQ hx iT).2 ⟨x',qm,hp'▸hp⟩)
   .have afp:b<i:=by omega
    have hV:zc V i z b=V b:=by unfold zc;rw[bc e]
    rw[hV,SM (by omega)];exact m.rnd xO b H8 afp
  .by_cases hmo:dO=true
   .obtain⟨j,hj,ct⟩:=m.chg xO hmo;exact⟨j,by omega,by unfold zc;rw[bc (by omega)];exact ct⟩
   .have ar1:dO=false:=by simpa using hmo
    rw[ar1] at hm;simp only[Bool.false_or,decide_eq_true_eq] at hm;refine⟨i,by omega,?_⟩;unfold zc;rw[aY rfl];intro e;obtain⟨y',h1,h2⟩:=r.set i x hx fu;rw[bE i (dH _),<-e,hy] at h1;cases h1;exact hm h2
def Btw(aQ:List Nat)(ah:List (List Int))(V:Nat->Nat):Prop:=
 Down V/\(WN aQ.length (mC aQ ah) V\/∃A,Down A/\Round aQ.length (mC aQ ah) A V/\vb aQ.length A V)
theorem auk(o:Ord aQ n):OE aQ ((List.replicate n (-1:Int)).set 0 0) n (fun i=>i-1) 1:=by
 have h0:=o.lt 0 (bU o.zero);have ct:∀x,¬x=0->x<n->((List.replicate n (-1:Int)).set 0 0)[x]?=some (-1):=by intro x hx hl;rw[eu,bc (fun e=>hx e.symm),T7,aY hl]
 refine⟨by simp,fun i x hi hk=>?_,fun i x hi hk=>?_,fun x hx hn=>?_⟩
 .have:i=0:=by omega
  subst this;rw[o.zero] at hi;cases hi;exact⟨0,o.zero,by rw[eu,aY rfl,aY (by simpa using h0)];rfl⟩
 .refine ct x (fun e=>?_) (o.lt x (bU hi));subst e;have:=o.inj hi o.zero;omega
 .exact ct x (fun e=>hn (e▸bU o.zero)) hx
theorem UW(o:Ord aQ n)(A:Nat->Nat)(dO:Bool):WG aQ ah n ((List.replicate n (-1:Int)).set 0 0) true A (fun i=>i-1) 1 dO:=
 ⟨by simpa using auk o,⟨rfl,fun i hi=>by show i-1<i;omega⟩,fun h=>by simp at h,fun _ b h1 h2=>by omega,fun h=>by simp at h,fun h=>by simp at h⟩
theorem YP(r:OE aQ us n A aQ.length)(d:Down A):WG aQ ah n us false A A 1 false:=
 ⟨by simpa using r,d,fun _ _ _=>rfl,fun h=>by simp at h,fun _ b h1 h2=>by omega,fun _ h=>by simp at h⟩
theorem WG.done{first dO:Bool}(m:WG aQ ah n us first A V aQ.length dO)(hA:first=false->Btw aQ ah A)(hf:∀b,0<b->b<aQ.length->∃w∈mC aQ ah b,w<b):Btw aQ ah V/\OE aQ us n V aQ.length/\(first=false->dO=true->total V aQ.length<total A aQ.length):=by
 have r:=m.rep;cases xO:first with
 |true=>
  rw[xO] at r;exact⟨⟨m.dn,.inl fun b h1 h2=>m.amK xO b h1 h2⟩,by simpa using r,fun h=>by simp at h⟩
 |false=>
  rw[xO] at r;obtain⟨dA,hb⟩:=hA xO;have R:Round aQ.length (mC aQ ah) A V:=fun b h1 h2=>m.rnd xO b h1 h2;have W:vb aQ.length A V:=by
   rcases hb with h|⟨A',dA',h1,h2⟩
   .exact Hf dA dA m.dn hf (fun b w=>G8 b w) (.inl h) R
   .exact Hf dA' dA m.dn hf (fun b w=>G8 b w) (.inr ⟨h1,h2⟩) R
  refine⟨⟨m.dn,.inr ⟨A,dA,R,W⟩⟩,by simpa using r,fun _ hm=>?_⟩;obtain⟨j,hj,ct⟩:=m.chg xO hm;exact Ow _ (fun i hi=>vb.le m.dn dA W i hi) ⟨j,hj,ct⟩
def Tw(us:List Int)(n:Nat):Prop:=us.length=n/\∃Lg:Nat->Nat,(∀x,Lg x<=n)/\∀(x:Nat)(v:Int),us[x]?=some v->v= -1\/∃y:Nat,v=y/\y<n/\Lg y<Lg x
theorem amY(o:Ord aQ n)(d:Down V)(r:OE aQ us n V aQ.length)(hln:aQ.length<=n):Tw (us.set 0 (-1)) n:=by
 refine⟨by simp[r.len],fun x=>aQ.idxOf x,fun x=>xf List.idxOf_le_length hln,fun x v hv=>?_⟩;rw[eu] at hv;by_cases e:0=x
 .rw[aY e] at hv;split at hv
  .cases hv;exact .inl rfl
  .cases hv
 .rw[bc e] at hv;have Jd:x<n:=by have:=(bK.mp hv).1;rw[r.len] at this;exact this
  by_cases hm:x∈aQ
  .obtain⟨i,hi⟩:=oD hm;have fu:=(bK.mp hi).1;obtain⟨y,h1,h2⟩:=r.set i x hi fu;rw[h2] at hv;cases hv;have h0:0<i:=by
    rcases uM i with rfl|h
    .rw[o.zero] at hi;cases hi;exact absurd rfl e
    .exact h
   have idx:∀(j z:Nat),aQ[j]?=some z->aQ.idxOf z=j:=by
    intro j z hj;have hz:=bU hj;have hl:=List.idxOf_lt_length_iff.2 hz;have:aQ[aQ.idxOf z]?=some z:=by rw[ff hl,List.getElem_idxOf hl]
    exact o.inj this hj
   refine .inr ⟨y,rfl,o.lt y (bU h1),?_⟩;dsimp only;rw[idx _ _ h1,idx _ _ hi];exact d.lt i h0
  .have:=r.out x Jd hm;rw[this] at hv;cases hv;exact .inl rfl
end Go.AI.Tree
namespace Go.Proofs.YtdhnndleffachaaGreatDoor
open Go.AI
variable{C W b d d3 d4 d5 d8 i k n n8 o s s1 s2 wc x:Nat}{QQ:aO->Env->ab->Prop}{V:Nat->Nat}{aQ:List Nat}{ah:List (List Int)}{bs:List GB}{e:Env}{h h0:ab}{qP us:List Int}{ro:Bool}{ws:List SV}
def aiW(h:ab)(aQ:List Nat)(V:Nat->Nat)(k n d1 d2 x y:Nat)(m:Nat)(e:Env)(h2:ab):Prop:=
 ∃x' y' a' b':Nat,m=x'+y'/\aQ[x']?=some a'/\aQ[y']?=some b'/\x'<k/\y'<k/\ai e 0=.slice (some ⟨d1,0,none⟩) n n/\ai e 1=.slice (some ⟨d2,0,none⟩) n n/\ai e 2=.int .i64 a'/\ai e 3=.int .i64 b'/\aa aG h h2/\∀u,(Dom.de V x u/\Dom.de V y u)↔(Dom.de V x' u/\Dom.de V y' u)
theorem UU(ok:bl h)(o:Tree.Ord aQ n)(r:Tree.OE aQ us n V k)(dn:Dom.Down V){d1 d2 o1 s1 o2 s2:Nat}{ro1 ro2:Bool}(h1:h.tr.get d1=some (.aC (bg.flat us) ro1 o1 s1))(h2:h.tr.get d2=some (.aC (bg.flat qP) ro2 o2 s2))(hla:qP.length=n)(Dx:∀i x:Nat,aQ[i]?=some x->qP[x]?=some (i:Int)){x y a b:Nat}(hx:aQ[x]?=some a)(hy:aQ[y]?=some b)(hxk:x<k)(hyk:y<k):aE FF GC [.slice (some ⟨d1,0,none⟩) n n,.slice (some ⟨d2,0,none⟩) n n,.int .i64 a,.int .i64 b] h
   (fun v h'=>aa aG h h'/\∃z w:Nat,v=.int .i64 w/\z<k/\aQ[z]?=some w/\∀u,Dom.de V z u↔(Dom.de V x u/\Dom.de V y u)):=by
 refine aE.of Pw ?_;unfold Fm;simp;refine az.loop (aiW h aQ V k n d1 d2 x y) ?_ (n:=x+y) ⟨x,y,a,b,rfl,hx,hy,hxk,hyk,by simp,by simp,by simp,by simp,.refl ok,fun u=>Iff.rfl⟩;rintro m e h3⟨x',y',a',b',rfl,qm,EI,agq,alX,f0,f1,f2,f3,g3,H⟩;have q1:=g3.get ok h1;have q2:=g3.get ok h2;unfold BZ;have CE:=o.lt a' (bU qm);have mc:=o.lt b' (bU EI);have ra:=iH q2 (Dx x' a' qm);have rb:=iH q2 (Dx y' b' EI);by_cases xN:a'=b'
 .subst xN;have hxy:=o.inj qm EI;subst hxy;simp[f2,f3];exact⟨g3,x',a',rfl,agq,qm,fun u=>by rw[H u];simp⟩
 .have afl:((a':Int) !=(b':Int))=true:=by simp;omega
  have ct:x'≠y':=fun e=>xN (by subst e;rw[qm] at EI;cases EI;rfl);by_cases dQ:x'<y'
  .obtain⟨c,wN,F9⟩:=r.set y' b' EI alX;have rc:=iH q1 F9;have hV:=dn.lt y' (by omega);simp[f0,f1,f2,f3,afl,xN,CE,mc,ra,rb,dQ,rc,-ae,aB];exact⟨V y'+x',by omega,V y',x',c,a',rfl,wN,qm,by omega,agq,by simp[f0],by simp[f1],by simp,by simp,by first|exact g3|exact g3.tick,fun u=>by rw[H u,and_comm,Tree.Mc dn dQ]⟩
  .have afR:y'<x':=by omega
   obtain⟨c,wN,F9⟩:=r.set x' a' qm agq;have rc:=iH q1 F9;have hV:=dn.lt x' (by omega);simp[f0,f1,f2,f3,afl,xN,CE,mc,ra,rb,dQ,rc,-ae,aB];exact⟨V x'+y',by omega,V x',y',c,b',rfl,wN,EI,by omega,alX,by simp[f0],by simp[f1],by simp,by simp[f3],by first|exact g3|exact g3.tick,fun u=>by rw[H u,Tree.Mc dn afR]⟩
theorem JP{n0:Nat}{mE:List (List Int)}(w:je bg n0 h d ws mE){wi:SV}{xs:List Int}(hw:ws[i]?=some wi)(hx:mE[i]?=some xs):SliceR nR 1 h wi.v xs:=by
 have a:=w.acc i wi xs hw hx;rcases a with⟨rfl,e⟩|⟨b,s',e,jf,qm,_⟩
 .rw[e];exact⟨none,0,rfl,.inl ⟨rfl,.inl rfl⟩⟩
 .rw[e];refine⟨_,_,rfl,.inr ⟨b,0,_,_,_,_,rfl,jf,fun k x hk=>?_⟩⟩;have:=bg.pJ xs k x hk;simp only[Sl,Nat.mul_one] at this;rw[Ek,Nat.mul_one,this];exact⟨rfl,rfl⟩
def nI(l:List Nat):List Int:=l.map fun x:Nat=>(x:Int)
theorem SN{l:List Nat}(h:l[i]?=some x):(nI l)[i]?=some (x:Int):=by simp[nI,h]
structure TS(h0 h:ab)(n:Nat)(aQ:List Nat)(qP us:List Int)(ah:List (List Int))(d3 d4 d5 d8 n8:Nat)(ws:List SV):Prop where
 g:aa aG h0 h
 n5:h0.next<=d5
 hO:∃s,h.tr.get d3=some (.aC (bg.flat (nI aQ)) false 1 s)
 hA:∃s,h.tr.get d4=some (.aC (bg.flat qP) false 0 s)
 hU:∃s,h.tr.get d5=some (.aC (bg.flat us) false 0 s)
 acc:je bg n8 h d8 ws ah
 n8:d5<n8
 ne3:d3≠d5
 ne4:d4≠d5
theorem TS.grow{h0 h h':ab}(w:TS h0 h n aQ qP us ah d3 d4 d5 d8 n8 ws)(g:aa aG h h'):TS h0 h' n aQ qP us ah d3 d4 d5 d8 n8 ws:=by obtain⟨s1,h1⟩:=w.hO;obtain⟨s2,h2⟩:=w.hA;obtain⟨s3,h3⟩:=w.hU;have ok:=w.g.ok;exact⟨w.g.trans g,w.n5,⟨s1,g.get ok h1⟩,⟨s2,g.get ok h2⟩,⟨s3,g.get ok h3⟩,w.acc.aX ok g,w.n8,w.ne3,w.ne4⟩
theorem TS.put{h0 h:ab}{n:Nat}{aQ:List Nat}{qP us:List Int}{ah:List (List Int)}{d3 d4 d5 d8 n8:Nat}{ws:List SV}(w:TS h0 h n aQ qP us ah d3 d4 d5 d8 n8 ws){x:Nat}(hx:x<us.length)(v:Int):TS h0 (put h d5 x (bg.flat us) [.int .i64 v] 0) n aQ qP (us.set x v) ah d3 d4 d5 d8 n8 ws:=by obtain⟨s1,h1⟩:=w.hO;obtain⟨s2,h2⟩:=w.hA;obtain⟨s3,h3⟩:=w.hU;have ok:=w.g.ok;have g:aa (· =d5) h (AI.put h d5 x (bg.flat us) [.int .i64 v] 0):=aJ ok h3;refine⟨w.g.put ⟨_,h3⟩ (.inl w.n5),w.n5,⟨s1,g.get ok h1 w.ne3⟩,⟨s2,g.get ok h2 w.ne4⟩,⟨h.clock,by rw[aA,oq us x v hx]⟩,w.acc.grow ok g (fun b hb e=>by have:=w.n8;omega),w.n8,w.ne3,w.ne4⟩
def PrI(h:ab)(e:Env)(aQ:List Nat)(V:Nat->Nat)(k:Nat)(ps:List Int)(m:Nat)(e':Env)(h2:ab):Prop:=
 ∃(j:Nat) (sE:Int),m=ps.length-j/\j<=ps.length/\ai e' 55=.int .i64 j/\ai e' 12=.int .i64 sE/\ax [12,14,55,56,57,58,59,60,61,62,63,64,65,66,67,68,69,70,71,72,73,74] e e'/\aa aG h h2/\Tree.zN aQ V k (ps.take j) sE
theorem aht(r:Tree.OE aQ us n V k){u:Nat}(hu:u<n):(us[u]?=some (-1)/\∀i,i<k->¬aQ[i]?=some u)\/∃(i y:Nat),i<k/\aQ[i]?=some u/\us[u]?=some (y:Int):=by
 by_cases hm:∃i,i<k/\aQ[i]?=some u
 .obtain⟨i,hi,hu'⟩:=hm;obtain⟨y,_,hy⟩:=r.set i u hu' hi;exact .inr ⟨i,y,hi,hu',hy⟩
 .refine .inl ⟨?_,fun i hi h=>hm ⟨i,hi,h⟩⟩;by_cases re:u∈aQ
  .obtain⟨i,hi⟩:=oD re;exact r.un i u hi (by
    rcases Ae i k with h|h
    .exact absurd ⟨i,h,hi⟩ hm
    .exact h)
  .exact r.out u hu re
theorem Vj(w:TS h0 h n aQ qP us ah d3 d4 d5 d8 n8 ws)(o:Tree.Ord aQ n)(r:Tree.OE aQ us n V k)(dn:Dom.Down V)(hn:n<1000000)(hla:qP.length=n)(Dx:∀i x:Nat,aQ[i]?=some x->qP[x]?=some (i:Int)){wx:SV}{ps:List Int}(hw:ws[x]?=some wx)(iT:ah[x]?=some ps)(xh:ps.length<1000000)(Wi:∀p∈ps,0<=p/\p<n)(f4:ai e 4=.slice (some ⟨d4,0,none⟩) n n)(f5:ai e 5=.slice (some ⟨d5,0,none⟩) n n)(f12:ai e 12=.int .i64 (-1))(f53:ai e 53=wx.v)(f54:ai e 54=.int .i64 ps.length)(f55:ai e 55=.int .i64 0)(C:∀e' h' sE,aa aG h h'->ax [12,14,55,56,57,58,59,60,61,62,63,64,65,66,67,68,69,70,71,72,73,74] e e'->ai e' 12=.int .i64 sE->Tree.zN aQ V k ps sE->QQ (.exit 6) e' h'):az FF (.loop tD) e h QQ:=by
 have ok:=w.g.ok;have sR:=JP w.acc hw iT;have DE:=SliceR.len sR;refine az.loop (PrI h e aQ V k ps) ?_ (n:=ps.length) ⟨0,-1,rfl,by omega,f55,f12,ax.refl _ _,.refl ok,by simpa using Tree.zN.nil aQ V k⟩;rintro m e' h2⟨j,sE,rfl,hj,OV,kN,K,g2,hb⟩;have w2:=w.grow g2;have q4:=K.at f4;have q5:=K.at f5;have q53:=K.at f53;have OU:=K.at f54;unfold tD;by_cases aM:j<ps.length
 .have hx:ps[j]?=some ps[j]:=ff aM;have hm:=Ai aM;generalize ps[j]=p at hx hm;obtain⟨SD,Ql⟩:=Wi p hm;obtain⟨u,rfl⟩:∃u:Nat,p=u:=⟨p.toNat,by omega⟩;have xg:u<n:=by omega
  obtain⟨bT,off,c,AM,_,_,rfl,_,cS⟩:=SliceR.later ok sR hx;have r0:=cS h2 g2 0 1 (by decide);simp[-ae] at r0;have wj:=wrap_i64 ((j:Int)+1) (by omega) (by omega);obtain⟨s5,hU⟩:=w2.hU;obtain⟨s4,hA⟩:=w2.hA;have ht:ps.take (j+1)=ps.take j++[(u:Int)]:=by rw[yS,hx];rfl
  simp at q53;rw[AM,DE] at q53;rcases aht r xg with⟨hu1,hu2⟩|⟨i,y,hi,hu1,hu2⟩
  .have ru:=iH hU hu1;simp[q4,q5,q53,OU,OV,aM,r0,xg,ru,-ae,wj];refine⟨ps.length-(j+1),by omega,j+1,sE,rfl,by omega,by simp,by simp[kN],?_,g2,?_⟩
   .repeat (refine ax.set ?_)
    exact K
   .rw[ht];exact hb.skip (fun i hi ⟨x,hx,e⟩=>hu2 i hi (by rw[hx];congr 1;omega))
  .have ru:=iH hU hu2;have hy0:¬(y:Int)<0:=by omega
   rcases(show sE= -1\/∃a:Nat,sE=a by
    rcases hb with⟨e,_⟩|⟨_,a,_,_,e,_⟩
    .exact .inl e
    .exact .inr ⟨a,e⟩) with rfl|⟨a,rfl⟩
   .simp[q4,q5,q53,OU,OV,kN,aM,r0,xg,ru,-ae,wj,hy0];refine⟨ps.length-(j+1),by omega,j+1,u,rfl,by omega,by simp,by simp,?_,g2,?_⟩
    .repeat (refine ax.set ?_)
     exact K
    .rw[ht];exact hb.one o hi hu1 rfl
   .have ha0:¬(a:Int)<0:=by omega
    obtain⟨za,hza,hzk⟩:∃za,aQ[za]?=some a/\za<k:=by
     rcases hb with⟨e,_⟩|⟨z,a',hz,DF,e,_⟩
     .omega
     .have:a'=a:=by omega
      subst this;exact⟨z,DF,hz⟩
    simp[q4,q5,q53,OU,OV,kN,aM,r0,xg,ru,-ae,hy0,ha0];refine aF.call (V:=fun v h'=>aa aG h2 h'/\∃z w:Nat,v=.int .i64 w/\z<k/\aQ[z]?=some w/\∀u,Dom.de V z u↔(Dom.de V za u/\Dom.de V i u)) (by simpa using UU g2.ok o r dn hU hA hla Dx hza hu1 hzk hi) ?_;rintro _ h3⟨g3,z,v,rfl,hz,DF,hz3⟩;simp[wj,OV];refine⟨ps.length-(j+1),by omega,j+1,v,rfl,by omega,by simp,by simp,?_,g2.trans g3,?_⟩
    .repeat (refine ax.set ?_)
     exact K
    .rw[ht];refine hb.meet o hu1 hi rfl (fun za' h1 _=>?_);rw[o.inj h1 hza];exact⟨z,v,hz,DF,rfl,hz3⟩
 .have:j=ps.length:=by omega
  subst this;rw[xK] at hb;simp[OU,OV];exact C _ _ sE g2 (K.set) (by simp[kN]) hb
theorem ZR{v:Int}(h:us[x]?=some v):us.set x v=us:=by
 refine yT fun i=>?_;rw[eu];split
 .rename_i e;subst e;rw[h,aY (bK.mp h).1]
 .rfl
structure Cq(n:Nat)(ah:List (List Int)):Prop where
 len:ah.length=n
 row:∀(x:Nat)(ps:List Int),ah[x]?=some ps->ps.length<1000000/\∀p∈ps,0<=p/\p<n
structure TC(n:Nat)(aQ:List Nat)(qP:List Int)(ah:List (List Int)):Prop where
 o:Tree.Ord aQ n
 nl:n<=1000
 la:qP.length=n
 at':∀i x:Nat,aQ[i]?=some x->qP[x]?=some (i:Int)
 rows:Cq n ah
 hf:∀b,0<b->b<aQ.length->∃w∈Tree.mC aQ ah b,w<b
 ln:aQ.length<=n
structure TE(n:Nat)(r d3 d4 d5 d8:Nat)(e:Env):Prop where
 f3:ai e 3=.slice (some ⟨d3,0,none⟩) r r
 f4:ai e 4=.slice (some ⟨d4,0,none⟩) n n
 f5:ai e 5=.slice (some ⟨d5,0,none⟩) n n
 f8:ai e 8=.slice (some ⟨d8,0,none⟩) n n
def RdI(h0:ab)(n:Nat)(aQ:List Nat)(qP:List Int)(ah:List (List Int))(d3 d4 d5 d8 n8:Nat)(ws:List SV)(first:Bool)(A:Nat->Nat)(m:Nat)(e:Env)(h:ab):Prop:=
 ∃(j:Nat) (us:List Int) (V:Nat->Nat) (dO:Bool),m=aQ.length-(j+1)/\j+1<=aQ.length/\TS h0 h n aQ qP us ah d3 d4 d5 d8 n8 ws/\Tree.WG aQ ah n us first A V (j+1) dO/\TE n aQ.length d3 d4 d5 d8 e/\ai e 9=.bool dO/\ai e 44=.slice (some ⟨d3,1,none⟩) (aQ.length-1) (aQ.length-1)/\ai e 45=.int .i64 ((aQ.length-1:Nat):Int)/\ai e 46=.int .i64 j
theorem Rd(w:TS h0 h n aQ qP us ah d3 d4 d5 d8 n8 ws)(c:TC n aQ qP ah){first dO:Bool}{A V:Nat->Nat}(hr:0<aQ.length)(M:Tree.WG aQ ah n us first A V 1 dO)(E:TE n aQ.length d3 d4 d5 d8 e)(f9:ai e 9=.bool dO)(f44:ai e 44=.slice (some ⟨d3,1,none⟩) (aQ.length-1) (aQ.length-1))(f45:ai e 45=.int .i64 ((aQ.length-1:Nat):Int))(f46:ai e 46=.int .i64 0)(C:∀e' h' us' V' NC,TS h0 h' n aQ qP us' ah d3 d4 d5 d8 n8 ws->Tree.WG aQ ah n us' first A V' aQ.length NC->TE n aQ.length d3 d4 d5 d8 e'->ai e' 9=.bool NC->QQ (.exit 4) e' h'):az FF (.loop kC) e h QQ:=by
 have hn:=c.nl;have hln:=c.ln;refine az.loop (RdI h0 n aQ qP ah d3 d4 d5 d8 n8 ws first A) ?_ (n:=aQ.length-1) ⟨0,us,V,dO,by omega,hr,w,M,E,f9,f44,f45,f46⟩;rintro m e1 h1⟨j,us1,V1,adV,rfl,hj,w1,M1,E1,q9,Hb,Le,Wr⟩;have mN:=w1.g.ok;unfold kC;by_cases aM:j+1<aQ.length
 .obtain⟨x,hx⟩:=ay aQ (j+1) aM;have Jd:=c.o.lt x (bU hx);obtain⟨ps,iT⟩:=ay ah x (by rw[c.rows.len];exact Jd);obtain⟨wx,hwx⟩:=ay ws x (by rw[w1.acc.len,c.rows.len];exact Jd);obtain⟨xh,Wi⟩:=c.rows.row x ps iT;obtain⟨s1,hO⟩:=w1.hO;obtain⟨s8,h8⟩:=w1.acc.aC;have ro:=iH hO (SN hx);rw[Nat.add_comm] at ro;have rw8:=oh h8 hwx;have DE:=SliceR.len (JP w1.acc hwx iT);have hjo:(j:Int)<((aQ.length-1:Nat):Int):=by omega
  have arM:j<aQ.length-1:=by omega
  have wj:=wrap_i64 ((j:Int)+1) (by omega) (by omega);simp[-ae] at rw8;simp[Hb,Le,Wr,hjo,arM,ro,E1.f8,Jd,rw8,DE,-ae];refine Vj w1 c.o M1.rep M1.dn (by omega) c.la c.at' hwx iT xh Wi (by simp[E1.f4]) (by simp[E1.f5]) (by simp) (by simp[DE]) (by simp[DE]) (by simp) ?_;intro e2 h2 sE g2 K kN hb;have w2:=w1.grow g2;obtain⟨y,z,rfl,hz,M2⟩:=M1.step c.o (Nat.succ_pos _) hx iT (c.hf (j+1) (Nat.succ_pos _) aM) hb;have k5:=K.at (t:=5) (by simp;exact E1.f5);have k11:ai e2 11=.int .i64 x:=K.at (t:=11) (by simp);have k3:=K.at (t:=3) (by simp;exact E1.f3);have k4:=K.at (t:=4) (by simp;exact E1.f4);have k8:=K.at (t:=8) (by simp;exact E1.f8);have k9:=K.at (t:=9) (by simp;exact q9);have k44:=K.at (t:=44) (by simp;exact Hb);have k45:=K.at (t:=45) (by simp;exact Le);have k46:=K.at (t:=46) (by simp;exact Wr);obtain⟨s5,hU⟩:=w2.hU;have Et:us1.length=n:=M1.rep.len;obtain⟨v,hv⟩:=ay us1 x;have ru:=iH hU hv;have u6:x+1<=us1.length:=by omega
  by_cases hvy:v=(y:Int)
  .subst hvy;rw[ZR hv] at M2;simp[k5,k11,kN,Jd,ru,wj,k46,-ae];refine⟨aQ.length-(j+1+1),by omega,j+1,us1,_,adV,rfl,aM,w2,by simpa [hv] using M2,⟨?_,?_,?_,?_⟩,?_,?_,?_,?_⟩
   .simp[k3]
   .simp[k4]
   .simp[k5]
   .simp[k8]
   .simp[k9]
   .simp[k44]
   .simp[k45]
   .simp
  .have ct:(v !=(y:Int))=true:=by simpa using hvy
   simp[k5,k11,kN,Jd,ru,wj,k46,ct,hvy,hU,u6,-ae];refine⟨aQ.length-(j+1+1),by omega,j+1,us1.set x (y:Int),_,true,rfl,aM,w2.put (by omega) _,by simpa [hv,hvy] using M2,⟨?_,?_,?_,?_⟩,?_,?_,?_,?_⟩
   .simp[k3]
   .simp[k4]
   .simp[k5]
   .simp[k8]
   .simp
   .simp[k44]
   .simp[k45]
   .simp
 .have hjr:j+1=aQ.length:=by omega
  rw[hjr] at M1;have hjo:¬(j:Int)<((aQ.length-1:Nat):Int):=by omega
  simp[Le,Wr,hjo];exact C _ _ us1 V1 adV w1 M1 ⟨by simp[E1.f3],by simp[E1.f4],by simp[E1.f5],by simp[E1.f8]⟩ (by simp[q9])
def TrI(h0:ab)(n:Nat)(aQ:List Nat)(qP:List Int)(ah:List (List Int))(d3 d4 d5 d8 n8:Nat)(ws:List SV)(m:Nat)(e:Env)(h:ab):Prop:=
 ∃(us:List Int) (dO:Bool),TS h0 h n aQ qP us ah d3 d4 d5 d8 n8 ws/\TE n aQ.length d3 d4 d5 d8 e/\ai e 9=.bool dO/\((dO=true/\us=(List.replicate n (-1:Int)).set 0 0/\m=aQ.length*aQ.length+2)\/∃V,Tree.Btw aQ ah V/\Tree.OE aQ us n V aQ.length/\m=if dO then Dom.total V aQ.length+1 else 0)
theorem Oa(w:TS h0 h n aQ qP ((List.replicate n (-1:Int)).set 0 0) ah d3 d4 d5 d8 n8 ws)(c:TC n aQ qP ah)(hr:0<aQ.length)(E:TE n aQ.length d3 d4 d5 d8 e)(f9:ai e 9=.bool true)(C:∀e' h' us' V',TS h0 h' n aQ qP us' ah d3 d4 d5 d8 n8 ws->Tree.Btw aQ ah V'->Tree.OE aQ us' n V' aQ.length->TE n aQ.length d3 d4 d5 d8 e'->QQ (.exit 2) e' h'):az FF (.loop tE) e h QQ:=by
 refine az.loop (TrI h0 n aQ qP ah d3 d4 d5 d8 n8 ws) ?_ (n:=aQ.length*aQ.length+2) ⟨_,true,w,E,f9,.inl ⟨rfl,rfl,rfl⟩⟩;rintro m e1 h1⟨us,dO,w1,E1,q9,hc⟩;unfold tE;cases dO with
 |false=>
  rcases hc with⟨h,_⟩|⟨V,hB,hR,rfl⟩
  .cases h
  .simp[q9];exact C _ _ us V w1 hB hR ⟨by simp[E1.f3],by simp[E1.f4],by simp[E1.f5],by simp[E1.f8]⟩
 |true=>
  have qM:1<=aQ.length:=hr;obtain⟨s,hs⟩:∃s,s=aQ.length-1:=⟨_,rfl⟩;have fin:∀(first:Bool)(A V:Nat->Nat),Tree.WG aQ ah n us first A V 1 false->(first=false->Tree.Btw aQ ah A/\m=Dom.total A aQ.length+1)->(first=true->m=aQ.length*aQ.length+2)->az FF (.loop kC)
    (Tr.set (Tr.set (Tr.set (Tr.set (Tr.set (Tr.set e1 42 (.bool true)) 9 (.bool false)) 43 (.slice (some ⟨d3,0,none⟩) aQ.length aQ.length)) 44 (.slice (some ⟨d3,1,none⟩) (aQ.length-1) (aQ.length-1))) 45 (.int .i64 ((aQ.length-1:Nat):Int))) 46 (.int .i64 0)) h1
    (fun x e2 h2=>x=.exit 4/\∃m',m'<m/\TrI h0 n aQ qP ah d3 d4 d5 d8 n8 ws m' e2 h2):=by
   intro first A V M EG HE
   refine Rd w1 c hr M ⟨by simp[E1.f3],by simp[E1.f4],by simp[E1.f5],by simp[E1.f8]⟩ (by simp) (by simp) (by simp) (by simp) ?_;intro e2 h2 us2 V2 Jn w2 M2 E2 k9;refine⟨rfl,?_⟩;obtain⟨hB,hR,hT⟩:=M2.done (fun h=>(EG h).1) c.hf;refine⟨_,?_,us2,Jn,w2,E2,k9,.inr ⟨V2,hB,hR,rfl⟩⟩;have bd:Dom.total V2 aQ.length<=aQ.length*aQ.length:=Dom.D2 _ (fun i hi=>by
    rcases uM i with rfl|h
    .rw[hB.1.zero];exact Nat.zero_le _
    .have:=hB.1.lt i h;omega)
   cases xO:first with
   |true=>have:=HE xO;split<;>omega
   |false=>
    obtain⟨_,hm⟩:=EG xO;cases hmo:Jn with
    |true=>have:=hT xO hmo;simp;omega
    |false=>simp;omega
  have H:az FF (.loop kC)
    (Tr.set (Tr.set (Tr.set (Tr.set (Tr.set (Tr.set e1 42 (.bool true)) 9 (.bool false)) 43 (.slice (some ⟨d3,0,none⟩) aQ.length aQ.length)) 44 (.slice (some ⟨d3,1,none⟩) (aQ.length-1) (aQ.length-1))) 45 (.int .i64 ((aQ.length-1:Nat):Int))) 46 (.int .i64 0)) h1
    (fun x e2 h2=>x=.exit 4/\∃m',m'<m/\TrI h0 n aQ qP ah d3 d4 d5 d8 n8 ws m' e2 h2):=by
   rcases hc with⟨_,rfl,rfl⟩|⟨V,hB,hR,hm⟩
   .exact fin true (fun _=>0) _ (Tree.UW c.o _ _) (fun h=>by cases h) (fun _=>rfl)
   .exact fin false V V (Tree.YP hR hB.1) (fun _=>⟨hB,by simpa using hm⟩) (fun h=>by cases h)
  obtain⟨s1,hO⟩:=w1.hO;simp[q9,E1.f3,qM,hO];refine H.mono ?_;rintro x e2 h2⟨rfl,m',We,I⟩;simp;exact⟨m',We,I⟩
def AtI(h:ab)(n:Nat)(aQ:List Nat)(d3 d4:Nat)(e:Env)(m:Nat)(e':Env)(h2:ab):Prop:=
 ∃(j:Nat) (qP:List Int),m=aQ.length-j/\j<=aQ.length/\ai e' 28=.int .i64 j/\ax [28,6,7,29,30,31,32,33,34,35,36,37] e e'/\aa (· =d4) h h2/\(∃s,h2.tr.get d4=some (.aC (bg.flat qP) false 0 s))/\qP.length=n/\∀i x:Nat,i<j->aQ[i]?=some x->qP[x]?=some (i:Int)
theorem aaP(ok:bl h)(o:Tree.Ord aQ n)(hr:aQ.length<=n)(hn:n<=1000){d3 d4 s3 s4 o3:Nat}(hO:h.tr.get d3=some (.aC (bg.flat (nI aQ)) false o3 s3))(hA:h.tr.get d4=some (.aC (bg.flat qP) false 0 s4))(hl:qP.length=n)(ct:d3≠d4)(f4:ai e 4=.slice (some ⟨d4,0,none⟩) n n)(f26:ai e 26=.slice (some ⟨d3,0,none⟩) aQ.length aQ.length)(f27:ai e 27=.int .i64 aQ.length)(f28:ai e 28=.int .i64 0)(C:∀e' h' NT,ax [28,6,7,29,30,31,32,33,34,35,36,37] e e'->aa (· =d4) h h'->(∃s,h'.tr.get d4=some (.aC (bg.flat NT) false 0 s))->NT.length=n->(∀i x:Nat,aQ[i]?=some x->NT[x]?=some (i:Int))->QQ (.exit 0) e' h'):az FF (.loop tF) e h QQ:=by
 refine az.loop (AtI h n aQ d3 d4 e) ?_ (n:=aQ.length) ⟨0,qP,rfl,by omega,f28,ax.refl _ _,.refl ok,⟨s4,hA⟩,hl,fun i x h=>by omega⟩;rintro m e' h2⟨j,pl,rfl,hj,JB,K,g2,⟨s,MW⟩,xh,Dx⟩;have q4:=K.at f4;have Vk:=K.at f26;have Wq:=K.at f27;unfold tF;by_cases aM:j<aQ.length
 .obtain⟨x,hx⟩:=ay aQ j aM;have Jd:=o.lt x (bU hx);have hO2:=g2.get ok hO ct;have ro:=iH hO2 (SN hx);have wj:=wrap_i64 ((j:Int)+1) (by omega) (by omega);have u6:x+1<=pl.length:=by omega
  simp[q4,Vk,Wq,JB,aM,ro,Jd,MW,u6,wj,-ae];refine⟨aQ.length-(j+1),by omega,j+1,pl.set x j,rfl,aM,by simp,?_,g2.trans (aJ g2.ok MW),⟨h2.clock,by rw[aA,oq pl x j (by omega)]⟩,by simp[xh],fun i y hi hy=>?_⟩
  .repeat (refine ax.set ?_)
   exact K
  .rw[eu];by_cases e:x=y
   .subst e;rw[aY rfl,aY (by omega),o.inj hy hx]
   .rw[bc e];by_cases e2:i=j
    .subst e2;rw[hx] at hy;cases hy;exact absurd rfl e
    .exact Dx i y (by omega) hy
 .have:j=aQ.length:=by omega
  subst this;simp[Wq,JB];exact C _ _ pl (K.set) g2 ⟨s,MW⟩ xh (fun i x hx=>Dx i x (bK.mp hx).1 hx)
def vv(bs:List GB):List Nat:=(Dfs.mO (qG bs) bs.length).reverse
theorem acg(bs:List GB):(qQ bs).reverse=nI (vv bs):=by simp[qQ,vv,nI,List.map_reverse]
theorem GV(E:jn bs)(h0:0<bs.length):Tree.Ord (vv bs) bs.length:=by obtain⟨h1,h2,⟨new,h3⟩,_,_⟩:=Dfs.yD h0 (Ce E);refine⟨List.pairwise_reverse.2 (h1.imp fun h=>h.symm),fun x hx=>h2 x (List.mem_reverse.1 hx),?_⟩;unfold vv;rw[h3];simp
theorem Y9(E:jn bs)(h0:0<bs.length):(vv bs).length<=bs.length/\0<(vv bs).length:=by
 have o:=GV E h0;refine⟨?_,?_⟩
 .have:=gK_ o.nd (l₂:=List.range bs.length) (fun x hx=>PY.2 (o.lt x hx));simpa using this
 .exact(bK.mp o.zero).1
theorem Sb(E:jn bs):Cq bs.length (Edge.bp (bt bs)):=by
 have hl:(bt bs).length=bs.length:=by simp[bt]
 have yr:∀ts∈bt bs,∀t∈ts,t.toNat<(bt bs).length:=by intro ts ot t ht;obtain⟨b,hb,rfl⟩:=j_.1 ot;have:=E.to b hb t ht;rw[hl];omega
 refine⟨by rw[Edge.cR,hl],fun x ps iT=>⟨?_,fun p hp=>?_⟩⟩
 .have h1:=Edge.p9 (n:=(bt bs).length) (dD:=bt bs) (fun ts ot=>by obtain⟨b,hb,rfl⟩:=j_.1 ot;exact E.two b hb) x (bt bs).length
  have h2:((Edge.upto (bt bs).length (bt bs) (bt bs).length)[x]?).getD []=ps:=by show((Edge.bp (bt bs))[x]?).getD []=ps;rw[iT];rfl
  rw[h2] at h1;have:=E.len;omega
 .have hm:=(Edge.mL yr (u:=x) (x:=p)).1 (by rw[iT];exact hp);obtain⟨i,rfl,ts,ht,_⟩:=hm;have:=(bK.mp ht).1;omega
theorem Vc(E:jn bs)(h0:0<bs.length):∀b,0<b->b<(vv bs).length->∃w∈Tree.mC (vv bs) (Edge.bp (bt bs)) b,w<b:=by
 intro b hb ma;have o:=GV E h0;obtain⟨h1,h2,_,_,h5⟩:=Dfs.yD h0 (Ce E);have hl:(bt bs).length=bs.length:=by simp[bt]
 have yr:∀ts∈bt bs,∀t∈ts,t.toNat<(bt bs).length:=by intro ts ot t ht;obtain⟨b,hb,rfl⟩:=j_.1 ot;have:=E.to b hb t ht;rw[hl];omega
 obtain⟨x,hx⟩:=ay (vv bs) b ma;have Gi:=bU hx;have Nk:x≠0:=fun e=>by subst e;have:=o.inj hx o.zero;omega
 obtain⟨p,hp,l1,l2,arP,xh⟩:=h5 x (List.mem_reverse.1 Gi) Nk;obtain⟨ps,iT⟩:=ay (Edge.bp (bt bs)) x (by rw[Edge.cR,hl];exact o.lt x Gi);have af2:vv bs=l2.reverse++x::l1.reverse:=by unfold vv;rw[arP];simp
 obtain⟨w,hw⟩:=oD (List.mem_reverse.2 xh);have DE:=(bK.mp hw).1;have hw2:(vv bs)[w]?=some p:=by rw[af2,FX DE,hw]
 have cC:(vv bs)[l2.reverse.length]?=some x:=by rw[af2,HA (dH _)];simp
 have:=o.inj hx cC;refine⟨w,(Tree.rQ hx iT).2 ⟨p,hw2,?_⟩,by omega⟩;have re:=(Edge.mL yr (u:=x) (x:=(p:Int))).2 (by
  unfold Dfs.row qG at hp;rw[tV] at hp;cases hbp:bs[p]? with
  |none=>rw[hbp] at hp;simp at hp
  |some y=>
   rw[hbp] at hp;simp at hp;obtain⟨t,ht,e⟩:=hp;exact⟨p,rfl,y.to,by simp[bt,hbp],t,ht,e.symm⟩)
 rw[iT] at re;exact re
def ac6(h:ab)(n:Nat)(v:Value)(h':ab):Prop:=aa aG h h'/\∃d us s,v=.slice (some ⟨d,0,none⟩) n n/\h.next<=d/\h'.tr.get d=some (.aC (bg.flat us) false 0 s)/\Tree.Tw us n
theorem VH(ok:bl h){name:ByteArray}{p r:Int}{B:SV}(hB:yM h B bs)(E:jn bs)(h0:0<bs.length):aE FF BL [.agg ⟨aj name p r B⟩] h (ac6 h bs.length):=by
 have cV:=SliceR.len hB;have hl:=E.len;have r1:roomy bs.length=true:=by simp[roomy];omega
 have r2:roomy (bs.length*8)=true:=by simp[roomy];omega
 have o:=GV E h0;obtain⟨KH,ho0⟩:=Y9 E h0;refine aE.of J0 ?_;unfold Bb;simp[aj];refine aF.cut (fun h1=>aa aG h h1/\h1.tr.get h.next=some (.aC (aj name p r B) false 0 0)) ⟨(aa.refl ok).new _ _,by simp[aj]⟩ ?_;rintro h1⟨g1,hF⟩;have u5:=hF;simp[aj] at u5;refine aF.call (V:=fun v h'=>aa aG h1 h'/\∃L:SV,v=L.v/\bJ bg h1.next h' L.v (qQ bs).reverse) (by simpa [aj] using GW g1.ok (name:=name) (p:=p) (r:=r) (hB.mono ok g1) E h0) ?_;rintro _ h2⟨g2,L,rfl,hA⟩;rw[acg] at hA;rcases hA with⟨e,_⟩|⟨d3,s3,e,Bx,_,hn3⟩
 .have:(nI (vv bs)).length=0:=by rw[e];rfl
  simp[nI] at this;rw[this] at ho0;simp at ho0
 have Wh:(nI (vv bs)).length=(vv bs).length:=by simp[nI]
 rw[Wh] at e;rw[e];have dX:=g2.get g1.ok u5;have hz:iP [Value.int .i64 0] bs.length=bg.flat (List.replicate bs.length (0:Int)):=yF bg (0:Int) rfl _;have oF:=g2.ok.bE dX;simp[dX,cV,r1,r2,hz,oF,aN,aq dX,-ae];refine aF.cut (fun h3=>aa aG h2 h3/\(∃s,h3.tr.get h2.next=some (.aC (bg.flat (List.replicate bs.length (0:Int))) false 0 s))/\(∃s,h3.tr.get (h2.next+1)=some (.aC [.int .i64 (-1)] false 0 s))/\h2.next+1<h3.next) ?_ ?_
 .exact⟨((aa.refl g2.ok).new _ _).new _ _,⟨0,by simp⟩,⟨0,by simp⟩,by simp⟩
 rintro h3⟨g3,⟨s4,h4b⟩,⟨sm1,X3⟩,l3⟩;have qL:=g3.get g2.ok dX;refine aF.call (V:=fun v h'=>aa aG h3 h'/\∃d s,v=.slice (some ⟨d,0,none⟩) bs.length bs.length/\h3.next<=d/\h'.tr.get d=some (.aC (bg.flat (List.replicate bs.length (-1:Int))) false 0 s)) (by simpa using Hd g3.ok bs.length (by omega) (x:= -1) X3) ?_;rintro _ h5⟨g5,d5,s5,rfl,hn5,OP⟩;have hO5:=(g3.trans g5).get g2.ok Bx;have Ds:=g5.get g3.ok h4b;have l3':=(g2.ok.bE Bx).lt;simp;refine aaP g5.ok o KH hl hO5 Ds (by simp) (by omega) (by simp) (by simp) (by simp) (by simp) ?_;rintro e6 h6 qP K6 g6⟨s6,XB⟩ xh Dx;have Uf:=g6.get g5.ok OP (by have:=g2.ok;omega);have hO6:=g6.get g5.ok hO5 (by omega);have g56:aa aG h h6:=(((g1.trans g2).trans g3).trans g5).trans' g6 (fun _ _ h=>h) (fun x hx e=>by have:=(g1.trans g2).next;omega);have k5:ai e6 5=.slice (some ⟨d5,0,none⟩) bs.length bs.length:=K6.at (t:=5) (by simp);have k1:ai e6 1=.pointer (some ⟨h.next,0,none⟩):=K6.at (t:=1) (by simp);have k3:ai e6 3=.slice (some ⟨d3,0,none⟩) (vv bs).length (vv bs).length:=K6.at (t:=3) (by simp);have k4:ai e6 4=.slice (some ⟨h2.next,0,none⟩) bs.length bs.length:=K6.at (t:=4) (by simp);have hF6:=g6.get g5.ok (g5.get g3.ok qL) (by have:=g2.next;have:=(g1.ok.bE u5).lt;omega);have Et:(1:Nat)<=bs.length:=h0;have oF6:=g56.ok.bE hF6;have nF:¬h.next=d5:=by have:=(g1.ok.bE u5).lt;have:=g2.next;omega
 simp[k5,h0,Uf,k1,Et,bj nF,aq hF6,-ae,cV];have sp0:=oq (List.replicate bs.length (-1)) 0 0 (by simpa using h0);refine aF.cut (fun h7=>aa (· =d5) h6 h7/\∃s,h7.tr.get d5=some (.aC (bg.flat ((List.replicate bs.length (-1:Int)).set 0 0)) false 0 s)) ?_ ?_
 .exact⟨aJ g56.ok Uf,h6.clock,by rw[aA,sp0]⟩
 rintro h7⟨g7,s7,hU7⟩;have hO7:=g7.get g56.ok hO6 (by omega);have hA7:=g7.get g56.ok XB (by omega);have g07:aa aG h h7:=g56.trans' g7 (fun _ _ h=>h) (fun x hx e=>by have:=(g1.trans g2).next;omega);refine aF.call (V:=fun v h'=>aa aG h7 h'/\∃d ws,v=.slice (some ⟨d,0,none⟩) bs.length bs.length/\je bg h7.next h' d ws (Edge.bp (bt bs))) (by simpa [aj,cV] using jk g07.ok (name:=name) (p:=p) (r:=r) (hB.mono ok g07) E) ?_;rintro _ h8⟨g8,d8,ws,rfl,w8⟩;have hU8:=g8.get g07.ok hU7;have hO8:=g8.get g07.ok hO7;have hA8:=g8.get g07.ok hA7;have l5:=(g07.ok.bE hU7).lt;have W:TS h h8 bs.length (vv bs) qP ((List.replicate bs.length (-1:Int)).set 0 0) (Edge.bp (bt bs)) d3 h2.next d5 d8 h7.next ws:=
  ⟨g07.trans g8,by have:=(g1.trans g2).next;omega,⟨s3,hO8⟩,⟨s6,hA8⟩,⟨s7,hU8⟩,w8,l5,by omega,by omega⟩
 have c:TC bs.length (vv bs) qP (Edge.bp (bt bs)):=⟨o,hl,xh,Dx,Sb E,Vc E h0,KH⟩;simp;refine Oa W c ho0 ⟨by simp[k3],by simp[k4],by simp[k5],by simp⟩ (by simp) ?_;rintro e9 h9 us V W9 hBt hR E9;obtain⟨s9,hU9⟩:=W9.hU;have asS:1<=us.length:=by rw[hR.len];exact h0
 have sp9:=oq us 0 (-1) (by omega);simp[E9.f5,h0,hU9,asS];refine⟨W9.g.put ⟨_,hU9⟩ (.inl W9.n5),d5,us.set 0 (-1),h9.clock,rfl,W9.n5,by rw[aA,sp9],Tree.amY o hBt.1 hR KH⟩
def gm(x:GI):List (Bool×Int):=(if(cN x.op).2.1 then [x.a] else [])++((if(cN x.op).2.2 then [x.b] else [])++x.args)
def cz(x:GI)(A:SV):List Value:=aK x.op x.dst x.a.1 x.a.2 x.b.1 x.b.2 x.fn A.v
theorem JI(h:ab)(x:GI)(A:SV):aE FF xU [.agg ⟨cz x A⟩] h (fun v h'=>v=.func (.func iG) #[] #[.pointer (some ⟨h.next,0,none⟩)]/\h'=aD h (cz x A) 0):=by refine aE.of Mm ?_;unfold C7;simp[cz,aK]
theorem Hg{S:Nat->Prop}{h1:ab}(ok:bl h1){l p:Nat}{asg body:ak}{v:Value}{K Z:ab->Prop}(hS:¬S l)(hl:h1.tr.get l=some (.loop e [p] asg body .ready))(H:az FF asg (Tr.set e p v) h1 (fun x e2 h2=>x=.normal/\aa aG h1 h2/\∀h3,aa (· =l) h2 h3->az FF body e2 h3 (fun x _ h4=>aa S h3 h4/\((x=.normal/\K h4)\/(x=.ret/\Z h4)))))(hK:∀h4 h5,K h4->bl h4->aa (· =l) h4 h5->K h5)(hZ:∀h4 h5,Z h4->bl h4->aa (· =l) h4 h5->Z h5):cP FF (.func (.yield l) #[] #[]) [v] h1 (fun r h5=>aa (fun x=>S x\/x=l) h1 h5/\((r=.bool true/\h5.tr.get l=some (.loop e [p] asg body .ready)/\K h5)\/(r=.bool false/\h5.tr.get l=some (.loop e [p] asg body (.done none))/\Z h5))):=by
 refine cP.yield hl (by simp[jb];rfl) ?_;refine H.mono ?_;rintro x e2 h2⟨rfl,g2,H2⟩;have uO:=g2.get ok hl;refine⟨rfl,uO,?_⟩;have gs:=kQ g2.ok uO e [p] asg body .busy;refine(H2 _ gs).mono ?_;rintro x e3 h4⟨g4,hx⟩;have I8:=g4.get gs.ok (p8 h2 l e [p] asg body .busy) hS;have all:∀st,aa (fun x=>S x\/x=l) h1 (gM h4 l e [p] asg body st):=fun st=>
  ((g2.aX.trans' gs (fun _ _ h=>h) (fun _ _ h=>.inr h)).trans' g4 (fun _ _ h=>h) (fun _ _ h=>.inl h)).trans' (kQ g4.ok I8 e [p] asg body st) (fun _ _ h=>h) (fun _ _ h=>.inr h)
 rcases hx with⟨rfl,k4⟩|⟨rfl,z4⟩
 .exact⟨⟨_,_,_,_,I8,rfl,rfl,rfl,rfl⟩,all _,.inl ⟨rfl,p8 _ _ _ _ _ _ _,hK _ _ k4 g4.ok (kQ g4.ok I8 e [p] asg body .ready)⟩⟩
 .exact⟨⟨_,_,_,_,I8,rfl,rfl,rfl,rfl⟩,all _,.inr ⟨rfl,p8 _ _ _ _ _ _ _,hZ _ _ z4 g4.ok (kQ g4.ok I8 e [p] asg body (.done none))⟩⟩
def YQ(S:Nat->Prop)(B:Nat)(K Z:ab->Prop)(h2:ab)(r:Value)(h':ab):Prop:=aa (fun b=>S b\/B<=b) h2 h'/\((r=.bool true/\K h')\/(r=.bool false/\Z h'))
def V1I(x:GI)(A:SV)(y:Value)(X B:Nat)(k:Nat)(I:Nat->Nat->ab->Prop)(m:Nat)(e:Env)(h2:ab):Prop:=
 ∃j:Nat,m=x.args.length-j/\j<=x.args.length/\ai e 0=y/\ai e 30=A.v/\ai e 31=.int .i64 x.args.length/\ai e 32=.int .i64 j/\B<=h2.next/\I B (k+j) h2
theorem Hs(gL:bl h0){X:Nat}{x:GI}{A:SV}(hA:SliceR vR 2 h0 A.v x.args)(hl:x.args.length<2000000){y:Value}(I:Nat->Nat->ab->Prop)(S:Nat->Prop)(Z:ab->Prop)(hI:∀B j h2,I B j h2->aa aG h0 h2/\∃s,h2.tr.get X=some (.aC (cz x A) false 0 s))(zw:∀B j h2 h3,I B j h2->aa aG h2 h3->I B j h3)(hS:∀b,S b->b<h.next)(H:∀B j v h2,(gm x)[j]?=some v->B<=h2.next->h.next<B->I B j h2->cP FF y [.agg ⟨[.bool v.1,.int .i64 v.2]⟩] h2 (YQ S B (I B (j+1)) Z h2))(g0:aa aG h0 h)(hX:∃s,h.tr.get X=some (.aC (cz x A) false 0 s))(hi:∀h1,aa aG h h1->I h1.next 0 h1):aE FF iG [y,.pointer (some ⟨X,0,none⟩)] h (fun _ h'=>(∃B,I B (gm x).length h')\/Z h'):=by
 have Cm:=SliceR.len hA;obtain⟨s0,hX⟩:=hX;have nt:=hX;simp[cz,aK] at nt;have lX:=(g0.ok.bE hX).lt;refine aE.of HL ?_;unfold zh;simp[nt];refine aF.call (by simpa using D1 h g0.ok x.op) ?_;rintro _ h1⟨rfl,g1⟩;have qq:=g1.get g0.ok nt;have oX1:=g1.ok.bE qq;have l1:=g1.next
 
 have loop:∀(B k:Nat)(h5:ab)(e:Env)(Q:aO->Env->ab->Prop),ai e 0=y->ai e 30=A.v->ai e 31=.int .i64 x.args.length->ai e 32=.int .i64 0->B<=h5.next->h.next<B->(∀j,j<=x.args.length->(gm x)[k+j]?=x.args[j]?)->k+x.args.length=(gm x).length->I B k h5->(∀e' h',(∃B,I B (gm x).length h')\/Z h'->Q (.exit 0) e' h'/\Q .ret e' h')->az FF (.loop qx) e h5 Q:=by
  intro B k h5 e Q f0 f30 f31 f32 hB P5 hv hk hi5 HQ;refine az.loop (V1I x A y X B k I) ?_ (n:=x.args.length) ⟨0,rfl,by omega,f0,f30,f31,f32,hB,hi5⟩;rintro m e6 h6⟨j,rfl,hj,f0,f30,f31,f32,hB6,hi6⟩;unfold qx;obtain⟨g6,s6,Ap⟩:=hI _ _ _ hi6;by_cases aM:j<x.args.length
  .have hx:x.args[j]?=some x.args[j]:=ff aM;generalize x.args[j]=v at hx;obtain⟨bT,off,c,AM,_,_,rfl,oT,cS⟩:=SliceR.later gL hA hx;have r0:=cS h6 g6 0 2 (by decide);simp[-ae] at r0;have aa3:=f30;simp at aa3;rw[AM,Cm] at aa3;have wj:=wrap_i64 ((j:Int)+1) (by omega) (by omega);simp[f0,aa3,f31,f32,aM,r0,-ae,au];refine aF.cut (fun h7=>aa aG h6 h7) ((aa.refl g6.ok).var _ _) ?_;intro h7 g7;have l7:=g7.next;refine aF.cu (V:=YQ S B (I B (k+j+1)) Z h7) (by simpa [f0] using H B (k+j) v h7 (by rw[hv j hj,hx]) (by omega) P5 (zw _ _ _ _ hi6 g7)) ?_;rintro r h8⟨g8,h|h⟩
   .obtain⟨rfl,hi8⟩:=h;simp[f32,wj];exact⟨x.args.length-(j+1),by omega,j+1,rfl,aM,by simp[f0],by simp[aa3,AM,Cm],by simp[f31],by simp,by have:=g8.next;omega,by simpa [AL] using hi8⟩
   .obtain⟨rfl,hz⟩:=h;simp;exact(HQ _ _ (.inr hz)).2
  .have:j=x.args.length:=by omega
   subst this;simp[f31,f32];exact(HQ _ _ (.inl ⟨B,by rw[<-hk];exact hi6⟩)).1
 
 have hXi:∀B j h2,I B j h2->∃s,h2.tr.get X=some (.aC [.int .i64 x.op,.int .i64 x.dst,.bool x.a.1,.int .i64 x.a.2,.bool x.b.1,.int .i64 x.b.2,.int .i64 x.fn,A.v] false 0 s):=by intro B j h2 EH;obtain⟨_,s,e⟩:=hI _ _ _ EH;exact⟨s,by simpa [cz,aK] using e⟩
 cases Qq:(cN x.op).2.1 with
 |true=>
  simp[qq,oX1];refine aF.cut (fun h2=>aa aG h1 h2/\(∃s,h2.tr.get h1.next=some (.aC [.bool (cN x.op).1,.bool true,.bool (cN x.op).2.2] false 0 s))) ⟨(aa.refl g1.ok).var _ _,h1.clock,by simp⟩ ?_;rintro h2⟨g2,s2,hT⟩;have lT:=g2.ok.bE hT;have lT':=lT.lt;refine aF.cu (V:=YQ S h2.next (I h2.next 1) Z h2) (by simpa using H h2.next 0 x.a h2 (by simp[gm,Qq]) (dH _) (by omega) (hi h2 (g1.trans g2))) ?_;rintro r h3⟨g3,⟨rfl,hi3⟩|⟨rfl,hz⟩⟩
  .have hT3:=g3.get g2.ok hT (by rintro(h|h);exact absurd (hS _ h) (by omega);omega);obtain⟨s3,iO⟩:=hXi _ _ _ hi3;have l3:=g3.next;cases CM:(cN x.op).2.2 with
   |true=>
    rw[CM] at hT3;simp at iO;simp[hT3,iO];refine aF.cu (V:=YQ S h2.next (I h2.next 2) Z h3) (by simpa using H h2.next 1 x.b h3 (by simp[gm,Qq,CM]) l3 (by omega) hi3) ?_;rintro r h4⟨g4,⟨rfl,hi4⟩|⟨rfl,hz⟩⟩
    .obtain⟨s4,vS⟩:=hXi _ _ _ hi4;simp at vS;simp[vS];refine loop h2.next 2 h4 _ _ (by simp) (by simp) (by simp[Cm]) (by simp) (by have:=g4.next;omega) (by omega) (fun j _=>?_) ?_ hi4 (fun e' h' hh=>by simpa using hh)
     .simp[gm,Qq,CM,Nat.add_comm 2 j]
     .simp[gm,Qq,CM];omega
    .simp;exact .inr hz
   |false=>
    rw[CM] at hT3;simp at iO;simp[hT3,iO];refine loop h2.next 1 h3 _ _ (by simp) (by simp) (by simp[Cm]) (by simp) (by omega) (by omega) (fun j _=>?_) ?_ hi3 (fun e' h' hh=>by simpa using hh)
    .simp[gm,Qq,CM,Nat.add_comm 1 j]
    .simp[gm,Qq,CM];omega
  .simp;exact .inr hz
 |false=>
  cases CM:(cN x.op).2.2 with
  |true=>
   simp[qq,oX1];refine aF.cut (fun h2=>aa aG h1 h2/\h1.next<h2.next) ⟨(aa.refl g1.ok).var _ _,by simp⟩ ?_;rintro h2⟨g2,l2⟩;refine aF.cu (V:=YQ S h2.next (I h2.next 1) Z h2) (by simpa using H h2.next 0 x.b h2 (by simp[gm,Qq,CM]) (dH _) (by omega) (hi h2 (g1.trans g2))) ?_;rintro r h3⟨g3,⟨rfl,hi3⟩|⟨rfl,hz⟩⟩
   .obtain⟨s3,iO⟩:=hXi _ _ _ hi3;simp at iO;simp[iO];refine loop h2.next 1 h3 _ _ (by simp) (by simp) (by simp[Cm]) (by simp) g3.next (by omega) (fun j _=>?_) ?_ hi3 (fun e' h' hh=>by simpa using hh)
    .simp[gm,Qq,CM,Nat.add_comm 1 j]
    .simp[gm,Qq,CM];omega
   .simp;exact .inr hz
  |false=>
   simp[qq,oX1];refine az.cut (fun h2=>aa aG h1 h2/\h1.next<h2.next) ⟨(aa.refl g1.ok).var _ _,by simp⟩ ?_;rintro h2⟨g2,l2⟩;refine loop h2.next 0 h2 _ _ (by simp) (by simp) (by simp[Cm]) (by simp) (dH _) (by omega) (fun j _=>?_) ?_ (hi h2 (g1.trans g2)) (fun e' h' hh=>by simpa using hh)
   .simp[gm,Qq,CM]
   .simp[gm,Qq,CM]
def AS(h:ab)(v:Value)(h':ab):Prop:=aa aG h h'/\∃t:Bool,v=.bool t
def apm(h:ab)(n d:Nat)(Lg:Nat->Nat)(a:Int)(m:Nat)(e:Env)(h2:ab):Prop:=
 ai e 0=.slice (some ⟨d,0,none⟩) n n/\ai e 1=.int .i64 a/\aa aG h h2/\((∃x:Nat,x<n/\m=Lg x+1/\ai e 2=.int .i64 x)\/(m=0/\ai e 2=.int .i64 (-1)))
theorem Re(ok:bl h)(hn:n<1000000)(hd:h.tr.get d=some (.aC (bg.flat us) ro o s))(U:Tree.Tw us n)(a:Int)(hb:b<n):aE FF DM [.slice (some ⟨d,0,none⟩) n n,.int .i64 a,.int .i64 b] h (AS h):=by
 obtain⟨hl,Lg,_,hr⟩:=U;refine aE.of Mn ?_;unfold C8;simp;refine az.loop (apm h n d Lg a) ?_ (n:=Lg b+1) ⟨by simp,by simp,.refl ok,.inl ⟨b,hb,rfl,by simp⟩⟩;rintro m e h2⟨f0,f1,g2,hx⟩;unfold zI;rcases hx with⟨x,Jd,rfl,f2⟩|⟨rfl,f2⟩
 .by_cases SG:(x:Int)=a
  .have agp:((x:Int) !=a)=false:=by simpa using SG
   simp[f1,f2,agp];exact⟨g2,_,rfl⟩
  .have agp:((x:Int) !=a)=true:=by simpa using SG
   have Ic:=g2.get ok hd;obtain⟨v,hv⟩:=ay us x;have rd:=iH Ic hv;simp[f0,f1,f2,agp,Jd,rd,-ae];rcases hr x v hv with rfl|⟨y,rfl,hy,hyr⟩
   .exact⟨0,by omega,by simp[f0],by simp[f1],g2,.inr ⟨rfl,by simp⟩⟩
   .exact⟨Lg y+1,by omega,by simp[f0],by simp[f1],g2,.inl ⟨y,hy,rfl,by simp⟩⟩
 .simp[f1,f2];exact⟨g2,_,rfl⟩
def S9(name:ByteArray)(p r:Int)(B U W:SV):List Value:=[.string name,.int .i64 p,.int .i64 r,B.v,U.v,W.v]
theorem Zv{ws:List (Int×Int)}(hW:h.tr.get W=some (.aC (uK.flat ws) ro o s)){x:Int×Int}(hk:ws[k]?=some x):∀i m,i+m<=2->aV h W (k*2+i) m=some (((uK.enc x).drop i).take m):=by intro i m KE;have hl:=(bK.mp hk).1;have:=uK.jQ ws k i m x hk (by simpa using KE);rw[cx hW (by rw[uK.bh];simp;omega)];simp only[aaZ] at this;rw[this]
theorem Z0(ws:List (Int×Int))(i:Nat)(x:Int×Int)(h:i<ws.length):aR (uK.flat ws) (i*2) [.int .i64 x.1,.int .i64 x.2]=uK.flat (ws.set i x):=by have:=uK.dS ws i x h;simpa using this
section
variable{name:ByteArray}{p r:Int}{B U:SV}
def WrQ(h:ab)(W n:Nat)(v:Value)(h':ab):Prop:=(∃t:Bool,v=.bool t)/\aa (· =W) h h'/\∃ws s,h'.tr.get W=some (.aC (uK.flat ws) false 0 s)/\ws.length=n
theorem RI(ok:bl h){ws:List (Int×Int)}(hC:h.tr.get C=some (.aC (S9 name p r B U ⟨some ⟨W,0,none⟩,n,wc⟩) false 0 s1))(hW:h.tr.get W=some (.aC (uK.flat ws) false 0 s2))(hl:ws.length=n)(hk:k<n)(i j:Int):aE FF lD [.pointer (some ⟨C,0,none⟩),.int .i64 k,.int .i64 i,.int .i64 j] h (WrQ h W n):=by
 refine aE.of yQ ?_;unfold qK;simp[S9] at hC;obtain⟨w,hw⟩:=ay ws k;have r0:=Zv hW hw 0 1 (by decide);simp[-ae] at r0;by_cases h0:0<=w.1
 .simp[hC,hk,r0,h0,-ae,aq hC];exact⟨⟨_,rfl⟩,.refl ok,ws,s2,hW,hl⟩
 .have sp:=Z0 ws k (i,j) (by omega);have pc:k*2+2<=ws.length*2:=by omega
  simp[hC,hk,r0,h0,-ae,aq hC,hW,pc];exact⟨⟨_,rfl⟩,aJ ok hW,ws.set k (i,j),h.clock,by rw[aA,sp],by simp[hl]⟩
theorem QA(ok:bl h){C W n wc s1 s2 s3 d nb oU:Nat}{roU:Bool}{ws:List (Int×Int)}(hC:h.tr.get C=some (.aC (S9 name p r B ⟨some ⟨d,0,none⟩,nb,nb⟩ ⟨some ⟨W,0,none⟩,n,wc⟩) false 0 s1))(hW:h.tr.get W=some (.aC (uK.flat ws) false 0 s2))(hl:ws.length=n)(hd:h.tr.get d=some (.aC (bg.flat us) roU oU s3))(hU:Tree.Tw us nb)(Nc:nb<1000000){v:Bool×Int}(hv:v.1=true->0<=v.2/\v.2<n)(hi:i<nb)(j:Int):aE FF lz [.pointer (some ⟨C,0,none⟩),.agg ⟨[.bool v.1,.int .i64 v.2]⟩,.int .i64 i,.int .i64 j] h (AS h):=by
 refine aE.of yP ?_;unfold qJ;obtain⟨rg,k⟩:=v;cases rg with
 |false=>
  simp;exact⟨(aa.refl ok).new _ _,_,rfl⟩
 |true=>
  obtain⟨h0,hn⟩:=hv rfl;dsimp only at h0 hn;obtain⟨k,rfl⟩:∃k':Nat,k=k':=⟨k.toNat,by omega⟩;have hk:k<n:=by omega
  obtain⟨w,hw⟩:=ay ws k;have oC:=ok.bE hC;have oW:=ok.bE hW;have r0:=Zv hW hw 0 2 (by decide);have H0:=hC;simp[S9] at H0;simp[-ae] at r0;simp[H0,oC,oW,r0,hk,aN,jx,aq H0,aB,au,-ae];refine az.cut (fun h2=>aa aG h h2/\∃s,h2.tr.get (h.next+1)=some (.aC [.int .i64 w.1,.int .i64 w.2] false 0 s)) ?_ ?_
  .refine⟨?_,?_⟩
   .exact((aa.refl ok).new _ _).tick.var _ _
   .exact⟨_,aA _ _ _ _ _ _⟩
  rintro h2⟨g2,s4,hR⟩;have qZ:=g2.get ok H0;have Ic:=g2.get ok hd;by_cases k1:w.1<0
  .simp[hR,k1];exact⟨g2,_,rfl⟩
  .by_cases k2:w.1=(i:Int)
   .simp[hR,k1,k2];exact⟨g2,_,rfl⟩
   .have k2':(w.1==(i:Int))=false:=by simpa using k2
    have k1':0<=w.1:=by omega
    simp[hR,k1,k1',k2',qZ];refine aZ.call (V:=AS (tick h2)) (by simpa using Re (h:=tick h2) g2.tick.ok Nc Ic hU w.1 hi) ?_;rintro _ h3⟨g3,t,rfl⟩;simp;exact⟨g2.tick.trans g3,_,rfl⟩
end
end Go.Proofs.YtdhnndleffachaaGreatDoor
