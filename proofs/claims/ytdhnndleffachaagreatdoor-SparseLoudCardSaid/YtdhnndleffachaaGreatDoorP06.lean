/- Parts of the proof. -/
import Derived.Test.YtdhnndleffachaaGreatDoorP05
import Derived.Test.YtdhnndleffachaaGreatDoorP00
set_option linter.all false
namespace Go.Proofs.YtdhnndleffachaaGreatDoor
open Go.AI
variable {B:SV} {bs:List GB} {h:ae}
theorem kj {W:Nat} {ws:List Int} {o s:Nat} {ro:Bool} (hW:h.tr.get W=some (.aA (bp.flat ws) ro o s)) {k:Nat} {x:Int} (hk:ws[k]? =some x):bc h W k 1=some [.int .i64 x]:=by have hl:=(bY.mp hk).1;rw[cy hW (by rw[bp.bC];show k+1<=ws.length*1;omega)];have:=bp.nq ws k 0 1 x hk (by decide);simp only[ID] at this;rw[show k=k*bp.sz from(Nat.mul_one k).symm,this];rfl
theorem oO (ws:List Int) (i:Nat) (x:Int) (h:i<ws.length):aJ (bp.flat ws) i [.int .i64 x]=bp.flat (ws.set i x):=by have:=bp.fu ws i x h;simpa using this
def pW (bs:List GB):List Int:=(Dfs.lH (py bs) bs.length).map fun x:Nat=>(x:Int)
theorem DV (n:Nat):Dfs.cU ⟨List.replicate n false,[]⟩=n:=by
 unfold Dfs.cU;dsimp only;induction n with
 |zero=>rfl
 |succ n ih=>rw[List.replicate_succ,List.countP_cons,ih];rfl
theorem Hz (ok:bu h) {name:ByteArray} {p r:Int} (hB:AU h B bs) (E:jo bs) (h0:0<bs.length):
  aF FF Am [.agg ⟨au name p r B⟩] h (fun v h'=>ab aG h h'/\ ∃L:SV,v=L.v/\cI bp h.next h' L.v (pW bs)):=by
 have ew:=SliceR.len hB;have hl:=E.len;have r1:roomy bs.length=true:=by simp[roomy];omega
 have r2:roomy (bs.length*1)=true:=by simp[roomy];omega
 have hr:jW [Value.bool false] bs.length=wB.flat (List.replicate bs.length false):=by
  have: ∀n,jW [Value.bool false] n=wB.flat (List.replicate n false):=by
   intro n;induction n with
   |zero=>rfl
   |succ n ih=>rw[List.replicate_succ,Enc.eM,<-ih];rfl
  exact this _
 refine aF.of H6 ?_;unfold zG;simp[au,ew,r1,hr];refine aE.cut (fun h1=>QA h h1 bs.length (h.next+3) (h.next+2) h.next (h.next+4) (h.next+1) name p r B fI ⟨List.replicate bs.length false,[]⟩) ?_ ?_
 .refine⟨?_,by omega,by omega,⟨h.clock,?_⟩,⟨0,?_⟩,⟨0,?_⟩,⟨h.clock+1,?_⟩,⟨0,?_⟩,.inl ⟨rfl,rfl⟩,by simp,by simp[DV],by omega,fun b ⟨_,_,_,e⟩=>by cases e⟩
  .repeat (first|exact .refl ok|apply ab.new|refine ab.put ?_ (by simp[BU]) (.inl (by omega)))
  .simp[BU]
  .simp[BU]
  .simp[BU,au,ew]
  .simp[BU]
  .simp[BU,fI]
 intro h1 w;obtain⟨t4,hV⟩:=w.hV;have lV:=(w.g.ok.bA hV).lt;refine aE.cD (V:=fun _ h'=>T9 h h1 bs.length (h.next+3) (h.next+2) h.next (h.next+4) (h.next+1) name p r B fI (Dfs.visitM (py bs) bs.length 0 ⟨List.replicate bs.length false,[]⟩) h') ?_ ?_
 .have V1:=Pa ok hB E rfl bs.length 0 h1 fI _ w h0 (by simp[UH]) (by rw[DV];exact dK _);have V2:cP FF (.func (.func jE) #[] #[.pointer (some ⟨h.next+3,0,none⟩),.pointer (some ⟨h.next,0,none⟩),.pointer (some ⟨h.next+4,0,none⟩),.pointer (some ⟨h.next+1,0,none⟩)]) [.int .i64 0] h1 _:=cP.func (by simpa using V1);simpa using V2
 rintro v h2 ⟨L,w2,g2,_⟩;obtain⟨t5,hL⟩:=w2.hL;simp at hL;simp[hL];exact⟨w2.g,L,⟨rfl,rfl,rfl⟩,w2.acc⟩
def akR (n0 b:Nat) (h:ae) (xs:List Int) (m:Nat) (e:Env) (h2:ae):Prop:=
 ∃(i:Nat) (ys:List Int),m=xs.length-i/\i<=xs.length/\Env.get e 0= .slice (some ⟨b,0,none⟩) xs.length xs.length/\Env.get e 2= .int .i64 i/\Env.get e 3= .int .i64 ((xs.length:Int)-1-i)/\ab (· =b) h h2/\(∃s,h2.tr.get b=some (.aA (bp.flat ys) false 1 s))/\ys.length=xs.length/\
  ∀k,k<xs.length->ys[k]? =if k<i\/xs.length<=k+i then xs[xs.length-1-k]? else xs[k]?
theorem Jn (ok:bu h) {n0:Nat} {L:SV} {xs:List Int} (a:cI bp n0 h L.v xs) (hl:xs.length<1000000):
  aF FF kC [L.v] h (fun _ h'=>ab (ax L.v) h h'/\cI bp n0 h' L.v xs.reverse):=by
 have w:=wrap_i64 ((xs.length:Int)-1) (by omega) (by omega);refine aF.of tw ?_;unfold ko;rcases a with⟨rfl,e⟩|⟨b,s,e,hb,hx,hn⟩
 .have w0:IntKind.i64.wrap (0-1)= -1:=wrap_i64 _ (by omega) (by omega);have w0':IntKind.i64.wrap (-1)= -1:=wrap_i64 _ (by omega) (by omega);rw[e];simp[w0,w0'];rw[nJ];unfold fE;simp;exact⟨.refl ok,.inl ⟨rfl,rfl⟩⟩
 .rw[e];simp[w];refine aB.loop (akR n0 b h xs) ?_ (n:=xs.length) ⟨0,xs,rfl,by omega,by simp,by simp,by simp,.refl ok,⟨s,hb⟩,rfl,fun k hk=>by rw[aT (by omega)]⟩;rintro m e2 h2 ⟨i,ys,rfl,hi,f0,f2,f3,g2,⟨s2,dq⟩,uw,PT⟩;unfold fE;by_cases vL:(i:Int)<(xs.length:Int)-1-i
  .obtain⟨j,hj⟩: ∃j:Nat,(j:Int)=(xs.length:Int)-1-i:=⟨xs.length-1-i,by omega⟩;have aS:j<xs.length:=by omega
   have ff:i<xs.length:=by omega
   rw[<-hj] at f3;have ag5:i<j:=by omega
   obtain⟨x,Zi⟩: ∃x,ys[i]? =some x:=⟨_,aX (by omega)⟩;obtain⟨y,hy1⟩: ∃y,ys[j]? =some y:=⟨_,aX (by omega)⟩;have rx:=kj dq Zi;have ry:=kj dq hy1;have wi:=wrap_i64 ((i:Int)+1) (by omega) (by omega);have wj:=wrap_i64 ((j:Int)-1) (by omega) (by omega);have k1:i+1<=ys.length:=by omega
   have k2:j+1<=ys.length:=by omega
   have sp1:aJ (bp.flat ys) i [.int .i64 y]=bp.flat (ys.set i y):=oO _ _ _ (by omega);have Xj:aJ (bp.flat (ys.set i y)) j [.int .i64 x]=bp.flat ((ys.set i y).set j x):=oO _ _ _ (by simp;omega);simp[f0,f2,f3,ag5,aS,ff,ay,rx,ry,dq,k1,k2,wi,wj,sp1,-ag];have Bk:(put (tick h2) b i (bp.flat ys) [.int .i64 y] 1).tr.get b=some (.aA (bp.flat (ys.set i y)) false 1 (tick h2).clock):=by rw[aD,sp1]
   have g3:ab (· =b) h (put (tick h2) b i (bp.flat ys) [.int .i64 y] 1):=g2.tick.trans (aM g2.tick.ok dq);refine⟨xs.length-(i+1),by omega,i+1,(ys.set i y).set j x,rfl,by omega,by simp[f0],by simp,by simp;omega,g3.trans (aM g3.ok Bk),⟨_,by rw[aD,Xj]⟩,by simp[uw],fun k hk=> ?_⟩;rw[eR,eR];have hyi:=PT i ff;have VD:=PT j aS;rw[aT (by omega)] at hyi VD;by_cases e1:j=k
   .subst e1;rw[aU rfl,aU (by simp;omega),aU (by omega),<-Zi,hyi];congr 1;omega
   .rw[aT e1];by_cases e2:i=k
    .subst e2;rw[aU rfl,aU (by omega),aU (by omega),<-hy1,VD];congr 1;omega
    .rw[aT e2,PT k hk];by_cases c:k<i\/xs.length<=k+i
     .rw[aU c,aU (by omega)]
     .rw[aT c,aT (by omega)]
  .simp[f2,f3,vL];have e:ys=xs.reverse:=by
    refine zV fun k=> ?_;by_cases hk:k<xs.length
    .rw[List.getElem?_reverse hk,PT k hk];split
     .rfl
     .congr 1;omega
    .rw[uI (by omega),uI (by simp;omega)]
   refine⟨g2.bJ (fun x _ e=>e▸⟨_,_,_,rfl⟩),.inr ⟨b,s2,by simp,by rw[<-e];exact dq,by simpa using hx,hn⟩⟩
theorem EP (ok:bu h) {name:ByteArray} {p r:Int} (hB:AU h B bs) (E:jo bs) (h0:0<bs.length):
  aF FF pf [.agg ⟨au name p r B⟩] h (fun v h'=>ab aG h h'/\ ∃L:SV,v=L.v/\cI bp h.next h' L.v (pW bs).reverse):=by
 refine aF.of CD ?_;unfold vo;simp[au];have g0:=aO ok (au name p r B) 0;refine aE.call (V:=fun v h'=>ab aG (aL h (au name p r B) 0) h'/\ ∃L:SV,v=L.v/\cI bp (h.next+1) h' L.v (pW bs)) (by simpa [au] using Hz g0.ok (name:=name) (p:=p) (r:=r) (hB.mono ok g0) E h0) ?_;rintro _ h1 ⟨g1,L,rfl,hA⟩;have gg:=g0.trans g1;have cn:(pW bs).length<1000000:=by
  have P:=Dfs.xC h0 (AN E);have:(Dfs.lH (py bs) bs.length).length<=bs.length:=by have:=gK_ P.1 (l₂:=List.range bs.length) (fun x hx=>NB.2 (P.2.1 x hx));simpa using this
  have:=E.len;unfold pW;simp;omega
 simp;refine aE.call (V:=fun _ h'=>ab (ax L.v) h1 h'/\cI bp (h.next+1) h' L.v (pW bs).reverse) (by simpa using Jn gg.ok hA cn) ?_;rintro _ h2 ⟨g2,IJ⟩;simp;refine⟨gg.trans' g2 (fun _ _ h=>h) (fun x hx e=>by have:=hA.of e;omega),L,⟨rfl,rfl,rfl⟩,?_⟩;rcases IJ with a|⟨b,s,e,hb,hx,hn⟩
 .exact .inl a
 .exact .inr ⟨b,s,e,hb,hx,by omega⟩
end Go.Proofs.YtdhnndleffachaaGreatDoor
namespace Go.AI.Dom
variable {A B u:Nat->Nat} {b i k x y:Nat}
inductive cV (u:Nat->Nat):Nat->Nat->Prop
 |refl (x:Nat):cV u x x
 |step {x y:Nat} :cV u (u x) y->cV u x y
structure Down (u:Nat->Nat):Prop where
 zero:u 0=0
 lt: ∀i,0<i->u i<i
theorem cV.trans {x y z:Nat} (h:cV u x y) (k:cV u y z):cV u x z:=by
 induction h with
 |refl=>exact k
 |step _ ih=>exact .step (ih k)
theorem cV.le (d:Down u) (h:cV u x y):y<=x:=by
 induction h with
 |refl=>exact dK _
 | @step x y _ ih=>
  rcases tP x with rfl|hx
  .rw[d.zero] at ih;exact ih
  .have:=d.lt x hx;omega
theorem cV.up (h:cV u x y) (hn:x≠y):cV u (u x) y:=by
 cases h with
 |refl=>exact absurd rfl hn
 |step h=>exact h
theorem cV.local {u v:Nat->Nat} (d:Down u) (e: ∀i,i<b->u i=v i) (h:cV u x y) (hx:x<b):cV v x y:=by
 induction h with
 |refl=>exact .refl _
 | @step x y _ ih=>
  refine .step ?_;rw[<-e x hx];refine ih ?_;rcases tP x with rfl|h0
  .rw[d.zero];exact hx
  .have:=d.lt x h0;omega
def mix (A B:Nat->Nat) (b i:Nat):Nat:=if i<b then B i else A i
theorem Wc (h:i<b):mix A B b i=B i:=aU h
theorem Ol (h: ¬i<b):mix A B b i=A i:=aT h
theorem Down.mix {A B:Nat->Nat} (a:Down A) (b:Down B) (k:Nat):Down (mix A B k):=by
 refine⟨?_,fun i hi=> ?_⟩
 .unfold Dom.mix;split
  .exact b.zero
  .exact a.zero
 .unfold Dom.mix;split
  .exact b.lt i hi
  .exact a.lt i hi
theorem r9 (a:Down A) (b:Down B) (hx:x<k):cV (mix A B k) x y↔cV B x y:=
 ⟨fun h=>h.local (a.mix b k) (fun i hi=>Wc hi) hx,fun h=>h.local b (fun i hi=>(Wc hi).symm) hx⟩
theorem KA (a:Down A) (hb:0<b): ∀w,∃q,q<b/\cV A w q/\ ∀B,cV (mix A B b) w q/\ ∀x,x<b->cV (mix A B b) w x->cV (mix A B b) q x:=by
 intro w;induction w using Nat.strongRecOn with
 |ind w ih=>
  by_cases h:w<b
  .exact⟨w,h,.refl _,fun B=>⟨.refl _,fun _ _ h=>h⟩⟩
  .have hw:0<w:=by omega
   obtain⟨q,h1,h2,h3⟩:=ih (A w) (a.lt w hw);refine⟨q,h1,.step h2,fun B=> ?_⟩;obtain⟨h4,h5⟩:=h3 B;refine⟨.step (by rw[Ol h];exact h4),fun x hx hA=> ?_⟩;have:=hA.up (by omega);rw[Ol h] at this;exact h5 x hx this
section
variable (m:Nat) (tg:Nat->List Nat)
def Round (A B:Nat->Nat):Prop:= ∀b,0<b->b<m->(∀w∈tg b,cV (mix A B b) w (B b))/\ ∀z,(∀w∈tg b,cV (mix A B b) w z)->cV (mix A B b) (B b) z
def TZ (B:Nat->Nat):Prop:= ∀b,0<b->b<m->(∀w∈tg b,w<b->cV B w (B b))/\ ∀z,(∀w∈tg b,w<b->cV B w z)->cV B (B b) z
def tW (A B:Nat->Nat):Prop:= ∀p,0<p->p<m->cV B (A p) (B p)
end
section
variable {m:Nat} {tg:Nat->List Nat} {A B C:Nat->Nat}
theorem tW.mono (dA:Down A) (dB:Down B) (W: ∀p,0<p->p<k->cV B (A p) (B p)): ∀w,w<k-> ∀x,cV B w x->cV A w x:=by
 intro w;induction w using Nat.strongRecOn with
 |ind w ih=>
  intro hw x hx;by_cases e:w=x
  .subst e;exact .refl _
  .rcases tP w with rfl|h0
   .have:=hx.le dB;omega
   .have h1:=hx.up e;have h2:=(W w h0 hw).trans h1;exact .step (ih (A w) (dA.lt w h0) (by have:=dA.lt w h0;omega) x h2)
theorem tW.below (dA:Down A) (dB:Down B) (W: ∀p,0<p->p<k->cV B (A p) (B p)) (hb:0<b): ∀p,p<k-> ∃q,q<b/\cV A p q/\cV (mix A B b) p q/\ ∀x,x<b->cV B p x->cV B q x:=by
 intro p;induction p using Nat.strongRecOn with
 |ind p ih=>
  intro hp;by_cases h:p<b
  .exact⟨p,h,.refl _,.refl _,fun _ _ h=>h⟩
  .have h0:0<p:=by omega
   have hl:=dA.lt p h0;obtain⟨q,h1,h2,h3,h4⟩:=ih (A p) hl (by omega);refine⟨q,h1,.step h2,.step (by rw[Ol h];exact h3),fun x hx hB=> ?_⟩;exact h4 x hx ((W p h0 hp).trans (hB.up (by omega)))
theorem tW.over (dB:Down B) (W: ∀p,0<p->p<k->cV C (B p) (C p)): ∀w,w<k-> ∀u,cV B w u-> ∀x,x<=u->cV C w x->cV C u x:=by
 intro w;induction w using Nat.strongRecOn with
 |ind w ih=>
  intro hw u hu x hx hC;by_cases e:w=u
  .subst e;exact hC
  .have hle:=hu.le dB;have h0:0<w:=by omega
   have hl:=dB.lt w h0;exact ih (B w) hl (by omega) u (hu.up e) x hx ((W w h0 hw).trans (hC.up (by omega)))
theorem Fa (dA:Down A) (dB:Down B) (dC:Down C) (hf: ∀b,0<b->b<m-> ∃w∈tg b,w<b) (hp: ∀b w,w∈tg b->w<m)
  (hAB:TZ m tg B\/(Round m tg A B/\tW m A B)) (hBC:Round m tg B C):tW m B C:=by
 intro p;induction p using Nat.strongRecOn with
 |ind p ih=>
  intro h0 JR;have W: ∀q,0<q->q<p->cV C (B q) (C q):=fun q hq Y_=>ih q Y_ hq (by omega);have mono:=tW.mono dB dC W;obtain⟨c1,_⟩:=hBC p h0 JR;have hx:=dC.lt p h0;have hu:=dB.lt p h0
  
  have hB:cV B (B p) (C p):=by
   rcases hAB with h|⟨h,hW⟩
   .refine(h p h0 JR).2 _ fun w hw VB=> ?_;exact mono w VB _ ((r9 dB dC VB).1 (c1 w hw))
   .refine(r9 dA dB hu).1 ((h p h0 JR).2 _ fun w hw=> ?_);by_cases VB:w<p
    .exact(r9 dA dB VB).2 (mono w VB _ ((r9 dB dC VB).1 (c1 w hw)))
    .obtain⟨q,q1,q2,q3⟩:=KA dB h0 w;have h1:=(q3 C).2 _ hx (c1 w hw);have h2:=mono q q1 _ ((r9 dB dC q1).1 h1);have h3:=q2.trans h2;obtain⟨r,r1,_,r3,r4⟩:=tW.below dA dB hW h0 w (hp p w hw);exact r3.trans ((r9 dA dB r1).2 (r4 _ hx h3))
  have hle:=hB.le dB;obtain⟨w,hw,VB⟩:=hf p h0 JR;have hwu:cV B w (B p):=by
   rcases hAB with h|⟨h,_⟩
   .exact(h p h0 JR).1 w hw VB
   .exact(r9 dA dB VB).1 ((h p h0 JR).1 w hw)
  exact tW.over dB W w VB _ hwu _ hle ((r9 dB dC VB).1 (c1 w hw))
theorem tW.le (dB:Down B) (dA:Down A) (W:tW m A B): ∀p,p<m->B p<=A p:=by
 intro p hp;rcases tP p with rfl|h0
 .rw[dB.zero,dA.zero];exact dK _
 .exact(W p h0 hp).le dB
end
def total (u:Nat->Nat):Nat->Nat
 |0=>0
 |n+1=>total u n+u n
theorem Mi {u v:Nat->Nat} : ∀n,(∀i,i<n->u i<=v i)->total u n<=total v n
 |0,_=>dK _
 |n+1,h=>by have:=Mi n (fun i hi=>h i (by omega));have:=h n (by omega);simp only[total];omega
theorem Mj {u v:Nat->Nat} : ∀n,(∀i,i<n->u i<=v i)->(∃i,i<n/\u i≠v i)->total u n<total v n
 |0,_,⟨i,hi,_⟩=>by omega
 |n+1,h,⟨i,hi,hn⟩=>by
  have h1:=Mi n (fun i hi=>h i (by omega));have h2:=h n (by omega);simp only[total];by_cases e:i=n
  .subst e;omega
  .have:=Mj n (fun i hi=>h i (by omega)) ⟨i,by omega,hn⟩;omega
theorem Ct {u:Nat->Nat} {k:Nat} : ∀n,(∀i,i<n->u i<=k)->total u n<=n*k
 |0,_=>by simp[total]
 |n+1,h=>by have:=Ct n (fun i hi=>h i (by omega));have:=h n (by omega);simp only[total,rU];omega
end Go.AI.Dom
namespace Go.AI.Tree
open Go.AI.Dom
variable {A V:Nat->Nat} {aK:List Nat} {ah:List (List Int)} {b i k n x y z:Nat} {p:Int} {ps us:List Int}
structure Mr (aK:List Nat) (us:List Int) (n:Nat) (V:Nat->Nat) (k:Nat):Prop where
 len:us.length=n
 set: ∀(i x:Nat),aK[i]? =some x->i<k-> ∃y:Nat,aK[V i]? =some y/\us[x]? =some (y:Int)
 un: ∀(i x:Nat),aK[i]? =some x->k<=i->us[x]? =some (-1)
 out: ∀x,x<n->x∉aK->us[x]? =some (-1)
structure Ord (aK:List Nat) (n:Nat):Prop where
 nd:aK.Nodup
 lt: ∀x∈aK,x<n
 zero:aK[0]? =some 0
theorem Ord.inj (o:Ord aK n) {i j x:Nat} (hi:aK[i]? =some x) (hj:aK[j]? =some x):i=j:=by have h1:=(bY.mp hi).1;have h2:=(bY.mp hj).1;have e1:=(bY.mp hi).2;have e2:=(bY.mp hj).2;exact(List.getElem_inj o.nd).1 (e1.trans e2.symm)
theorem J3 (d:Down V) (h:y<x) (w:Nat):(cV V x w/\cV V y w)↔(cV V (V x) w/\cV V y w):=by
 constructor
 .rintro⟨h1,h2⟩;have:=h2.le d;exact⟨h1.up (by omega),h2⟩
 .rintro⟨h1,h2⟩;exact⟨.step h1,h2⟩
def yH (aK:List Nat) (V:Nat->Nat) (k:Nat) (ps:List Int) (qG:Int):Prop:=
 (qG= -1/\ ∀p∈ps,∀i,i<k-> ¬ ∃x:Nat,aK[i]? =some x/\p=x)\/
 ∃z y:Nat,z<k/\aK[z]? =some y/\qG=y/\(∃p∈ps,∃i,i<k/\ ∃x:Nat,aK[i]? =some x/\p=x)/\ ∀w,cV V z w↔ ∀p∈ps,∀i,i<k->(∃x:Nat,aK[i]? =some x/\p=x)->cV V i w
theorem yH.nil (aK:List Nat) (V:Nat->Nat) (k:Nat):yH aK V k [] (-1):= .inl ⟨rfl,fun p hp=>by cases hp⟩
theorem yH.skip {qG p:Int} (b:yH aK V k ps qG) (hp: ∀i,i<k-> ¬ ∃x:Nat,aK[i]? =some x/\p=x):yH aK V k (ps++[p]) qG:=by
 rcases b with⟨e,h⟩|⟨z,y,hz,hy,e,⟨q,hq,Y9⟩,h⟩
 .refine .inl ⟨e,fun q hq=> ?_⟩;rcases tO.1 hq with hq|hq
  .exact h q hq
  .simp at hq;subst hq;exact hp
 .refine .inr ⟨z,y,hz,hy,e,⟨q,tO.2 (.inl hq),Y9⟩,fun w=>(h w).trans ⟨fun H q hq i hi hx=> ?_,fun H q hq=>H q (tO.2 (.inl hq))⟩⟩;rcases tO.1 hq with hq|hq
  .exact H q hq i hi hx
  .simp at hq;subst hq;exact absurd hx (hp i hi)
theorem yH.one (o:Ord aK n) (b:yH aK V k ps (-1)) (hi:i<k) (hx:aK[i]? =some x) (hp:p=x):yH aK V k (ps++[p]) p:=by
 rcases b with⟨_,h⟩|⟨z,y,_,_,e,_⟩
 .refine .inr ⟨i,x,hi,hx,hp,⟨p,by simp,i,hi,x,hx,hp⟩,fun w=>⟨fun H q hq j hj ⟨x',pL,hq'⟩=> ?_,fun H=>H p (by simp) i hi ⟨x,hx,hp⟩⟩⟩;rcases tO.1 hq with hq|hq
  .exact absurd ⟨x',pL,hq'⟩ (h q hq j hj)
  .simp at hq;subst hq;have:x'=x:=by omega
   subst this;rw[o.inj pL hx];exact H
 .omega
theorem yH.meet (o:Ord aK n) {a:Nat} {m:Int} (b:yH aK V k ps (a:Int)) (hx:aK[i]? =some x) (hi:i<k) (hp:p=x)
  (hm: ∀za,aK[za]? =some a->za<k-> ∃z y:Nat,z<k/\aK[z]? =some y/\m=y/\ ∀w,cV V z w↔(cV V za w/\cV V i w)):yH aK V k (ps++[p]) m:=by
 rcases b with⟨e,h⟩|⟨z,y,hz,hy,e,⟨q,hq,Y9⟩,h⟩
 .omega
 .have:a=y:=by omega
  subst this;obtain⟨z',y',Tw,C7,e',h'⟩:=hm z hy hz;refine .inr ⟨z',y',Tw,C7,e',⟨q,tO.2 (.inl hq),Y9⟩,fun w=>(h' w).trans ?_⟩;rw[h w];constructor
  .rintro⟨h1,h2⟩ q hq j hj ⟨x',pL,hq'⟩;rcases tO.1 hq with hq|hq
   .exact h1 q hq j hj ⟨x',pL,hq'⟩
   .simp at hq;subst hq;have:x'=x:=by omega
    subst this;rw[o.inj pL hx];exact h2
  .intro H;exact⟨fun q hq=>H q (tO.2 (.inl hq)),H p (by simp) i hi ⟨x,hx,hp⟩⟩
def lg (aK:List Nat) (ah:List (List Int)) (b:Nat):List Nat:=
 (List.range aK.length).filter fun i=>match aK[i]?,aK[b]? with
  |some x,some y=>((ah[y]?).getD []).contains (x:Int)
  |_,_=>false
theorem qm (hy:aK[b]? =some y) (gM:ah[y]? =some ps) :i∈lg aK ah b↔ ∃x:Nat,aK[i]? =some x/\(x:Int)∈ps:=by
 unfold lg;rw[NA,NB,hy];constructor
 .rintro⟨h1,h2⟩;cases hx:aK[i]? with
  |none=>rw[hx] at h2;simp at h2
  |some x=>rw[hx] at h2;simp[gM] at h2;exact⟨x,rfl,h2⟩
 .rintro⟨x,hx,hm⟩;refine⟨(bY.mp hx).1,?_⟩;rw[hx];simpa [gM] using hm
theorem EX (b w:Nat) (h:w∈lg aK ah b):w<aK.length:=by unfold lg at h;exact NB.1 (NA.1 h).1
def uL (V:Nat->Nat) (i z j:Nat):Nat:=if j=i then z else V j
theorem Down.uL {V:Nat->Nat} (d:Down V) {i z:Nat} (hi:0<i) (hz:z<i):Down (uL V i z):=by
 refine⟨?_,fun j hj=> ?_⟩
 .unfold Tree.uL;rw[aT (by omega)];exact d.zero
 .unfold Tree.uL;split
  .omega
  .exact d.lt j hj
structure TR (aK:List Nat) (ah:List (List Int)) (n:Nat) (us:List Int) (first:Bool) (A V:Nat->Nat) (i:Nat) (aV:Bool):Prop where
 rep:Mr aK us n V (if first then i else aK.length)
 dn:Down V
 bA:first=false-> ∀j,i<=j->V j=A j
 aix:first=true-> ∀b,0<b->b<i->(∀w∈lg aK ah b,w<b->cV V w (V b))/\ ∀z,(∀w∈lg aK ah b,w<b->cV V w z)->cV V (V b) z
 rnd:first=false-> ∀b,0<b->b<i->(∀w∈lg aK ah b,cV (mix A V b) w (V b))/\ ∀z,(∀w∈lg aK ah b,cV (mix A V b) w z)->cV (mix A V b) (V b) z
 chg:first=false->aV=true-> ∃j,j<i/\V j≠A j
theorem Mr.put (o:Ord aK n) (r:Mr aK us n V k) (hx:aK[i]? =some x) (hy:aK[z]? =some y) (hk:k<=i+1) (BZ:i<=k):Mr aK (us.set x (y:Int)) n (uL V i z) (i+1):=by
 have He:x<us.length:=by rw[r.len];exact o.lt x (dk hx)
 refine⟨by simp[r.len],fun j w hj hjk=> ?_,fun j w hj hjk=> ?_,fun w hw hn=> ?_⟩
 .by_cases e:j=i
  .subst e;rw[hx] at hj;cases hj;exact⟨y,by rw[uL,aU rfl,hy],by rw[eR,aU rfl,aU He]⟩
  .obtain⟨y',h1,h2⟩:=r.set j w hj (by omega);refine⟨y',by rw[uL,aT e,h1],?_⟩;rw[eR,aT (fun e'=>e (by subst e';exact o.inj hj hx)),h2]
 .have cJ: ¬x=w:=fun e'=>by subst e';have:=o.inj hj hx;omega
  rw[eR,aT cJ];exact r.un j w hj (by omega)
 .rw[eR,aT (fun e':x=w=>hn (e'▸dk hx))];exact r.out w hw hn
theorem Mr.apF (o:Ord aK n) (r:Mr aK us n V k) (hx:aK[i]? =some x) (hy:aK[z]? =some y) (hk:i<k):Mr aK (us.set x (y:Int)) n (uL V i z) k:=by
 have He:x<us.length:=by rw[r.len];exact o.lt x (dk hx)
 refine⟨by simp[r.len],fun j w hj hjk=> ?_,fun j w hj hjk=> ?_,fun w hw hn=> ?_⟩
 .by_cases e:j=i
  .subst e;rw[hx] at hj;cases hj;exact⟨y,by rw[uL,aU rfl,hy],by rw[eR,aU rfl,aU He]⟩
  .obtain⟨y',h1,h2⟩:=r.set j w hj (by omega);refine⟨y',by rw[uL,aT e,h1],?_⟩;rw[eR,aT (fun e'=>e (by subst e';exact o.inj hj hx)),h2]
 .have cJ: ¬x=w:=fun e'=>by subst e';have:=o.inj hj hx;omega
  rw[eR,aT cJ];exact r.un j w hj (by omega)
 .rw[eR,aT (fun e':x=w=>hn (e'▸dk hx))];exact r.out w hw hn
theorem P0 (hb:b<=i):mix A (uL V i z) b=mix A V b:=by
 funext j;unfold mix uL;by_cases h:j<b
 .rw[aU h,aU h,aT (by omega)]
 .rw[aT h,aT h]
theorem TR.step {aK:List Nat} {ah:List (List Int)} {n:Nat} (o:Ord aK n) {us:List Int} {first aV:Bool} {A V:Nat->Nat} {i:Nat} (m:TR aK ah n us first A V i aV) (h0:0<i) {x:Nat} (hx:aK[i]? =some x) {ps:List Int} (gM:ah[x]? =some ps) (hf: ∃w∈lg aK ah i,w<i)
  {qG:Int} (hb:yH aK V (if first then i else aK.length) ps qG): ∃y z:Nat,qG=y/\aK[z]? =some y/\TR aK ah n (us.set x qG) first A (uL V i z) (i+1) (aV||(decide (us[x]? ≠some qG))):=by
 have ff:=(bY.mp hx).1;obtain⟨w0,Tu,hw0i⟩:=hf;have hk:i<=(if first then i else aK.length):=by split<;>omega
 obtain⟨xw,hxw,MG⟩:=(qm hx gM).1 Tu;rcases hb with⟨e,h⟩|⟨z,y,hz,hy,rfl,_,H⟩
 .exact absurd ⟨xw,hxw,rfl⟩ (h _ MG w0 (by omega))
 have hzi:z<i:=by have:=((H z).1 (.refl _)) _ MG w0 (by omega) ⟨xw,hxw,rfl⟩;have:=this.le m.dn;omega
 refine⟨y,z,rfl,hy,?_⟩;have dn':Down (uL V i z):=Down.uL m.dn h0 hzi;have loc: ∀w u,w<i->(cV (uL V i z) w u↔cV V w u):=fun w u hw=>⟨fun h=>h.local dn' (fun j hj=>by unfold uL;rw[aT (by omega)]) hw,fun h=>h.local m.dn (fun j hj=>by unfold uL;rw[aT (by omega)]) hw⟩;cases wL:first with
 |true=>
  have r:=m.rep;rw[wL] at r H;simp only[aU] at r H;refine⟨?_,dn',fun h=>by simp at h,fun _ b XQ hbi=> ?_,fun h=>by simp at h,fun h=>by simp at h⟩
  .have:=r.put o hx hy (by omega) (by omega);simpa using this
  .by_cases e:b=i
   .subst e;have hV:uL V b z b=z:=by unfold uL;rw[aU rfl]
    rw[hV];refine⟨fun w hw hwb=> ?_,fun u hu=> ?_⟩
    .obtain⟨x',pL,NT⟩:=(qm hx gM).1 hw;exact(loc w z hwb).2 (((H z).1 (.refl _)) _ NT w hwb ⟨x',pL,rfl⟩)
    .refine(loc z u hzi).2 ((H u).2 fun p hp j hj ⟨x',pL,hp'⟩=> ?_);exact(loc j u hj).1 (hu j ((qm hx gM).2 ⟨x',pL,hp'▸hp⟩) hj)
   .have acm:b<i:=by omega
    have hV:uL V i z b=V b:=by unfold uL;rw[aT e]
    rw[hV];obtain⟨h1,h2⟩:=m.aix wL b XQ acm;have hVb:=m.dn.lt b XQ;refine⟨fun w hw hwb=>(loc w _ (by omega)).2 (h1 w hw hwb),fun u hu=>(loc _ u (by omega)).2 (h2 u fun w hw hwb=>(loc w u (by omega)).1 (hu w hw hwb))⟩
 |false=>
  have r:=m.rep;rw[wL] at r H;simp only[PG,if_false] at r H;have bA:=m.bA wL;have anA:mix A V i=V:=by
   funext j;unfold mix;split
   .rfl
   .exact(bA j (by omega)).symm
  refine⟨?_,dn',fun _ j hj=> ?_,fun h=>by simp at h,fun _ b XQ hbi=> ?_,fun _ hm=> ?_⟩
  .have:=r.apF o hx hy ff;simpa using this
  .unfold uL;rw[aT (by omega)];exact bA j (by omega)
  .by_cases e:b=i
   .subst e;have hV:uL V b z b=z:=by unfold uL;rw[aU rfl]
    rw[hV,P0 (dK _),anA];refine⟨fun w hw=> ?_,fun u hu=> ?_⟩
    .obtain⟨x',pL,NT⟩:=(qm hx gM).1 hw;exact((H z).1 (.refl _)) _ NT w (EX _ _ hw) ⟨x',pL,rfl⟩
    .refine(H u).2 fun p hp j hj ⟨x',pL,hp'⟩=> ?_;exact hu j ((qm hx gM).2 ⟨x',pL,hp'▸hp⟩)
   .have acm:b<i:=by omega
    have hV:uL V i z b=V b:=by unfold uL;rw[aT e]
    rw[hV,P0 (by omega)];exact m.rnd wL b XQ acm
  .by_cases hmo:aV=true
   .obtain⟨j,hj,cJ⟩:=m.chg wL hmo;exact⟨j,by omega,by unfold uL;rw[aT (by omega)];exact cJ⟩
   .have anC:aV=false:=by simpa using hmo
    rw[anC] at hm;simp only[Bool.false_or,decide_eq_true_eq] at hm;refine⟨i,by omega,?_⟩;unfold uL;rw[aU rfl];intro e;obtain⟨y',h1,h2⟩:=r.set i x hx ff;rw[bA i (dK _),<-e,hy] at h1;cases h1;exact hm h2
def Btw (aK:List Nat) (ah:List (List Int)) (V:Nat->Nat):Prop:=
 Down V/\(TZ aK.length (lg aK ah) V\/ ∃A,Down A/\Round aK.length (lg aK ah) A V/\tW aK.length A V)
theorem apz (o:Ord aK n):Mr aK ((List.replicate n (-1:Int)).set 0 0) n (fun i=>i-1) 1:=by
 have h0:=o.lt 0 (dk o.zero);have cJ: ∀x,¬x=0->x<n->((List.replicate n (-1:Int)).set 0 0)[x]? =some (-1):=by intro x hx hl;rw[eR,aT (fun e=>hx e.symm),UH,aU hl]
 refine⟨by simp,fun i x hi hk=> ?_,fun i x hi hk=> ?_,fun x hx hn=> ?_⟩
 .have:i=0:=by omega
  subst this;rw[o.zero] at hi;cases hi;exact⟨0,o.zero,by rw[eR,aU rfl,aU (by simpa using h0)];rfl⟩
 .refine cJ x (fun e=> ?_) (o.lt x (dk hi));subst e;have:=o.inj hi o.zero;omega
 .exact cJ x (fun e=>hn (e▸dk o.zero)) hx
theorem RG (o:Ord aK n) (A:Nat->Nat) (aV:Bool):TR aK ah n ((List.replicate n (-1:Int)).set 0 0) true A (fun i=>i-1) 1 aV:=
 ⟨by simpa using apz o,⟨rfl,fun i hi=>by show i-1<i;omega⟩,fun h=>by simp at h,fun _ b h1 h2=>by omega,fun h=>by simp at h,fun h=>by simp at h⟩
theorem Wb (r:Mr aK us n A aK.length) (d:Down A):TR aK ah n us false A A 1 false:=
 ⟨by simpa using r,d,fun _ _ _=>rfl,fun h=>by simp at h,fun _ b h1 h2=>by omega,fun _ h=>by simp at h⟩
theorem TR.done {first aV:Bool} (m:TR aK ah n us first A V aK.length aV) (hA:first=false->Btw aK ah A) (hf: ∀b,0<b->b<aK.length-> ∃w∈lg aK ah b,w<b):
  Btw aK ah V/\Mr aK us n V aK.length/\(first=false->aV=true->total V aK.length<total A aK.length):=by
 have r:=m.rep;cases wL:first with
 |true=>
  rw[wL] at r;exact⟨⟨m.dn,.inl fun b h1 h2=>m.aix wL b h1 h2⟩,by simpa using r,fun h=>by simp at h⟩
 |false=>
  rw[wL] at r;obtain⟨dA,hb⟩:=hA wL;have R:Round aK.length (lg aK ah) A V:=fun b h1 h2=>m.rnd wL b h1 h2;have W:tW aK.length A V:=by
   rcases hb with h|⟨A',dA',h1,h2⟩
   .exact Fa dA dA m.dn hf (fun b w=>EX b w) (.inl h) R
   .exact Fa dA' dA m.dn hf (fun b w=>EX b w) (.inr ⟨h1,h2⟩) R
  refine⟨⟨m.dn,.inr ⟨A,dA,R,W⟩⟩,by simpa using r,fun _ hm=> ?_⟩;obtain⟨j,hj,cJ⟩:=m.chg wL hm;exact Mj _ (fun i hi=>tW.le m.dn dA W i hi) ⟨j,hj,cJ⟩
def QB (us:List Int) (n:Nat):Prop:=us.length=n/\ ∃Jl:Nat->Nat,(∀x,Jl x<=n)/\ ∀(x:Nat) (v:Int),us[x]? =some v->v= -1\/ ∃y:Nat,v=y/\y<n/\Jl y<Jl x
theorem aiI (o:Ord aK n) (d:Down V) (r:Mr aK us n V aK.length) (hln:aK.length<=n):QB (us.set 0 (-1)) n:=by
 refine⟨by simp[r.len],fun x=>aK.idxOf x,fun x=>ug List.idxOf_le_length hln,fun x v hv=> ?_⟩;rw[eR] at hv;by_cases e:0=x
 .rw[aU e] at hv;split at hv
  .cases hv;exact .inl rfl
  .cases hv
 .rw[aT e] at hv;have He:x<n:=by have:=(bY.mp hv).1;rw[r.len] at this;exact this
  by_cases hm:x∈aK
  .obtain⟨i,hi⟩:=rT hm;have ff:=(bY.mp hi).1;obtain⟨y,h1,h2⟩:=r.set i x hi ff;rw[h2] at hv;cases hv;have h0:0<i:=by
    rcases tP i with rfl|h
    .rw[o.zero] at hi;cases hi;exact absurd rfl e
    .exact h
   have idx: ∀(j z:Nat),aK[j]? =some z->aK.idxOf z=j:=by
    intro j z hj;have hz:=dk hj;have hl:=List.idxOf_lt_length_iff.2 hz;have:aK[aK.idxOf z]? =some z:=by rw[aX hl,List.getElem_idxOf hl]
    exact o.inj this hj
   refine .inr ⟨y,rfl,o.lt y (dk h1),?_⟩;dsimp only;rw[idx _ _ h1,idx _ _ hi];exact d.lt i h0
  .have:=r.out x He hm;rw[this] at hv;cases hv;exact .inl rfl
end Go.AI.Tree
namespace Go.Proofs.YtdhnndleffachaaGreatDoor
open Go.AI
variable {A AH B L U:SV} {C W b bytes d d3 d4 d5 d8 i k n n8 o pn s s1 s2 wc:Nat} {V:Nat->Nat} {aK l:List Nat} {ah:List (List Int)} {bs:List GB} {e:Env} {f:GF} {h h' h0 h1 hy:ae} {name:ByteArray} {p r:Int} {pV us:List Int} {ro:Bool} {u:GU} {v:Value} {ws:List SV} {x:GI} {z:List Value}
def afh (h:ae) (aK:List Nat) (V:Nat->Nat) (k n d1 d2 x y:Nat) (m:Nat) (e:Env) (h2:ae):Prop:=
 ∃x' y' a' b':Nat,m=x'+y'/\aK[x']? =some a'/\aK[y']? =some b'/\x'<k/\y'<k/\Env.get e 0= .slice (some ⟨d1,0,none⟩) n n/\Env.get e 1= .slice (some ⟨d2,0,none⟩) n n/\Env.get e 2= .int .i64 a'/\Env.get e 3= .int .i64 b'/\ab aG h h2/\ ∀u,(Dom.cV V x u/\Dom.cV V y u)↔(Dom.cV V x' u/\Dom.cV V y' u)
theorem RF (ok:bu h) (o:Tree.Ord aK n) (r:Tree.Mr aK us n V k) (dn:Dom.Down V) {d1 d2 o1 s1 o2 s2:Nat} {ro1 ro2:Bool} (h1:h.tr.get d1=some (.aA (bp.flat us) ro1 o1 s1)) (h2:h.tr.get d2=some (.aA (bp.flat pV) ro2 o2 s2))
  (hla:pV.length=n) (BY: ∀i x:Nat,aK[i]? =some x->pV[x]? =some (i:Int)) {x y a b:Nat} (hx:aK[x]? =some a) (hy:aK[y]? =some b) (hxk:x<k) (hyk:y<k):
  aF FF EB [.slice (some ⟨d1,0,none⟩) n n,.slice (some ⟨d2,0,none⟩) n n,.int .i64 a,.int .i64 b] h
   (fun v h'=>ab aG h h'/\ ∃z w:Nat,v= .int .i64 w/\z<k/\aK[z]? =some w/\ ∀u,Dom.cV V z u↔(Dom.cV V x u/\Dom.cV V y u)):=by
 refine aF.of M6 ?_;unfold DB;simp;refine aB.loop (afh h aK V k n d1 d2 x y) ?_ (n:=x+y) ⟨x,y,a,b,rfl,hx,hy,hxk,hyk,by simp,by simp,by simp,by simp,.refl ok,fun u=>Iff.rfl⟩;rintro m e h3 ⟨x',y',a',b',rfl,pL,C7,adg,ahS,f0,f1,f2,f3,g3,H⟩;have q1:=g3.get ok h1 (fun h=>h);have q2:=g3.get ok h2 (fun h=>h);unfold AA;have Bj:=o.lt a' (dk pL);have iz:=o.lt b' (dk C7);have ra:=kj q2 (BY x' a' pL);have rb:=kj q2 (BY y' b' C7);by_cases zX:a'=b'
 .subst zX;have Gg:=o.inj pL C7;subst Gg;simp[f2,f3];exact⟨g3,x',a',rfl,adg,pL,fun u=>by rw[H u];simp⟩
 .have agE:((a':Int) !=(b':Int))=true:=by simp;omega
  have cJ:x'≠y':=fun e=>zX (by subst e;rw[pL] at C7;cases C7;rfl);by_cases ef:x'<y'
  .obtain⟨c,AW,IQ⟩:=r.set y' b' C7 ahS;have rc:=kj q1 IQ;have hV:=dn.lt y' (by omega);simp[f0,f1,f2,f3,agE,zX,Bj,iz,ra,rb,ef,rc,-ag,ay];exact⟨V y'+x',by omega,V y',x',c,a',rfl,AW,pL,by omega,adg,by simp[f0],by simp[f1],by simp,by simp,by first|exact g3|exact g3.tick,fun u=>by rw[H u,and_comm,Tree.J3 dn ef]⟩
  .have acI:y'<x':=by omega
   obtain⟨c,AW,IQ⟩:=r.set x' a' pL adg;have rc:=kj q1 IQ;have hV:=dn.lt x' (by omega);simp[f0,f1,f2,f3,agE,zX,Bj,iz,ra,rb,ef,rc,-ag,ay];exact⟨V x'+y',by omega,V x',y',c,b',rfl,AW,C7,by omega,ahS,by simp[f0],by simp[f1],by simp,by simp[f3],by first|exact g3|exact g3.tick,fun u=>by rw[H u,Tree.J3 dn acI]⟩
theorem HP {n0:Nat} {j4:List (List Int)} (w:jm bp n0 h d ws j4) {wi:SV} {xs:List Int} (hw:ws[i]? =some wi) (hx:j4[i]? =some xs):SliceR nR 1 h wi.v xs:=by
 have a:=w.acc i wi xs hw hx;rcases a with⟨rfl,e⟩|⟨b,s',e,iy,pL,_⟩
 .rw[e];exact⟨none,0,rfl,.inl ⟨rfl,.inl rfl⟩⟩
 .rw[e];refine⟨_,_,rfl,.inr ⟨b,0,_,_,_,_,rfl,iy,fun k x hk=> ?_⟩⟩;have:=bp.lZ xs k x hk;simp only[Is,Nat.mul_one] at this;rw[Bg,Nat.mul_one,this];exact⟨rfl,rfl⟩
def nI (l:List Nat):List Int:=l.map fun x:Nat=>(x:Int)
theorem P7 {i x:Nat} (h:l[i]? =some x):(nI l)[i]? =some (x:Int):=by simp[nI,h]
structure TS (h0 h:ae) (n:Nat) (aK:List Nat) (pV us:List Int) (ah:List (List Int)) (d3 d4 d5 d8 n8:Nat) (ws:List SV):Prop where
 g:ab aG h0 h
 n5:h0.next<=d5
 hO: ∃s,h.tr.get d3=some (.aA (bp.flat (nI aK)) false 1 s)
 hA: ∃s,h.tr.get d4=some (.aA (bp.flat pV) false 0 s)
 hU: ∃s,h.tr.get d5=some (.aA (bp.flat us) false 0 s)
 acc:jm bp n8 h d8 ws ah
 n8:d5<n8
 ne3:d3≠d5
 ne4:d4≠d5
theorem TS.grow (w:TS h0 h n aK pV us ah d3 d4 d5 d8 n8 ws) (g:ab aG h h'):TS h0 h' n aK pV us ah d3 d4 d5 d8 n8 ws:=by obtain⟨s1,h1⟩:=w.hO;obtain⟨s2,h2⟩:=w.hA;obtain⟨s3,h3⟩:=w.hU;have ok:=w.g.ok;exact⟨w.g.trans g,w.n5,⟨s1,g.get ok h1 (fun h=>h)⟩,⟨s2,g.get ok h2 (fun h=>h)⟩,⟨s3,g.get ok h3 (fun h=>h)⟩,w.acc.bt ok g,w.n8,w.ne3,w.ne4⟩
theorem TS.put {h0 h:ae} {n:Nat} {aK:List Nat} {pV us:List Int} {ah:List (List Int)} {d3 d4 d5 d8 n8:Nat} {ws:List SV} (w:TS h0 h n aK pV us ah d3 d4 d5 d8 n8 ws) {x:Nat} (hx:x<us.length) (v:Int):TS h0 (put h d5 x (bp.flat us) [.int .i64 v] 0) n aK pV (us.set x v) ah d3 d4 d5 d8 n8 ws:=by obtain⟨s1,h1⟩:=w.hO;obtain⟨s2,h2⟩:=w.hA;obtain⟨s3,h3⟩:=w.hU;have ok:=w.g.ok;have g:ab (· =d5) h (AI.put h d5 x (bp.flat us) [.int .i64 v] 0):=aM ok h3;refine⟨w.g.put ⟨_,h3⟩ (.inl w.n5),w.n5,⟨s1,g.get ok h1 w.ne3⟩,⟨s2,g.get ok h2 w.ne4⟩,⟨h.clock,by rw[aD,oO us x v hx]⟩,w.acc.grow ok g (fun b hb e=>by have:=w.n8;omega),w.n8,w.ne3,w.ne4⟩
def PrI (h:ae) (e:Env) (aK:List Nat) (V:Nat->Nat) (k:Nat) (ps:List Int) (m:Nat) (e':Env) (h2:ae):Prop:=
 ∃(j:Nat) (qG:Int),m=ps.length-j/\j<=ps.length/\Env.get e' 55= .int .i64 j/\Env.get e' 12= .int .i64 qG/\aw [12,14,55,56,57,58,59,60,61,62,63,64,65,66,67,68,69,70,71,72,73,74] e e'/\ab aG h h2/\Tree.yH aK V k (ps.take j) qG
theorem aec (r:Tree.Mr aK us n V k) {u:Nat} (hu:u<n):
  (us[u]? =some (-1)/\ ∀i,i<k-> ¬aK[i]? =some u)\/ ∃(i y:Nat),i<k/\aK[i]? =some u/\us[u]? =some (y:Int):=by
 by_cases hm: ∃i,i<k/\aK[i]? =some u
 .obtain⟨i,hi,Ri⟩:=hm;obtain⟨y,_,hy⟩:=r.set i u Ri hi;exact .inr ⟨i,y,hi,Ri,hy⟩
 .refine .inl ⟨?_,fun i hi h=>hm ⟨i,hi,h⟩⟩;by_cases uk:u∈aK
  .obtain⟨i,hi⟩:=rT uk;exact r.un i u hi (by
    rcases AV i k with h|h
    .exact absurd ⟨i,h,hi⟩ hm
    .exact h)
  .exact r.out u hu uk
theorem Sb (w:TS h0 h n aK pV us ah d3 d4 d5 d8 n8 ws) (o:Tree.Ord aK n) (r:Tree.Mr aK us n V k) (dn:Dom.Down V) (hn:n<1000000)
  (hla:pV.length=n) (BY: ∀i x:Nat,aK[i]? =some x->pV[x]? =some (i:Int)) {x:Nat} {wx:SV} {ps:List Int} (hw:ws[x]? =some wx) (gM:ah[x]? =some ps) (va:ps.length<1000000) (Ha: ∀p∈ps,0<=p/\p<n)
  {e:Env} {Q:aP->Env->ae->Prop} (f4:Env.get e 4= .slice (some ⟨d4,0,none⟩) n n) (f5:Env.get e 5= .slice (some ⟨d5,0,none⟩) n n) (f12:Env.get e 12= .int .i64 (-1)) (f53:Env.get e 53=wx.v) (f54:Env.get e 54= .int .i64 ps.length) (f55:Env.get e 55= .int .i64 0)
  (C: ∀e' h' qG,ab aG h h'->aw [12,14,55,56,57,58,59,60,61,62,63,64,65,66,67,68,69,70,71,72,73,74] e e'->Env.get e' 12= .int .i64 qG->Tree.yH aK V k ps qG->Q (.exit 6) e' h'):
  aB FF (.loop rm) e h Q:=by
 have ok:=w.g.ok;have sR:=HP w.acc hw gM;have JT:=SliceR.len sR;refine aB.loop (PrI h e aK V k ps) ?_ (n:=ps.length) ⟨0,-1,rfl,by omega,f55,f12,aw.refl _ _,.refl ok,by simpa using Tree.yH.nil aK V k⟩;rintro m e' h2 ⟨j,qG,rfl,hj,MJ,kg,K,g2,hb⟩;have w2:=w.grow g2;have q4:=K.at f4;have q5:=K.at f5;have q53:=K.at f53;have Se:=K.at f54;unfold rm;by_cases aS:j<ps.length
 .have hx:ps[j]? =some ps[j]:=aX aS;have hm:=zk aS;generalize ps[j]=p at hx hm;obtain⟨Tp,NY⟩:=Ha p hm;obtain⟨u,rfl⟩: ∃u:Nat,p=u:=⟨p.toNat,by omega⟩;have C6:u<n:=by omega
  obtain⟨bT,off,c,Bi,_,_,rfl,_,dy⟩:=SliceR.later ok sR hx;have r0:=dy h2 g2 0 1 (by decide);simp[-ag] at r0;have wj:=wrap_i64 ((j:Int)+1) (by omega) (by omega);obtain⟨s5,hU⟩:=w2.hU;obtain⟨s4,hA⟩:=w2.hA;have ht:ps.take (j+1)=ps.take j++[(u:Int)]:=by rw[yn,hx];rfl
  simp at q53;rw[Bi,JT] at q53;rcases aec r C6 with⟨hu1,hu2⟩|⟨i,y,hi,hu1,hu2⟩
  .have ru:=kj hU hu1;simp[q4,q5,q53,Se,MJ,aS,r0,C6,ru,-ag,wj];refine⟨ps.length-(j+1),by omega,j+1,qG,rfl,by omega,by simp,by simp[kg],?_,g2,?_⟩
   .repeat (refine aw.set ?_)
    exact K
   .rw[ht];exact hb.skip (fun i hi ⟨x,hx,e⟩=>hu2 i hi (by rw[hx];congr 1;omega))
  .have ru:=kj hU hu2;have hy0: ¬(y:Int)<0:=by omega
   rcases(show qG= -1\/ ∃a:Nat,qG=a by
    rcases hb with⟨e,_⟩|⟨_,a,_,_,e,_⟩
    .exact .inl e
    .exact .inr ⟨a,e⟩) with rfl|⟨a,rfl⟩
   .simp[q4,q5,q53,Se,MJ,kg,aS,r0,C6,ru,-ag,wj,hy0];refine⟨ps.length-(j+1),by omega,j+1,u,rfl,by omega,by simp,by simp,?_,g2,?_⟩
    .repeat (refine aw.set ?_)
     exact K
    .rw[ht];exact hb.one o hi hu1 rfl
   .have ha0: ¬(a:Int)<0:=by omega
    obtain⟨za,hza,hzk⟩: ∃za,aK[za]? =some a/\za<k:=by
     rcases hb with⟨e,_⟩|⟨z,a',hz,vK,e,_⟩
     .omega
     .have:a'=a:=by omega
      subst this;exact⟨z,vK,hz⟩
    simp[q4,q5,q53,Se,MJ,kg,aS,r0,C6,ru,-ag,hy0,ha0];refine aE.call (V:=fun v h'=>ab aG h2 h'/\ ∃z w:Nat,v= .int .i64 w/\z<k/\aK[z]? =some w/\ ∀u,Dom.cV V z u↔(Dom.cV V za u/\Dom.cV V i u)) (by simpa using RF g2.ok o r dn hU hA hla BY hza hu1 hzk hi) ?_;rintro _ h3 ⟨g3,z,v,rfl,hz,vK,hz3⟩;simp[wj,MJ];refine⟨ps.length-(j+1),by omega,j+1,v,rfl,by omega,by simp,by simp,?_,g2.trans g3,?_⟩
    .repeat (refine aw.set ?_)
     exact K
    .rw[ht];refine hb.meet o hu1 hi rfl (fun za' h1 _=> ?_);rw[o.inj h1 hza];exact⟨z,v,hz,vK,rfl,hz3⟩
 .have:j=ps.length:=by omega
  subst this;rw[xV] at hb;simp[Se,MJ];exact C _ _ qG g2 (K.set) (by simp[kg]) hb
theorem Xh {x:Nat} {v:Int} (h:us[x]? =some v):us.set x v=us:=by
 refine zV fun i=> ?_;rw[eR];split
 .rename_i e;subst e;rw[h,aU (bY.mp h).1]
 .rfl
structure A0 (n:Nat) (ah:List (List Int)):Prop where
 len:ah.length=n
 row: ∀(x:Nat) (ps:List Int),ah[x]? =some ps->ps.length<1000000/\ ∀p∈ps,0<=p/\p<n
structure TC (n:Nat) (aK:List Nat) (pV:List Int) (ah:List (List Int)):Prop where
 o:Tree.Ord aK n
 nl:n<=1000
 la:pV.length=n
 at': ∀i x:Nat,aK[i]? =some x->pV[x]? =some (i:Int)
 rows:A0 n ah
 hf: ∀b,0<b->b<aK.length-> ∃w∈Tree.lg aK ah b,w<b
 ln:aK.length<=n
structure TE (n:Nat) (r d3 d4 d5 d8:Nat) (e:Env):Prop where
 f3:Env.get e 3= .slice (some ⟨d3,0,none⟩) r r
 f4:Env.get e 4= .slice (some ⟨d4,0,none⟩) n n
 f5:Env.get e 5= .slice (some ⟨d5,0,none⟩) n n
 f8:Env.get e 8= .slice (some ⟨d8,0,none⟩) n n
def RdI (h0:ae) (n:Nat) (aK:List Nat) (pV:List Int) (ah:List (List Int)) (d3 d4 d5 d8 n8:Nat) (ws:List SV) (first:Bool) (A:Nat->Nat) (m:Nat) (e:Env) (h:ae):Prop:=
 ∃(j:Nat) (us:List Int) (V:Nat->Nat) (aV:Bool),m=aK.length-(j+1)/\j+1<=aK.length/\TS h0 h n aK pV us ah d3 d4 d5 d8 n8 ws/\Tree.TR aK ah n us first A V (j+1) aV/\TE n aK.length d3 d4 d5 d8 e/\
  Env.get e 9= .bool aV/\Env.get e 44= .slice (some ⟨d3,1,none⟩) (aK.length-1) (aK.length-1)/\Env.get e 45= .int .i64 ((aK.length-1:Nat):Int)/\Env.get e 46= .int .i64 j
theorem OH (w:TS h0 h n aK pV us ah d3 d4 d5 d8 n8 ws) (c:TC n aK pV ah) {first aV:Bool} {A V:Nat->Nat} (hr:0<aK.length) (M:Tree.TR aK ah n us first A V 1 aV)
  {e:Env} {Q:aP->Env->ae->Prop} (E:TE n aK.length d3 d4 d5 d8 e) (f9:Env.get e 9= .bool aV) (f44:Env.get e 44= .slice (some ⟨d3,1,none⟩) (aK.length-1) (aK.length-1)) (f45:Env.get e 45= .int .i64 ((aK.length-1:Nat):Int)) (f46:Env.get e 46= .int .i64 0)
  (C: ∀e' h' us' V' yr,TS h0 h' n aK pV us' ah d3 d4 d5 d8 n8 ws->Tree.TR aK ah n us' first A V' aK.length yr->TE n aK.length d3 d4 d5 d8 e'->Env.get e' 9= .bool yr->Q (.exit 4) e' h'):
  aB FF (.loop jI) e h Q:=by
 have hn:=c.nl;have hln:=c.ln;refine aB.loop (RdI h0 n aK pV ah d3 d4 d5 d8 n8 ws first A) ?_ (n:=aK.length-1) ⟨0,us,V,aV,by omega,hr,w,M,E,f9,f44,f45,f46⟩;rintro m e1 h1 ⟨j,us1,V1,jZ,rfl,hj,w1,M1,E1,q9,Jk,OC,WM⟩;have xz:=w1.g.ok;unfold jI;by_cases aS:j+1<aK.length
 .obtain⟨x,hx⟩: ∃x,aK[j+1]? =some x:=⟨_,aX aS⟩;have He:=c.o.lt x (dk hx);obtain⟨ps,gM⟩: ∃ps,ah[x]? =some ps:=⟨_,aX (by rw[c.rows.len];exact He)⟩;obtain⟨wx,hwx⟩: ∃wx,ws[x]? =some wx:=⟨_,aX (by rw[w1.acc.len,c.rows.len];exact He)⟩;obtain⟨va,Ha⟩:=c.rows.row x ps gM;obtain⟨s1,hO⟩:=w1.hO;obtain⟨s8,h8⟩:=w1.acc.aA;have ro:=kj hO (P7 hx);rw[Nat.add_comm] at ro;have rw8:=ze h8 hwx;have JT:=SliceR.len (HP w1.acc hwx gM);have hjo:(j:Int)<((aK.length-1:Nat):Int):=by omega
  have anm:j<aK.length-1:=by omega
  have wj:=wrap_i64 ((j:Int)+1) (by omega) (by omega);simp[-ag] at rw8;simp[Jk,OC,WM,hjo,anm,ro,E1.f8,He,rw8,JT,-ag];refine Sb w1 c.o M1.rep M1.dn (by omega) c.la c.at' hwx gM va Ha (by simp[E1.f4]) (by simp[E1.f5]) (by simp) (by simp[JT]) (by simp[JT]) (by simp) ?_;intro e2 h2 qG g2 K kg hb;have w2:=w1.grow g2;obtain⟨y,z,rfl,hz,M2⟩:=M1.step c.o (Nat.succ_pos _) hx gM (c.hf (j+1) (Nat.succ_pos _) aS) hb;have k5:=K.at (t:=5) (by simp;exact E1.f5);have k11:Env.get e2 11= .int .i64 x:=K.at (t:=11) (by simp);have k3:=K.at (t:=3) (by simp;exact E1.f3);have k4:=K.at (t:=4) (by simp;exact E1.f4);have k8:=K.at (t:=8) (by simp;exact E1.f8);have k9:=K.at (t:=9) (by simp;exact q9);have k44:=K.at (t:=44) (by simp;exact Jk);have k45:=K.at (t:=45) (by simp;exact OC);have k46:=K.at (t:=46) (by simp;exact WM);obtain⟨s5,hU⟩:=w2.hU;have X4:us1.length=n:=M1.rep.len;obtain⟨v,hv⟩: ∃v,us1[x]? =some v:=⟨_,aX (by omega)⟩;have ru:=kj hU hv;have uv:x+1<=us1.length:=by omega
  by_cases hvy:v=(y:Int)
  .subst hvy;rw[Xh hv] at M2;simp[k5,k11,kg,He,ru,wj,k46,-ag];refine⟨aK.length-(j+1+1),by omega,j+1,us1,_,jZ,rfl,aS,w2,by simpa [hv] using M2,⟨?_,?_,?_,?_⟩,?_,?_,?_,?_⟩
   .simp[k3]
   .simp[k4]
   .simp[k5]
   .simp[k8]
   .simp[k9]
   .simp[k44]
   .simp[k45]
   .simp
  .have cJ:(v !=(y:Int))=true:=by simpa using hvy
   simp[k5,k11,kg,He,ru,wj,k46,cJ,hvy,hU,uv,-ag];refine⟨aK.length-(j+1+1),by omega,j+1,us1.set x (y:Int),_,true,rfl,aS,w2.put (by omega) _,by simpa [hv,hvy] using M2,⟨?_,?_,?_,?_⟩,?_,?_,?_,?_⟩
   .simp[k3]
   .simp[k4]
   .simp[k5]
   .simp[k8]
   .simp
   .simp[k44]
   .simp[k45]
   .simp
 .have hjr:j+1=aK.length:=by omega
  rw[hjr] at M1;have hjo: ¬(j:Int)<((aK.length-1:Nat):Int):=by omega
  simp[OC,WM,hjo];exact C _ _ us1 V1 jZ w1 M1 ⟨by simp[E1.f3],by simp[E1.f4],by simp[E1.f5],by simp[E1.f8]⟩ (by simp[q9])
def TrI (h0:ae) (n:Nat) (aK:List Nat) (pV:List Int) (ah:List (List Int)) (d3 d4 d5 d8 n8:Nat) (ws:List SV) (m:Nat) (e:Env) (h:ae):Prop:=
 ∃(us:List Int) (aV:Bool),TS h0 h n aK pV us ah d3 d4 d5 d8 n8 ws/\TE n aK.length d3 d4 d5 d8 e/\Env.get e 9= .bool aV/\
  ((aV=true/\us=(List.replicate n (-1:Int)).set 0 0/\m=aK.length*aK.length+2)\/ ∃V,Tree.Btw aK ah V/\Tree.Mr aK us n V aK.length/\m=if aV then Dom.total V aK.length+1 else 0)
theorem LR (w:TS h0 h n aK pV ((List.replicate n (-1:Int)).set 0 0) ah d3 d4 d5 d8 n8 ws) (c:TC n aK pV ah) (hr:0<aK.length)
  {e:Env} {Q:aP->Env->ae->Prop} (E:TE n aK.length d3 d4 d5 d8 e) (f9:Env.get e 9= .bool true)
  (C: ∀e' h' us' V',TS h0 h' n aK pV us' ah d3 d4 d5 d8 n8 ws->Tree.Btw aK ah V'->Tree.Mr aK us' n V' aK.length->TE n aK.length d3 d4 d5 d8 e'->Q (.exit 2) e' h'):
  aB FF (.loop rq) e h Q:=by
 refine aB.loop (TrI h0 n aK pV ah d3 d4 d5 d8 n8 ws) ?_ (n:=aK.length*aK.length+2) ⟨_,true,w,E,f9,.inl ⟨rfl,rfl,rfl⟩⟩;rintro m e1 h1 ⟨us,aV,w1,E1,q9,hc⟩;unfold rq;cases aV with
 |false=>
  rcases hc with⟨h,_⟩|⟨V,hB,hR,rfl⟩
  .cases h
  .simp[q9];exact C _ _ us V w1 hB hR ⟨by simp[E1.f3],by simp[E1.f4],by simp[E1.f5],by simp[E1.f8]⟩
 |true=>
  have o7:1<=aK.length:=hr;obtain⟨s,hs⟩: ∃s,s=aK.length-1:=⟨_,rfl⟩;have fin: ∀(first:Bool) (A V:Nat->Nat),Tree.TR aK ah n us first A V 1 false->(first=false->Tree.Btw aK ah A/\m=Dom.total A aK.length+1)->(first=true->m=aK.length*aK.length+2)->aB FF (.loop jI)
    (Tr.set (Tr.set (Tr.set (Tr.set (Tr.set (Tr.set e1 42 (.bool true)) 9 (.bool false)) 43 (.slice (some ⟨d3,0,none⟩) aK.length aK.length)) 44 (.slice (some ⟨d3,1,none⟩) (aK.length-1) (aK.length-1))) 45 (.int .i64 ((aK.length-1:Nat):Int))) 46 (.int .i64 0)) h1
    (fun x e2 h2=>x= .exit 4/\ ∃m',m'<m/\TrI h0 n aK pV ah d3 d4 d5 d8 n8 ws m' e2 h2):=by
   intro first A V M NO Bm
   refine OH w1 c hr M ⟨by simp[E1.f3],by simp[E1.f4],by simp[E1.f5],by simp[E1.f8]⟩ (by simp) (by simp) (by simp) (by simp) ?_;intro e2 h2 us2 V2 Ho w2 M2 E2 k9;refine⟨rfl,?_⟩;obtain⟨hB,hR,hT⟩:=M2.done (fun h=>(NO h).1) c.hf;refine⟨_,?_,us2,Ho,w2,E2,k9,.inr ⟨V2,hB,hR,rfl⟩⟩;have bd:Dom.total V2 aK.length<=aK.length*aK.length:=Dom.Ct _ (fun i hi=>by
    rcases tP i with rfl|h
    .rw[hB.1.zero];exact Nat.zero_le _
    .have:=hB.1.lt i h;omega)
   cases wL:first with
   |true=>have:=Bm wL;split<;>omega
   |false=>
    obtain⟨_,hm⟩:=NO wL;cases hmo:Ho with
    |true=>have:=hT wL hmo;simp;omega
    |false=>simp;omega
  have H:aB FF (.loop jI)
    (Tr.set (Tr.set (Tr.set (Tr.set (Tr.set (Tr.set e1 42 (.bool true)) 9 (.bool false)) 43 (.slice (some ⟨d3,0,none⟩) aK.length aK.length)) 44 (.slice (some ⟨d3,1,none⟩) (aK.length-1) (aK.length-1))) 45 (.int .i64 ((aK.length-1:Nat):Int))) 46 (.int .i64 0)) h1
    (fun x e2 h2=>x= .exit 4/\ ∃m',m'<m/\TrI h0 n aK pV ah d3 d4 d5 d8 n8 ws m' e2 h2):=by
   rcases hc with⟨_,rfl,rfl⟩|⟨V,hB,hR,hm⟩
   .exact fin true (fun _=>0) _ (Tree.RG c.o _ _) (fun h=>by cases h) (fun _=>rfl)
   .exact fin false V V (Tree.Wb hR hB.1) (fun _=>⟨hB,by simpa using hm⟩) (fun h=>by cases h)
  obtain⟨s1,hO⟩:=w1.hO;simp[q9,E1.f3,o7,hO];refine H.mono ?_;rintro x e2 h2 ⟨rfl,m',NT,I⟩;simp;exact⟨m',NT,I⟩
def AtI (h:ae) (n:Nat) (aK:List Nat) (d3 d4:Nat) (e:Env) (m:Nat) (e':Env) (h2:ae):Prop:=
 ∃(j:Nat) (pV:List Int),m=aK.length-j/\j<=aK.length/\Env.get e' 28= .int .i64 j/\aw [28,6,7,29,30,31,32,33,34,35,36,37] e e'/\ab (· =d4) h h2/\(∃s,h2.tr.get d4=some (.aA (bp.flat pV) false 0 s))/\pV.length=n/\ ∀i x:Nat,i<j->aK[i]? =some x->pV[x]? =some (i:Int)
theorem Yo (ok:bu h) (o:Tree.Ord aK n) (hr:aK.length<=n) (hn:n<=1000) {d3 d4 s3 s4 o3:Nat} (hO:h.tr.get d3=some (.aA (bp.flat (nI aK)) false o3 s3)) (hA:h.tr.get d4=some (.aA (bp.flat pV) false 0 s4)) (hl:pV.length=n) (cJ:d3≠d4)
  {e:Env} {Q:aP->Env->ae->Prop} (f4:Env.get e 4= .slice (some ⟨d4,0,none⟩) n n) (f26:Env.get e 26= .slice (some ⟨d3,0,none⟩) aK.length aK.length) (f27:Env.get e 27= .int .i64 aK.length) (f28:Env.get e 28= .int .i64 0)
  (C: ∀e' h' LH,aw [28,6,7,29,30,31,32,33,34,35,36,37] e e'->ab (· =d4) h h'->(∃s,h'.tr.get d4=some (.aA (bp.flat LH) false 0 s))->LH.length=n->(∀i x:Nat,aK[i]? =some x->LH[x]? =some (i:Int))->Q (.exit 0) e' h'):
  aB FF (.loop rC) e h Q:=by
 refine aB.loop (AtI h n aK d3 d4 e) ?_ (n:=aK.length) ⟨0,pV,rfl,by omega,f28,aw.refl _ _,.refl ok,⟨s4,hA⟩,hl,fun i x h=>by omega⟩;rintro m e' h2 ⟨j,pl,rfl,hj,HB,K,g2,⟨s,IJ⟩,va,BY⟩;have q4:=K.at f4;have Qg:=K.at f26;have TA:=K.at f27;unfold rC;by_cases aS:j<aK.length
 .obtain⟨x,hx⟩: ∃x,aK[j]? =some x:=⟨_,aX aS⟩;have He:=o.lt x (dk hx);have hO2:=g2.get ok hO cJ;have ro:=kj hO2 (P7 hx);have wj:=wrap_i64 ((j:Int)+1) (by omega) (by omega);have uv:x+1<=pl.length:=by omega
  simp[q4,Qg,TA,HB,aS,ro,He,IJ,uv,wj,-ag];refine⟨aK.length-(j+1),by omega,j+1,pl.set x j,rfl,aS,by simp,?_,g2.trans (aM g2.ok IJ),⟨h2.clock,by rw[aD,oO pl x j (by omega)]⟩,by simp[va],fun i y hi hy=> ?_⟩
  .repeat (refine aw.set ?_)
   exact K
  .rw[eR];by_cases e:x=y
   .subst e;rw[aU rfl,aU (by omega),o.inj hy hx]
   .rw[aT e];by_cases e2:i=j
    .subst e2;rw[hx] at hy;cases hy;exact absurd rfl e
    .exact BY i y (by omega) hy
 .have:j=aK.length:=by omega
  subst this;simp[TA,HB];exact C _ _ pl (K.set) g2 ⟨s,IJ⟩ va (fun i x hx=>BY i x (bY.mp hx).1 hx)
def uD (bs:List GB):List Nat:=(Dfs.lH (py bs) bs.length).reverse
theorem ZJ (bs:List GB):(pW bs).reverse=nI (uD bs):=by simp[pW,uD,nI,List.map_reverse]
theorem EO (E:jo bs) (h0:0<bs.length):Tree.Ord (uD bs) bs.length:=by obtain⟨h1,h2,⟨new,h3⟩,_,_⟩:=Dfs.xC h0 (AN E);refine⟨List.pairwise_reverse.2 (h1.imp fun h=>h.symm),fun x hx=>h2 x (List.mem_reverse.1 hx),?_⟩;unfold uD;rw[h3];simp
theorem Wr (E:jo bs) (h0:0<bs.length):(uD bs).length<=bs.length/\0<(uD bs).length:=by
 have o:=EO E h0;refine⟨?_,?_⟩
 .have:=gK_ o.nd (l₂:=List.range bs.length) (fun x hx=>NB.2 (o.lt x hx));simpa using this
 .exact(bY.mp o.zero).1
theorem Px (E:jo bs):A0 bs.length (Edge.bw (bj bs)):=by
 have hl:(bj bs).length=bs.length:=by simp[bj]
 have Ej: ∀ts∈bj bs,∀t∈ts,t.toNat<(bj bs).length:=by intro ts jT t ht;obtain⟨b,hb,rfl⟩:=j9.1 jT;have:=E.to b hb t ht;rw[hl];omega
 refine⟨by rw[Edge.dz,hl],fun x ps gM=>⟨?_,fun p hp=> ?_⟩⟩
 .have h1:=Edge.ox (n:=(bj bs).length) (dw:=bj bs) (fun ts jT=>by obtain⟨b,hb,rfl⟩:=j9.1 jT;exact E.two b hb) x (bj bs).length
  have h2:((Edge.upto (bj bs).length (bj bs) (bj bs).length)[x]?).getD []=ps:=by show((Edge.bw (bj bs))[x]?).getD []=ps;rw[gM];rfl
  rw[h2] at h1;have:=E.len;omega
 .have hm:=(Edge.qk Ej (u:=x) (x:=p)).1 (by rw[gM];exact hp);obtain⟨i,rfl,ts,ht,_⟩:=hm;have:=(bY.mp ht).1;omega
theorem RZ (E:jo bs) (h0:0<bs.length): ∀b,0<b->b<(uD bs).length-> ∃w∈Tree.lg (uD bs) (Edge.bw (bj bs)) b,w<b:=by
 intro b hb pc;have o:=EO E h0;obtain⟨h1,h2,_,_,h5⟩:=Dfs.xC h0 (AN E);have hl:(bj bs).length=bs.length:=by simp[bj]
 have Ej: ∀ts∈bj bs,∀t∈ts,t.toNat<(bj bs).length:=by intro ts jT t ht;obtain⟨b,hb,rfl⟩:=j9.1 jT;have:=E.to b hb t ht;rw[hl];omega
 obtain⟨x,hx⟩: ∃x,(uD bs)[b]? =some x:=⟨_,aX pc⟩;have MG:=dk hx;have Le:x≠0:=fun e=>by subst e;have:=o.inj hx o.zero;omega
 obtain⟨p,hp,l1,l2,anp,va⟩:=h5 x (List.mem_reverse.1 MG) Le;obtain⟨ps,gM⟩: ∃ps,(Edge.bw (bj bs))[x]? =some ps:=⟨_,aX (by rw[Edge.dz,hl];exact o.lt x MG)⟩;have acQ:uD bs=l2.reverse++x::l1.reverse:=by unfold uD;rw[anp];simp
 obtain⟨w,hw⟩:=rT (List.mem_reverse.2 va);have JT:=(bY.mp hw).1;have hw2:(uD bs)[w]? =some p:=by rw[acQ,KH JT,hw]
 have dq:(uD bs)[l2.reverse.length]? =some x:=by rw[acQ,Mv (dK _)];simp
 have:=o.inj hx dq;refine⟨w,(Tree.qm hx gM).2 ⟨p,hw2,?_⟩,by omega⟩;have uk:=(Edge.qk Ej (u:=x) (x:=(p:Int))).2 (by
  unfold Dfs.row py at hp;rw[tQ] at hp;cases hbp:bs[p]? with
  |none=>rw[hbp] at hp;simp at hp
  |some y=>
   rw[hbp] at hp;simp at hp;obtain⟨t,ht,e⟩:=hp;exact⟨p,rfl,y.to,by simp[bj,hbp],t,ht,e.symm⟩)
 rw[gM] at uk;exact uk
def aaq (h:ae) (n:Nat) (v:Value) (h':ae):Prop:=ab aG h h'/\ ∃d us s,v= .slice (some ⟨d,0,none⟩) n n/\h.next<=d/\h'.tr.get d=some (.aA (bp.flat us) false 0 s)/\Tree.QB us n
theorem SO (ok:bu h) {name:ByteArray} {p r:Int} (hB:AU h B bs) (E:jo bs) (h0:0<bs.length):
  aF FF Aj [.agg ⟨au name p r B⟩] h (aaq h bs.length):=by
 have ew:=SliceR.len hB;have hl:=E.len;have r1:roomy bs.length=true:=by simp[roomy];omega
 have r2:roomy (bs.length*8)=true:=by simp[roomy];omega
 have o:=EO E h0;obtain⟨IW,ho0⟩:=Wr E h0;refine aF.of HY ?_;unfold zD;simp[au];refine aE.cut (fun h1=>ab aG h h1/\h1.tr.get h.next=some (.aA (au name p r B) false 0 0)) ⟨(ab.refl ok).new _ _,by simp[au]⟩ ?_;rintro h1 ⟨g1,hF⟩;have sD:=hF;simp[au] at sD;refine aE.call (V:=fun v h'=>ab aG h1 h'/\ ∃L:SV,v=L.v/\cI bp h1.next h' L.v (pW bs).reverse) (by simpa [au] using EP g1.ok (name:=name) (p:=p) (r:=r) (hB.mono ok g1) E h0) ?_;rintro _ h2 ⟨g2,L,rfl,hA⟩;rw[ZJ] at hA;rcases hA with⟨e,_⟩|⟨d3,s3,e,Tk,_,hn3⟩
 .have:(nI (uD bs)).length=0:=by rw[e];rfl
  simp[nI] at this;rw[this] at ho0;simp at ho0
 have To:(nI (uD bs)).length=(uD bs).length:=by simp[nI]
 rw[To] at e;rw[e];have kx:=g2.get g1.ok sD (fun h=>h);have hz:jW [Value.int .i64 0] bs.length=bp.flat (List.replicate bs.length (0:Int)):=Dg bp (0:Int) rfl _;have oF:=g2.ok.bA kx;simp[kx,ew,r1,r2,hz,oF,aI,aq kx,-ag];refine aE.cut (fun h3=>ab aG h2 h3/\(∃s,h3.tr.get h2.next=some (.aA (bp.flat (List.replicate bs.length (0:Int))) false 0 s))/\(∃s,h3.tr.get (h2.next+1)=some (.aA [.int .i64 (-1)] false 0 s))/\h2.next+1<h3.next) ?_ ?_
 .exact⟨((ab.refl g2.ok).new _ _).new _ _,⟨0,by simp⟩,⟨0,by simp⟩,by simp⟩
 rintro h3 ⟨g3,⟨s4,h4b⟩,⟨sm1,PR⟩,l3⟩;have vH:=g3.get g2.ok kx (fun h=>h);refine aE.call (V:=fun v h'=>ab aG h3 h'/\ ∃d s,v= .slice (some ⟨d,0,none⟩) bs.length bs.length/\h3.next<=d/\h'.tr.get d=some (.aA (bp.flat (List.replicate bs.length (-1:Int))) false 0 s)) (by simpa using E8 g3.ok bs.length (by omega) (x:= -1) PR) ?_;rintro _ h5 ⟨g5,d5,s5,rfl,hn5,MB⟩;have hO5:=(g3.trans g5).get g2.ok Tk (fun h=>h);have yo:=g5.get g3.ok h4b (fun h=>h);have l3':=(g2.ok.bA Tk).lt;simp;refine Yo g5.ok o IW hl hO5 yo (by simp) (by omega) (by simp) (by simp) (by simp) (by simp) ?_;rintro e6 h6 pV K6 g6 ⟨s6,YK⟩ va BY;have PJ:=g6.get g5.ok MB (by have:=g2.ok;omega);have hO6:=g6.get g5.ok hO5 (by omega);have g56:ab aG h h6:=(((g1.trans g2).trans g3).trans g5).trans' g6 (fun _ _ h=>h) (fun x hx e=>by have:=(g1.trans g2).next;omega);have k5:Env.get e6 5= .slice (some ⟨d5,0,none⟩) bs.length bs.length:=K6.at (t:=5) (by simp);have k1:Env.get e6 1= .pointer (some ⟨h.next,0,none⟩):=K6.at (t:=1) (by simp);have k3:Env.get e6 3= .slice (some ⟨d3,0,none⟩) (uD bs).length (uD bs).length:=K6.at (t:=3) (by simp);have k4:Env.get e6 4= .slice (some ⟨h2.next,0,none⟩) bs.length bs.length:=K6.at (t:=4) (by simp);have hF6:=g6.get g5.ok (g5.get g3.ok vH (fun h=>h)) (by have:=g2.next;have:=(g1.ok.bA sD).lt;omega);have X4:(1:Nat)<=bs.length:=h0;have oF6:=g56.ok.bA hF6;have nF: ¬h.next=d5:=by have:=(g1.ok.bA sD).lt;have:=g2.next;omega
 simp[k5,h0,PJ,k1,X4,bg nF,aq hF6,-ag,ew];have sp0:=oO (List.replicate bs.length (-1)) 0 0 (by simpa using h0);refine aE.cut (fun h7=>ab (· =d5) h6 h7/\ ∃s,h7.tr.get d5=some (.aA (bp.flat ((List.replicate bs.length (-1:Int)).set 0 0)) false 0 s)) ?_ ?_
 .exact⟨aM g56.ok PJ,h6.clock,by rw[aD,sp0]⟩
 rintro h7 ⟨g7,s7,hU7⟩;have hO7:=g7.get g56.ok hO6 (by omega);have hA7:=g7.get g56.ok YK (by omega);have g07:ab aG h h7:=g56.trans' g7 (fun _ _ h=>h) (fun x hx e=>by have:=(g1.trans g2).next;omega);refine aE.call (V:=fun v h'=>ab aG h7 h'/\ ∃d ws,v= .slice (some ⟨d,0,none⟩) bs.length bs.length/\jm bp h7.next h' d ws (Edge.bw (bj bs))) (by simpa [au,ew] using jA g07.ok (name:=name) (p:=p) (r:=r) (hB.mono ok g07) E) ?_;rintro _ h8 ⟨g8,d8,ws,rfl,w8⟩;have hU8:=g8.get g07.ok hU7 (fun h=>h);have hO8:=g8.get g07.ok hO7 (fun h=>h);have hA8:=g8.get g07.ok hA7 (fun h=>h);have l5:=(g07.ok.bA hU7).lt;have W:TS h h8 bs.length (uD bs) pV ((List.replicate bs.length (-1:Int)).set 0 0) (Edge.bw (bj bs)) d3 h2.next d5 d8 h7.next ws:=
  ⟨g07.trans g8,by have:=(g1.trans g2).next;omega,⟨s3,hO8⟩,⟨s6,hA8⟩,⟨s7,hU8⟩,w8,l5,by omega,by omega⟩
 have c:TC bs.length (uD bs) pV (Edge.bw (bj bs)):=⟨o,hl,va,BY,Px E,RZ E h0,IW⟩;simp;refine LR W c ho0 ⟨by simp[k3],by simp[k4],by simp[k5],by simp⟩ (by simp) ?_;rintro e9 h9 us V W9 hBt hR E9;obtain⟨s9,hU9⟩:=W9.hU;have aob:1<=us.length:=by rw[hR.len];exact h0
 have sp9:=oO us 0 (-1) (by omega);simp[E9.f5,h0,hU9,aob];refine⟨W9.g.put ⟨_,hU9⟩ (.inl W9.n5),d5,us.set 0 (-1),h9.clock,rfl,W9.n5,by rw[aD,sp9],Tree.aiI o hBt.1 hR IW⟩
def kI (x:GI):List (Bool×Int):=(if(cH x.op).2.1 then [x.a] else [])++((if(cH x.op).2.2 then [x.b] else [])++x.args)
def mi (x:GI) (A:SV):List Value:=aC x.op x.dst x.a.1 x.a.2 x.b.1 x.b.2 x.fn A.v
theorem S8 (h:ae) (x:GI) (A:SV):aF FF Cd [.agg ⟨mi x A⟩] h (fun v h'=>v= .func (.func kA) #[] #[.pointer (some ⟨h.next,0,none⟩)]/\h'=aL h (mi x A) 0):=by refine aF.of Kb ?_;unfold BI;simp[mi,aC]
theorem OJ {S:Nat->Prop} (ok:bu h1) {l p:Nat} {asg body:ak} {v:Value} {K Z:ae->Prop} (hS: ¬S l) (hl:h1.tr.get l=some (.loop e [p] asg body .ready))
  (H:aB FF asg (Tr.set e p v) h1 (fun x e2 h2=>x= .normal/\ab aG h1 h2/\ ∀h3,ab (· =l) h2 h3->aB FF body e2 h3 (fun x _ h4=>ab S h3 h4/\((x= .normal/\K h4)\/(x= .ret/\Z h4)))))
  (hK: ∀h4 h5,K h4->bu h4->ab (· =l) h4 h5->K h5) (hZ: ∀h4 h5,Z h4->bu h4->ab (· =l) h4 h5->Z h5):
  cP FF (.func (.yield l) #[] #[]) [v] h1 (fun r h5=>ab (fun x=>S x\/x=l) h1 h5/\((r= .bool true/\h5.tr.get l=some (.loop e [p] asg body .ready)/\K h5)\/(r= .bool false/\h5.tr.get l=some (.loop e [p] asg body (.done none))/\Z h5))):=by
 refine cP.yield hl (by simp[gV];rfl) ?_;refine H.mono ?_;rintro x e2 h2 ⟨rfl,g2,H2⟩;have tT:=g2.get ok hl (fun h=>h);refine⟨rfl,tT,?_⟩;have gs:=jS g2.ok tT e [p] asg body .busy;refine(H2 _ gs).mono ?_;rintro x e3 h4 ⟨g4,hx⟩;have Re:=g4.get gs.ok (ot h2 l e [p] asg body .busy) hS;have all: ∀st,ab (fun x=>S x\/x=l) h1 (fG h4 l e [p] asg body st):=fun st=>
  ((g2.bt.trans' gs (fun _ _ h=>h) (fun _ _ h=> .inr h)).trans' g4 (fun _ _ h=>h) (fun _ _ h=> .inl h)).trans' (jS g4.ok Re e [p] asg body st) (fun _ _ h=>h) (fun _ _ h=> .inr h)
 rcases hx with⟨rfl,k4⟩|⟨rfl,z4⟩
 .exact⟨⟨_,_,_,_,Re,rfl,rfl,rfl,rfl⟩,all _,.inl ⟨rfl,ot _ _ _ _ _ _ _,hK _ _ k4 g4.ok (jS g4.ok Re e [p] asg body .ready)⟩⟩
 .exact⟨⟨_,_,_,_,Re,rfl,rfl,rfl,rfl⟩,all _,.inr ⟨rfl,ot _ _ _ _ _ _ _,hZ _ _ z4 g4.ok (jS g4.ok Re e [p] asg body (.done none))⟩⟩
def YQ (S:Nat->Prop) (B:Nat) (K Z:ae->Prop) (h2:ae) (r:Value) (h':ae):Prop:=ab (fun b=>S b\/B<=b) h2 h'/\((r= .bool true/\K h')\/(r= .bool false/\Z h'))
def V1I (x:GI) (A:SV) (y:Value) (X B:Nat) (k:Nat) (I:Nat->Nat->ae->Prop) (m:Nat) (e:Env) (h2:ae):Prop:=
 ∃j:Nat,m=x.args.length-j/\j<=x.args.length/\Env.get e 0=y/\Env.get e 30=A.v/\Env.get e 31= .int .i64 x.args.length/\Env.get e 32= .int .i64 j/\B<=h2.next/\I B (k+j) h2
theorem OZ {h0 h:ae} (jG:bu h0) {X:Nat} (hA:SliceR vR 2 h0 A.v x.args) (hl:x.args.length<2000000) {y:Value} (I:Nat->Nat->ae->Prop) (S:Nat->Prop) (Z:ae->Prop)
  (hI: ∀B j h2,I B j h2->ab aG h0 h2/\ ∃s,h2.tr.get X=some (.aA (mi x A) false 0 s)) (Ei: ∀B j h2 h3,I B j h2->ab aG h2 h3->I B j h3) (hS: ∀b,S b->b<h.next)
  (H: ∀B j v h2,(kI x)[j]? =some v->B<=h2.next->h.next<B->I B j h2->cP FF y [.agg ⟨[.bool v.1,.int .i64 v.2]⟩] h2 (YQ S B (I B (j+1)) Z h2))
  (g0:ab aG h0 h) (hX: ∃s,h.tr.get X=some (.aA (mi x A) false 0 s)) (hi: ∀h1,ab aG h h1->I h1.next 0 h1):
  aF FF kA [y,.pointer (some ⟨X,0,none⟩)] h (fun _ h'=>(∃B,I B (kI x).length h')\/Z h'):=by
 have vE:=SliceR.len hA;obtain⟨s0,hX⟩:=hX;have lM:=hX;simp[mi,aC] at lM;have lX:=(g0.ok.bA hX).lt;refine aF.of FH ?_;unfold x9;simp[lM];refine aE.call (by simpa using Cs h g0.ok x.op) ?_;rintro _ h1 ⟨rfl,g1⟩;have mL:=g1.get g0.ok lM (fun h=>h);have oX1:=g1.ok.bA mL;have l1:=g1.next
 
 have loop: ∀(B k:Nat) (h5:ae) (e:Env) (Q:aP->Env->ae->Prop),Env.get e 0=y->Env.get e 30=A.v->Env.get e 31= .int .i64 x.args.length->Env.get e 32= .int .i64 0->B<=h5.next->h.next<B->(∀j,j<=x.args.length->(kI x)[k+j]? =x.args[j]?)->k+x.args.length=(kI x).length->I B k h5->
   (∀e' h',(∃B,I B (kI x).length h')\/Z h'->Q (.exit 0) e' h'/\Q .ret e' h')->aB FF (.loop pg) e h5 Q:=by
  intro B k h5 e Q f0 f30 f31 f32 hB ND hv hk hi5 HQ;refine aB.loop (V1I x A y X B k I) ?_ (n:=x.args.length) ⟨0,rfl,by omega,f0,f30,f31,f32,hB,hi5⟩;rintro m e6 h6 ⟨j,rfl,hj,f0,f30,f31,f32,hB6,hi6⟩;unfold pg;obtain⟨g6,s6,yp⟩:=hI _ _ _ hi6;by_cases aS:j<x.args.length
  .have hx:x.args[j]? =some x.args[j]:=aX aS;generalize x.args[j]=v at hx;obtain⟨bT,off,c,Bi,_,_,rfl,oT,dy⟩:=SliceR.later jG hA hx;have r0:=dy h6 g6 0 2 (by decide);simp[-ag] at r0;have YC:=f30;simp at YC;rw[Bi,vE] at YC;have wj:=wrap_i64 ((j:Int)+1) (by omega) (by omega);simp[f0,YC,f31,f32,aS,r0,-ag,av];refine aE.cut (fun h7=>ab aG h6 h7) ((ab.refl g6.ok).var _ _) ?_;intro h7 g7;have l7:=g7.next;refine aE.cD (V:=YQ S B (I B (k+j+1)) Z h7) (by simpa [f0] using H B (k+j) v h7 (by rw[hv j hj,hx]) (by omega) ND (Ei _ _ _ _ hi6 g7)) ?_;rintro r h8 ⟨g8,h|h⟩
   .obtain⟨rfl,hi8⟩:=h;simp[f32,wj];exact⟨x.args.length-(j+1),by omega,j+1,rfl,aS,by simp[f0],by simp[YC,Bi,vE],by simp[f31],by simp,by have:=g8.next;omega,by simpa [BU] using hi8⟩
   .obtain⟨rfl,hz⟩:=h;simp;exact(HQ _ _ (.inr hz)).2
  .have:j=x.args.length:=by omega
   subst this;simp[f31,f32];exact(HQ _ _ (.inl ⟨B,by rw[<-hk];exact hi6⟩)).1
 
 have hXi: ∀B j h2,I B j h2-> ∃s,h2.tr.get X=some (.aA [.int .i64 x.op,.int .i64 x.dst,.bool x.a.1,.int .i64 x.a.2,.bool x.b.1,.int .i64 x.b.2,.int .i64 x.fn,A.v] false 0 s):=by intro B j h2 Gd;obtain⟨_,s,e⟩:=hI _ _ _ Gd;exact⟨s,by simpa [mi,aC] using e⟩
 cases N3:(cH x.op).2.1 with
 |true=>
  simp[mL,oX1];refine aE.cut (fun h2=>ab aG h1 h2/\(∃s,h2.tr.get h1.next=some (.aA [.bool (cH x.op).1,.bool true,.bool (cH x.op).2.2] false 0 s))) ⟨(ab.refl g1.ok).var _ _,h1.clock,by simp⟩ ?_;rintro h2 ⟨g2,s2,hT⟩;have lT:=g2.ok.bA hT;have lT':=lT.lt;refine aE.cD (V:=YQ S h2.next (I h2.next 1) Z h2) (by simpa using H h2.next 0 x.a h2 (by simp[kI,N3]) (dK _) (by omega) (hi h2 (g1.trans g2))) ?_;rintro r h3 ⟨g3,⟨rfl,hi3⟩|⟨rfl,hz⟩⟩
  .have hT3:=g3.get g2.ok hT (by rintro(h|h);exact absurd (hS _ h) (by omega);omega);obtain⟨s3,fK⟩:=hXi _ _ _ hi3;have l3:=g3.next;cases vc:(cH x.op).2.2 with
   |true=>
    rw[vc] at hT3;simp at fK;simp[hT3,fK];refine aE.cD (V:=YQ S h2.next (I h2.next 2) Z h3) (by simpa using H h2.next 1 x.b h3 (by simp[kI,N3,vc]) l3 (by omega) hi3) ?_;rintro r h4 ⟨g4,⟨rfl,hi4⟩|⟨rfl,hz⟩⟩
    .obtain⟨s4,tR⟩:=hXi _ _ _ hi4;simp at tR;simp[tR];refine loop h2.next 2 h4 _ _ (by simp) (by simp) (by simp[vE]) (by simp) (by have:=g4.next;omega) (by omega) (fun j _=> ?_) ?_ hi4 (fun e' h' hh=>by simpa using hh)
     .simp[kI,N3,vc,Nat.add_comm 2 j]
     .simp[kI,N3,vc];omega
    .simp;exact .inr hz
   |false=>
    rw[vc] at hT3;simp at fK;simp[hT3,fK];refine loop h2.next 1 h3 _ _ (by simp) (by simp) (by simp[vE]) (by simp) (by omega) (by omega) (fun j _=> ?_) ?_ hi3 (fun e' h' hh=>by simpa using hh)
    .simp[kI,N3,vc,Nat.add_comm 1 j]
    .simp[kI,N3,vc];omega
  .simp;exact .inr hz
 |false=>
  cases vc:(cH x.op).2.2 with
  |true=>
   simp[mL,oX1];refine aE.cut (fun h2=>ab aG h1 h2/\h1.next<h2.next) ⟨(ab.refl g1.ok).var _ _,by simp⟩ ?_;rintro h2 ⟨g2,l2⟩;refine aE.cD (V:=YQ S h2.next (I h2.next 1) Z h2) (by simpa using H h2.next 0 x.b h2 (by simp[kI,N3,vc]) (dK _) (by omega) (hi h2 (g1.trans g2))) ?_;rintro r h3 ⟨g3,⟨rfl,hi3⟩|⟨rfl,hz⟩⟩
   .obtain⟨s3,fK⟩:=hXi _ _ _ hi3;simp at fK;simp[fK];refine loop h2.next 1 h3 _ _ (by simp) (by simp) (by simp[vE]) (by simp) g3.next (by omega) (fun j _=> ?_) ?_ hi3 (fun e' h' hh=>by simpa using hh)
    .simp[kI,N3,vc,Nat.add_comm 1 j]
    .simp[kI,N3,vc];omega
   .simp;exact .inr hz
  |false=>
   simp[mL,oX1];refine aB.cut (fun h2=>ab aG h1 h2/\h1.next<h2.next) ⟨(ab.refl g1.ok).var _ _,by simp⟩ ?_;rintro h2 ⟨g2,l2⟩;refine loop h2.next 0 h2 _ _ (by simp) (by simp) (by simp[vE]) (by simp) (dK _) (by omega) (fun j _=> ?_) ?_ (hi h2 (g1.trans g2)) (fun e' h' hh=>by simpa using hh)
   .simp[kI,N3,vc]
   .simp[kI,N3,vc]
def vO (h:ae) (v:Value) (h':ae):Prop:=ab aG h h'/\ ∃t:Bool,v= .bool t
def akV (h:ae) (n d:Nat) (Jl:Nat->Nat) (a:Int) (m:Nat) (e:Env) (h2:ae):Prop:=
 Env.get e 0= .slice (some ⟨d,0,none⟩) n n/\Env.get e 1= .int .i64 a/\ab aG h h2/\((∃x:Nat,x<n/\m=Jl x+1/\Env.get e 2= .int .i64 x)\/(m=0/\Env.get e 2= .int .i64 (-1)))
theorem OK (ok:bu h) (hn:n<1000000) (hd:h.tr.get d=some (.aA (bp.flat us) ro o s)) (U:Tree.QB us n) (a:Int) (hb:b<n):
  aF FF Ce [.slice (some ⟨d,0,none⟩) n n,.int .i64 a,.int .i64 b] h (vO h):=by
 obtain⟨hl,Jl,_,hr⟩:=U;refine aF.of Kc ?_;unfold BJ;simp;refine aB.loop (akV h n d Jl a) ?_ (n:=Jl b+1) ⟨by simp,by simp,.refl ok,.inl ⟨b,hb,rfl,by simp⟩⟩;rintro m e h2 ⟨f0,f1,g2,hx⟩;unfold yD;rcases hx with⟨x,He,rfl,f2⟩|⟨rfl,f2⟩
 .by_cases Tv:(x:Int)=a
  .have adf:((x:Int) !=a)=false:=by simpa using Tv
   simp[f1,f2,adf];exact⟨g2,_,rfl⟩
  .have adf:((x:Int) !=a)=true:=by simpa using Tv
   have D9:=g2.get ok hd (fun h=>h);obtain⟨v,hv⟩: ∃v,us[x]? =some v:=⟨_,aX (by omega)⟩;have rd:=kj D9 hv;simp[f0,f1,f2,adf,He,rd,-ag];rcases hr x v hv with rfl|⟨y,rfl,hy,hyr⟩
   .exact⟨0,by omega,by simp[f0],by simp[f1],g2,.inr ⟨rfl,by simp⟩⟩
   .exact⟨Jl y+1,by omega,by simp[f0],by simp[f1],g2,.inl ⟨y,hy,rfl,by simp⟩⟩
 .simp[f1,f2];exact⟨g2,_,rfl⟩
def Qn (name:ByteArray) (p r:Int) (B U W:SV):List Value:=[.string name,.int .i64 p,.int .i64 r,B.v,U.v,W.v]
theorem zf {ws:List (Int×Int)} (hW:h.tr.get W=some (.aA (jt.flat ws) ro o s)) {x:Int×Int} (hk:ws[k]? =some x): ∀i m,i+m<=2->bc h W (k*2+i) m=some (((jt.enc x).drop i).take m):=by intro i m IU;have hl:=(bY.mp hk).1;have:=jt.nq ws k i m x hk (by simpa using IU);rw[cy hW (by rw[jt.bC];simp;omega)];simp only[Yw] at this;rw[this]
theorem AL (ws:List (Int×Int)) (i:Nat) (x:Int×Int) (h:i<ws.length):aJ (jt.flat ws) (i*2) [.int .i64 x.1,.int .i64 x.2]=jt.flat (ws.set i x):=by have:=jt.fu ws i x h;simpa using this
section
variable {name:ByteArray} {p r:Int} {B U:SV}
def WrQ (h:ae) (W n:Nat) (v:Value) (h':ae):Prop:=(∃t:Bool,v= .bool t)/\ab (· =W) h h'/\ ∃ws s,h'.tr.get W=some (.aA (jt.flat ws) false 0 s)/\ws.length=n
theorem Pj (ok:bu h) {ws:List (Int×Int)} (hC:h.tr.get C=some (.aA (Qn name p r B U ⟨some ⟨W,0,none⟩,n,wc⟩) false 0 s1)) (hW:h.tr.get W=some (.aA (jt.flat ws) false 0 s2)) (hl:ws.length=n) (hk:k<n) (i j:Int):
  aF FF ke [.pointer (some ⟨C,0,none⟩),.int .i64 k,.int .i64 i,.int .i64 j] h (WrQ h W n):=by
 refine aF.of xQ ?_;unfold pG;simp[Qn] at hC;obtain⟨w,hw⟩: ∃w,ws[k]? =some w:=⟨_,aX (by omega)⟩;have r0:=zf hW hw 0 1 (by decide);simp[-ag] at r0;by_cases h0:0<=w.1
 .simp[hC,hk,r0,h0,-ag,aq hC];exact⟨⟨_,rfl⟩,.refl ok,ws,s2,hW,hl⟩
 .have sp:=AL ws k (i,j) (by omega);have qK:k*2+2<=ws.length*2:=by omega
  simp[hC,hk,r0,h0,-ag,aq hC,hW,qK];exact⟨⟨_,rfl⟩,aM ok hW,ws.set k (i,j),h.clock,by rw[aD,sp],by simp[hl]⟩
theorem Oa (ok:bu h) {C W n wc s1 s2 s3 d nb oU:Nat} {roU:Bool} {ws:List (Int×Int)} {us:List Int} (hC:h.tr.get C=some (.aA (Qn name p r B ⟨some ⟨d,0,none⟩,nb,nb⟩ ⟨some ⟨W,0,none⟩,n,wc⟩) false 0 s1)) (hW:h.tr.get W=some (.aA (jt.flat ws) false 0 s2)) (hl:ws.length=n)
  (hd:h.tr.get d=some (.aA (bp.flat us) roU oU s3)) (hU:Tree.QB us nb) (NV:nb<1000000) {v:Bool×Int} (hv:v.1=true->0<=v.2/\v.2<n) {i:Nat} (hi:i<nb) (j:Int):
  aF FF kc [.pointer (some ⟨C,0,none⟩),.agg ⟨[.bool v.1,.int .i64 v.2]⟩,.int .i64 i,.int .i64 j] h (vO h):=by
 refine aF.of xP ?_;unfold pF;obtain⟨rg,k⟩:=v;cases rg with
 |false=>
  simp;exact⟨(ab.refl ok).new _ _,_,rfl⟩
 |true=>
  obtain⟨h0,hn⟩:=hv rfl;dsimp only at h0 hn;obtain⟨k,rfl⟩: ∃k':Nat,k=k':=⟨k.toNat,by omega⟩;have hk:k<n:=by omega
  obtain⟨w,hw⟩: ∃w,ws[k]? =some w:=⟨_,aX (by omega)⟩;have oC:=ok.bA hC;have oW:=ok.bA hW;have r0:=zf hW hw 0 2 (by decide);have F0:=hC;simp[Qn] at F0;simp[-ag] at r0;simp[F0,oC,oW,r0,hk,aI,d_,aq F0,ay,av,-ag];refine aB.cut (fun h2=>ab aG h h2/\ ∃s,h2.tr.get (h.next+1)=some (.aA [.int .i64 w.1,.int .i64 w.2] false 0 s)) ?_ ?_
  .refine⟨?_,?_⟩
   .exact((ab.refl ok).new _ _).tick.var _ _
   .exact⟨_,aD _ _ _ _ _ _⟩
  rintro h2 ⟨g2,s4,hR⟩;have vF:=g2.get ok F0 (fun h=>h);have D9:=g2.get ok hd (fun h=>h);by_cases k1:w.1<0
  .simp[hR,k1];exact⟨g2,_,rfl⟩
  .by_cases k2:w.1=(i:Int)
   .simp[hR,k1,k2];exact⟨g2,_,rfl⟩
   .have k2':(w.1==(i:Int))=false:=by simpa using k2
    have k1':0<=w.1:=by omega
    simp[hR,k1,k1',k2',vF];refine aQ.call (V:=vO (tick h2)) (by simpa using OK (h:=tick h2) g2.tick.ok NV D9 hU w.1 hi) ?_;rintro _ h3 ⟨g3,t,rfl⟩;simp;exact⟨g2.tick.trans g3,_,rfl⟩
end
structure SC (h0 h:ae) (C W n wc:Nat) (name:ByteArray) (p r:Int) (B U:SV):Prop where
 g:ab aG h0 h
 n0:h0.next<=W
 ne:C≠W
 hC: ∃s,h.tr.get C=some (.aA (Qn name p r B U ⟨some ⟨W,0,none⟩,n,wc⟩) false 0 s)
 hW: ∃ws s,h.tr.get W=some (.aA (jt.flat ws) false 0 s)/\ws.length=n
theorem SC.bt (w:SC h0 h C W n wc name p r B U) (g:ab aG h h'):SC h0 h' C W n wc name p r B U:=by obtain⟨s1,h1⟩:=w.hC;obtain⟨ws,s2,h2,hl⟩:=w.hW;exact⟨w.g.trans g,w.n0,w.ne,⟨s1,g.get w.g.ok h1 (fun h=>h)⟩,ws,s2,g.get w.g.ok h2 (fun h=>h),hl⟩
theorem SC.wr (w:SC h0 h C W n wc name p r B U) (g:ab (· =W) h h') (hW: ∃ws s,h'.tr.get W=some (.aA (jt.flat ws) false 0 s)/\ws.length=n):SC h0 h' C W n wc name p r B U:=by obtain⟨s1,h1⟩:=w.hC;exact⟨w.g.trans' g (fun _ _ h=>h) (fun x hx e=>by have:=w.n0;omega),w.n0,w.ne,⟨s1,g.get w.g.ok h1 w.ne⟩,hW⟩
section
variable {h0:ae} {C W n wc:Nat} {name:ByteArray} {p r:Int} {B U:SV}
def WrS (h0 h:ae) (C W n wc:Nat) (name:ByteArray) (p r:Int) (B U:SV) (v:Value) (h':ae):Prop:=(∃t:Bool,v= .bool t)/\SC h0 h' C W n wc name p r B U/\ab (· =W) h h'
theorem Ft (w:SC h0 h C W n wc name p r B U) {k:Int} (hk:0<=k/\k<n) (i j:Int):
  aF FF ke [.pointer (some ⟨C,0,none⟩),.int .i64 k,.int .i64 i,.int .i64 j] h (WrS h0 h C W n wc name p r B U):=by
 obtain⟨s1,h1⟩:=w.hC;obtain⟨ws,s2,h2,hl⟩:=w.hW;obtain⟨k,rfl⟩: ∃k':Nat,k=k':=⟨k.toNat,by omega⟩;refine(Pj w.g.ok h1 h2 hl (k:=k) (by omega) i j).mono ?_;rintro v h' ⟨⟨t,e⟩,g,hw⟩;exact⟨⟨t,e⟩,w.wr g hw,g⟩
def alc (h0 h:ae) (C W n wc:Nat) (name:ByteArray) (p r:Int) (B U:SV) (pn:Nat) (m:Nat) (e':Env) (h':ae):Prop:=
 ∃(j:Nat) (t:Bool),m=pn-j/\j<=pn/\Env.get e' 0= .pointer (some ⟨C,0,none⟩)/\Env.get e' 15= .int .i64 pn/\Env.get e' 16= .int .i64 j/\Env.get e' 3= .bool t/\SC h0 h' C W n wc name p r B U/\ab (· =W) h h'
theorem Gn (w:SC h0 h C W n wc name p r B U) (hp:pn<=n) (hn:n<1000000) {Q:aP->Env->ae->Prop} (f0:Env.get e 0= .pointer (some ⟨C,0,none⟩)) (f15:Env.get e 15= .int .i64 pn) (f16:Env.get e 16= .int .i64 0) (f3: ∃t:Bool,Env.get e 3= .bool t)
  (K: ∀e' h' t,SC h0 h' C W n wc name p r B U->ab (· =W) h h'->Env.get e' 0= .pointer (some ⟨C,0,none⟩)->Env.get e' 3= .bool t->Q (.exit 0) e' h'):aB FF (.loop iv) e h Q:=by
 obtain⟨t0,f3⟩:=f3;refine aB.loop (alc h0 h C W n wc name p r B U pn) ?_ (n:=pn) ⟨0,t0,rfl,by omega,f0,f15,f16,f3,w,.refl w.g.ok⟩;rintro m e' h' ⟨j,t,rfl,hj,q0,Az,Gk,q3,w',gw⟩;unfold iv;by_cases aS:j<pn
 .have wj:=wrap_i64 ((j:Int)+1) (by omega) (by omega);simp[q0,Az,Gk,aS];refine aE.call (V:=WrS h0 h' C W n wc name p r B U) (by simpa using Ft w' (k:=j) (by omega) 0 (-1)) ?_;rintro _ h2 ⟨⟨t2,rfl⟩,w2,g2⟩;cases t2 with
  |false=>
   simp[Gk,wj,q3];exact⟨pn-(j+1),by omega,j+1,false,rfl,by omega,by simp[q0],by simp[Az],by simp,by simp,w2,gw.trans g2⟩
  |true=>
   simp[Gk,wj,q3];exact⟨pn-(j+1),by omega,j+1,t,rfl,by omega,by simp[q0],by simp[Az],by simp,by simp,w2,gw.trans g2⟩
 .have:j=pn:=by omega
  subst this;simp[Az,Gk];exact K _ _ t w' gw (by simp[q0]) (by simp[q3])
def ala (h0 h:ae) (C W n wc:Nat) (name:ByteArray) (p r:Int) (B U:SV) (k:Nat) (e:Env) (m:Nat) (e':Env) (h':ae):Prop:=
 ∃(j:Nat) (t:Bool),m=k-j/\j<=k/\aw [41,42,43,8,44,45,46,47,48,49,50,51,3,52,40] e e'/\Env.get e' 40= .int .i64 j/\Env.get e' 3= .bool t/\SC h0 h' C W n wc name p r B U/\ab (· =W) h h'
theorem Mq (jG:bu h0) (w:SC h0 h C W n wc name p r B U) {P:SV} {ps:List GP} (hP:SliceR (pR h0) 2 h0 P.v ps) (gM: ∀q∈ps,0<=q.dst/\q.dst<n) (hl:ps.length<1000000) {Q:aP->Env->ae->Prop} (f0:Env.get e 0= .pointer (some ⟨C,0,none⟩)) (f5:Env.get e 5= .int .i64 i)
  (f38:Env.get e 38=P.v) (f39:Env.get e 39= .int .i64 ps.length) (f40:Env.get e 40= .int .i64 0) (f3: ∃t:Bool,Env.get e 3= .bool t)
  (K: ∀e' h' t,SC h0 h' C W n wc name p r B U->ab (· =W) h h'->aw [41,42,43,8,44,45,46,47,48,49,50,51,3,52,40] e e'->Env.get e' 3= .bool t->Q (.exit 4) e' h'):aB FF (.loop iu) e h Q:=by
 obtain⟨t0,f3⟩:=f3;have jl:=SliceR.len hP;refine aB.loop (ala h0 h C W n wc name p r B U ps.length e) ?_ (n:=ps.length) ⟨0,t0,rfl,by omega,aw.refl _ _,f40,f3,w,.refl w.g.ok⟩;rintro m e' h' ⟨j,t,rfl,hj,Kp,WL,q3,w',gw⟩;have q0:=Kp.at f0;have q5:=Kp.at f5;have Sd:=Kp.at f38;have q39:=Kp.at f39;unfold iu;by_cases aS:j<ps.length
 .have wj:=wrap_i64 ((j:Int)+1) (by omega) (by omega);have hx:ps[j]? =some ps[j]:=aX aS;have hm:=zk aS;generalize ps[j]=q at hx hm;obtain⟨bb,off,c,oZ,_,_,⟨A,rfl,sA⟩,_,dy⟩:=SliceR.later jG hP hx;have r0:=dy h' w'.g 0 2 (by decide);simp[-ag] at r0;simp at Sd;rw[oZ,jl] at Sd;simp[q0,q5,Sd,q39,WL,aS,r0,-ag,av];refine aE.cut (fun h1=>ab aG h' h1) ((ab.refl w'.g.ok).var _ _) ?_;intro h1 g1;refine aE.call (V:=WrS h0 h1 C W n wc name p r B U) (by simpa using Ft (w'.bt g1) (gM q hm) i (-1)) ?_;rintro _ h2 ⟨⟨t2,rfl⟩,w2,g2⟩;cases t2 with
  |false=>
   simp[WL,wj,q3];refine⟨ps.length-(j+1),by omega,j+1,false,rfl,by omega,?_,by simp,by simp,w2,(gw.trans g1.bt).trans g2⟩
   repeat (refine aw.set ?_)
   exact Kp
  |true=>
   simp[WL,wj,q3];refine⟨ps.length-(j+1),by omega,j+1,t,rfl,by omega,?_,by simp,by simp,w2,(gw.trans g1.bt).trans g2⟩
   repeat (refine aw.set ?_)
   exact Kp
 .have:j=ps.length:=by omega
  subst this;simp[q39,WL];exact K _ _ t w' gw (Kp.set) (by simp[q3])
def ak_ (h0 h:ae) (C W n wc:Nat) (name:ByteArray) (p r:Int) (B U:SV) (k:Nat) (e:Env) (m:Nat) (e':Env) (h':ae):Prop:=
 ∃(j:Nat) (t:Bool),m=k-j/\j<=k/\aw [57,58,59,60,10,9,61,62,63,64,65,66,67,68,69,70,71,72,73,74,3,75,56] e e'/\Env.get e' 56= .int .i64 j/\Env.get e' 3= .bool t/\SC h0 h' C W n wc name p r B U/\ab (· =W) h h'
theorem Mp (jG:bu h0) (w:SC h0 h C W n wc name p r B U) {xs:List GI} (hL:SliceR (iR h0) 8 h0 L.v xs) (CQ: ∀x∈xs,x.dst<n) (hl:xs.length<1000000) {Q:aP->Env->ae->Prop} (f0:Env.get e 0= .pointer (some ⟨C,0,none⟩)) (f5:Env.get e 5= .int .i64 i)
  (f54:Env.get e 54=L.v) (f55:Env.get e 55= .int .i64 xs.length) (f56:Env.get e 56= .int .i64 0) (f3: ∃t:Bool,Env.get e 3= .bool t)
  (K: ∀e' h' t,SC h0 h' C W n wc name p r B U->ab (· =W) h h'->aw [57,58,59,60,10,9,61,62,63,64,65,66,67,68,69,70,71,72,73,74,3,75,56] e e'->Env.get e' 3= .bool t->Q (.exit 6) e' h'):aB FF (.loop ir) e h Q:=by
 obtain⟨t0,f3⟩:=f3;have tB:=SliceR.len hL;refine aB.loop (ak_ h0 h C W n wc name p r B U xs.length e) ?_ (n:=xs.length) ⟨0,t0,rfl,by omega,aw.refl _ _,f56,f3,w,.refl w.g.ok⟩;rintro m e' h' ⟨j,t,rfl,hj,Kp,TD,q3,w',gw⟩;have q0:=Kp.at f0;have q5:=Kp.at f5;have Se:=Kp.at f54;have MJ:=Kp.at f55;unfold ir;by_cases aS:j<xs.length
 .have wj:=wrap_i64 ((j:Int)+1) (by omega) (by omega);have hx:xs[j]? =some xs[j]:=aX aS;have hm:=zk aS;generalize xs[j]=x at hx hm;obtain⟨bb,off,c,UW,_,_,⟨A,rfl,sA⟩,_,dy⟩:=SliceR.later jG hL hx;have r0:=dy h' w'.g 0 8 (by decide);simp[aC,-ag] at r0;simp at Se;rw[UW,tB] at Se;have gv:ab aG h' (put (aL h' [.int .i64 0,.int .i64 0,.bool false,.int .i64 0,.bool false,.int .i64 0,.int .i64 0,.slice none 0 0] 0) h'.next 0 [.int .i64 0,.int .i64 0,.bool false,.int .i64 0,.bool false,.int .i64 0,.int .i64 0,.slice none 0 0] [.int .i64 x.op,.int .i64 x.dst,.bool x.a.1,.int .i64 x.a.2,.bool x.b.1,.int .i64 x.b.2,.int .i64 x.fn,.slice A.a A.l A.c] 0):=(ab.refl w'.g.ok).var _ _;by_cases hd:x.dst<0
  .simp[q0,q5,Se,MJ,TD,aS,r0,-ag,av,hd,wj,q3];refine⟨xs.length-(j+1),by omega,j+1,t,rfl,by omega,?_,by simp,by simp,w'.bt gv,gw.trans gv.bt⟩
   repeat (refine aw.set ?_)
   exact Kp
  .simp[q0,q5,Se,MJ,TD,aS,r0,-ag,av,hd];refine aE.cut (fun h1=>ab aG h' h1) gv ?_;intro h1 g1;refine aE.call (V:=WrS h0 h1 C W n wc name p r B U) (by simpa using Ft (w'.bt g1) ⟨by omega,CQ x hm⟩ i j) ?_;rintro _ h2 ⟨⟨t2,rfl⟩,w2,g2⟩;cases t2 with
   |false=>
    simp[TD,wj,q3];refine⟨xs.length-(j+1),by omega,j+1,false,rfl,by omega,?_,by simp,by simp,w2,(gw.trans g1.bt).trans g2⟩
    repeat (refine aw.set ?_)
    exact Kp
   |true=>
    simp[TD,wj,q3];refine⟨xs.length-(j+1),by omega,j+1,t,rfl,by omega,?_,by simp,by simp,w2,(gw.trans g1.bt).trans g2⟩
    repeat (refine aw.set ?_)
    exact Kp
 .have:j=xs.length:=by omega
  subst this;simp[MJ,TD];exact K _ _ t w' gw (Kp.set) (by simp[q3])
def alb (h0 h:ae) (C W n wc:Nat) (name:ByteArray) (p r:Int) (B U:SV) (k:Nat) (m:Nat) (e':Env) (h':ae):Prop:=
 ∃(j:Nat) (t:Bool),m=k-j/\j<=k/\Env.get e' 0= .pointer (some ⟨C,0,none⟩)/\Env.get e' 30=B.v/\Env.get e' 31= .int .i64 k/\Env.get e' 32= .int .i64 j/\Env.get e' 3= .bool t/\SC h0 h' C W n wc name p r B U/\ab (· =W) h h'
def afz (h0 h:ae) (C W n wc:Nat) (name:ByteArray) (p r:Int) (B U:SV) (v:Value) (h':ae):Prop:=(∃t:Bool,v= .bool t)/\SC h0 h' C W n wc name p r B U/\ab (· =W) h h'
structure MN (n:Nat) (bs:List GB):Prop where
 len:bs.length<1000000
 ph: ∀b∈bs,b.eS.length<1000000/\ ∀q∈b.eS,0<=q.dst/\q.dst<n
 li: ∀b∈bs,b.list.length<1000000/\ ∀x∈b.list,x.dst<n
theorem Mo (jG:bu h0) (hB:AU h0 B bs) (D:MN n bs) (w:SC h0 h C W n wc name p r B U) (NY:p=pn) (hp:pn<=n) (hn:n<1000000):
  aF FF oz [.pointer (some ⟨C,0,none⟩)] h (afz h0 h C W n wc name p r B U):=by
 have ew:=SliceR.len hB;have pc:=D.len;obtain⟨s1,hC⟩:=w.hC;simp[Qn] at hC;refine aF.of wh ?_;unfold oh;simp[hC];refine Gn w hp hn (by simp) (by simp[NY]) (by simp) ⟨true,by simp⟩ ?_;intro e1 h1 t1 w1 gw1 q0 q3;obtain⟨s2,NF⟩:=w1.hC;simp[Qn] at NF;simp[q0,NF];refine aB.loop (alb h0 h C W n wc name p r B U bs.length) ?_ (n:=bs.length) ⟨0,t1,rfl,by omega,by simp[q0],by simp,by simp[ew],by simp,by simp[q3],w1,gw1⟩;rintro m e' h' ⟨j,t,rfl,hj,q0,TB,WK,ZQ,q3,w',gw⟩;unfold mA;by_cases aS:j<bs.length
 .have wj:=wrap_i64 ((j:Int)+1) (by omega) (by omega);have hx:bs[j]? =some bs[j]:=aX aS;have hm:=zk aS;generalize bs[j]=x at hx hm;obtain⟨bb,off,c,ig,_,_,⟨P,L,T,rfl,sP,sL,sT⟩,_,dy⟩:=SliceR.later jG hB hx;have r0:=dy h' w'.g 0 6 (by decide);simp[-ag] at r0;simp at TB;rw[ig,ew] at TB;have jl:=SliceR.len sP;have tB:=SliceR.len sL;simp[q0,TB,WK,ZQ,aS,r0,-ag,av];refine aB.cut (fun h1=>ab aG h' h1/\ ∃s,h1.tr.get h'.next=some (.aA [P.v,L.v,.int .i64 x.kind,.bool x.on.1,.int .i64 x.on.2,T.v] false 0 s)) ⟨(ab.refl w'.g.ok).var _ _,_,aD _ _ _ _ _ _⟩ ?_;rintro h2 ⟨g2,s3,hX⟩;have lW:W<h'.next:=by obtain⟨_,_,hW,_⟩:=w'.hW;exact w'.g.ok.wf _ _ hW
  refine Mq jG (w'.bt g2) sP (D.ph x hm).2 (D.ph x hm).1 (i:=j) (by simp[q0]) (by simp) (by simp) (by simp[jl]) (by simp) ⟨t,by simp[q3]⟩ ?_;intro e3 h3 t3 w3 g3 K3 k3;have fK:=g3.get g2.ok hX (by omega);simp at fK;have k6:Env.get e3 6= .pointer (some ⟨h'.next,0,none⟩):=K3.at (t:=6) (by simp);have k0:=K3.at (t:=0) (by simp;exact q0);have k5:Env.get e3 5= .int .i64 j:=K3.at (t:=5) (by simp);have k30:=K3.at (t:=30) (by simp;exact TB);have k31:=K3.at (t:=31) (by simp;exact WK);have k32:=K3.at (t:=32) (by simp;exact ZQ);simp[k6,fK];refine Mp jG w3 sL (D.li x hm).2 (D.li x hm).1 (i:=j) (by simp[k0]) (by simp[k5]) (by simp) (by simp[tB]) (by simp) ⟨t3,by simp[k3]⟩ ?_;intro e4 h4 t4 w4 g4 K4 k43;have k40:=K4.at (t:=0) (by simp;exact k0);have aov:=K4.at (t:=30) (by simp;exact k30);have aow:=K4.at (t:=31) (by simp;exact k31);have aox:=K4.at (t:=32) (by simp;exact k32);simp[aox,wj];exact⟨bs.length-(j+1),by omega,j+1,t4,rfl,by omega,by simp[k40],by simp[aov,ig,ew],by simp[aow],by simp,by simp[k43],w4,((gw.trans g2.bt).trans g3).trans g4⟩
 .have:j=bs.length:=by omega
  subst this;simp[WK,ZQ,q3];exact⟨⟨_,rfl⟩,w',gw⟩
end
structure UF (h0 h1:ae) (C W n wc d nb Pb R:Nat) (name:ByteArray) (p r:Int) (B:SV):Prop where
 g:ab aG h0 h1
 hC: ∃s,h1.tr.get C=some (.aA (Qn name p r B ⟨some ⟨d,0,none⟩,nb,nb⟩ ⟨some ⟨W,0,none⟩,n,wc⟩) false 0 s)
 hW: ∃ws s,h1.tr.get W=some (.aA (jt.flat ws) false 0 s)/\ws.length=n
 hd: ∃us s,h1.tr.get d=some (.aA (bp.flat us) false 0 s)/\Tree.QB us nb
 hP: ∃s,h1.tr.get Pb=some (.aA [.pointer (some ⟨C,0,none⟩)] false 0 s)
 hR: ∃s,h1.tr.get R=some (.aA [.bool false] false 0 s)
 nR:h0.next<=R
 nb:nb<1000000
 n:n<1000000
theorem UF.bt {h0 h1 h2:ae} {C W n wc d nb Pb R:Nat} (w:UF h0 h1 C W n wc d nb Pb R name p r B) (g:ab aG h1 h2):UF h0 h2 C W n wc d nb Pb R name p r B:=by obtain⟨s1,q1⟩:=w.hC;obtain⟨ws,s2,q2,e2⟩:=w.hW;obtain⟨us,s3,q3,e3⟩:=w.hd;obtain⟨s4,q4⟩:=w.hP;obtain⟨s5,q5⟩:=w.hR;have ok:=w.g.ok;exact⟨w.g.trans g,⟨s1,g.get ok q1 (fun h=>h)⟩,⟨ws,s2,g.get ok q2 (fun h=>h),e2⟩,⟨us,s3,g.get ok q3 (fun h=>h),e3⟩,⟨s4,g.get ok q4 (fun h=>h)⟩,⟨s5,g.get ok q5 (fun h=>h)⟩,w.nR,w.nb,w.n⟩
section
variable {h0:ae} {C W n wc d nb Pb R:Nat} {name:ByteArray} {p r:Int} {B:SV}
def gK (n:Nat) (v:Bool×Int):Prop:=v.1=true->0<=v.2/\v.2<n
theorem Er (w:UF h0 h C W n wc d nb Pb R name p r B) {v:Bool×Int} (hv:gK n v) (hi:i<nb) (j:Int):
  aF FF kc [.pointer (some ⟨C,0,none⟩),.agg ⟨[.bool v.1,.int .i64 v.2]⟩,.int .i64 i,.int .i64 j] h (vO h):=by
 obtain⟨s1,q1⟩:=w.hC;obtain⟨ws,s2,q2,e2⟩:=w.hW;obtain⟨us,s3,q3,e3⟩:=w.hd;exact Oa w.g.ok q1 q2 e2 q3 e3 w.nb hv hi j
def TY (h0:ae) (R:Nat) (e':Env) (h':ae):Prop:=ab aG h0 h'/\(∃t s,h'.tr.get R=some (.aA [.bool t] false 0 s))/\Env.get e' 2= .pointer (some ⟨R,0,none⟩)
def MW:ak:= .ops [⟨(some 13),none,(.alloc [(.bool false),(.int .i64 0)])⟩,⟨none,none,(.store 2 (.tmp 13) (.tmp 79))⟩]
def DE:ak:=(P_ 9 (G_ [l_ 80 1,L_ 81 2 13,l_ 82 4,l_ 83 11,F_ 84 150 [t_ 80,t_ 81,t_ 82,t_ 83],o_ 85 (.un .not (t_ 84))] (I_ 85 (G_ [u_ (.store 1 (t_ 2) (b_ false))] .ret) .skip)))
def ZU (h0:ae) (R:Nat) (h':ae):Prop:=ab aG h0 h'/\ ∃t s,h'.tr.get R=some (.aA [.bool t] false 0 s)
theorem QW (ok:bu h) (e:Env) (ps:List Nat) (asg body:ak):ab aG h (h.new (.loop e ps asg body .ready))/\(h.new (.loop e ps asg body .ready)).tr.get h.next=some (.loop e ps asg body .ready):=by
 refine⟨⟨Nat.le_succ _,dK _,fun b hb _=>y4 _ hb,⟨fun b ob hb=> ?_,fun b cs ro op s hb=> ?_⟩⟩,by simp[ae.new,Tr.aN]⟩
 .simp only[ae.new,Tr.aN] at hb ⊢;by_cases e:b=h.next
  .omega
  .rw[aT e] at hb;exact Nat.lt_succ_of_lt (ok.wf b ob hb)
 .simp only[ae.new,Tr.aN] at hb ⊢;by_cases e:b=h.next
  .rw[aU e] at hb;cases hb
  .rw[aT e] at hb;exact ok.st b cs ro op s hb
theorem S7 {hA:ae} (jG:bu h0) (F:UF h0 hA C W n wc d nb Pb R name p r B) {X I4 J11 i j s4 s5:Nat} (hX: ∃s,hA.tr.get X=some (.aA (mi x A) false 0 s)) (sA:SliceR vR 2 h0 A.v x.args) (C0:x.args.length<2000000) (hv: ∀v∈kI x,gK n v)
  (hI:hA.tr.get I4=some (.aA [.int .i64 i] false 0 s4)) (hJ:hA.tr.get J11=some (.aA [.int .i64 j] false 0 s5)) (hi:i<nb) {e:Env} {Q:aP->Env->ae->Prop} (f1:Env.get e 1= .pointer (some ⟨Pb,0,none⟩)) (f2:Env.get e 2= .pointer (some ⟨R,0,none⟩)) (f4:Env.get e 4= .pointer (some ⟨I4,0,none⟩)) (f11:Env.get e 11= .pointer (some ⟨J11,0,none⟩)) (f78:Env.get e 78= .func (.func kA) #[] #[.pointer (some ⟨X,0,none⟩)])
  (ret: ∀h',TY h0 R e h'->Q .ret e h') (norm: ∀h',ab aG hA h'->Q .normal e h'):aB FF (.Qk (.tmp 78) [79] MW DE) e hA Q:=by
 have okA:=F.g.ok;obtain⟨sX,hX⟩:=hX;obtain⟨g0,hl0⟩:=QW okA e [79] MW DE;have um:(hA.new (.loop e [79] MW DE .ready)).next=hA.next+1:=rfl
 refine aB.Qk (first:= #[]) (caps:= #[.pointer (some ⟨X,0,none⟩)]) (by simpa using f78) ?_;generalize hA.new (.loop e [79] MW DE .ready)=hL at*;have lX:=(okA.bA hX).lt;obtain⟨sR,hR⟩:=F.hR;have lR:=(okA.bA hR).lt;have H:=OZ (h:=hL) jG sA C0 (X:=X) (y:= .func (.yield hA.next) #[] #[]) (fun _ _ h2=>ab aG hA h2/\h2.tr.get hA.next=some (.loop e [79] MW DE .ready)) (fun b=>b=R\/b=hA.next) (fun h'=>h'.tr.get hA.next=some (.loop e [79] MW DE (.done none))/\ZU h0 R h')
  (fun _ _ h2 hh=>⟨F.g.trans hh.1,sX,hh.1.get okA hX (fun h=>h)⟩) (fun _ _ h2 h3 hh g=>⟨hh.1.trans g,g.get hh.1.ok hh.2 (fun h=>h)⟩) (by rintro b (rfl|rfl)<;>omega) ?_ (F.g.trans g0) ⟨sX,g0.get okA hX (fun h=>h)⟩ (fun h1 g=>⟨g0.trans g,g.get g0.ok hl0 (fun h=>h)⟩)
 .refine aF.mono (by simpa using H) ?_;rintro v h' (⟨g,hl⟩|⟨hl,Fz,vK⟩)
  .unfold vT;rw[hl];refine norm _ (g.trans' (ou g.ok hA.next) (fun _ _ h=>h) (fun x hx e=>by omega))
  .unfold vT;rw[hl];refine ret _ ⟨Fz.trans' (ou Fz.ok hA.next) (fun _ _ h=>h) (fun x hx e=>by have:=F.g.next;omega),?_,f2⟩;obtain⟨t,s,vK⟩:=vK;exact⟨t,s,(ou Fz.ok hA.next).get Fz.ok vK (by omega)⟩
 .rintro Bq k v h2 hk hB1 ND ⟨g2,tT⟩;have xp:=hv v (dk hk);refine(OJ (S:=(· =R)) (K:=fun h'=>ab aG hA h') (Z:=ZU h0 R) g2.ok (by omega) tT ?_ ?_ ?_).mono ?_
  .unfold MW;simp;have gv:ab aG h2 (put (aL h2 [.bool false,.int .i64 0] 0) h2.next 0 [.bool false,.int .i64 0] [.bool v.1,.int .i64 v.2] 0):=(ab.refl g2.ok).var _ _;have hV:(put (aL h2 [.bool false,.int .i64 0] 0) h2.next 0 [.bool false,.int .i64 0] [.bool v.1,.int .i64 v.2] 0).tr.get h2.next=some (.aA [.bool v.1,.int .i64 v.2] false 0 h2.clock):=by simp
   generalize put (aL h2 [.bool false,.int .i64 0] 0) h2.next 0 [.bool false,.int .i64 0] [.bool v.1,.int .i64 v.2] 0=h3 at*;refine⟨gv,fun h4 g4=> ?_⟩;have t3:ab aG hA h4:=(g2.trans gv).trans' g4 (fun _ _ h=>h) (fun x hx e=>by omega);have F4:=F.bt t3;obtain⟨sP,XK⟩:=F4.hP;obtain⟨sR4,NJ⟩:=F4.hR;have hI4:=t3.get okA hI (fun h=>h);have hJ4:=t3.get okA hJ (fun h=>h);have l2:=g2.next;have l3:hA.next<h2.next:=g2.ok.wf _ _ tT;have U1:=g4.get gv.ok hV (by omega);unfold DE;simp[f1,f2,f4,f11,XK,hI4,hJ4,U1];refine aE.call (V:=vO h4) (by simpa using Er F4 xp hi j) ?_;rintro _ h5 ⟨g5,t,rfl⟩;cases t with
   |true=>
    simp;exact⟨g5.bt,t3.trans g5⟩
   |false=>
    have u9:=g5.get t3.ok NJ (fun h=>h);simp[f2,u9];exact⟨g5.bt.trans (aM g5.ok u9),(F4.g.trans g5).put ⟨_,u9⟩ (.inl F.nR),false,h5.clock,by simp⟩
  .intro h4 h5 k4 _ g;exact k4.trans' g (fun _ _ h=>h) (fun x hx e=>by omega)
  .rintro h4 h5 ⟨z1,t,s,z2⟩ _ g;exact⟨z1.trans' g (fun _ _ h=>h) (fun x hx e=>by have:=F.g.next;omega),t,s,g.get z1.ok z2 (by omega)⟩
  .rintro r h5 ⟨g5,⟨rfl,hl5,k5⟩|⟨rfl,hl5,z5⟩⟩
   .exact⟨g5.bJ (fun _ _ h=> .inl h),.inl ⟨rfl,k5,hl5⟩⟩
   .exact⟨g5.bJ (fun _ _ h=> .inl h),.inr ⟨rfl,hl5,z5⟩⟩
end
section
variable {h0:ae} {C W n wc d nb Pb R:Nat} {name:ByteArray} {p r:Int} {B:SV}
def ak7 (h:ae) (k:Nat) (e:Env) (m:Nat) (e':Env) (h':ae):Prop:=
 ∃j:Nat,m=k-j/\j<=k/\aw [8,9,10,40,41,42,43,44,45,46,47,48,49,50,51,52,53,54,55,56,57,58,59,60,61,62,63,64,65,66,67] e e'/\Env.get e' 40= .int .i64 j/\ab aG h h'
theorem Xx (jG:bu h0) (F:UF h0 h C W n wc d nb Pb R name p r B) (hB:AU h0 B bs) (iz:bs.length=nb) (okx:bu hy) (gx:ab aG hy h) (Bh:SliceR (X9 hy) 1 hy AH.v ah) (rw:A0 nb ah)
  {A:SV} {row:List (Bool×Int)} (sA:SliceR vR 2 h0 A.v row) (hv: ∀v∈row,gK n v) (uJ:row.length<1000000) {i I4 s4:Nat} {ps:List Int} (gM:ah[i]? =some ps) (va:row.length=ps.length) (hI:h.tr.get I4=some (.aA [.int .i64 i] false 0 s4))
  {e:Env} {Q:aP->Env->ae->Prop} (f1:Env.get e 1= .pointer (some ⟨Pb,0,none⟩)) (f2:Env.get e 2= .pointer (some ⟨R,0,none⟩)) (f3:Env.get e 3=AH.v) (f4:Env.get e 4= .pointer (some ⟨I4,0,none⟩)) (f38:Env.get e 38=A.v) (f39:Env.get e 39= .int .i64 row.length) (f40:Env.get e 40= .int .i64 0)
  (ret: ∀e' h',TY h0 R e' h'->Q .ret e' h') (K: ∀e' h',ab aG h h'->aw [8,9,10,40,41,42,43,44,45,46,47,48,49,50,51,52,53,54,55,56,57,58,59,60,61,62,63,64,65,66,67] e e'->Q (.exit 4) e' h'):
  aB FF (.loop jK) e h Q:=by
 have vE:=SliceR.len sA;have UR:=SliceR.len Bh;have ew:=SliceR.len hB;have Hs:=F.g.ok;have ang:i<nb:=by have:=(bY.mp gM).1;have:=rw.len;omega
 refine aB.loop (ak7 h row.length e) ?_ (n:=row.length) ⟨0,rfl,by omega,aw.refl _ _,f40,.refl Hs⟩;rintro m e' h' ⟨j,rfl,hj,Kp,WL,g⟩;have F':=F.bt g;have q1:=Kp.at f1;have q2:=Kp.at f2;have q3:=Kp.at f3;have q4:=Kp.at f4;have Sd:=Kp.at f38;have q39:=Kp.at f39;unfold jK;by_cases aS:j<row.length
 .have wj:=wrap_i64 ((j:Int)+1) (by omega) (by omega);have hx:row[j]? =some row[j]:=aX aS;have hm:=zk aS;generalize row[j]=v at hx hm;obtain⟨b1,EF,c1,CK,_,_,rfl,_,qL⟩:=SliceR.later jG sA hx;have r1:=qL h' F'.g 0 2 (by decide);obtain⟨b2,Ot,c2,UQ,_,_,⟨S,rfl,sS⟩,o2,xZ⟩:=SliceR.later okx Bh gM;have gx':=gx.trans g;have r2: ∀h2,ab aG hy h2->bc h2 b2 (Ot+i) 1=some [.slice S.a S.l S.c]:=fun h2 g2=>by have:=xZ h2 g2 0 1 (by decide);simpa [-ag] using this
  have hSl:=SliceR.len sS;have hpx:ps[j]? =some ps[j]:=aX (by omega);have JR:=zk (l:=ps) (n:=j) (by omega);generalize ps[j]'(by omega)=a at hpx JR;obtain⟨ha0,Bj⟩:=(rw.row i ps gM).2 a JR;obtain⟨a,rfl⟩: ∃a':Nat,a=a':=⟨a.toNat,by omega⟩;have agH:a<nb:=by omega
  obtain⟨b3,aoQ,c3,hSa,_,_,rfl,o3,acY⟩:=SliceR.later okx sS hpx;have r3: ∀h2,ab aG hy h2->bc h2 b3 (aoQ+j) 1=some [.int .i64 a]:=fun h2 g2=>by have:=acY h2 g2 0 1 (by decide);simpa [-ag] using this
  obtain⟨xa,Tv⟩: ∃xa,bs[a]? =some xa:=⟨_,aX (by omega)⟩;obtain⟨b4,aoR,c4,ig,_,_,⟨P4,L4,T4,rfl,sP4,sL4,sT4⟩,o4,hrd4⟩:=SliceR.later jG hB Tv;have r4: ∀h2,ab aG h0 h2->bc h2 b4 (aoR+a*6+1) 1=some [.slice L4.a L4.l L4.c]:=fun h2 g2=>by have:=hrd4 h2 g2 1 1 (by decide);simpa [-ag] using this
  simp[-ag] at r1;simp at Sd q3;rw[CK,vE] at Sd;rw[UQ,UR] at q3;have ff:i<ah.length:=by rw[rw.len];exact ang
  have hI':=g.get Hs hI (fun h=>h);have oI:=F'.g.ok.bA hI';obtain⟨sP,My⟩:=F'.hP;obtain⟨sC,F0⟩:=F'.hC;have vF:=F0;simp[Qn] at vF;have oP:=F'.g.ok.bA My;have oC:=F'.g.ok.bA F0;have ob2:=gx'.bA o2;have ob3:=gx'.bA o3;have ob4:=F'.g.bA o4;have r2':=r2 h' gx';have r3':=r3 h' gx';have r4':=r4 h' F'.g;have hjp:j<ps.length:=by omega
  rw[hSl,hSa] at r2';rw[ig,ew,iz] at vF;simp[q1,q2,q3,q4,Sd,q39,WL,aS,r1,ff,-ag,av,bg,aI,aq hI',oI,oP,oC,ob2,ob3,ob4,r2',r3',r4',hjp,ay,aq My,aq vF,vF,My,agH];refine aQ.cut (fun h5=>ab aG h' h5) ?_ ?_
  .exact((ab.refl F'.g.ok).var _ _).tick
  intro h5 g5;have F5:=F'.bt g5;refine aQ.call (V:=vO h5) (by simpa using Er F5 (hv v hm) agH L4.l) ?_;rintro _ h6 ⟨g6,t,rfl⟩;cases t with
  |true=>
   simp[WL,wj];refine⟨row.length-(j+1),by omega,j+1,rfl,by omega,?_,by simp,(g.trans g5).trans g6⟩
   repeat (refine aw.set ?_)
   exact Kp
  |false=>
   obtain⟨sR,KJ⟩:=(F5.bt g6).hR;have YH:=(F5.g.trans g6);simp[q2,KJ];exact ret _ _ ⟨YH.put ⟨_,KJ⟩ (.inl F.nR),⟨false,h6.clock,by simp⟩,by simp[q2]⟩
 .have:j=row.length:=by omega
  subst this;simp[q39,WL];exact K _ _ g (Kp.set)
def ak8 (h:ae) (k:Nat) (e:Env) (m:Nat) (e':Env) (h':ae):Prop:=
 ∃j:Nat,m=k-j/\j<=k/\aw [7,33,34,35,36,37,38,39,68,8,9,10,40,41,42,43,44,45,46,47,48,49,50,51,52,53,54,55,56,57,58,59,60,61,62,63,64,65,66,67] e e'/\Env.get e' 33= .int .i64 j/\ab aG h h'
theorem aw.bJ {l l':List Nat} {e e':Env} (K:aw l e e') (h: ∀t∈l,t∈l':=by decide):aw l' e e':=fun t ht=>K t (fun h'=>ht (h t h'))
theorem S6 (jG:bu h0) (F:UF h0 h C W n wc d nb Pb R name p r B) (hB:AU h0 B bs) (iz:bs.length=nb) (okx:bu hy) (gx:ab aG hy h) (Bh:SliceR (X9 hy) 1 hy AH.v ah) (rw:A0 nb ah)
  {i I4 s4:Nat} {ps:List Int} (gM:ah[i]? =some ps) (hI:h.tr.get I4=some (.aA [.int .i64 i] false 0 s4)) {P:SV} {te:List GP} (hP:SliceR (pR h0) 2 h0 P.v te) (va:te.length<1000000) (cN: ∀q∈te,q.row.length=ps.length/\ ∀v∈q.row,gK n v)
  {e:Env} {Q:aP->Env->ae->Prop} (f1:Env.get e 1= .pointer (some ⟨Pb,0,none⟩)) (f2:Env.get e 2= .pointer (some ⟨R,0,none⟩)) (f3:Env.get e 3=AH.v) (f4:Env.get e 4= .pointer (some ⟨I4,0,none⟩)) (f31:Env.get e 31=P.v) (f32:Env.get e 32= .int .i64 te.length) (f33:Env.get e 33= .int .i64 0)
  (ret: ∀e' h',TY h0 R e' h'->Q .ret e' h') (K: ∀e' h',ab aG h h'->aw [7,33,34,35,36,37,38,39,68,8,9,10,40,41,42,43,44,45,46,47,48,49,50,51,52,53,54,55,56,57,58,59,60,61,62,63,64,65,66,67] e e'->Q (.exit 2) e' h'):
  aB FF (.loop jL) e h Q:=by
 have jl:=SliceR.len hP;have Hs:=F.g.ok;refine aB.loop (ak8 h te.length e) ?_ (n:=te.length) ⟨0,rfl,by omega,aw.refl _ _,f33,.refl Hs⟩;rintro m e' h' ⟨j,rfl,hj,Kp,q33,g⟩;have F':=F.bt g;have q1:=Kp.at f1;have q2:=Kp.at f2;have q3:=Kp.at f3;have q4:=Kp.at f4;have WK:=Kp.at f31;have ZQ:=Kp.at f32;unfold jL;by_cases aS:j<te.length
 .have wj:=wrap_i64 ((j:Int)+1) (by omega) (by omega);have hx:te[j]? =some te[j]:=aX aS;have hm:=zk aS;generalize te[j]=q at hx hm;obtain⟨K0,hqv⟩:=cN q hm;obtain⟨b1,EF,c1,oZ,_,_,⟨A,rfl,sA⟩,_,qL⟩:=SliceR.later jG hP hx;have r1:=qL h' F'.g 0 2 (by decide);have vE:=SliceR.len sA;have:=(rw.row i ps gM).1;simp[-ag] at r1;simp at WK;rw[oZ,jl] at WK;simp[WK,ZQ,q33,aS,r1,-ag,av];refine aB.cut (fun h1=>ab aG h' h1) ((ab.refl F'.g.ok).var _ _) ?_;intro h5 g5;have F5:=F'.bt g5;have Fv:=g.trans g5;refine Xx jG F5 hB iz okx (gx.trans Fv) Bh rw sA hqv (by omega) gM K0 (Fv.get Hs hI (fun h=>h)) (by simp[q1]) (by simp[q2]) (by simp[q3]) (by simp[q4]) (by simp) (by simp[vE]) (by simp) ?_ ?_
  .intro e6 h6 hr;simp;exact ret _ _ hr
  .intro e6 h6 g6 K6;have k33:=K6.at (t:=33) (by simp;exact q33);simp[k33,wj];refine⟨te.length-(j+1),by omega,j+1,rfl,by omega,?_,by simp,Fv.trans g6⟩;refine aw.set (aw.set (aw.trans ?_ (K6.bJ)))
   repeat (refine aw.set ?_)
   exact Kp
 .have:j=te.length:=by omega
  subst this;simp[ZQ,q33];exact K _ _ g (Kp.set)
end
section
variable {h0:ae} {C W n wc d nb Pb R:Nat} {name:ByteArray} {p r:Int} {B:SV}
def ak6 (h:ae) (k:Nat) (e:Env) (m:Nat) (e':Env) (h':ae):Prop:=
 ∃j:Nat,m=k-j/\j<=k/\aw [11,12,13,72,73,74,75,76,77,78,86] e e'/\Env.get e' 72= .int .i64 j/\ab aG h h'
theorem S5 (jG:bu h0) (F:UF h0 h C W n wc d nb Pb R name p r B) {i I4 s4:Nat} (hi:i<nb) (hI:h.tr.get I4=some (.aA [.int .i64 i] false 0 s4)) {xs:List GI} (hL:SliceR (iR h0) 8 h0 L.v xs) (Ed:xs.length<1000000) (cN: ∀x∈xs,x.args.length<2000000/\ ∀v∈kI x,gK n v)
  {e:Env} {Q:aP->Env->ae->Prop} (f1:Env.get e 1= .pointer (some ⟨Pb,0,none⟩)) (f2:Env.get e 2= .pointer (some ⟨R,0,none⟩)) (f4:Env.get e 4= .pointer (some ⟨I4,0,none⟩)) (f70:Env.get e 70=L.v) (f71:Env.get e 71= .int .i64 xs.length) (f72:Env.get e 72= .int .i64 0)
  (ret: ∀e' h',TY h0 R e' h'->Q .ret e' h') (K: ∀e' h',ab aG h h'->aw [11,12,13,72,73,74,75,76,77,78,86] e e'->Q (.exit 6) e' h'):
  aB FF (.loop jJ) e h Q:=by
 have tB:=SliceR.len hL;have Hs:=F.g.ok;refine aB.loop (ak6 h xs.length e) ?_ (n:=xs.length) ⟨0,rfl,by omega,aw.refl _ _,f72,.refl Hs⟩;rintro m e' h' ⟨j,rfl,hj,Kp,q72,g⟩;have F':=F.bt g;have q1:=Kp.at f1;have q2:=Kp.at f2;have q4:=Kp.at f4;have q70:=Kp.at f70;have q71:=Kp.at f71;unfold jJ;by_cases aS:j<xs.length
 .have wj:=wrap_i64 ((j:Int)+1) (by omega) (by omega);have hx:xs[j]? =some xs[j]:=aX aS;have hm:=zk aS;generalize xs[j]=x at hx hm;obtain⟨C0,hv⟩:=cN x hm;obtain⟨b1,EF,c1,UW,_,_,⟨A,rfl,sA⟩,o1,qL⟩:=SliceR.later jG hL hx;have r1:=qL h' F'.g 0 8 (by decide);have ob1:=F'.g.bA o1;simp[aC,-ag] at r1;simp at q70;rw[UW,tB] at q70;simp[q70,q71,q72,aS,r1,-ag,av,aI,bg,ob1];refine aE.cut (fun h1=>ab aG h' h1/\ ∃s,h1.tr.get h'.next=some (.aA [.int .i64 j] false 0 s)) ?_ ?_
  .refine⟨?_,⟨h'.clock,by simp⟩⟩
   repeat (first|exact .refl F'.g.ok|apply ab.new|refine ab.put ?_ (by simp) (by simp))
  rintro h5 ⟨g5,s6,hJ5⟩;have Fv:=g.trans g5;refine aE.call (V:=fun v h'=>v= .func (.func kA) #[] #[.pointer (some ⟨h5.next,0,none⟩)]/\h'=aL h5 (mi x A) 0) (by simpa [mi,aC] using S8 h5 x A) ?_;rintro _ h6 ⟨rfl,e6⟩;have g6:ab aG h5 h6:=by rw[e6];exact aO Fv.ok _ _
  have yp: ∃s,h6.tr.get h5.next=some (.aA (mi x A) false 0 s):=⟨0,by rw[e6];exact cx _ _ _⟩;clear e6;have YH:=Fv.trans g6;have hJ6:=g6.get Fv.ok hJ5 (fun h=>h);have hI6:=YH.get Hs hI (fun h=>h);simp;refine S7 jG (F.bt YH) yp sA C0 hv hI6 hJ6 hi (by simp[q1]) (by simp[q2]) (by simp[q4]) (by simp) (by simp) ?_ ?_
  .intro h7 hr;simp;exact ret _ _ hr
  .intro h7 g7;simp[q72,wj];refine⟨xs.length-(j+1),by omega,j+1,rfl,by omega,?_,by simp,YH.trans g7⟩
   repeat (refine aw.set ?_)
   exact Kp
 .have:j=xs.length:=by omega
  subst this;simp[q71,q72];exact K _ _ g (Kp.set)
structure MP (n:Nat) (ah:List (List Int)) (bs:List GB):Prop where
 ph: ∀(i:Nat) b,bs[i]? =some b->b.eS.length<1000000/\ ∀ps,ah[i]? =some ps-> ∀q∈b.eS,q.row.length=ps.length/\ ∀v∈q.row,gK n v
 li: ∀b∈bs,b.list.length<1000000/\ ∀x∈b.list,x.args.length<2000000/\ ∀v∈kI x,gK n v
 on: ∀b∈bs,gK n b.on
def ak9 (h:ae) (C W n wc d nb Pb R:Nat) (B AH:SV) (k:Nat) (m:Nat) (e':Env) (h':ae):Prop:=
 ∃j:Nat,m=k-j/\j<=k/\Env.get e' 1= .pointer (some ⟨Pb,0,none⟩)/\Env.get e' 2= .pointer (some ⟨R,0,none⟩)/\Env.get e' 3=AH.v/\Env.get e' 23=B.v/\Env.get e' 24= .int .i64 k/\Env.get e' 25= .int .i64 j/\ab aG h h'
def TK (h:ae) (v:Value) (h':ae):Prop:=ab aG h h'/\ ∃t:Bool,v= .bool t
theorem SY (jG:bu h0) (hB:AU h0 B bs) (E:jo bs) (iz:bs.length=nb) (O:MP n (Edge.bw (bj bs)) bs) {s1 s2 s3:Nat} {ws:List (Int×Int)} {us:List Int}
  (hC:h0.tr.get C=some (.aA (Qn name p r B ⟨some ⟨d,0,none⟩,nb,nb⟩ ⟨some ⟨W,0,none⟩,n,wc⟩) false 0 s1)) (hW:h0.tr.get W=some (.aA (jt.flat ws) false 0 s2)) (hl:ws.length=n) (hd:h0.tr.get d=some (.aA (bp.flat us) false 0 s3)) (hU:Tree.QB us nb) (hn:n<1000000):
  aF FF qS [.pointer (some ⟨C,0,none⟩)] h0 (TK h0):=by
 have ew:=SliceR.len hB;have hH:=E.len;have RW:=Px E;rw[iz] at RW;have oC:=jG.bA hC;have F0:=hC;simp[Qn] at F0;refine aF.of yS ?_;unfold qD;simp[F0,oC];refine aE.cut (fun h1=>UF h0 h1 C W n wc d nb h0.next (h0.next+1) name p r B) ?_ ?_
 .have g:ab aG h0 (aL (aL h0 [.pointer (some ⟨C,0,none⟩)] 0) [.bool false] 0):=((ab.refl jG).new _ _).new _ _;exact⟨g,⟨s1,g.get jG hC (fun h=>h)⟩,⟨ws,s2,g.get jG hW (fun h=>h),hl⟩,⟨us,s3,g.get jG hd (fun h=>h),hU⟩,⟨0,by simp⟩,⟨0,by simp⟩,by omega,by omega,hn⟩
 intro h1 F1;refine aE.call (V:=fun v h'=>ab aG h1 h'/\ ∃d ws,v= .slice (some ⟨d,0,none⟩) bs.length bs.length/\jm bp h1.next h' d ws (Edge.bw (bj bs))) (by simpa [au,ew] using jA F1.g.ok (name:=name) (p:=p) (r:=r) (hB.mono jG F1.g) E) ?_;rintro _ h2 ⟨g2,d8,wss,rfl,w8⟩;have F2:=F1.bt g2;obtain⟨sP,IM⟩:=F2.hP;obtain⟨sC,vF⟩:=F2.hC;simp[Qn] at vF;have Bh:=Pv (c:=bs.length) w8;have amL:(Edge.bw (bj bs)).length=bs.length:=by rw[Edge.dz];simp[bj]
 rw[amL] at Bh;simp[IM,vF];refine aB.loop (ak9 h2 C W n wc d nb h0.next (h0.next+1) B ⟨some ⟨d8,0,none⟩,bs.length,bs.length⟩ bs.length) ?_ (n:=bs.length) ⟨0,rfl,by omega,by simp,by simp,by simp,by simp,by simp[ew],by simp,.refl F2.g.ok⟩;rintro m e' h' ⟨j,rfl,hj,q1,q2,q3,Qf,Gl,Sc,g⟩;have F':=F2.bt g;have ret: ∀e' h',TY h0 (h0.next+1) e' h'->x6 [.cell 2 none] (TK h0) .ret e' h':=by rintro e' h' ⟨gr,⟨t,s,hr⟩,er⟩;simp[er,hr];exact⟨gr,t,rfl⟩
 unfold oJ;by_cases aS:j<bs.length
 .have wj:=wrap_i64 ((j:Int)+1) (by omega) (by omega);have hx:bs[j]? =some bs[j]:=aX aS;have hm:=zk aS;generalize bs[j]=x at hx hm;obtain⟨b1,EF,c1,ig,_,_,⟨P,L,T,rfl,sP,sL,sT⟩,o1,qL⟩:=SliceR.later jG hB hx;have r1:=qL h' F'.g 0 6 (by decide);have ob1:=F'.g.bA o1;have jl:=SliceR.len sP;have tB:=SliceR.len sL;obtain⟨ps,gM⟩: ∃ps,(Edge.bw (bj bs))[j]? =some ps:=⟨_,aX (by omega)⟩;obtain⟨anS,anT⟩:=O.ph j x hx;obtain⟨ans,ant⟩:=O.li x hm;simp[-ag] at r1;simp at Qf;rw[ig,ew] at Qf;simp[Qf,Gl,Sc,aS,r1,-ag,av,aI,bg,ob1];refine aB.cut (fun h1=>ab aG h' h1/\(∃s,h1.tr.get h'.next=some (.aA [.int .i64 j] false 0 s))/\ ∃s,h1.tr.get (h'.next+1)=some (.aA [P.v,L.v,.int .i64 x.kind,.bool x.on.1,.int .i64 x.on.2,T.v] false 0 s)) ?_ ?_
  .refine⟨?_,⟨h'.clock,by simp⟩,⟨h'.clock+1,by simp⟩⟩
   repeat (first|exact .refl F'.g.ok|apply ab.new|refine ab.put ?_ (by simp) (by simp))
  rintro h5 ⟨g5,⟨s5,hI5⟩,s6,rV⟩;have Fv:=g.trans g5;have F5:=F2.bt Fv;refine S6 jG F5 hB iz F2.g.ok Fv Bh RW gM hI5 sP anS (anT ps gM) (by simp[q1]) (by simp[q2]) (by simp[q3]) (by simp) (by simp) (by simp[jl]) (by simp) ?_ ?_
  .intro e6 h6 hr;simpa using ret _ _ hr
  intro e6 h6 g6 K6;have hI6:=g6.get Fv.ok hI5 (fun h=>h);have yp:=g6.get Fv.ok rV (fun h=>h);have k1:=K6.at (t:=1) (by simp;exact q1);have k2:=K6.at (t:=2) (by simp;exact q2);have k3:=K6.at (t:=3) (by simp;exact q3);have k4:Env.get e6 4= .pointer (some ⟨h'.next,0,none⟩):=K6.at (t:=4) (by simp);have k5:Env.get e6 5= .pointer (some ⟨h'.next+1,0,none⟩):=K6.at (t:=5) (by simp);have k23:=K6.at (t:=23) (by simp;exact Qf);have k24:=K6.at (t:=24) (by simp;exact Gl);have k25:=K6.at (t:=25) (by simp;exact Sc);simp at yp;simp[k5,yp];have F6:=F5.bt g6;refine S5 jG F6 (by omega) hI6 sL ans ant (by simp[k1]) (by simp[k2]) (by simp[k4]) (by simp) (by simp[tB]) (by simp) ?_ ?_
  .intro e7 h7 hr;simpa using ret _ _ hr
  intro e7 h7 g7 K7;have hI7:=g7.get F6.g.ok hI6 (fun h=>h);have Tg:=g7.get F6.g.ok yp (fun h=>h);have F7:=F6.bt g7;obtain⟨sP7,hP7⟩:=F7.hP;have m1:=K7.at (t:=1) (by simp;exact k1);have m2:=K7.at (t:=2) (by simp;exact k2);have m3:=K7.at (t:=3) (by simp;exact k3);have m4:Env.get e7 4= .pointer (some ⟨h'.next,0,none⟩):=K7.at (t:=4) (by simp;exact k4);have m5:Env.get e7 5= .pointer (some ⟨h'.next+1,0,none⟩):=K7.at (t:=5) (by simp;exact k5);have m23:=K7.at (t:=23) (by simp;exact k23);have m24:=K7.at (t:=24) (by simp;exact k24);have m25:=K7.at (t:=25) (by simp;exact k25);simp[m1,m4,m5,hI7,Tg,hP7];refine aE.call (V:=vO h7) (by simpa using Er F7 (O.on x hm) (i:=j) (by omega) L.l) ?_;rintro _ h8 ⟨g8,t,rfl⟩;have F8:=F7.bt g8;cases t with
  |true=>
   simp[m25,wj];exact⟨bs.length-(j+1),by omega,j+1,rfl,by omega,by simp[m1],by simp[m2],by simp[m3],by simp[m23,ig,ew],by simp[m24],by simp,(((g.trans g5).trans g6).trans g7).trans g8⟩
  |false=>
   obtain⟨sR,hR8⟩:=F8.hR;simp[m2,hR8];exact⟨F8.g.put ⟨_,hR8⟩ (.inl F8.nR),false,rfl⟩
 .have:j=bs.length:=by omega
  subst this;obtain⟨sR,hR8⟩:=F'.hR;simp[Gl,Sc,q2,hR8];exact⟨F'.g.put ⟨_,hR8⟩ (.inl F'.nR),true,rfl⟩
end
def r6 (bs:List GB):Prop:=bs.length<=(pW bs).length
def ae7 (bs:List GB) (h:ae) (v:Value) (h':ae):Prop:=ab aG h h'/\ ∃c:Int,v= .int .i64 c/\(c=0->r6 bs)
theorem Ib (ok:bu h) {name:ByteArray} (hB:AU h B bs) (E:jo bs) (h0:0<bs.length) (D:MN n bs) (O:MP n (Edge.bw (bj bs)) bs) (hp:pn<=n) (hn:n<1000000):
  aF FF yA [.agg ⟨au name pn n B⟩] h (ae7 bs h):=by
 have ew:=SliceR.len hB;have hH:=E.len;refine aF.of FP ?_;unfold yk;simp[au];have g0:ab aG h (tick (aL h (au name pn n B) 0)):=(aO ok _ _).tick;refine aQ.cut (fun h1=>ab aG h h1/\h1.tr.get h.next=some (.aA (au name pn n B) false 0 0)/\h1.tr.get (h.next+1)=some (.aA [.int .i64 (-1),.int .i64 (-1)] false 0 0)) ?_ ?_
 .simp[au] at g0;exact⟨g0.new _ _,by simp[au],by simp⟩
 rintro h1 ⟨g1,wK,hW1⟩;refine aQ.call (V:=aaq h1 bs.length) (by simpa [au] using SO g1.ok (name:=name) (p:=pn) (r:=n) (hB.mono ok g1) E h0) ?_;rintro _ h2 ⟨g2,up,us,s2,rfl,N6,CL,hUp⟩;have kx:=g2.get g1.ok wK (fun h=>h);simp[au] at kx;have XM:=g2.get g1.ok hW1 (fun h=>h);simp[kx,XM];have iI:=g1.trans g2;refine aQ.call (V:=fun v h'=>ab aG h2 h'/\ ∃d s,v= .slice (some ⟨d,0,none⟩) n n/\h2.next<=d/\h'.tr.get d=some (.aA (jt.flat (List.replicate n (-1,-1))) false 0 s)) (by simpa using WT iI.ok n hn (x:=(-1,-1)) XM) ?_;rintro _ h3 ⟨g3,W,s3,rfl,NK,hW3⟩;have dh:=iI.trans g3;have vH:=g3.get iI.ok kx (fun h=>h);have D4:=g3.get iI.ok CL (fun h=>h);have oF3:=dh.ok.bA vH;simp[vH,oF3];refine aQ.cut (fun h4=>ab aG h3 h4/\ ∃s,h4.tr.get h3.next=some (.aA (Qn name pn n B ⟨some ⟨up,0,none⟩,bs.length,bs.length⟩ ⟨some ⟨W,0,none⟩,n,n⟩) false 0 s)) ?_ ?_
 .exact⟨((ab.refl dh.ok).new _ _).tick,0,by simp[Qn]⟩
 rintro h4 ⟨g4,s4,US⟩;have mK:=dh.trans g4;have F9:=g4.get dh.ok vH (fun h=>h);have hW4:=g4.get dh.ok hW3 (fun h=>h);have PI:=g4.get dh.ok D4 (fun h=>h);refine aQ.call (V:=fun v h'=>ab aG h4 h'/\ ∃L:SV,v=L.v/\cI bp h4.next h' L.v (pW bs)) (by simpa [au] using Hz mK.ok (name:=name) (p:=pn) (r:=n) (hB.mono ok mK) E h0) ?_;rintro _ h5 ⟨g5,L,rfl,hA⟩;have u7:=mK.trans g5;have NG:=g5.get mK.ok F9 (fun h=>h);have hW5:=g5.get mK.ok hW4 (fun h=>h);have hU5:=g5.get mK.ok PI (fun h=>h);have hC5:=g5.get mK.ok US (fun h=>h);have tB:L.l=(pW bs).length:=by
  rcases hA with⟨e,e2⟩|⟨_,_,e2,_⟩
  .simp at e2;rw[e,e2.2.1];rfl
  .simp at e2;exact e2.2.1
 have lW:W<h3.next:=(dh.ok.bA hW3).lt;by_cases ef:(pW bs).length<bs.length
 .simp[NG,ew,tB,ef];exact⟨u7,5,rfl,fun h=>by cases h⟩
 .simp[NG,ew,tB,ef];have w:SC h h5 h3.next W n n name pn n B ⟨some ⟨up,0,none⟩,bs.length,bs.length⟩:=⟨u7,by have:=iI.next;omega,by omega,⟨s4,hC5⟩,_,s3,hW5,by simp⟩;refine aE.call (V:=afz h h5 h3.next W n n name pn n B ⟨some ⟨up,0,none⟩,bs.length,bs.length⟩) (by simpa using Mo ok hB D w rfl hp hn) ?_;rintro _ h6 ⟨⟨t,rfl⟩,w6,gw6⟩;cases t with
  |false=>
   simp;exact⟨w6.g,7,rfl,fun h=>by cases h⟩
  |true=>
   simp;obtain⟨s6,hC6⟩:=w6.hC;obtain⟨ws,s7,hW6,JT⟩:=w6.hW;have lU:=(iI.ok.bA CL).lt;have PJ:=gw6.get u7.ok hU5 (by omega);refine aE.call (V:=TK h6) (by simpa using SY w6.g.ok (hB.mono ok w6.g) E rfl O hC6 hW6 JT PJ hUp hn) ?_;rintro _ h7 ⟨g7,t,rfl⟩;cases t with
   |false=>
    simp;exact⟨w6.g.trans g7,6,rfl,fun h=>by cases h⟩
   |true=>
    simp;exact⟨w6.g.trans g7,0,rfl,fun _=>by unfold r6;omega⟩
theorem ni {b:GB} (h:b∈bs):b.eS.length+b.list.length<=fL bs:=by
 induction bs with
 |nil=>simp at h
 |cons x bs ih=>
  simp only[fL];rcases List.mem_cons.1 h with rfl|h
  .omega
  .have:=ih h;omega
theorem PX {ai:Int} (h:zv ai x):x.dst= -1\/vP ai x.dst:=by
 have hf:=h.form;unfold bq at hf;cases hs:(cH x.op).1 with
 |false=>
  rw[hs] at hf;simp at hf;exact .inl hf.1
 |true=>
  by_cases h20:x.op=20/\x.dst= -1
  .exact .inl h20.2
  .exact .inr (h.dst hs h20)
theorem xq {ai:Int} (h:zv ai x):nV ai x.args/\x.args.length<=6:=by
 by_cases h20:x.op=20
 .exact h.args h20
 .have hf:=h.form;unfold bq at hf;have al1:(x.op==20)=false:=by simpa using h20
  rw[al1] at hf;simp at hf;have:x.args=[]:=KF (by have:=hf.2.2.2.2;simp[this]);rw[this];exact⟨nV.nil _,by simp⟩
theorem Li {ai:Int} (h:zv ai x):nV ai x.args:=(xq h).1
theorem A9 {ai:Int} {v:Bool×Int} (h:r8 ai v):gK ai.toNat v:=by intro h1;have:=h h1;omega
theorem VN {ai:Int} (h:zv ai x): ∀v∈kI x,r8 ai v:=by
 intro v hv;unfold kI at hv;rcases tO.1 hv with hv|hv
 .split at hv
  .simp at hv;subst hv;exact h.a
  .cases hv
 .rcases tO.1 hv with hv|hv
  .split at hv
   .simp at hv;subst hv;exact h.b
   .cases hv
  .exact Li h v hv
structure mU (f:GF):Prop where
 head:yI f
 body:AZ f.ai f.blocks
 sm: ∀b∈f.blocks,uO b
theorem mU.ends {f:GF} (F:mU f):jo f.blocks:=F.body.ends.ends (by have:=F.head.blocks;omega)
theorem mU.alM (F:mU f):MN f.ai.toNat f.blocks:=by
 have hb:=F.head.blocks;have hm:=F.head.many;refine⟨by omega,fun b hb=>⟨by have:=ni hb;omega,fun q hq=> ?_⟩,fun b hb=>⟨by have:=ni hb;omega,fun x hx=> ?_⟩⟩
 .obtain⟨i,hi⟩:=rT hb;obtain⟨_,l,_,hp⟩:=(F.body.J8 i b hi).eS q hq;have:=hp.dst;unfold vP at this;omega
 .obtain⟨i,hi⟩:=rT hb;have hr:=F.head.ai;have hp:=F.head.params;rcases PX ((F.body.J8 i b hi).list x hx) with h|h
  .omega
  .unfold vP at h;omega
theorem mU.Xw (F:mU f):MP f.ai.toNat (Edge.bw (bj f.blocks)) f.blocks:=by
 have hm:=F.head.many;refine⟨fun i b hb=>⟨by have:=ni (dk hb);omega,fun ps gM q hq=> ?_⟩,fun b hb=>⟨by have:=ni hb;omega,fun x hx=> ?_⟩,fun b hb=> ?_⟩
 .obtain⟨_,l,hl,hp⟩:=(F.body.J8 i b hb).eS q hq;rw[hl] at gM;cases gM;exact⟨hp.len,fun v hv=>A9 (hp.row v hv)⟩
 .obtain⟨i,hi⟩:=rT hb;have:=(xq ((F.body.J8 i b hi).list x hx)).2;exact⟨by omega,fun v hv=>A9 (VN ((F.body.J8 i b hi).list x hx) v hv)⟩
 .intro h1;have:=(F.body.ends b hb).on h1;omega
structure Ds (u:GU):Prop where
 unit:Du u
 form: ∀f∈u.funcs,mU f
 seen: ∀f∈u.funcs,r6 f.blocks
theorem Ds.of (U:Du u) (sm:A8 u) (S: ∀f∈u.funcs,r6 f.blocks):Ds u:=⟨U,fun f hf=>⟨U.head f hf,U.body f hf,sm.bs f hf⟩,S⟩
def akW (h0 h:ae) (R:Nat) (F:SV) (fs:List GF) (m:Nat) (e:Env) (h':ae):Prop:=
 ∃j:Nat,m=fs.length-j/\j<=fs.length/\Env.get e 2= .pointer (some ⟨R,0,none⟩)/\Env.get e 14=F.v/\Env.get e 15= .int .i64 fs.length/\Env.get e 16= .int .i64 j/\ab aG h h'/\ ∀f∈fs.take j,r6 f.blocks
theorem L6 (ok:bu h) (hw:CA h) {G F:SV} (hu:uR h G F u) (sm:A8 u):
  aF FF Ci [.agg ⟨[G.v,F.v]⟩] h (Dm (Ds u) h):=by
 have pJ:=SliceR.len hu.2;refine aF.of Ke ?_;unfold BL;simp;refine aE.cut (fun h1=>ab aG h h1/\h1.tr.get h.next=some (.aA [G.v,F.v] false 0 0)/\h1.tr.get (h.next+1)=some (.aA [.int .i64 0,.int .i64 0] false 0 0)) ?_ ?_
 .exact⟨((ab.refl ok).new _ _).new _ _,by simp,by simp⟩
 rintro h1 ⟨g1,XL,sG⟩;refine aE.call (V:=Dm (Du u) h1) (by simpa using Nc g1.ok (hw.grow ok g1) (hu.mono ok g1) sm) ?_;rintro _ h2 ⟨g2,c,a,rfl,hc⟩;have iI:=g1.trans g2;have CL:=g2.get g1.ok XL (fun h=>h);have xW:=g2.get g1.ok sG (fun h=>h);simp at CL;have oR2:=g2.ok.bA xW;have oU2:=g2.ok.bA CL;rcases hc with hc|⟨rfl,rfl,hU⟩
 .have PL:(c==0)=false:=by simpa using hc
  simp[PL,xW,oR2,av,-ag];refine⟨ab.put (iI.var _ _) ⟨0,?_⟩ (.inl (by omega)),c,a,rfl,.inl hc⟩;rw[eV,aT (by have:=oR2.lt;omega),D0 oR2,xW]
 simp[CL,oU2];refine aB.cut (fun h3=>ab aG h2 h3) ?_ ?_
 .exact(ab.refl g2.ok).var _ _
 intro h3 g3;have dh:=iI.trans g3;have S:=hU;refine aB.loop (akW h h3 (h.next+1) F u.funcs) ?_ (n:=u.funcs.length) ⟨0,rfl,by omega,by simp,by simp,by simp[pJ],by simp,.refl dh.ok,fun f hf=>by simp at hf⟩;rintro m e h' ⟨j,rfl,hj,q2,HA,Az,Gk,g,hA⟩;have gg:=dh.trans g;have hR:=(g3.trans g).get g2.ok xW (fun h=>h);unfold yE;by_cases aS:j<u.funcs.length
 .have wj:=wrap_i64 ((j:Int)+1) (by omega) (by have:=hU.fn;omega);have hx:u.funcs[j]? =some u.funcs[j]:=aX aS;have hm:=zk aS;generalize u.funcs[j]=f at hx hm;have FO:mU f:=⟨hU.head f hm,hU.body f hm,sm.bs f hm⟩;have hd:=FO.head;obtain⟨b1,EF,c1,zl,_,_,⟨B,rfl,sB⟩,o1,qL⟩:=SliceR.later ok hu.2 hx;have r1:=qL h' gg 0 4 (by decide);simp[-ag] at r1;simp at HA;rw[zl,pJ] at HA;have hp:=hd.params;have hr:=hd.ai;obtain⟨pn,NY⟩: ∃pn:Nat,f.params=pn:=⟨f.params.toNat,by omega⟩;obtain⟨rn,Vu⟩: ∃rn:Nat,f.ai=rn:=⟨f.ai.toNat,by omega⟩;have D:=FO.alM;have O:=FO.Xw;have ern:f.ai.toNat=rn:=by omega
  rw[ern] at D O;simp[HA,Az,Gk,aS,r1,-ag,av];refine aE.cut (fun h1=>ab aG h' h1) ((ab.refl gg.ok).var _ _) ?_;intro h5 g5;have Fv:=gg.trans g5;rw[NY,Vu];refine aE.call (V:=ae7 f.blocks h5) (by simpa [au] using Ib Fv.ok (name:=f.name) (sB.mono ok Fv fun _ _ r=>r.mono ok Fv) FO.ends (by have:=hd.blocks;omega) D O (by omega) (by omega)) ?_;rintro _ h6 ⟨g6,c,rfl,hc⟩;have KJ:=(g5.trans g6).get gg.ok hR (fun h=>h);have YH:=Fv.trans g6;by_cases C1:c=0
  .subst C1;simp[Gk,wj];refine⟨u.funcs.length-(j+1),by omega,j+1,rfl,by omega,by simp[q2],by simp[HA,zl,pJ],by simp[Az],by simp,(g.trans g5).trans g6,fun f' XW=> ?_⟩;rw[yn,hx] at XW;rcases tO.1 XW with h1|h1
   .exact hA f' h1
   .simp at h1;subst h1;exact hc rfl
  .have hcn:(c !=0)=true:=by simpa using C1
   simp[hcn,C1];refine aE.call (by simpa using jz h6 YH.ok c (j:Int)) ?_;rintro _ h7 ⟨rfl,g7⟩;have hR7:=g7.get YH.ok KJ (fun h=>h);simp[q2,hR7];exact⟨(YH.trans g7).put ⟨_,hR7⟩ (.inl (by omega)),c,j,rfl,.inl C1⟩
 .have:j=u.funcs.length:=by omega
  subst this;rw[xV] at hA;simp[Az,Gk,q2,hR];exact⟨gg.put ⟨_,hR⟩ (.inl (by omega)),0,0,rfl,.inr ⟨rfl,rfl,Ds.of hU sm hA⟩⟩
def e_ {α:Type} (E:Enc α) (h:ae) (A:SV) (xs:List α):Prop:=
 A.l=xs.length/\((A.a=none/\A.c=0/\xs=[])\/ ∃b o s bh,A.a=some ⟨b,0,none⟩/\A.c=xs.length+bh.length/\h.tr.get b=some (.aA (E.flat (xs++bh)) false o s)/\(o=0\/o=E.sz))
section
variable {α:Type} {E:Enc α} {h h':ae} {A:SV} {xs:List α}
theorem e_.len (w:e_ E h A xs):A.l=xs.length:=w.1
theorem e_.nil (E:Enc α) (h:ae):e_ E h fI []:=⟨rfl,.inl ⟨rfl,rfl,rfl⟩⟩
theorem bU (h:A.a=some ⟨b,0,none⟩):ax A.v b:=⟨0,A.l,A.c,by simp[h]⟩
theorem pa {b b':Nat} (h:A.a=some ⟨b,0,none⟩) (k:ax A.v b'):b'=b:=by obtain⟨off,n,cap,e⟩:=k;simp[h] at e;exact e.1.1.symm
theorem fW (h:A.a=none) (k:ax A.v b):False:=by obtain⟨off,n,cap,e⟩:=k;simp[h] at e
theorem e_.grow {S:Nat->Prop} (w:e_ E h A xs) (ok:bu h) (g:ab S h h') (hS: ∀b,ax A.v b-> ¬S b):e_ E h' A xs:=by
 obtain⟨hl,w⟩:=w;refine⟨hl,?_⟩;rcases w with w|⟨b,o,s,bh,ha,hc,hb,ho⟩
 .exact .inl w
 .exact .inr ⟨b,o,s,bh,ha,hc,g.get ok hb (hS b (bU ha)),ho⟩
theorem e_.bt (w:e_ E h A xs) (ok:bu h) (g:ab aG h h'):e_ E h' A xs:=w.grow ok g (fun _ _ h=>h)
theorem e_.sl (w:e_ E h A xs):bk E h A.v xs:=by
 obtain⟨hl,w⟩:=w;refine⟨A.a,A.c,by simp[hl],?_⟩;rcases w with⟨ha,_,rfl⟩|⟨b,o,s,bh,ha,hc,hb,ho⟩
 .exact .inl ⟨rfl,.inl ha⟩
 .refine .inr ⟨b,0,_,_,_,_,ha,hb,?_,?_⟩
  .simp[rU]
  .rw[List.drop_zero,E.gZ];simp
theorem e_.bA (w:e_ E h A xs) (ok:bu h) (k:ax A.v b):b<h.next:=by
 obtain⟨hl,w⟩:=w;rcases w with⟨ha,_⟩|⟨b',o,s,bh,ha,hc,hb,ho⟩
 .exact(fW ha k).elim
 .rw[pa ha k];exact ok.wf _ _ hb
theorem Ma (E:Enc α) (ys:List α) (i:Nat) (x y:α) (hx:ys[i]? =some x) (k:Nat) (vs:List Value) (hk:k+vs.length<=E.sz) (e:aJ (E.enc x) k vs=E.enc y):aJ (E.flat ys) (i*E.sz+k) vs=E.flat (ys.set i y):=by
 have hi:=(bY.mp hx).1;rw[List.set_eq_take_append_cons_drop,aU hi,E.dO,E.eM,<-e];unfold aJ;have h1:(E.flat ys).take (i*E.sz+k)=E.flat (ys.take i)++(E.enc x).take k:=by rw[List.take_add,E.gZ];congr 1;rw[<-E.lZ ys i x hx,List.take_take,Nat.min_eq_left (by omega)]
 have h2:(E.flat ys).drop (i*E.sz+k+vs.length)=(E.enc x).drop (k+vs.length)++E.flat (ys.drop (i+1)):=by rw[BU,<-List.drop_drop,E.lv,List.drop_eq_getElem_cons hi,E.eM,List.drop_append,(bY.mp hx).2,E.len,show k+vs.length-E.sz=0 by omega,List.drop_zero]
 rw[h1,h2];simp[xU]
theorem e_.el (w:e_ E h A xs) {x:α} (hx:xs[i]? =some x): ∃b cs o s,A.a=some ⟨b,0,none⟩/\h.tr.get b=some (.aA cs false o s)/\i<A.l/\(∀k m,k+m<=E.sz->i*E.sz+k+m<=cs.length)/\
  (∀k m,k+m<=E.sz->bc h b (i*E.sz+k) m=some (((E.enc x).drop k).take m))/\
  ∀y k vs,k+vs.length<=E.sz->aJ (E.enc x) k vs=E.enc y-> ∀h1:ae,(∃s,h1.tr.get b=some (.aA (aJ cs (i*E.sz+k) vs) false o s))->e_ E h1 A (xs.set i y):=by
 obtain⟨hl,w⟩:=w;have hi:=(bY.mp hx).1;rcases w with⟨ha,_,rfl⟩|⟨b,o,s,bh,ha,hc,hb,ho⟩
 .simp at hi
 .have pL:(xs++bh)[i]? =some x:=by rw[KH hi];exact hx
  have cn: ∀k m,k+m<=E.sz->i*E.sz+k+m<=(E.flat (xs++bh)).length:=by intro k m hkm;rw[E.bC,IG];have:(i+1)*E.sz<=(xs.length+bh.length)*E.sz:=CI _ (by omega);rw[rU] at this;omega
  refine⟨b,_,o,s,ha,hb,by omega,cn,fun k m hkm=> ?_,fun y k vs hk e h1 ⟨s1,KO⟩=>⟨by simpa using hl,.inr ⟨b,o,s1,bh,ha,by simpa using hc,?_,ho⟩⟩⟩
  .rw[cy hb (cn k m hkm),E.nq _ _ _ _ _ pL hkm]
  .rw[KO,Ma E _ _ _ _ pL k vs hk e,List.set_append,aU hi]
theorem Fj (E:Enc α) (xs ys bh:List α) (h:ys.length<=bh.length):aJ (E.flat (xs++bh)) (xs.length*E.sz) (E.flat ys)=E.flat ((xs++ys)++bh.drop ys.length):=by unfold aJ;rw[E.gZ,E.bC,<-rU,E.lv];have:List.drop (xs.length+ys.length) xs=[]:=XC (by omega);simp[List.drop_append,this]
theorem Dy {ys:List α} (ok:bu h) (hz:z.length=E.sz) (w:e_ E h A xs) (hw:bk E h v ys) (hl:xs.length+ys.length<2000000) (CM:bytes<=1000):
  ∃(A':SV) (h':ae),p8 h z bytes false A.v v=some (A'.v,h')/\e_ E h' A' (xs++ys)/\ab (ax A.v) h h'/\(∀b,ax A'.v b->ax A.v b\/b=h.next)/\(A.c=A.l->A'.c=A'.l):=by
 have hp:=E.pos;have hp':E.sz≠0:=by omega
 have cn:=w.1;unfold p8;rw[Jc hz hw];dsimp only;cases ys with
 |nil=>
  refine⟨A,h,?_,by simpa using w,.refl ok,fun b hb=> .inl hb,fun h=>h⟩;have:A.l<=A.c:=by
   rcases w.2 with⟨_,h2,rfl⟩|⟨_,_,_,bh,_,h2,_⟩
   .rw[cn];simp
   .omega
  simp[ie,hz,hp,this]
 |cons y ys=>
  have r1:roomy (xs.length+(ys.length+1))=true:=by simp[roomy];simp at hl;omega
  have r2:roomy ((xs.length+(ys.length+1))*bytes)=true:=by have:(xs.length+(ys.length+1))*bytes<=2000000*1000:=Nat.mul_le_mul (by simp at hl;omega) CM;simp[roomy];omega
  have Ld:(E.flat (y::ys)).length=(ys.length+1)*E.sz:=by rw[E.bC,List.length_cons]
  obtain⟨cs,D8⟩: ∃cs,cs=E.flat (y::ys):=⟨_,rfl⟩;rw[<-D8] at Ld ⊢;rcases w.2 with⟨ha,hc,rfl⟩|⟨b,o,s,bh,ha,hc,hb,ho⟩
  .refine⟨⟨some ⟨h.next,0,none⟩,ys.length+1,ys.length+1⟩,aL h cs E.sz,?_,⟨by simp,.inr ⟨h.next,E.sz,0,[],rfl,by simp,?_,.inr rfl⟩⟩,(aO ok _ _).bt,fun b hb=> .inr (pa rfl hb),fun _=>rfl⟩
   .simp only[List.length_nil,Bg] at r1 r2 cn;simp[ie,hz,hp,r1,r2,ha,hc,cn]
   .rw[cx,D8];simp
  .have ef:(E.flat (xs++bh)).take (xs.length*E.sz)=E.flat xs:=by rw[E.gZ];simp
   by_cases lC:xs.length+(ys.length+1)<=A.c
   .have eH:xs.length*E.sz+(ys.length+1)*E.sz<=(xs.length+bh.length)*E.sz:=by rw[<-rU];exact CI _ (by omega)
    refine⟨⟨A.a,xs.length+(ys.length+1),A.c⟩,put h b (xs.length*E.sz) (E.flat (xs++bh)) cs o,?_,⟨by simp,.inr ⟨b,o,h.clock,bh.drop (ys.length+1),ha,by simp;omega,?_,ho⟩⟩,?_,?_,fun h=>by omega⟩
    .simp[ie,hz,hp,r1,r2,ha,cn,lC,hb,Ld];have z7:(ys.length+1)*E.sz<=bh.length*E.sz:=CI _ (by omega);rw[aU z7]
    .rw[aD,D8,Fj E xs (y::ys) bh (by simp;omega)];rfl
    .exact(aM ok hb).bJ (fun x _ e=>e▸bU ha)
    .intro b' iy;have:=pa (A:=⟨A.a,xs.length+(ys.length+1),A.c⟩) ha iy;exact .inl (this▸bU ha)
   .have aaU:((E.flat (xs++bh)).drop 0).take (xs.length*E.sz)=E.flat xs:=by rw[List.drop_zero,ef]
    have PN:E.flat xs++cs=E.flat (xs++y::ys++[]):=by rw[D8,List.append_nil,E.dO]
    rcases ho with rfl|rfl
    .refine⟨⟨some ⟨h.next,0,none⟩,xs.length+(ys.length+1),xs.length+(ys.length+1)⟩,aL h (E.flat xs++cs) E.sz,?_,⟨by simp,.inr ⟨h.next,E.sz,0,[],rfl,by simp,?_,.inr rfl⟩⟩,(aO ok _ _).bt,fun b hb=> .inr (pa rfl hb),fun _=>rfl⟩
     .simp[ie,hz,hp,r1,r2,ha,cn,lC,hb,ef]
     .rw[cx,PN]
    .refine⟨⟨some ⟨h.next,0,none⟩,xs.length+(ys.length+1),xs.length+(ys.length+1)⟩,aL { h with tr:=h.tr.del b } (E.flat xs++cs) E.sz,?_,⟨by simp,.inr ⟨h.next,E.sz,0,[],rfl,by simp,?_,.inr rfl⟩⟩,?_,fun b hb=> .inr (pa rfl hb),fun _=>rfl⟩
     .have vI:A.c*E.sz=(xs.length+bh.length)*E.sz:=by rw[hc]
      simp[ie,hz,hp,r1,r2,ha,cn,lC,hb,ef,hp'];intro cJ;have:Nat.beq (A.c*E.sz) (xs.length*E.sz+bh.length*E.sz)=true:=by rw[vI,rU];exact Nat.beq_refl _
      rw[this] at cJ;cases cJ
     .have:=cx { h with tr:=h.tr.del b } (E.flat xs++cs) E.sz;rw[<-PN];exact this
     .refine((ou ok b).bJ ?_).trans (aO (ou ok b).ok _ _).bt;rintro x _ rfl;exact bU ha
end
def GC (z:List Value) (bytes:Nat):ak:=(G_ [o_ 2 (.mv (.const (.slice none 0 0)))] (J_ (G_ [m_ 3 0,o_ 4 (.bin .eql [3] (t_ 3) (.const (.slice none 0 0)))] (I_ 4 (G_ [o_ 2 (.mv (.const (.slice none 0 0)))] .ret) .skip)) (G_ [o_ 5 (.cX 0 [] []),m_ 6 0,o_ 7 (.append z bytes false (t_ 5) (t_ 6)),m_ 2 7] .ret)))
def tp {α:Type} (E:Enc α) (h:ae) (xs:List α) (r:Value) (h':ae):Prop:=ab aG h h'/\ ∃w:SV,r=w.v/\e_ E h' w xs/\(∀b,ax w.v b->h.next<=b)/\w.c=w.l
theorem jQ {α:Type} (E:Enc α) {f bytes:Nat} (hf:FF f=some ⟨[.tmp 2],GC z bytes,.no⟩) (hz:z.length=E.sz) (CM:bytes<=1000) (ok:bu h) {v:SV} {xs:List α} (hs:bk E h v.v xs) (cn:xs.length<2000000):
  aF FF f [v.v] h (tp E h xs):=by
 have hp:=E.pos;have Ed:v.l=xs.length:=by obtain⟨a,cap,e,_⟩:=hs;simp at e;exact e.2.1
 refine aF.of hf ?_;unfold GC;cases ha:v.a with
 |none=>
  have hx:xs=[]:=by
   obtain⟨a,cap,e,h2⟩:=hs;simp[ha] at e;rcases h2 with h2|⟨b,off,cs,ro,o,st,e2,_⟩
   .exact h2.1
   .rw[e2] at e;simp at e
  subst hx;simp[ha];exact⟨.refl ok,fI,rfl,e_.nil E h,fun b hb=>(fW rfl hb).elim,rfl⟩
 |some a0=>
  have g0:=aO ok [] 0;have w0:e_ E (aL h [] 0) ⟨some ⟨h.next,0,none⟩,0,0⟩ ([]:List α):=⟨rfl,.inr ⟨h.next,0,0,[],rfl,rfl,cx _ _ _,.inl rfl⟩⟩;obtain⟨A',h',ha',wA,gA,hbA,hcA⟩:=Dy (bytes:=bytes) g0.ok hz w0 (hs.bt ok g0) (by simpa using cn) CM;have hh:=ha';simp[ha,Ed] at ha';simp[ha,Ed];refine kE ha' ?_;simp;refine⟨g0.trans' gA (fun _ _ h=>h) (fun x hx e=>by have:=pa rfl e;omega),A',by simp,by simpa using wA,fun b hb=> ?_,hcA rfl⟩;rcases hbA b hb with h|h
  .rw[pa rfl h];exact dK _
  .rw[h];simp
structure XI where
 op:Int
 dst:Int
 a:Bool×Int
 b:Bool×Int
 fn:Int
 args:SV
structure XR where
 P:SV
 L:SV
 T:SV
 kind:Int
 on:Bool×Int
 ps:List (Int×SV)
 ls:List XI
 ts:List Int
def cr:Enc (Bool×Int):=⟨fun x=>[.bool x.1,.int .i64 x.2],2,fun _=>rfl,by decide,fun _=>rfl⟩
@[simp] theorem eu:cr.sz=2:=rfl
@[simp] theorem ue (x:Bool×Int):cr.enc x=[.bool x.1,.int .i64 x.2]:=rfl
def jR:Enc (Int×SV):=⟨fun x=>[.int .i64 x.1,x.2.v],2,fun _=>rfl,by decide,fun _=>rfl⟩
@[simp] theorem aiW:jR.sz=2:=rfl
@[simp] theorem afQ (x:Int×SV):jR.enc x=[.int .i64 x.1,x.2.v]:=rfl
def mJ:Enc XI:=⟨fun x=>[.int .i64 x.op,.int .i64 x.dst,.bool x.a.1,.int .i64 x.a.2,.bool x.b.1,.int .i64 x.b.2,.int .i64 x.fn,x.args.v],8,fun _=>rfl,by decide,fun _=>rfl⟩
@[simp] theorem ai0:mJ.sz=8:=rfl
@[simp] theorem Ux (x:XI):mJ.enc x=[.int .i64 x.op,.int .i64 x.dst,.bool x.a.1,.int .i64 x.a.2,.bool x.b.1,.int .i64 x.b.2,.int .i64 x.fn,x.args.v]:=rfl
def fe:Enc XR:=⟨fun x=>[x.P.v,x.L.v,.int .i64 x.kind,.bool x.on.1,.int .i64 x.on.2,x.T.v],6,fun _=>rfl,by decide,fun _=>rfl⟩
@[simp] theorem aiX:fe.sz=6:=rfl
@[simp] theorem qJ (x:XR):fe.enc x=[x.P.v,x.L.v,.int .i64 x.kind,.bool x.on.1,.int .i64 x.on.2,x.T.v]:=rfl
def VA (κ cap:Nat->Nat) (A:SV):Prop:=A.l<=A.c/\((A.a=none/\A.c=0)\/ ∃b,A.a=some ⟨b,0,none⟩/\κ b=1/\A.c=cap b)
def Cz (h:ae) (κ cap:Nat->Nat) (ai:Nat):Prop:= ∀b,κ b=1-> ∃vs o s,h.tr.get b=some (.aA (cr.flat vs) false o s)/\(o=0\/o=2)/\vs.length=cap b/\ ∀v∈vs,gK ai v
structure Pq (h:ae) (κ cap:Nat->Nat) (ai:Nat) (r:XR):Prop where
 P:e_ jR h r.P r.ps
 L:e_ mJ h r.L r.ls
 T:e_ bp h r.T r.ts
 kP: ∀b,ax r.P.v b->κ b=3
 kL: ∀b,ax r.L.v b->κ b=4
 kT: ∀b,ax r.T.v b->κ b=5
 ps: ∀p∈r.ps,(0<=p.1/\p.1<ai)/\VA κ cap p.2
 ls: ∀x∈r.ls,x.dst<ai/\gK ai x.a/\gK ai x.b/\VA κ cap x.args
 on:gK ai r.on
structure cq (h:ae) (n0 ai:Nat) (κ cap:Nat->Nat) (rs:List XR):Prop where
 r: ∀(i:Nat) (r:XR),rs[i]? =some r->Pq h κ cap ai r
 dP: ∀(i j:Nat) (ri rj:XR) (b:Nat),rs[i]? =some ri->rs[j]? =some rj->i≠j->ax ri.P.v b-> ¬ax rj.P.v b
 dL: ∀(i j:Nat) (ri rj:XR) (b:Nat),rs[i]? =some ri->rs[j]? =some rj->i≠j->ax ri.L.v b-> ¬ax rj.L.v b
 dT: ∀(i j:Nat) (ri rj:XR) (b:Nat),rs[i]? =some ri->rs[j]? =some rj->i≠j->ax ri.T.v b-> ¬ax rj.T.v b
 V:Cz h κ cap ai
 new: ∀b,κ b≠0->n0<=b/\b<h.next
section
variable {h h':ae} {n0 ai:Nat} {κ cap:Nat->Nat}
theorem Cz.grow {S:Nat->Prop} (w:Cz h κ cap ai) (ok:bu h) (g:ab S h h') (hS: ∀b,S b->κ b≠1):Cz h' κ cap ai:=by intro b hb;obtain⟨vs,o,s,h1,h2⟩:=w b hb;exact⟨vs,o,s,g.get ok h1 (fun hs=>hS b hs hb),h2⟩
theorem Pq.grow {S:Nat->Prop} {r:XR} (w:Pq h κ cap ai r) (ok:bu h) (g:ab S h h') (hS: ∀b,S b-> ¬ax r.P.v b/\ ¬ax r.L.v b/\ ¬ax r.T.v b):Pq h' κ cap ai r:=
 ⟨w.P.grow ok g (fun b hb hs=>(hS b hs).1 hb),w.L.grow ok g (fun b hb hs=>(hS b hs).2.1 hb),w.T.grow ok g (fun b hb hs=>(hS b hs).2.2 hb),w.kP,w.kL,w.kT,w.ps,w.ls,w.on⟩
theorem Pq.aaA {S:Nat->Prop} {r:XR} (w:Pq h κ cap ai r) (ok:bu h) (g:ab S h h') (hS: ∀b,S b->κ b≠3/\κ b≠4/\κ b≠5):Pq h' κ cap ai r:=
 w.grow ok g (fun b hs=>⟨fun h=>(hS b hs).1 (w.kP b h),fun h=>(hS b hs).2.1 (w.kL b h),fun h=>(hS b hs).2.2 (w.kT b h)⟩)
theorem cq.grow {S:Nat->Prop} {rs:List XR} (w:cq h n0 ai κ cap rs) (ok:bu h) (g:ab S h h') (hS: ∀b,S b->κ b=0\/κ b=2):cq h' n0 ai κ cap rs:=
 ⟨fun i r hr=>(w.r i r hr).aaA ok g (fun b hs=>by have:=hS b hs;omega),w.dP,w.dL,w.dT,w.V.grow ok g (fun b hs=>by have:=hS b hs;omega),fun b hb=>by have:=w.new b hb;have:=g.next;omega⟩
theorem cq.bt {rs:List XR} (w:cq h n0 ai κ cap rs) (ok:bu h) (g:ab aG h h'):cq h' n0 ai κ cap rs:=w.grow ok g (fun _ h=>h.elim)
theorem VA.congr {κ' iK:Nat->Nat} (w:VA κ cap A) (e: ∀b,κ b=1->κ' b=1/\iK b=cap b):VA κ' iK A:=by
 obtain⟨hl,h|⟨b,h1,h2,h3⟩⟩:=w
 .exact⟨hl,.inl h⟩
 .exact⟨hl,.inr ⟨b,h1,(e b h2).1,by rw[(e b h2).2,h3]⟩⟩
theorem Pq.congr {κ' iK:Nat->Nat} {r:XR} (w:Pq h κ cap ai r) (e: ∀b,κ b≠0->κ' b=κ b/\iK b=cap b):Pq h κ' iK ai r:=by
 have e1: ∀b,κ b=1->κ' b=1/\iK b=cap b:=fun b hb=>by have:=e b (by omega);exact⟨by omega,this.2⟩
 exact⟨w.P,w.L,w.T,fun b hb=>by have:=w.kP b hb;rw[(e b (by omega)).1,this],fun b hb=>by have:=w.kL b hb;rw[(e b (by omega)).1,this],fun b hb=>by have:=w.kT b hb;rw[(e b (by omega)).1,this],
  fun p hp=>⟨(w.ps p hp).1,(w.ps p hp).2.congr e1⟩,fun x hx=>⟨(w.ls x hx).1,(w.ls x hx).2.1,(w.ls x hx).2.2.1,(w.ls x hx).2.2.2.congr e1⟩,w.on⟩
def Ca (M:Nat) (f g:Nat->Nat) (b:Nat):Nat:=if b<M then f b else g b
theorem cq.push {S:Nat->Prop} {rs:List XR} {κn QH:Nat->Nat} {r:XR} (w:cq h n0 ai κ cap rs) (ok:bu h) (g:ab S h h') (hS: ∀b,S b->κ b=0\/κ b=2) (hn:n0<=h.next) (R:Pq h' κn QH ai r) (V:Cz h' κn QH ai) (new: ∀b,κn b≠0->h.next<=b/\b<h'.next):
  cq h' n0 ai (Ca h.next κ κn) (Ca h.next cap QH) (rs++[r]):=by
 have w':=w.grow ok g hS;have e1: ∀b,κ b≠0->Ca h.next κ κn b=κ b/\Ca h.next cap QH b=cap b:=by intro b hb;have:=(w.new b hb).2;exact⟨aU this,aU this⟩
 have e2: ∀b,κn b≠0->Ca h.next κ κn b=κn b/\Ca h.next cap QH b=QH b:=by intro b hb;have:=(new b hb).1;exact⟨aT (by omega),aT (by omega)⟩
 have sep: ∀(f:XR->SV) (k:Nat),k≠0->(∀(i:Nat) (ri:XR),rs[i]? =some ri-> ∀b,ax (f ri).v b->κ b=k)->(∀b,ax (f r).v b->κn b=k)->(∀(i j:Nat) (ri rj:XR) (b:Nat),rs[i]? =some ri->rs[j]? =some rj->i≠j->ax (f ri).v b-> ¬ax (f rj).v b)->
   ∀(i j:Nat) (ri rj:XR) (b:Nat),(rs++[r])[i]? =some ri->(rs++[r])[j]? =some rj->i≠j->ax (f ri).v b-> ¬ax (f rj).v b:=by
  intro f k hk h1 h2 d i j ri rj b hi hj vL hbi U4;have cases: ∀(i:Nat) (x:XR),(rs++[r])[i]? =some x->rs[i]? =some x\/(i=rs.length/\x=r):=by
   intro i x hx;rcases AV i rs.length with hl|hl
   .rw[KH hl] at hx;exact .inl hx
   .rw[Mv hl] at hx;have:i-rs.length=0:=by have:=(bY.mp hx).1;simp at this;omega
    rw[this] at hx;simp at hx;exact .inr ⟨by omega,hx.symm⟩
  rcases cases i ri hi with a|⟨a1,rfl⟩
  .rcases cases j rj hj with c|⟨c1,rfl⟩
   .exact d i j ri rj b a c vL hbi U4
   .have:=w.new b (by rw[h1 i ri a b hbi];exact hk);have:=new b (by rw[h2 b U4];exact hk);omega
  .rcases cases j rj hj with c|⟨c1,rfl⟩
   .have:=w.new b (by rw[h1 j rj c b U4];exact hk);have:=new b (by rw[h2 b hbi];exact hk);omega
   .omega
 refine⟨fun i x hx=> ?_,sep (·.P) 3 (by decide) (fun i ri hi=>(w.r i ri hi).kP) R.kP w.dP,sep (·.L) 4 (by decide) (fun i ri hi=>(w.r i ri hi).kL) R.kL w.dL,sep (·.T) 5 (by decide) (fun i ri hi=>(w.r i ri hi).kT) R.kT w.dT,fun b hb=> ?_,fun b hb=> ?_⟩
 .rcases AV i rs.length with hl|hl
  .rw[KH hl] at hx;exact(w'.r i x hx).congr e1
  .rw[Mv hl] at hx;have:x=r:=by
    have h0:i-rs.length=0:=by have:=(bY.mp hx).1;simp at this;omega
    rw[h0] at hx;simp at hx;exact hx.symm
   subst this;exact R.congr e2
 .unfold Ca at hb ⊢;split at hb
  .rename_i ef;rw[aU ef];exact w'.V b hb
  .rename_i ef;rw[aT ef];exact V b hb
 .unfold Ca at hb;split at hb
  .have:=w'.new b hb;exact this
  .have:=new b hb;omega
theorem cq.nil (h:ae) (n0 ai:Nat):cq h n0 ai (fun _=>0) (fun _=>0) []:=⟨fun i r hr=>by simp at hr,fun i j ri rj b hr=>by simp at hr,fun i j ri rj b hr=>by simp at hr,fun i j ri rj b hr=>by simp at hr,fun b hb=>absurd hb (by decide),fun b hb=>absurd rfl hb⟩
end
theorem Hy {α β:Type} {E:Enc β} {Q:β->α->Prop} : ∀(xs:List α) (f:Nat->List Value),(∀(i:Nat) (x:α),xs[i]? =some x-> ∃y,f i=E.enc y/\Q y x)-> ∃ys:List β,ys.length=xs.length/\ ∀(i:Nat) (y:β) (x:α),ys[i]? =some y->xs[i]? =some x->f i=E.enc y/\Q y x
 |[],f,_=>⟨[],rfl,fun i y x h=>by simp at h⟩
 |x::xs,f,H=>by
  obtain⟨y,h1,h2⟩:=H 0 x rfl;obtain⟨ys,hl,h3⟩:=Hy xs (fun i=>f (i+1)) (fun i x hx=>H (i+1) x hx);refine⟨y::ys,by simp[hl],fun i y' x' hy hx=> ?_⟩;cases i with
  |zero=>simp at hy hx;subst hy;subst hx;exact⟨h1,h2⟩
  |succ i=>exact h3 i y' x' hy hx
theorem YE {β:Type} (E:Enc β) (cs:List Value): ∀(ys:List β),(∀(i:Nat) (y:β),ys[i]? =some y->(cs.drop (i*E.sz)).take E.sz=E.enc y)->cs.take (ys.length*E.sz)=E.flat ys:=by
 intro ys;induction ys generalizing cs with
 |nil=>intro _;simp
 |cons y ys ih=>
  intro H;have h0:=H 0 y rfl;rw[Nat.zero_mul,List.drop_zero] at h0;have h1:=ih (cs.drop E.sz) (fun i z hz=>by have:=H (i+1) z hz;rw[rU,Nat.one_mul,Nat.add_comm] at this;rw[List.drop_drop];exact this)
  rw[List.length_cons,rU,Nat.one_mul,Nat.add_comm,List.take_add,h0,h1,E.eM]
theorem SliceR.pick {α β:Type} {R:List Value->α->Prop} {E:Enc β} {Q:β->α->Prop} {xs:List α} (s:SliceR R E.sz h v xs) (hR: ∀c x,R c x-> ∃y,c=E.enc y/\Q y x):
  ∃ys:List β,ys.length=xs.length/\bk E h v ys/\ ∀(i:Nat) (y:β) (x:α),ys[i]? =some y->xs[i]? =some x->Q y x:=by
 obtain⟨a,cap,rfl,s⟩:=s;rcases s with⟨rfl,s⟩|⟨b,off,cs,ro,o,st,rfl,hb,he⟩
 .exact⟨[],rfl,⟨a,cap,rfl,.inl ⟨rfl,s⟩⟩,fun i y x h=>by simp at h⟩
 .obtain⟨ys,hl,H⟩:=Hy (E:=E) (Q:=Q) xs (fun i=>(cs.drop (off+i*E.sz)).take E.sz) (fun i x hx=>hR _ _ (he i x hx).2);refine⟨ys,hl,⟨_,cap,by rw[hl],?_⟩,fun i y x hy hx=>(H i y x hy hx).2⟩;rcases tP xs.length with h0|h0
  .exact .inl ⟨KF (by omega),.inr ⟨b,off,rfl⟩⟩
  refine .inr ⟨b,off,cs,ro,o,st,rfl,hb,?_,?_⟩
  .rw[hl];have:=(he (xs.length-1) _ (aX (by omega))).1;rw[List.length_take,List.length_drop] at this;have hp:=E.pos;have e:xs.length*E.sz=(xs.length-1)*E.sz+E.sz:=by rw[<-Nat.succ_mul];congr 1;omega
   rw[e];omega
  .refine YE E (cs.drop off) ys (fun i y hy=> ?_);have ff:=(bY.mp hy).1;have hx:xs[i]? =some xs[i]:=aX (by omega);rw[List.drop_drop];exact(H i y _ hy hx).1
theorem abh {xs:List (Bool×Int)} (s:SliceR vR 2 h v xs):bk cr h v xs:=by
 obtain⟨ys,hl,s',H⟩:=SliceR.pick (E:=cr) (Q:=fun y x=>y=x) s (fun c x e=>⟨x,e,rfl⟩);have:ys=xs:=zV fun i=>by
  rcases AV i xs.length with hi|hi
  .have h1:xs[i]? =some xs[i]:=aX hi;have h2:ys[i]? =some (ys[i]'(by omega)):=aX (by omega);rw[h2,H i _ _ h2 h1,h1]
  .rw[uI (by omega),uI (by omega)]
 exact this▸s'
end Go.Proofs.YtdhnndleffachaaGreatDoor
