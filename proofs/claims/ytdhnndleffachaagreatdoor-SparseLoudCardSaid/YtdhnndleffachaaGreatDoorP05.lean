/- Parts of the proof. -/
import Derived.Test.YtdhnndleffachaaGreatDoorP04
import Derived.Test.YtdhnndleffachaaGreatDoorP00
set_option linter.all false
namespace Go.Proofs.YtdhnndleffachaaGreatDoor
open Go.AI
variable {A:SV} {h:ae} {x:GI}
section
variable {gs fs blocks ah:SV} {name:ByteArray} {params ai:Int}
def tU (P:Int->Prop) (h:ae) (v:Value) (h':ae):Prop:=ab aG h h'/\ ∃c:Int,v= .int .i64 c/\P c
theorem YD (ok:bu h) {b s:Nat} {f1 f2 f3:Value} {P1 P2 P3:Int->Prop} (hb:h.tr.get b=some (.aA [f1,f2,f3] false 0 s))
  (H1: ∀h1,ab aG h h1->cP FF f1 [] h1 (tU P1 h1)) (H2: ∀h1,ab aG h h1->cP FF f2 [] h1 (tU P2 h1)) (H3: ∀h1,ab aG h h1->cP FF f3 [] h1 (tU P3 h1)):
  aF FF vd [.slice (some ⟨b,0,none⟩) 3 3] h (tU (fun c=>c=0->P1 0/\P2 0/\P3 0) h):=by
 refine aF.of HV ?_;unfold zA;simp;have w1:IntKind.i64.wrap (0+1)=1:=wrap_i64 _ (by omega) (by omega);have w1':IntKind.i64.wrap 1=1:=wrap_i64 _ (by omega) (by omega);have w2:IntKind.i64.wrap (1+1)=2:=wrap_i64 _ (by omega) (by omega);have w2':IntKind.i64.wrap 2=2:=wrap_i64 _ (by omega) (by omega);have w3:IntKind.i64.wrap (2+1)=3:=wrap_i64 _ (by omega) (by omega);have w3':IntKind.i64.wrap 3=3:=wrap_i64 _ (by omega) (by omega);refine aB.loop (fun n e h1=> ∃i:Nat,n=3-i/\i<=3/\Env.get e 8= .int .i64 (i:Nat)/\Env.get e 7= .int .i64 3/\Env.get e 6= .slice (some ⟨b,0,none⟩) 3 3/\(0<i->P1 0)/\(1<i->P2 0)/\(2<i->P3 0)/\ab aG h h1) ?_ (n:=3)
  ⟨0,rfl,by omega,by simp,by simp,by simp,by simp,by simp,by simp,.refl ok⟩
 rintro n e h1 ⟨i,rfl,hi,f8,f7,f6,p1,p2,p3,g⟩;have KO:=g.get ok hb (fun h=>h);unfold wY;rcases(show i=0\/i=1\/i=2\/i=3 by omega) with rfl|rfl|rfl|rfl
 .simp[f8,f7,f6,KO];refine aE.cD (V:=tU P1 h1) (by simpa using H1 h1 g) ?_;rintro _ h2 ⟨g2,c,rfl,hc⟩;by_cases he:c=0
  .subst he;simp[f8,f7,f6,w1,w1'];exact⟨2,by omega,1,rfl,by omega,rfl,fun _=>hc,by omega,by omega,g.trans g2⟩
  .have:=qV he;simp[this];exact⟨g.trans g2,c,rfl,fun h=>absurd h he⟩
 .simp[f8,f7,f6,KO];refine aE.cD (V:=tU P2 h1) (by simpa using H2 h1 g) ?_;rintro _ h2 ⟨g2,c,rfl,hc⟩;by_cases he:c=0
  .subst he;simp[f8,f7,f6,w2,w2'];exact⟨1,by omega,2,rfl,by omega,rfl,fun _=>p1 (by omega),fun _=>hc,by omega,g.trans g2⟩
  .have:=qV he;simp[this];exact⟨g.trans g2,c,rfl,fun h=>absurd h he⟩
 .simp[f8,f7,f6,KO];refine aE.cD (V:=tU P3 h1) (by simpa using H3 h1 g) ?_;rintro _ h2 ⟨g2,c,rfl,hc⟩;by_cases he:c=0
  .subst he;simp[f8,f7,f6,w3,w3'];exact⟨3,by omega,by omega,rfl,fun _=>p1 (by omega),fun _=>p2 (by omega),fun _=>hc,g.trans g2⟩
  .have:=qV he;simp[this];exact⟨g.trans g2,c,rfl,fun h=>absurd h he⟩
 .simp[f8,f7];exact⟨g,0,rfl,fun _=>⟨p1 (by omega),p2 (by omega),p3 (by omega)⟩⟩
theorem Rp (ok:bu h) (hr:0<=ai/\ai<1000000) {C X K s1 s2 s3:Nat} {cl:Bool} (hK:h.tr.get K=some (.aA [.bool cl] false 0 s3)) (hX:h.tr.get X=some (.aA (aC x.op x.dst x.a.1 x.a.2 x.b.1 x.b.2 x.fn A.v) false 0 s2))
  (hC:h.tr.get C=some (.aA (aH gs fs name params ai blocks ah) false 0 s1)) {funcs:List GF} (hF:SliceR (fR h) 4 h fs.v funcs) (iL:funcs.length<1000000/\ ∀f∈funcs,f.params<=6) (hA:SliceR vR 2 h A.v x.args) (cn:x.args.length<140737488355329):
  aF FF gf [.pointer (some ⟨K,0,none⟩),.pointer (some ⟨X,0,none⟩),.pointer (some ⟨C,0,none⟩)] h (tU (fun c=>c=0->cl=true->nV ai x.args/\x.args.length<=6) h):=by
 have vE:=SliceR.len hA;have pJ:=SliceR.len hF;obtain⟨iL,anQ⟩:=iL;have wf:=wrap_i64 ((fs.l:Int)-1) (by omega) (by omega);refine aF.of we ?_;unfold n_;simp[aC] at hX;have F0:=hC;simp[aH] at F0;cases cl with
 |false=>
  simp[hK];exact⟨.refl ok,0,rfl,trivial⟩
 |true=>
  simp[hK,hX,F0,wf];refine aE.call (by simpa using dG h x.fn 0 ((fs.l:Int)-1)) ?_;rintro _ h2 ⟨rfl,eh⟩;rw[eh];by_cases PO:0<=x.fn/\x.fn<=(fs.l:Int)-1
  .obtain⟨k,hk⟩: ∃k:Nat,x.fn=k:=⟨x.fn.toNat,by omega⟩;have qK:k<funcs.length:=by omega
   have hx:funcs[k]? =some funcs[k]:=aX qK;generalize funcs[k]=f at hx;have hp6:=anQ f (dk hx);obtain⟨bf,offf,cf,zl,_,_,⟨B,rfl,_⟩,_,hrdf⟩:=SliceR.later ok hF hx;have rf:=hrdf (tick h) (aW ok) 1 1 (by decide);simp[-ag,ay] at rf;have hd:(decide (0<=x.fn)&&decide (x.fn<=(fs.l:Int)-1))=true:=by simpa using PO
   rw[hd];rw[hk] at hX;rw[zl,pJ] at F0;by_cases va:(A.l:Int)=f.params
   .have e1:((A.l:Int) !=f.params)=false:=by simp[va]
    simp[hk,hX,F0,pJ,ay,aq hX,aq F0,qK,rf,e1,-ag];refine aB.loop (fun m e h4=> ∃j:Nat,m=x.args.length-j/\j<=x.args.length/\Env.get e 2= .pointer (some ⟨C,0,none⟩)/\Env.get e 34=A.v/\Env.get e 35= .int .i64 x.args.length/\Env.get e 36= .int .i64 j/\ab aG h h4/\nV ai (x.args.take j)) ?_ (n:=x.args.length)
     ⟨0,rfl,by omega,by simp,by simp,by simp[vE],by simp,aW ok,.nil _⟩
    rintro m e h4 ⟨j,rfl,hj,f2,f34,f35,f36,g4,hv⟩;have US:=g4.get ok F0 (fun h=>h);unfold mz;by_cases aS:j<x.args.length
    .have hx:x.args[j]? =some x.args[j]:=aX aS;generalize x.args[j]=v at hx;obtain⟨b,off,c,CK,_,_,rfl,oW,dy⟩:=SliceR.later ok hA hx;have r0:=dy h4 g4 0 2 (by decide);simp[-ag] at r0;have wj:=wrap_i64 (j+1) (by omega) (by omega);have oC4:=g4.ok.bA US;simp at f34;simp[f2,f34,f35,f36,CK,vE,aS,r0,aq US,av,bg,aI,oC4,-ag];refine aE.cut (fun h5=>ab aG h4 h5) ?_ ?_
     .exact((ab.refl g4.ok).new _ _).put ⟨0,by simp⟩ (.inl (dK _))
     rintro h5 g5;have u7:=g4.trans g5;refine aE.call (by simpa [aH,zl,pJ] using xe (gs:=gs) (fs:=fs) (name:=name) (params:=params) (blocks:=blocks) (ah:=ah) h5 u7.ok hr v.1 v.2) ?_;rintro _ h6 ⟨rfl,g6⟩;by_cases xp:CW ai v.1 v.2=0
     .simp[f2,f34,f35,f36,xp,wj];exact⟨x.args.length-(j+1),by omega,j+1,rfl,by omega,⟨CK,vE⟩,by simp,u7.trans g6,hv.take hx (xG xp)⟩
     .have:=qV xp;simp[this];exact⟨u7.trans g6,_,rfl,fun h=>absurd h xp⟩
    .have:j=x.args.length:=by omega
     subst this;rw[xV] at hv;simp[f35,f36];exact⟨g4,0,rfl,fun _=>⟨hv,by omega⟩⟩
   .have e1:((A.l:Int) !=f.params)=true:=qV va;simp[hk,hX,F0,pJ,ay,aq hX,aq F0,qK,rf,e1,-ag];exact⟨aW ok,9,rfl,fun h=>by cases h⟩
  .have hd:(decide (0<=x.fn)&&decide (x.fn<=(fs.l:Int)-1))=false:=by simpa using PO
   simp[hd];exact⟨.refl ok,3,rfl,fun h=>by cases h⟩
end
def N7:ak:=(G_ [o_ 81 (.uz 205 [t_ 2,t_ 3]),o_ 82 (.uz 206 [t_ 2,t_ 3]),o_ 83 (.uz 207 [t_ 6,t_ 3,t_ 2]),o_ 84 (.cX 3 [.nilFunc,.nilFunc,.nilFunc] [(0,(1,(t_ 81))),(1,(1,(t_ 82))),(2,(1,(t_ 83)))]),F_ 85 204 [t_ 84],m_ 4 85] .ret)
theorem Z6:I1= .seq (G_ [f_ 63 0 5,l_ 64 63,m_ 65 64,q_ 66 65 true (.load none (t_ 6)),q_ 67 65 true (.mv (t_ 66)),q_ 68 67 true (.bM 1 (t_ 3)),q_ 69 67 true (.load none (t_ 68)),q_ 70 67 true (.bin .eql [1] (t_ 69) (.const (.int .i64 (Int.negSucc 0)))),q_ 71 65 true (.pick (t_ 67) (t_ 70) (b_ false)),q_ 72 65 true (.un .not (t_ 71)),o_ 73 (.pick (t_ 65) (t_ 72) (b_ false))] (I_ 73 (G_ [L_ 74 7 2,f_ 75 1 3,l_ 76 75,F_ 77 203 [t_ 74,t_ 76],m_ 7 77] (G_ [m_ 78 7,o_ 79 (.bin .neq [1] (t_ 78) (i_ 0))] (I_ 79 (G_ [m_ 80 7,m_ 4 80] .ret) .skip))) .skip)) N7:=rfl
structure zv (ai:Int) (x:GI):Prop where
 op:1<=x.op/\x.op<=22
 form:bq (cH x.op) x x.args.length=false
 dst:(cH x.op).1=true-> ¬(x.op=20/\x.dst= -1)->vP ai x.dst
 a:r8 ai x.a
 b:r8 ai x.b
 args:x.op=20->nV ai x.args/\x.args.length<=6
section
variable {gs fs blocks ah:SV} {name:ByteArray} {params ai:Int}
def afu (ai:Int) (x:GI) (c:Int):Prop:=c=0->((cH x.op).1=true-> ¬(x.op=20/\x.dst= -1)->vP ai x.dst)/\r8 ai x.a/\r8 ai x.b/\(x.op=20->nV ai x.args/\x.args.length<=6)
theorem VK (ok:bu h) (hr:0<=ai/\ai<1000000) {C X K s1 s2 s3:Nat} (hK:h.tr.get K=some (.aA [.bool (x.op==20)] false 0 s3)) (hX:h.tr.get X=some (.aA (aC x.op x.dst x.a.1 x.a.2 x.b.1 x.b.2 x.fn A.v) false 0 s2))
  (hC:h.tr.get C=some (.aA (aH gs fs name params ai blocks ah) false 0 s1)) {funcs:List GF} (hF:SliceR (fR h) 4 h fs.v funcs) (iL:funcs.length<1000000/\ ∀f∈funcs,f.params<=6) (hA:SliceR vR 2 h A.v x.args) (cn:x.args.length<140737488355329) {b s:Nat}
  (hb:h.tr.get b=some (.aA [.func (.func fY) #[] #[.pointer (some ⟨C,0,none⟩),.pointer (some ⟨X,0,none⟩)],.func (.func fZ) #[] #[.pointer (some ⟨C,0,none⟩),.pointer (some ⟨X,0,none⟩)],.func (.func gf) #[] #[.pointer (some ⟨K,0,none⟩),.pointer (some ⟨X,0,none⟩),.pointer (some ⟨C,0,none⟩)]] false 0 s)):
  aF FF vd [.slice (some ⟨b,0,none⟩) 3 3] h (tU (fun c=>c=0->r8 ai x.a/\r8 ai x.b/\(x.op=20->nV ai x.args/\x.args.length<=6)) h):=by
 have F:=YD (P1:=fun c=>c=0->r8 ai x.a) (P2:=fun c=>c=0->r8 ai x.b) (P3:=fun c=>c=0->(x.op==20)=true->nV ai x.args/\x.args.length<=6) ok hb (fun h1 g=>by
  refine cP.func ?_;have:=Rl g.ok hr (g.get ok hC (fun h=>h)) (g.get ok hX (fun h=>h));refine aF.mono (by simpa using this) ?_;rintro v h' ⟨rfl,g'⟩;exact⟨g',_,rfl,fun h=>xG h⟩) (fun h1 g=>by
  refine cP.func ?_;have:=Rm g.ok hr (g.get ok hC (fun h=>h)) (g.get ok hX (fun h=>h));refine aF.mono (by simpa using this) ?_;rintro v h' ⟨rfl,g'⟩;exact⟨g',_,rfl,fun h=>xG h⟩) (fun h1 g=>by
  refine cP.func ?_;have:=Rp g.ok hr (g.get ok hK (fun h=>h)) (g.get ok hX (fun h=>h)) (g.get ok hC (fun h=>h)) (hF.mono ok g fun _ _ r=>r.mono ok g) iL (hA.mono ok g fun _ _ h=>h) cn;simpa using this)
 refine F.mono ?_;rintro v h' ⟨g,c,rfl,hc⟩;exact⟨g,c,rfl,fun h=>⟨(hc h).1 rfl,(hc h).2.1 rfl,fun e=>(hc h).2.2 rfl (by simp[e])⟩⟩
theorem VM (ok:bu h) (hr:0<=ai/\ai<1000000) {C X K S s1 s2 s3 s4:Nat} (hK:h.tr.get K=some (.aA [.bool (x.op==20)] false 0 s3)) (hX:h.tr.get X=some (.aA (aC x.op x.dst x.a.1 x.a.2 x.b.1 x.b.2 x.fn A.v) false 0 s2))
  (hC:h.tr.get C=some (.aA (aH gs fs name params ai blocks ah) false 0 s1)) (hS:h.tr.get S=some (.aA [.bool (cH x.op).1,.bool (cH x.op).2.1,.bool (cH x.op).2.2] false 0 s4)) {funcs:List GF} (hF:SliceR (fR h) 4 h fs.v funcs) (iL:funcs.length<1000000/\ ∀f∈funcs,f.params<=6) (hA:SliceR vR 2 h A.v x.args) (cn:x.args.length<140737488355329)
  {e:Env} (f2:Env.get e 2= .pointer (some ⟨C,0,none⟩)) (f3:Env.get e 3= .pointer (some ⟨X,0,none⟩)) (f5:Env.get e 5= .pointer (some ⟨S,0,none⟩)) (f6:Env.get e 6= .pointer (some ⟨K,0,none⟩)) {Q:aP->Env->ae->Prop} (H: ∀c e' h',ab aG h h'->Env.get e' 4= .int .i64 c->afu ai x c->Q .ret e' h'):
  aB FF I1 e h Q:=by
 have fin: ∀(h5:ae) (e5:Env),ab aG h h5->Env.get e5 2= .pointer (some ⟨C,0,none⟩)->Env.get e5 3= .pointer (some ⟨X,0,none⟩)->Env.get e5 6= .pointer (some ⟨K,0,none⟩)->((cH x.op).1=true-> ¬(x.op=20/\x.dst= -1)->vP ai x.dst)->
   aB FF N7 e5 h5 Q:=by
  intro h5 e5 g5 q2 q3 q6 hd;unfold N7;simp[q2,q3,q6];refine aE.cut (fun h7=>ab aG h5 h7/\h7.tr.get h5.next=some (.aA [.func (.func fY) #[] #[.pointer (some ⟨C,0,none⟩),.pointer (some ⟨X,0,none⟩)],.func (.func fZ) #[] #[.pointer (some ⟨C,0,none⟩),.pointer (some ⟨X,0,none⟩)],.func (.func gf) #[] #[.pointer (some ⟨K,0,none⟩),.pointer (some ⟨X,0,none⟩),.pointer (some ⟨C,0,none⟩)]] false 0 0)) ?_ ?_
  .exact⟨(ab.refl g5.ok).new _ _,by simp⟩
  rintro h7 ⟨g7,hB7⟩;have gg:=g5.trans g7;refine aE.call (V:=tU (fun c=>c=0->r8 ai x.a/\r8 ai x.b/\(x.op=20->nV ai x.args/\x.args.length<=6)) h7) (by simpa using VK gg.ok hr (gg.get ok hK (fun h=>h)) (gg.get ok hX (fun h=>h)) (gg.get ok hC (fun h=>h)) (hF.mono ok gg fun _ _ r=>r.mono ok gg) iL (hA.mono ok gg fun _ _ h=>h) cn hB7) ?_;rintro _ h8 ⟨g8,c,rfl,hc⟩;simp;exact H c _ _ (gg.trans g8) (by simp) (fun h=>⟨hd,hc h⟩)
 rw[Z6];have lM:=hX;simp[aC] at lM;cases hsd:(cH x.op).1 with
 |false=>
  rw[hsd] at hS;simp[f5,hS];refine fin h _ (.refl ok) (by simp[f2]) (by simp[f3]) (by simp[f6]) (fun h=>by rw[hsd] at h;cases h)
 |true=>
  rw[hsd] at hS;have after: ∀e5,Env.get e5 2= .pointer (some ⟨C,0,none⟩)->Env.get e5 3= .pointer (some ⟨X,0,none⟩)->Env.get e5 6= .pointer (some ⟨K,0,none⟩)->Env.get e5 76= .int .i64 x.dst->Env.get e5 74= .agg ⟨aH gs fs name params ai blocks ah⟩->True:=fun _ _ _ _ _ _=>trivial;cases hc:(x.op==20) with
  |true=>
   rw[hc] at hK;cases hd:(x.dst== -1) with
   |true=>
    simp[f5,f6,f3,hS,hK,lM,hd];refine fin h _ (.refl ok) (by simp[f2]) (by simp[f3]) (by simp[f6]) (fun _ h=>absurd ⟨by simpa using hc,by simpa using hd⟩ h)
   |false=>
    simp[f5,f6,f3,f2,hS,hK,lM,hd,hC,aH];refine aE.call (by simpa [aH] using DT (gs:=gs) (fs:=fs) (name:=name) (params:=params) (blocks:=blocks) (ah:=ah) h ok hr x.dst) ?_;rintro _ h3 ⟨rfl,g3⟩;by_cases Va:Ip ai x.dst=0
    .simp[Va];exact fin h3 _ g3 (by simp[f2]) (by simp[f3]) (by simp[f6]) (fun _ _=>Iq Va)
    .have:=qV Va;simp[this];exact H _ _ _ g3 (by simp) (fun h=>absurd h Va)
  |false=>
   rw[hc] at hK;simp[f5,f6,f3,f2,hS,hK,lM,hC,aH];refine aE.call (by simpa [aH] using DT (gs:=gs) (fs:=fs) (name:=name) (params:=params) (blocks:=blocks) (ah:=ah) h ok hr x.dst) ?_;rintro _ h3 ⟨rfl,g3⟩;by_cases Va:Ip ai x.dst=0
   .simp[Va];exact fin h3 _ g3 (by simp[f2]) (by simp[f3]) (by simp[f6]) (fun _ _=>Iq Va)
   .have:=qV Va;simp[this];exact H _ _ _ g3 (by simp) (fun h=>absurd h Va)
theorem VJ (ok:bu h) (hr:0<=ai/\ai<1000000) {funcs:List GF} (hF:SliceR (fR h) 4 h fs.v funcs) (iL:funcs.length<1000000/\ ∀f∈funcs,f.params<=6) (hA:SliceR vR 2 h A.v x.args) (cn:x.args.length<140737488355329):
  aF FF qP [.agg ⟨aH gs fs name params ai blocks ah⟩,.agg ⟨aC x.op x.dst x.a.1 x.a.2 x.b.1 x.b.2 x.fn A.v⟩] h (tU (fun c=>c=0->zv ai x) h):=by
 have vE:=SliceR.len hA;refine aF.of yN ?_;unfold qx;simp[aH,aC];refine aE.cut (fun h2=>ab aG h h2/\h2.tr.get h.next=some (.aA (aH gs fs name params ai blocks ah) false 0 0)/\h2.tr.get (h.next+1)=some (.aA (aC x.op x.dst x.a.1 x.a.2 x.b.1 x.b.2 x.fn A.v) false 0 0)) ?_ ?_
 .exact⟨((ab.refl ok).new _ _).new _ _,by simp[aH],by simp[aC]⟩
 rintro h2 ⟨g2,vF,dS⟩;refine aE.call (by simpa using dG h2 x.op 1 22) ?_;rintro _ JN ⟨rfl,he⟩;rw[he];by_cases vN:1<=x.op/\x.op<=22
 .have hd:(decide (1<=x.op)&&decide (x.op<=22))=true:=by simpa using vN
  have agB:=dS;simp[aC] at agB;rw[hd];simp[agB];refine aE.call (by simpa using Cs h2 g2.ok x.op) ?_;rintro _ h3 ⟨rfl,g3⟩;have dh:=g2.trans g3;have Mx:=g3.get g2.ok vF (fun h=>h);have fK:=g3.get g2.ok dS (fun h=>h);have oX3:=dh.ok.bA fK;have oC3:=dh.ok.bA Mx;have zW:=fK;simp[aC] at zW;simp[zW,oX3];refine aE.cut (fun h4=>ab aG h3 h4/\(∃s,h4.tr.get h3.next=some (.aA [.bool (cH x.op).1,.bool (cH x.op).2.1,.bool (cH x.op).2.2] false 0 s))/\ ∃s,h4.tr.get (h3.next+1)=some (.aA [.bool (x.op==20)] false 0 s)) ?_ ?_
  .exact⟨((((ab.refl dh.ok).new _ _).put ⟨0,by simp⟩ (.inl (by omega))).new _ _).put ⟨0,by simp⟩ (.inl (by omega)),⟨h3.clock,by simp⟩,⟨h3.clock+1,by simp⟩⟩
  rintro h4 ⟨g4,⟨s4,hS4⟩,⟨s5,hK4⟩⟩;have mK:=dh.trans g4;have US:=g4.get dh.ok Mx (fun h=>h);have tR:=g4.get dh.ok fK (fun h=>h);refine Zl (x:=x) (s:=cH x.op) tR hS4 hK4 (by simp) (by simp) (by simp) ?_;intro e5 q2 q3 q5 q6 Sf;simp at q2 q3 q5 q6;cases hfb:bq (cH x.op) x A.l with
  |true=>
   rw[hfb] at Sf;simp[Sf];exact⟨mK,5,rfl,fun h=>by cases h⟩
  |false=>
   rw[hfb] at Sf;simp[Sf];refine VM mK.ok hr hK4 tR US hS4 (hF.mono ok mK fun _ _ r=>r.mono ok mK) iL (hA.mono ok mK fun _ _ h=>h) cn q2 q3 q5 q6 ?_;intro c e' h' g' q4 hT;simp[q4];refine⟨mK.trans g',c,rfl,fun h=> ?_⟩;obtain⟨t1,t2,t3,t4⟩:=hT h;exact⟨vN,by rw[<-vE];exact hfb,t1,t2,t3,t4⟩
 .have hd:(decide (1<=x.op)&&decide (x.op<=22))=false:=by simpa using vN
  rw[hd];simp;exact⟨g2,4,rfl,fun h=>by cases h⟩
end
end Go.Proofs.YtdhnndleffachaaGreatDoor
namespace Go.AI.Edge
variable {i u:Nat} {out:List (List Int)} {t x:Int}
def tv (out:List (List Int)) (i:Nat) (t:Int):List (List Int):=out.set t.toNat (((out[t.toNat]?).getD [])++[(i:Int)])
def jc (out:List (List Int)) (i:Nat) (ts:List Int):List (List Int):=ts.foldl (fun o t=>tv o i t) out
def upto (n:Nat) (dw:List (List Int)):Nat->List (List Int)
 |0=>List.replicate n []
 |k+1=>match dw[k]? with
  |some ts=>jc (upto n dw k) k ts
  |none=>upto n dw k
def bw (dw:List (List Int)):List (List Int):=upto dw.length dw dw.length
theorem Dv (out:List (List Int)) (i:Nat) (t:Int):(tv out i t).length=out.length:=by simp[tv]
theorem AD (i:Nat): ∀(ts:List Int) (out:List (List Int)),(jc out i ts).length=out.length
 |[],_=>rfl
 |t::ts,out=>by show(jc (tv out i t) i ts).length=_;rw[AD i ts,Dv]
theorem rN (n:Nat) (dw:List (List Int)): ∀k,(upto n dw k).length=n
 |0=>by simp[upto]
 |k+1=>by
  unfold upto;cases dw[k]? with
  |none=>exact rN n dw k
  |some ts=>exact(AD k ts _).trans (rN n dw k)
theorem dz (dw:List (List Int)):(bw dw).length=dw.length:=rN _ _ _
theorem HE {ts:List Int} {j:Nat} (h:ts[j]? =some t):jc out i (ts.take (j+1))=tv (jc out i (ts.take j)) i t:=by unfold jc;rw[yn,h,List.foldl_append];rfl
theorem Wa (ht:t.toNat<out.length):x∈((tv out i t)[u]?).getD []↔(x∈(out[u]?).getD []\/(u=t.toNat/\x=i)):=by
 unfold tv;rw[eR];by_cases e:t.toNat=u
 .subst e;rw[aU rfl,aU ht];simp
 .rw[aT e];constructor
  .exact .inl
  .rintro(h|⟨h,_⟩)
   .exact h
   .exact absurd h.symm e
theorem Lu {i:Nat} {u:Nat} {x:Int} : ∀ {ts:List Int} {out:List (List Int)},(∀t∈ts,t.toNat<out.length)->(x∈((jc out i ts)[u]?).getD []↔(x∈(out[u]?).getD []\/(x=i/\ ∃t∈ts,u=t.toNat)))
 |[],out,_=>by simp[jc]
 |t::ts,out,h=>by
  show x∈((jc (tv out i t) i ts)[u]?).getD []↔_;rw[Lu (ts:=ts) (out:=tv out i t) (fun u hu=>by rw[Dv];exact h u (CZ _ hu)),Wa (h t (D2 ..))];constructor
  .rintro((h|⟨h,k⟩)|⟨k,t',zp,h⟩)
   .exact .inl h
   .exact .inr ⟨k,t,D2 ..,h⟩
   .exact .inr ⟨k,t',CZ _ zp,h⟩
  .rintro(h1|⟨k,t',zp,h1⟩)
   .exact .inl (.inl h1)
   .rcases List.mem_cons.1 zp with e|zp
    .exact .inl (.inr ⟨by rw[h1,e],k⟩)
    .exact .inr ⟨k,t',zp,h1⟩
theorem Ex {n:Nat} {dw:List (List Int)} (h: ∀ts∈dw,∀t∈ts,t.toNat<n) {u:Nat} {x:Int} : ∀k,x∈((upto n dw k)[u]?).getD []↔ ∃i:Nat,i<k/\x=i/\ ∃ts,dw[i]? =some ts/\ ∃t∈ts,u=t.toNat
 |0=>by
  constructor
  .intro hx;unfold upto at hx;rw[UH] at hx;split at hx<;>simp at hx
  .rintro⟨i,hi,_⟩;omega
 |k+1=>by
  unfold upto;cases hk:dw[k]? with
  |none=>
   dsimp only;rw[Ex h k];constructor
   .rintro⟨i,hi,r⟩;exact⟨i,by omega,r⟩
   .rintro⟨i,hi,hx,ts,ht,r⟩;by_cases e:i=k
    .subst e;rw[hk] at ht;cases ht
    .exact⟨i,by omega,hx,ts,ht,r⟩
  |some ts=>
   dsimp only;rw[Lu (fun t ht=>by rw[rN];exact h ts (dk hk) t ht),Ex h k];constructor
   .rintro(⟨i,hi,r⟩|⟨hx,t,ht,hu⟩)
    .exact⟨i,by omega,r⟩
    .exact⟨k,by omega,hx,ts,hk,t,ht,hu⟩
   .rintro⟨i,hi,hx,BC,zp,r⟩;by_cases e:i=k
    .subst e;rw[hk] at zp;cases zp;exact .inr ⟨hx,r⟩
    .exact .inl ⟨i,by omega,hx,BC,zp,r⟩
theorem qk {dw:List (List Int)} (h: ∀ts∈dw,∀t∈ts,t.toNat<dw.length) :x∈((bw dw)[u]?).getD []↔ ∃i:Nat,x=i/\ ∃ts,dw[i]? =some ts/\ ∃t∈ts,u=t.toNat:=by
 unfold bw;rw[Ex h];constructor
 .rintro⟨i,_,r⟩;exact⟨i,r⟩
 .rintro⟨i,hx,ts,ht,r⟩;exact⟨i,(bY.mp ht).1,hx,ts,ht,r⟩
theorem VV (out:List (List Int)) (i:Nat) (t:Int) (u:Nat):(((tv out i t)[u]?).getD []).length<=((out[u]?).getD []).length+1:=by
 unfold tv;rw[eR];by_cases e:t.toNat=u
 .subst e;rw[aU rfl];split
  .simp
  .simp
 .rw[aT e];omega
theorem Ac (i u:Nat): ∀(ts:List Int) (out:List (List Int)),(((jc out i ts)[u]?).getD []).length<=((out[u]?).getD []).length+ts.length
 |[],out=>by simp[jc]
 |t::ts,out=>by have h1:=Ac i u ts (tv out i t);have h2:=VV out i t u;show(((jc (tv out i t) i ts)[u]?).getD []).length<=_;simp only[List.length_cons];omega
theorem ox {n:Nat} {dw:List (List Int)} (h: ∀ts∈dw,ts.length<=2) (u:Nat): ∀k,(((upto n dw k)[u]?).getD []).length<=2*k
 |0=>by unfold upto;rw[UH];split<;>simp
 |k+1=>by
  have ih:=ox (n:=n) h u k;unfold upto;cases hk:dw[k]? with
  |none=>dsimp only;omega
  |some ts=>
   dsimp only;have:=Ac k u ts (upto n dw k);have:=h ts (dk hk);omega
end Go.AI.Edge
namespace Go.Proofs.YtdhnndleffachaaGreatDoor
open Go.AI
variable {AH B F G T:SV} {C b bytes c d f k l n n0 o s sC:Nat} {bs:List GB} {e e':Env} {fl funcs:List GF} {h h1 h2:ae} {j4:List (List Int)} {names ns xs:List ByteArray} {rb ro:Bool} {v:Value} {ws:List SV} {x:Int} {z:List Value}
def bp:Enc Int:=⟨fun x=>[.int .i64 x],1,fun _=>rfl,by decide,fun _=>rfl⟩
@[simp] theorem Is:bp.sz=1:=rfl
@[simp] theorem afP (x:Int):bp.enc x=[.int .i64 x]:=rfl
def rS:Enc SV:=⟨fun w=>[w.v],1,fun _=>rfl,by decide,fun w=>rfl⟩
@[simp] theorem PD:rS.sz=1:=rfl
@[simp] theorem afR (w:SV):rS.enc w=[w.v]:=rfl
theorem cI.sv' {α:Type} {E:Enc α} {xs:List α} (a:cI E n0 h v xs): ∃L:SV,v=L.v:=by
 rcases a with⟨_,rfl⟩|⟨b,s,rfl,_⟩
 .exact⟨⟨none,0,0⟩,rfl⟩
 .exact⟨⟨some ⟨b,0,none⟩,xs.length,xs.length⟩,rfl⟩
structure jm {α:Type} (E:Enc α) (n0:Nat) (h:ae) (d:Nat) (ws:List SV) (j4:List (List α)):Prop where
 aA: ∃s,h.tr.get d=some (.aA (rS.flat ws) false 0 s)
 len:ws.length=j4.length
 acc: ∀(i:Nat) (w:SV) (xs:List α),ws[i]? =some w->j4[i]? =some xs->cI E n0 h w.v xs
 dis: ∀(i j:Nat) (wi wj:SV) (b:Nat),ws[i]? =some wi->ws[j]? =some wj->i≠j->ax wi.v b-> ¬ax wj.v b
 new:n0<=d
 wE: ∀(i:Nat) (w:SV),ws[i]? =some w-> ¬ax w.v d
theorem jm.grow {α:Type} {E:Enc α} {n0:Nat} {S:Nat->Prop} {h h':ae} {d:Nat} {ws:List SV} {j4:List (List α)} (w:jm E n0 h d ws j4) (ok:bu h) (g:ab S h h') (hS: ∀b,n0<=b-> ¬S b):jm E n0 h' d ws j4:=by obtain⟨s,hb⟩:=w.aA;refine⟨⟨s,g.get ok hb (hS _ w.new)⟩,w.len,fun i w' xs h1 h2=> ?_,w.dis,w.new,w.wE⟩;have a:=w.acc i w' xs h1 h2;exact a.grow ok g (fun b hb=>hS b (a.of hb))
theorem jm.bt {α:Type} {E:Enc α} {h h':ae} {j4:List (List α)} (w:jm E n0 h d ws j4) (ok:bu h) (g:ab aG h h'):jm E n0 h' d ws j4:=w.grow ok g (fun _ _ h=>h)
theorem Xk (ws:List SV) (i:Nat) (x:SV) (h:i<ws.length):aJ (rS.flat ws) i [x.v]=rS.flat (ws.set i x):=by have:=rS.fu ws i x h;simpa using this
theorem ze (hd:h.tr.get d=some (.aA (rS.flat ws) ro o s)) {x:SV} (hk:ws[k]? =some x):bc h d k 1=some [x.v]:=by have hl:=(bY.mp hk).1;rw[cy hd (by rw[rS.bC];show k+1<=ws.length*1;omega)];have:=rS.nq ws k 0 1 x hk (by decide);simp only[ID] at this;rw[show k=k*rS.sz from(Nat.mul_one k).symm,this];rfl
theorem jm.set {α:Type} {E:Enc α} {n0:Nat} {h h2:ae} (ok:bu h) {d:Nat} {ws:List SV} {j4:List (List α)} (w:jm E n0 h d ws j4) {i:Nat} {wi W:SV} {xs ys:List α} (hi:ws[i]? =some wi) (hx:j4[i]? =some xs) (g:ab (ax wi.v) h h2) (a:cI E n0 h2 W.v ys) (hf: ∀b,ax W.v b->h.next<=b):
  ∃s,h2.tr.get d=some (.aA (rS.flat ws) false 0 s)/\jm E n0 (put h2 d i (rS.flat ws) [W.v] 0) d (ws.set i W) (j4.set i ys):=by
 obtain⟨s,hb⟩:=w.aA;have hdl:=(ok.bA hb).lt;have ff:=(bY.mp hi).1;have dq:=g.get ok hb (w.wE i wi hi);refine⟨s,dq,?_⟩;have gp:ab (· =d) h2 (put h2 d i (rS.flat ws) [W.v] 0):=aM g.ok dq;refine⟨⟨h2.clock,by rw[aD,Xk ws i W ff]⟩,by simp[w.len],fun j w' zs h1 h3=> ?_,fun j k wj wk b h1 h3 hjk U4 Fx=> ?_,w.new,fun j w' h1=> ?_⟩
 .rw[eR] at h1 h3;by_cases e:i=j
  .subst e;rw[aU rfl,aU ff] at h1;rw[aU rfl,aU (by rw[<-w.len];exact ff)] at h3;cases h1;cases h3;exact a.grow g.ok gp (fun b hb e=>by have:=hf b hb;omega)
  .rw[aT e] at h1 h3;have a':=w.acc j w' zs h1 h3;exact(a'.grow ok g (fun b hb dq=>w.dis i j wi w' b hi h1 e dq hb)).grow g.ok gp (fun b hb e2=>w.wE j w' h1 (e2▸hb))
 .rw[eR] at h1 h3;have bA: ∀(k:Nat) (w':SV),ws[k]? =some w'-> ∀b,ax w'.v b->b<h.next:=by
   intro k w' hk b hb;have qK:=(bY.mp hk).1;obtain⟨off,n,cap,e⟩:=hb;rcases w.acc k w' _ hk (aX (by rw[<-w.len];exact qK)) with⟨_,e2⟩|⟨b',s',e2,iy,_⟩
   .rw[e2] at e;cases e
   .rw[e2] at e;cases e;exact ok.wf _ _ iy
  by_cases e:i=j
  .subst e;rw[aU rfl,aU ff] at h1;rw[aT hjk] at h3;cases h1;have h4:=hf b U4;have h5:=bA k wk h3 b Fx;omega
  .rw[aT e] at h1;by_cases e':i=k
   .subst e';rw[aU rfl,aU ff] at h3;cases h3;have:=hf b Fx;have:=bA j wj h1 b U4;omega
   .rw[aT e'] at h3;exact w.dis j k wj wk b h1 h3 hjk U4 Fx
 .rw[eR] at h1;by_cases e:i=j
  .subst e;rw[aU rfl,aU ff] at h1;cases h1;exact fun hb=>by have:=hf d hb;omega
  .rw[aT e] at h1;exact w.wE j w' h1
theorem pY {α:Type} {E:Enc α} (ok:bu h) {n0 bytes:Nat} {v w:Value} {xs:List α} {y:α} (hz:z.length=E.sz) (a:cI E n0 h v xs) (hw:bk E h w [y])
  (hl:xs.length<1000000) (CM:bytes<=1000) (hn:n0<=h.next):
  ∃v' h',p8 h z bytes false v w=some (v',h')/\
   cI E n0 h' v' (xs++[y])/\ab (ax v) h h'/\ ∀b,ax v' b->b=h.next:=by
 unfold p8;rw[Jc hz hw];dsimp only;have r1:roomy (xs.length+1)=true:=by simp[roomy];omega
 have r2:roomy ((xs.length+1)*bytes)=true:=by have:(xs.length+1)*bytes<=1000000*1000:=Nat.mul_le_mul (by omega) CM;simp[roomy];omega
 have hp:=E.pos;have hp':E.sz≠0:=by omega
 rcases a with⟨rfl,rfl⟩|⟨b,s,rfl,hb,hx,XQ⟩
 .have r3:roomy bytes=true:=by simp[roomy];omega
  refine⟨.slice (some ⟨h.next,0,none⟩) 1 1,aL h (E.flat [y]) E.sz,?_,.inr ⟨h.next,0,rfl,by simp,by simp,hn⟩,(aO ok _ _).bt,?_⟩
  .have r4:roomy 1=true:=rfl;simp[ie,hz,hp,r3,r4]
  .rintro b ⟨off,n,cap,e⟩;cases e;rfl
 .refine⟨.slice (some ⟨h.next,0,none⟩) (xs.length+1) (xs.length+1),aL { h with tr:=h.tr.del b } (E.flat xs++E.flat [y]) E.sz,?_,.inr ⟨h.next,0,by simp,?_,by simp,hn⟩,?_,?_⟩
  .have e1: ¬xs.length+1<=xs.length:=by omega
   have e2:(E.flat xs).take (xs.length*E.sz)=E.flat xs:=XD (by simp);simp[ie,hz,hp,r1,r2,hb,e1,e2,hp']
  .have:=cx { h with tr:=h.tr.del b } (E.flat xs++E.flat [y]) E.sz;rw[Enc.dO];exact this
  .refine((ou ok b).bJ ?_).trans (aO (ou ok b).ok _ _).bt;rintro x _ rfl;exact⟨_,_,_,rfl⟩
  .rintro b' ⟨off,n,cap,e⟩;cases e;rfl
def aw (l:List Nat) (e e':Env):Prop:= ∀t,t∉l->Env.get e' t=Env.get e t
theorem aw.refl (l:List Nat) (e:Env):aw l e e:=fun _ _=>rfl
theorem aw.set {l:List Nat} {e e':Env} {k:Nat} {v:Value} (K:aw l e e') (hk:k∈l:=by decide):aw l e (Tr.set e' k v):=fun t ht=>by rw[Env.aN,aT (by rintro rfl;exact ht hk)];exact K t ht
theorem aw.at {l:List Nat} {t:Nat} (K:aw l e e') (f:Env.get e t=v) (ht:t∉l:=by decide):Env.get e' t=v:=(K t ht).trans f
theorem aw.trans {l:List Nat} {e e1 e2:Env} (a:aw l e e1) (b:aw l e1 e2):aw l e e2:=fun t ht=>(b t ht).trans (a t ht)
theorem kE {F:Nat->Option bZ} {d:Option Nat} {l:List bl} {R:Env->ae->Prop} {o:Option (Value×ae)} (ho:o=some (v,h)) (H:aE F l (eX e d v) h R):Pl F d l e R o:=by rw[ho];exact H
theorem ED {F:Nat->Option bZ} {lL:List Nat} {d:Option Nat} {m:List (bl×List Nat)} {R:Env->ae->Prop} {o:Option (Value×ae)} (ho:o=some (v,h)) (H:still (eX e d v) h k lL=true/\aQ F k m (eX e d v) h R):Pk F k lL d m e R o:=by rw[ho];exact H
def au (name:ByteArray) (params ai:Int) (blocks:SV):List Value:=[.string name,.int .i64 params,.int .i64 ai,blocks.v]
theorem Pv (w:jm bp n0 h d ws j4):SliceR (X9 h) 1 h (SV.v ⟨some ⟨d,0,none⟩,j4.length,c⟩) j4:=by
 obtain⟨s,hb⟩:=w.aA;refine⟨_,c,rfl,.inr ⟨d,0,_,_,_,_,rfl,hb,fun i xs hx=> ?_⟩⟩;have ff:=(bY.mp hx).1;obtain⟨wi,hw⟩: ∃wi,ws[i]? =some wi:=⟨_,aX (show i<ws.length by rw[w.len];exact ff)⟩;have:=rS.lZ ws i wi hw;simp only[PD,Nat.mul_one] at this;rw[Bg,Nat.mul_one,this];refine⟨rfl,wi,rfl,?_⟩;have a:=w.acc i wi xs hw hx;rcases a with⟨rfl,e⟩|⟨b,s',e,iy,pL,_⟩
 .rw[e];exact⟨none,0,rfl,.inl ⟨rfl,.inl rfl⟩⟩
 .rw[e];refine⟨_,_,rfl,.inr ⟨b,0,_,_,_,_,rfl,iy,fun k x hk=> ?_⟩⟩;have:=bp.lZ xs k x hk;simp only[Is,Nat.mul_one] at this;rw[Bg,Nat.mul_one,this];exact⟨rfl,rfl⟩
theorem J0 (h:ae) (ok:bu h) {α:Type} (E:Enc α) (n n0:Nat) (hn:n0<=h.next):jm E n0 (aL h (jW [.slice none 0 0] n) 0) h.next (List.replicate n fI) (List.replicate n []):=by
 have hr:jW [Value.slice none 0 0] n=rS.flat (List.replicate n fI):=by
  have: ∀n,jW [Value.slice none 0 0] n=rS.flat (List.replicate n fI):=by
   intro n;induction n with
   |zero=>rfl
   |succ n ih=>rw[List.replicate_succ,Enc.eM,<-ih];rfl
  exact this n
 refine⟨⟨0,by rw[<-hr];exact cx _ _ _⟩,by simp,fun i w xs h1 h2=> ?_,fun i j wi wj b h1 _ _ hb=> ?_,hn,fun i w h1 hb=> ?_⟩
 .rw[UH] at h1 h2;split at h1
  .rename_i hi;rw[aU hi] at h2;cases h1;cases h2;exact .inl ⟨rfl,rfl⟩
  .cases h1
 .rw[UH] at h1;split at h1<;>cases h1;obtain⟨_,_,_,e⟩:=hb;cases e
 .rw[UH] at h1;split at h1<;>cases h1;obtain⟨_,_,_,e⟩:=hb;cases e
def ae3 (h h2:ae) (b:GB) (j4:List (List Int)) (n0 d k:Nat) (e:Env) (m:Nat) (e':Env) (h3:ae):Prop:=
 ∃(j:Nat) (AQ:List SV),m=b.to.length-j/\j<=b.to.length/\Env.get e' 24= .int .i64 j/\aw [25,26,27,7,28,29,30,31,32,33,34,35,36,37,38,24] e e'/\ab aG h h3/\h2.next<=h3.next/\jm bp n0 h3 d AQ (Edge.jc j4 k (b.to.take j))
theorem NC (ok:bu h) {b:GB} (hT:SliceR nR 1 h T.v b.to) (h2l:b.to.length<=2) (hn:n<=1000) (ht: ∀t∈b.to,0<=t/\t<n) (w:jm bp n0 h2 d ws j4) (uv:j4.length=n) (cn: ∀u:Nat,((j4[u]?).getD []).length<=2*k) (hk:k<=1000)
  (g2:ab aG h h2) (um:n0<=h2.next) (anD:h.next<=n0) {e:Env} {Q:aP->Env->ae->Prop} (f3:Env.get e 3= .slice (some ⟨d,0,none⟩) n n) (f4:Env.get e 4= .int .i64 k) (f22:Env.get e 22=T.v) (f23:Env.get e 23= .int .i64 b.to.length) (f24:Env.get e 24= .int .i64 0)
  (C: ∀e' h' AQ,ab aG h h'->h2.next<=h'.next->aw [25,26,27,7,28,29,30,31,32,33,34,35,36,37,38,24] e e'->jm bp n0 h' d AQ (Edge.jc j4 k b.to)->Q (.exit 2) e' h'):
  aB FF (.loop po) e h2 Q:=by
 have tC:=SliceR.len hT;refine aB.loop (ae3 h h2 b j4 n0 d k e) ?_ (n:=b.to.length)
  ⟨0,ws,rfl,by omega,f24,aw.refl _ _,g2,dK _,by simpa [Edge.jc] using w⟩
 rintro m e' h3 ⟨j,AQ,rfl,hj,Gl,K,g3,Vm,w3⟩;unfold po;have q3:=K.at f3;have q4:=K.at f4;have q22:=K.at f22;have Qf:=K.at f23;by_cases aS:j<b.to.length
 .have hx:b.to[j]? =some b.to[j]:=aX aS;have hm:=zk aS;generalize b.to[j]=t at hx hm;obtain⟨Tq,htn⟩:=ht t hm;obtain⟨u,rfl⟩: ∃u:Nat,t=u:=⟨t.toNat,by omega⟩;have X4:u<n:=by omega
  obtain⟨bT,off,c,Bi,_,_,rfl,_,dy⟩:=SliceR.later ok hT hx;have r0:=dy h3 g3 0 1 (by decide);simp[-ag] at r0;have wj:=wrap_i64 (j+1) (by omega) (by omega);obtain⟨s3,Tk⟩:=w3.aA;have adi:(Edge.jc j4 k (b.to.take j)).length=n:=by rw[Edge.AD,uv]
  have aoi:AQ.length=n:=by rw[w3.len,adi]
  have hw:AQ[u]? =some AQ[u]:=aX (by omega);have CQ:(Edge.jc j4 k (b.to.take j))[u]? =some (Edge.jc j4 k (b.to.take j))[u]:=aX (by omega);generalize AQ[u]=wu at hw;generalize Zj:(Edge.jc j4 k (b.to.take j))[u]=xs at CQ;have N2:=ze Tk hw;have adh:xs.length<1000000:=by
   have h1:=Edge.Ac k u (b.to.take j) j4;rw[CQ] at h1;have JN:=cn u;simp at h1;have:(b.to.take j).length<=2:=by simp;omega
   simp at this;omega
  simp at q22;simp[-ag] at N2;have od3:=g3.ok.bA Tk;simp[q3,q4,q22,Qf,Gl,Bi,tC,aS,r0,X4,N2,-ag,od3];have g4:=aO g3.ok (bp.enc (k:Int)) 0;have w4:=w3.bt g3.ok g4;have hw4:bk bp (aL h3 (bp.enc (k:Int)) 0) (.slice (some ⟨h3.next,0,none⟩) 1 1) [(k:Int)]:=⟨_,_,rfl,.inr ⟨h3.next,0,_,_,_,_,rfl,cx _ _ _,by simp,by simp⟩⟩;obtain⟨v',h5,ha,yo,g5,MB⟩:=pY (bytes:=8) g4.ok (z:=[.int .i64 0]) rfl (w4.acc u wu xs hw CQ) hw4 adh (by decide) (by show n0<=h3.next+1;omega);refine kE ha ?_;obtain⟨V,rfl⟩:=cI.sv' yo;obtain⟨s5,U_,w5⟩:=w4.set g4.ok hw CQ g5 yo (fun b hb=>by rw[MB b hb];exact dK _);have KP: ∀b,ax wu.v b->n0<=b:=fun b hb=>(w3.acc u wu xs hw CQ).of hb;have hdl:u<=(rS.flat AQ).length-1:=by simp;omega
  have acp:u+1<=AQ.length:=by omega
  simp[X4,U_,acp,wj,Gl];refine⟨b.to.length-(j+1),by omega,j+1,AQ.set u V,rfl,by omega,by simp,?_,?_,?_,?_⟩
  .repeat (refine aw.set ?_)
   exact K
  .have u7:ab aG h h5:=(g3.trans g4).trans' g5 (fun _ _ h=>h) (fun b hb h=>by have:=KP b h;omega);exact u7.put ⟨s5,U_⟩ (.inl (by have:=w3.new;omega))
  .have:=g5.next;simp at this ⊢;omega
  .rw[Edge.HE hx];have:(Edge.tv (Edge.jc j4 k (b.to.take j)) k (u:Int))=(Edge.jc j4 k (b.to.take j)).set u (xs++[(k:Int)]):=by unfold Edge.tv;rw[UI,CQ];rfl
   rw[this];simpa using w5
 .have:j=b.to.length:=by omega
  subst this;rw[xV] at w3;simp[Qf,Gl];exact C _ _ AQ g3 Vm (K.set) w3
def bj (bs:List GB):List (List Int):=bs.map (·.to)
structure jo (bs:List GB):Prop where
 len:bs.length<=1000
 two: ∀b∈bs,b.to.length<=2
 to: ∀b∈bs,∀t∈b.to,0<=t/\t<bs.length
def AhI (h:ae) (B:SV) (bs:List GB) (d:Nat) (n0:Nat) (m:Nat) (e:Env) (h2:ae):Prop:=
 ∃(j:Nat) (ws:List SV),m=bs.length-j/\j<=bs.length/\Env.get e 3= .slice (some ⟨d,0,none⟩) bs.length bs.length/\Env.get e 13=B.v/\Env.get e 14= .int .i64 bs.length/\Env.get e 15= .int .i64 j/\ab aG h h2/\n0<=h2.next/\jm bp n0 h2 d ws (Edge.upto bs.length (bj bs) j)
theorem jA (ok:bu h) {name:ByteArray} {p r:Int} (hB:AU h B bs) (E:jo bs):
  aF FF yw [.agg ⟨au name p r B⟩] h (fun v h'=>ab aG h h'/\ ∃d ws,v= .slice (some ⟨d,0,none⟩) bs.length bs.length/\jm bp h.next h' d ws (Edge.bw (bj bs))):=by
 have ew:=SliceR.len hB;have hl:=E.len;have r1:roomy bs.length=true:=by simp[roomy];omega
 have r2:roomy (bs.length*24)=true:=by simp[roomy];omega
 refine aF.of FJ ?_;unfold ye;simp[au,ew,r1,r2];refine aB.cut (fun h1=>ab aG h h1/\jm bp h.next h1 (h.next+1) (List.replicate bs.length fI) (List.replicate bs.length [])) ?_ ?_
 .have g1:=aO ok (au name p r B) 0;have:=J0 (aL h (au name p r B) 0) g1.ok bp bs.length h.next (Nat.le_succ _);refine⟨?_,by simpa [au,ew] using this⟩;have g2:=g1.new (jW [.slice none 0 0] bs.length) 0;simpa [au,ew] using g2
 rintro h1 ⟨g1,w1⟩;have hn1:h.next+1<h1.next:=by obtain⟨s,hb⟩:=w1.aA;exact g1.ok.bA hb
 refine aB.loop (AhI h B bs (h.next+1) h.next) ?_ (n:=bs.length) ⟨0,_,rfl,by omega,by simp,by simp[ew],by simp[ew],by simp,g1,by omega,by simpa [Edge.upto] using w1⟩;rintro m e h2 ⟨j,ws,rfl,hj,f3,f13,f14,f15,g2,NU,w2⟩;unfold vx;by_cases aS:j<bs.length
 .have hx:bs[j]? =some bs[j]:=aX aS;have hm:=zk aS;generalize bs[j]=x at hx hm;obtain⟨bb,off,c,ig,_,_,⟨P,L,T,rfl,sP,sL,sT⟩,_,dy⟩:=SliceR.later ok hB hx;have r0:=dy h2 g2 0 6 (by decide);simp[-ag] at r0;have wj:=wrap_i64 (j+1) (by omega) (by omega);have tC:=SliceR.len sT;simp at f13;have UD:=f13;rw[ig,ew] at UD;simp[f3,UD,f14,f15,aS,r0,-ag,av];refine aB.cut (fun h3=>ab aG h2 h3) ?_ ?_
  .exact(ab.refl g2.ok).var _ _
  rintro h3 g3;have dh:=g2.trans g3;refine NC ok sT (E.two x hm) E.len (E.to x hm) (k:=j) (w2.bt g2.ok g3) (Edge.rN _ _ _) (fun u=>Edge.ox (fun ts jT=> ?_) u j) (by omega) dh (ug NU g3.next) (dK _) (by simp[f3]) (by simp) (by simp) (by simp[tC]) (by simp) ?_
  .unfold bj at jT;obtain⟨y,hy,rfl⟩:=j9.1 jT;exact E.two y hy
  .intro e' h' AQ g' KY K w';have Az:=K.at (t:=15) (by simp;exact f15);have q3:=K.at (t:=3) (by simp;exact f3);have WJ:=K.at (t:=13) (by simp;exact f13);have HA:=K.at (t:=14) (by simp;exact f14);simp[Az,wj];refine⟨bs.length-(j+1),by omega,j+1,AQ,rfl,by omega,by simp[q3],by simp[WJ],by simp[HA],by simp,g',ug NU (ug g3.next KY),?_⟩;have Ra:(bj bs)[j]? =some x.to:=by simp[bj,hx]
   have:Edge.upto bs.length (bj bs) (j+1)=Edge.jc (Edge.upto bs.length (bj bs) j) j x.to:=by show(match(bj bs)[j]? with|some ts=>Edge.jc (Edge.upto bs.length (bj bs) j) j ts|none=>Edge.upto bs.length (bj bs) j)=_;rw[Ra]
   rw[this];exact w'
 .have:j=bs.length:=by omega
  subst this;simp[f3,f14,f15];refine⟨g2,ws,?_⟩;have:Edge.bw (bj bs)=Edge.upto bs.length (bj bs) bs.length:=by simp[Edge.bw,bj]
  rw[this];exact w2
def ae5 (h h2:ae) (b:GB) (j4:List (List Int)) (n0 d k:Nat) (e:Env) (m:Nat) (e':Env) (h3:ae):Prop:=
 ∃(j:Nat) (AQ:List SV),m=b.to.length-j/\j<=b.to.length/\Env.get e' 24= .int .i64 j/\aw [25,26,27,7,28,29,30,31,32,33,34,35,36,37,38,24] e e'/\ab aG h h3/\h2.next<=h3.next/\jm bp n0 h3 d AQ (Edge.jc j4 k (b.to.take j))
theorem M7 (ok:bu h) {b:GB} (hT:SliceR nR 1 h T.v b.to) (h2l:b.to.length<=2) (hn:n<=1000) (ht: ∀t∈b.to,0<=t/\t<n) (w:jm bp n0 h2 d ws j4) (uv:j4.length=n) (cn: ∀u:Nat,((j4[u]?).getD []).length<=2*k) (hk:k<=1000)
  (g2:ab aG h h2) (um:n0<=h2.next) (anD:h.next<=n0) {e:Env} {Q:aP->Env->ae->Prop} (f3:Env.get e 3= .slice (some ⟨d,0,none⟩) n n) (f4:Env.get e 4= .int .i64 k) (f22:Env.get e 22=T.v) (f23:Env.get e 23= .int .i64 b.to.length) (f24:Env.get e 24= .int .i64 0)
  (C: ∀e' h' AQ,ab aG h h'->h2.next<=h'.next->aw [25,26,27,7,28,29,30,31,32,33,34,35,36,37,38,24] e e'->jm bp n0 h' d AQ (Edge.jc j4 k b.to)->Q (.exit 2) e' h'):
  aB FF (.loop rh) e h2 Q:=by
 have tC:=SliceR.len hT;refine aB.loop (ae5 h h2 b j4 n0 d k e) ?_ (n:=b.to.length)
  ⟨0,ws,rfl,by omega,f24,aw.refl _ _,g2,dK _,by simpa [Edge.jc] using w⟩
 rintro m e' h3 ⟨j,AQ,rfl,hj,Gl,K,g3,Vm,w3⟩;unfold rh;have q3:=K.at f3;have q4:=K.at f4;have q22:=K.at f22;have Qf:=K.at f23;by_cases aS:j<b.to.length
 .have hx:b.to[j]? =some b.to[j]:=aX aS;have hm:=zk aS;generalize b.to[j]=t at hx hm;obtain⟨Tq,htn⟩:=ht t hm;obtain⟨u,rfl⟩: ∃u:Nat,t=u:=⟨t.toNat,by omega⟩;have X4:u<n:=by omega
  obtain⟨bT,off,c,Bi,_,_,rfl,_,dy⟩:=SliceR.later ok hT hx;have r0:=dy h3 g3 0 1 (by decide);simp[-ag] at r0;have wj:=wrap_i64 (j+1) (by omega) (by omega);obtain⟨s3,Tk⟩:=w3.aA;have adi:(Edge.jc j4 k (b.to.take j)).length=n:=by rw[Edge.AD,uv]
  have aoi:AQ.length=n:=by rw[w3.len,adi]
  have hw:AQ[u]? =some AQ[u]:=aX (by omega);have CQ:(Edge.jc j4 k (b.to.take j))[u]? =some (Edge.jc j4 k (b.to.take j))[u]:=aX (by omega);generalize AQ[u]=wu at hw;generalize Zj:(Edge.jc j4 k (b.to.take j))[u]=xs at CQ;have N2:=ze Tk hw;have adh:xs.length<1000000:=by
   have h1:=Edge.Ac k u (b.to.take j) j4;rw[CQ] at h1;have JN:=cn u;simp at h1;have:(b.to.take j).length<=2:=by simp;omega
   simp at this;omega
  simp at q22;simp[-ag] at N2;have od3:=g3.ok.bA Tk;simp[q3,q4,q22,Qf,Gl,Bi,tC,aS,r0,X4,N2,-ag,od3];have g4:=aO g3.ok (bp.enc (k:Int)) 0;have w4:=w3.bt g3.ok g4;have hw4:bk bp (aL h3 (bp.enc (k:Int)) 0) (.slice (some ⟨h3.next,0,none⟩) 1 1) [(k:Int)]:=⟨_,_,rfl,.inr ⟨h3.next,0,_,_,_,_,rfl,cx _ _ _,by simp,by simp⟩⟩;obtain⟨v',h5,ha,yo,g5,MB⟩:=pY (bytes:=8) g4.ok (z:=[.int .i64 0]) rfl (w4.acc u wu xs hw CQ) hw4 adh (by decide) (by show n0<=h3.next+1;omega);refine kE ha ?_;obtain⟨V,rfl⟩:=cI.sv' yo;obtain⟨s5,U_,w5⟩:=w4.set g4.ok hw CQ g5 yo (fun b hb=>by rw[MB b hb];exact dK _);have KP: ∀b,ax wu.v b->n0<=b:=fun b hb=>(w3.acc u wu xs hw CQ).of hb;have hdl:u<=(rS.flat AQ).length-1:=by simp;omega
  have acp:u+1<=AQ.length:=by omega
  simp[X4,U_,acp,wj,Gl];refine⟨b.to.length-(j+1),by omega,j+1,AQ.set u V,rfl,by omega,by simp,?_,?_,?_,?_⟩
  .repeat (refine aw.set ?_)
   exact K
  .have u7:ab aG h h5:=(g3.trans g4).trans' g5 (fun _ _ h=>h) (fun b hb h=>by have:=KP b h;omega);exact u7.put ⟨s5,U_⟩ (.inl (by have:=w3.new;omega))
  .have:=g5.next;simp at this ⊢;omega
  .rw[Edge.HE hx];have:(Edge.tv (Edge.jc j4 k (b.to.take j)) k (u:Int))=(Edge.jc j4 k (b.to.take j)).set u (xs++[(k:Int)]):=by unfold Edge.tv;rw[UI,CQ];rfl
   rw[this];simpa using w5
 .have:j=b.to.length:=by omega
  subst this;rw[xV] at w3;simp[Qf,Gl];exact C _ _ AQ g3 Vm (K.set) w3
theorem Kh (ok:bu h) {name:ByteArray} {p r:Int} (hB:AU h B bs) (E:jo bs):
  aF FF Af [.agg ⟨au name p r B⟩] h (fun v h'=>ab aG h h'/\ ∃d ws,v= .slice (some ⟨d,0,none⟩) bs.length bs.length/\jm bp h.next h' d ws (Edge.bw (bj bs))):=by
 have ew:=SliceR.len hB;have hl:=E.len;have r1:roomy bs.length=true:=by simp[roomy];omega
 have r2:roomy (bs.length*24)=true:=by simp[roomy];omega
 refine aF.of HU ?_;unfold zy;simp[au,ew,r1,r2];refine aB.cut (fun h1=>ab aG h h1/\jm bp h.next h1 (h.next+1) (List.replicate bs.length fI) (List.replicate bs.length [])) ?_ ?_
 .have g1:=aO ok (au name p r B) 0;have:=J0 (aL h (au name p r B) 0) g1.ok bp bs.length h.next (Nat.le_succ _);refine⟨?_,by simpa [au,ew] using this⟩;have g2:=g1.new (jW [.slice none 0 0] bs.length) 0;simpa [au,ew] using g2
 rintro h1 ⟨g1,w1⟩;have hn1:h.next+1<h1.next:=by obtain⟨s,hb⟩:=w1.aA;exact g1.ok.bA hb
 refine aB.loop (AhI h B bs (h.next+1) h.next) ?_ (n:=bs.length) ⟨0,_,rfl,by omega,by simp,by simp[ew],by simp[ew],by simp,g1,by omega,by simpa [Edge.upto] using w1⟩;rintro m e h2 ⟨j,ws,rfl,hj,f3,f13,f14,f15,g2,NU,w2⟩;unfold wW;by_cases aS:j<bs.length
 .have hx:bs[j]? =some bs[j]:=aX aS;have hm:=zk aS;generalize bs[j]=x at hx hm;obtain⟨bb,off,c,ig,_,_,⟨P,L,T,rfl,sP,sL,sT⟩,_,dy⟩:=SliceR.later ok hB hx;have r0:=dy h2 g2 0 6 (by decide);simp[-ag] at r0;have wj:=wrap_i64 (j+1) (by omega) (by omega);have tC:=SliceR.len sT;simp at f13;have UD:=f13;rw[ig,ew] at UD;simp[f3,UD,f14,f15,aS,r0,-ag,av];refine aB.cut (fun h3=>ab aG h2 h3) ?_ ?_
  .exact(ab.refl g2.ok).var _ _
  rintro h3 g3;have dh:=g2.trans g3;refine M7 ok sT (E.two x hm) E.len (E.to x hm) (k:=j) (w2.bt g2.ok g3) (Edge.rN _ _ _) (fun u=>Edge.ox (fun ts jT=> ?_) u j) (by omega) dh (ug NU g3.next) (dK _) (by simp[f3]) (by simp) (by simp) (by simp[tC]) (by simp) ?_
  .unfold bj at jT;obtain⟨y,hy,rfl⟩:=j9.1 jT;exact E.two y hy
  .intro e' h' AQ g' KY K w';have Az:=K.at (t:=15) (by simp;exact f15);have q3:=K.at (t:=3) (by simp;exact f3);have WJ:=K.at (t:=13) (by simp;exact f13);have HA:=K.at (t:=14) (by simp;exact f14);simp[Az,wj];refine⟨bs.length-(j+1),by omega,j+1,AQ,rfl,by omega,by simp[q3],by simp[WJ],by simp[HA],by simp,g',ug NU (ug g3.next KY),?_⟩;have Ra:(bj bs)[j]? =some x.to:=by simp[bj,hx]
   have:Edge.upto bs.length (bj bs) (j+1)=Edge.jc (Edge.upto bs.length (bj bs) j) j x.to:=by show(match(bj bs)[j]? with|some ts=>Edge.jc (Edge.upto bs.length (bj bs) j) j ts|none=>Edge.upto bs.length (bj bs) j)=_;rw[Ra]
   rw[this];exact w'
 .have:j=bs.length:=by omega
  subst this;simp[f3,f14,f15];refine⟨g2,ws,?_⟩;have:Edge.bw (bj bs)=Edge.upto bs.length (bj bs) bs.length:=by simp[Edge.bw,bj]
  rw[this];exact w2
structure uO (b:GB):Prop where
 ph:b.eS.length<=140737488355328
 li:b.list.length<=140737488355328
 to:b.to.length<=140737488355328
 row: ∀p∈b.eS,p.row.length<=140737488355328
 args: ∀x∈b.list,x.args.length<=140737488355328
def vQ (n:Nat) (ai:Int) (bs:List GB):Prop:= ∀b∈bs,JW n ai b
theorem vQ.take {n:Nat} {ai:Int} {bs:List GB} {j:Nat} {b:GB} (h:vQ n ai (bs.take j)) (hx:bs[j]? =some b) (hb:JW n ai b):vQ n ai (bs.take (j+1)):=by
 intro x pL;rw[yn,hx] at pL;rcases tO.1 pL with h1|h1
 .exact h x h1
 .simp at h1;rw[h1];exact hb
theorem vQ.ends {ai:Int} (h:vQ bs.length ai bs) (hl:bs.length<=1000):jo bs:=by
 refine⟨hl,fun b hb=> ?_,fun b hb t ht=> ?_⟩
 .rcases(h b hb).kind with⟨_,e⟩|⟨_,t,e⟩|⟨_,t,u,e,_⟩<;>rw[e]<;>simp
 .have:=(h b hb).to t ht;unfold Z8 at this;omega
section
variable {gs fs blocks ah:SV} {name:ByteArray} {params ai:Int}
def akn (h:ae) (gs fs B ah:SV) (name:ByteArray) (params ai:Int) (bs:List GB) (m:Nat) (e:Env) (h2:ae):Prop:=
 ∃j:Nat,m=bs.length-j/\j<=bs.length/\Env.get e 1= .pointer (some ⟨h.next,0,none⟩)/\Env.get e 16=B.v/\Env.get e 17= .int .i64 bs.length/\Env.get e 18= .int .i64 j/\ab aG h h2/\h2.tr.get h.next=some (.aA (aH gs fs name params ai B ah) false 0 0)/\vQ bs.length ai (bs.take j)
theorem QE (ok:bu h) (hw:CA h) (hr:0<=ai/\ai<1000000) (hB:AU h B bs) (hl:bs.length<=1000) (sm: ∀b∈bs,uO b) (g1:ab aG h h1) (NF:h1.tr.get h.next=some (.aA (aH gs fs name params ai B ah) false 0 0))
  {e:Env} {Q:aP->Env->ae->Prop} (f1:Env.get e 1= .pointer (some ⟨h.next,0,none⟩)) (f16:Env.get e 16=B.v) (f17:Env.get e 17= .int .i64 bs.length) (f18:Env.get e 18= .int .i64 0)
  (bad: ∀c e' h',c≠0->Env.get e' 2= .int .i64 c->ab aG h h'->Q .ret e' h')
  (wH: ∀e' h',Env.get e' 1= .pointer (some ⟨h.next,0,none⟩)->ab aG h h'->h'.tr.get h.next=some (.aA (aH gs fs name params ai B ah) false 0 0)->vQ bs.length ai bs->Q (.exit 0) e' h'):
  aB FF (.loop iT) e h1 Q:=by
 have ew:=SliceR.len hB;refine aB.loop (akn h gs fs B ah name params ai bs) ?_ (n:=bs.length) ⟨0,rfl,by omega,f1,f16,f17,f18,g1,NF,fun b hb=>by simp at hb⟩;rintro m e h2 ⟨j,rfl,hj,f1,f16,f17,f18,g2,vF,hE⟩;unfold iT;by_cases aS:j<bs.length
 .have hx:bs[j]? =some bs[j]:=aX aS;have hm:=zk aS;generalize bs[j]=x at hx hm;obtain⟨bb,off,c,ig,_,_,⟨P,L,T,rfl,sP,sL,sT⟩,_,dy⟩:=SliceR.later ok hB hx;have r0:=dy h2 g2 0 6 (by decide);simp[-ag] at r0;have wj:=wrap_i64 (j+1) (by omega) (by omega);have oC2:=g2.ok.bA vF;have wJ:=vF;simp only[aH] at wJ;have abS:=f16;simp at abS;rw[ig,ew] at abS;simp[f1,abS,f17,f18,aS,r0,-ag,av,bg,aI,oC2,aq wJ];refine aE.cut (fun h3=>ab aG h2 h3) ?_ ?_
  .exact(ab.refl g2.ok).var _ _
  rintro h3 g3;have dh:=g2.trans g3;refine aE.call (V:=tU (fun c=>c=0->JW bs.length ai x) h3) ?_ ?_
  .have E:aF FF kX [.agg ⟨aH gs fs name params ai B ah⟩,.agg ⟨[.int .i64 x.kind,.bool x.on.1,.int .i64 x.on.2,T.v]⟩] h3 (tU (fun c=>c=0->JW bs.length ai x) h3):=by rw[<-ew];exact Uy dh.ok (hw.grow ok dh) hr (by omega) (b:=x) (by have:=(sm x hm).to;omega) (sT.mono ok dh fun _ _ h=>h)
   simpa [aH,ew] using E
  rintro _ h4 ⟨g4,c,rfl,hc⟩;have mK:=dh.trans g4;by_cases he:c=0
  .subst he;simp[f18,wj];refine⟨bs.length-(j+1),by omega,j+1,rfl,by omega,by simp[f1],by simp[f16],by simp[f17],by simp,mK,(g3.trans g4).get g2.ok vF (fun h=>h),hE.take hx (hc rfl)⟩
  .have:=qV he;simp[this];exact bad c _ _ he (by simp) mK
 .have:j=bs.length:=by omega
  subst this;rw[xV] at hE;simp[f17,f18];exact wH _ _ (by simp[f1]) g2 vF hE
structure TJ (ai:Int) (tg:List (List Int)) (i:Nat) (b:GB):Prop where
 eS: ∀p∈b.eS,i≠0/\ ∃l,tg[i]? =some l/\Gq ai l.length p
 list: ∀x∈b.list,zv ai x
def ML (ai:Int) (tg:List (List Int)) (bs:List GB):Prop:= ∀(i:Nat) b,bs[i]? =some b->TJ ai tg i b
def akK (h h1:ae) (e0:Env) (P:SV) (ai:Int) (n:Nat) (i:Nat) (ps:List GP) (C:Nat) (cc:List Value) (sC:Nat) (m:Nat) (e:Env) (h2:ae):Prop:=
 ∃j:Nat,m=ps.length-j/\j<=ps.length/\aw [47,48,49,9,50,51,52,53,10,54,55,56,57,46,2] e0 e/\Env.get e 46= .int .i64 j/\ab aG h1 h2/\ ∀p∈ps.take j,i≠0/\Gq ai n p
theorem QG (ok:bu h) (hr:0<=ai/\ai<1000000) {i:Nat} {l:List Int} (hi:j4[i]? =some l) (hA:SliceR (X9 h1) 1 h1 AH.v j4) {P:SV} {ps:List GP} (hP:SliceR (pR h) 2 h P.v ps) (va:ps.length<=140737488355328) (sm: ∀p∈ps,p.row.length<=140737488355328) (g1:ab aG h h1) (NF:h1.tr.get C=some (.aA (aH gs fs name params ai B AH) false 0 sC))
  {e:Env} {Q:aP->Env->ae->Prop} (f1:Env.get e 1= .pointer (some ⟨C,0,none⟩)) (f6:Env.get e 6= .int .i64 i) (f44:Env.get e 44=P.v) (f45:Env.get e 45= .int .i64 ps.length) (f46:Env.get e 46= .int .i64 0)
  (bad: ∀c e' h',c≠0->Env.get e' 2= .int .i64 c->ab aG h1 h'->Q .ret e' h')
  (wH: ∀e' h',aw [47,48,49,9,50,51,52,53,10,54,55,56,57,46,2] e e'->ab aG h1 h'->(∀p∈ps,i≠0/\Gq ai l.length p)->Q (.exit 4) e' h'):
  aB FF (.loop iQ) e h1 Q:=by
 have jl:=SliceR.len hP;refine aB.loop (akK h h1 e P ai l.length i ps C (aH gs fs name params ai B AH) sC) ?_ (n:=ps.length) ⟨0,rfl,by omega,aw.refl _ _,f46,.refl g1.ok,fun p hp=>by simp at hp⟩;rintro m e' h2 ⟨j,rfl,hj,K,WM,g2,hE⟩;have iI:=g1.trans g2;unfold iQ;have q1:=K.at f1;have q6:=K.at f6;have Jk:=K.at f44;have OC:=K.at f45;by_cases aS:j<ps.length
 .have hx:ps[j]? =some ps[j]:=aX aS;have hm:=zk aS;generalize ps[j]=x at hx hm;obtain⟨bb,off,c,oZ,_,_,⟨W,rfl,sW⟩,_,dy⟩:=SliceR.later ok hP hx;have r0:=dy h2 iI 0 2 (by decide);simp[-ag] at r0;have wj:=wrap_i64 (j+1) (by omega) (by omega);have vF:=g2.get g1.ok NF (fun h=>h);have oC2:=g2.ok.bA vF;simp only[aH] at vF;simp at Jk;rw[oZ,jl] at Jk;simp[q1,q6,Jk,OC,WM,aS,r0,-ag,av,bg,aI,oC2,aq vF];refine aE.cut (fun h3=>ab aG h2 h3) ?_ ?_
  .exact(ab.refl g2.ok).var _ _
  rintro h3 g3;have dh:=iI.trans g3;have Nz:=g2.trans g3;refine aE.call (V:=tU (fun c=>c=0->i≠0/\Gq ai l.length x) h3) ?_ ?_
  .have E:aF FF kY [.agg ⟨aH gs fs name params ai B AH⟩,.int .i64 i,.agg ⟨[.int .i64 x.dst,W.v]⟩] h3 (tU (fun c=>c=0->i≠0/\Gq ai l.length x) h3):=
    WD dh.ok hr (hA.mono g1.ok Nz fun _ _ r=>r.mono g1.ok Nz) hi (by have:=sm x hm;omega) (sW.mono ok dh fun _ _ h=>h)
   simpa [aH] using E
  rintro _ h4 ⟨g4,c,rfl,hc⟩;have XB:=Nz.trans g4;by_cases he:c=0
  .subst he;simp[WM,wj];refine⟨ps.length-(j+1),by omega,j+1,rfl,by omega,?_,by simp,XB,?_⟩
   .repeat (refine aw.set ?_)
    exact K
   .intro p hp;rw[yn,hx] at hp;rcases tO.1 hp with h|h
    .exact hE p h
    .simp at h;rw[h];exact hc rfl
  .have:=qV he;simp[this];exact bad c _ _ he (by simp) XB
 .have:j=ps.length:=by omega
  subst this;rw[xV] at hE;simp[OC,WM];exact wH _ _ (K.set) g2 hE
def akw (h h1:ae) (e0:Env) (ai:Int) (xs:List GI) (m:Nat) (e:Env) (h2:ae):Prop:=
 ∃j:Nat,m=xs.length-j/\j<=xs.length/\aw [62,63,64,12,65,66,67,13,68,69,70,71,61,2] e0 e/\Env.get e 61= .int .i64 j/\ab aG h1 h2/\ ∀x∈xs.take j,zv ai x
theorem QF (ok:bu h) (hr:0<=ai/\ai<1000000) (hF:SliceR (fR h) 4 h fs.v funcs) (iL:funcs.length<1000000/\ ∀f∈funcs,f.params<=6) {L:SV} {xs:List GI} (hL:SliceR (iR h) 8 h L.v xs) (uv:xs.length<=140737488355328) (sm: ∀x∈xs,x.args.length<=140737488355328) (g1:ab aG h h1) (NF:h1.tr.get C=some (.aA (aH gs fs name params ai B AH) false 0 sC))
  {e:Env} {Q:aP->Env->ae->Prop} (f1:Env.get e 1= .pointer (some ⟨C,0,none⟩)) (f59:Env.get e 59=L.v) (f60:Env.get e 60= .int .i64 xs.length) (f61:Env.get e 61= .int .i64 0)
  (bad: ∀c e' h',c≠0->Env.get e' 2= .int .i64 c->ab aG h1 h'->Q .ret e' h')
  (wH: ∀e' h',aw [62,63,64,12,65,66,67,13,68,69,70,71,61,2] e e'->ab aG h1 h'->(∀x∈xs,zv ai x)->Q (.exit 6) e' h'):
  aB FF (.loop iP) e h1 Q:=by
 have tB:=SliceR.len hL;refine aB.loop (akw h h1 e ai xs) ?_ (n:=xs.length) ⟨0,rfl,by omega,aw.refl _ _,f61,.refl g1.ok,fun p hp=>by simp at hp⟩;rintro m e' h2 ⟨j,rfl,hj,K,q61,g2,hE⟩;have iI:=g1.trans g2;unfold iP;have q1:=K.at f1;have q59:=K.at f59;have q60:=K.at f60;by_cases aS:j<xs.length
 .have hx:xs[j]? =some xs[j]:=aX aS;have hm:=zk aS;generalize xs[j]=x at hx hm;obtain⟨bb,off,c,UW,_,_,⟨W,rfl,sW⟩,_,dy⟩:=SliceR.later ok hL hx;have r0:=dy h2 iI 0 8 (by decide);simp[aC,-ag] at r0;have wj:=wrap_i64 (j+1) (by omega) (by omega);have vF:=g2.get g1.ok NF (fun h=>h);have oC2:=g2.ok.bA vF;simp only[aH] at vF;simp at q59;rw[UW,tB] at q59;simp[q1,q59,q60,q61,aS,r0,-ag,av,bg,aI,oC2,aq vF];refine aE.cut (fun h3=>ab aG h2 h3) ?_ ?_
  .exact(ab.refl g2.ok).var _ _
  rintro h3 g3;have dh:=iI.trans g3;have Nz:=g2.trans g3;refine aE.call (V:=tU (fun c=>c=0->zv ai x) h3) ?_ ?_
  .have E:=VJ (gs:=gs) (fs:=fs) (name:=name) (params:=params) (ai:=ai) (blocks:=B) (ah:=AH) dh.ok hr (hF.mono ok dh fun _ _ r=>r.mono ok dh) iL (x:=x) (sW.mono ok dh fun _ _ h=>h) (by have:=sm x hm;omega);simpa [aH,aC] using E
  rintro _ h4 ⟨g4,c,rfl,hc⟩;have XB:=Nz.trans g4;by_cases he:c=0
  .subst he;simp[q61,wj];refine⟨xs.length-(j+1),by omega,j+1,rfl,by omega,?_,by simp,XB,?_⟩
   .repeat (refine aw.set ?_)
    exact K
   .intro p hp;rw[yn,hx] at hp;rcases tO.1 hp with h|h
    .exact hE p h
    .simp at h;rw[h];exact hc rfl
  .have:=qV he;simp[this];exact bad c _ _ he (by simp) XB
 .have:j=xs.length:=by omega
  subst this;rw[xV] at hE;simp[q60,q61];exact wH _ _ (K.set) g2 hE
end
section
variable {gs fs blocks ah:SV} {name:ByteArray} {params ai:Int}
def BlI (h h1:ae) (C:Nat) (B:SV) (ai:Int) (bs:List GB) (j4:List (List Int)) (m:Nat) (e:Env) (h2:ae):Prop:=
 ∃j:Nat,m=bs.length-j/\j<=bs.length/\Env.get e 1= .pointer (some ⟨C,0,none⟩)/\Env.get e 36=B.v/\Env.get e 37= .int .i64 bs.length/\Env.get e 38= .int .i64 j/\ab aG h1 h2/\ML ai j4 (bs.take j)
theorem J9 (ok:bu h) (hr:0<=ai/\ai<1000000) (uv:j4.length=bs.length) (hA:SliceR (X9 h1) 1 h1 AH.v j4) (hF:SliceR (fR h) 4 h fs.v funcs) (iL:funcs.length<1000000/\ ∀f∈funcs,f.params<=6) (hB:AU h B bs) (hl:bs.length<=1000) (sm: ∀b∈bs,uO b) (g1:ab aG h h1)
  {C sC:Nat} (NF:h1.tr.get C=some (.aA (aH gs fs name params ai B AH) false 0 sC)) {e:Env} {Q:aP->Env->ae->Prop} (f1:Env.get e 1= .pointer (some ⟨C,0,none⟩)) (f36:Env.get e 36=B.v) (f37:Env.get e 37= .int .i64 bs.length) (f38:Env.get e 38= .int .i64 0)
  (bad: ∀c e' h',c≠0->Env.get e' 2= .int .i64 c->ab aG h1 h'->Q .ret e' h')
  (wH: ∀e' h',ab aG h1 h'->ML ai j4 bs->Q (.exit 2) e' h'):
  aB FF (.loop iS) e h1 Q:=by
 have ew:=SliceR.len hB;refine aB.loop (BlI h h1 C B ai bs j4) ?_ (n:=bs.length) ⟨0,rfl,by omega,f1,f36,f37,f38,.refl g1.ok,fun i b hb=>by simp at hb⟩;rintro m e h2 ⟨j,rfl,hj,f1,f36,f37,f38,g2,hE⟩;have iI:=g1.trans g2;unfold iS;by_cases aS:j<bs.length
 .have hx:bs[j]? =some bs[j]:=aX aS;have hm:=zk aS;generalize bs[j]=x at hx hm;obtain⟨bb,off,c,ig,_,_,⟨P,L,T,rfl,sP,sL,sT⟩,_,dy⟩:=SliceR.later ok hB hx;have r0:=dy h2 iI 0 6 (by decide);simp[-ag] at r0;have wj:=wrap_i64 (j+1) (by omega) (by omega);have jl:=SliceR.len sP;have tB:=SliceR.len sL;have abT:=f36;simp at abT;rw[ig,ew] at abT;obtain⟨l,ff⟩: ∃l,j4[j]? =some l:=⟨_,aX (by omega)⟩;simp[abT,f37,f38,aS,r0,-ag,av,bg,aI];refine aB.cut (fun h3=>ab aG h2 h3/\ ∃s,h3.tr.get h2.next=some (.aA [P.v,L.v,.int .i64 x.kind,.bool x.on.1,.int .i64 x.on.2,T.v] false 0 s)) ?_ ?_
  .exact⟨(ab.refl g2.ok).var _ _,h2.clock,by simp⟩
  rintro h3 ⟨g3,s3,Mz⟩;have dh:=iI.trans g3;have Nz:=g2.trans g3;refine QG (C:=C) dh.ok hr ff (hA.mono g1.ok Nz fun _ _ r=>r.mono g1.ok Nz) (sP.mono ok dh fun _ _ r=>r.mono ok dh) (sm x hm).ph (sm x hm).row (.refl dh.ok) (Nz.get g1.ok NF (fun h=>h)) (by simp[f1]) (by simp) (by simp) (by simp[jl]) (by simp) ?_ ?_
  .intro c e' h' hc q g';simp[q];exact bad c _ _ hc q (Nz.trans g')
  .intro e4 h4 K4 g4 hph;have XB:=Nz.trans g4;have mK:=g1.trans XB;have q7:=K4.at (t:=7) (v:= .pointer (some ⟨h2.next,0,none⟩)) (by simp);have q1:=K4.at (t:=1) (v:= .pointer (some ⟨C,0,none⟩)) (by simp[f1]);have Ya:=K4.at (t:=36) (v:=B.v) (by simp;exact f36);have Yb:=K4.at (t:=37) (v:= .int .i64 bs.length) (by simp[f37]);have Sd:=K4.at (t:=38) (v:= .int .i64 j) (by simp[f38]);have XO:=g4.get dh.ok Mz (fun h=>h);simp at XO;simp[q7,XO];refine QF (C:=C) mK.ok hr (hF.mono ok mK fun _ _ r=>r.mono ok mK) iL (sL.mono ok mK fun _ _ r=>r.mono ok mK) (sm x hm).li (sm x hm).args (.refl mK.ok) (XB.get g1.ok NF (fun h=>h)) (by simp[q1]) (by simp) (by simp[tB]) (by simp) ?_ ?_
   .intro c e' h' hc q g';simp[q];exact bad c _ _ hc q (XB.trans g')
   .intro e5 h5 K5 g5 hli;have u1:=K5.at (t:=1) (v:= .pointer (some ⟨C,0,none⟩)) (by simp[q1]);have u36:=K5.at (t:=36) (v:=B.v) (by simp;simpa using Ya);have u37:=K5.at (t:=37) (v:= .int .i64 bs.length) (by simp[Yb]);have u38:=K5.at (t:=38) (v:= .int .i64 j) (by simp[Sd]);simp[u38,wj];refine⟨bs.length-(j+1),by omega,j+1,rfl,by omega,by simp[u1],by simp;simpa using u36,by simp[u37],by simp,XB.trans g5,?_⟩;intro i b hb;rw[yn,hx] at hb;by_cases hi:i<j
    .rw[KH (by simp;omega)] at hb;exact hE i b hb
    .rw[Mv (by simp;omega)] at hb;have vL:i=j:=by have:=(bY.mp hb).1;simp at this;omega
     subst vL;simp at hb;have:i-min i bs.length=0:=by omega
     rw[this] at hb;simp at hb;subst hb;exact⟨fun p hp=>⟨(hph p hp).1,l,ff,(hph p hp).2⟩,hli⟩
 .have:j=bs.length:=by omega
  subst this;rw[xV] at hE;simp[f37,f38];exact wH _ _ g2 hE
structure AZ (ai:Int) (bs:List GB):Prop where
 ends:vQ bs.length ai bs
 J8:ML ai (Edge.bw (bj bs)) bs
theorem QD (ok:bu h) (hw:CA h) (hr:0<=ai/\ai<1000000) (hF:SliceR (fR h) 4 h fs.v funcs) (iL:funcs.length<1000000/\ ∀f∈funcs,f.params<=6) (hB:AU h B bs) (hl:bs.length<=1000) (sm: ∀b∈bs,uO b):
  aF FF pM [.agg ⟨aH gs fs name params ai B ah⟩] h (tU (fun c=>c=0->AZ ai bs) h):=by
 have ew:=SliceR.len hB;refine aF.of xJ ?_;unfold pz;simp[aH,ew];refine aB.cut (fun h1=>ab aG h h1/\h1.tr.get h.next=some (.aA (aH gs fs name params ai B ah) false 0 0)) ?_ ?_
 .exact⟨(ab.refl ok).new _ _,by simp[aH,ew]⟩
 rintro h1 ⟨g1,NF⟩;refine QE ok hw hr hB hl sm g1 NF (by simp) (by simp[ew]) (by simp) (by simp) ?_ ?_
 .intro c e' h' hc q g';simp[q];exact⟨g',c,rfl,fun h=>absurd h hc⟩
 .intro e2 h2 q1 g2 vF hE;have wJ:=vF;simp[aH] at wJ;simp[q1,wJ];have A:=Kh g2.ok (name:=name) (p:=params) (r:=ai) (hB.mono ok g2) (hE.ends hl);refine aE.call (V:=fun v h'=>ab aG h2 h'/\ ∃d ws,v= .slice (some ⟨d,0,none⟩) bs.length bs.length/\jm bp h2.next h' d ws (Edge.bw (bj bs))) (by simpa [au] using A) ?_;rintro _ h3 ⟨g3,d,ws,rfl,w3⟩;have dh:=g2.trans g3;have Mx:=g3.get g2.ok vF (fun h=>h);have YM:=Mx;simp[aH] at YM;simp[q1,YM];have uv:(Edge.bw (bj bs)).length=bs.length:=by rw[Edge.dz];simp[bj]
  have oC3:=(g2.ok.bA vF).lt;refine aB.cut (fun h4=>ab aG h h4/\SliceR (X9 h4) 1 h4 (SV.v ⟨some ⟨d,0,none⟩,bs.length,bs.length⟩) (Edge.bw (bj bs))/\ ∃s,h4.tr.get h.next=some (.aA (aH gs fs name params ai B ⟨some ⟨d,0,none⟩,bs.length,bs.length⟩) false 0 s)) ?_ ?_
  .have gp:ab (· =h.next) h3 (put h3 h.next 6 [.slice gs.a gs.l gs.c,.slice fs.a fs.l fs.c,.string name,.int .i64 params,.int .i64 ai,.slice B.a B.l B.c,.slice ah.a ah.l ah.c] [.slice (some ⟨d,0,none⟩) bs.length bs.length] 0):=aM dh.ok YM;refine⟨dh.put ⟨_,YM⟩ (.inl (dK _)),?_,h3.clock,by simp[aH]⟩;have w4:=w3.grow dh.ok gp (fun b hb e=>by omega);have:=Pv (c:=bs.length) w4;rw[uv] at this;simpa using this
  rintro h4 ⟨g4,Td,s4,US⟩;refine J9 (AH:=⟨some ⟨d,0,none⟩,bs.length,bs.length⟩) ok hr uv Td hF iL hB hl sm g4 US (by simp[q1]) (by simp) (by simp[ew]) (by simp) ?_ ?_
  .intro c e' h' hc q g';simp[q];exact⟨g4.trans g',c,rfl,fun h=>absurd h hc⟩
  .intro e' h' g' hb;simp;exact⟨g4.trans g',0,rfl,fun _=>⟨hE,hb⟩⟩
end
def afi (h:ae) (s:ByteArray) (m:Nat) (e:Env) (h2:ae):Prop:= ∃j:Nat,m=s.size-j/\Env.get e 0= .string s/\Env.get e 14= .int .i64 s.size/\Env.get e 15= .int .i64 j/\h2=h/\j<=s.size
theorem Hq (h:ae) (s:ByteArray):aF FF Cc [.string s] h (fun v h'=>h'=h/\ ∃b:Bool,v= .bool b):=by
 refine aF.of Ka ?_;unfold BH;by_cases h1:s.size<1
 .have II:(s.size:Int)<1:=by omega
  simp[II]
 have II: ¬(s.size:Int)<1:=by omega
 by_cases h2:12<s.size
 .have JN:(12:Int)<s.size:=by omega
  simp[II,JN]
 have JN: ¬(12:Int)<s.size:=by omega
 simp[II,JN];refine aB.loop (afi h s) ?_ (n:=s.size)
  ⟨0,rfl,by simp,by simp,by simp,rfl,by omega⟩
 rintro m e h3 ⟨j,rfl,f0,f14,f15,rfl,hj⟩;unfold yC;by_cases aS:j<s.size
 .have wj:=wrap_i64 (j+1) (by omega) (by omega);obtain⟨c,hc⟩: ∃c:Int,((s[j]'aS).toNat:Int)=c:=⟨_,rfl⟩;by_cases k1:97<=c
  .by_cases k2:c<=122
   .have k3: ¬122<c:=by omega
    have k4: ¬c<97:=by omega
    simp[f0,f14,f15,aS,hc,k1,k2,k3,k4,wj];exact⟨s.size-(j+1),by omega,j+1,rfl,by simp[f0],by simp[f14],by simp,rfl,by omega⟩
   .have k3:122<c:=by omega
    have k4: ¬c<97:=by omega
    by_cases q1:65<=c
    .by_cases q2:c<=90
     .have q3: ¬90<c:=by omega
      have q4: ¬c<65:=by omega
      simp[f0,f14,f15,aS,hc,k1,k2,k3,k4,q1,q2,q3,q4,wj];exact⟨s.size-(j+1),by omega,j+1,rfl,by simp[f0],by simp[f14],by simp,rfl,by omega⟩
     .have q3:90<c:=by omega
      have q4: ¬c<65:=by omega
      by_cases u1:c=95
      .have u2:(c==95)=true:=by simpa using u1
       simp[f0,f14,f15,aS,hc,k1,k2,k3,k4,q1,q2,q3,q4,u2,wj];exact⟨s.size-(j+1),by omega,j+1,rfl,by simp[f0],by simp[f14],by simp,rfl,by omega⟩
      .have u2:(c==95)=false:=by simpa using u1
       by_cases d1:0<j
       .have d2: ¬(j=0):=by omega
        by_cases p1:48<=c
        .by_cases p2:c<=57
         .have p3: ¬57<c:=by omega
          have p4: ¬c<48:=by omega
          simp[f0,f14,f15,aS,hc,k1,k2,k3,k4,q1,q2,q3,q4,u2,d1,d2,p1,p2,p3,p4,wj];exact⟨s.size-(j+1),by omega,j+1,rfl,by simp[f0],by simp[f14],by simp,rfl,by omega⟩
         .have p3:57<c:=by omega
          have p4: ¬c<48:=by omega
          simp[f0,f14,f15,aS,hc,k1,k2,k3,k4,q1,q2,q3,q4,u2,d1,d2,p1,p2,p3,p4]
        .have p2:c<48:=by omega
         simp[f0,f14,f15,aS,hc,k1,k2,k3,k4,q1,q2,q3,q4,u2,d1,d2,p1,p2]
       .have d2:j=0:=by omega
        subst d2;simp[f0,f14,f15,aS,hc,k1,k2,k3,k4,q1,q2,q3,q4,u2]
    .have q2:c<65:=by omega
     by_cases u1:c=95
     .have u2:(c==95)=true:=by simpa using u1
      simp[f0,f14,f15,aS,hc,k1,k2,k3,k4,q1,q2,u2,wj];exact⟨s.size-(j+1),by omega,j+1,rfl,by simp[f0],by simp[f14],by simp,rfl,by omega⟩
     .have u2:(c==95)=false:=by simpa using u1
      by_cases d1:0<j
      .have d2: ¬(j=0):=by omega
       by_cases p1:48<=c
       .by_cases p2:c<=57
        .have p3: ¬57<c:=by omega
         have p4: ¬c<48:=by omega
         simp[f0,f14,f15,aS,hc,k1,k2,k3,k4,q1,q2,u2,d1,d2,p1,p2,p3,p4,wj];exact⟨s.size-(j+1),by omega,j+1,rfl,by simp[f0],by simp[f14],by simp,rfl,by omega⟩
        .have p3:57<c:=by omega
         have p4: ¬c<48:=by omega
         simp[f0,f14,f15,aS,hc,k1,k2,k3,k4,q1,q2,u2,d1,d2,p1,p2,p3,p4]
       .have p2:c<48:=by omega
        simp[f0,f14,f15,aS,hc,k1,k2,k3,k4,q1,q2,u2,d1,d2,p1,p2]
      .have d2:j=0:=by omega
       subst d2;simp[f0,f14,f15,aS,hc,k1,k2,k3,k4,q1,q2,u2]
  .have k2:c<97:=by omega
   by_cases q1:65<=c
   .by_cases q2:c<=90
    .have q3: ¬90<c:=by omega
     have q4: ¬c<65:=by omega
     simp[f0,f14,f15,aS,hc,k1,k2,q1,q2,q3,q4,wj];exact⟨s.size-(j+1),by omega,j+1,rfl,by simp[f0],by simp[f14],by simp,rfl,by omega⟩
    .have q3:90<c:=by omega
     have q4: ¬c<65:=by omega
     by_cases u1:c=95
     .have u2:(c==95)=true:=by simpa using u1
      simp[f0,f14,f15,aS,hc,k1,k2,q1,q2,q3,q4,u2,wj];exact⟨s.size-(j+1),by omega,j+1,rfl,by simp[f0],by simp[f14],by simp,rfl,by omega⟩
     .have u2:(c==95)=false:=by simpa using u1
      by_cases d1:0<j
      .have d2: ¬(j=0):=by omega
       by_cases p1:48<=c
       .by_cases p2:c<=57
        .have p3: ¬57<c:=by omega
         have p4: ¬c<48:=by omega
         simp[f0,f14,f15,aS,hc,k1,k2,q1,q2,q3,q4,u2,d1,d2,p1,p2,p3,p4,wj];exact⟨s.size-(j+1),by omega,j+1,rfl,by simp[f0],by simp[f14],by simp,rfl,by omega⟩
        .have p3:57<c:=by omega
         have p4: ¬c<48:=by omega
         simp[f0,f14,f15,aS,hc,k1,k2,q1,q2,q3,q4,u2,d1,d2,p1,p2,p3,p4]
       .have p2:c<48:=by omega
        simp[f0,f14,f15,aS,hc,k1,k2,q1,q2,q3,q4,u2,d1,d2,p1,p2]
      .have d2:j=0:=by omega
       subst d2;simp[f0,f14,f15,aS,hc,k1,k2,q1,q2,q3,q4,u2]
   .have q2:c<65:=by omega
    by_cases u1:c=95
    .have u2:(c==95)=true:=by simpa using u1
     simp[f0,f14,f15,aS,hc,k1,k2,q1,q2,u2,wj];exact⟨s.size-(j+1),by omega,j+1,rfl,by simp[f0],by simp[f14],by simp,rfl,by omega⟩
    .have u2:(c==95)=false:=by simpa using u1
     by_cases d1:0<j
     .have d2: ¬(j=0):=by omega
      by_cases p1:48<=c
      .by_cases p2:c<=57
       .have p3: ¬57<c:=by omega
        have p4: ¬c<48:=by omega
        simp[f0,f14,f15,aS,hc,k1,k2,q1,q2,u2,d1,d2,p1,p2,p3,p4,wj];exact⟨s.size-(j+1),by omega,j+1,rfl,by simp[f0],by simp[f14],by simp,rfl,by omega⟩
       .have p3:57<c:=by omega
        have p4: ¬c<48:=by omega
        simp[f0,f14,f15,aS,hc,k1,k2,q1,q2,u2,d1,d2,p1,p2,p3,p4]
      .have p2:c<48:=by omega
       simp[f0,f14,f15,aS,hc,k1,k2,q1,q2,u2,d1,d2,p1,p2]
     .have d2:j=0:=by omega
      subst d2;simp[f0,f14,f15,aS,hc,k1,k2,q1,q2,u2]
 .have:j=s.size:=by omega
  subst this;simp[f14,f15]
def tz:Enc ByteArray:=⟨fun x=>[.string x],1,fun _=>rfl,by decide,fun _=>rfl⟩
@[simp] theorem aek:tz.sz=1:=rfl
@[simp] theorem abN (x:ByteArray):tz.enc x=[.string x]:=rfl
theorem Gh (s:bk tz h v xs) (hl:xs.length<1000000) (x:ByteArray):
  aF FF iE [v,.string x] h (fun v h'=>h'=h/\ ∃i:Int,v= .int .i64 i):=by
 obtain⟨a,cap,rfl,_⟩:=id s;refine aF.of pb ?_;unfold iB;simp;refine aB.loop (fun m e h2=> ∃j:Nat,m=xs.length-j/\j<=xs.length/\Env.get e 0= .slice a xs.length cap/\Env.get e 1= .string x/\Env.get e 7= .int .i64 xs.length/\Env.get e 8= .int .i64 j/\h2=h) ?_ (n:=xs.length)
  ⟨0,rfl,by omega,by simp,by simp,by simp,by simp,rfl⟩
 rintro m e h2 ⟨j,rfl,hj,f0,f1,f7,f8,rfl⟩;unfold gU;by_cases aS:j<xs.length
 .have hx:xs[j]? =some xs[j]:=aX aS;generalize xs[j]=y at hx;obtain⟨b,off,c,hv,_,_,dy⟩:=s.read hx;have r0:=dy 0 1 (by decide);cases hv;simp[-ag] at r0;obtain⟨j',Ra⟩: ∃j',j'=j+1:=⟨_,rfl⟩;have wj:IntKind.i64.wrap ((j:Int)+1)=(j':Int):=by rw[wrap_i64 _ (by omega) (by omega)];omega
  cases Gg:(x==y) with
  |true=>simp[f0,f1,f7,f8,aS,r0,Gg,-ag]
  |false=>
   simp[f0,f1,f7,f8,aS,r0,Gg,wj,-ag];exact⟨xs.length-j',by omega,j',rfl,by omega,rfl⟩
 .have:j=xs.length:=by omega
  subst this;simp[f7,f8]
theorem ud (s:bk tz h v xs) (hl:xs.length<1000000) (x:ByteArray):
  aF FF gG [v,.string x] h (fun v h'=>h'=h/\ ∃b:Bool,v= .bool b):=by
 refine aF.of mG ?_;unfold gC;simp;refine aE.call (by simpa using Gh s hl x) ?_;rintro _ h2 ⟨rfl,i,rfl⟩;by_cases h0:0<=i
 .simp[h0]
 .have h0':i<0:=by omega
  simp[h0,h0']
structure yI (f:GF):Prop where
 params:0<=f.params/\f.params<=6
 ai:f.params<=f.ai/\f.ai<=100
 blocks:1<=f.blocks.length/\f.blocks.length<=40
 many:fL f.blocks<=300
section
variable {gs fs ah:SV}
def afb (h:ae) (gs fs B ah:SV) (f:GF) (v:Value) (m:Nat) (e:Env) (h2:ae):Prop:=
 ∃j:Nat,m=f.blocks.length-j/\j<=f.blocks.length/\Env.get e 1=v/\Env.get e 2= .pointer (some ⟨h.next,0,none⟩)/\Env.get e 5= .int .i64 (IntKind.i64.wrap (fL (f.blocks.take j):Int))/\Env.get e 10=B.v/\Env.get e 11= .int .i64 f.blocks.length/\Env.get e 12= .int .i64 j/\ab aG h h2/\h2.tr.get h.next=some (.aA (aH gs fs f.name f.params f.ai B ah) false 0 0)
theorem Q7 (ok:bu h) {f:GF} (hB:AU h B f.blocks) (hm:Fits f.blocks) (s:bk tz h v xs) (hl:xs.length<1000000):
  aF FF pN [.agg ⟨aH gs fs f.name f.params f.ai B ah⟩,v] h (tU (fun c=>c=0->yI f) h):=by
 have ew:=SliceR.len hB;refine aF.of xK ?_;unfold pA;simp[aH,ew];refine aB.cut (fun h1=>ab aG h h1/\h1.tr.get h.next=some (.aA (aH gs fs f.name f.params f.ai B ah) false 0 0)) ?_ ?_
 .exact⟨(ab.refl ok).new _ _,by simp[aH,ew]⟩
 rintro h1 ⟨g1,NF⟩;refine aB.loop (afb h gs fs B ah f v) ?_ (n:=f.blocks.length) ⟨0,rfl,by omega,by simp,by simp,by simp[fL,wrap_i64],by simp[ew],by simp,by simp,g1,NF⟩;rintro m e h2 ⟨j,rfl,hj,f1,f2,f5,f10,f11,f12,g2,vF⟩;unfold mR;by_cases aS:j<f.blocks.length
 .have hx:f.blocks[j]? =some f.blocks[j]:=aX aS;generalize f.blocks[j]=x at hx;obtain⟨bb,off,c,ig,_,_,⟨P,L,T,rfl,sP,sL,sT⟩,_,dy⟩:=SliceR.later ok hB hx;have r0:=dy h2 g2 0 6 (by decide);simp[-ag] at r0;have jl:=SliceR.len sP;have tB:=SliceR.len sL;have hle:=Eu hx;have hf:=hm.2 x (dk hx);have NO:=hm.1;have wj:=wrap_i64 (j+1) (by omega) (by omega);have w1:IntKind.i64.wrap ((x.eS.length:Int)+(x.list.length:Int))=(x.eS.length:Int)+(x.list.length:Int):=wrap_i64 _ (by omega) (by omega);have w2:IntKind.i64.wrap (IntKind.i64.wrap (fL (f.blocks.take j):Int)+((x.eS.length:Int)+(x.list.length:Int)))=IntKind.i64.wrap ((fL (f.blocks.take (j+1)):Nat):Int):=by rw[wrap_add,hle];congr 1
  have abR:=f10;simp at abR;rw[ig,ew] at abR;simp[f1,f2,f5,abR,f11,f12,aS,r0,-ag,av,jl,tB,w1,w2,wj];refine⟨f.blocks.length-(j+1),by omega,j+1,rfl,by omega,by simp[f1],by simp[f2],by simp,by simp;simpa using f10,by simp[f11],by simp,g2.var _ _,?_⟩;have oC2:=g2.ok.bA vF;simpa [oC2] using vF
 .have:j=f.blocks.length:=by omega
  subst this;rw[xV] at f5;have wJ:=vF;simp[aH] at wJ;simp[f11,f12,f2,wJ];refine aE.call (V:=fun v h'=>h'=h2/\ ∃b:Bool,v= .bool b) (by simpa using Hq h2 f.name) ?_;rintro _ JN ⟨eh,b,rfl⟩;rw[eh];cases b with
  |false=>
   simp;exact⟨g2,12,rfl,fun h=>by cases h⟩
  |true=>
   simp[f1,f2,wJ];refine aE.call (V:=fun v h'=>h'=h2/\ ∃b:Bool,v= .bool b) (by simpa [f1] using ud (s.bt ok g2) hl f.name) ?_;rintro _ h2'' ⟨eh',b,rfl⟩;rw[eh'];cases b with
   |true=>
    simp;exact⟨g2,7,rfl,fun h=>by cases h⟩
   |false=>
    simp[f2,wJ];refine aE.call (by simpa using dG h2 f.params 0 6) ?_;rintro _ h3 ⟨rfl,eh3⟩;rw[eh3];by_cases hp:0<=f.params/\f.params<=6
    .have hd:(decide (0<=f.params)&&decide (f.params<=6))=true:=by simpa using hp
     rw[hd];simp[f2,wJ];refine aE.call (by simpa using dG h2 f.ai f.params 100) ?_;rintro _ h4 ⟨rfl,eh4⟩;rw[eh4];by_cases hr:f.params<=f.ai/\f.ai<=100
     .have D9:(decide (f.params<=f.ai)&&decide (f.ai<=100))=true:=by simpa using hr
      rw[D9];simp[f2,wJ];refine aE.call (by simpa [ew] using dG h2 (f.blocks.length:Int) 1 40) ?_;rintro _ h5 ⟨rfl,eh5⟩;rw[eh5];by_cases hb:(1:Int)<=f.blocks.length/\(f.blocks.length:Int)<=40
      .have Tk:(decide ((1:Int)<=f.blocks.length)&&decide ((f.blocks.length:Int)<=40))=true:=by simpa using hb
       rw[Tk];rw[HK hm (by omega)] at f5;by_cases Y4:(300:Int)<fL f.blocks
       .simp[f5,Y4];exact⟨g2,2,rfl,fun h=>by cases h⟩
       .simp[f5,Y4];exact⟨g2,0,rfl,fun _=>⟨hp,hr,by omega,by omega⟩⟩
      .have Tk:(decide ((1:Int)<=f.blocks.length)&&decide ((f.blocks.length:Int)<=40))=false:=by simpa using hb
       rw[Tk];simp;exact⟨g2,2,rfl,fun h=>by cases h⟩
     .have D9:(decide (f.params<=f.ai)&&decide (f.ai<=100))=false:=by simpa using hr
      rw[D9];simp;exact⟨g2,3,rfl,fun h=>by cases h⟩
    .have hd:(decide (0<=f.params)&&decide (f.params<=6))=false:=by simpa using hp
     rw[hd];simp;exact⟨g2,3,rfl,fun h=>by cases h⟩
end
theorem QU (ok:bu h) {X sX:Nat} {g:GG} {I:SV} (hX:h.tr.get X=some (.aA [.string g.name,.int .i64 g.size,I.v] false 0 sX)) (hI:I.l=g.init.length) (ff:g.init.length<=140737488355328) (s:bk tz h v xs) (hl:xs.length<1000000) {W:Int} (hW:0<=W/\W<=200)
  {e:Env} {Q:aP->Env->ae->Prop} (f3:Env.get e 3=v) (f4:Env.get e 4= .int .i64 W) (f6:Env.get e 6= .pointer (some ⟨X,0,none⟩)) (f7:Env.get e 7= .int .i64 0)
  (H: ∀c e',aw [37,38,39,40,36,7,42,43,44,45,41,47,48,49,50,46,52,53,54,55,56,57,51,59,60,61,62,63,58] e e'->Env.get e' 7= .int .i64 c->(c=0->1<=g.size/\(g.size<=200/\(g.init.length:Int)<=g.size)/\W+g.size<=200)->Q .normal e' h):aB FF D1 e h Q:=by
 unfold D1;simp at hX;simp[f6,hX];refine aE.call (V:=fun v h'=>h'=h/\ ∃b:Bool,v= .bool b) (by simpa using Hq h g.name) ?_;rintro _ h2 ⟨eh,b,rfl⟩;rw[eh];cases b with
 |false=>
  simp;exact H 12 _ (by(repeat refine aw.set ?_);exact aw.refl _ _) (by simp) (fun h=>by cases h)
 |true=>
  simp[f3,f6,hX];refine aE.call (V:=fun v h'=>h'=h/\ ∃b:Bool,v= .bool b) (by simpa [f3] using ud s hl g.name) ?_;rintro _ h3 ⟨eh3,b,rfl⟩;rw[eh3];cases b with
  |true=>
   simp;exact H 7 _ (by(repeat refine aw.set ?_);exact aw.refl _ _) (by simp) (fun h=>by cases h)
  |false=>
   simp[f6,hX];refine aE.call (by simpa using dG h g.size 1 200) ?_;rintro _ h4 ⟨rfl,eh4⟩;rw[eh4];by_cases hp:1<=g.size/\g.size<=200
   .have hd:(decide (1<=g.size)&&decide (g.size<=200))=true:=by simpa using hp
    rw[hd];by_cases hi:g.size<(I.l:Int)
    .simp[f6,hX,hi];exact H 9 _ (by(repeat refine aw.set ?_);exact aw.refl _ _) (by simp) (fun h=>by cases h)
    .have ww:=wrap_i64 (W+g.size) (by omega) (by omega);by_cases hw:200<W+g.size
     .simp[f4,f6,hX,hi,ww,hw];exact H 10 _ (by(repeat refine aw.set ?_);exact aw.refl _ _) (by simp) (fun h=>by cases h)
     .simp[f4,f6,hX,hi,ww,hw];exact H 0 _ (by(repeat refine aw.set ?_);exact aw.refl _ _) (by simp[f7]) (fun _=>⟨hp.1,⟨hp.2,by omega⟩,by omega⟩)
   .have hd:(decide (1<=g.size)&&decide (g.size<=200))=false:=by simpa using hp
    rw[hd];simp;exact H 3 _ (by(repeat refine aw.set ?_);exact aw.refl _ _) (by simp) (fun h=>by cases h)
structure MM (h h2:ae) (G F:SV) (e:Env) (v:Value) (names:List ByteArray):Prop where
 f1:Env.get e 1= .pointer (some ⟨h.next,0,none⟩)
 f2:Env.get e 2= .pointer (some ⟨h.next+1,0,none⟩)
 f3:Env.get e 3=v
 g:ab aG h h2
 U:h2.tr.get h.next=some (.aA [G.v,F.v] false 0 0)
 R: ∃s,h2.tr.get (h.next+1)=some (.aA [.int .i64 0,.int .i64 0] false 0 s)
 names:cI tz (h.next+2) h2 v names
theorem MM.grow {h h2 h3:ae} {G F:SV} {e e':Env} {v:Value} {names:List ByteArray} (c:MM h h2 G F e v names) (g:ab aG h2 h3) (k1:Env.get e' 1=Env.get e 1) (k2:Env.get e' 2=Env.get e 2) (k3:Env.get e' 3=Env.get e 3):MM h h3 G F e' v names:=by obtain⟨s,hR⟩:=c.R;exact⟨k1.trans c.f1,k2.trans c.f2,k3.trans c.f3,c.g.trans g,g.get c.g.ok c.U (fun h=>h),⟨s,g.get c.g.ok hR (fun h=>h)⟩,c.names.grow c.g.ok g (fun _ _ h=>h)⟩
def Yi (h:ae) (Q:aP->Env->ae->Prop):Prop:= ∀(c a:Int) (e':Env) (h':ae),c≠0->ab aG h h'->(∃s,h'.tr.get (h.next+1)=some (.aA [.int .i64 c,.int .i64 a] false 0 s))->Env.get e' 2= .pointer (some ⟨h.next+1,0,none⟩)->Q .ret e' h'
theorem Gz (c:MM h h2 G F e v names) (hl:names.length<1000000) (x:ByteArray):
  ∃v' h5,p8 (aL h2 [.string x] 0) [.string ⟨⟨[]⟩⟩] 16 false v (.slice (some ⟨h2.next,0,none⟩) 1 1)=some (v',h5)/\ab (ax v) h2 h5/\ ∀e',Env.get e' 1=Env.get e 1->Env.get e' 2=Env.get e 2->Env.get e' 3=v'->MM h h5 G F e' v' (names++[x]):=by
 have g4:=aO c.g.ok (tz.enc x) 0;have Td:=c.names.grow c.g.ok g4 (fun _ _ h=>h);have hw4:bk tz (aL h2 (tz.enc x) 0) (.slice (some ⟨h2.next,0,none⟩) 1 1) [x]:=⟨_,_,rfl,.inr ⟨h2.next,0,_,_,_,_,rfl,cx _ _ _,by simp,by simp⟩⟩;obtain⟨s,hR⟩:=c.R;have ef:=c.g.ok.wf _ _ hR;obtain⟨v',h5,ha,yo,g5,MB⟩:=pY (bytes:=16) g4.ok (z:=[.string ⟨⟨[]⟩⟩]) rfl Td hw4 hl (by decide) (by show h.next+2<=h2.next+1;omega);have lo: ∀b,ax v b->h.next+2<=b:=fun b hb=>c.names.of hb;have ex:ab (ax v) h2 h5:=g4.bt.trans g5;have go:ab aG h h5:=c.g.trans' ex (fun _ _ h=>h) (fun b hb e=>by have:=lo b e;omega);refine⟨v',h5,ha,ex,fun e' k1 k2 k3=>⟨k1.trans c.f1,k2.trans c.f2,k3,go,ex.get c.g.ok c.U (fun e=>by have:=lo _ e;omega),⟨s,ex.get c.g.ok hR (fun e=>by have:=lo _ e;omega)⟩,yo⟩⟩
theorem Xo {Q:aP->Env->ae->Prop} (c:MM h h2 G F e v names) (bad:Yi h Q) {cc:Int} (hc:cc≠0) (a:Int) {h3:ae} (g3:ab aG h2 h3) (k2:Env.get e' 2=Env.get e 2):
  (∃s,h3.tr.get (h.next+1)=some (.aA [.int .i64 0,.int .i64 0] false 0 s))/\ ∀h4,h4=put h3 (h.next+1) 0 [.int .i64 0,.int .i64 0] [.int .i64 cc,.int .i64 a] 0->Q .ret e' h4:=by
 obtain⟨s,hR⟩:=c.R;have Ga:=g3.get c.g.ok hR (fun h=>h);refine⟨⟨s,Ga⟩,fun h4 e4=> ?_⟩;subst e4;refine bad cc a e' _ hc ((c.g.trans g3).put ⟨s,Ga⟩ (.inl (by omega))) ⟨h3.clock,by simp⟩ (k2.trans c.f2)
def GlI (h:ae) (G F:SV) (gl:List GG) (m:Nat) (e:Env) (h2:ae):Prop:=
 ∃(j:Nat) (v:Value) (W:Int),m=gl.length-j/\j<=gl.length/\MM h h2 G F e v ((gl.take j).map (·.name))/\Env.get e 4= .int .i64 W/\0<=W/\W<=200/\Env.get e 29=G.v/\Env.get e 30= .int .i64 gl.length/\Env.get e 31= .int .i64 j/\ ∀g∈gl.take j,1<=g.size/\g.size<=200/\(g.init.length:Int)<=g.size
theorem FU (ok:bu h) {gl:List GG} (hG:SliceR (gR h) 3 h G.v gl) (hl:gl.length<=10) (sm: ∀g∈gl,g.init.length<=140737488355328) {Q:aP->Env->ae->Prop} (c:MM h h1 G F e (.slice none 0 0) []) (f4:Env.get e 4= .int .i64 0) (f29:Env.get e 29=G.v) (f30:Env.get e 30= .int .i64 gl.length) (f31:Env.get e 31= .int .i64 0)
  (bad:Yi h Q) (wH: ∀e' h' v,MM h h' G F e' v (gl.map (·.name))->(∀g∈gl,1<=g.size/\g.size<=200/\(g.init.length:Int)<=g.size)->Q (.exit 0) e' h'):aB FF (.loop re) e h1 Q:=by
 have NH:=SliceR.len hG;refine aB.loop (GlI h G F gl) ?_ (n:=gl.length) ⟨0,_,0,rfl,by omega,by simpa using c,f4,by omega,by omega,f29,f30,f31,fun g hg=>by simp at hg⟩;rintro m e h2 ⟨j,v,W,rfl,hj,c,f4,hW0,hW1,f29,f30,f31,hs⟩;unfold re;by_cases aS:j<gl.length
 .have hx:gl[j]? =some gl[j]:=aX aS;have hm:=zk aS;generalize gl[j]=x at hx hm;obtain⟨bb,off,cc,hGa,_,_,⟨I,rfl,sI⟩,_,dy⟩:=SliceR.later ok hG hx;have r0:=dy h2 c.g 0 3 (by decide);simp[-ag] at r0;have wj:=wrap_i64 (j+1) (by omega) (by omega);have YB:=f29;simp at YB;rw[hGa,NH] at YB;have To:((gl.take j).map (·.name)).length<1000000:=by simp;omega
  simp[YB,f30,f31,aS,r0,-ag];refine aB.cut (fun h3=>ab aG h2 h3/\ ∃s,h3.tr.get h2.next=some (.aA [.string x.name,.int .i64 x.size,I.v] false 0 s)) ?_ ?_
  .exact⟨(ab.refl c.g.ok).var _ _,h2.clock,by simp⟩
  rintro h3 ⟨g3,s3,fK⟩;have dh:=c.g.trans g3;have JO:=c.names.grow c.g.ok g3 (fun _ _ h=>h);refine QU dh.ok fK (SliceR.len sI) (sm x hm) JO.sl To ⟨hW0,hW1⟩ (by simp[c.f3]) (by simp[f4]) (by simp) (by simp) ?_;intro cd e4 K q7 hcd;have k1:=K.at (t:=1) (v:=Env.get e 1) (by simp);have k2:=K.at (t:=2) (v:=Env.get e 2) (by simp);have k3:=K.at (t:=3) (v:=Env.get e 3) (by simp);have k4:=K.at (t:=4) (v:=Env.get e 4) (by simp);have k5:=K.at (t:=5) (v:= .int .i64 j) (by simp);have k6:=K.at (t:=6) (v:= .pointer (some ⟨h2.next,0,none⟩)) (by simp);have k29:=K.at (t:=29) (v:=Env.get e 29) (by simp[YB,f29]);have k30:=K.at (t:=30) (v:=Env.get e 30) (by simp);have k31:=K.at (t:=31) (v:=Env.get e 31) (by simp);have c3:=c.grow (e':=e4) g3 k1 k2 k3;unfold UM;by_cases he:cd=0
  .subst he;obtain⟨w1,w2,w3⟩:=hcd rfl;simp at fK;have ww:=wrap_i64 (W+x.size) (by omega) (by omega);simp[q7,k3,c.f3,k6,fK];obtain⟨v',h5,ha,ex,mk⟩:=Gz c3 To x.name;refine kE ha ?_;have lt3:=(g3.ok.bA fK).lt;have rV:h5.tr.get h2.next=some (.aA [.string x.name,.int .i64 x.size,.slice I.a I.l I.c] false 0 s3):=by
    refine ex.get c3.g.ok fK (fun e=> ?_);obtain⟨o,n,cp,e⟩:=e;rcases c.names with⟨_,e2⟩|⟨b2,s2,e2,dq,_⟩
    .rw[e2] at e;cases e
    .rw[e2] at e;cases e;have:=c.g.ok.wf _ _ dq;omega
   simp[k4,f4,k6,rV,ww,k31,f31,wj];refine⟨gl.length-(j+1),by omega,j+1,v',W+x.size,rfl,by omega,?_,by simp,by omega,by omega,by simp[k29,f29],by simp[k30,f30],by simp,?_⟩
   .have e1:(gl.take (j+1)).map (·.name)=(gl.take j).map (·.name)++[x.name]:=by rw[yn,hx];simp
    rw[e1];exact mk _ (by simp) (by simp) (by simp)
   .intro g hg;rw[yn,hx] at hg;rcases tO.1 hg with h|h
    .exact hs g h
    .simp at h;rw[h];exact⟨w1,w2⟩
  .have cJ:=qV he;simp[q7,cJ,k5];refine aE.call (by simpa using jz h3 dh.ok cd (j:Int)) ?_;rintro _ h4 ⟨rfl,g4⟩;obtain⟨⟨s4,NJ⟩,tb⟩:=Xo (Q:=Q) c3 bad he (j:Int) g4 (e':=Tr.set (Tr.set (Tr.set (Tr.set (Tr.set e4 64 (.int .i64 cd)) 65 (.bool true)) 66 (.int .i64 cd)) 67 (.int .i64 j)) 68 (.agg #[.int .i64 cd,.int .i64 j])) (by simp);simp[k2,c.f2,NJ];exact tb _ rfl
 .have:j=gl.length:=by omega
  subst this;rw[xV] at c hs;simp[f30,f31];exact wH _ _ v (c.grow (.refl c.g.ok) (by simp) (by simp) (by simp)) hs
def HdI (h:ae) (G F:SV) (fl:List GF) (ns:List ByteArray) (m:Nat) (e:Env) (h2:ae):Prop:=
 ∃(j:Nat) (v:Value),m=fl.length-j/\j<=fl.length/\MM h h2 G F e v (ns++(fl.take j).map (·.name))/\Env.get e 80=F.v/\Env.get e 81= .int .i64 fl.length/\Env.get e 82= .int .i64 j/\ ∀f∈fl.take j,yI f
theorem Kr (ok:bu h) (hF:SliceR (fR h) 4 h F.v fl) (hl:fl.length<=10) (sm: ∀f∈fl,Fits f.blocks) (hns:ns.length<=10) {v0:Value} {Q:aP->Env->ae->Prop} (c:MM h h1 G F e v0 ns) (f80:Env.get e 80=F.v) (f81:Env.get e 81= .int .i64 fl.length) (f82:Env.get e 82= .int .i64 0)
  (bad:Yi h Q) (wH: ∀e' h' v,MM h h' G F e' v (ns++fl.map (·.name))->(∀f∈fl,yI f)->Q (.exit 3) e' h'):aB FF (.loop qZ) e h1 Q:=by
 have pJ:=SliceR.len hF;refine aB.loop (HdI h G F fl ns) ?_ (n:=fl.length) ⟨0,_,rfl,by omega,by simpa using c,f80,f81,f82,fun g hg=>by simp at hg⟩;rintro m e h2 ⟨j,v,rfl,hj,c,f80,f81,f82,hs⟩;unfold qZ;by_cases aS:j<fl.length
 .have hx:fl[j]? =some fl[j]:=aX aS;have hm:=zk aS;generalize fl[j]=x at hx hm;obtain⟨bb,off,cc,zl,_,_,⟨B,rfl,sB⟩,_,dy⟩:=SliceR.later ok hF hx;have r0:=dy h2 c.g 0 4 (by decide);simp[-ag] at r0;have wj:=wrap_i64 (j+1) (by omega) (by omega);have abU:=f80;simp at abU;rw[zl,pJ] at abU;have To:(ns++(fl.take j).map (·.name)).length<1000000:=by simp;omega
  have hU:=c.U;simp at hU;have oU:=c.g.ok.bA hU;simp[abU,f81,f82,c.f1,aS,r0,-ag,av,bg,aI,oU,aq hU];refine aE.cut (fun h3=>ab aG h2 h3/\ ∃s,h3.tr.get h2.next=some (.aA [.string x.name,.int .i64 x.params,.int .i64 x.ai,B.v] false 0 s)) ?_ ?_
  .exact⟨((ab.refl c.g.ok).var _ _).trans (((ab.refl ((ab.refl (S:=aG) c.g.ok).var _ _).ok)).var _ _),h2.clock,by simp⟩
  rintro h3 ⟨g3,s3,fK⟩;have dh:=c.g.trans g3;have JO:=c.names.grow c.g.ok g3 (fun _ _ h=>h);refine aE.call (V:=tU (fun c=>c=0->yI x) h3) ?_ ?_
  .have E:=Q7 (gs:=G) (fs:=F) (ah:=fI) dh.ok (f:=x) (sB.mono ok dh fun _ _ r=>r.mono ok dh) (sm x hm) JO.sl To;simpa [aH,fI,c.f3,zl,pJ] using E
  rintro _ h4 ⟨g4,cd,rfl,hcd⟩;have Mt:=g3.trans g4;have tR:=g4.get dh.ok fK (fun h=>h);simp at tR;have lt2:=(g3.ok.bA fK).lt;by_cases he:cd=0
  .subst he;have c4:=c.grow (e':=e) Mt rfl rfl rfl;obtain⟨v',h5,ha,ex,mk⟩:=Gz c4 To x.name;simp[c.f3,tR];refine kE ha ?_;simp[f82,wj];refine⟨fl.length-(j+1),by omega,j+1,v',rfl,by omega,?_,by simp;exact f80,by simp[f81],by simp,?_⟩
   .have e1:ns++(fl.take (j+1)).map (·.name)=ns++(fl.take j).map (·.name)++[x.name]:=by rw[yn,hx];simp
    rw[e1];exact mk _ (by simp) (by simp) (by simp)
   .intro g hg;rw[yn,hx] at hg;rcases tO.1 hg with h|h
    .exact hs g h
    .simp at h;rw[h];exact hcd rfl
  .have cJ:=qV he;simp[cJ];refine aE.call (by simpa using jz h4 (dh.trans g4).ok cd (j:Int)) ?_;rintro _ h5 ⟨rfl,g5⟩;obtain⟨s,hR⟩:=c.R;have u9:=(Mt.trans g5).get c.g.ok hR (fun h=>h);simp[c.f2,u9];exact bad cd j _ _ he (((c.g.trans Mt).trans g5).put ⟨s,u9⟩ (.inl (by omega))) ⟨h5.clock,by simp⟩ (by simp[c.f2])
 .have:j=fl.length:=by omega
  subst this;rw[xV] at c hs;simp[f81,f82];exact wH _ _ v (c.grow (.refl c.g.ok) (by simp) (by simp) (by simp)) hs
def BdI (h:ae) (G F:SV) (fl:List GF) (v:Value) (ns:List ByteArray) (m:Nat) (e:Env) (h2:ae):Prop:=
 ∃j:Nat,m=fl.length-j/\j<=fl.length/\MM h h2 G F e v ns/\Env.get e 105=F.v/\Env.get e 106= .int .i64 fl.length/\Env.get e 107= .int .i64 j/\ ∀f∈fl.take j,AZ f.ai f.blocks
theorem Ia (ok:bu h) (hw:CA h) (hF:SliceR (fR h) 4 h F.v fl) (hl:fl.length<=10) (sm: ∀f∈fl,∀b∈f.blocks,uO b) (hd: ∀f∈fl,yI f) {Q:aP->Env->ae->Prop} (c:MM h h1 G F e v ns) (f105:Env.get e 105=F.v) (f106:Env.get e 106= .int .i64 fl.length) (f107:Env.get e 107= .int .i64 0)
  (bad:Yi h Q) (wH: ∀e' h',MM h h' G F e' v ns->(∀f∈fl,AZ f.ai f.blocks)->Q (.exit 5) e' h'):aB FF (.loop qY) e h1 Q:=by
 have pJ:=SliceR.len hF;refine aB.loop (BdI h G F fl v ns) ?_ (n:=fl.length) ⟨0,rfl,by omega,c,f105,f106,f107,fun g hg=>by simp at hg⟩;rintro m e h2 ⟨j,rfl,hj,c,f105,f106,f107,hs⟩;unfold qY;by_cases aS:j<fl.length
 .have hx:fl[j]? =some fl[j]:=aX aS;have hm:=zk aS;generalize fl[j]=x at hx hm;obtain⟨bb,off,cc,zl,_,_,⟨B,rfl,sB⟩,_,dy⟩:=SliceR.later ok hF hx;have r0:=dy h2 c.g 0 4 (by decide);simp[-ag] at r0;have wj:=wrap_i64 (j+1) (by omega) (by omega);have UC:=f105;simp at UC;rw[zl,pJ] at UC;have hU:=c.U;simp at hU;have oU:=c.g.ok.bA hU;obtain⟨hp,hr,hb,_⟩:=hd x hm;simp[UC,f106,f107,c.f1,aS,r0,-ag,av,bg,aI,oU,aq hU];refine aE.cut (fun h3=>ab aG h2 h3) ?_ ?_
  .exact((ab.refl c.g.ok).var _ _).trans (((ab.refl ((ab.refl (S:=aG) c.g.ok).var _ _).ok)).var _ _)
  rintro h3 g3;have dh:=c.g.trans g3;refine aE.call (V:=tU (fun c=>c=0->AZ x.ai x.blocks) h3) ?_ ?_
  .have E:=QD (gs:=G) (fs:=F) (name:=x.name) (params:=x.params) (ai:=x.ai) (ah:=fI) dh.ok (hw.grow ok dh) (by omega) (hF.mono ok dh fun _ _ r=>r.mono ok dh) ⟨by omega,fun f hf=>(hd f hf).params.2⟩ (sB.mono ok dh fun _ _ r=>r.mono ok dh) (by omega) (sm x hm);simpa [aH,fI,zl,pJ] using E
  rintro _ h4 ⟨g4,cd,rfl,hcd⟩;have Mt:=g3.trans g4;by_cases he:cd=0
  .subst he;simp[f107,wj];refine⟨fl.length-(j+1),by omega,j+1,rfl,by omega,c.grow Mt (by simp) (by simp) (by simp),by simp;exact f105,by simp[f106],by simp,?_⟩;intro g hg;rw[yn,hx] at hg;rcases tO.1 hg with h|h
   .exact hs g h
   .simp at h;rw[h];exact hcd rfl
  .have cJ:=qV he;simp[cJ];refine aE.call (by simpa using jz h4 (dh.trans g4).ok cd (j:Int)) ?_;rintro _ h5 ⟨rfl,g5⟩;obtain⟨s,hR⟩:=c.R;have u9:=(Mt.trans g5).get c.g.ok hR (fun h=>h);simp[c.f2,u9];exact bad cd j _ _ he (((c.g.trans Mt).trans g5).put ⟨s,u9⟩ (.inl (by omega))) ⟨h5.clock,by simp⟩ (by simp[c.f2])
 .have:j=fl.length:=by omega
  subst this;rw[xV] at hs;simp[f106,f107];exact wH _ _ (c.grow (.refl c.g.ok) (by simp) (by simp) (by simp)) hs
def LW:ByteArray:=⟨⟨[109,97,105,110]⟩⟩
theorem Lj (h:ae) (ok:bu h) (name:ByteArray) (a b:Int) (s:SV):aF FF jC [.agg ⟨[.string name,.int .i64 a,.int .i64 b,s.v]⟩] h (fun v h'=>v= .bool (name==LW)/\ab aG h h'):=by refine aF.of DG ?_;unfold vV;simp[LW];exact(ab.refl ok).new _ _
theorem Em (ok:bu h) (hF:SliceR (fR h) 4 h F.v fl) (hl:fl.length<1000000):
  aF FF eW [F.v,.func (.func jC) #[] #[]] h (fun v h'=>ab aG h h'/\ ∃i:Int,v= .int .i64 i/\(i= -1\/ ∃j:Nat,i=j/\j<fl.length)):=by
 have pJ:=SliceR.len hF;refine aF.of j7 ?_;unfold eT;simp;refine aB.loop (fun m e h2=> ∃j:Nat,m=fl.length-j/\j<=fl.length/\Env.get e 0=F.v/\Env.get e 1= .func (.func jC) #[] #[]/\Env.get e 7= .int .i64 fl.length/\Env.get e 8= .int .i64 j/\ab aG h h2) ?_ (n:=fl.length)
  ⟨0,rfl,by omega,by simp,by simp,by simp[pJ],by simp,.refl ok⟩
 rintro m e h2 ⟨j,rfl,hj,f0,f1,f7,f8,g2⟩;unfold eE;by_cases aS:j<fl.length
 .have hx:fl[j]? =some fl[j]:=aX aS;generalize fl[j]=x at hx;obtain⟨bb,off,cc,zl,_,_,⟨B,rfl,sB⟩,_,dy⟩:=SliceR.later ok hF hx;have r0:=dy h2 g2 0 4 (by decide);simp[-ag] at r0;have wj:=wrap_i64 (j+1) (by omega) (by omega);have f0':=f0;simp at f0';rw[zl,pJ] at f0';simp[f0',f1,f7,f8,aS,r0,-ag];refine aE.cD (V:=fun v h'=>v= .bool (x.name==LW)/\ab aG h2 h') ?_ ?_
  .have I:cP FF (.func (.func jC) #[] #[]) [.agg ⟨[.string x.name,.int .i64 x.params,.int .i64 x.ai,B.v]⟩] h2 (fun v h'=>v= .bool (x.name==LW)/\ab aG h2 h'):=cP.func (by simpa using Lj h2 g2.ok x.name x.params x.ai B);simpa [f1] using I
  rintro _ h3 ⟨rfl,g3⟩;cases hmn:(x.name==LW) with
  |true=>
   simp;exact⟨g2.trans g3,j,rfl,aS⟩
  |false=>
   simp[f8,wj];exact⟨fl.length-(j+1),by omega,j+1,rfl,by omega,by simpa [zl,pJ] using f0,by simp[f1],by simp[f7],by simp,g2.trans g3⟩
 .have:j=fl.length:=by omega
  subst this;simp[f7,f8];exact g2
structure Du (u:GU):Prop where
 gn:u.globals.length<=10
 fn:u.funcs.length<=10
 gs: ∀g∈u.globals,1<=g.size/\g.size<=200/\(g.init.length:Int)<=g.size
 head: ∀f∈u.funcs,yI f
 body: ∀f∈u.funcs,AZ f.ai f.blocks
 one:0<u.funcs.length
structure A8 (u:GU):Prop where
 init: ∀g∈u.globals,g.init.length<=140737488355328
 fs: ∀f∈u.funcs,Fits f.blocks
 bs: ∀f∈u.funcs,∀b∈f.blocks,uO b
def Dm (P:Prop) (h:ae) (v:Value) (h':ae):Prop:=ab aG h h'/\ ∃c a:Int,v= .agg ⟨[.int .i64 c,.int .i64 a]⟩/\(c≠0\/(c=0/\a=0/\P))
theorem Nc (ok:bu h) (hw:CA h) {u:GU} (hu:uR h G F u) (sm:A8 u):
  aF FF Ae [.agg ⟨[G.v,F.v]⟩] h (Dm (Du u) h):=by
 have NH:=SliceR.len hu.1;have pJ:=SliceR.len hu.2;refine aF.of HT ?_;unfold zx;simp;have fin: ∀(c a:Int) (e':Env) (h':ae),c≠0->ab aG h h'->(∃s,h'.tr.get (h.next+1)=some (.aA [.int .i64 c,.int .i64 a] false 0 s))->Env.get e' 2= .pointer (some ⟨h.next+1,0,none⟩)->x6 [.cell 2 (some 2)] (Dm (Du u) h) .ret e' h':=by intro c a e' h' hc g ⟨s,hR⟩ q2;simp[q2,hR];exact⟨g,c,a,rfl,.inl hc⟩
 refine aE.cut (fun h1=>ab aG h h1/\h1.tr.get h.next=some (.aA [G.v,F.v] false 0 0)/\h1.tr.get (h.next+1)=some (.aA [.int .i64 0,.int .i64 0] false 0 0)) ?_ ?_
 .exact⟨((ab.refl ok).new _ _).new _ _,by simp,by simp⟩
 rintro h1 ⟨g1,XL,sG⟩;have acb:=XL;simp at acb;have early: ∀e l R,Env.get e 2= .pointer (some ⟨h.next+1,0,none⟩)->(∀e' h',Env.get e' 2= .pointer (some ⟨h.next+1,0,none⟩)->ab aG h h'->(∃s,h'.tr.get (h.next+1)=some (.aA [.int .i64 0,.int .i64 0] false 0 s))->Env.get e' 27= .agg #[.int .i64 2,.int .i64 0]->aE FF l e' h' R)->aE FF (⟨(some 27),none,(.call (.func 36) [(.const (.int .i64 2)),(.const (.int .i64 0))])⟩::l) e h1 R:=by intro e l R q2 K;refine aE.call (by simpa using jz h1 g1.ok 2 0) ?_;rintro _ h2 ⟨rfl,g2⟩;exact K _ _ (by simp[q2]) (g1.trans g2) ⟨_,g2.get g1.ok sG (fun h=>h)⟩ (by simp)
 by_cases hg:(10:Int)<G.l
 .simp[hg];refine early _ _ _ (by simp) ?_;intro e' h' q2 g' ⟨s,hR⟩ TA;simp[q2,TA,hR];exact⟨g'.put ⟨s,hR⟩ (.inl (by omega)),2,0,rfl,.inl (by decide)⟩
 by_cases hf:(10:Int)<F.l
 .simp[hg,hf,acb];refine early _ _ _ (by simp) ?_;intro e' h' q2 g' ⟨s,hR⟩ TA;simp[q2,TA,hR];exact⟨g'.put ⟨s,hR⟩ (.inl (by omega)),2,0,rfl,.inl (by decide)⟩
 simp[hg,hf,acb];have af3:u.globals.length<=10:=by omega
 have abV:u.funcs.length<=10:=by omega
 refine FU (F:=F) ok hu.1 af3 sm.init ⟨by simp,by simp,by simp,g1,XL,⟨0,sG⟩,.inl ⟨rfl,rfl⟩⟩ (by simp) (by simp) (by simp[NH]) (by simp) ?_ ?_
 .intro c a e' h' hc g hR q2;simpa using fin c a e' h' hc g hR q2
 intro e2 h2 v2 c2 hgs;have CL:=c2.U;simp at CL;simp[c2.f1,CL];refine Kr ok hu.2 abV sm.fs (by simp;omega) (c2.grow (.refl c2.g.ok) (by simp) (by simp) (by simp)) (by simp) (by simp[pJ]) (by simp) ?_ ?_
 .intro c a e' h' hc g hR q2;simpa using fin c a e' h' hc g hR q2
 intro e3 h3 v3 c3 hhd;have D4:=c3.U;simp at D4;simp[c3.f1,D4];refine Ia ok hw hu.2 abV sm.bs hhd (c3.grow (.refl c3.g.ok) (by simp) (by simp) (by simp)) (by simp) (by simp[pJ]) (by simp) ?_ ?_
 .intro c a e' h' hc g hR q2;simpa using fin c a e' h' hc g hR q2
 intro e4 h4 c4 hbd;have PI:=c4.U;simp at PI;simp[c4.f1,PI];refine aE.call (V:=fun v h'=>ab aG h4 h'/\ ∃i:Int,v= .int .i64 i/\(i= -1\/ ∃j:Nat,i=j/\j<u.funcs.length)) (by simpa using Em c4.g.ok (hu.2.mono ok c4.g fun _ _ r=>r.mono ok c4.g) (by omega)) ?_;rintro _ h5 ⟨g5,i,rfl,hi⟩;have c5:=c4.grow (e':=e4) g5 rfl rfl rfl;have hU5:=c5.U;simp at hU5;obtain⟨s5,u9⟩:=c5.R;rcases hi with rfl|⟨j,rfl,hj⟩
 .simp;refine aE.call (by simpa using jz h5 c5.g.ok 6 0) ?_;rintro _ h6 ⟨rfl,g6⟩;have KJ:=g6.get c5.g.ok u9 (fun h=>h);simp[c5.f2,KJ];exact⟨(c5.g.trans g6).put ⟨_,KJ⟩ (.inl (by omega)),6,0,rfl,.inl (by decide)⟩
 .have hx:u.funcs[j]? =some u.funcs[j]:=aX hj;generalize u.funcs[j]=x at hx;obtain⟨bb,off,cc,zl,_,_,⟨B,rfl,sB⟩,_,dy⟩:=SliceR.later ok hu.2 hx;have r0:=dy h5 c5.g 1 1 (by decide);simp[-ag] at r0;have Eb: ¬(j:Int)<0:=by omega
  by_cases hp:0<x.params
  .simp[c5.f1,aq hU5,zl,pJ,hj,r0,hp,Eb,-ag];refine aE.call (by simpa using jz h5 c5.g.ok 5 (j:Int)) ?_;rintro _ h6 ⟨rfl,g6⟩;have KJ:=g6.get c5.g.ok u9 (fun h=>h);simp[c5.f2,KJ];exact⟨(c5.g.trans g6).put ⟨_,KJ⟩ (.inl (by omega)),5,j,rfl,.inl (by decide)⟩
  .simp[c5.f1,c5.f2,aq hU5,zl,pJ,hj,r0,hp,Eb,-ag,u9,av];exact⟨c5.g.put ⟨_,u9⟩ (.inl (by omega)),0,0,rfl,.inr ⟨rfl,rfl,af3,abV,hgs,hhd,hbd,by omega⟩⟩
theorem g_ (n:Int) (h:0<=n) (h':n<18446744073709551616):IntKind.u64.wrap n=n:=by simp only[IntKind.wrap,IntKind.signed,IntKind.bits];simp;omega
theorem Oj (n:Nat) (h:n<4294967296):(BitVec.ofInt 64 (n:Int) &&& BitVec.ofInt 64 4294967295).toNat=n:=by
 have e1:(BitVec.ofInt 64 (n:Int)).toNat=n:=by rw[BitVec.toNat_ofInt];omega
 have e2:(BitVec.ofInt 64 4294967295).toNat=2^32-1:=by decide
 rw[BitVec.toNat_and,e1,e2,Nat.and_two_pow_sub_one_eq_mod];omega
theorem Om (h:ae) (n:Nat) (hn:n<1000000):aF FF sZ [.int .u64 1,.int .u64 (n:Nat)] h (fun v h'=>v= .tuple #[.int .u64 0,.int .u64 (n:Nat)]/\h'=h):=by
 refine aF.of zM ?_;unfold r_;have w0:IntKind.u64.wrap 0=0:=g_ _ (by omega) (by omega);have w1:IntKind.u64.wrap 1=1:=g_ _ (by omega) (by omega);have wn:IntKind.u64.wrap (n:Int)=n:=g_ _ (by omega) (by omega);have a1:fB .and .u64 1 4294967295=some (.int .u64 1):=by have:=Oj 1 (by omega);show some (Value.int .u64 (IntKind.u64.wrap ((BitVec.ofInt 64 ((1:Nat):Int) &&& BitVec.ofInt 64 4294967295).toNat:Int)))=_;rw[this];simp[w1]
 have a2:fB .and .u64 (n:Int) 4294967295=some (.int .u64 n):=by have:=Oj n (by omega);show some (Value.int .u64 (IntKind.u64.wrap ((BitVec.ofInt 64 (n:Int) &&& BitVec.ofInt 64 4294967295).toNat:Int)))=_;rw[this,wn]
 have a3:fB .and .u64 0 4294967295=some (.int .u64 0):=by have:=Oj 0 (by omega);show some (Value.int .u64 (IntKind.u64.wrap ((BitVec.ofInt 64 ((0:Nat):Int) &&& BitVec.ofInt 64 4294967295).toNat:Int)))=_;rw[this];simp[w0]
 have s0:gY .shr .u64 0 32=some (.int .u64 0):=by rfl
 have s1:gY .shr .u64 1 32=some (.int .u64 0):=by rfl
 have sn:gY .shr .u64 (n:Int) 32=some (.int .u64 0):=by
  have dn:(n:Int).fdiv (2^32)=0:=by rw[Int.fdiv_eq_ediv_of_nonneg _ (by decide)];exact Int.ediv_eq_zero_of_lt (by omega) (by omega)
  show(if(32:Int)<0 then none else some (Value.int .u64 ((n:Int).fdiv (2^(min (32:Int).toNat 64)))))=_;rw[aT (by decide),show min (32:Int).toNat 64=32 by decide,dn]
 have p0:fB .mul .u64 0 (n:Int)=some (.int .u64 0):=by simp[w0]
 have p1:fB .mul .u64 1 (n:Int)=some (.int .u64 n):=by simp[wn]
 have p2:fB .mul .u64 1 0=some (.int .u64 0):=by simp[w0]
 have p3:fB .mul .u64 0 0=some (.int .u64 0):=by simp[w0]
 have q0:fB .add .u64 0 0=some (.int .u64 0):=by simp[w0]
 simp[-fB,a1,a2,a3,s0,s1,sn,p0,p1,p2,p3,q0]
theorem Lw (h:ae) (n:Nat) (hn:n<1000000):aF FF kK [.int .u64 1,.int .u64 (n:Nat)] h (fun v h'=>v= .tuple #[.int .u64 0,.int .u64 (n:Nat)]/\h'=h):=by refine aF.of CF ?_;unfold vq;simp;rw[xE (t:=false) rfl];simp;refine aE.call (V:=fun v h'=>v= .tuple #[.int .u64 0,.int .u64 (n:Nat)]/\h'=h) (by simpa using Om h n hn) ?_;rintro _ h' ⟨rfl,rfl⟩;simp
theorem Dg {α:Type} (E:Enc α) (z0:α) (hz:z=E.enc z0) (n:Nat):jW z n=E.flat (List.replicate n z0):=by
 induction n with
 |zero=>rfl
 |succ n ih=>rw[jW,ih,hz,List.replicate_succ,E.eM]
def filled {α:Type} (x z:α) (k n:Nat):List α:=List.replicate k x++List.replicate (n-k) z
theorem GQ {α:Type} (E:Enc α) (x z:α) {k m n:Nat} (hk:k+m<=n):aJ (E.flat (filled x z k n)) (k*E.sz) (E.flat (List.replicate m x))=E.flat (filled x z (k+m) n):=by
 have h1:(E.flat (filled x z k n)).take (k*E.sz)=E.flat (List.replicate k x):=by rw[E.gZ];congr 1;simp[filled]
 have h2:(E.flat (filled x z k n)).drop (k*E.sz+m*E.sz)=E.flat (List.replicate (n-(k+m)) z):=by rw[<-rU,E.lv];congr 1;simp[filled,List.drop_append];omega
 unfold aJ;rw[E.bC,List.length_replicate,h1,h2,<-E.dO,<-E.dO,List.replicate_append_replicate];rfl
def E0 (o:Nat):ak:=(J_ (G_ [m_ 34 8,m_ 35 7,z_ 36 35,B_ 37 .lss 34 36] (H_ 37 0)) (P_ 1 (V_ [D_ (m_ 38 8),D_ (m_ 39 7),D_ (m_ 40 8),(o_ 41 (.slice o (t_ 39) (some (t_ 40)) none none),[]),D_ (m_ 42 7),D_ (m_ 43 8),(o_ 44 (.slice o (t_ 42) none (some (t_ 43)) none),[]),(o_ 45 (.copy o (t_ 41) (t_ 44)),[]),D_ (B_ 46 .add 38 45),D_ (m_ 8 46)])))
def Dd (z:List Value) (o bytes:Nat):ak:=(G_ [o_ 4 (.mv (.const (.slice none 0 0)))] (J_ (G_ [m_ 9 1,C_ 10 .lss 9 0] (I_ 10 (O_ [⟨(some 11),none,.bad⟩,⟨none,none,.bad⟩]) .skip)) (G_ [m_ 13 0,z_ 14 13,o_ 15 (.conv .u64 (t_ 14)),m_ 16 1,o_ 17 (.conv .u64 (t_ 16)),o_ 18 (.call (.func kK) [t_ 15,t_ 17]),m_ 12 18,o_ 19 (.ext 0 (t_ 12)),o_ 20 (.ext 1 (t_ 12)),m_ 5 19,m_ 6 20] (J_ (G_ [m_ 21 5,o_ 22 (.bin .gtr [] (t_ 21) (.const (.int .u64 0))),m_ 23 22,q_ 24 23 false (.mv (t_ 6)),q_ 25 23 false (.bin .gtr [] (t_ 24) (.const (.int .u64 9223372036854775807))),o_ 26 (.pick (t_ 23) (b_ true) (t_ 25))] (I_ 26 (O_ [⟨(some 27),none,.bad⟩,⟨none,none,.bad⟩]) .skip)) (G_ [m_ 28 6,o_ 29 (.conv .i64 (t_ 28)),o_ 30 (.ik z bytes (t_ 29) (t_ 29)),m_ 7 30] (G_ [m_ 31 7,m_ 32 0,o_ 33 (.copy o (t_ 31) (t_ 32)),m_ 8 33] (J_ (P_ 0 (.loop (E0 o))) (G_ [m_ 47 7,m_ 4 47] .ret))))))))
theorem Cn {α:Type} (E:Enc α) (hf:FF f=some ⟨[.tmp 4],Dd z E.sz bytes,.no⟩) (CM:bytes<=1000) (z0 x:α) (hz:z=E.enc z0) (ok:bu h) (n:Nat) (hn:0<n/\n<1000000) {b off c:Nat} (hs:bk E h (.slice (some ⟨b,off,none⟩) 1 c) [x]):
  aF FF f [.slice (some ⟨b,off,none⟩) 1 c,.int .i64 n] h (fun v h'=>ab aG h h'/\ ∃d s,v= .slice (some ⟨d,0,none⟩) n n/\h.next<=d/\h'.tr.get d=some (.aA (E.flat (List.replicate n x)) false 0 s)):=by
 have FA:z.length=E.sz:=by rw[hz,E.len]
 have hp:=E.pos;have w1:IntKind.u64.wrap 1=1:=g_ _ (by omega) (by omega);have wn:IntKind.u64.wrap (n:Int)=n:=g_ _ (by omega) (by omega);have wn':IntKind.i64.wrap (n:Int)=n:=wrap_i64 _ (by omega) (by omega);have n0: ¬(n:Int)<0:=by omega
 have n1: ¬(9223372036854775807:Int)<n:=by omega
 have r1:roomy n=true:=by simp[roomy];omega
 have r2:roomy (n*bytes)=true:=by have:n*bytes<=1000000*1000:=Nat.mul_le_mul (by omega) CM;simp[roomy];omega
 obtain⟨b',Oq,c',e',IV,⟨_,_,_,_,hbb⟩,dy⟩:=hs.read (i:=0) (x:=x) rfl;injection e' with e1 e2 e3;cases e1;have AY:=dy 0 E.sz (by omega);simp only[Nat.zero_mul,ID,List.drop_zero] at AY;have o7:bc h b off E.sz=some (E.enc x):=by rw[AY,XD (by rw[E.len];exact dK _)]
 have oB:=ok.bA hbb;have m1:Nat.min 1 n=1:=by show min 1 n=1;omega
 have m2:E.sz<=n*E.sz:=Nat.le_mul_of_pos_left _ hn.1;refine aF.of hf ?_;unfold Dd;simp[n0,w1,wn];refine aE.call (V:=fun v h'=>v= .tuple #[.int .u64 0,.int .u64 (n:Nat)]/\h'=h) (by simpa using Lw h n hn.2) ?_;rintro _ h' ⟨rfl,e⟩;subst e;simp[n1,wn',r1,r2,FA,hp,m1,aI,oB,o7,E.len,Dg E z0 hz,m2,-ag];have g0:ab aG h' (put (aL h' (E.flat (List.replicate n z0)) 0) h'.next 0 (E.flat (List.replicate n z0)) (E.enc x) 0):=(ab.refl ok).var _ _;have U8:(put (aL h' (E.flat (List.replicate n z0)) 0) h'.next 0 (E.flat (List.replicate n z0)) (E.enc x) 0).tr.get h'.next=some (.aA (E.flat (filled x z0 1 n)) false 0 h'.clock):=by rw[aD,Ic];have:=GQ E x z0 (k:=0) (m:=1) (n:=n) (by omega);simp only[filled,List.replicate_zero,List.nil_append,Nat.sub_zero,Nat.zero_mul,Bg,List.replicate_one,E.eM,E.UE,List.append_nil] at this ⊢;rw[this]
 refine aB.cut (fun h1=>ab aG h' h1/\ ∃s,h1.tr.get h'.next=some (.aA (E.flat (filled x z0 1 n)) false 0 s)) ⟨g0,_,U8⟩ ?_;rintro h1 ⟨g1,s1,Tj⟩;refine aB.loop (fun m e h2=> ∃k:Nat,m=n-k/\1<=k/\k<=n/\Env.get e 7= .slice (some ⟨h'.next,0,none⟩) n n/\Env.get e 8= .int .i64 k/\ab aG h' h2/\ ∃s,h2.tr.get h'.next=some (.aA (E.flat (filled x z0 k n)) false 0 s)) ?_ (n:=n-1)
  ⟨1,rfl,dK _,hn.1,by simp,by simp,g1,s1,Tj⟩
 rintro m e h2 ⟨k,rfl,hk1,Ec,f7,f8,g2,s2,D9⟩;unfold E0;by_cases ef:k<n
 .have q1:Nat.min k (n-k)=min k (n-k):=rfl;obtain⟨j,hj⟩: ∃j,j=min k (n-k):=⟨_,rfl⟩;rw[<-hj] at q1;have q2: ¬j=0:=by omega
  have q3:k<=n:=by omega
  have xZ:bc h2 h'.next 0 (j*E.sz)=some (E.flat (List.replicate j x)):=by have Eb:j*E.sz<=(filled x z0 k n).length*E.sz:=CI _ (by simp[filled];omega);rw[cy D9 (by simpa using Eb),List.drop_zero,E.gZ];congr 2;rw[filled,List.take_append_of_le_length (by simp;omega),List.take_replicate,Nat.min_eq_left (by omega)]
  have cn:k*E.sz+j*E.sz<=(filled x z0 k n).length*E.sz:=by rw[<-rU];exact CI _ (by simp[filled];omega)
  obtain⟨k',vM⟩: ∃k',k'=k+j:=⟨_,rfl⟩;have wk:IntKind.i64.wrap ((k:Int)+(j:Int))=(k':Int):=by rw[wrap_i64 _ (by omega) (by omega)];omega
  have hq:(k:Int)<(n:Int):=by omega
  simp[f7,f8,ef,hq,q1,q2,q3,D9,ay,xZ,cn,wk,-ag];refine⟨n-k',by omega,k',rfl,by omega,by omega,by simp,?_,?_⟩
  .exact ab.put g2.tick ⟨_,D9⟩ (.inl (dK _))
  .rw[vM,<-GQ E x z0 (by omega)]
 .have:k=n:=by omega
  subst this;simp[f7,f8];refine⟨g2,s2,?_⟩;rw[D9];simp[filled]
def jt:Enc (Int×Int):=⟨fun x=>[.int .i64 x.1,.int .i64 x.2],2,fun _=>rfl,by decide,fun _=>rfl⟩
@[simp] theorem Yw:jt.sz=2:=rfl
@[simp] theorem afU (x:Int×Int):jt.enc x=[.int .i64 x.1,.int .i64 x.2]:=rfl
theorem xF {α:Type} {E:Enc α} {x:α} (hb:h.tr.get b=some (.aA (E.enc x) ro o s)):bk E h (.slice (some ⟨b,0,none⟩) 1 c) [x]:=
 ⟨_,c,rfl,.inr ⟨b,0,_,ro,o,s,rfl,hb,by simp[E.len],by simp[XD,E.len]⟩⟩
theorem LN (ok:bu h) (n:Nat) (hn:0<n/\n<1000000) {b ro o s c:Nat} (hb:h.tr.get b=some (.aA [.int .i64 x] rb o s)):
  aF FF gT [.slice (some ⟨b,0,none⟩) 1 c,.int .i64 n] h (fun v h'=>ab aG h h'/\ ∃d s,v= .slice (some ⟨d,0,none⟩) n n/\h.next<=d/\h'.tr.get d=some (.aA (bp.flat (List.replicate n x)) false 0 s)):=
 Cn bp (z:=[.int .i64 0]) (bytes:=8) lu (by decide) 0 x rfl ok n hn (xF hb)
theorem E_ (ok:bu h) (n:Nat) (hn:0<n/\n<1000000) {b ro o s c:Nat} {x:Int×Int} (hb:h.tr.get b=some (.aA [.int .i64 x.1,.int .i64 x.2] rb o s)):
  aF FF cO [.slice (some ⟨b,0,none⟩) 1 c,.int .i64 n] h (fun v h'=>ab aG h h'/\ ∃d s,v= .slice (some ⟨d,0,none⟩) n n/\h.next<=d/\h'.tr.get d=some (.aA (jt.flat (List.replicate n x)) false 0 s)):=
 Cn jt (z:=[.int .i64 0,.int .i64 0]) (bytes:=16) ed (by decide) (0,0) x rfl ok n hn (xF hb)
theorem RH (h:ae):aF FF kK [.int .u64 1,.int .u64 0] h (fun v h'=>v= .tuple #[.int .u64 0,.int .u64 0]/\h'=h):=by simpa using Lw h 0 (by omega)
theorem Co {α:Type} (E:Enc α) (hf:FF f=some ⟨[.tmp 4],Dd z E.sz bytes,.no⟩) (hz:z.length=E.sz) (ok:bu h) {b off c:Nat} :
  aF FF f [.slice (some ⟨b,off,none⟩) 1 c,.int .i64 0] h (fun v h'=>ab aG h h'/\ ∃d s,v= .slice (some ⟨d,0,none⟩) 0 0/\h.next<=d/\h'.tr.get d=some (.aA [] false 0 s)):=by
 have hp:=E.pos;have w1:IntKind.u64.wrap 1=1:=g_ _ (by omega) (by omega);have w0:IntKind.u64.wrap 0=0:=g_ _ (by omega) (by omega);have w0':IntKind.i64.wrap 0=0:=wrap_i64 _ (by omega) (by omega);have m1:Nat.min 1 0=0:=rfl;refine aF.of hf ?_;unfold Dd;simp[w1,w0];refine aE.call (V:=fun v h'=>v= .tuple #[.int .u64 0,.int .u64 0]/\h'=h) (by simpa using RH h) ?_;rintro _ h' ⟨rfl,e⟩;subst e;simp[w0',roomy,hz,hp,jW,m1];rw[nJ];unfold E0;simp;exact aO ok _ _
theorem WT (ok:bu h) (n:Nat) (hn:n<1000000) {b o s c:Nat} {x:Int×Int} (hb:h.tr.get b=some (.aA [.int .i64 x.1,.int .i64 x.2] rb o s)):
  aF FF cO [.slice (some ⟨b,0,none⟩) 1 c,.int .i64 n] h (fun v h'=>ab aG h h'/\ ∃d s,v= .slice (some ⟨d,0,none⟩) n n/\h.next<=d/\h'.tr.get d=some (.aA (jt.flat (List.replicate n x)) false 0 s)):=by
 cases n with
 |zero=>exact Co jt (z:=[.int .i64 0,.int .i64 0]) (bytes:=16) ed rfl ok
 |succ n=>exact E_ ok (n+1) ⟨by omega,hn⟩ (ro:=0) hb
theorem E8 (ok:bu h) (n:Nat) (hn:n<1000000) {b o s c:Nat} (hb:h.tr.get b=some (.aA [.int .i64 x] rb o s)):
  aF FF gT [.slice (some ⟨b,0,none⟩) 1 c,.int .i64 n] h (fun v h'=>ab aG h h'/\ ∃d s,v= .slice (some ⟨d,0,none⟩) n n/\h.next<=d/\h'.tr.get d=some (.aA (bp.flat (List.replicate n x)) false 0 s)):=by
 cases n with
 |zero=>exact Co bp (z:=[.int .i64 0]) (bytes:=8) lu rfl ok
 |succ n=>exact LN ok (n+1) ⟨by omega,hn⟩ (ro:=0) hb
theorem jS (ok:bu h) {ob:o9} (hl:h.tr.get l=some ob) (env:Env) (ps:List Nat) (asg body:ak) (st:Ta):ab (· =l) h (fG h l env ps asg body st):=by
 refine⟨dK _,dK _,fun x hx hn=> ?_,⟨fun x o hx=> ?_,fun x cs ro o s hx=> ?_⟩⟩
 .simp only[fG,Tr.aN];rw[aT hn]
 .simp only[fG,Tr.aN] at hx ⊢;by_cases e:x=l
  .subst e;exact ok.wf _ _ hl
  .rw[aT e] at hx;exact ok.wf x o hx
 .simp only[fG,Tr.aN] at hx ⊢;by_cases e:x=l
  .rw[aU e] at hx;cases hx
  .rw[aT e] at hx;exact ok.st x cs ro o s hx
theorem ot (h:ae) (l:Nat) (env:Env) (ps:List Nat) (asg body:ak) (st:Ta):(fG h l env ps asg body st).tr.get l=some (.loop env ps asg body st):=by simp[fG,Tr.aN]
theorem OI {S:Nat->Prop} (ok:bu h1) {l p1 p2:Nat} {asg body:ak} {v1 v2:Value} {K:ae->Prop} (hS: ¬S l) (hl:h1.tr.get l=some (.loop e [p1,p2] asg body .ready))
  (H:aB FF asg (Tr.set (Tr.set e p1 v1) p2 v2) h1 (fun x e2 h2=>x= .normal/\ab aG h1 h2/\ ∀h3,ab (· =l) h2 h3->aB FF body e2 h3 (fun x _ h4=>x= .normal/\ab S h3 h4/\K h4)))
  (hK: ∀h4 h5,K h4->bu h4->ab (· =l) h4 h5->K h5):
  cP FF (.func (.yield l) #[] #[]) [v1,v2] h1 (fun r h5=>r= .bool true/\ab (fun x=>S x\/x=l) h1 h5/\h5.tr.get l=some (.loop e [p1,p2] asg body .ready)/\K h5):=by
 refine cP.yield hl (by simp[gV];rfl) ?_;refine H.mono ?_;rintro x e2 h2 ⟨rfl,g2,H2⟩;have tT:=g2.get ok hl (fun h=>h);refine⟨rfl,tT,?_⟩;have gs:=jS g2.ok tT e [p1,p2] asg body .busy;refine(H2 _ gs).mono ?_;rintro x e3 h4 ⟨rfl,g4,k4⟩;have Re:=g4.get gs.ok (ot h2 l e [p1,p2] asg body .busy) hS;have gt:=jS g4.ok Re e [p1,p2] asg body .ready;refine⟨⟨_,_,_,_,Re,rfl,rfl,rfl,rfl⟩,rfl,?_,ot _ _ _ _ _ _ _,hK _ _ k4 g4.ok gt⟩;exact((g2.bt.trans' gs (fun _ _ h=>h) (fun _ _ h=> .inr h)).trans' g4 (fun _ _ h=>h) (fun _ _ h=> .inl h)).trans' gt (fun _ _ h=>h) (fun _ _ h=> .inr h)
theorem FE (h:ae) (to:SV):aF FF fO [to.v] h (fun v h'=>v= .func (.func bD) #[] #[.pointer (some ⟨h.next,0,none⟩)]/\h'=aL h [to.v] 0):=by refine aF.of rQ ?_;unfold jX;simp
def BwI (ns:List Int) (y:Value) (b:Nat) (I:Nat->ae->Prop) (m:Nat) (e:Env) (h2:ae):Prop:=m<=ns.length/\Env.get e 0=y/\Env.get e 1= .pointer (some ⟨b,0,none⟩)/\Env.get e 3= .int .i64 ((m:Int)-1)/\I m h2
theorem DC {h0 h:ae} (jG:bu h0) {ns:List Int} (hT:SliceR nR 1 h0 T.v ns) (hl:ns.length<1000000) {y:Value} (I:Nat->ae->Prop) (hI: ∀j h2,I j h2->ab aG h0 h2/\ ∃s,h2.tr.get b=some (.aA [T.v] false 0 s))
  (H: ∀j x h2,ns[j]? =some x->I (j+1) h2->cP FF y [.int .i64 j,.int .i64 x] h2 (fun v h'=>v= .bool true/\I j h')) (hi:I ns.length h):
  aF FF bD [y,.pointer (some ⟨b,0,none⟩)] h (fun _ h'=>I 0 h'):=by
 have tC:=SliceR.len hT;obtain⟨_,s0,XQ⟩:=hI _ _ hi;simp at XQ;have w:=wrap_i64 ((ns.length:Int)-1) (by omega) (by omega);refine aF.of p9 ?_;unfold je;simp[XQ,tC,w];refine aB.loop (BwI ns y b I) ?_ (n:=ns.length) ⟨dK _,by simp,by simp,by simp,hi⟩;rintro m e h2 ⟨hj,f0,f1,f3,hi⟩;unfold ib;cases m with
 |zero=>
  have: ¬(0:Int)<= -1:=by omega
  simp[f3];exact hi
 |succ j=>
  have hx:ns[j]? =some ns[j]:=aX (by omega);generalize ns[j]=x at hx;obtain⟨g2,s,hb⟩:=hI _ _ hi;simp at hb;obtain⟨bT,off,c,Bi,_,_,rfl,_,dy⟩:=SliceR.later jG hT hx;have r0:=dy h2 g2 0 1 (by decide);simp[-ag] at r0;have e3:(((j+1:Nat):Int)-1)=(j:Int):=by omega
  rw[e3] at f3;have aS:j<ns.length:=by omega
  have wj:=wrap_i64 ((j:Int)-1) (by omega) (by omega);rw[Bi,tC] at hb;simp[f0,f1,f3,aq hb,aS,r0,-ag];refine aE.cD (V:=fun v h'=>v= .bool true/\I j h') (by simpa [f0] using H j x h2 hx hi) ?_;rintro _ h3 ⟨rfl,hi3⟩;simp[f3,wj];exact⟨j,by omega,by omega,by simp[f0],by simp[f1],by simp,hi3⟩
end Go.Proofs.YtdhnndleffachaaGreatDoor
namespace Go.AI.Dfs
variable {b n x:Nat} {l:List Nat}
structure DS where
 seen:List Bool
 left:List Nat
def row (dw:List (List Nat)) (b:Nat):List Nat:=(dw[b]?).getD []
def visitM (dw:List (List Nat)):Nat->Nat->DS->DS
 |0,_,s=>s
 |k+1,b,s=>
  let s1:=(row dw b).reverse.foldl (fun s t=>if s.seen[t]? =some true then s else visitM dw k t s) ⟨s.seen.set b true,s.left⟩
  ⟨s1.seen,s1.left++[b]⟩
def foldM (dw:List (List Nat)) (k:Nat) (l:List Nat) (s:DS):DS:=l.foldl (fun s t=>if s.seen[t]? =some true then s else visitM dw k t s) s
theorem oQ (dw:List (List Nat)) (k b:Nat) (s:DS):visitM dw (k+1) b s=⟨(foldM dw k (row dw b).reverse ⟨s.seen.set b true,s.left⟩).seen,(foldM dw k (row dw b).reverse ⟨s.seen.set b true,s.left⟩).left++[b]⟩:=rfl
theorem GR (dw:List (List Nat)) (k:Nat) (s:DS):foldM dw k [] s=s:=rfl
theorem u5 (dw:List (List Nat)) (k t:Nat) (l:List Nat) (s:DS):foldM dw k (t::l) s=foldM dw k l (if s.seen[t]? =some true then s else visitM dw k t s):=rfl
structure Vis (n:Nat) (s s':DS) (new:List Nat):Prop where
 left:s'.left=s.left++new
 len:s'.seen.length=n
 seen: ∀x,s'.seen[x]? =some true↔(s.seen[x]? =some true\/x∈new)
 fresh: ∀x∈new,¬s.seen[x]? =some true/\x<n
 nodup:new.Nodup
def uM (l:List Nat) (x p:Nat):Prop:= ∃l1 l2,l=l1++x::l2/\p∈l2
theorem uM.app {x p:Nat} (h:uM l x p) (a b:List Nat):uM (a++l++b) x p:=by obtain⟨l1,l2,rfl,hp⟩:=h;exact⟨a++l1,l2++b,by simp,List.mem_append_left _ hp⟩
theorem uM.last (h:x∈l):uM (l++[b]) x b:=by obtain⟨l1,l2,rfl⟩:=List.append_of_mem h;exact⟨l1,l2++[b],by simp,by simp⟩
def cU (s:DS):Nat:=s.seen.countP (fun x=> !x)
theorem Vis.trans {s s1 s2:DS} {l1 l2:List Nat} (h1:Vis n s s1 l1) (h2:Vis n s1 s2 l2):Vis n s s2 (l1++l2):=by
 refine⟨by rw[h2.left,h1.left,xU],h2.len,fun x=> ?_,fun x hx=> ?_,?_⟩
 .rw[h2.seen,h1.seen,tO,or_assoc]
 .rcases tO.1 hx with hx|hx
  .exact h1.fresh x hx
  .have:=h2.fresh x hx;exact⟨fun e=>this.1 ((h1.seen x).2 (.inl e)),this.2⟩
 .refine List.nodup_append.2 ⟨h1.nodup,h2.nodup,fun a ha b hb e=> ?_⟩;subst e;exact(h2.fresh a hb).1 ((h1.seen a).2 (.inr ha))
theorem countP_set {l:List Bool} (h:l[b]? =some false):(l.set b true).countP (fun x=> !x)+1=l.countP (fun x=> !x):=by
 induction l generalizing b with
 |nil=>simp at h
 |cons a l ih=>
  cases b with
  |zero=>simp at h;subst h;simp[List.set_cons_zero]
  |succ b=>
   simp at h;have:=ih h;rw[List.set_cons_succ,List.countP_cons,List.countP_cons];omega
theorem countP_le {l m:List Bool} (hl:l.length=m.length) (h: ∀x:Nat,l[x]? =some true->m[x]? =some true):m.countP (fun x=> !x)<=l.countP (fun x=> !x):=by
 induction l generalizing m with
 |nil=>cases m with
  |nil=>simp
  |cons b m=>simp at hl
 |cons a l ih=>
  cases m with
  |nil=>simp at hl
  |cons b m=>
   simp at hl;have:=ih hl (fun x hx=>by have:=h (x+1) (by simpa using hx);simpa using this);have h0:=h 0;simp at h0;rw[List.countP_cons,List.countP_cons];cases a<;>cases b<;>simp_all<;>omega
section
variable {dw:List (List Nat)} {n:Nat}
def Ps (dw:List (List Nat)) (n b:Nat) (s s':DS):Prop:=
 ∃new,Vis n s s' (new++[b])/\(∀x∈new++[b],∀t∈row dw x,s'.seen[t]? =some true)/\ ∀x∈new,∃p,x∈row dw p/\uM (new++[b]) x p
def abu (dw:List (List Nat)) (n:Nat) (l:List Nat) (s s':DS):Prop:=
 ∃new,Vis n s s' new/\(∀x∈new,∀t∈row dw x,s'.seen[t]? =some true)/\(∀t∈l,s'.seen[t]? =some true)/\ ∀x∈new,x∈l\/ ∃p,x∈row dw p/\uM new x p
theorem Iu (ht: ∀b t,t∈row dw b->t<n) {k:Nat} (ih: ∀b s,s.seen.length=n->b<n-> ¬s.seen[b]? =some true->cU s<=k->Ps dw n b s (visitM dw k b s)):
  ∀(l:List Nat) (s:DS),s.seen.length=n->(∀t∈l,t<n)->cU s<=k->abu dw n l s (foldM dw k l s)
 |[],s,hn,_,_=>⟨[],⟨by simp[GR],hn,by simp[GR],by simp,.nil⟩,by simp,by simp,by simp⟩
 |t::l,s,hn,hl,hk=>by
  rw[u5];by_cases hs:s.seen[t]? =some true
  .rw[aU hs];obtain⟨new,h1,h2,h3,h4⟩:=Iu ht ih l s hn (fun x hx=>hl x (CZ _ hx)) hk;refine⟨new,h1,h2,fun x hx=> ?_,fun x hx=> ?_⟩
   .rcases List.mem_cons.1 hx with rfl|hx
    .exact(h1.seen x).2 (.inl hs)
    .exact h3 x hx
   .rcases h4 x hx with h|h
    .exact .inl (CZ _ h)
    .exact .inr h
  .rw[aT hs];obtain⟨n1,v1,c1,p1⟩:=ih t s hn (hl t (D2 ..)) hs hk;have hle:cU (visitM dw k t s)<=k:=ug (countP_le (by rw[hn,v1.len]) (fun x hx=>(v1.seen x).2 (.inl hx))) hk;obtain⟨n2,v2,c2,t2,p2⟩:=Iu ht ih l _ v1.len (fun x hx=>hl x (CZ _ hx)) hle;refine⟨n1++[t]++n2,v1.trans v2,fun x hx u hu=> ?_,fun x hx=> ?_,fun x hx=> ?_⟩
   .rcases tO.1 hx with hx|hx
    .exact(v2.seen u).2 (.inl (c1 x hx u hu))
    .exact c2 x hx u hu
   .rcases List.mem_cons.1 hx with rfl|hx
    .exact(v2.seen x).2 (.inl ((v1.seen x).2 (.inr (by simp))))
    .exact t2 x hx
   .rcases tO.1 hx with hx|hx
    .rcases tO.1 hx with hx|hx
     .obtain⟨p,h1,h2⟩:=p1 x hx;exact .inr ⟨p,h1,by simpa using h2.app [] n2⟩
     .simp at hx;subst hx;exact .inl (D2 ..)
    .rcases p2 x hx with h|⟨p,h1,h2⟩
     .exact .inl (CZ _ h)
     .exact .inr ⟨p,h1,by simpa using h2.app (n1++[t]) []⟩
theorem Mm (ht: ∀b t,t∈row dw b->t<n): ∀(k b:Nat) (s:DS),s.seen.length=n->b<n-> ¬s.seen[b]? =some true->cU s<=k->Ps dw n b s (visitM dw k b s)
 |0,b,s,hn,hb,hs,hk=>by
  exfalso;have hf:s.seen[b]? =some false:=by
   rw[aX (by omega)] at hs ⊢;cases h:s.seen[b] with
   |true=>rw[h] at hs;exact absurd rfl hs
   |false=>rfl
  have:=countP_set hf;unfold cU at hk;omega
 |k+1,b,s,hn,hb,hs,hk=>by
  have hf:s.seen[b]? =some false:=by
   rw[aX (by omega)] at hs ⊢;cases h:s.seen[b] with
   |true=>rw[h] at hs;exact absurd rfl hs
   |false=>rfl
  have hc:=countP_set hf;obtain⟨new,v,c,t,p⟩:=Iu ht (Mm ht k) (row dw b).reverse ⟨s.seen.set b true,s.left⟩ (by simpa using hn) (fun x hx=>ht b x (List.mem_reverse.1 hx)) (by unfold cU at hk ⊢;dsimp only;omega);rw[oQ];have fH: ∀x,(s.seen.set b true)[x]? =some true↔(s.seen[x]? =some true\/x=b):=by
   intro x;rw[eR];by_cases e:b=x
   .subst e;simp;omega
   .rw[aT e];simp[Ne.symm e]
  refine⟨new,⟨by rw[v.left];simp,v.len,fun x=> ?_,fun x hx=> ?_,?_⟩,fun x hx u hu=> ?_,fun x hx=> ?_⟩
  .have:=v.seen x;dsimp only at this ⊢;rw[this,fH,tO];simp;constructor
   .rintro((h|h)|h)
    .exact .inl h
    .exact .inr (.inr h)
    .exact .inr (.inl h)
   .rintro(h|h|h)
    .exact .inl (.inl h)
    .exact .inr h
    .exact .inl (.inr h)
  .rcases tO.1 hx with hx|hx
   .have:=v.fresh x hx;exact⟨fun e=>this.1 ((fH x).2 (.inl e)),this.2⟩
   .simp at hx;subst hx;exact⟨hs,hb⟩
  .refine List.nodup_append.2 ⟨v.nodup,by simp,fun a ha c hc e=> ?_⟩;simp at hc;subst e;subst hc;exact(v.fresh a ha).1 ((fH a).2 (.inr rfl))
  .rcases tO.1 hx with hx|hx
   .exact c x hx u hu
   .simp at hx;subst hx;exact t u (List.mem_reverse.2 hu)
  .rcases p x hx with h|⟨q,h1,h2⟩
   .exact⟨b,List.mem_reverse.1 h,uM.last hx⟩
   .exact⟨q,h1,by simpa using h2.app [] [b]⟩
end
theorem yZ {s:DS} (hb:b<s.seen.length) (hs: ¬s.seen[b]? =some true):cU ⟨s.seen.set b true,s.left⟩+1=cU s:=by
 have hf:s.seen[b]? =some false:=by
  rw[aX hb] at hs ⊢;cases h:s.seen[b] with
  |true=>rw[h] at hs;exact absurd rfl hs
  |false=>rfl
 exact countP_set hf
theorem KD {dw:List (List Nat)} {k:Nat} (ih: ∀b s,(visitM dw k b s).seen.length=s.seen.length): ∀(l:List Nat) (s:DS),(foldM dw k l s).seen.length=s.seen.length
 |[],s=>rfl
 |t::l,s=>by
  rw[u5,KD ih l];split
  .rfl
  .exact ih t s
theorem HJ (dw:List (List Nat)): ∀(k b:Nat) (s:DS),(visitM dw k b s).seen.length=s.seen.length
 |0,_,_=>rfl
 |k+1,b,s=>by rw[oQ];dsimp only;rw[KD (HJ dw k)];simp
theorem u6 {dw:List (List Nat)} {k n:Nat} (ih: ∀b s,s.seen.length=n->b<n-> ¬s.seen[b]? =some true->(visitM dw k b s).left.length+cU (visitM dw k b s)<=s.left.length+cU s):
  ∀(l:List Nat) (s:DS),s.seen.length=n->(∀t∈l,t<n)->(foldM dw k l s).left.length+cU (foldM dw k l s)<=s.left.length+cU s
 |[],s,_,_=>dK _
 |t::l,s,hn,hl=>by
  rw[u5];split
  .exact u6 ih l s hn (fun x hx=>hl x (CZ _ hx))
  .rename_i h;have h1:=ih t s hn (hl t (D2 ..)) h;have h2:=u6 ih l (visitM dw k t s) (by rw[HJ];exact hn) (fun x hx=>hl x (CZ _ hx));omega
theorem Cv {dw:List (List Nat)} {n:Nat} (ht: ∀b t,t∈row dw b->t<n): ∀(k b:Nat) (s:DS),s.seen.length=n->b<n-> ¬s.seen[b]? =some true->(visitM dw k b s).left.length+cU (visitM dw k b s)<=s.left.length+cU s
 |0,_,_,_,_,_=>dK _
 |k+1,b,s,hn,hb,hs=>by have h1:=yZ (s:=s) (b:=b) (by omega) hs;have h2:=u6 (Cv ht k) (row dw b).reverse ⟨s.seen.set b true,s.left⟩ (by simpa using hn) (fun t zp=>ht b t (List.mem_reverse.1 zp));rw[oQ];dsimp only at h2 ⊢;rw[IG];have:cU ⟨(foldM dw k (row dw b).reverse ⟨s.seen.set b true,s.left⟩).seen,(foldM dw k (row dw b).reverse ⟨s.seen.set b true,s.left⟩).left++[b]⟩=cU (foldM dw k (row dw b).reverse ⟨s.seen.set b true,s.left⟩):=rfl;rw[this];simp only[List.length_singleton];omega
theorem FV (l:List Bool) (b:Nat):(l.set b true).countP (fun x=> !x)<=l.countP (fun x=> !x):=by
 induction l generalizing b with
 |nil=>simp
 |cons a l ih=>
  cases b with
  |zero=>rw[List.set_cons_zero,List.countP_cons,List.countP_cons];simp
  |succ b=>rw[List.set_cons_succ,List.countP_cons,List.countP_cons];have:=ih b;omega
theorem wF {dw:List (List Nat)} {k:Nat} (ih: ∀b s,cU (visitM dw k b s)<=cU s): ∀(l:List Nat) (s:DS),cU (foldM dw k l s)<=cU s
 |[],s=>dK _
 |t::l,s=>by
  rw[u5];refine ug (wF ih l _) ?_;split
  .exact dK _
  .exact ih t s
theorem AP (dw:List (List Nat)): ∀(k b:Nat) (s:DS),cU (visitM dw k b s)<=cU s
 |0,_,_=>dK _
 |k+1,b,s=>by rw[oQ];have h1:=wF (AP dw k) (row dw b).reverse ⟨s.seen.set b true,s.left⟩;have h2:cU ⟨s.seen.set b true,s.left⟩<=cU s:=FV _ _;exact ug h1 h2
def lH (dw:List (List Nat)) (n:Nat):List Nat:=(visitM dw n 0 ⟨List.replicate n false,[]⟩).left
theorem xC {dw:List (List Nat)} (h0:0<n) (ht: ∀b t,t∈row dw b->t<n):
  (lH dw n).Nodup/\(∀x∈lH dw n,x<n)/\(∃new,lH dw n=new++[0])/\(∀x∈lH dw n,∀t∈row dw x,t∈lH dw n)/\ ∀x∈lH dw n,x≠0-> ∃p,x∈row dw p/\uM (lH dw n) x p:=by
 obtain⟨new,v,c,p⟩:=Mm ht n 0 ⟨List.replicate n false,[]⟩ (by simp) h0 (by simp[UH]) (by unfold cU;exact ug (List.countP_le_length) (by simp))
 have hl:lH dw n=new++[0]:=by unfold lH;rw[v.left];simp
 rw[hl];refine⟨v.nodup,fun x hx=>(v.fresh x hx).2,⟨new,rfl⟩,fun x hx t ht=> ?_,fun x hx h=> ?_⟩
 .have:=(v.seen t).1 (c x hx t ht);rcases this with h|h
  .simp[UH] at h
  .exact h
 .rcases tO.1 hx with hx|hx
  .exact p x hx
  .simp at hx;exact absurd hx h
end Go.AI.Dfs
namespace Go.Proofs.YtdhnndleffachaaGreatDoor
open Go.AI
variable {B L:SV} {Fb Lf S V b n sb:Nat} {bs:List GB} {h h0:ae} {name:ByteArray} {p r:Int}
def wB:Enc Bool:=⟨fun x=>[.bool x],1,fun _=>rfl,by decide,fun _=>rfl⟩
@[simp] theorem aiY:wB.sz=1:=rfl
@[simp] theorem afS (x:Bool):wB.enc x=[.bool x]:=rfl
theorem ad2 {W:Nat} {ws:List Bool} {o s:Nat} {ro:Bool} (hW:h.tr.get W=some (.aA (wB.flat ws) ro o s)) {k:Nat} {x:Bool} (hk:ws[k]? =some x):bc h W k 1=some [.bool x]:=by have hl:=(bY.mp hk).1;rw[cy hW (by rw[wB.bC];show k+1<=ws.length*1;omega)];have:=wB.nq ws k 0 1 x hk (by decide);simp only[ID] at this;rw[show k=k*wB.sz from(Nat.mul_one k).symm,this];rfl
theorem Xl (ws:List Bool) (i:Nat) (x:Bool) (h:i<ws.length):aJ (wB.flat ws) i [.bool x]=wB.flat (ws.set i x):=by have:=wB.fu ws i x h;simpa using this
def py (bs:List GB):List (List Nat):=bs.map fun b=>b.to.map Int.toNat
structure QA (h0 h:ae) (n S sb Fb V Lf:Nat) (name:ByteArray) (p r:Int) (B L:SV) (s:Dfs.DS):Prop where
 g:ab aG h0 h
 n1:h0.next<=sb
 n2:h0.next<=Lf
 hS: ∃t,h.tr.get S=some (.aA [.slice (some ⟨sb,0,none⟩) n n] false 0 t)
 vc: ∃t,h.tr.get sb=some (.aA (wB.flat s.seen) false 0 t)
 hF: ∃t,h.tr.get Fb=some (.aA (au name p r B) false 0 t)
 hV: ∃t,h.tr.get V=some (.aA [.func (.func jE) #[] #[.pointer (some ⟨S,0,none⟩),.pointer (some ⟨Fb,0,none⟩),.pointer (some ⟨V,0,none⟩),.pointer (some ⟨Lf,0,none⟩)]] false 0 t)
 hL: ∃t,h.tr.get Lf=some (.aA [L.v] false 0 t)
 acc:cI bp h0.next h L.v (s.left.map fun x:Nat=>(x:Int))
 len:s.seen.length=n
 ll:s.left.length+Dfs.cU s<=n
 ne:S≠sb/\S≠Lf/\sb≠Fb/\sb≠V/\sb≠Lf/\Fb≠Lf/\V≠Lf
 wE: ∀b,ax L.v b->b≠S/\b≠sb/\b≠Fb/\b≠V/\b≠Lf
def PW (sb Lf:Nat) (L:SV) (x:Nat):Prop:=x=sb\/x=Lf\/ax L.v x
def TW (S sb Fb V Lf:Nat) (L:SV) (x:Nat):Prop:=x=S\/x=sb\/x=Fb\/x=V\/x=Lf\/ax L.v x
theorem QA.tD {h0 h h':ae} {s:Dfs.DS} (w:QA h0 h n S sb Fb V Lf name p r B L s) {Q:Nat->Prop} (g:ab Q h h') (hq: ∀x,TW S sb Fb V Lf L x-> ¬Q x) (g0:ab aG h0 h'):QA h0 h' n S sb Fb V Lf name p r B L s:=by
 obtain⟨t1,h1⟩:=w.hS;obtain⟨t2,h2⟩:=w.vc;obtain⟨t3,h3⟩:=w.hF;obtain⟨t4,h4⟩:=w.hV;obtain⟨t5,h5⟩:=w.hL;have ok:=w.g.ok;exact⟨g0,w.n1,w.n2,⟨t1,g.get ok h1 (hq _ (.inl rfl))⟩,⟨t2,g.get ok h2 (hq _ (.inr (.inl rfl)))⟩,⟨t3,g.get ok h3 (hq _ (.inr (.inr (.inl rfl))))⟩,⟨t4,g.get ok h4 (hq _ (.inr (.inr (.inr (.inl rfl)))))⟩,⟨t5,g.get ok h5 (hq _ (.inr (.inr (.inr (.inr (.inl rfl))))))⟩,
  w.acc.grow ok g (fun b hb=>hq _ (.inr (.inr (.inr (.inr (.inr hb)))))),w.len,w.ll,w.ne,w.wE⟩
theorem QA.bA {s:Dfs.DS} (w:QA h0 h n S sb Fb V Lf name p r B L s): ∀x,TW S sb Fb V Lf L x->x<h.next:=by
 obtain⟨t1,h1⟩:=w.hS;obtain⟨t2,h2⟩:=w.vc;obtain⟨t3,h3⟩:=w.hF;obtain⟨t4,h4⟩:=w.hV;obtain⟨t5,h5⟩:=w.hL;have ok:=w.g.ok;rintro x (rfl|rfl|rfl|rfl|rfl|⟨off,m,cap,e⟩)
 .exact ok.wf _ _ h1
 .exact ok.wf _ _ h2
 .exact ok.wf _ _ h3
 .exact ok.wf _ _ h4
 .exact ok.wf _ _ h5
 .rcases w.acc with⟨_,e2⟩|⟨b2,s2,e2,dq,_⟩
  .rw[e2] at e;cases e
  .rw[e2] at e;cases e;exact ok.wf _ _ dq
def tn:ak:=(P_ 1 (G_ [l_ 21 1,m_ 22 7,a_ 23 1 21 22,l_ 24 23,o_ 25 (.un .not (t_ 24))] (I_ 25 (O_ [l_ 26 3,m_ 27 7,o_ 28 (.call (t_ 26) [t_ 27])]) .skip)))
def xf:ak:=(.ops [⟨(some 7),none,(.mv (.tmp 20))⟩])
def JJ:ak:=(.ops [⟨(some 8),none,(.load none (.tmp 1))⟩,⟨(some 9),none,(.mv (.tmp 0))⟩,⟨(some 10),none,(.cR none 1 (.tmp 8) (.tmp 9))⟩,⟨none,none,(.store 1 (.tmp 10) (.const (.bool true)))⟩])
def abj:ak:=(O_ [f_ 11 3 2,l_ 12 11,m_ 13 0,a_ 14 6 12 13,f_ 15 2 14,f_ 16 3 15,l_ 17 16,o_ 18 (.call (.func fO) [t_ 17])])
def O8:ak:=(O_ [l_ 29 4,m_ 30 0,o_ 31 (.cX 1 [(.int .i64 0)] [(0,(1,(t_ 30)))]),o_ 32 (.append [(.int .i64 0)] 8 false (t_ 29) (t_ 31)),s_ 1 4 32])
theorem Xy:vW= .seq JJ (.seq (.seq abj (.block 0 (.Qk (.tmp 18) [19,20] xf tn))) O8):=rfl
def T9 (h0 h:ae) (n S sb Fb V Lf:Nat) (name:ByteArray) (p r:Int) (B L:SV) (s':Dfs.DS) (h':ae):Prop:=
 ∃L':SV,QA h0 h' n S sb Fb V Lf name p r B L' s'/\ab (PW sb Lf L) h h'/\ ∀x,ax L'.v x->ax L.v x\/h.next<=x
theorem aab {s:Dfs.DS} (hn:n<=1000) (w:QA h0 h n S sb Fb V Lf name p r B L s) (Ed:s.left.length+1+Dfs.cU s<=n) {e:Env} (f0:Env.get e 0= .int .i64 b) (f4:Env.get e 4= .pointer (some ⟨Lf,0,none⟩)) {Q:aP->Env->ae->Prop}
  (H: ∀e' h',T9 h0 h n S sb Fb V Lf name p r B L ⟨s.seen,s.left++[b]⟩ h'->Q .normal e' h'):aB FF O8 e h Q:=by
 obtain⟨t5,hL⟩:=w.hL;have ok:=w.g.ok;simp at hL;unfold O8;simp[f0,f4,hL];have g4:=aO ok (bp.enc (b:Int)) 0;have Td:=w.acc.grow ok g4 (fun _ _ h=>h);have hw4:bk bp (aL h (bp.enc (b:Int)) 0) (.slice (some ⟨h.next,0,none⟩) 1 1) [(b:Int)]:=⟨_,_,rfl,.inr ⟨h.next,0,_,_,_,_,rfl,cx _ _ _,by simp,by simp⟩⟩;have h0n:=w.g.next;obtain⟨v',h5,ha,yo,g5,MB⟩:=pY (bytes:=8) g4.ok (z:=[.int .i64 0]) rfl Td hw4 (by simp;omega) (by decide) (by show h0.next<=h.next+1;omega);refine kE ha ?_;obtain⟨W,rfl⟩:=cI.sv' yo;have ow:=w.bA;have ex:ab (ax L.v) h h5:=g4.bt.trans g5;have hL5:=ex.get ok hL (fun e=>(w.wE _ e).2.2.2.2 rfl);have lo: ∀x,ax L.v x->h0.next<=x:=fun x hx=>w.acc.of hx;have Fv:ab aG h0 h5:=w.g.trans' ex (fun _ _ h=>h) (fun x hx e=>by have:=lo x e;omega);simp[hL5,f4];obtain⟨t1,h1⟩:=w.hS;obtain⟨t2,h2⟩:=w.vc;obtain⟨t3,h3⟩:=w.hF;obtain⟨t4,h4⟩:=w.hV;obtain⟨m1,m2,m3,m4,m5,m6,m7⟩:=w.ne;have gp:ab (· =Lf) h5 (put h5 Lf 0 [.slice L.a L.l L.c] [.slice W.a W.l W.c] 0):=aM Fv.ok hL5;have kp: ∀x (ob:o9),h.tr.get x=some ob-> ¬ax L.v x->x≠Lf->(put h5 Lf 0 [.slice L.a L.l L.c] [.slice W.a W.l W.c] 0).tr.get x=some ob:=fun x ob hx n1 n2=>gp.get Fv.ok (ex.get ok hx n1) n2;have lW: ∀x,ax W.v x->h.next+1<=x:=fun x hx=>by have:=MB x hx;simp at this;omega
 refine H _ _ ⟨W,⟨Fv.put ⟨_,hL5⟩ (.inl w.n2),w.n1,w.n2,⟨t1,kp _ _ h1 (fun e=>(w.wE _ e).1 rfl) m2⟩,⟨t2,kp _ _ h2 (fun e=>(w.wE _ e).2.1 rfl) m5⟩,⟨t3,kp _ _ h3 (fun e=>(w.wE _ e).2.2.1 rfl) m6⟩,⟨t4,kp _ _ h4 (fun e=>(w.wE _ e).2.2.2.1 rfl) m7⟩,⟨h5.clock,by simp⟩,?_,w.len,?_,w.ne,fun x hx=> ?_⟩,?_,fun x hx=> .inr (by have:=lW x hx;omega)⟩
 .have:=yo.grow Fv.ok gp (fun x hx e=>by have:=lW x hx;have:=ow Lf (.inr (.inr (.inr (.inr (.inl rfl)))));omega);simpa using this
 .have:Dfs.cU ⟨s.seen,s.left++[b]⟩=Dfs.cU s:=rfl;rw[this];simp;omega
 .have:=lW x hx;have o1:=ow S (.inl rfl);have o2:=ow sb (.inr (.inl rfl));have o3:=ow Fb (.inr (.inr (.inl rfl)));have o4:=ow V (.inr (.inr (.inr (.inl rfl))));have o5:=ow Lf (.inr (.inr (.inr (.inr (.inl rfl)))));exact⟨by omega,by omega,by omega,by omega,by omega⟩
 .exact ex.trans' gp (fun x _ h=> .inr (.inr h)) (fun x _ e=> .inr (.inl e)) |>.bJ (fun _ _ h=>h)
theorem WU {x:GB} (h:bs[b]? =some x):Dfs.row (py bs) b=x.to.map Int.toNat:=by unfold Dfs.row py;rw[tQ,h];rfl
theorem AN (E:jo bs): ∀b t,t∈Dfs.row (py bs) b->t<bs.length:=by
 intro b t ht;unfold Dfs.row py at ht;rw[tQ] at ht;cases hb:bs[b]? with
 |none=>rw[hb] at ht;simp at ht
 |some x=>
  rw[hb] at ht;simp at ht;obtain⟨a,ha,rfl⟩:=ht;have:=E.to x (dk hb) a ha;omega
theorem Nr {dw:List (List Nat)} {k:Nat} {ns:List Nat} {j x:Nat} (hx:ns[j]? =some x) (s:Dfs.DS):
  Dfs.foldM dw k (ns.reverse.take (ns.length-j)) s=(let s1:=Dfs.foldM dw k (ns.reverse.take (ns.length-(j+1))) s;if s1.seen[x]? =some true then s1 else Dfs.visitM dw k x s1):=by
 have hj:=(bY.mp hx).1;have e:ns.length-j=(ns.length-(j+1))+1:=by omega
 have hr:ns.reverse[ns.length-(j+1)]? =some x:=by rw[List.getElem?_reverse (by omega)];rw[<-hx];congr 1;omega
 rw[e,yn,hr];unfold Dfs.foldM;rw[List.foldl_append];rfl
section
variable {h0:ae} {bs:List GB} {B:SV}
theorem Pa (jG:bu h0) (hB:AU h0 B bs) (E:jo bs) (hn:bs.length=n): ∀(k b:Nat) (h:ae) (L:SV) (s:Dfs.DS),QA h0 h n S sb Fb V Lf name p r B L s->b<n-> ¬s.seen[b]? =some true->Dfs.cU s<=k->
  aF FF jE [.int .i64 b,.pointer (some ⟨S,0,none⟩),.pointer (some ⟨Fb,0,none⟩),.pointer (some ⟨V,0,none⟩),.pointer (some ⟨Lf,0,none⟩)] h (fun _ h'=>T9 h0 h n S sb Fb V Lf name p r B L (Dfs.visitM (py bs) k b s) h'):=by
 intro k;induction k with
 |zero=>
  intro b h L s w hb hs hk;have:=Dfs.yZ (s:=s) (b:=b) (by rw[w.len];exact hb) hs;omega
 |succ k ih=>
  intro b h L s w hb hs hk;have To:=E.len;have ew:=SliceR.len hB;have hfs:=Dfs.yZ (s:=s) (b:=b) (by rw[w.len];exact hb) hs;obtain⟨x,hx⟩: ∃x,bs[b]? =some x:=⟨_,aX (by omega)⟩;have hm:=dk hx;obtain⟨t1,hS⟩:=w.hS;obtain⟨t2,vc⟩:=w.vc;obtain⟨t3,hF⟩:=w.hF;obtain⟨m1,m2,m3,m4,m5,m6,m7⟩:=w.ne;have ok:=w.g.ok;have ow:=w.bA;have Ld:b+1<=s.seen.length:=by rw[w.len];omega
  refine aF.of DH ?_;rw[Xy];rw[show JJ=_ from rfl];unfold JJ;simp[hS,hb,vc,Ld]
  
  refine aB.cut (fun h1=>QA h0 h1 n S sb Fb V Lf name p r B L ⟨s.seen.set b true,s.left⟩/\ab (· =sb) h h1) ?_ ?_
  .have gp:ab (· =sb) h (put h sb b (wB.flat s.seen) [.bool true] 0):=aM ok vc;have kp: ∀y (ob:o9),h.tr.get y=some ob->y≠sb->(put h sb b (wB.flat s.seen) [.bool true] 0).tr.get y=some ob:=fun y ob hy n1=>gp.get ok hy n1;obtain⟨t4,hV⟩:=w.hV;obtain⟨t5,hL⟩:=w.hL;refine⟨⟨w.g.put ⟨_,vc⟩ (.inl w.n1),w.n1,w.n2,⟨t1,kp _ _ hS m1⟩,⟨h.clock,by rw[aD,Xl _ _ _ (by omega)]⟩,⟨t3,kp _ _ hF (Ne.symm m3)⟩,⟨t4,kp _ _ hV (Ne.symm m4)⟩,⟨t5,kp _ _ hL (Ne.symm m5)⟩,w.acc.grow ok gp (fun y hy e=>(w.wE y hy).2.1 e),by simp[w.len],?_,w.ne,w.wE⟩,gp⟩;have:=w.ll;show s.left.length+Dfs.cU ⟨s.seen.set b true,s.left⟩<=n;omega
  rintro h1 ⟨w1,g1⟩;obtain⟨bb,off,c,ig,_,_,⟨P,L2,T,rfl,sP,sL,sT⟩,_,dy⟩:=SliceR.later jG hB hx;have r5:=dy h1 w1.g 5 1 (by decide);simp[-ag] at r5;obtain⟨t6,wK⟩:=w1.hF;simp only[au] at wK;have tC:=SliceR.len sT;unfold abj;rw[hn] at ew;simp only[SV.abi,ig,ew] at wK;simp[aq wK,hb,r5,-ag];refine aE.call (V:=fun v h'=>v= .func (.func bD) #[] #[.pointer (some ⟨h1.next,0,none⟩)]/\h'=aL h1 [T.v] 0) (by simpa using FE h1 T) ?_;rintro _ h2 ⟨rfl,e2⟩;have g12:ab aG h1 h2:=by rw[e2];exact aO w1.g.ok _ _
  have agM:h2.tr.get h1.next=some (.aA [T.v] false 0 0):=by rw[e2];exact cx _ _ _
  have hnx2:h2.next=h1.next+1:=by rw[e2];rfl
  clear e2;simp;have g2':=w1.g.trans g12;have Tx:=g2'.ok;have ow1:=w1.bA;have ahh:h.next<=h1.next:=g1.next;have ob2:=Tx.bA agM;generalize hse:(⟨s.seen.set b true,s.left⟩:Dfs.DS)=s1 at*;have am8:Dfs.cU s1<=k:=by omega
  have ahe:s1.seen.length=n:=w1.len;obtain⟨ns,hns⟩: ∃ns,ns=x.to.map Int.toNat:=⟨_,rfl⟩;have anJ:ns.length=x.to.length:=by rw[hns];simp
  have hltn: ∀(i:Nat),TW S sb Fb V Lf L i->i<h2.next:=fun i hi=>by have:=ow1 i hi;have:=g12.next;omega
  refine aB.Qk (g:=bD) (first:= #[]) (caps:= #[.pointer (some ⟨h1.next,0,none⟩)]) (by simp) ?_;obtain⟨e,he⟩: ∃e,e=((((((((((((((((Tr.nil.set 0 (Value.int IntKind.i64 ↑b)).set 1 (Value.pointer (some { block:=S,off:=0 }))).set 2 (Value.pointer (some { block:=Fb,off:=0 }))).set 3 (Value.pointer (some { block:=V,off:=0 }))).set 4 (Value.pointer (some { block:=Lf,off:=0 }))).set 8 (Value.slice (some { block:=sb,off:=0 }) n n)).set 9 (Value.int IntKind.i64 ↑b)).set 10 (Value.pointer (some { block:=sb,off:=b }))).set 11 (Value.pointer (some { block:=Fb,off:=3 }))).set 12 (Value.slice (some { block:=bb,off:=off }) n B.c)).set 13 (Value.int IntKind.i64 ↑b)).set 14 (Value.pointer (some { block:=bb,off:=off+b*6 }))).set 15 (Value.pointer (some { block:=bb,off:=off+b*6+2 }))).set 16 (Value.pointer (some { block:=bb,off:=off+b*6+2+3 }))).set 17 (Value.slice T.a T.l T.c)).set 18 (Value.func (Fn.func bD) #[] #[Value.pointer (some { block:=h1.next,off:=0 })])):=⟨_,rfl⟩;rw[<-he];have e1:Env.get e 1= .pointer (some ⟨S,0,none⟩):=by rw[he];simp
  have e3:Env.get e 3= .pointer (some ⟨V,0,none⟩):=by rw[he];simp
  have e0:Env.get e 0= .int .i64 b:=by rw[he];simp
  have e4:Env.get e 4= .pointer (some ⟨Lf,0,none⟩):=by rw[he];simp
  clear he;have g23:ab aG h2 (h2.new (.loop e [19,20] xf tn .ready)):=by
   refine⟨Nat.le_succ _,dK _,fun b hb _=>y4 _ hb,⟨fun b ob hb=> ?_,fun b cs ro op s hb=> ?_⟩⟩
   .simp only[ae.new,Tr.aN] at hb ⊢;by_cases e:b=h2.next
    .omega
    .rw[aT e] at hb;exact Nat.lt_succ_of_lt (Tx.wf b ob hb)
   .simp only[ae.new,Tr.aN] at hb ⊢;by_cases e:b=h2.next
    .rw[aU e] at hb;cases hb
    .rw[aT e] at hb;exact Tx.st b cs ro op s hb
  have Y0:(h2.new (.loop e [19,20] xf tn .ready)).tr.get h2.next=some (.loop e [19,20] xf tn .ready):=by simp[ae.new,Tr.aN]
  have hnx3:(h2.new (.loop e [19,20] xf tn .ready)).next=h2.next+1:=rfl
  generalize h2.new (.loop e [19,20] xf tn .ready)=h3 at*;have Nz:ab aG h1 h3:=g12.trans g23;have w3:QA h0 h3 n S sb Fb V Lf name p r B L s1:=w1.tD Nz (fun _ _ h=>h) (w1.g.trans Nz);have amV:=g23.get Tx agM (fun h=>h)
  
  let I:Nat->ae->Prop:=fun j hh=> ∃L':SV,QA h0 hh n S sb Fb V Lf name p r B L' (Dfs.foldM (py bs) k (ns.reverse.take (ns.length-j)) s1)/\(∀y,ax L'.v y->ax L.v y\/h3.next<=y)/\ab (fun y=>PW sb Lf L y\/y=h2.next) h3 hh/\hh.tr.get h2.next=some (.loop e [19,20] xf tn .ready)/\hh.tr.get h1.next=some (.aA [T.v] false 0 0)
  have adx: ∀L':SV,(∀y,ax L'.v y->ax L.v y\/h3.next<=y)-> ∀y,TW S sb Fb V Lf L' y->y≠h2.next/\y≠h1.next:=by
   intro L' hL' y hy;have lo: ∀y,TW S sb Fb V Lf L y->y<h1.next:=ow1;rcases hy with h|h|h|h|h|h
   .have:=lo y (.inl h);omega
   .have:=lo y (.inr (.inl h));omega
   .have:=lo y (.inr (.inr (.inl h)));omega
   .have:=lo y (.inr (.inr (.inr (.inl h))));omega
   .have:=lo y (.inr (.inr (.inr (.inr (.inl h)))));omega
   .rcases hL' y h with h|h
    .have:=lo y (.inr (.inr (.inr (.inr (.inr h)))));omega
    .omega
  have BD:=DC (h0:=h0) (h:=h3) jG (b:=h1.next) sT (by have:=E.two x hm;omega) (y:= .func (.yield h2.next) #[] #[]) I (fun j hh ⟨L',w',_,_,_,iy⟩=>⟨w'.g,0,iy⟩) ?_ ⟨L,by rw[<-anJ];simpa [Dfs.foldM] using w3,fun y hy=> .inl hy,.refl w3.g.ok,Y0,amV⟩
  .refine(by simpa using BD:aF FF bD _ _ _).mono ?_;rintro _ h4 ⟨L',w4,hL4,g34,Re,Gc⟩;refine vT.ready Re ?_;refine Eq.mp (by rw[Ox];rfl) (?_:aB FF _ _ _ _);have gd:ab (· =h2.next) h4 (DR h4 h2.next):=ou w4.g.ok h2.next;have l02:h0.next<=h2.next:=g2'.next;have w5:=w4.tD gd (fun y hy e=>(adx L' hL4 y hy).1 e) (w4.g.trans' gd (fun _ _ h=>h) (fun y hy e=>by omega));have vb:Dfs.row (py bs) b=ns:=by rw[WU hx,hns]
   have mM:ns.reverse.take (ns.length-0)=ns.reverse:=XD (by simp);rw[mM] at w5;have aco:=Dfs.u6 (Dfs.Cv (AN E) k) ns.reverse s1 (by rw[ahe,hn]) (fun t ht=>AN E b t (by rw[vb];exact List.mem_reverse.1 ht));have an4:s1.left=s.left:=by rw[<-hse]
   have Ed:=w.ll;rw[an4] at aco;refine aab (by omega) w5 (by omega) e0 e4 ?_;rintro e' h' ⟨L2',w6,g6,UU⟩;simp;have hv:Dfs.visitM (py bs) (k+1) b s=⟨(Dfs.foldM (py bs) k ns.reverse s1).seen,(Dfs.foldM (py bs) k ns.reverse s1).left++[b]⟩:=by rw[Dfs.oQ,vb,hse]
   rw[hv];have l5:h4.next<=(DR h4 h2.next).next:=gd.next
   refine⟨L2',w6,?_,fun y hy=> ?_⟩
   .have q1:ab (PW sb Lf L) h h1:=g1.bJ (fun _ _ e=> .inl e);have q2:ab (PW sb Lf L) h h3:=q1.trans Nz.bt;have q3:ab (PW sb Lf L) h h4:=q2.trans' g34 (fun _ _ h=>h) (fun y hy h=>h.elim id (fun e=>by omega));have q4:ab (PW sb Lf L) h (DR h4 h2.next):=q3.trans' gd (fun _ _ h=>h) (fun y hy e=>by omega);refine q4.trans' g6 (fun _ _ h=>h) (fun y hy h=> ?_);rcases h with h|h|h
    .exact .inl h
    .exact .inr (.inl h)
    .rcases hL4 y h with h|h
     .exact .inr (.inr h)
     .omega
   .rcases UU y hy with h|h
    .rcases hL4 y h with h|h
     .exact .inl h
     .exact .inr (by omega)
    .exact .inr (by have:=g34.next;omega)
  .intro j y hh hy ⟨L',w',hL',g3h,hlh,hbh⟩;have Hs:=w'.g.ok;have nL:=adx L' hL';have l3h:=g3h.next;have hyn:(ns[j]?)=some y.toNat:=by rw[hns,tQ,hy];rfl
   obtain⟨hy0,uw⟩:=E.to x hm y (dk hy);obtain⟨u,rfl⟩: ∃u:Nat,y=u:=⟨y.toNat,by omega⟩;rw[UI] at hyn;have C6:u<n:=by omega
   have B7:=Nr (dw:=py bs) (k:=k) hyn s1;generalize hsj:Dfs.foldM (py bs) k (ns.reverse.take (ns.length-(j+1))) s1=sj at*;have arp:sj.seen.length=n:=w'.len;have hfj:Dfs.cU sj<=k:=by rw[<-hsj];exact ug (Dfs.wF (Dfs.AP (py bs) k) _ _) am8
   obtain⟨bv,hbv⟩: ∃bv,sj.seen[u]? =some bv:=⟨_,aX (by omega)⟩
   let K:ae->Prop:=fun h'=> ∃Ym:SV,QA h0 h' n S sb Fb V Lf name p r B Ym (Dfs.foldM (py bs) k (ns.reverse.take (ns.length-j)) s1)/\(∀z,ax Ym.v z->ax L.v z\/h3.next<=z)/\h'.tr.get h1.next=some (.aA [T.v] false 0 0)
   refine(OI (S:=PW sb Lf L') (K:=K) Hs (l:=h2.next) (fun h=> ?_) hlh ?_ ?_).mono ?_
   .rcases h with h|h|h
    .exact(nL sb (.inr (.inl rfl))).1 h.symm
    .exact(nL Lf (.inr (.inr (.inr (.inr (.inl rfl)))))).1 h.symm
    .exact(nL _ (.inr (.inr (.inr (.inr (.inr h)))))).1 rfl
   .unfold xf;simp;refine⟨.refl Hs,fun h5 g5=> ?_⟩;have l0h:h0.next<=h2.next:=g2'.next;have w5:=w'.tD g5 (fun y hy e=>(nL y hy).1 e) (w'.g.trans' g5 (fun _ _ h=>h) (fun y hy e=>by omega));have YV:=g5.get Hs hbh (fun e=>by omega);obtain⟨t7,hS5⟩:=w5.hS;obtain⟨t8,an5⟩:=w5.vc;obtain⟨t9,hV5⟩:=w5.hV;have rs:=ad2 an5 hbv;unfold tn;cases bv with
    |true=>
     simp[e1,aq hS5,C6,rs,-ag];refine⟨.refl w5.g.ok,L',?_,hL',YV⟩;rw[B7];simpa [hbv] using w5
    |false=>
     simp[e1,e3,aq hS5,aq hV5,C6,rs,-ag];refine aE.cD (V:=fun _ h'=>T9 h0 h5 n S sb Fb V Lf name p r B L' (Dfs.visitM (py bs) k u sj) h') ?_ ?_
     .have V1:cP FF (.func (.func jE) #[] #[.pointer (some ⟨S,0,none⟩),.pointer (some ⟨Fb,0,none⟩),.pointer (some ⟨V,0,none⟩),.pointer (some ⟨Lf,0,none⟩)]) [.int .i64 u] h5 (fun _ h'=>T9 h0 h5 n S sb Fb V Lf name p r B L' (Dfs.visitM (py bs) k u sj) h'):=
       cP.func (by simpa using ih u h5 L' sj w5 C6 (by rw[hbv];simp) hfj)
      simpa using V1
     rintro v h6 ⟨Ym,w6,g6,UU⟩;simp;have l5h:=g5.next;refine⟨g6,Ym,?_,fun z hz=> ?_,g6.get w5.g.ok YV (fun h=> ?_)⟩
     .rw[B7];simpa [hbv] using w6
     .rcases UU z hz with h|h
      .exact hL' z h
      .exact .inr (by omega)
     .rcases h with h|h|h
      .exact(nL sb (.inr (.inl rfl))).2 h.symm
      .exact(nL Lf (.inr (.inr (.inr (.inr (.inl rfl)))))).2 h.symm
      .exact(nL _ (.inr (.inr (.inr (.inr (.inr h)))))).2 rfl
   .rintro h5 h6 ⟨Ym,w6,UU,Th⟩ ok5 g6;have l0h:h0.next<=h2.next:=g2'.next;exact⟨Ym,w6.tD g6 (fun y hy e=>(adx Ym UU y hy).1 e) (w6.g.trans' g6 (fun _ _ h=>h) (fun y hy e=>by omega)),UU,g6.get ok5 Th (fun e=>by omega)⟩
   .rintro v h5 ⟨rfl,g5,hl5,Ym,w6,UU,Th⟩;refine⟨rfl,Ym,w6,UU,?_,hl5,Th⟩;refine g3h.trans' g5 (fun _ _ h=>h) (fun z hz h=> ?_);rcases h with h|h
    .rcases h with h|h|h
     .exact .inl (.inl h)
     .exact .inl (.inr (.inl h))
     .rcases hL' z h with h|h
      .exact .inl (.inr (.inr h))
      .omega
    .exact .inr h
end
end Go.Proofs.YtdhnndleffachaaGreatDoor
