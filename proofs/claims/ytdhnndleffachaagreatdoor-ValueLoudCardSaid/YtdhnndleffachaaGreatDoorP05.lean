/- Parts of the proof. -/
import Derived.Test.YtdhnndleffachaaGreatDoorP04
import Derived.Test.YtdhnndleffachaaGreatDoorP03
set_option linter.all false
namespace Go.Proofs.YtdhnndleffachaaGreatDoor
open Go.AI
variable{A B O W wk:SV}{F K R S X a ai b c d8 dA i j k lim n n0 n8 o pv s s1 s2 sA sX:Nat}{QQ:aT->Env->ae->Prop}{aO:List Nat}{ah:List (List Int)}{ats:List Int}{bs:List GB}{cap pP xB κ κ0 κ1:Nat->Nat}{e:Env}{h h' h0 h1:ae}{kind t:Int}{name:ByteArray}{on v:Bool×Int}{q:Int×SV}{qs:List (Int×SV)}{r:XR}{rs ys:List XR}{vs:List (Bool×Int)}{ws:List SV}{x:Int×(Bool×Int)}{xs:List (Int×(Bool×Int))}{y:Value}{α:Type}
def CyI(h0 h1:ae)(M0 ai F R:Nat)(name:ByteArray)(p r:Int)(B':SV)(bs:List GB)(m:Nat)(e:Env)(h':ae):Prop:=
 ∃(j:Nat) (ys rs:List XR) (κ cap:Nat->Nat),m=bs.length-j/\j<=bs.length/\ak e 1=.pointer (some ⟨F,0,none⟩)/\ak e 2=.pointer (some ⟨R,0,none⟩)/\ak e 14=B'.v/\ak e 15=.int .i64 bs.length/\ak e 16=.int .i64 j/\ab (ax B'.v) h1 h'/\eY fC h' B' ys/\ys.length=bs.length/\rs.length=j/\cn h' M0 ai κ cap rs/\
  (∀(i:Nat)(y:XR)(b:GB),ys[i]?=some y->bs[i]?=some b->(i<j->rs[i]?=some y/\RD y b)/\(j<=i->Ps h0 y b))
theorem Kg(oD:bm h0)(g1:ab aK h0 h1){M0 ai F R s1 s2:Nat}{p r:Int}{B':SV}(hB:eY fC h1 B' ys)(Aa:ys.length=bs.length)(hy:∀(i:Nat)(y:XR)(b:GB),ys[i]?=some y->bs[i]?=some b->Ps h0 y b)(zY:∀b∈bs,InB ai b)(vh:bs.length<1000000)(hM:M0<=h1.next)(hBM:∀b,ax B'.v b->h0.next<=b/\b<M0/\b≠F/\b≠R)(h0M:h0.next<=M0)(hFM:F<M0)(hRM:R<M0)(hF:h1.tr.get F=some (.aC (aw name p r B') false 0 s1))(hR:h1.tr.get R=some (.aC [.string ⟨⟨[]⟩⟩,.int .i64 0,.int .i64 0,.slice none 0 0] false 0 s2))(f1:ak e 1=.pointer (some ⟨F,0,none⟩))(f2:ak e 2=.pointer (some ⟨R,0,none⟩))(f14:ak e 14=B'.v)(f15:ak e 15=.int .i64 bs.length)(f16:ak e 16=.int .i64 0)(C:∀e' h' ys' κ cap,ak e' 1=.pointer (some ⟨F,0,none⟩)->ak e' 2=.pointer (some ⟨R,0,none⟩)->ab (ax B'.v) h1 h'->eY fC h' B' ys'->ys'.length=bs.length->cn h' M0 ai κ cap ys'->(∀(i:Nat)(y:XR)(b:GB),ys'[i]?=some y->bs[i]?=some b->RD y b)->QQ (.exit 0) e' h'):
  aB FF (.loop rm) e h1 QQ:=by
 have ez:=hB.len;refine aB.loop (CyI h0 h1 M0 ai F R name p r B' bs) ?_ (n:=bs.length) ⟨0,ys,[],_,_,rfl,by omega,f1,f2,f14,f15,f16,.refl g1.ok,hB,Aa,rfl,cn.nil h1 M0 ai,fun i y b h1 h2=>⟨fun h=>by omega,fun _=>hy i y b h1 h2⟩⟩;rintro m e' h'⟨j,ys,rs,κ,cap,rfl,hj,q1,q2,Hq,Ax,CO,g,hB,Aa,vj,W,H⟩;have Hi:=g.ok;have gg:ab aK h0 h':=g1.trans' g (fun _ _ h=>h) (fun x hx e=>by have:=(hBM x e).1;omega);have vf:=g.get g1.ok hF (fun e=>(hBM F e).2.2.1 rfl);have hR':=g.get g1.ok hR (fun e=>(hBM R e).2.2.2 rfl);unfold rm;by_cases aS:j<bs.length
 .have wj:=wrap_i64 ((j:Int)+1) (by omega) (by omega);obtain⟨b,hb⟩:=aE bs j aS;obtain⟨y,hyj⟩:=aE ys j;have hT:=(H j y b hyj hb).2 (dw _);have I:=zY b (dG hb);obtain⟨bB,cs,oB,sB,kC,PH,hjB,eU,dj,gE⟩:=hB.el hyj;have ez:=hB.len;have r0:=dj 0 6 (by decide);simp[-ag] at r0;simp at Hq;rw[kC,ez,Aa] at Hq;have kj:=SliceR.len hT.P;have ui:=SliceR.len hT.L;have xZ:=SliceR.len hT.T;simp[Hq,Ax,CO,aS,r0,-ag,au];refine aG.cut (fun h2=>ab aK h' h2/\(∃s,h2.tr.get h'.next=some (.aC [y.P.v,y.L.v,.int .i64 y.kind,.bool y.on.1,.int .i64 y.on.2,y.T.v] false 0 s))) ⟨(ab.refl Hi).var _ _,_,aD _ _ _ _ _ _⟩ ?_;rintro h2⟨g2,s3,dX⟩;have mz:=gg.trans g2;have lX:h'.next<h2.next:=mz.ok.wf _ _ dX;obtain⟨qs0,Zr,apt,Yk⟩:=ajr hT.P;refine aG.call (V:=tj gL h2 qs0) (by simpa using jM gL (bytes:=32) mS rfl (by decide) mz.ok (apt.bl oD mz) (by have:=I.lp;omega)) ?_;rintro _ h3⟨g3,P',rfl,hP3,Y6,_⟩;have fe:=g3.get mz.ok dX;have di:=mz.trans g3;have U2:=hP3.len;simp at fe;simp[fe,U2,Zr];refine aB.cut (fun h4=>ab (· =h'.next) h3 h4/\(∃s,h4.tr.get h'.next=some (.aC [P'.v,y.L.v,.int .i64 y.kind,.bool y.on.1,.int .i64 y.on.2,y.T.v] false 0 s))) ?_ ?_
  .refine⟨aQ di.ok fe,h3.clock,?_⟩;rw[aD];simp[U2,Zr,aH]
  rintro h4⟨g4,s4,vg⟩;have me:ab aK h0 h4:=di.trans' g4 (fun _ _ h=>h) (fun x hx e=>by have:=gg.next;omega);have XT:eY gL h4 P' qs0:=hP3.grow di.ok g4 (fun b hb e=>by have:=Y6 b hb;omega);have lnX4:h'.next<h4.next:=by have:=g3.next;have:=g4.next;omega
  have V4:qe h4 h'.next ai (fun _=>0) (fun _=>0):=⟨fun b hb=>absurd hb (by decide),fun b hb=>absurd rfl hb⟩;have ln4:h'.next<=h4.next:=by have:=g2.next;have:=g3.next;have:=g4.next;omega
  refine QX oD me (ai:=ai) (M:=h'.next) XT Zr Yk (fun p hp=>⟨(I.ph p hp).2.1,(I.ph p hp).2.2⟩) I.lp gg.next ln4 (fun b hb=>⟨by have:=Y6 b hb;omega,rfl,by have:=Y6 b hb;omega⟩) vg V4 (by simp) (by simp[U2,Zr]) (by simp) (by simp) ?_;intro e5 h5 κ5 acf qs5 K5 g5 uL hP5 apu hq5 V5 hκ5 _;have ok4:=me.ok;have ln5:h4.next<=h5.next:=g5.next;have oS:ab aK h0 h5:=me.trans' g5 (fun _ _ h=>h) (fun x hx e=>by have:=Y6 x e;have:=gg.next;omega);have k1:=K5.at (t:=1) (by simp;exact q1);have k2:=K5.at (t:=2) (by simp;exact q2);have k3:ak e5 3=.int .i64 j:=K5.at (t:=3) (by simp);have k4:ak e5 4=.pointer (some ⟨h'.next,0,none⟩):=K5.at (t:=4) (by simp);have k14:=K5.at (t:=14) (by simp;exact Hq);have k15:=K5.at (t:=15) (by simp;exact Ax);have k16:=K5.at (t:=16) (by simp;exact CO);have VU:∀x,ax P'.v x->x<h4.next:=fun x hx=>XT.bC ok4 hx;simp at uL;simp[k4,uL];obtain⟨xs0,ZA,apW,IM⟩:=ai5 hT.L;refine aG.call (V:=tj jZ h5 xs0) (by simpa using jM jZ (bytes:=80) mR rfl (by decide) oS.ok (apW.bl oD oS) (by have:=I.ll;omega)) ?_;rintro _ h6⟨g6,L',rfl,NC,Tn,_⟩;have wU:=g6.get oS.ok uL;have Mt:=oS.trans g6;have acL:=NC.len;have V6:=V5.grow oS.ok g6 (fun _ h=>h.elim);simp[k4,wU,acL,ZA];refine aB.cut (fun h7=>ab (· =h'.next) h6 h7/\(∃s,h7.tr.get h'.next=some (.aC [P'.v,L'.v,.int .i64 y.kind,.bool y.on.1,.int .i64 y.on.2,y.T.v] false 0 s))) ?_ ?_
  .refine⟨aQ Mt.ok wU,h6.clock,?_⟩;rw[aD];simp[acL,ZA,aH]
  rintro h7⟨g7,s7,XY⟩;have gg7:ab aK h0 h7:=Mt.trans' g7 (fun _ _ h=>h) (fun x hx e=>by have:=gg.next;omega);have hL7:eY jZ h7 L' xs0:=NC.grow Mt.ok g7 (fun b hb e=>by have:=Tn b hb;have:=g5.next;omega);have nX5:κ5 h'.next=0:=hκ5 _ (by have:=g3.next;have:=g4.next;omega);have V7:qe h7 h'.next ai κ5 acf:=V6.grow Mt.ok g7 (fun b e=>by rw[e];exact nX5);have ln7:h5.next<=h7.next:=by have:=g6.next;have:=g7.next;omega
  refine QW oD gg7 (ai:=ai) (M:=h'.next) (kind:=y.kind) (on:=y.on) (P:=P') (T:=y.T) hL7 ZA IM (fun p hp=>⟨(I.li p hp).2.2.2.1,(I.li p hp).2.2.2.2⟩) I.ll gg.next (by omega) (fun b hb=>⟨by have:=Tn b hb;omega,?_,by have:=Tn b hb;omega⟩) XY V7 (by simp[k4]) (by simp[acL,ZA]) (by simp) (by simp) ?_
  .rcases ve (κ5 b) with h|h
   .exact h
   .have:=Tn b hb;have:=(V5.new b (by omega)).2.2;omega
  intro e8 h8 κ8 cap8 xs8 K8 g8 Za hL8 apZ hx8 V8 hκ8 hc8;have ok7:=gg7.ok;have UR:ab aK h0 h8:=gg7.trans' g8 (fun _ _ h=>h) (fun x hx e=>by have:=Tn x e;have:=oS.next;omega);have m1:=K8.at (t:=1) (by simp;exact k1);have m2:=K8.at (t:=2) (by simp;exact k2);have m3:ak e8 3=.int .i64 j:=K8.at (t:=3) (by simp;exact k3);have m4:ak e8 4=.pointer (some ⟨h'.next,0,none⟩):=K8.at (t:=4) (by simp;exact k4);have m14:=K8.at (t:=14) (by simp;exact k14);have m15:=K8.at (t:=15) (by simp;exact k15);have m16:=K8.at (t:=16) (by simp;exact k16);simp at Za;simp[m4,Za];refine aG.call (V:=tj bj h8 b.to) (by simpa using jM bj (bytes:=8) lS rfl (by decide) UR.ok ((abE hT.T).bl oD UR) (by have:=I.lt;omega)) ?_;rintro _ h9⟨g9,T',rfl,hT9,hTn,_⟩;have hX9:=g9.get UR.ok Za;have gg9:=UR.trans g9;have ln8:h7.next<=h8.next:=g8.next
  
  have gB:ab (ax B'.v) h' h9:=by have a1:ab aK h' h4:=(g2.trans g3).trans' g4 (fun _ _ h=>h) (fun x hx e=>by omega);have a2:ab aK h' h5:=a1.trans' g5 (fun _ _ h=>h) (fun x hx e=>by have:=Y6 x e;omega);have a3:ab aK h' h7:=(a2.trans g6).trans' g7 (fun _ _ h=>h) (fun x hx e=>by omega);have a4:ab aK h' h8:=a3.trans' g8 (fun _ _ h=>h) (fun x hx e=>by have:=Tn x e;have:=a2.next;omega);exact(a4.trans g9).bl
  have gN:ab aK h' h9:=by have a1:ab aK h' h4:=(g2.trans g3).trans' g4 (fun _ _ h=>h) (fun x hx e=>by omega);have a2:ab aK h' h5:=a1.trans' g5 (fun _ _ h=>h) (fun x hx e=>by have:=Y6 x e;omega);have a3:ab aK h' h7:=(a2.trans g6).trans' g7 (fun _ _ h=>h) (fun x hx e=>by omega);have a4:ab aK h' h8:=a3.trans' g8 (fun _ _ h=>h) (fun x hx e=>by have:=Tn x e;have:=a2.next;omega);exact a4.trans g9
  have hF9:=gN.get Hi vf;have hR9:=gN.get Hi hR';have ag6:=gN.get Hi PH;simp[aw] at hF9;rw[kC,ez,Aa] at hF9;have lB:=(Hi.bC PH).lt;have lF:=(Hi.bC vf).lt;have nFX:¬F=h'.next:=by omega
  have nBX:¬bB=h'.next:=by omega
  have hf6:=eU 0 6 (by decide);simp at hf6;simp[m1,m3,m4,m16,hX9,hF9,nFX,nBX,aS,ag6,hf6,wj];have V9:=V8.grow UR.ok g9 (fun _ h=>h.elim);have hP7:eY gL h7 P' qs5:=(hP5.bl oS.ok g6).grow Mt.ok g7 (fun b hb e=>by have:=Y6 b hb;omega);have hP9:eY gL h9 P' qs5:=(hP7.grow gg7.ok g8 (fun b hb e=>by have:=Tn b e;have:=VU b hb;omega)).bl UR.ok g9;have hL9:=hL8.bl UR.ok g9;have lL7:∀x,ax L'.v x->x<h7.next:=fun x hx=>hL7.bC gg7.ok hx;obtain⟨κn,R9,Vn9,ad9,aqH⟩:=aqm V9 gg9.ok (kind:=y.kind) (on:=y.on) hP9 hL9 hT9
   (fun b hb=>⟨by have:=Y6 b hb;omega,by rw[hκ8 b (by have:=VU b hb;omega),hκ5 b (VU b hb)],fun h=>by have:=Tn b h;have:=VU b hb;omega,fun h=>by have:=hTn b h;have:=VU b hb;omega⟩)
   (fun b hb=>⟨by have:=Tn b hb;omega,by
    rw[hκ8 b (lL7 b hb)];rcases ve (κ5 b) with h|h
    .exact h
    .have:=Tn b hb;have:=(V5.new b (by omega)).2.2;omega,fun h=>by have:=hTn b h;have:=lL7 b hb;omega⟩)
   (fun b hb=>⟨by have:=hTn b hb;omega,by
    rcases ve (κ8 b) with h|h
    .exact h
    .have:=hTn b hb;have:=(V8.new b (by omega)).2.2;omega⟩)
   (fun q hq=>by obtain⟨i,hi⟩:=sv hq;have gY:=(cr.mp hi).1;have Yi:b.dQ[i]?=some (b.dQ[i]'(by omega)):=fI (by omega);have Fm:=dG Yi;obtain⟨a1,a2,_⟩:=hq5 i q _ hi Yi;have:=(I.ph _ Fm).1;refine⟨by rw[a1];exact this,a2.congr (fun b' gk=>?_)⟩;obtain⟨c1,c2⟩:=hc8 b' (by omega);exact⟨by omega,c2⟩)
   (fun x hx=>by obtain⟨i,hi⟩:=sv hx;have gY:=(cr.mp hi).1;have Yi:b.list[i]?=some (b.list[i]'(by omega)):=fI (by omega);have Fm:=dG Yi;obtain⟨⟨_,a1,a2,a3,_⟩,a4,_⟩:=hx8 i x _ hi Yi;obtain⟨c1,c2,c3,_⟩:=I.li _ Fm;exact⟨by rw[a1];exact c1,by rw[a2];exact c2,by rw[a3];exact c3,a4⟩)
   (by rw[hT.on];exact I.on)
  have hκX:κ8 h'.next=0:=by rw[hκ8 _ (by omega)];exact nX5
  obtain⟨CU,e10⟩:∃CU,CU=put h9 h'.next 5 [.slice P'.a P'.l P'.c,.slice L'.a L'.l L'.c,.int .i64 y.kind,.bool y.on.1,.int .i64 y.on.2,.slice y.T.a y.T.l y.T.c] [.slice T'.a T'.l T'.c] 0:=⟨_,rfl⟩;rw[<-e10];have Fi:ab (· =h'.next) h9 CU:=by rw[e10];exact aQ gg9.ok hX9
  have ag5:=Fi.get gg9.ok ag6 nBX;have YV:ab (· =bB) CU (put CU bB (j*6) cs [.slice P'.a P'.l P'.c,.slice L'.a L'.l L'.c,.int .i64 y.kind,.bool y.on.1,.int .i64 y.on.2,.slice T'.a T'.l T'.c] oB):=aQ Fi.ok ag5;have gS:ab (fun x=>x=h'.next\/x=bB) h9 (put CU bB (j*6) cs [.slice P'.a P'.l P'.c,.slice L'.a L'.l L'.c,.int .i64 y.kind,.bool y.on.1,.int .i64 y.on.2,.slice T'.a T'.l T'.c] oB):=Fi.trans' YV (fun _ _ h=>.inl h) (fun _ _ h=>.inr h);have n1:∀x,(x=h'.next\/x=bB)->¬ax P'.v x/\¬ax L'.v x/\¬ax T'.v x:=by
   intro x hx;refine⟨fun h=>?_,fun h=>?_,fun h=>?_⟩
   .have:=Y6 x h;omega
   .have:=Tn x h;omega
   .have:=hTn x h;omega
  have Rf:=R9.grow gg9.ok gS n1;have Vf:=Vn9.grow gg9.ok gS (fun x hx h1=>by
   have h2:=aqH x h1;have h3:=ad9 x (by omega);rcases hx with rfl|rfl
   .omega
   .omega)
  have gF:ab (ax B'.v) h' (put CU bB (j*6) cs [.slice P'.a P'.l P'.c,.slice L'.a L'.l L'.c,.int .i64 y.kind,.bool y.on.1,.int .i64 y.on.2,.slice T'.a T'.l T'.c] oB):=
   gN.trans' gS (fun _ _ h=>h.elim) (fun x hx h=>by
    rcases h with rfl|rfl
    .omega
    .exact cw kC)
  have hκB:∀x,ax B'.v x->κ x=0\/κ x=2:=by
   intro x hx;rcases ve (κ x) with h|h
   .exact .inl h
   .have:=(W.new x (by omega)).1;have:=(hBM x hx).2.1;omega
  have Wf:=W.push Hi gF hκB (by have:=g.next;omega) Rf Vf (fun x hx=>⟨(ad9 x hx).1,by have:=(ad9 x hx).2;have:=gS.next;omega⟩);have abm:=gE ⟨P',L',T',y.kind,y.on,qs5,xs8,b.to⟩ 0 [.slice P'.a P'.l P'.c,.slice L'.a L'.l L'.c,.int .i64 y.kind,.bool y.on.1,.int .i64 y.on.2,.slice T'.a T'.l T'.c] (by simp) rfl (put CU bB (j*6) cs [.slice P'.a P'.l P'.c,.slice L'.a L'.l L'.c,.int .i64 y.kind,.bool y.on.1,.int .i64 y.on.2,.slice T'.a T'.l T'.c] oB) ⟨_,aD _ _ _ _ _ _⟩;refine⟨bs.length-(j+1),by omega,j+1,ys.set j ⟨P',L',T',y.kind,y.on,qs5,xs8,b.to⟩,rs++[⟨P',L',T',y.kind,y.on,qs5,xs8,b.to⟩],_,_,rfl,aS,by simp[m1],by simp[m2],by simp[m14,kC,ez,Aa],by simp[m15],by simp,g.trans gF,abm,by simp[Aa],by simp[vj],Wf,fun i y' b' h1 h2=>?_⟩;rw[fg] at h1;by_cases e:j=i
  .subst e;rw[aZ rfl,aZ (by omega)] at h1;cases h1;rw[hb] at h2;cases h2;refine⟨fun _=>⟨by rw[Mu (by omega),vj];simp,⟨hT.kind,hT.on,rfl,apu,fun i q p a1 a2=>?_,apZ,fun i q p a1 a2=>⟨(hx8 i q p a1 a2).1,(hx8 i q p a1 a2).2.2⟩⟩⟩,fun h=>by omega⟩;obtain⟨c1,_,c3⟩:=hq5 i q p a1 a2;exact⟨c1,c3⟩
  .rw[aW e] at h1;obtain⟨a1,a2⟩:=H i y' b' h1 h2;refine⟨fun h=>?_,fun h=>a2 (by omega)⟩;obtain⟨c1,c2⟩:=a1 (by omega);exact⟨by rw[Ky (by omega)];exact c1,c2⟩
 .have:j=bs.length:=by omega
  subst this;have e:ys=rs:=zS fun i=>by
   rcases zf i bs.length with hi|hi
   .have h1:ys[i]?=some (ys[i]'(by omega)):=fI (by omega);have h2:bs[i]?=some bs[i]:=fI hi;rw[h1,((H i _ _ h1 h2).1 hi).1]
   .rw[tS (by omega),tS (by omega)]
  subst e;simp[Ax,CO];exact C _ _ ys κ cap (by simp[q1]) (by simp[q2]) g hB Aa W (fun i y b h1 h2=>((H i y b h1 h2).1 (cr.mp h2).1).2)
structure pV(h:ae)(n0 ai:Nat)(κ cap:Nat->Nat)(B:SV)(rs:List XR):Prop where
 os:cn h n0 ai κ cap rs
 A:eY fC h B rs
 kB:∀b,ax B.v b->κ b=2
theorem pV.bl{h h':ae}{n0 ai:Nat}{κ cap:Nat->Nat}{B:SV}{rs:List XR}(w:pV h n0 ai κ cap B rs)(ok:bm h)(g:ab aK h h'):pV h' n0 ai κ cap B rs:=⟨w.os.bl ok g,w.A.bl ok g,w.kB⟩
theorem pV.grow{S:Nat->Prop}{h h':ae}{n0 ai:Nat}{κ cap:Nat->Nat}{B:SV}{rs:List XR}(w:pV h n0 ai κ cap B rs)(ok:bm h)(g:ab S h h')(hS:∀b,S b->κ b=0):pV h' n0 ai κ cap B rs:=
 ⟨w.os.grow ok g (fun b hb=>.inl (hS b hb)),w.A.grow ok g (fun b hb hs=>by have:=hS b hs;have:=w.kB b hb;omega),w.kB⟩
theorem cn.own{n0 n1 ai:Nat}(w:cn h n1 ai κ cap rs)(ok:bm h)(hB:eY fC h B rs)(hn:n0<=n1)(Tm:∀b,ax B.v b->n0<=b/\κ b=0):∃κ':Nat->Nat,pV h n0 ai κ' cap B rs/\∀b,¬ax B.v b->κ' b=κ b:=by
 obtain⟨κ',p1,q1⟩:∃κ':Nat->Nat,(∀b,ax B.v b->κ' b=2)/\(∀b,¬ax B.v b->κ' b=κ b):=by
  rcases hB.2 with⟨ha,_⟩|⟨b,_,_,_,ha,_⟩
  .exact⟨κ,fun b hb=>(fS ha hb).elim,fun b _=>rfl⟩
  .exact⟨CB κ B 2,fun b' hb=>by rw[qw ha hb];exact pN ha,fun b' hb=>kz ha (fun e=>hb (e▸cw ha))⟩
 have e1:∀b,κ b≠0->κ' b=κ b/\cap b=cap b:=fun b hb=>⟨q1 b (fun h=>hb (Tm b h).2),rfl⟩;refine⟨κ',⟨⟨fun i r hr=>(w.r i r hr).congr e1,w.dP,w.dL,w.dT,fun b hb=>?_,fun b hb=>?_⟩,hB,p1⟩,q1⟩
 .by_cases h1:ax B.v b
  .rw[p1 b h1] at hb;omega
  .rw[q1 b h1] at hb;exact w.V b hb
 .by_cases h1:ax B.v b
  .exact⟨(Tm b h1).1,hB.bC ok h1⟩
  .rw[q1 b h1] at hb;have:=w.new b hb;omega
def Mp(rs:List XR)(bs:List GB):Prop:=rs.length=bs.length/\∀(i:Nat)(y:XR)(b:GB),rs[i]?=some y->bs[i]?=some b->RD y b
def aaE(name:ByteArray)(p r:Int)(ai:Nat)(bs:List GB)(h:ae)(v:Value)(h':ae):Prop:=
 ab aK h h'/\∃(B':SV) (rs:List XR) (κ cap:Nat->Nat),v=.agg ⟨aw name p r B'⟩/\pV h' h.next ai κ cap B' rs/\Mp rs bs
theorem QV(ok:bm h){name:ByteArray}{p r:Int}(hB:CT h B bs)(zY:∀b∈bs,InB ai b)(vh:bs.length<1000000):
  aF FF Ak [.agg ⟨aw name p r B⟩] h (aaE name p r ai bs h):=by
 refine aF.of HP ?_;unfold zw;simp[aw];refine aG.cut (fun h1=>ab aK h h1/\h1.tr.get h.next=some (.aC (aw name p r B) false 0 0)/\h1.tr.get (h.next+1)=some (.aC [.string ⟨⟨[]⟩⟩,.int .i64 0,.int .i64 0,.slice none 0 0] false 0 0)) ?_ ?_
 .exact⟨((ab.refl ok).new _ _).new _ _,by simp[aw],by simp⟩
 rintro h1⟨g1,xX,uK⟩;obtain⟨ys0,Aa,PV,hy⟩:=agx hB;refine aG.call (V:=tj fC h1 ys0) (by simpa using jM fC (bytes:=96) kG rfl (by decide) g1.ok (PV.bl ok g1) (by omega)) ?_;rintro _ h2⟨g2,B',rfl,Tl,Tm,_⟩;have mz:=g1.trans g2;have mI:=g2.get g1.ok xX;have AO:=g2.get g1.ok uK;have lR:=g1.ok.wf _ _ uK;have lR2:=mz.ok.wf _ _ AO;have anl:=Tl.len;simp[aw] at mI;simp[mI];refine aB.cut (fun h3=>ab (· =h.next) h2 h3/\(∃s,h3.tr.get h.next=some (.aC (aw name p r B') false 0 s))) ?_ ?_
 .refine⟨aQ mz.ok mI,h2.clock,?_⟩;rw[aD];simp[aw,aH]
 rintro h3⟨g3,s3,xD⟩;have di:ab aK h h3:=mz.trans' g3 (fun _ _ h=>h) (fun x hx e=>by omega);have hB3:=Tl.grow mz.ok g3 (fun b hb e=>by have:=Tm b hb;omega);have zh:=g3.get mz.ok AO (by omega);have hBo:∀b,ax B'.v b->b<h2.next:=fun b hb=>Tl.bC mz.ok hb;have ln3:=g3.next;refine Kg ok di (M0:=h2.next) (ai:=ai) hB3 Aa hy zY vh ln3 (fun b hb=>⟨by have:=Tm b hb;omega,hBo b hb,by have:=Tm b hb;omega,by have:=Tm b hb;omega⟩) (by omega) (by omega) (by omega) xD zh (by simp) (by simp) (by simp) (by simp[anl,Aa]) (by simp) ?_;intro e4 h4 ys κ cap q1 q2 g4 hB4 adY W4 H4;have me:ab aK h h4:=di.trans' g4 (fun _ _ h=>h) (fun x hx e=>by have:=Tm x e;omega);have GL:=g4.get di.ok xD (fun e=>by have:=Tm _ e;omega);have U5:=g4.get di.ok zh (fun e=>by have:=Tm _ e;omega);simp[aw] at GL;simp[q1,q2,GL,U5];have κ0:∀b,b<h2.next->κ b=0:=by
  intro b hb;rcases ve (κ b) with h|h
  .exact h
  .have:=(W4.new b (by omega)).1;omega
 have gR:ab (· =h.next+1) h4 (put h4 (h.next+1) 0 [.string ⟨⟨[]⟩⟩,.int .i64 0,.int .i64 0,.slice none 0 0] [.string name,.int .i64 p,.int .i64 r,.slice B'.a B'.l B'.c] 0):=aQ me.ok U5;have W5:=W4.grow me.ok gR (fun b e=>.inl (κ0 b (by omega)));have hB5:=hB4.grow me.ok gR (fun b hb e=>by have:=Tm b hb;omega);obtain⟨κ',W6,_⟩:=W5.own (n0:=h.next) gR.ok hB5 (by omega) (fun b hb=>⟨by have:=Tm b hb;omega,κ0 b (hBo b hb)⟩);exact⟨me.trans' gR (fun _ _ h=>h) (fun x hx e=>by omega),B',ys,κ',cap,rfl,W6,adY,H4⟩
theorem qG{α β:Type}{Q:α->β->Prop} :∀(xs:List α),(∀x∈xs,∃y,Q x y)->∃ys:List β,ys.length=xs.length/\∀(i:Nat)(x:α)(y:β),xs[i]?=some x->ys[i]?=some y->Q x y
 |[],_=>⟨[],rfl,fun i x y h=>by simp at h⟩
 |x::xs,H=>by
  obtain⟨y,h1⟩:=H x (AN ..);obtain⟨ys,hl,h2⟩:=qG xs (fun x hx=>H x (Bf _ hx));refine⟨y::ys,by simp[hl],fun i x' y' hx hy=>?_⟩;cases i with
  |zero=>simp at hx hy;subst hx;subst hy;exact h1
  |succ i=>exact h2 i x' y' hx hy
theorem eY.view{α β:Type}{E:Enc α}{R:List Value->β->Prop}{xs:List α}{ys:List β}(w:eY E h A xs)(hl:ys.length=xs.length)(H:∀(i:Nat)(x:α)(y:β),xs[i]?=some x->ys[i]?=some y->R (E.enc x) y):SliceR R E.sz h A.v ys:=by
 obtain⟨hA,w⟩:=w;refine⟨A.a,A.c,by simp[hA,hl],?_⟩;rcases w with⟨ha,_,rfl⟩|⟨b,o,s,bg,ha,hc,hb,_⟩
 .exact .inl ⟨JC hl,.inl ha⟩
 .refine .inr ⟨b,0,_,_,_,_,ha,hb,fun i y hy=>?_⟩;have hi:=(cr.mp hy).1;have hx:xs[i]?=some (xs[i]'(by omega)):=fI (by omega);have rQ:(xs++bg)[i]?=some (xs[i]'(by omega)):=by rw[Ky (by omega)];exact hx
  rw[BX,E.lL _ _ _ rQ];exact⟨E.len _,H i _ y hx hy⟩
theorem VA.row{h:ae}{κ cap:Nat->Nat}{ai:Nat}{F:SV}(w:VA κ cap F)(V:yy h κ cap ai):∃row,SliceR vR 2 h F.v row/\row.length=F.l/\∀v∈row,fk ai v:=by
 obtain⟨hl,h|⟨b,ha,hk,hc⟩⟩:=w
 .refine⟨[],⟨F.a,F.c,by simp;omega,.inl ⟨rfl,.inl h.1⟩⟩,by simp;omega,fun v hv=>by simp at hv⟩
 .obtain⟨vs,o,s,hb,_,Fq,hv⟩:=V b hk;refine⟨vs.take F.l,⟨F.a,F.c,by simp;omega,.inr ⟨b,0,_,_,_,_,ha,hb,fun i y hy=>?_⟩⟩,by simp;omega,fun v hm=>hv v (Nv hm)⟩;have C2:vs[i]?=some y:=by
   rw[FN] at hy;split at hy
   .exact hy
   .cases hy
  have:=bx.lL vs i y C2;rw[BX];simp only[dI] at this;rw[this];exact⟨rfl,rfl⟩
structure BV(ai:Nat)(r:XR)(b:GB):Prop where
 kind:b.kind=r.kind
 on:b.on=r.on
 to:b.to=r.ts
 pl:b.dQ.length=r.ps.length
 ps:∀(i:Nat)(q:Int×SV)(p:GP),r.ps[i]?=some q->b.dQ[i]?=some p->p.dst=q.1/\p.row.length=q.2.l/\∀v∈p.row,fk ai v
 ll:b.list.length=r.ls.length
 ls:∀(i:Nat)(q:XI)(p:GI),r.ls[i]?=some q->b.list[i]?=some p->Gi q p/\p.args.length=q.args.l/\∀v∈p.args,fk ai v
def BVs(ai:Nat)(rs:List XR)(bs:List GB):Prop:=bs.length=rs.length/\∀(i:Nat)(r:XR)(b:GB),rs[i]?=some r->bs[i]?=some b->BV ai r b
theorem Po.view{h:ae}{κ cap:Nat->Nat}{ai:Nat}{r:XR}(w:Po h κ cap ai r)(V:yy h κ cap ai):∃b,bR h (fC.enc r) b/\BV ai r b:=by
 obtain⟨xK,uj,iI⟩:=qG (Q:=fun(q:Int×SV) (p:GP)=>pR h (gL.enc q) p/\p.dst=q.1/\p.row.length=q.2.l/\∀v∈p.row,fk ai v) r.ps (fun q hq=>by obtain⟨row,a1,a2,a3⟩:=VA.row (w.ps q hq).2 V;exact⟨⟨q.1,row⟩,⟨q.2,rfl,a1⟩,rfl,a2,a3⟩)
 obtain⟨xs,rV,AW⟩:=qG (Q:=fun(q:XI) (p:GI)=>iR h (jZ.enc q) p/\Gi q p/\p.args.length=q.args.l/\∀v∈p.args,fk ai v) r.ls (fun q hq=>by obtain⟨row,a1,a2,a3⟩:=VA.row (w.ls q hq).2.2.2 V;exact⟨⟨q.op,q.dst,q.a,q.b,q.fn,row⟩,⟨q.args,rfl,a1⟩,⟨rfl,rfl,rfl,rfl,rfl⟩,a2,a3⟩)
 refine⟨⟨xK,xs,r.kind,r.on,r.ts⟩,⟨r.P,r.L,r.T,rfl,?_,?_,?_⟩,rfl,rfl,rfl,uj,fun i q p a b=>(iI i q p a b).2,rV,fun i q p a b=>(AW i q p a b).2⟩
 .exact w.P.view uj (fun i q p a b=>(iI i q p a b).1)
 .exact w.L.view rV (fun i q p a b=>(AW i q p a b).1)
 .exact w.T.view rfl (fun i x y a b=>by rw[a] at b;cases b;rfl)
theorem pV.view{h:ae}{n0 ai:Nat}{κ cap:Nat->Nat}{B:SV}{rs:List XR}(w:pV h n0 ai κ cap B rs):∃bs,CT h B bs/\BVs ai rs bs:=by
 obtain⟨bs,hl,H⟩:=qG (Q:=fun(r:XR) (b:GB)=>bR h (fC.enc r) b/\BV ai r b) rs (fun r hr=>by obtain⟨i,hi⟩:=sv hr;exact(w.os.r i r hi).view w.os.V)
 exact⟨bs,w.A.view hl (fun i r b a c=>(H i r b a c).1),hl,fun i r b a c=>(H i r b a c).2⟩
def bA(rs:List XR):List (List Int):=rs.map (·.ts)
theorem BVs.dy(w:BVs ai rs bs):bt bs=bA rs:=by
 refine zS fun i=>?_;unfold bt bA;rw[tT,tT];rcases zf i rs.length with hi|hi
 .have h1:rs[i]?=some rs[i]:=fI hi;have h2:bs[i]?=some (bs[i]'(by rw[w.1];exact hi)):=fI (by rw[w.1];exact hi);rw[h1,h2];simp only[DY];rw[(w.2 i _ _ h1 h2).to]
 .rw[tS (by rw[w.1];exact hi),tS hi];rfl
structure TOk(dp:List (List Int)):Prop where
 len:dp.length<=1000
 two:∀ts∈dp,ts.length<=2
 to:∀ts∈dp,∀t∈ts,0<=t/\t<dp.length
theorem BVs.ends(w:BVs ai rs bs)(T:TOk (bA rs)):jV bs:=by
 have e:=w.dy;have hl:(bA rs).length=bs.length:=by rw[<-e];simp[bt]
 refine⟨by have:=T.len;omega,fun b hb=>T.two _ ?_,fun b hb t ht=>?_⟩
 .rw[<-e];exact dZ.2 ⟨b,hb,rfl⟩
 .rw[<-hl];exact T.to b.to (by rw[<-e];exact dZ.2 ⟨b,hb,rfl⟩) t ht
section
variable{hf h0:ae}{ai d:Nat}
end
theorem Js{E:Enc α}{S:Nat->Prop}{v:Value}{row:List α}(s:bc E h v row)(ok:bm h)(g:ab S h h')(hS:row≠[]->∀b,ax v b->¬S b):bc E h' v row:=by
 by_cases e:row=[]
 .subst e;obtain⟨a,cap,e2,s⟩:=s;refine⟨a,cap,e2,?_⟩;rcases s with s|⟨b,off,_,_,_,_,e3,_⟩
  .exact .inl s
  .exact .inl ⟨rfl,.inr ⟨b,off,e3⟩⟩
 .exact s.grow ok g (hS e)
section
variable{h0:ae}{ai N F M nb d:Nat}{ws:List SV}
end
section
variable{h0:ae}{ai N F M nb d:Nat}{ws:List SV}
end
section
variable{h0:ae}{ai N F M nb d:Nat}{ws:List SV}
end
def La(sz:Nat):aq:=(G_ [B_ 9 .lss 8 7] (J_ (H_ 9 0) (J_ (P_ 1 (G_ [m_ 10 8,m_ 5 10] (G_ [m_ 11 1,m_ 12 0,m_ 13 5,o_ 14 (.dt none sz (t_ 12) (t_ 13)),o_ 15 (.load (some sz) (t_ 14)),o_ 16 (.call (t_ 11) [t_ 15])] (I_ 16 (G_ [m_ 17 5,m_ 4 17] .ret) .skip)))) (O_ [C_ 18 .add 8 1,m_ 8 18]))))
def IP(sz:Nat):aq:=(.seq (.ops [⟨(some 4),none,(.mv (.const (.int .i64 0)))⟩]) (.seq (.seq (.ops [⟨(some 6),none,(.mv (.tmp 0))⟩,⟨(some 7),none,(.uC (.tmp 6))⟩,⟨(some 8),none,(.mv (.const (.int .i64 0)))⟩]) (.block 0 (.loop (La sz)))) (.seq (.ops [⟨(some 4),none,(.mv (.const (.int .i64 (Int.negSucc 0))))⟩]) .ret)))
theorem acg:FF ft=some ⟨[.tmp 4],IP 2,.no⟩:=kH
section
variable{α:Type}{E:Enc α}{p:α->Bool}{y:Value}
end
def nJ(nw:List (Bool×Int))(v:Bool×Int):Prop:=v.1=true->nw[v.2.toNat]?=some v
structure TZ(ai:Nat)(nw:List (Bool×Int)):Prop where
 len:nw.length=ai
 ok:∀v∈nw,fk ai v
 rk:∃fD:Nat->Nat,∀(r:Nat)(v:Bool×Int),nw[r]?=some v->v.1=true->v.2=r\/fD v.2.toNat<fD r
theorem TZ.set{ai:Nat}{nw:List (Bool×Int)}(w:TZ ai nw){r:Nat}{v:Bool×Int}(hv:fk ai v)(hr:nJ nw v):TZ ai (nw.set r v):=by
 obtain⟨fD,hk⟩:=w.rk;refine⟨by rw[List.length_set];exact w.len,fun x hx=>?_,?_⟩
 .rcases Kx hx with h|h
  .exact w.ok x h
  .rw[h];exact hv
 .cases h1:v.1 with
  |false=>
   refine⟨fD,fun x u hu N8=>?_⟩;rw[fg] at hu;by_cases e:r=x
   .rw[aZ e] at hu;split at hu
    .cases hu;rw[h1] at N8;cases N8
    .cases hu
   .rw[aW e] at hu;exact hk x u hu N8
  |true=>
   have aiC:=hr h1;have hv0:=(hv h1).1;refine⟨fun x=>if x=v.2.toNat then 0 else fD x+1,fun x u hu N8=>?_⟩;rw[fg] at hu;by_cases e:r=x
   .subst e;rw[aZ rfl] at hu;split at hu
    .cases hu;by_cases e2:r=v.2.toNat
     .left;omega
     .right;dsimp only;rw[aZ rfl,aW e2];omega
    .cases hu
   .rw[aW e] at hu;have hu0:=(w.ok u (dG hu) N8).1;rcases hk x u hu N8 with h|h
    .exact .inl h
    .by_cases e2:x=v.2.toNat
     .rw[e2,aiC] at hu;cases hu;left;omega
     .right;dsimp only;rw[aW e2];split<;>omega
def fJ(bu:Int)(F:Nat)(KI NW:SV)(aR:Bool):List Value:=[.int .i64 bu,.pointer (some ⟨F,0,none⟩),KI.v,NW.v,.bool aR]
structure Kn(h:ae)(K F ai:Nat)(bu:Int)(KI NW:SV)(nw:List (Bool×Int))(aR:Bool):Prop where
 hK:∃s,h.tr.get K=some (.aC (fJ bu F KI NW aR) false 0 s)
 A:eY bx h NW nw
 rU:∀b,ax NW.v b->b≠K
 N:TZ ai nw
section
variable{K F ai:Nat}{bu:Int}{KI NW:SV}{nw:List (Bool×Int)}{aR:Bool}
theorem Kn.grow{S:Nat->Prop}{h h':ae}(k:Kn h K F ai bu KI NW nw aR)(ok:bm h)(g:ab S h h')(hK:¬S K)(hS:∀b,ax NW.v b->¬S b):Kn h' K F ai bu KI NW nw aR:=by obtain⟨⟨s,hk⟩,A,rU,N⟩:=k;exact⟨⟨s,g.get ok hk hK⟩,A.grow ok g hS,rU,N⟩
theorem Kn.bl(k:Kn h K F ai bu KI NW nw aR)(ok:bm h)(g:ab aK h h'):Kn h' K F ai bu KI NW nw aR:=k.grow ok g (fun h=>h) (fun _ _ h=>h)
def Dp(nw:List (Bool×Int))(ai:Nat)(h:ae)(u:Value)(h':ae):Prop:=ab aK h h'/\∃w:Bool×Int,u=.agg ⟨[.bool w.1,.int .i64 w.2]⟩/\fk ai w/\nJ nw w
def VlI(h0:ae)(K X:Nat)(ai:Nat)(fD:Nat->Nat)(m:Nat)(e':Env)(h':ae):Prop:=
 ∃(u:Bool×Int),m=(if u.1 then fD u.2.toNat+1 else 0)/\ak e' 0=.pointer (some ⟨K,0,none⟩)/\ak e' 3=.pointer (some ⟨X,0,none⟩)/\ak e' 4=.pointer (some ⟨X+1,0,none⟩)/\ab aK h0 h'/\fk ai u/\
  (∃s,h'.tr.get X=some (.aC [.bool u.1,.int .i64 u.2] false 0 s))/\∃s,h'.tr.get (X+1)=some (.aC [.bool false,.int .i64 0] false 0 s)
theorem qc(ok:bm h)(k:Kn h K F ai bu KI NW nw aR)(hv:fk ai v):
  aF FF ta [.pointer (some ⟨K,0,none⟩),.agg ⟨[.bool v.1,.int .i64 v.2]⟩] h (Dp nw ai h):=by
 obtain⟨fD,hrk⟩:=k.N.rk;obtain⟨sK,hK⟩:=k.hK;have lK:=ok.wf _ _ hK;refine aF.of zK ?_;unfold sg;have n1:¬h.next=h.next+1:=by omega
 simp[n1];refine aB.loop (VlI h K h.next ai fD) ?_ (n:=if v.1 then fD v.2.toNat+1 else 0) ⟨v,rfl,by simp,by simp,by simp,((ab.refl ok).new _ _).new _ _,hv,⟨0,by simp[n1]⟩,0,by simp⟩;rintro m e' h'⟨u,rfl,q0,q3,q4,g,hu,⟨sX,hX⟩,sR,hR⟩;have bz:=g.ok;have k':=k.bl ok g;obtain⟨sK',hK'⟩:=k'.hK;have xY:=hK';simp[fJ] at xY;have lX:=bz.wf _ _ hX;have oX:=bz.bC hX;have oK:=bz.bC hK';obtain⟨t,i⟩:=u;unfold pL;cases t with
 |false=>
  simp[q0,q3,q4,hX,hR,av hX,-ag,ay,au,aH];exact⟨ab.put g.tick ⟨sR,by simpa using hR⟩ (.inl (by omega)),(false,i),by simp,hu,fun h=>by cases h⟩
 |true=>
  obtain⟨i0,hir⟩:=hu rfl;dsimp only at i0 hir;obtain⟨i,rfl⟩:∃i':Nat,i=i':=⟨i.toNat,by omega⟩;obtain⟨x,hx⟩:=aE nw i (by rw[k.N.len];omega);obtain⟨b,cs,o,s,hNa,hb,gY,eU,dj,_⟩:=k'.A.el hx;have r0:=dj 0 2 (by decide);simp[-ag] at r0;have ob:=bz.bC hb;rw[hNa] at xY;obtain⟨x1,x2⟩:=x;by_cases JH:x1=true/\x2=(i:Int)
  .obtain⟨rfl,rfl⟩:=JH;simp[q0,q3,q4,hX,hR,xY,gY,r0,av hX,av xY,-ag,ay,au,aH];exact⟨ab.put g.tick ⟨sR,by simpa using hR⟩ (.inl (by omega)),(true,(i:Int)),by simp,hu,fun _=>by simpa using hx⟩
  .have FW:(!x1|| !(x2==(i:Int)))=true:=by
    cases x1 with
    |false=>rfl
    |true=>simpa using JH
   simp[q0,q3,q4,hX,hR,xY,gY,r0,FW,av hX,av xY,-ag,ay,au,aH];have TA:=k.N.ok _ (dG hx);have gw:=(g.tick.tick).put (b:=h.next) (off:=0) (cs:=[.bool true,.int .i64 i]) (vs:=[.bool x1,.int .i64 x2]) (o:=0) ⟨sX,by simpa using hX⟩ (.inl (dw _));refine⟨if x1 then fD x2.toNat+1 else 0,?_,(x1,x2),rfl,by simp[q0],by simp[q3],by simp[q4],gw,TA,⟨_,by rw[aD];rfl⟩,sR,by rw[oq,aW (by omega)];simpa using hR⟩;cases x1 with
   |false=>simp
   |true=>
    rcases hrk i (true,x2) hx rfl with h1|h1
    .exact absurd ⟨rfl,h1⟩ JH
    .simp;exact h1
theorem u7(ok:bm h)(k:Kn h K F ai bu KI NW nw aR){r:Nat}(hr:r<ai)(hv:fk ai v)(hrt:nJ nw v):
  aF FF qN [.pointer (some ⟨K,0,none⟩),.int .i64 r,.agg ⟨[.bool v.1,.int .i64 v.2]⟩] h (fun _ h'=>ab (fun x=>x=K\/ax NW.v x) h h'/\Kn h' K F ai bu KI NW (nw.set r v) true):=by
 obtain⟨sK,hK⟩:=k.hK;have lK:=ok.wf _ _ hK;have oK:=ok.bC hK;have xY:=hK;simp[fJ] at xY;obtain⟨x,hx⟩:=aE nw r (by rw[k.N.len];omega);obtain⟨b,cs,o,s,hNa,hb,gY,eU,dj,gE⟩:=k.A.el hx;have nb:=k.rU b (cw hNa);have lb:=ok.wf _ _ hb;have zX:=eU 0 2 (by decide);simp at zX;have ob:=ok.bC hb;have nK:¬K=h.next:=by omega
 have nbh:¬b=h.next:=by omega
 rw[hNa] at xY;refine aF.of yI ?_;unfold qq;simp[xY,gY,hb,zX,av xY,oK,ob,nK,nbh,nb,Ne.symm nb,-ag,ay,au,aN,iy,aX];have g1:ab aK h (tick (aJ h [Value.bool v.fst,Value.int IntKind.i64 v.snd] 0)):=((ab.refl ok).new _ _).tick;generalize tick (aJ h [Value.bool v.fst,Value.int IntKind.i64 v.snd] 0)=h1 at*;have D1:=g1.get ok hb;have Y3:=g1.get ok xY;have g2:=aQ (off:=r*2) (vs:=[Value.bool v.fst,Value.int IntKind.i64 v.snd]) g1.ok D1;have A2:=gE v 0 [.bool v.1,.int .i64 v.2] (by simp) rfl (put h1 b (r*2) cs [Value.bool v.fst,Value.int IntKind.i64 v.snd] o) ⟨_,aD _ _ _ _ _ _⟩;have KD:=g2.get g1.ok Y3 (Ne.symm nb);generalize put h1 b (r*2) cs [Value.bool v.fst,Value.int IntKind.i64 v.snd] o=h2 at*;have g3:=aQ (off:=4) (vs:=[Value.bool true]) g2.ok KD;refine⟨(g1.bl.trans' g2 (fun _ _ h=>h) (fun x _ e=>.inr (by rw[e];exact⟨0,NW.l,NW.c,by simp[hNa]⟩))).trans' g3 (fun _ _ h=>h) (fun x _ e=>.inl e),⟨h2.clock,by rw[aD];simp[fJ,aH,hNa]⟩,A2.grow g2.ok g3 (fun b' gk e=>k.rU b' gk e),k.rU,k.N.set hv hrt⟩
end
def IyI(h:ae)(W:SV)(t:Int)(xs:List Int)(m:Nat)(e:Env)(h2:ae):Prop:=
 ∃j:Nat,m=xs.length-j/\j<=xs.length/\ak e 0=W.v/\ak e 1=.int .i64 t/\ak e 7=.int .i64 xs.length/\ak e 8=.int .i64 j/\h2=h
theorem FY{xs:List Int}(hW:bc bj h W.v xs)(hl:xs.length<1000000)(t:Int):
  aF FF il [W.v,.int .i64 t] h (fun v h'=>h'=h/\∃k:Int,v=.int .i64 k):=by
 have FP:W.l=xs.length:=by obtain⟨a,cap,e,_⟩:=hW;simp at e;exact e.2.1
 refine aF.of lZ ?_;unfold ie;simp[FP];refine aB.loop (IyI h W t xs) ?_ (n:=xs.length) ⟨0,rfl,by omega,by simp[FP],by simp,by simp,by simp,rfl⟩;rintro m e h2⟨j,rfl,hj,f0,f1,f7,f8,rfl⟩;unfold gq;by_cases aS:j<xs.length
 .have wj:=wrap_i64 ((j:Int)+1) (by omega) (by omega);obtain⟨x,hx⟩:=aE xs j aS;obtain⟨bW,ajn,agA,XX,_,_,dj⟩:=hW.read hx;have ro:=dj 0 1 (by decide);simp[-ag] at ro XX;simp at f0;rw[XX.1,FP] at f0;by_cases e1:t=x
  .subst e1;simp[f0,f1,f7,f8,aS,ro,-ag]
  .have e2:(t==x)=false:=by simp[e1]
   simp[f0,f1,f7,f8,aS,ro,e2,wj,-ag];exact⟨xs.length-(j+1),by omega,j+1,rfl,by omega,by simp[f0,XX.1,FP],by simp[f1],by simp[f7],by simp,rfl⟩
 .have:j=xs.length:=by omega
  subst this;simp[f7,f8]
theorem DI{xs:List Int}(hW:bc bj h W.v xs)(hl:xs.length<1000000)(t:Int):
  aF FF jT [W.v,.int .i64 t] h (fun v h'=>h'=h/\∃b:Bool,v=.bool b):=by
 refine aF.of rS ?_;unfold jR;simp;refine aG.call (by simpa using FY hW hl t) ?_;rintro _ h2⟨rfl,k,rfl⟩;by_cases hk:0<=k<;>simp[hk]
def T9(h:ae)(A:SV)(P:Bool×Int->Prop):Prop:=A.l=0\/∃b vs o s,A.a=some ⟨b,0,none⟩/\h.tr.get b=some (.aC (bx.flat vs) false o s)/\A.l<=vs.length/\∀(j:Nat)(v:Bool×Int),j<A.l->vs[j]?=some v->P v
def aaL(P:Bool×Int->Prop)(h:ae)(u:Value)(h':ae):Prop:=ab aK h h'/\∃(w:Bool×Int) (t:Bool),u=.tuple #[.agg ⟨[.bool w.1,.int .i64 w.2]⟩,.bool t]/\(t=true->P w)
def OnI(P:Bool×Int->Prop)(h0:ae)(A:SV)(X:Nat)(dst:Int)(m:Nat)(e':Env)(h':ae):Prop:=
 ∃(j:Nat) (f:Bool) (w:Bool×Int),m=A.l-j/\j<=A.l/\ak e' 4=.pointer (some ⟨X+1,0,none⟩)/\ak e' 5=.bool false/\ak e' 6=.pointer (some ⟨X+1+1,0,none⟩)/\ak e' 7=.bool f/\ak e' 8=.pointer (some ⟨X+1+1+1,0,none⟩)/\ak e' 16=A.v/\ak e' 17=.int .i64 A.l/\ak e' 18=.int .i64 j/\
  ab aK h0 h'/\(∃s,h'.tr.get (X+1)=some (.aC [.bool false,.int .i64 0] false 0 s))/\(∃s,h'.tr.get (X+1+1)=some (.aC [.bool true,.int .i64 dst] false 0 s))/\(∃s,h'.tr.get (X+1+1+1)=some (.aC [.bool w.1,.int .i64 w.2] false 0 s))/\(f=true->P w)
theorem O9(ok:bm h){kv:Value}{P:Bool×Int->Prop}(hA:T9 h A P)(hl:A.l<=1048576)(dst:Int):
  aF FF qL [kv,.agg ⟨[.int .i64 dst,A.v]⟩] h (aaL P h):=by
 refine aF.of yG ?_;unfold qo;have n1:¬h.next=h.next+1:=by omega
 have n2:¬h.next=h.next+1+1:=by omega
 have n3:¬h.next=h.next+1+1+1:=by omega
 have n4:¬h.next+1=h.next+1+1:=by omega
 have n5:¬h.next+1=h.next+1+1+1:=by omega
 have n6:¬h.next+1+1=h.next+1+1+1:=by omega
 simp[n1,n2,n3,n4,n5,n6];refine aB.cut (fun h1=>ab aK h h1/\(∃s,h1.tr.get (h.next+1)=some (.aC [.bool false,.int .i64 0] false 0 s))/\(∃s,h1.tr.get (h.next+1+1)=some (.aC [.bool true,.int .i64 dst] false 0 s))/\(∃s,h1.tr.get (h.next+1+1+1)=some (.aC [.bool false,.int .i64 0] false 0 s))) ?_ ?_
 .have g3:ab aK h _:=(((ab.refl ok).new [.int .i64 dst,A.v] 0).new [.bool false,.int .i64 0] 0).new [.bool false,.int .i64 0] 0;simp at g3;refine⟨?_,⟨0,by simp[n4,n5]⟩,⟨_,by simp[n6,aH];rfl⟩,⟨_,by simp[aH];rfl⟩⟩;refine((g3.put (b:=h.next+1+1) (off:=0) (cs:=[.bool false,.int .i64 0]) (o:=0) ⟨0,by simp⟩ (.inl (by omega))).new _ _).put (b:=h.next+1+1+1) (cs:=[.bool false,.int .i64 0]) (o:=0) ⟨0,by simp⟩ (.inl (by omega))
 rintro h1⟨g1,b4,b6,b8⟩;refine aB.loop (OnI P h A h.next dst) ?_ (n:=A.l) ⟨0,false,(false,0),rfl,by omega,by simp,by simp,by simp,by simp,by simp,by simp,by simp,by simp,g1,b4,b6,b8,fun h=>by cases h⟩;rintro m e' h'⟨j,f,w,rfl,hj,q4,q5,q6,q7,q8,CO,WZ,q18,g,⟨s4,h4⟩,⟨s6,h6⟩,⟨s8,h8⟩,hf⟩;have bz:=g.ok;unfold oM;by_cases aS:j<A.l
 .have wj:=wrap_i64 ((j:Int)+1) (by omega) (by omega);rcases hA with hA|⟨b,vs,o,s,ha,hb,hle,hP⟩
  .omega
  obtain⟨x,hx⟩:=aE vs j;have hPx:=hP j x aS hx;have gk:=g.get ok hb;have r0:aV h' b (j*2) 2=some [.bool x.1,.int .i64 x.2]:=by
   have:=bx.lx vs j 0 2 x hx (by decide);have bY:j*2+2<=(bx.flat vs).length:=by rw[bx.bI,dI];have:=(cr.mp hx).1;omega
   rw[bV gk bY];simp only[dI,Nu] at this;rw[this];rfl
  simp at CO;rw[ha] at CO;have l4:=bz.wf _ _ h4;have l6:=bz.wf _ _ h6;have l8:=bz.wf _ _ h8;obtain⟨x1,x2⟩:=x;obtain⟨w1,w2⟩:=w;have m4:¬h.next+1=h'.next:=by omega
  have m6:¬h.next+1+1=h'.next:=by omega
  have m8:¬h.next+1+1+1=h'.next:=by omega
  have gv:ab aK h' (put (aJ h' [.bool false,.int .i64 0] 0) h'.next 0 [.bool false,.int .i64 0] [.bool x1,.int .i64 x2] 0):=(ab.refl bz).var _ _;simp[q4,q5,q6,q7,q8,CO,WZ,q18,aS,r0,-ag,au,aX,aN,av h6,av h8,m6,m8,bz.bC h6,bz.bC h8];have g2:=g.trans gv;have h42:=gv.get bz h4;have h62:=gv.get bz h6;have XQ:=gv.get bz h8;have dX:(put (aJ h' [.bool false,.int .i64 0] 0) h'.next 0 [.bool false,.int .i64 0] [.bool x1,.int .i64 x2] 0).tr.get h'.next=some (.aC [.bool x1,.int .i64 x2] false 0 h'.clock):=by simp[aH]
  have lX2:=g2.ok.wf _ _ dX;generalize put (aJ h' [.bool false,.int .i64 0] 0) h'.next 0 [.bool false,.int .i64 0] [.bool x1,.int .i64 x2] 0=h2 at*;cases hc:(x1&&x2==dst) with
  |true=>
   simp[hc,q18,wj];exact⟨A.l-(j+1),by omega,j+1,f,(w1,w2),rfl,aS,by simp[q4],by simp[q5],by simp[q6],by simp[q7],by simp[q8],by simp[CO,ha],by simp[WZ],by simp,g2,⟨s4,h42⟩,⟨s6,h62⟩,⟨s8,XQ⟩,hf⟩
  |false=>
   cases f with
   |true=>
    cases hd:(x1==w1&&x2==w2) with
    |true=>
     simp only[uh,beq_iff_eq] at hd;obtain⟨rfl,rfl⟩:=hd;simp[hc,q7,q8,q18,wj,dX,XQ,av dX,av XQ,-ag];exact⟨A.l-(j+1),by omega,j+1,true,(x1,x2),rfl,aS,by simp[q4],by simp[q5],by simp[q6],by simp[q7],by simp[q8],by simp[CO,ha],by simp[WZ],by simp,g2,⟨s4,h42⟩,⟨s6,h62⟩,⟨s8,XQ⟩,hf⟩
    |false=>
     simp[hc,hd,q4,q5,q7,q8,q18,wj,dX,XQ,h42,av dX,av XQ,-ag,au,aH];exact⟨g2.put ⟨s4,h42⟩ (.inl (by omega)),(w1,w2),false,by simp,fun h=>by cases h⟩
   |false=>
    have o4:=g2.ok.bC h42;simp[hc,q7,q8,q18,wj,dX,XQ,av dX,-ag,ay];exact⟨A.l-(j+1),by omega,j+1,true,(x1,x2),rfl,aS,by simp[q4],by simp[q5],by simp[q6],by simp,by simp[q8],by simp[CO,ha],by simp[WZ],by simp,ab.put g2.tick ⟨s8,by simpa using XQ⟩ (.inl (by omega)),⟨s4,by rw[oq,aW (by omega)];simpa using h42⟩,⟨s6,by rw[oq,aW (by omega)];simpa using h62⟩,⟨_,by rw[aD];rfl⟩,fun _=>hPx⟩
 .have:j=A.l:=by omega
  subst this;simp[q4,q5,q6,q7,q8,WZ,q18,h4,h8,av h8,-ag,au,aH];exact⟨g.put ⟨s4,h4⟩ (.inl (by omega)),w,f,by simp,hf⟩
theorem OV(ok:bm h)(op:Int):aF FF yk [.int .i64 op] h (fun v h'=>ab aK h h'/\∃b:Bool,v=.bool b):=by
 refine aF.of FI ?_;unfold xW;have e0:([.int .i64 2,.int .i64 4,.int .i64 7,.int .i64 8,.int .i64 9,.int .i64 12,.int .i64 13]:List Value)=bj.flat [2,4,7,8,9,12,13]:=rfl;simp[aH];have g1:=aP ok [.int .i64 2,.int .i64 4,.int .i64 7,.int .i64 8,.int .i64 9,.int .i64 12,.int .i64 13] 0;refine aG.call (V:=fun v h'=>h'=aJ h [.int .i64 2,.int .i64 4,.int .i64 7,.int .i64 8,.int .i64 9,.int .i64 12,.int .i64 13] 0/\∃b:Bool,v=.bool b) ?_ ?_
 .have hs:bc bj (aJ h [.int .i64 2,.int .i64 4,.int .i64 7,.int .i64 8,.int .i64 9,.int .i64 12,.int .i64 13] 0) (SV.v ⟨some ⟨h.next,0,none⟩,7,7⟩) [2,4,7,8,9,12,13]:=⟨_,_,rfl,.inr ⟨h.next,0,_,_,_,_,rfl,bS _ _ _,by simp,rfl⟩⟩;simpa [aH] using DI hs (by decide) op
 rintro _ h2⟨rfl,b,rfl⟩;simp;exact g1
theorem MO(ok:bm h)(a b:Bool×Int):aF FF yj [.agg ⟨[.bool a.1,.int .i64 a.2]⟩,.agg ⟨[.bool b.1,.int .i64 b.2]⟩] h (fun v h'=>ab aK h h'/\∃b:Bool,v=.bool b):=by
 obtain⟨a1,a2⟩:=a;obtain⟨b1,b2⟩:=b;refine aF.of FH ?_;unfold xV;have n1:¬h.next=h.next+1:=by omega
 have g:ab aK h _:=((ab.refl ok).new [.bool a1,.int .i64 a2] 0).new [.bool b1,.int .i64 b2] 0;cases hq:(a1==b1) with
 |true=>
  have Yj:(a1 !=b1)=false:=by simp[bne,hq]
  simp[n1,hq,Yj];exact⟨g,by omega⟩
 |false=>
  have Yj:(a1 !=b1)=true:=by simp[bne,hq]
  simp[n1,hq,Yj];exact g
structure Key where
 op:Int
 a:Bool×Int
 b:Bool×Int
deriving DecidableEq
def Key.cells(c:Key):List Value:=[.int .i64 c.op,.bool c.a.1,.int .i64 c.a.2,.bool c.b.1,.int .i64 c.b.2]
def TU(op:Int)(h:ae)(u:Value)(h':ae):Prop:=ab aK h h'/\∃(c:Key) (t:Bool),u=.tuple #[.agg ⟨c.cells⟩,.bool t]/\(t=true->1<=op/\op<=17)
theorem Li(g0:ab aK h0 h){y:XI}(hX0:h0.next<=X)(hX:h.tr.get X=some (.aC [.int .i64 y.op,.int .i64 y.dst,.bool y.a.1,.int .i64 y.a.2,.bool y.b.1,.int .i64 y.b.2,.int .i64 y.fn,.slice y.args.a y.args.l y.args.c] false 0 s1))(hR:h.tr.get (X+1)=some (.aC [.int .i64 0,.bool false,.int .i64 0,.bool false,.int .i64 0] false 0 s2))(rO:1<=y.op/\y.op<=17)(f3:ak e 3=.pointer (some ⟨X,0,none⟩))(f4:ak e 4=.pointer (some ⟨X+1,0,none⟩)):
  aB FF IU e h (vD [AY.cell 4 (some 5),AY.tmp 5] (TU y.op h0)):=by
 have ok:=g0.ok;have lR:=ok.wf _ _ hR;obtain⟨op,dst,⟨a1,a2⟩,⟨b1,b2⟩,fn,args⟩:=y;dsimp only at hX rO;unfold IU;have nX:¬X=h.next:=by omega
 have oX:=ok.bC hX;simp[f3,nX,oX,aH,-ag,aX,aN,av hX];refine aG.cut (fun h1=>ab aK h h1/\∃s,h1.tr.get h.next=some (.aC (Key.cells ⟨op,(a1,a2),(b1,b2)⟩) false 0 s)) ?_ ?_
 .exact⟨(ab.refl ok).var _ _,h.clock,by simp[aH,Key.cells]⟩
 rintro h1⟨g1,sK,Y3⟩;have yS:=g1.get ok hX;have uK:=g1.get ok hR;refine aG.call (V:=fun v h'=>ab aK h1 h'/\∃b:Bool,v=.bool b) (by simpa using OV g1.ok op) ?_;rintro _ h2⟨g2,t,rfl⟩;have Q8:=(g0.trans g1).trans g2;have dX:=g2.get g1.ok yS;have AO:=g2.get g1.ok uK;have xY:=g2.get g1.ok Y3;have l1:=g1.next;have l2:=g2.next
 
 have fin:∀(c:Key)(h3:ae)(s3:Nat),ab aK h0 h3->h3.tr.get h.next=some (.aC c.cells false 0 s3)->h3.tr.get (X+1)=some (.aC [.int .i64 0,.bool false,.int .i64 0,.bool false,.int .i64 0] false 0 s2)->TU op h0 (.tuple #[.agg ⟨c.cells⟩,.bool true]) (put h3 (X+1) 0 [.int .i64 0,.bool false,.int .i64 0,.bool false,.int .i64 0] c.cells 0):=fun c h3 s3 g3 _ h5=>⟨g3.put ⟨_,h5⟩ (.inl (by omega)),c,true,rfl,fun _=>rO⟩;simp only[Key.cells] at xY fin;cases t with
 |false=>
  simp[f4,xY,AO,av xY,-ag,au,aH];exact fin ⟨op,(a1,a2),(b1,b2)⟩ h2 _ Q8 xY AO
 |true=>
  simp[f3,dX];refine aG.call (V:=fun v h'=>ab aK h2 h'/\∃b:Bool,v=.bool b) (by simpa using MO Q8.ok (b1,b2) (a1,a2)) ?_;rintro _ h3⟨g3,t,rfl⟩;have zh:=g3.get Q8.ok AO;have KD:=g3.get Q8.ok xY;cases t with
  |false=>
   simp[f4,KD,zh,av KD,-ag,au,aH];exact fin ⟨op,(a1,a2),(b1,b2)⟩ h3 _ (Q8.trans g3) KD zh
  |true=>
   have nR:¬X+1=h.next:=by omega
   simp[f4,KD,zh,nR,av KD,-ag,au,aX,aH];have l0:=g0.next;have g4:=((Q8.trans g3).put (b:=h.next) (off:=1) (cs:=[.int .i64 op,.bool a1,.int .i64 a2,.bool b1,.int .i64 b2]) (vs:=[.bool b1,.int .i64 b2]) (o:=0) ⟨_,KD⟩ (.inl l0)).put (b:=h.next) (off:=3) (cs:=[.int .i64 op,.bool b1,.int .i64 b2,.bool b1,.int .i64 b2]) (vs:=[.bool a1,.int .i64 a2]) (o:=0) ⟨_,by rw[aD];rfl⟩ (.inl l0);exact fin ⟨op,(b1,b2),(a1,a2)⟩ _ _ g4 (by rw[aD];rfl) (by rw[oq,aW nR,oq,aW nR];exact zh)
theorem Od(ok:bm h){bu:Int}(hw:0<=bu/\bu<1000000000){KI NW:SV}{aR:Bool}{sK:Nat}(hK:h.tr.get K=some (.aC (fJ bu F KI NW aR) false 0 sK))(y:XI):
  aF FF pH [.pointer (some ⟨K,0,none⟩),.agg ⟨jZ.enc y⟩] h (TU y.op h):=by
 have lK:=ok.wf _ _ hK;refine aF.of xA ?_;unfold pA;have n1:¬h.next=h.next+1:=by omega
 simp[n1];refine aU.cut (fun h1=>ab aK h h1/\(∃s,h1.tr.get h.next=some (.aC [.int .i64 y.op,.int .i64 y.dst,.bool y.a.1,.int .i64 y.a.2,.bool y.b.1,.int .i64 y.b.2,.int .i64 y.fn,.slice y.args.a y.args.l y.args.c] false 0 s))/\∃s,h1.tr.get (h.next+1)=some (.aC [.int .i64 0,.bool false,.int .i64 0,.bool false,.int .i64 0] false 0 s)) ?_ ?_
 .exact⟨(((ab.refl ok).new _ _).new _ _).tick,⟨0,by simp[n1]⟩,0,by simp⟩
 rintro h1⟨g1,⟨sX,yS⟩,sR,uK⟩;refine aU.call (V:=fun v h'=>v=.bool (decide (2<=y.op)&&decide (y.op<=17))/\h'=h1) (by simpa using dD h1 y.op 2 17) ?_;rintro _ h2⟨rfl,rfl⟩;have fin:∀(h3:ae),ab aK h h3->h3.tr.get (h.next+1)=some (.aC [.int .i64 0,.bool false,.int .i64 0,.bool false,.int .i64 0] false 0 sR)->TU y.op h (.tuple #[.agg ⟨[.int .i64 0,.bool false,.int .i64 0,.bool false,.int .i64 0]⟩,.bool false]) (put h3 (h.next+1) 0 [.int .i64 0,.bool false,.int .i64 0,.bool false,.int .i64 0] [.int .i64 0,.bool false,.int .i64 0,.bool false,.int .i64 0] 0):=fun h3 g3 h5=>⟨g3.put ⟨_,h5⟩ (.inl (by omega)),⟨0,(false,0),(false,0)⟩,false,rfl,fun h=>by cases h⟩;by_cases rO:2<=y.op/\y.op<=17
 .have h18:(y.op==18)=false:=by simp;omega
  simp[rO,h18,yS];exact Li g1 (dw _) yS uK ⟨by omega,rO.2⟩ (by simp) (by simp)
 .have hb:(decide (2<=y.op)&&decide (y.op<=17))=false:=by simpa using rO
  have Y3:=g1.get ok hK;have xY:=Y3;simp[fJ] at xY;simp only[hb];simp[yS,xY];refine aU.call (V:=fun v h'=>v=.bool (nf bu y.op y.a.1 y.a.2 y.b.1 y.b.2)/\ab aK h2 h') (by simpa [aI] using OD h2 g1.ok bu y.op y.dst y.a.2 y.b.2 y.fn y.a.1 y.b.1 y.args.a y.args.l y.args.c hw) ?_;rintro _ h3⟨rfl,g3⟩;have g03:=g1.trans g3;have fe:=g3.get g1.ok yS;have zh:=g3.get g1.ok uK;cases hq:nf bu y.op y.a.1 y.a.2 y.b.1 y.b.2 with
  |false=>
   simp[zh,av zh,-ag,au,aH];exact fin h3 g03 zh
  |true=>
   by_cases h18:y.op=18
   .have acE:(y.op==18)=true:=by simp[h18]
    simp[fe,acE,zh,av zh,-ag,au,aH,av fe];exact fin h3 g03 zh
   .have acE:(y.op==18)=false:=by simp[h18]
    simp[fe,acE];refine Li g03 (dw _) fe zh ?_ (by simp) (by simp);unfold nf at hq;split at hq
    .omega
    .simpa using hq
section
variable{h h':ae}{n0 ai:Nat}{κ cap:Nat->Nat}{rs:List XR}
theorem JU{A A':SV}(e:A'.a=A.a)(k:ax A'.v b):ax A.v b:=by obtain⟨off,n,c,e2⟩:=k;simp at e2;exact⟨off,A.l,A.c,by simp[<-e,e2.1]⟩
theorem eI{f:XR->SV}{r r':XR}(hr:rs[i]?=some r)(d:∀(i j:Nat)(ri rj:XR)(b:Nat),rs[i]?=some ri->rs[j]?=some rj->i≠j->ax (f ri).v b->¬ax (f rj).v b)(e:(f r').a=(f r).a):
  ∀(i' j:Nat)(ri rj:XR)(b:Nat),(rs.set i r')[i']?=some ri->(rs.set i r')[j]?=some rj->i'≠j->ax (f ri).v b->¬ax (f rj).v b:=by
 have hi:=(cr.mp hr).1;intro i' j ri rj b h1 h2 hn hb cA;rw[fg] at h1 h2;by_cases e1:i=i'
 .rw[aZ e1,aZ hi] at h1;rw[aW (by omega)] at h2;cases h1;exact d i j r rj b hr h2 (by omega) (JU e hb) cA
 .rw[aW e1] at h1;by_cases e2:i=j
  .rw[aZ e2,aZ hi] at h2;cases h2;exact d i' i ri r b h1 hr (by omega) hb (JU e cA)
  .rw[aW e2] at h2;exact d i' j ri rj b h1 h2 hn hb cA
theorem cn.aal(w:cn h n0 ai κ cap rs)(ok:bm h)(hr:rs[i]?=some r)(g:ab (ax r.P.v) h h'){P':SV}{C7:List (Int×SV)}(hP:eY gL h' P' C7)(e:P'.a=r.P.a)(iI:∀p∈C7,(0<=p.1/\p.1<ai)/\VA κ cap p.2):
  cn h' n0 ai κ cap (rs.set i {r with P:=P',ps:=C7}):=by
 have hi:=(cr.mp hr).1;have R:=w.r i r hr;refine⟨fun j x hx=>?_,eI (f:=(·.P)) hr w.dP e,eI (f:=(·.L)) hr w.dL rfl,eI (f:=(·.T)) hr w.dT rfl,w.V.grow ok g (fun b hb=>by have:=R.kP b hb;omega),fun b hb=>by have:=w.new b hb;have:=g.next;omega⟩;rw[fg] at hx;by_cases e1:i=j
 .rw[aZ e1,aZ hi] at hx;cases hx;exact⟨hP,R.L.grow ok g (fun b hb hs=>by have:=R.kP b hs;have:=R.kL b hb;omega),R.T.grow ok g (fun b hb hs=>by have:=R.kP b hs;have:=R.kT b hb;omega),fun b hb=>R.kP b (JU e hb),R.kL,R.kT,iI,R.ls,R.on⟩
 .rw[aW e1] at hx;have Rx:=w.r j x hx;exact Rx.grow ok g (fun b hb=>⟨w.dP i j r x b hr hx e1 hb,fun h=>by have:=R.kP b hb;have:=Rx.kL b h;omega,fun h=>by have:=R.kP b hb;have:=Rx.kT b h;omega⟩)
theorem cn.aeY(w:cn h n0 ai κ cap rs)(ok:bm h)(hr:rs[i]?=some r)(g:ab (ax r.L.v) h h'){L':SV}{C3:List XI}(hL:eY jZ h' L' C3)(e:L'.a=r.L.a)(Fl:∀x∈C3,x.dst<ai/\fk ai x.a/\fk ai x.b/\VA κ cap x.args):
  cn h' n0 ai κ cap (rs.set i {r with L:=L',ls:=C3}):=by
 have hi:=(cr.mp hr).1;have R:=w.r i r hr;refine⟨fun j x hx=>?_,eI (f:=(·.P)) hr w.dP rfl,eI (f:=(·.L)) hr w.dL e,eI (f:=(·.T)) hr w.dT rfl,w.V.grow ok g (fun b hb=>by have:=R.kL b hb;omega),fun b hb=>by have:=w.new b hb;have:=g.next;omega⟩;rw[fg] at hx;by_cases e1:i=j
 .rw[aZ e1,aZ hi] at hx;cases hx;exact⟨R.P.grow ok g (fun b hb hs=>by have:=R.kL b hs;have:=R.kP b hb;omega),hL,R.T.grow ok g (fun b hb hs=>by have:=R.kL b hs;have:=R.kT b hb;omega),R.kP,fun b hb=>R.kL b (JU e hb),R.kT,R.ps,Fl,R.on⟩
 .rw[aW e1] at hx;have Rx:=w.r j x hx;exact Rx.grow ok g (fun b hb=>⟨fun h=>by have:=R.kL b hb;have:=Rx.kP b h;omega,w.dL i j r x b hr hx e1 hb,fun h=>by have:=R.kL b hb;have:=Rx.kT b h;omega⟩)
theorem cn.ary(w:cn h n0 ai κ cap rs)(ok:bm h)(hr:rs[i]?=some r)(g:ab (ax r.T.v) h h'){T':SV}{Df:List Int}(hT:eY bj h' T' Df)(e:T'.a=r.T.a):
  cn h' n0 ai κ cap (rs.set i {r with T:=T',ts:=Df}):=by
 have hi:=(cr.mp hr).1;have R:=w.r i r hr;refine⟨fun j x hx=>?_,eI (f:=(·.P)) hr w.dP rfl,eI (f:=(·.L)) hr w.dL rfl,eI (f:=(·.T)) hr w.dT e,w.V.grow ok g (fun b hb=>by have:=R.kT b hb;omega),fun b hb=>by have:=w.new b hb;have:=g.next;omega⟩;rw[fg] at hx;by_cases e1:i=j
 .rw[aZ e1,aZ hi] at hx;cases hx;exact⟨R.P.grow ok g (fun b hb hs=>by have:=R.kT b hs;have:=R.kP b hb;omega),R.L.grow ok g (fun b hb hs=>by have:=R.kT b hs;have:=R.kL b hb;omega),hT,R.kP,R.kL,fun b hb=>R.kT b (JU e hb),R.ps,R.ls,R.on⟩
 .rw[aW e1] at hx;have Rx:=w.r j x hx;exact Rx.grow ok g (fun b hb=>⟨fun h=>by have:=R.kT b hb;have:=Rx.kP b h;omega,fun h=>by have:=R.kT b hb;have:=Rx.kL b h;omega,w.dT i j r x b hr hx e1 hb⟩)
theorem cn.abN(w:cn h n0 ai κ cap rs)(hr:rs[i]?=some r)(k:Int)(on:Bool×Int)(hon:fk ai on):
  cn h n0 ai κ cap (rs.set i {r with kind:=k,on:=on}):=by
 have hi:=(cr.mp hr).1;have R:=w.r i r hr;refine⟨fun j x hx=>?_,eI (f:=(·.P)) hr w.dP rfl,eI (f:=(·.L)) hr w.dL rfl,eI (f:=(·.T)) hr w.dT rfl,w.V,w.new⟩;rw[fg] at hx;by_cases e1:i=j
 .rw[aZ e1,aZ hi] at hx;cases hx;exact⟨R.P,R.L,R.T,R.kP,R.kL,R.kT,R.ps,R.ls,hon⟩
 .rw[aW e1] at hx;exact w.r j x hx
end
def lD:Enc (Int×(Bool×Int)):=⟨fun x=>[.int .i64 x.1,.bool x.2.1,.int .i64 x.2.2],3,fun _=>rfl,by decide,fun _=>rfl⟩
@[simp] theorem YJ:lD.sz=3:=rfl
@[simp] theorem UB(x:Int×(Bool×Int)):lD.enc x=[.int .i64 x.1,.bool x.2.1,.int .i64 x.2.2]:=rfl
theorem bJ{W:Nat}{ws:List (Int×(Bool×Int))}{ro:Bool}(hW:h.tr.get W=some (.aC (lD.flat ws) ro o s))(hk:ws[k]?=some x):aV h W (k*3) 3=some [.int .i64 x.1,.bool x.2.1,.int .i64 x.2.2]:=by have hl:=(cr.mp hk).1;have:=lD.lx ws k 0 3 x hk (by decide);rw[bV hW (by rw[lD.bI];simp;omega)];simp only[YJ,Nu] at this;rw[this];rfl
theorem gh(ws:List (Int×(Bool×Int)))(i:Nat)(x:Int×(Bool×Int))(h:i<ws.length):aH (lD.flat ws) (i*3) [.int .i64 x.1,.bool x.2.1,.int .i64 x.2.2]=lD.flat (ws.set i x):=by have:=lD.eD ws i x h;simpa using this
def SA(P:Int×(Bool×Int)->Prop)(d n o:Nat)(h0 h:ae):Prop:=ab (· =d) h0 h/\∃xs s,h.tr.get d=some (.aC (lD.flat xs) false o s)/\xs.length=n/\∀x∈xs,P x
def iU(y:Value):Prop:=∀(h:ae)(x z:Int×(Bool×Int)),bm h->c_ FF y [.agg ⟨lD.enc x⟩,.agg ⟨lD.enc z⟩] h (fun v h'=>(∃c:Int,v=.int .i64 c)/\ab aK h h')
section
variable{P:Int×(Bool×Int)->Prop}{d n o:Nat}{h0:ae}
theorem SA.bl{h h':ae}(w:SA P d n o h0 h)(g:ab aK h h'):SA P d n o h0 h':=by obtain⟨g0,xs,s,hb,hl,hP⟩:=w;exact⟨g0.trans g.bl,xs,s,g.get g0.ok hb,hl,hP⟩
theorem SA.swap{x y:Int×(Bool×Int)}(g:ab (· =d) h0 h)(hb:h.tr.get d=some (.aC (lD.flat xs) false o s))(hl:xs.length=n)(hP:∀x∈xs,P x)(hi:xs[i]?=some x)(hj:xs[j]?=some y):
  SA P d n o h0 (put (put h d (i*3) (lD.flat xs) [.int .i64 y.1,.bool y.2.1,.int .i64 y.2.2] o) d (j*3) (lD.flat (xs.set i y)) [.int .i64 x.1,.bool x.2.1,.int .i64 x.2.2] o):=by
 have li:=(cr.mp hi).1;have lj:=(cr.mp hj).1;have cA:(put h d (i*3) (lD.flat xs) [.int .i64 y.1,.bool y.2.1,.int .i64 y.2.2] o).tr.get d=some (.aC (lD.flat (xs.set i y)) false o h.clock):=by rw[aD,gh xs i y li]
 have g2:=g.trans (aQ g.ok hb (off:=i*3) (vs:=[.int .i64 y.1,.bool y.2.1,.int .i64 y.2.2]));refine⟨g2.trans (aQ g2.ok cA),(xs.set i y).set j x,_,by rw[aD,gh _ j x (by simpa using lj)],by simp[hl],fun z hz=>?_⟩;rcases Kx hz with h1|rfl
 .rcases Kx h1 with h2|rfl
  .exact hP z h2
  .exact hP _ (dG hj)
 .exact hP _ (dG hi)
def alM(P:Int×(Bool×Int)->Prop)(d n o c:Nat)(h0:ae)(y:Value)(a b i:Nat)(m:Nat)(e:Env)(h':ae):Prop:=
 ∃j:Nat,m=j/\a<=j/\j<b/\ak e 0=.slice (some ⟨d,0,none⟩) n c/\ak e 1=.int .i64 a/\ak e 2=.int .i64 b/\ak e 3=y/\ak e 8=.int .i64 i/\ak e 9=.int .i64 j/\SA P d n o h0 h'
theorem IS(Y:iU y)(lq:b<=n)(hn:n<1000000)(U6:a<=i)(PO:i<b)(w:SA P d n o h0 h)(f0:ak e 0=.slice (some ⟨d,0,none⟩) n c)(f1:ak e 1=.int .i64 a)(f2:ak e 2=.int .i64 b)(f3:ak e 3=y)(f8:ak e 8=.int .i64 i)(f9:ak e 9=.int .i64 i)(C:∀e' h',ak e' 0=.slice (some ⟨d,0,none⟩) n c->ak e' 1=.int .i64 a->ak e' 2=.int .i64 b->ak e' 3=y->ak e' 8=.int .i64 i->SA P d n o h0 h'->QQ (.exit 2) e' h'):aB FF (.loop cI) e h QQ:=by
 refine aB.loop (alM P d n o c h0 y a b i) ?_ (n:=i) ⟨i,rfl,U6,PO,f0,f1,f2,f3,f8,f9,w⟩;rintro j e' h'⟨_,rfl,X0,hjb,q0,q1,q2,q3,q8,q9,w'⟩;obtain⟨g,xs,s,hb,hl,hP⟩:=id w';unfold cI;by_cases hja:a<j
 .obtain⟨k,hk⟩:∃k,k=j-1:=⟨_,rfl⟩;have wk:IntKind.i64.wrap ((j:Int)-1)=(k:Int):=by rw[wrap_i64 _ (by omega) (by omega)];omega
  have GS:j<n:=by omega
  have zZ:k<n:=by omega
  obtain⟨x,hx⟩:=aE xs j;obtain⟨z,hz⟩:=aE xs k;have rx:=bJ hb hx;have rz:=bJ hb hz;simp[q0,q1,q3,q9,hja,GS,zZ,wk,rx,rz,ay,-ag];refine aU.cut (fun h1=>ab aK h' h1) ?_ ?_
  .exact(ab.refl g.ok).tick
  intro h1 g1;refine aU.cU (V:=fun v BZ=>(∃c:Int,v=.int .i64 c)/\ab aK h1 BZ) (by simpa [q3] using Y h1 x z g1.ok) ?_;rintro _ h2⟨⟨cv,rfl⟩,g2⟩;have w2:=(w'.bl g1).bl g2;obtain⟨gg,pU,s2,cA,sE,IA⟩:=id w2;obtain⟨x2,GZ⟩:=aE pU j;obtain⟨z2,Ab⟩:=aE pU k;have Xj:=bJ cA GZ;have Xk:=bJ cA Ab;by_cases hc:cv<0
  .have l1:j*3+3<=pU.length*3:=by omega
   have l2:k*3+3<=pU.length*3:=by omega
   have sp:=gh pU j z2 (by omega);simp[hc,q0,q1,q3,q9,GS,zZ,wk,Xj,Xk,ay,cA,l1,l2,sp,-ag];exact⟨k,by omega,k,rfl,by omega,by omega,by simp[q0],by simp[q1],by simp[q2],by simp[q3],by simp[q8],by simp,SA.swap (h:=tick h2) gg.tick cA sE IA GZ Ab⟩
  .simp[hc];exact C _ _ (by simp[q0]) (by simp[q1]) (by simp[q2]) (by simp[q3]) (by simp[q8]) w2
 .have hja':¬(a:Int)<j:=by omega
  simp[q1,q9,hja];exact C _ _ (by simp[q0]) (by simp[q1]) (by simp[q2]) (by simp[q3]) (by simp[q8]) (w'.bl ((ab.refl g.ok).tick))
def alL(P:Int×(Bool×Int)->Prop)(d n o c:Nat)(h0:ae)(y:Value)(a b:Nat)(m:Nat)(e:Env)(h':ae):Prop:=
 ∃i:Nat,m=b+1-i/\a<i/\i<=b+1/\ak e 0=.slice (some ⟨d,0,none⟩) n c/\ak e 1=.int .i64 a/\ak e 2=.int .i64 b/\ak e 3=y/\ak e 8=.int .i64 i/\SA P d n o h0 h'
theorem Ee(Y:iU y){c a b:Nat}(lq:b<=n)(yT:a<=b)(hn:n<1000000)(w:SA P d n o h0 h):
  aF FF eo [.slice (some ⟨d,0,none⟩) n c,.int .i64 a,.int .i64 b,y] h (fun _ h'=>SA P d n o h0 h'):=by
 refine aF.of ef ?_;unfold cM;have wa:=wrap_i64 ((a:Int)+1) (by omega) (by omega);simp[wa];refine aB.loop (alL P d n o c h0 y a b) ?_ (n:=b-a) ⟨a+1,by omega,by omega,by omega,by simp,by simp,by simp,by simp,by simp,w⟩;rintro m e h'⟨i,rfl,U6,PO,q0,q1,q2,q3,q8,w'⟩;unfold cJ;by_cases hi:i<b
 .have wi:=wrap_i64 ((i:Int)+1) (by omega) (by omega);simp[q2,q8,hi];refine IS Y (a:=a) (b:=b) (c:=c) (i:=i) lq hn (by omega) hi w' (by simp[q0]) (by simp[q1]) (by simp[q2]) (by simp[q3]) (by simp[q8]) (by simp) ?_;intro e2 h2 k0 k1 k2 k3 k8 w2;simp[k8,wi];exact⟨b+1-(i+1),by omega,i+1,rfl,by omega,by omega,by simp[k0],by simp[k1],by simp[k2],by simp[k3],by simp,w2⟩
 .have zi:¬(i:Int)<b:=by omega
  simp[q2,q8,hi];exact w'
theorem aci:iU (.func (.func tA) #[] #[]):=by intro h x z ok;refine c_.func ?_;refine aF.of FE ?_;unfold xT;simp;exact((ab.refl ok).new _ _).new _ _
def RvI(P:Int×(Bool×Int)->Prop)(d n o c:Nat)(h0:ae)(b:Nat)(m:Nat)(e:Env)(h':ae):Prop:=
 ∃(i:Nat) (j:Int),m=b-i/\i<=b/\j<b/\ -1<=j/\ak e 0=.slice (some ⟨d,0,none⟩) n c/\ak e 8=.int .i64 i/\ak e 9=.int .i64 j/\SA P d n o h0 h'
theorem Ga{y:Value}{c a b:Nat}(lq:b<=n)(yT:a<=b)(hn:n<1000000)(w:SA P d n o h0 h):
  aF FF eB [.slice (some ⟨d,0,none⟩) n c,.int .i64 a,.int .i64 b,y] h (fun _ h'=>SA P d n o h0 h'):=by
 refine aF.of je ?_;unfold ew;have wb:=wrap_i64 ((b:Int)-1) (by omega) (by omega);simp[wb];refine aB.loop (RvI P d n o c h0 b) ?_ (n:=b-a) ⟨a,(b:Int)-1,rfl,by omega,by omega,by omega,by simp,by simp,by simp,w⟩;rintro m e h'⟨i,j,rfl,PO,hjb,FR,q0,q8,q9,w'⟩;unfold dV;by_cases wq:(i:Int)<j
 .obtain⟨k,rfl⟩:∃k:Nat,j=k:=⟨j.toNat,by omega⟩;have hik:i<k:=by omega
  have zY:i<n:=by omega
  have zZ:k<n:=by omega
  have wi:=wrap_i64 ((i:Int)+1) (by omega) (by omega);have wk:=wrap_i64 ((k:Int)-1) (by omega) (by omega);obtain⟨g,xs,s,hb,hl,hP⟩:=id w';obtain⟨x,hx⟩:=aE xs i;obtain⟨z,hz⟩:=aE xs k;have rx:=bJ hb hx;have rz:=bJ hb hz;have l1:i*3+3<=xs.length*3:=by omega
  have l2:k*3+3<=xs.length*3:=by omega
  have sp:=gh xs i z (by omega);simp[q0,q8,q9,hik,zY,zZ,wi,wk,rx,rz,ay,hb,l1,l2,sp,-ag];exact⟨b-(i+1),by omega,i+1,(k:Int)-1,rfl,by omega,by omega,by omega,by simp[q0],by simp,by simp,SA.swap (h:=tick h') g.tick hb hl hP hx hz⟩
 .simp[q8,q9,wq];exact w'
end
section
variable{P:Int×(Bool×Int)->Prop}{d n o c a:Nat}{h0:ae}{y:Value}
structure PE(d n c a:Nat)(y:Value)(e:Env):Prop where
 f0:ak e 0=.slice (some ⟨d,0,none⟩) n c
 f1:ak e 1=.int .i64 a
 f4:ak e 4=y
def al6(P:Int×(Bool×Int)->Prop)(d n o c a:Nat)(h0:ae)(y:Value)(i0 j:Nat)(m:Nat)(e:Env)(h':ae):Prop:=
 ∃i:Nat,m=j+1-i/\i0<=i/\i<=max i0 (j+1)/\PE d n c a y e/\ak e 11=.int .i64 i/\ak e 12=.int .i64 j/\SA P d n o h0 h'
theorem ajs(Y:iU y)(hn:n<1000000)(Bh:a<n)(hj:j<n)(zY:i<=n)(w:SA P d n o h0 h)(E:PE d n c a y e)(f11:ak e 11=.int .i64 i)(f12:ak e 12=.int .i64 j)(K:∀e' h' i',PE d n c a y e'->i<=i'->i'<=max i (j+1)->ak e' 11=.int .i64 (i':Nat)->ak e' 12=.int .i64 j->SA P d n o h0 h'->QQ (.exit 2) e' h'):aB FF (.loop cE) e h QQ:=by
 refine aB.loop (al6 P d n o c a h0 y i j) ?_ (n:=j+1-i) ⟨i,rfl,by omega,by omega,E,f11,f12,w⟩;rintro m e' h'⟨i',rfl,JE,AS,E',mK,lI,w'⟩;obtain⟨g,xs,s,hb,hl,hP⟩:=id w';unfold cE;by_cases wq:i'<=j
 .have Vh:i'<n:=by omega
  have wi:=wrap_i64 ((i':Int)+1) (by omega) (by omega);obtain⟨x,hx⟩:=aE xs a;obtain⟨z,hz⟩:=aE xs i';have rx:=bJ hb hx;have rz:=bJ hb hz;simp[E'.f0,E'.f1,E'.f4,mK,lI,wq,Bh,Vh,rx,rz,ay,-ag];refine aU.cut (fun h1=>ab aK h' h1) ?_ ?_
  .exact(ab.refl g.ok).tick
  intro h1 g1;refine aU.cU (V:=fun v BZ=>(∃c:Int,v=.int .i64 c)/\ab aK h1 BZ) (by simpa [E'.f4] using Y h1 x z g1.ok) ?_;rintro _ h2⟨⟨cv,rfl⟩,g2⟩;have w2:=(w'.bl g1).bl g2;by_cases hc:cv<0
  .simp[hc];exact K _ _ i' ⟨by simp[E'.f0],by simp[E'.f1],by simp[E'.f4]⟩ JE AS (by simp[mK]) (by simp[lI]) w2
  .simp[hc,mK,wi];exact⟨j+1-(i'+1),by omega,i'+1,rfl,by omega,by omega,⟨by simp[E'.f0],by simp[E'.f1],by simp[E'.f4]⟩,by simp,by simp[lI],w2⟩
 .simp[mK,lI,wq];exact K _ _ i' ⟨by simp[E'.f0],by simp[E'.f1],by simp[E'.f4]⟩ JE AS (by simp[mK]) (by simp[lI]) (w'.bl ((ab.refl g.ok).tick))
def al5(P:Int×(Bool×Int)->Prop)(d n o c a:Nat)(h0:ae)(y:Value)(i j0:Nat)(m:Nat)(e:Env)(h':ae):Prop:=
 ∃j:Nat,m=j/\j<=j0/\a<=j/\PE d n c a y e/\ak e 11=.int .i64 i/\ak e 12=.int .i64 j/\SA P d n o h0 h'
theorem Z6(Y:iU y)(hn:n<1000000)(hj:j<n)(U6:a<i)(X0:a<=j)(w:SA P d n o h0 h)(E:PE d n c a y e)(f11:ak e 11=.int .i64 i)(f12:ak e 12=.int .i64 j)(K:∀e' h' j',PE d n c a y e'->j'<=j->a<=j'->ak e' 11=.int .i64 i->ak e' 12=.int .i64 (j':Nat)->SA P d n o h0 h'->QQ (.exit 4) e' h'):aB FF (.loop cD) e h QQ:=by
 refine aB.loop (al5 P d n o c a h0 y i j) ?_ (n:=j) ⟨j,rfl,by omega,X0,E,f11,f12,w⟩;rintro j' e' h'⟨_,rfl,FR,D8,E',mK,lI,w'⟩;obtain⟨g,xs,s,hb,hl,hP⟩:=id w';unfold cD;by_cases wq:i<=j'
 .have Bh:a<n:=by omega
  have Vk:j'<n:=by omega
  obtain⟨k,hk⟩:∃k,k=j'-1:=⟨_,rfl⟩;have wk:IntKind.i64.wrap ((j':Int)-1)=(k:Int):=by rw[wrap_i64 _ (by omega) (by omega)];omega
  obtain⟨x,hx⟩:=aE xs a;obtain⟨z,hz⟩:=aE xs j';have rx:=bJ hb hx;have rz:=bJ hb hz;simp[E'.f0,E'.f1,E'.f4,mK,lI,wq,Bh,Vk,rx,rz,ay,-ag];refine aU.cut (fun h1=>ab aK h' h1) ?_ ?_
  .exact(ab.refl g.ok).tick
  intro h1 g1;refine aU.cU (V:=fun v BZ=>(∃c:Int,v=.int .i64 c)/\ab aK h1 BZ) (by simpa [E'.f4] using Y h1 x z g1.ok) ?_;rintro _ h2⟨⟨cv,rfl⟩,g2⟩;have w2:=(w'.bl g1).bl g2;by_cases hc:cv<0
  .simp[hc,lI,wk];exact⟨k,by omega,k,rfl,by omega,by omega,⟨by simp[E'.f0],by simp[E'.f1],by simp[E'.f4]⟩,by simp[mK],by simp,w2⟩
  .simp[hc];exact K _ _ j' ⟨by simp[E'.f0],by simp[E'.f1],by simp[E'.f4]⟩ FR D8 (by simp[mK]) (by simp[lI]) w2
 .simp[mK,lI,wq];exact K _ _ j' ⟨by simp[E'.f0],by simp[E'.f1],by simp[E'.f4]⟩ FR D8 (by simp[mK]) (by simp[lI]) (w'.bl ((ab.refl g.ok).tick))
def al7(P:Int×(Bool×Int)->Prop)(d n o c a b:Nat)(h0:ae)(y:Value)(m:Nat)(e:Env)(h':ae):Prop:=
 ∃i j:Nat,m=j+1-i/\a<i/\i<=b/\a<=j/\j<b/\PE d n c a y e/\ak e 11=.int .i64 i/\ak e 12=.int .i64 j/\SA P d n o h0 h'
def agd(P:Int×(Bool×Int)->Prop)(d n o a b:Nat)(h0:ae)(v:Value)(h':ae):Prop:=SA P d n o h0 h'/\∃i:Nat,v=.int .i64 i/\a<i/\i<=b
theorem LA(Y:iU y)(lq:b<=n)(hn:n<1000000)(hap:a<=pv)(hpb:pv<b)(w:SA P d n o h0 h):
  aF FF dU [.slice (some ⟨d,0,none⟩) n c,.int .i64 a,.int .i64 b,.int .i64 pv,y] h (agd P d n o a b h0):=by
 obtain⟨g,xs,s,hb,hl,hP⟩:=id w;have Bh:a<n:=by omega
 have N1:pv<n:=by omega
 obtain⟨x,hx⟩:=aE xs a;obtain⟨z,hz⟩:=aE xs pv;have rx:=bJ hb hx;have rz:=bJ hb hz;have l1:a*3+3<=xs.length*3:=by omega
 have l2:pv*3+3<=xs.length*3:=by omega
 have sp:=gh xs a z (by omega);have wa:=wrap_i64 ((a:Int)+1) (by omega) (by omega);obtain⟨k,hk⟩:∃k,k=b-1:=⟨_,rfl⟩;have wb:IntKind.i64.wrap ((b:Int)-1)=(k:Int):=by rw[wrap_i64 _ (by omega) (by omega)];omega
 refine aF.of iK ?_;unfold dR;simp[Bh,N1,rx,rz,ay,hb,l1,l2,sp,wa,wb,-ag];have w1:=SA.swap (h:=tick h) g.tick hb hl hP hx hz;refine aB.loop (al7 P d n o c a b h0 y) ?_ (n:=k+1-(a+1)) ⟨a+1,k,rfl,by omega,by omega,by omega,by omega,⟨by simp,by simp,by simp⟩,by simp,by simp,w1⟩;rintro m e' h'⟨i,j,rfl,U6,PO,X0,hjb,E',mK,lI,w'⟩;unfold dM;simp;refine ajs Y hn Bh (by omega) (by omega) w' E' mK lI ?_;intro e1 h1 i1 E1 JE ah2 k11 VS w1;simp;refine Z6 Y hn (by omega) (by omega) X0 w1 E1 k11 VS ?_;intro e2 h2 j2 E2 D8 ah7 m11 F0 w2;by_cases wq:j2<i1
 .have ah3:(j2:Int)<i1:=by omega
  simp[m11,F0,wq];rw[qR _ _ _ _ _ (by decide)];simp[m11];exact⟨w2,i1,rfl,by omega,by omega⟩
 .obtain⟨g2,pU,s2,cA,sE,IA⟩:=id w2;have Vg:i1<n:=by omega
  have NS:j2<n:=by omega
  obtain⟨x2,GZ⟩:=aE pU i1;obtain⟨z2,Ab⟩:=aE pU j2;have Xj:=bJ cA GZ;have Xk:=bJ cA Ab;have l3:i1*3+3<=pU.length*3:=by omega
  have l4:j2*3+3<=pU.length*3:=by omega
  have Xu:=gh pU i1 z2 (by omega);have wi:=wrap_i64 ((i1:Int)+1) (by omega) (by omega);obtain⟨k2,AT⟩:∃k2,k2=j2-1:=⟨_,rfl⟩;have wk:IntKind.i64.wrap ((j2:Int)-1)=(k2:Int):=by rw[wrap_i64 _ (by omega) (by omega)];omega
  simp[E2.f0,m11,F0,wq,Vg,NS,Xj,Xk,ay,cA,l3,l4,Xu,wi,wk,-ag];exact⟨k2+1-(i1+1),by omega,i1+1,k2,rfl,by omega,by omega,by omega,by omega,⟨by simp[E2.f0],by simp[E2.f1],by simp[E2.f4]⟩,by simp,by simp,SA.swap (h:=tick h2) g2.tick cA sE IA GZ Ab⟩
end
section
variable{P:Int×(Bool×Int)->Prop}{d n o c a:Nat}{h0:ae}{y:Value}
def amc(P:Int×(Bool×Int)->Prop)(d n o c a:Nat)(h0:ae)(y:Value)(i0 j:Nat)(m:Nat)(e:Env)(h':ae):Prop:=
 ∃i:Nat,m=j+1-i/\i0<=i/\i<=max i0 (j+1)/\PE d n c a y e/\ak e 12=.int .i64 i/\ak e 13=.int .i64 j/\SA P d n o h0 h'
theorem aex(Y:iU y)(hn:n<1000000)(Bh:a<n)(hj:j<n)(zY:i<=n)(w:SA P d n o h0 h)(E:PE d n c a y e)(f11:ak e 12=.int .i64 i)(f12:ak e 13=.int .i64 j)(K:∀e' h' i',PE d n c a y e'->i<=i'->i'<=max i (j+1)->ak e' 12=.int .i64 (i':Nat)->ak e' 13=.int .i64 j->SA P d n o h0 h'->QQ (.exit 0) e' h'):aB FF (.loop c7) e h QQ:=by
 refine aB.loop (amc P d n o c a h0 y i j) ?_ (n:=j+1-i) ⟨i,rfl,by omega,by omega,E,f11,f12,w⟩;rintro m e' h'⟨i',rfl,JE,AS,E',mK,lI,w'⟩;obtain⟨g,xs,s,hb,hl,hP⟩:=id w';unfold c7;by_cases wq:i'<=j
 .have Vh:i'<n:=by omega
  have wi:=wrap_i64 ((i':Int)+1) (by omega) (by omega);obtain⟨x,hx⟩:=aE xs a;obtain⟨z,hz⟩:=aE xs i';have rx:=bJ hb hx;have rz:=bJ hb hz;simp[E'.f0,E'.f1,E'.f4,mK,lI,wq,Bh,Vh,rx,rz,ay,-ag];refine aU.cut (fun h1=>ab aK h' h1) ?_ ?_
  .exact(ab.refl g.ok).tick
  intro h1 g1;refine aU.cU (V:=fun v BZ=>(∃c:Int,v=.int .i64 c)/\ab aK h1 BZ) (by simpa [E'.f4] using Y h1 z x g1.ok) ?_;rintro _ h2⟨⟨cv,rfl⟩,g2⟩;have w2:=(w'.bl g1).bl g2;by_cases hc:cv<0
  .simp[hc,mK,wi];exact⟨j+1-(i'+1),by omega,i'+1,rfl,by omega,by omega,⟨by simp[E'.f0],by simp[E'.f1],by simp[E'.f4]⟩,by simp,by simp[lI],w2⟩
  .simp[hc];exact K _ _ i' ⟨by simp[E'.f0],by simp[E'.f1],by simp[E'.f4]⟩ JE AS (by simp[mK]) (by simp[lI]) w2
 .simp[mK,lI,wq];exact K _ _ i' ⟨by simp[E'.f0],by simp[E'.f1],by simp[E'.f4]⟩ JE AS (by simp[mK]) (by simp[lI]) (w'.bl ((ab.refl g.ok).tick))
def amd(P:Int×(Bool×Int)->Prop)(d n o c a:Nat)(h0:ae)(y:Value)(i0 j:Nat)(m:Nat)(e:Env)(h':ae):Prop:=
 ∃i:Nat,m=j+1-i/\i0<=i/\i<=max i0 (j+1)/\PE d n c a y e/\ak e 12=.int .i64 i/\ak e 13=.int .i64 j/\SA P d n o h0 h'
theorem aey(Y:iU y)(hn:n<1000000)(Bh:a<n)(hj:j<n)(zY:i<=n)(w:SA P d n o h0 h)(E:PE d n c a y e)(f11:ak e 12=.int .i64 i)(f12:ak e 13=.int .i64 j)(K:∀e' h' i',PE d n c a y e'->i<=i'->i'<=max i (j+1)->ak e' 12=.int .i64 (i':Nat)->ak e' 13=.int .i64 j->SA P d n o h0 h'->QQ (.exit 6) e' h'):aB FF (.loop cY) e h QQ:=by
 refine aB.loop (amd P d n o c a h0 y i j) ?_ (n:=j+1-i) ⟨i,rfl,by omega,by omega,E,f11,f12,w⟩;rintro m e' h'⟨i',rfl,JE,AS,E',mK,lI,w'⟩;obtain⟨g,xs,s,hb,hl,hP⟩:=id w';unfold cY;by_cases wq:i'<=j
 .have Vh:i'<n:=by omega
  have wi:=wrap_i64 ((i':Int)+1) (by omega) (by omega);obtain⟨x,hx⟩:=aE xs a;obtain⟨z,hz⟩:=aE xs i';have rx:=bJ hb hx;have rz:=bJ hb hz;simp[E'.f0,E'.f1,E'.f4,mK,lI,wq,Bh,Vh,rx,rz,ay,-ag];refine aU.cut (fun h1=>ab aK h' h1) ?_ ?_
  .exact(ab.refl g.ok).tick
  intro h1 g1;refine aU.cU (V:=fun v BZ=>(∃c:Int,v=.int .i64 c)/\ab aK h1 BZ) (by simpa [E'.f4] using Y h1 z x g1.ok) ?_;rintro _ h2⟨⟨cv,rfl⟩,g2⟩;have w2:=(w'.bl g1).bl g2;by_cases hc:cv<0
  .simp[hc,mK,wi];exact⟨j+1-(i'+1),by omega,i'+1,rfl,by omega,by omega,⟨by simp[E'.f0],by simp[E'.f1],by simp[E'.f4]⟩,by simp,by simp[lI],w2⟩
  .simp[hc];exact K _ _ i' ⟨by simp[E'.f0],by simp[E'.f1],by simp[E'.f4]⟩ JE AS (by simp[mK]) (by simp[lI]) w2
 .simp[mK,lI,wq];exact K _ _ i' ⟨by simp[E'.f0],by simp[E'.f1],by simp[E'.f4]⟩ JE AS (by simp[mK]) (by simp[lI]) (w'.bl ((ab.refl g.ok).tick))
def ama(P:Int×(Bool×Int)->Prop)(d n o c a:Nat)(h0:ae)(y:Value)(i j0:Nat)(m:Nat)(e:Env)(h':ae):Prop:=
 ∃j:Nat,m=j/\j<=j0/\a<=j/\PE d n c a y e/\ak e 12=.int .i64 i/\ak e 13=.int .i64 j/\SA P d n o h0 h'
theorem WX(Y:iU y)(hn:n<1000000)(hj:j<n)(U6:a<i)(X0:a<=j)(w:SA P d n o h0 h)(E:PE d n c a y e)(f11:ak e 12=.int .i64 i)(f12:ak e 13=.int .i64 j)(K:∀e' h' j',PE d n c a y e'->j'<=j->a<=j'->ak e' 12=.int .i64 i->ak e' 13=.int .i64 (j':Nat)->SA P d n o h0 h'->QQ (.exit 2) e' h'):aB FF (.loop cZ) e h QQ:=by
 refine aB.loop (ama P d n o c a h0 y i j) ?_ (n:=j) ⟨j,rfl,by omega,X0,E,f11,f12,w⟩;rintro j' e' h'⟨_,rfl,FR,D8,E',mK,lI,w'⟩;obtain⟨g,xs,s,hb,hl,hP⟩:=id w';unfold cZ;by_cases wq:i<=j'
 .have Bh:a<n:=by omega
  have Vk:j'<n:=by omega
  obtain⟨k,hk⟩:∃k,k=j'-1:=⟨_,rfl⟩;have wk:IntKind.i64.wrap ((j':Int)-1)=(k:Int):=by rw[wrap_i64 _ (by omega) (by omega)];omega
  obtain⟨x,hx⟩:=aE xs a;obtain⟨z,hz⟩:=aE xs j';have rx:=bJ hb hx;have rz:=bJ hb hz;simp[E'.f0,E'.f1,E'.f4,mK,lI,wq,Bh,Vk,rx,rz,ay,-ag];refine aU.cut (fun h1=>ab aK h' h1) ?_ ?_
  .exact(ab.refl g.ok).tick
  intro h1 g1;refine aU.cU (V:=fun v BZ=>(∃c:Int,v=.int .i64 c)/\ab aK h1 BZ) (by simpa [E'.f4] using Y h1 z x g1.ok) ?_;rintro _ h2⟨⟨cv,rfl⟩,g2⟩;have w2:=(w'.bl g1).bl g2;by_cases hc:cv<0
  .simp[hc];exact K _ _ j' ⟨by simp[E'.f0],by simp[E'.f1],by simp[E'.f4]⟩ FR D8 (by simp[mK]) (by simp[lI]) w2
  .simp[hc,lI,wk];exact⟨k,by omega,k,rfl,by omega,by omega,⟨by simp[E'.f0],by simp[E'.f1],by simp[E'.f4]⟩,by simp[mK],by simp,w2⟩
 .simp[mK,lI,wq];exact K _ _ j' ⟨by simp[E'.f0],by simp[E'.f1],by simp[E'.f4]⟩ FR D8 (by simp[mK]) (by simp[lI]) (w'.bl ((ab.refl g.ok).tick))
def amb(P:Int×(Bool×Int)->Prop)(d n o c a:Nat)(h0:ae)(y:Value)(i j0:Nat)(m:Nat)(e:Env)(h':ae):Prop:=
 ∃j:Nat,m=j/\j<=j0/\a<=j/\PE d n c a y e/\ak e 12=.int .i64 i/\ak e 13=.int .i64 j/\SA P d n o h0 h'
theorem WY(Y:iU y)(hn:n<1000000)(hj:j<n)(U6:a<i)(X0:a<=j)(w:SA P d n o h0 h)(E:PE d n c a y e)(f11:ak e 12=.int .i64 i)(f12:ak e 13=.int .i64 j)(K:∀e' h' j',PE d n c a y e'->j'<=j->a<=j'->ak e' 12=.int .i64 i->ak e' 13=.int .i64 (j':Nat)->SA P d n o h0 h'->QQ (.exit 8) e' h'):aB FF (.loop cX) e h QQ:=by
 refine aB.loop (amb P d n o c a h0 y i j) ?_ (n:=j) ⟨j,rfl,by omega,X0,E,f11,f12,w⟩;rintro j' e' h'⟨_,rfl,FR,D8,E',mK,lI,w'⟩;obtain⟨g,xs,s,hb,hl,hP⟩:=id w';unfold cX;by_cases wq:i<=j'
 .have Bh:a<n:=by omega
  have Vk:j'<n:=by omega
  obtain⟨k,hk⟩:∃k,k=j'-1:=⟨_,rfl⟩;have wk:IntKind.i64.wrap ((j':Int)-1)=(k:Int):=by rw[wrap_i64 _ (by omega) (by omega)];omega
  obtain⟨x,hx⟩:=aE xs a;obtain⟨z,hz⟩:=aE xs j';have rx:=bJ hb hx;have rz:=bJ hb hz;simp[E'.f0,E'.f1,E'.f4,mK,lI,wq,Bh,Vk,rx,rz,ay,-ag];refine aU.cut (fun h1=>ab aK h' h1) ?_ ?_
  .exact(ab.refl g.ok).tick
  intro h1 g1;refine aU.cU (V:=fun v BZ=>(∃c:Int,v=.int .i64 c)/\ab aK h1 BZ) (by simpa [E'.f4] using Y h1 z x g1.ok) ?_;rintro _ h2⟨⟨cv,rfl⟩,g2⟩;have w2:=(w'.bl g1).bl g2;by_cases hc:cv<0
  .simp[hc];exact K _ _ j' ⟨by simp[E'.f0],by simp[E'.f1],by simp[E'.f4]⟩ FR D8 (by simp[mK]) (by simp[lI]) w2
  .simp[hc,lI,wk];exact⟨k,by omega,k,rfl,by omega,by omega,⟨by simp[E'.f0],by simp[E'.f1],by simp[E'.f4]⟩,by simp[mK],by simp,w2⟩
 .simp[mK,lI,wq];exact K _ _ j' ⟨by simp[E'.f0],by simp[E'.f1],by simp[E'.f4]⟩ FR D8 (by simp[mK]) (by simp[lI]) (w'.bl ((ab.refl g.ok).tick))
def al_(P:Int×(Bool×Int)->Prop)(d n o c a b:Nat)(h0:ae)(y:Value)(m:Nat)(e:Env)(h':ae):Prop:=
 ∃i j:Nat,m=j+1-i/\a<i/\i<=b/\a<=j/\j<b/\PE d n c a y e/\ak e 12=.int .i64 i/\ak e 13=.int .i64 j/\SA P d n o h0 h'
def PtQ(P:Int×(Bool×Int)->Prop)(d n o a b:Nat)(h0:ae)(v:Value)(h':ae):Prop:=SA P d n o h0 h'/\∃(j:Nat) (t:Bool),v=.tuple #[.int .i64 j,.bool t]/\a<=j/\j<b
theorem Ss(Y:iU y)(lq:b<=n)(hn:n<1000000)(hap:a<=pv)(hpb:pv<b)(w:SA P d n o h0 h):
  aF FF ff [.slice (some ⟨d,0,none⟩) n c,.int .i64 a,.int .i64 b,.int .i64 pv,y] h (PtQ P d n o a b h0):=by
 obtain⟨g,xs,s,hb,hl,hP⟩:=id w;have Bh:a<n:=by omega
 have N1:pv<n:=by omega
 obtain⟨x,hx⟩:=aE xs a;obtain⟨z,hz⟩:=aE xs pv;have rx:=bJ hb hx;have rz:=bJ hb hz;have l1:a*3+3<=xs.length*3:=by omega
 have l2:pv*3+3<=xs.length*3:=by omega
 have sp:=gh xs a z (by omega);have wa:=wrap_i64 ((a:Int)+1) (by omega) (by omega);obtain⟨k,hk⟩:∃k,k=b-1:=⟨_,rfl⟩;have wb:IntKind.i64.wrap ((b:Int)-1)=(k:Int):=by rw[wrap_i64 _ (by omega) (by omega)];omega
 refine aF.of kg ?_;unfold eZ;simp[Bh,N1,rx,rz,ay,hb,l1,l2,sp,wa,wb,-ag];have w1:=SA.swap (h:=tick h) g.tick hb hl hP hx hz;refine aex (c:=c) (i:=a+1) Y hn Bh (j:=k) (by omega) (by omega) w1 ⟨by simp,by simp,by simp⟩ (by simp) (by simp) ?_;intro e1 h1 i1 E1 JE ah2 VS k13 w1;simp;refine WX Y hn (by omega) (by omega) (by omega) w1 E1 VS k13 ?_;intro e2 h2 j2 E2 D8 ah7 F0 V3 w2;obtain⟨g2,pU,s2,cA,sE,IA⟩:=id w2;have NS:j2<n:=by omega
 obtain⟨x2,GZ⟩:=aE pU a;obtain⟨z2,Ab⟩:=aE pU j2;have Xj:=bJ cA GZ;have Xk:=bJ cA Ab;have l4:j2*3+3<=pU.length*3:=by omega
 have l5:a*3+3<=pU.length*3:=by omega
 by_cases wq:j2<i1
 .have Xu:=gh pU j2 x2 (by omega);simp[E2.f0,E2.f1,F0,V3,wq,Bh,NS,Xj,Xk,ay,cA,l4,l5,Xu,-ag];exact⟨SA.swap (h:=tick h2) g2.tick cA sE IA Ab GZ,j2,true,rfl,by omega,by omega⟩
 have Vg:i1<n:=by omega
 obtain⟨y2,VH⟩:=aE pU i1;have ry2:=bJ cA VH;have l3:i1*3+3<=pU.length*3:=by omega
 have Xu:=gh pU i1 z2 (by omega);have wi:=wrap_i64 ((i1:Int)+1) (by omega) (by omega);obtain⟨k2,AT⟩:∃k2,k2=j2-1:=⟨_,rfl⟩;have wk:IntKind.i64.wrap ((j2:Int)-1)=(k2:Int):=by rw[wrap_i64 _ (by omega) (by omega)];omega
 simp[E2.f0,F0,V3,wq,Vg,NS,ry2,Xk,ay,cA,l3,l4,Xu,wi,wk,-ag];have w3:=SA.swap (h:=tick h2) g2.tick cA sE IA VH Ab;refine aB.loop (al_ P d n o c a b h0 y) ?_ (n:=k2+1-(i1+1)) ⟨i1+1,k2,rfl,by omega,by omega,by omega,by omega,⟨by simp[E2.f0],by simp[E2.f1],by simp[E2.f4]⟩,by simp,by simp,w3⟩;rintro m e' h'⟨i,j,rfl,U6,PO,X0,hjb,E',lI,q13,w'⟩;unfold eN;simp;refine aey Y hn Bh (by omega) (by omega) w' E' lI q13 ?_;intro e1 h1 i1 E1 JE ah2 VS k13 w1;simp;refine WY Y hn (by omega) (by omega) X0 w1 E1 VS k13 ?_;intro e2 h2 j2 E2 D8 ah7 F0 V3 w2;obtain⟨g2,pU,s2,cA,sE,IA⟩:=id w2;have NS:j2<n:=by omega
 obtain⟨x2,GZ⟩:=aE pU a;obtain⟨z2,Ab⟩:=aE pU j2;have Xj:=bJ cA GZ;have Xk:=bJ cA Ab;have l4:j2*3+3<=pU.length*3:=by omega
 have l5:a*3+3<=pU.length*3:=by omega
 by_cases wq:j2<i1
 .have Xu:=gh pU j2 x2 (by omega);simp[F0,V3,wq];rw[qR _ _ _ _ _ (by decide)];simp[E2.f0,E2.f1,F0,V3,wq,Bh,NS,Xj,Xk,ay,cA,l4,l5,Xu,-ag];exact⟨SA.swap (h:=tick h2) g2.tick cA sE IA Ab GZ,j2,false,rfl,by omega,by omega⟩
 .have Vg:i1<n:=by omega
  obtain⟨y2,VH⟩:=aE pU i1;have ry2:=bJ cA VH;have l3:i1*3+3<=pU.length*3:=by omega
  have Xu:=gh pU i1 z2 (by omega);have wi:=wrap_i64 ((i1:Int)+1) (by omega) (by omega);obtain⟨k2,AT⟩:∃k2,k2=j2-1:=⟨_,rfl⟩;have wk:IntKind.i64.wrap ((j2:Int)-1)=(k2:Int):=by rw[wrap_i64 _ (by omega) (by omega)];omega
  simp[E2.f0,F0,V3,wq,Vg,NS,ry2,Xk,ay,cA,l3,l4,Xu,wi,wk,-ag];exact⟨k2+1-(i1+1),by omega,i1+1,k2,rfl,by omega,by omega,by omega,by omega,⟨by simp[E2.f0],by simp[E2.f1],by simp[E2.f4]⟩,by simp,by simp,SA.swap (h:=tick h2) g2.tick cA sE IA VH Ab⟩
end
def Xp:aq:=(J_ (V_ [m_ 19 11,C_ 20 .add 19 1,m_ 21 2,B_ 22 .lss 20 21,m_ 23 22,q_ 24 23 true (.mv (t_ 4)),q_ 25 23 true (.mv (t_ 0)),q_ 26 23 true (.mv (t_ 3)),q_ 27 23 true (.mv (t_ 11)),q_ 28 23 true (.bin .add [] (t_ 26) (t_ 27)),q_ 29 23 true (.dt none 3 (t_ 25) (t_ 28)),q_ 30 23 true (.load (some 3) (t_ 29)),q_ 31 23 true (.mv (t_ 0)),q_ 32 23 true (.mv (t_ 3)),q_ 33 23 true (.mv (t_ 11)),q_ 34 23 true (.bin .add [] (t_ 32) (t_ 33)),q_ 35 23 true (.bin .add [] (t_ 34) (i_ 1)),q_ 36 23 true (.dt none 3 (t_ 31) (t_ 35)),q_ 37 23 true (.load (some 3) (t_ 36)),q_ 38 23 true (.call (t_ 24) [t_ 30,t_ 37]),q_ 39 23 true (.bin .lss [] (t_ 38) (i_ 0)),o_ 40 (.pick (t_ 23) (t_ 39) (b_ false))]) (I_ 40 (O_ [m_ 41 11,C_ 42 .add 41 1,m_ 11 42]) .skip))
def Jn:aq:=(J_ (J_ (V_ [m_ 43 4,m_ 44 0,m_ 45 3,m_ 46 10,B_ 47 .add 45 46,a_ 48 3 44 47,L_ 49 3 48,m_ 50 0,m_ 51 3,m_ 52 11,B_ 53 .add 51 52,a_ 54 3 50 53,L_ 55 3 54,o_ 56 (.call (t_ 43) [t_ 49,t_ 55]),C_ 57 .lss 56 0,o_ 58 (.un .not (t_ 57))]) (I_ 58 .ret .skip)) (J_ (V_ [m_ 59 0,m_ 60 3,m_ 61 10,B_ 62 .add 60 61,m_ 63 0,m_ 64 3,m_ 65 11,B_ 66 .add 64 65,m_ 67 0,m_ 68 3,m_ 69 11,B_ 70 .add 68 69,a_ 71 3 67 70,L_ 72 3 71,m_ 73 0,m_ 74 3,m_ 75 10,B_ 76 .add 74 75,a_ 77 3 73 76,L_ 78 3 77,a_ 79 3 59 62,s_ 3 79 72,a_ 80 3 63 66,s_ 3 80 78]) (O_ [m_ 81 11,m_ 10 81])))
theorem Xq:dk=.block 1 (G_ [m_ 13 10,o_ 14 (.bin .mul [] (i_ 2) (t_ 13)),C_ 15 .add 14 1,m_ 11 15] (J_ (G_ [m_ 16 11,m_ 17 2,B_ 18 .geq 16 17] (I_ 18 (.exit 0) .skip)) (J_ Xp Jn))):=rfl
section
variable{P:Int×(Bool×Int)->Prop}{d n o c:Nat}{h0:ae}{y:Value}
def SdI(P:Int×(Bool×Int)->Prop)(d n o c:Nat)(h0:ae)(y:Value)(hi first:Nat)(m:Nat)(e:Env)(h':ae):Prop:=
 ∃r:Nat,m=hi+1-r/\ak e 0=.slice (some ⟨d,0,none⟩) n c/\ak e 2=.int .i64 hi/\ak e 3=.int .i64 first/\ak e 4=y/\ak e 10=.int .i64 r/\r<1000000/\SA P d n o h0 h'
theorem aak(Y:iU y){hi first r cc:Nat}(hf:first+hi<=n)(hn:n<1000000)(hrc:r<cc)(U_:cc<hi)(w:SA P d n o h0 h)(f0:ak e 0=.slice (some ⟨d,0,none⟩) n c)(f2:ak e 2=.int .i64 hi)(f3:ak e 3=.int .i64 first)(f4:ak e 4=y)(f10:ak e 10=.int .i64 r)(f11:ak e 11=.int .i64 cc)(K1:∀e' h',SA P d n o h0 h'->QQ .ret e' h')(K2:∀e' h',SA P d n o h0 h'->ak e' 0=.slice (some ⟨d,0,none⟩) n c->ak e' 2=.int .i64 hi->ak e' 3=.int .i64 first->ak e' 4=y->ak e' 10=.int .i64 cc->QQ .normal e' h'):aB FF Jn e h QQ:=by
 obtain⟨g,xs,s,hb,hl,hP⟩:=id w;obtain⟨i,JE⟩:∃i,i=first+r:=⟨_,rfl⟩
 obtain⟨j,FR⟩:∃j,j=first+cc:=⟨_,rfl⟩
 have wi:IntKind.i64.wrap ((first:Int)+(r:Int))=(i:Int):=by rw[wrap_i64 _ (by omega) (by omega)];omega
 have wj:IntKind.i64.wrap ((first:Int)+(cc:Int))=(j:Int):=by rw[wrap_i64 _ (by omega) (by omega)];omega
 have zY:i<n:=by omega
 have GS:j<n:=by omega
 obtain⟨x,hx⟩:=aE xs i;obtain⟨z,hz⟩:=aE xs j;have rx:=bJ hb hx;have rz:=bJ hb hz;unfold Jn;simp[f0,f2,f3,f4,f10,f11,wi,wj,zY,GS,rx,rz,ay,-ag];refine aU.cut (fun h1=>ab aK h h1) ?_ ?_
 .exact(ab.refl g.ok).tick
 intro h1 g1;refine aU.cU (V:=fun v BZ=>(∃c:Int,v=.int .i64 c)/\ab aK h1 BZ) (by simpa [f4] using Y h1 x z g1.ok) ?_;rintro _ h2⟨⟨cv,rfl⟩,g2⟩;have w2:=(w.bl g1).bl g2;by_cases hc:cv<0
 .obtain⟨gg,pU,s2,cA,sE,IA⟩:=id w2;obtain⟨x2,GZ⟩:=aE pU i;obtain⟨z2,Ab⟩:=aE pU j;have Xj:=bJ cA GZ;have Xk:=bJ cA Ab;have l1:i*3+3<=pU.length*3:=by omega
  have l2:j*3+3<=pU.length*3:=by omega
  have sp:=gh pU i z2 (by omega);simp[hc,f0,f3,f10,f11,wi,wj,zY,GS,Xj,Xk,ay,cA,l1,l2,sp,-ag];exact K2 _ _ (SA.swap (h:=tick h2) gg.tick cA sE IA GZ Ab) (by simp[f0]) (by simp[f2]) (by simp[f3]) (by simp[f4]) (by simp)
 .simp[hc];exact K1 _ _ w2
theorem Hv(Y:iU y){lo hi first:Nat}(hf:first+hi<=n)(hn:n<1000000)(GW:lo<1000000)(w:SA P d n o h0 h):
  aF FF fw [.slice (some ⟨d,0,none⟩) n c,.int .i64 lo,.int .i64 hi,.int .i64 first,y] h (fun _ h'=>SA P d n o h0 h'):=by
 refine aF.of kJ ?_;unfold fp;simp;refine aB.loop (SdI P d n o c h0 y hi first) ?_ (n:=hi+1-lo) ⟨lo,rfl,by simp,by simp,by simp,by simp,by simp,GW,w⟩;rintro m e h'⟨r,rfl,q0,q2,q3,q4,y9,hr,w'⟩;obtain⟨ch,hch⟩:∃ch,ch=2*r+1:=⟨_,rfl⟩;have w1:IntKind.i64.wrap (2*(r:Int))=2*(r:Int):=wrap_i64 _ (by omega) (by omega);have w2:IntKind.i64.wrap (2*(r:Int)+1)=(ch:Int):=by rw[wrap_i64 _ (by omega) (by omega)];omega
 by_cases ahO:hi<=ch
 .unfold dk;simp[q2,y9,w1,w2,ahO];rw[qR _ _ _ _ _ (by decide)];simp;exact w'
 obtain⟨g,xs,s,hb,hl,hP⟩:=id w';have CJ:ch<hi:=by omega
 rw[Xq];simp[q2,y9,w1,w2,ahO];obtain⟨ch2,hch3⟩:∃ch2,ch2=ch+1:=⟨_,rfl⟩;have w3:IntKind.i64.wrap ((ch:Int)+1)=(ch2:Int):=by rw[wrap_i64 _ (by omega) (by omega)];omega
 have fin:∀(cc:Nat)(e2:Env)(h2:ae),r<cc->cc<hi->SA P d n o h0 h2->ak e2 0=.slice (some ⟨d,0,none⟩) n c->ak e2 2=.int .i64 hi->ak e2 3=.int .i64 first->ak e2 4=y->ak e2 10=.int .i64 r->ak e2 11=.int .i64 cc->
   aB FF Jn e2 h2 (Fw 1 (Dk (fun e h=>∃m,m<hi+1-r/\SdI P d n o c h0 y hi first m e h) (Fw 0 (vD [] fun _ h'=>SA P d n o h0 h')))):=by
  intro cc e2 h2 a1 a2 w2 b0 b2 b3 b4 b10 b11;refine aak Y hf hn a1 a2 w2 b0 b2 b3 b4 b10 b11 (fun e' h' w'=>by simpa using w') (fun e' h' w' c0 c2 c3 c4 c10=>?_);simp;exact⟨hi+1-cc,by omega,cc,rfl,c0,c2,c3,c4,c10,by omega,w'⟩
 unfold Xp;by_cases h2:ch2<hi
 .obtain⟨i,JE⟩:∃i,i=first+ch:=⟨_,rfl⟩
  obtain⟨j,FR⟩:∃j,j=i+1:=⟨_,rfl⟩;have wi:IntKind.i64.wrap ((first:Int)+(ch:Int))=(i:Int):=by rw[wrap_i64 _ (by omega) (by omega)];omega
  have wj:IntKind.i64.wrap ((i:Int)+1)=(j:Int):=by rw[wrap_i64 _ (by omega) (by omega)];omega
  have zY:i<n:=by omega
  have GS:j<n:=by omega
  obtain⟨x,hx⟩:=aE xs i;obtain⟨z,hz⟩:=aE xs j;have rx:=bJ hb hx;have rz:=bJ hb hz;simp[q0,q2,q3,q4,w3,h2,wi,wj,zY,GS,rx,rz,ay,-ag];refine aU.cut (fun h1=>ab aK h' h1) ?_ ?_
  .exact(ab.refl g.ok).tick
  intro h1 g1;refine aU.cU (V:=fun v BZ=>(∃c:Int,v=.int .i64 c)/\ab aK h1 BZ) (by simpa [q4] using Y h1 x z g1.ok) ?_;rintro _ h3⟨⟨cv,rfl⟩,g2⟩;have w4:=(w'.bl g1).bl g2;by_cases hc:cv<0
  .simp[hc,w3];exact fin ch2 _ _ (by omega) h2 w4 (by simp[q0]) (by simp[q2]) (by simp[q3]) (by simp[q4]) (by simp[y9]) (by simp)
  .simp[hc];exact fin ch _ _ (by omega) CJ w4 (by simp[q0]) (by simp[q2]) (by simp[q3]) (by simp[q4]) (by simp[y9]) (by simp)
 .simp[q2,w3,h2];exact fin ch _ _ (by omega) CJ (w'.bl ((ab.refl g.ok).tick)) (by simp[q0]) (by simp[q2]) (by simp[q3]) (by simp[q4]) (by simp[y9]) (by simp)
def alK(P:Int×(Bool×Int)->Prop)(d n o c:Nat)(h0:ae)(y:Value)(a k:Nat)(m:Nat)(e:Env)(h':ae):Prop:=
 ∃i:Int,m=(i+1).toNat/\ -1<=i/\i<1000000/\ak e 0=.slice (some ⟨d,0,none⟩) n c/\ak e 3=y/\ak e 8=.int .i64 a/\ak e 9=.int .i64 0/\ak e 10=.int .i64 k/\ak e 11=.int .i64 i/\SA P d n o h0 h'
def alJ(P:Int×(Bool×Int)->Prop)(d n o c:Nat)(h0:ae)(y:Value)(a k:Nat)(m:Nat)(e:Env)(h':ae):Prop:=
 ∃i:Int,m=(i+1).toNat/\ -1<=i/\i<k/\ak e 0=.slice (some ⟨d,0,none⟩) n c/\ak e 3=y/\ak e 8=.int .i64 a/\ak e 9=.int .i64 0/\ak e 12=.int .i64 i/\SA P d n o h0 h'
theorem Rk(Y:iU y)(yT:a<b)(lq:b<=n)(hn:n<1000000)(w:SA P d n o h0 h):
  aF FF fu [.slice (some ⟨d,0,none⟩) n c,.int .i64 a,.int .i64 b,y] h (fun _ h'=>SA P d n o h0 h'):=by
 obtain⟨k,hk⟩:∃k,k=b-a:=⟨_,rfl⟩;have w1:IntKind.i64.wrap ((b:Int)-(a:Int))=(k:Int):=by rw[wrap_i64 _ (by omega) (by omega)];omega
 obtain⟨k1,hk1⟩:∃k1,k1=k-1:=⟨_,rfl⟩;have w2:IntKind.i64.wrap ((k:Int)-1)=(k1:Int):=by rw[wrap_i64 _ (by omega) (by omega)];omega
 have w3:IntKind.i64.wrap ((k1:Int)/2)=(k1:Int)/2:=wrap_i64 _ (by omega) (by omega);refine aF.of kI ?_;unfold fm;simp[w1,w2,w3];refine aB.loop (alK P d n o c h0 y a k) ?_ (n:=k1/2+1) ⟨((k1/2:Nat):Int),by omega,by omega,by omega,by simp,by simp,by simp,by simp,by simp,by simp,w⟩;rintro m e' h'⟨i,rfl,JE,AS,q0,q3,q8,q9,y9,mK,w'⟩;unfold eX;by_cases hi:0<=i
 .obtain⟨i,rfl⟩:∃i':Nat,i=i':=⟨i.toNat,by omega⟩;have wi:=wrap_i64 ((i:Int)-1) (by omega) (by omega);simp[q0,q3,q8,y9,mK,hi];refine aG.call (V:=fun _ h'=>SA P d n o h0 h') (by simpa using Hv (c:=c) Y (lo:=i) (hi:=k) (first:=a) (by omega) hn (by omega) w') ?_;rintro v h2 w2;simp[mK,wi];exact⟨((i:Int)-1+1).toNat,by omega,(i:Int)-1,rfl,by omega,by omega,by simp[q0],by simp[q3],by simp[q8],by simp[q9],by simp[y9],by simp,w2⟩
 .have zi:i= -1:=by omega
  subst zi;simp[y9,mK,w2];refine aB.loop (alJ P d n o c h0 y a k) ?_ (n:=k1+1) ⟨(k1:Int),by omega,by omega,by omega,by simp[q0],by simp[q3],by simp[q8],by simp[q9],by simp,w'⟩;rintro m e2 h2⟨i,rfl,JE,AS,q0,q3,q8,q9,lI,w2⟩;unfold eW;by_cases hi:0<=i
  .obtain⟨i,rfl⟩:∃i':Nat,i=i':=⟨i.toNat,by omega⟩;have wi:=wrap_i64 ((i:Int)-1) (by omega) (by omega);obtain⟨j,hj⟩:∃j,j=a+i:=⟨_,rfl⟩;have wj:IntKind.i64.wrap ((a:Int)+(i:Int))=(j:Int):=by rw[wrap_i64 _ (by omega) (by omega)];omega
   have Bh:a<n:=by omega
   have GS:j<n:=by omega
   obtain⟨g,xs,s,hb,hl,hP⟩:=id w2;obtain⟨x,hx⟩:=aE xs a;obtain⟨z,hz⟩:=aE xs j;have rx:=bJ hb hx;have rz:=bJ hb hz;have l1:a*3+3<=xs.length*3:=by omega
   have l2:j*3+3<=xs.length*3:=by omega
   have sp:=gh xs a z (by omega);simp[q0,q3,q8,q9,lI,wj,Bh,GS,rx,rz,ay,hb,l1,l2,sp,-ag];have w3:=SA.swap (h:=tick h2) g.tick hb hl hP hx hz;refine aG.call (V:=fun _ h'=>SA P d n o h0 h') (by simpa using Hv (c:=c) Y (lo:=0) (hi:=i) (first:=a) (by omega) hn (by omega) w3) ?_;rintro v h4 w4;simp[lI,wi];exact⟨((i:Int)-1+1).toNat,by omega,(i:Int)-1,rfl,by omega,by omega,by simp[q0],by simp[q3],by simp[q8],by simp[q9],by simp,w4⟩
  .have zi:i= -1:=by omega
   subst zi;simp[lI];exact w2
end
section
variable{P:Int×(Bool×Int)->Prop}{d n o c:Nat}{h0:ae}{y:Value}
structure SW(P:Int×(Bool×Int)->Prop)(d n o:Nat)(h0:ae)(S:Nat)(h:ae):Prop where
 sa:SA P d n o h0 h
 hS:∃(k:Int) (s:Nat),h.tr.get S=some (.aC [.int .i64 k] false 0 s)
 n0:h0.next<=S
 ne:S≠d
theorem SW.bl{h h':ae}{S:Nat}(w:SW P d n o h0 S h)(g:ab aK h h'):SW P d n o h0 S h':=by obtain⟨k,s,hS⟩:=w.hS;exact⟨w.sa.bl g,⟨k,s,g.get w.sa.1.ok hS⟩,w.n0,w.ne⟩
def O2Q(P:Int×(Bool×Int)->Prop)(d n o:Nat)(h0:ae)(S a b:Nat)(v:Value)(h':ae):Prop:=SW P d n o h0 S h'/\((v=.tuple #[.int .i64 a,.int .i64 b])\/v=.tuple #[.int .i64 b,.int .i64 a])
theorem jy(Y:iU y)(ha:a<n)(hb:b<n)(w:SW P d n o h0 S h):
  aF FF fY [.slice (some ⟨d,0,none⟩) n c,.int .i64 a,.int .i64 b,.pointer (some ⟨S,0,none⟩),y] h (O2Q P d n o h0 S a b):=by
 obtain⟨g,xs,s,CV,hl,hP⟩:=id w.sa;obtain⟨x,hx⟩:=aE xs b;obtain⟨z,hz⟩:=aE xs a;have rx:=bJ CV hx;have rz:=bJ CV hz;refine aF.of mc ?_;unfold fQ;simp[ha,hb,rx,rz,ay,-ag];refine aU.cut (fun h1=>ab aK h h1) ?_ ?_
 .exact(ab.refl g.ok).tick
 intro h1 g1;refine aU.cU (V:=fun v BZ=>(∃c:Int,v=.int .i64 c)/\ab aK h1 BZ) (by simpa using Y h1 x z g1.ok) ?_;rintro _ h2⟨⟨cv,rfl⟩,g2⟩;have w2:=(w.bl g1).bl g2;by_cases hc:cv<0
 .obtain⟨k,sk,hS⟩:=w2.hS;simp[hc,hS];have gw:=aQ w2.sa.1.ok hS (off:=0) (vs:=[.int .i64 (IntKind.i64.wrap (k+1))]);obtain⟨gg,pU,s2,cA,sE,IA⟩:=id w2.sa;refine⟨⟨⟨gg.trans' gw (fun _ _ h=>h) (fun x hx e=>by have:=w2.n0;omega),pU,s2,gw.get gg.ok cA (fun e=>w2.ne e.symm),sE,IA⟩,⟨_,_,by rw[aD];rfl⟩,w2.n0,w2.ne⟩,.inr rfl⟩
 .simp[hc];exact⟨w2,.inl rfl⟩
def af9(P:Int×(Bool×Int)->Prop)(d n o:Nat)(h0:ae)(S a b k:Nat)(v:Value)(h':ae):Prop:=SW P d n o h0 S h'/\∃r:Nat,v=.int .i64 r/\(r=a\/r=b\/r=k)
theorem Lo(Y:iU y)(ha:a<n)(hb:b<n)(hk:k<n)(w:SW P d n o h0 S h):
  aF FF fW [.slice (some ⟨d,0,none⟩) n c,.int .i64 a,.int .i64 b,.int .i64 k,.pointer (some ⟨S,0,none⟩),y] h (af9 P d n o h0 S a b k):=by
 refine aF.of ma ?_;unfold fP;simp;have auR:∀(a b:Nat)(e:Env)(h:ae),a<n->b<n->SW P d n o h0 S h->True:=fun _ _ _ _ _ _ _=>trivial;refine aG.call (V:=O2Q P d n o h0 S a b) (by simpa using jy Y ha hb w) ?_;rintro _ h1⟨w1,rfl|rfl⟩
 .simp;refine aG.call (V:=O2Q P d n o h0 S b k) (by simpa using jy Y hb hk w1) ?_;rintro _ h2⟨w2,rfl|rfl⟩
  .simp;refine aG.call (V:=O2Q P d n o h0 S a b) (by simpa using jy Y ha hb w2) ?_;rintro _ h3⟨w3,rfl|rfl⟩
   .simp;exact⟨w3,b,rfl,by simp⟩
   .simp;exact⟨w3,a,rfl,by simp⟩
  .simp;refine aG.call (V:=O2Q P d n o h0 S a k) (by simpa using jy Y ha hk w2) ?_;rintro _ h3⟨w3,rfl|rfl⟩
   .simp;exact⟨w3,k,rfl,by simp⟩
   .simp;exact⟨w3,a,rfl,by simp⟩
 .simp;refine aG.call (V:=O2Q P d n o h0 S a k) (by simpa using jy Y ha hk w1) ?_;rintro _ h2⟨w2,rfl|rfl⟩
  .simp;refine aG.call (V:=O2Q P d n o h0 S b a) (by simpa using jy Y hb ha w2) ?_;rintro _ h3⟨w3,rfl|rfl⟩
   .simp;exact⟨w3,a,rfl,by simp⟩
   .simp;exact⟨w3,b,rfl,by simp⟩
  .simp;refine aG.call (V:=O2Q P d n o h0 S b k) (by simpa using jy Y hb hk w2) ?_;rintro _ h3⟨w3,rfl|rfl⟩
   .simp;exact⟨w3,k,rfl,by simp⟩
   .simp;exact⟨w3,b,rfl,by simp⟩
def CpQ(P:Int×(Bool×Int)->Prop)(d n o a b:Nat)(h0:ae)(v:Value)(h':ae):Prop:=SA P d n o h0 h'/\∃(j:Nat) (t:Int),v=.tuple #[.int .i64 j,.int .i64 t]/\a<=j/\j<b
theorem Sv(yT:a+8<=b)(lq:b<=n)(hn:n<50):∃l q q2 q3 i j k:Nat,IntKind.i64.wrap ((b:Int)-(a:Int))=(l:Int)/\IntKind.i64.wrap ((l:Int)/4)=(q:Int)/\IntKind.i64.wrap (q:Int)=(q:Int)/\IntKind.i64.wrap ((q:Int)*2)=(q2:Int)/\IntKind.i64.wrap ((q:Int)*3)=(q3:Int)/\
  IntKind.i64.wrap ((a:Int)+(q:Int))=(i:Int)/\IntKind.i64.wrap ((a:Int)+(q2:Int))=(j:Int)/\IntKind.i64.wrap ((a:Int)+(q3:Int))=(k:Int)/\(8:Int)<=l/\¬(50:Int)<=l/\(a<=i/\i<b)/\(a<=j/\j<b)/\(a<=k/\k<b):=by
 obtain⟨l,hl⟩:∃l,l=b-a:=⟨_,rfl⟩;have w1:IntKind.i64.wrap ((b:Int)-(a:Int))=(l:Int):=by rw[wrap_i64 _ (by omega) (by omega)];omega
 obtain⟨q,hq⟩:∃q,q=l/4:=⟨_,rfl⟩;have w2:IntKind.i64.wrap ((l:Int)/4)=(q:Int):=by rw[wrap_i64 _ (by omega) (by omega)];omega
 have w3:IntKind.i64.wrap (q:Int)=(q:Int):=wrap_i64 _ (by omega) (by omega);obtain⟨q2,Vu⟩:∃q2,q2=q*2:=⟨_,rfl⟩;obtain⟨q3,hq3⟩:∃q3,q3=q*3:=⟨_,rfl⟩;have w4:IntKind.i64.wrap ((q:Int)*2)=(q2:Int):=by rw[wrap_i64 _ (by omega) (by omega)];omega
 have w5:IntKind.i64.wrap ((q:Int)*3)=(q3:Int):=by rw[wrap_i64 _ (by omega) (by omega)];omega
 obtain⟨i,hi⟩:∃i,i=a+q:=⟨_,rfl⟩;obtain⟨j,hj⟩:∃j,j=a+q2:=⟨_,rfl⟩;obtain⟨k,hk⟩:∃k,k=a+q3:=⟨_,rfl⟩;have w6:IntKind.i64.wrap ((a:Int)+(q:Int))=(i:Int):=by rw[wrap_i64 _ (by omega) (by omega)];omega
 have w7:IntKind.i64.wrap ((a:Int)+(q2:Int))=(j:Int):=by rw[wrap_i64 _ (by omega) (by omega)];omega
 have w8:IntKind.i64.wrap ((a:Int)+(q3:Int))=(k:Int):=by rw[wrap_i64 _ (by omega) (by omega)];omega
 have h8:(8:Int)<=l:=by omega
 have h50:¬(50:Int)<=l:=by omega
 exact⟨l,q,q2,q3,i,j,k,w1,w2,w3,w4,w5,w6,w7,w8,h8,h50,⟨by omega,by omega⟩,⟨by omega,by omega⟩,⟨by omega,by omega⟩⟩
theorem OB(Y:iU y)(hdh:h0.next<=h.next)(yT:a+8<=b)(lq:b<=n)(hn:n<50)(w:SA P d n o h0 h):
  aF FF eM [.slice (some ⟨d,0,none⟩) n c,.int .i64 a,.int .i64 b,y] h (CpQ P d n o a b h0):=by
 obtain⟨l,q,q2,q3,i,j,k,w1,w2,w3,w4,w5,w6,w7,w8,h8,h50,⟨i1,i2⟩,⟨j1,j2⟩,k1,k2⟩:=Sv yT lq hn;obtain⟨g,xs,s,CV,rV,hP⟩:=id w;have ld:=(g.ok.bC CV).lt;refine aF.of jL ?_;unfold eE;simp[w1,w2,w3,w4,w5,w6,w7,w8,h8,h50];refine aG.cut (fun h1=>SW P d n o h0 h.next h1) ?_ ?_
 .have gn:ab aK h (aJ h [.int .i64 0] 0):=(ab.refl g.ok).new _ _;exact⟨w.bl gn,⟨0,0,by simp⟩,hdh,by omega⟩
 intro h1 w1;refine aG.call (V:=af9 P d n o h0 h.next i j k) (by simpa using Lo (c:=c) Y (Ix i2 lq) (Ix j2 lq) (Ix k2 lq) w1) ?_;rintro _ h2⟨w2,r,rfl,hr⟩;have rP:a<=r:=by rcases hr with rfl|rfl|rfl<;>assumption
 have Bm:r<b:=by rcases hr with rfl|rfl|rfl<;>assumption
 clear w3 w4 w5 w6 w7 w8 h8 h50;obtain⟨sw,ss,hS⟩:=w2.hS;by_cases e0:sw=0
 .subst e0;simp[hS];exact⟨w2.sa,r,1,rfl,rP,Bm⟩
 .have e0':(sw==0)=false:=by simpa using e0
  by_cases e12:sw=12
  .subst e12;simp[hS];exact⟨w2.sa,r,2,rfl,rP,Bm⟩
  .have am0:(sw==12)=false:=by simpa using e12
   simp[hS,e0',am0,e0,e12];exact⟨w2.sa,r,(0:Int),rfl,rP,Bm⟩
def PiI(P:Int×(Bool×Int)->Prop)(d n o c:Nat)(h0:ae)(y:Value)(a b:Nat)(m:Nat)(e:Env)(h':ae):Prop:=
 ∃i:Nat,m=b-i/\a<i/\i<=b/\ak e 0=.slice (some ⟨d,0,none⟩) n c/\ak e 1=.int .i64 a/\ak e 2=.int .i64 b/\ak e 3=y/\ak e 9=.int .i64 i/\SA P d n o h0 h'
def agf(P:Int×(Bool×Int)->Prop)(d n o:Nat)(h0:ae)(v:Value)(h':ae):Prop:=SA P d n o h0 h'/\∃t:Bool,v=.bool t
theorem I9(Y:iU y)(yT:a<b)(lq:b<=n)(hn:n<50)(w:SA P d n o h0 h):
  aF FF du [.slice (some ⟨d,0,none⟩) n c,.int .i64 a,.int .i64 b,y] h (agf P d n o h0):=by
 have w0:=wrap_i64 ((a:Int)+1) (by omega) (by omega);have w1:=wrap_i64 ((b:Int)-(a:Int)) (by omega) (by omega);refine aF.of gi ?_;unfold dq;simp[w0];rw[nz];unfold df;simp;refine aB.loop (PiI P d n o c h0 y a b) ?_ (n:=b-(a+1)) ⟨a+1,rfl,by omega,by omega,by simp,by simp,by simp,by simp,by simp,w⟩;rintro m e' h'⟨i,rfl,U6,PO,q0,q1,q2,q3,q9,w'⟩;obtain⟨g,xs,s,hb,hl,hP⟩:=id w';unfold de;have dS:(b:Int)-(a:Int)<50:=by omega
 by_cases hi:i<b
 .obtain⟨k,hk⟩:∃k,k=i-1:=⟨_,rfl⟩;have wk:IntKind.i64.wrap ((i:Int)-1)=(k:Int):=by rw[wrap_i64 _ (by omega) (by omega)];omega
  have wi:=wrap_i64 ((i:Int)+1) (by omega) (by omega);have zY:i<n:=by omega
  have zZ:k<n:=by omega
  obtain⟨x,hx⟩:=aE xs i;obtain⟨z,hz⟩:=aE xs k;have rx:=bJ hb hx;have rz:=bJ hb hz;simp[q0,q2,q3,q9,hi,zY,zZ,wk,rx,rz,ay,-ag];refine aU.cut (fun h1=>ab aK h' h1) ?_ ?_
  .exact(ab.refl g.ok).tick
  intro h1 g1;refine aU.cU (V:=fun v BZ=>(∃c:Int,v=.int .i64 c)/\ab aK h1 BZ) (by simpa [q3] using Y h1 x z g1.ok) ?_;rintro _ h2⟨⟨cv,rfl⟩,g2⟩;have w2:=(w'.bl g1).bl g2;by_cases hc:cv<0
  .have cq:((i:Int)==(b:Int))=false:=by simp;omega
   simp[hc,q1,q2,q9,cq,w1,dS];exact⟨w2,_,rfl⟩
  .simp[hc,q9,wi];exact⟨b-(i+1),by omega,i+1,rfl,by omega,by omega,by simp[q0],by simp[q1],by simp[q2],by simp[q3],by simp,w2⟩
 .have PO:i=b:=by omega
  subst PO;simp[q2,q9];exact⟨w'.bl ((ab.refl g.ok).tick),_,rfl⟩
end
def IY:ByteArray:=⟨⟨[0,1,2,2,3,3,3,3,4,4,4,4,4,4,4,4,5,5,5,5,5,5,5,5,5,5,5,5,5,5,5,5,6,6,6,6,6,6,6,6,6,6,6,6,6,6,6,6,6,6,6,6,6,6,6,6,6,6,6,6,6,6,6,6,7,7,7,7,7,7,7,7,7,7,7,7,7,7,7,7,7,7,7,7,7,7,7,7,7,7,7,7,7,7,7,7,7,7,7,7,7,7,7,7,7,7,7,7,7,7,7,7,7,7,7,7,7,7,7,7,7,7,7,7,7,7,7,7,8,8,8,8,8,8,8,8,8,8,8,8,8,8,8,8,8,8,8,8,8,8,8,8,8,8,8,8,8,8,8,8,8,8,8,8,8,8,8,8,8,8,8,8,8,8,8,8,8,8,8,8,8,8,8,8,8,8,8,8,8,8,8,8,8,8,8,8,8,8,8,8,8,8,8,8,8,8,8,8,8,8,8,8,8,8,8,8,8,8,8,8,8,8,8,8,8,8,8,8,8,8,8,8,8,8,8,8,8,8,8,8,8,8,8,8,8,8,8,8,8,8,8,8,8,8,8,8]⟩⟩
def lenOf(n:Nat):Nat:=if n=0 then 0 else if n<2 then 1 else if n<4 then 2 else if n<8 then 3 else if n<16 then 4 else if n<32 then 5 else 6
def abz(n:Nat):Bool:=match IY[n]? with
 |some u=>u.toNat==lenOf n
 |none=>false
theorem Oi:(List.range 64).all abz=true:=by kernel_rfl
theorem RT(h:n<64):∃u,IY[n]?=some u/\u.toNat=lenOf n:=by
 have:=List.all_eq_true.1 Oi n (Kw.2 h);unfold abz at this;split at this
 .rename_i u hu;exact⟨u,hu,by simpa using this⟩
 .cases this
def VX(t:ByteArray):aq:=(G_ [k_ 2 0] (J_ (G_ [m_ 3 0,o_ 4 (.bin .geq [] (t_ 3) (.const (.int .u64 4294967296)))] (I_ 4 (G_ [m_ 5 0,o_ 6 (.bin .shr [] (t_ 5) (.const (.int .u64 32))),m_ 0 6] (O_ [k_ 2 32])) .skip)) (J_ (G_ [m_ 7 0,o_ 8 (.bin .geq [] (t_ 7) (.const (.int .u64 65536)))] (I_ 8 (G_ [m_ 9 0,o_ 10 (.bin .shr [] (t_ 9) (.const (.int .u64 16))),m_ 0 10] (O_ [m_ 11 2,C_ 12 .add 11 16,m_ 2 12])) .skip)) (J_ (G_ [m_ 13 0,o_ 14 (.bin .geq [] (t_ 13) (.const (.int .u64 256)))] (I_ 14 (G_ [m_ 15 0,o_ 16 (.bin .shr [] (t_ 15) (.const (.int .u64 8))),m_ 0 16] (O_ [m_ 17 2,C_ 18 .add 17 8,m_ 2 18])) .skip)) (G_ [m_ 19 2,m_ 20 0,o_ 21 (.conv .u8 (t_ 20)),o_ 22 (.index none (.const (.string t)) (t_ 21)),o_ 23 (.conv .i64 (t_ 22)),B_ 24 .add 19 23,m_ 2 24] .ret)))))
theorem YG:FF mj=some ⟨[.tmp 2],VX IY,.no⟩:=zG
theorem wrap_u8(n:Int)(h:0<=n)(h':n<256):IntKind.u8.wrap n=n:=by simp only[IntKind.wrap,IntKind.signed,IntKind.bits];simp;omega
theorem Ac(n:Nat):lenOf n<=6:=by
 unfold lenOf
 repeat (split;omega)
 omega
theorem Oh(h:ae)(n:Nat)(hn:n<64):aF FF mj [.int .u64 (n:Nat)] h (fun v h'=>v=.int .i64 (lenOf n)/\h'=h):=by
 obtain⟨u,hu,hu2⟩:=RT hn;have hl:=Ac n;have w1:=wrap_u8 (n:Int) (by omega) (by omega);have w2:=wrap_i64 (lenOf n:Int) (by omega) (by omega);have c1:¬(4294967296:Int)<=n:=by omega
 have c2:¬(65536:Int)<=n:=by omega
 have c3:¬(256:Int)<=n:=by omega
 refine aF.of YG ?_;generalize IY=t at hu;unfold VX;simp[c1,c2,c3,w1,w2,hu,hu2]
theorem Eh(h:ae)(n:Nat)(hn:n<64):aF FF vk [.int .u64 (n:Nat)] h (fun v h'=>v=.int .i64 (lenOf n)/\h'=h):=by refine aF.of CE ?_;unfold vb;simp;rw[xm (t:=false) rfl];simp;refine aG.call (V:=fun v h'=>v=.int .i64 (lenOf n)/\h'=h) (by simpa using Oh h n hn) ?_;rintro _ h'⟨rfl,rfl⟩;simp
theorem WW(h:ae)(n:Nat)(hn:n<64):aF FF lu [.int .i64 (n:Nat)] h (fun v h'=>v=.int .u64 ((2^lenOf n:Nat):Int)/\h'=h):=by
 have w:=gX (n:Int) (by omega) (by omega);have hl:=Ac n;refine aF.of tO ?_;unfold kW;simp[w];refine aG.call (V:=fun v h'=>v=.int .i64 (lenOf n)/\h'=h) (by simpa using Eh h n hn) ?_;rintro _ h'⟨rfl,rfl⟩;generalize lenOf n=k at*;have s0:∀k:Nat,k<=6->jJ .shl .u64 1 (k:Int)=some (.int .u64 (2^k)):=by intro k hk;rcases(show k=0\/k=1\/k=2\/k=3\/k=4\/k=5\/k=6 by omega) with rfl|rfl|rfl|rfl|rfl|rfl|rfl<;>rfl
 have s1:=s0 k hl;simp[s1]
def NxQ(h:ae)(R:Nat)(v:Value)(h':ae):Prop:=(∃x:Int,v=.int .u64 x)/\ab (· =R) h h'/\∃(x:Int) (s:Nat),h'.tr.get R=some (.aC [.int .u64 x] false 0 s)
theorem R7(ok:bm h){x:Int}(hR:h.tr.get R=some (.aC [.int .u64 x] false 0 s)):aF FF mn [.pointer (some ⟨R,0,none⟩)] h (NxQ h R):=by refine aF.of uE ?_;unfold lO;have sh:∀x:Int,∃z,jJ .shl .u64 x 13=some (.int .u64 z):=fun x=>⟨_,rfl⟩;have sr:∀x:Int,∃z,jJ .shr .u64 x 7=some (.int .u64 z):=fun x=>⟨_,rfl⟩;have sl:∀x:Int,∃z,jJ .shl .u64 x 17=some (.int .u64 z):=fun x=>⟨_,rfl⟩;have xo:∀x z:Int,∃w,fq .xor .u64 x z=some (.int .u64 w):=fun x z=>⟨_,rfl⟩;obtain⟨a1,e1⟩:=sh x;obtain⟨a2,e2⟩:=xo x a1;obtain⟨a3,e3⟩:=sr a2;obtain⟨a4,e4⟩:=xo a2 a3;obtain⟨a5,e5⟩:=sl a4;obtain⟨a6,e6⟩:=xo a4 a5;simp[hR,e1,e2,e3,e4,e5,e6,-fq];have gt:ab aK h (tick h):=(ab.refl ok).tick;have g1:ab (· =R) h (put (tick h) R 0 [.int .u64 x] [.int .u64 a2] 0):=gt.bl.trans (aQ gt.ok hR);have h1:(put (tick h) R 0 [.int .u64 x] [.int .u64 a2] 0).tr.get R=some (.aC [.int .u64 a2] false 0 (tick h).clock):=aD _ _ _ _ _ _;have g2:=(g1.tick).trans (aQ g1.tick.ok h1 (off:=0) (vs:=[.int .u64 a4]));have h2:(put (tick (put (tick h) R 0 [.int .u64 x] [.int .u64 a2] 0)) R 0 [.int .u64 a2] [.int .u64 a4] 0).tr.get R=some (.aC [.int .u64 a4] false 0 (tick (put (tick h) R 0 [.int .u64 x] [.int .u64 a2] 0)).clock):=aD _ _ _ _ _ _;have g3:=(g2.tick).trans (aQ g2.tick.ok h2 (off:=0) (vs:=[.int .u64 a6]));exact⟨⟨a6,rfl⟩,g3,a6,_,aD _ _ _ _ _ _⟩
section
variable{P:Int×(Bool×Int)->Prop}{d n o c:Nat}{h0:ae}{y:Value}
theorem acb(x:Int)(k:Nat)(hk:k<=6):∃r:Nat,fq .and .u64 x ((2^k:Nat)-1:Int)=some (.int .u64 r)/\r<2^k:=by
 have e:(BitVec.ofInt 64 ((2^k:Nat)-1:Int)).toNat=2^k-1:=by rcases(show k=0\/k=1\/k=2\/k=3\/k=4\/k=5\/k=6 by omega) with rfl|rfl|rfl|rfl|rfl|rfl|rfl<;>decide
 have hle:2^k<=64:=by rcases(show k=0\/k=1\/k=2\/k=3\/k=4\/k=5\/k=6 by omega) with rfl|rfl|rfl|rfl|rfl|rfl|rfl<;>decide
 have hp:0<2^k:=Nat.two_pow_pos k;have ha:(BitVec.ofInt 64 x &&& BitVec.ofInt 64 ((2^k:Nat)-1:Int)).toNat<2^k:=by rw[BitVec.toNat_and,e];have:=Nat.and_le_right (n:=(BitVec.ofInt 64 x).toNat) (m:=2^k-1);omega
 refine⟨(BitVec.ofInt 64 x &&& BitVec.ofInt 64 ((2^k:Nat)-1:Int)).toNat,?_,ha⟩;show some (Value.int .u64 (IntKind.u64.wrap ((BitVec.ofInt 64 x &&& BitVec.ofInt 64 ((2^k:Nat)-1:Int)).toNat:Int)))=_;rw[gX _ (by omega) (by omega)]
structure SR(P:Int×(Bool×Int)->Prop)(d n o:Nat)(h0:ae)(R:Nat)(h:ae):Prop where
 sa:SA P d n o h0 h
 hR:∃(x:Int) (s:Nat),h.tr.get R=some (.aC [.int .u64 x] false 0 s)
 n0:h0.next<=R
 ne:R≠d
def BpI(P:Int×(Bool×Int)->Prop)(d n o c:Nat)(h0:ae)(R a l M q:Nat)(m:Nat)(e:Env)(h':ae):Prop:=
 ∃i:Nat,m=a+q+2-i/\a+q<=i+1/\i<=a+q+2/\ak e 0=.slice (some ⟨d,0,none⟩) n c/\ak e 1=.int .i64 a/\ak e 8=.int .i64 l/\ak e 9=.pointer (some ⟨R,0,none⟩)/\ak e 10=.int .u64 (M:Int)/\ak e 11=.int .i64 i/\SR P d n o h0 R h'
def MX:aq:=(J_ (G_ [m_ 43 12,m_ 44 8,B_ 45 .geq 43 44] (I_ 45 (O_ [m_ 46 12,m_ 47 8,B_ 48 .sub 46 47,m_ 12 48]) .skip)) (V_ [m_ 49 0,m_ 50 11,m_ 51 0,m_ 52 1,m_ 53 12,B_ 54 .add 52 53,m_ 55 0,m_ 56 1,m_ 57 12,B_ 58 .add 56 57,a_ 59 3 55 58,L_ 60 3 59,m_ 61 0,m_ 62 11,a_ 63 3 61 62,L_ 64 3 63,a_ 65 3 49 50,s_ 3 65 60,a_ 66 3 51 54,s_ 3 66 64]))
theorem Ul:dO=.seq (G_ [m_ 28 11,m_ 29 1,m_ 30 8,C_ 31 .quo 30 4,C_ 32 .mul 31 2,B_ 33 .add 29 32,C_ 34 .add 33 1,B_ 35 .leq 28 34] (H_ 35 0)) (J_ (P_ 1 (G_ [F_ 38 279 [t_ 9],m_ 39 10,o_ 40 (.bin .sub [] (t_ 39) (.const (.int .u64 1))),B_ 41 .and 38 40,o_ 42 (.conv .i64 (t_ 41)),m_ 12 42] MX)) (O_ [m_ 36 11,C_ 37 .add 36 1,m_ 11 37])):=rfl
theorem YF{R a l r i:Nat}(hl:a+l<=n)(hn:n<50)(hr:r<2*l)(hi:i<n)(w:SR P d n o h0 R h)(q0:ak e 0=.slice (some ⟨d,0,none⟩) n c)(q1:ak e 1=.int .i64 a)(q8:ak e 8=.int .i64 l)(mK:ak e 11=.int .i64 i)(lI:ak e 12=.int .i64 r)(C:∀e' h',SR P d n o h0 R h'->aA [12,43,44,45,46,47,48,49,50,51,52,53,54,55,56,57,58,59,60,61,62,63,64,65,66] e e'->QQ .normal e' h'):aB FF MX e h QQ:=by
 obtain⟨x3,s3,zh⟩:=w.hR;obtain⟨r2,Bm,hr2l⟩:∃r2:Nat,(if l<=r then(r2:Int)=(r:Int)-(l:Int) else r2=r)/\r2<l:=by
  by_cases h:l<=r
  .exact⟨r-l,by rw[aZ h];omega,by omega⟩
  .exact⟨r,by rw[aW h],by omega⟩
 obtain⟨j,hj⟩:∃j,j=a+r2:=⟨_,rfl⟩;have wj:IntKind.i64.wrap ((a:Int)+(r2:Int))=(j:Int):=by rw[wrap_i64 _ (by omega) (by omega)];omega
 have GS:j<n:=by omega
 obtain⟨g2,pU,s2,cA,sE,IA⟩:=id w.sa;obtain⟨x,hx⟩:=aE pU i;obtain⟨z,hz⟩:=aE pU j;have rdx:=bJ cA hx;have rdz:=bJ cA hz;have l1:i*3+3<=pU.length*3:=by omega
 have l2:j*3+3<=pU.length*3:=by omega
 have sp:=gh pU i z (by omega);have sw:=SA.swap (h:=tick h) g2.tick cA sE IA hx hz;have gsw:ab (· =d) h (put (put (tick h) d (i*3) (lD.flat pU) [.int .i64 z.1,.bool z.2.1,.int .i64 z.2.2] o) d (j*3) (lD.flat (pU.set i z)) [.int .i64 x.1,.bool x.2.1,.int .i64 x.2.2] o):=by have gt:ab aK h (tick h):=(ab.refl g2.ok).tick;have g4:=gt.bl.trans (aQ gt.ok (b:=d) cA (off:=i*3) (vs:=[.int .i64 z.1,.bool z.2.1,.int .i64 z.2.2]));exact g4.trans (aQ g4.ok (by rw[aD,sp]))
 have SRf:SR P d n o h0 R (put (put (tick h) d (i*3) (lD.flat pU) [.int .i64 z.1,.bool z.2.1,.int .i64 z.2.2] o) d (j*3) (lD.flat (pU.set i z)) [.int .i64 x.1,.bool x.2.1,.int .i64 x.2.2] o):=⟨sw,⟨x3,s3,gsw.get g2.ok zh w.ne⟩,w.n0,w.ne⟩;unfold MX;by_cases vj:l<=r
 .rw[aZ vj] at Bm;have w10:IntKind.i64.wrap ((r:Int)-(l:Int))=(r2:Int):=by rw[wrap_i64 _ (by omega) (by omega)];omega
  simp[q0,q1,q8,mK,lI,vj,w10,wj,hi,GS,rdx,rdz,ay,cA,l1,l2,sp,-ag];refine C _ _ SRf ?_
  repeat (refine aA.set ?_)
  exact aA.refl _ _
 .rw[aW vj] at Bm;subst Bm;simp[q0,q1,q8,mK,lI,vj,wj,hi,GS,rdx,rdz,ay,cA,l1,l2,sp,-ag];refine C _ _ SRf ?_
  repeat (refine aA.set ?_)
  exact aA.refl _ _
theorem MY(hdh:h0.next<=h.next)(yT:a+13<=b)(lq:b<=n)(hn:n<50)(w:SA P d n o h0 h):
  aF FF eg [.slice (some ⟨d,0,none⟩) n c,.int .i64 a,.int .i64 b,y] h (fun _ h'=>SA P d n o h0 h'):=by
 obtain⟨l,hl⟩:∃l,l=b-a:=⟨_,rfl⟩;have w1:IntKind.i64.wrap ((b:Int)-(a:Int))=(l:Int):=by rw[wrap_i64 _ (by omega) (by omega)];omega
 obtain⟨q4,hq4⟩:∃q,q=l/4:=⟨_,rfl⟩;have w2:IntKind.i64.wrap ((l:Int)/4)=(q4:Int):=by rw[wrap_i64 _ (by omega) (by omega)];omega
 obtain⟨q,hq⟩:∃q,q=q4*2:=⟨_,rfl⟩;have w3:IntKind.i64.wrap ((q4:Int)*2)=(q:Int):=by rw[wrap_i64 _ (by omega) (by omega)];omega
 have w4:IntKind.i64.wrap ((a:Int)+(q:Int))=((a+q:Nat):Int):=by rw[wrap_i64 _ (by omega) (by omega)];omega
 obtain⟨i0,hi0⟩:∃i,i=a+q-1:=⟨_,rfl⟩;have w5:IntKind.i64.wrap (((a+q:Nat):Int)-1)=(i0:Int):=by rw[wrap_i64 _ (by omega) (by omega)];omega
 have w6:=gX (l:Int) (by omega) (by omega);have h8:(8:Int)<=l:=by omega
 have hk6:=Ac l;have aps:=fun h=>WW h l (by omega);have AT:2^lenOf l<=2*l:=by
  unfold lenOf
  repeat (split;omega)
  omega
 have Zs:q+2<=l:=by omega
 have Vu:1<=a+q:=by omega
 clear hq4 hq;generalize lenOf l=k at*;have hand:∀x:Int,∃r:Nat,fq .and .u64 x ((2^k:Nat)-1:Int)=some (.int .u64 r)/\r<2^k:=fun x=>acb x k hk6;have hMp:=Nat.two_pow_pos k;generalize 2^k=M at*;obtain⟨g,xs,s,CV,rV,hP⟩:=id w;have ld:=(g.ok.bC CV).lt;refine aF.of iZ ?_;unfold ec;simp[w1,h8,w6];refine aG.cut (fun h1=>SR P d n o h0 h.next h1) ?_ ?_
 .have gn:ab aK h (put (aJ h [.int .u64 0] 0) h.next 0 [.int .u64 0] [.int .u64 l] 0):=(ab.refl g.ok).var _ _;exact⟨w.bl gn,⟨_,_,aD _ _ _ _ _ _⟩,hdh,by omega⟩
 intro h1 w1';refine aG.call (V:=fun v h'=>v=.int .u64 (M:Int)/\h'=h1) (by simpa using aps h1) ?_;rintro _ h2⟨rfl,e2⟩;rw[e2];have w4':IntKind.i64.wrap ((a:Int)+(q:Int))=(a:Int)+(q:Int):=by rw[w4];omega
 have w5':IntKind.i64.wrap ((a:Int)+(q:Int)-1)=(i0:Int):=by rw[<-w5];congr 1
 simp[w2,w3,w4',w5'];refine aB.loop (BpI P d n o c h0 h.next a l M q) ?_ (n:=a+q+2-i0) ⟨i0,rfl,by omega,by omega,by simp,by simp,by simp,by simp,by simp,by simp,w1'⟩;rintro m e' h'⟨i,rfl,JE,AS,q0,q1,q8,q9,y9,mK,w'⟩;have w7:IntKind.i64.wrap ((a:Int)+(q:Int)+1)=(a:Int)+(q:Int)+1:=wrap_i64 _ (by omega) (by omega);rw[Ul];by_cases hi:i<=a+q+1
 .have zi:(i:Int)<=(a:Int)+(q:Int)+1:=by omega
  obtain⟨x,sx,hR⟩:=w'.hR;simp[q1,q8,q9,mK,w2,w3,w4',w7,zi];refine aG.call (V:=NxQ h' h.next) (by simpa [q9] using R7 w'.sa.1.ok hR) ?_;rintro _ h3⟨⟨rx,rfl⟩,g3,x3,s3,zh⟩;have sa3:SA P d n o h0 h3:=by obtain⟨gg,pU,s2,cA,sE,IA⟩:=w'.sa;exact⟨gg.trans' g3 (fun _ _ h=>h) (fun x hx e=>by have:=w'.n0;omega),pU,s2,g3.get gg.ok cA (fun e=>w'.ne e.symm),sE,IA⟩
  obtain⟨r,hr,hrk⟩:=hand rx;have w8:IntKind.u64.wrap ((M:Int)-1)=(M:Int)-1:=gX _ (by omega) (by omega);have w9:IntKind.i64.wrap (r:Int)=(r:Int):=wrap_i64 _ (by omega) (by omega);have hs1:fq .sub .u64 (M:Int) 1=some (.int .u64 ((M:Int)-1)):=by simp[w8]
  have wi:=wrap_i64 ((i:Int)+1) (by omega) (by omega);simp[y9,hs1,hr,w9,-fq];refine YF (a:=a) (l:=l) (r:=r) (i:=i) (R:=h.next) (c:=c) (by omega) hn (by omega) (by omega) ⟨sa3,⟨x3,s3,zh⟩,w'.n0,w'.ne⟩ (by simp[q0]) (by simp[q1]) (by simp[q8]) (by simp[mK]) (by simp) ?_;intro e4 h4 w4 K4;have k0:=K4.at (t:=0) (by simp;exact q0);have k1:=K4.at (t:=1) (by simp;exact q1);have k8:=K4.at (t:=8) (by simp;exact q8);have k9:=K4.at (t:=9) (by simp;exact q9);have k10:=K4.at (t:=10) (by simp;exact y9);have k11:=K4.at (t:=11) (by simp;exact mK);simp[k11,wi];exact⟨a+q+2-(i+1),by omega,i+1,rfl,by omega,by omega,by simp[k0],by simp[k1],by simp[k8],by simp[k9],by simp[k10],by simp,w4⟩
 .have zi:¬(i:Int)<=(a:Int)+(q:Int)+1:=by omega
  simp[q1,q8,mK,w2,w3,w4',w7,zi];exact w'.sa
end
def pdF:aq:=(G_ [m_ 38 10,o_ 39 (.un .not (t_ 38))] (I_ 39 (G_ [m_ 40 0,m_ 41 1,m_ 42 2,m_ 43 4,F_ 44 267 [t_ 40,t_ 41,t_ 42,t_ 43]] (O_ [m_ 45 3,C_ 46 .sub 45 1,m_ 3 46])) .skip))
def pdE:aq:=(O_ [m_ 48 0,m_ 49 1,m_ 50 2,m_ 51 4,F_ 52 268 [t_ 48,t_ 49,t_ 50,t_ 51],m_ 47 52,E_ 53 0 47,E_ 54 1 47,m_ 13 53,m_ 14 54])
def pdD:aq:=(G_ [m_ 55 14,Y_ 56 .eql 55 2] (I_ 56 (G_ [m_ 57 0,m_ 58 1,m_ 59 2,m_ 60 4,F_ 61 269 [t_ 57,t_ 58,t_ 59,t_ 60]] (G_ [m_ 62 2,C_ 63 .sub 62 1,m_ 64 13,m_ 65 1,B_ 66 .sub 64 65,B_ 67 .sub 63 66,m_ 13 67] (O_ [k_ 14 1]))) .skip))
def pdC:aq:=(G_ [m_ 68 10,m_ 69 68,q_ 70 69 true (.mv (t_ 11)),o_ 71 (.pick (t_ 69) (t_ 70) (b_ false)),m_ 72 71,q_ 73 72 true (.mv (t_ 14)),q_ 74 72 true (.bin .eql [1] (t_ 73) (i_ 1)),o_ 75 (.pick (t_ 72) (t_ 74) (b_ false))] (I_ 75 (G_ [m_ 76 0,m_ 77 1,m_ 78 2,m_ 79 4,F_ 80 270 [t_ 76,t_ 77,t_ 78,t_ 79]] (I_ 80 .ret .skip)) .skip))
def pdB:aq:=(J_ (V_ [m_ 81 1,C_ 82 .gtr 81 0,m_ 83 82,q_ 84 83 true (.mv (t_ 4)),q_ 85 83 true (.mv (t_ 0)),q_ 86 83 true (.mv (t_ 1)),q_ 87 83 true (.bin .sub [] (t_ 86) (i_ 1)),q_ 88 83 true (.dt none 3 (t_ 85) (t_ 87)),q_ 89 83 true (.load (some 3) (t_ 88)),q_ 90 83 true (.mv (t_ 0)),q_ 91 83 true (.mv (t_ 13)),q_ 92 83 true (.dt none 3 (t_ 90) (t_ 91)),q_ 93 83 true (.load (some 3) (t_ 92)),q_ 94 83 true (.call (t_ 84) [t_ 89,t_ 93]),q_ 95 83 true (.bin .lss [] (t_ 94) (i_ 0)),q_ 96 83 true (.un .not (t_ 95)),o_ 97 (.pick (t_ 83) (t_ 96) (b_ false))]) (I_ 97 (G_ [m_ 98 0,m_ 99 1,m_ 100 2,m_ 101 13,m_ 102 4,F_ 103 271 [t_ 98,t_ 99,t_ 100,t_ 101,t_ 102],m_ 15 103] (G_ [m_ 104 15,m_ 1 104] (.exit 1))) .skip))
def pdA:aq:=(G_ [m_ 106 0,m_ 107 1,m_ 108 2,m_ 109 13,m_ 110 4,F_ 111 272 [t_ 106,t_ 107,t_ 108,t_ 109,t_ 110],m_ 105 111,E_ 112 0 105,E_ 113 1 105,m_ 16 112,m_ 17 113] (G_ [m_ 114 17,m_ 11 114] (G_ [m_ 115 16,m_ 116 1,B_ 117 .sub 115 116,m_ 118 2,m_ 119 16,B_ 120 .sub 118 119,m_ 18 117,m_ 19 120] (G_ [m_ 121 12,C_ 122 .quo 121 8,m_ 20 122] (G_ [m_ 123 18,m_ 124 19,B_ 125 .lss 123 124] (I_ 125 (G_ [m_ 126 18,m_ 127 20,B_ 128 .geq 126 127,m_ 10 128] (G_ [m_ 129 0,m_ 130 1,m_ 131 16,m_ 132 3,m_ 133 4,F_ 134 244 [t_ 129,t_ 130,t_ 131,t_ 132,t_ 133]] (O_ [m_ 135 16,C_ 136 .add 135 1,m_ 1 136]))) (G_ [m_ 137 19,m_ 138 20,B_ 139 .geq 137 138,m_ 10 139] (G_ [m_ 140 0,m_ 141 16,C_ 142 .add 141 1,m_ 143 2,m_ 144 3,m_ 145 4,F_ 146 244 [t_ 140,t_ 142,t_ 143,t_ 144,t_ 145]] (O_ [m_ 147 16,m_ 2 147])))))))))
theorem WT:dv=.block 1 (G_ [m_ 21 2,m_ 22 1,B_ 23 .sub 21 22,m_ 12 23] (J_ (G_ [m_ 24 12,C_ 25 .leq 24 12] (I_ 25 (G_ [m_ 26 0,m_ 27 1,m_ 28 2,m_ 29 4,F_ 30 265 [t_ 26,t_ 27,t_ 28,t_ 29]] .ret) .skip)) (J_ (G_ [m_ 31 3,o_ 32 (.bin .eql [1] (t_ 31) (i_ 0))] (I_ 32 (G_ [m_ 33 0,m_ 34 1,m_ 35 2,m_ 36 4,F_ 37 266 [t_ 33,t_ 34,t_ 35,t_ 36]] .ret) .skip)) (J_ pdF (J_ pdE (J_ pdD (J_ pdC (J_ pdB pdA)))))))):=rfl
section
variable{P:Int×(Bool×Int)->Prop}{d n o c:Nat}{h0:ae}{y:Value}
structure PQ(d n c:Nat)(y:Value)(a b lim:Nat)(e:Env):Prop where
 f0:ak e 0=.slice (some ⟨d,0,none⟩) n c
 f1:ak e 1=.int .i64 a
 f2:ak e 2=.int .i64 b
 f3:ak e 3=.int .i64 lim
 f4:ak e 4=y
 f10:∃t:Bool,ak e 10=.bool t
 f11:∃t:Bool,ak e 11=.bool t
 f12:ak e 12=.int .i64 ((b-a:Nat):Int)
theorem WS(yT:a+13<=b)(lq:b<=n)(hn:n<50)(hl:0<lim)(sE:lim<=6)(w:SA P d n o h0 h)(E:PQ d n c y a b lim e)(K:∀e' h' ZL,PQ d n c y a b ZL e'->ZL<=6->SA P d n o h0 h'->QQ .normal e' h'):aB FF pdF e h QQ:=by
 obtain⟨f0,f1,f2,f3,f4,⟨t,f10⟩,⟨u,f11⟩,f12⟩:=E;unfold pdF;cases t with
 |true=>
  simp[f10];exact K _ _ lim ⟨by simp[f0],by simp[f1],by simp[f2],by simp[f3],by simp[f4],⟨true,by simp[f10]⟩,⟨u,by simp[f11]⟩,by simp[f12]⟩ sE w
 |false=>
  obtain⟨k,hk⟩:∃k,k=lim-1:=⟨_,rfl⟩;have wk:IntKind.i64.wrap ((lim:Int)-1)=(k:Int):=by rw[wrap_i64 _ (by omega) (by omega)];omega
  simp[f10,f0,f1,f2,f4];refine aG.call (V:=fun _ h'=>SA P d n o h0 h') (by simpa using MY (c:=c) (y:=y) w.1.next yT lq hn w) ?_;rintro v h2 w2;simp[f3,wk];exact K _ _ k ⟨by simp[f0],by simp[f1],by simp[f2],by simp,by simp[f4],⟨false,by simp[f10]⟩,⟨u,by simp[f11]⟩,by simp[f12]⟩ (by omega) w2
theorem WQ(Y:iU y)(yT:a+13<=b)(lq:b<=n)(hn:n<50)(w:SA P d n o h0 h)(E:PQ d n c y a b lim e)(K:∀e' h' (j:Nat) (t:Int),PQ d n c y a b lim e'->ak e' 13=.int .i64 j->ak e' 14=.int .i64 t->a<=j->j<b->SA P d n o h0 h'->QQ .normal e' h'):aB FF pdE e h QQ:=by obtain⟨f0,f1,f2,f3,f4,⟨t,f10⟩,⟨u,f11⟩,f12⟩:=E;unfold pdE;simp[f0,f1,f2,f4];refine aG.call (V:=CpQ P d n o a b h0) (by simpa using OB (c:=c) Y w.1.next (by omega) lq hn w) ?_;rintro _ h2⟨w2,j,t2,rfl,FR,D8⟩;simp;exact K _ _ j t2 ⟨by simp[f0],by simp[f1],by simp[f2],by simp[f3],by simp[f4],⟨t,by simp[f10]⟩,⟨u,by simp[f11]⟩,by simp[f12]⟩ (by simp) (by simp) FR D8 w2
theorem WO(yT:a+13<=b)(lq:b<=n)(hn:n<50)(FR:a<=j)(D8:j<b)(w:SA P d n o h0 h)(E:PQ d n c y a b lim e)(f13:ak e 13=.int .i64 j)(f14:ak e 14=.int .i64 t)(K:∀e' h' (j:Nat) (t:Int),PQ d n c y a b lim e'->ak e' 13=.int .i64 j->ak e' 14=.int .i64 t->a<=j->j<b->SA P d n o h0 h'->QQ .normal e' h'):aB FF pdD e h QQ:=by
 have YC:=E.f10;have X11:=E.f11;obtain⟨f0,f1,f2,f3,f4,⟨tt,f10⟩,⟨u,f11⟩,f12⟩:=E;unfold pdD;by_cases ht:t=2
 .subst ht;obtain⟨k,hk⟩:∃k,k=b-1-(j-a):=⟨_,rfl⟩;have w1:=wrap_i64 ((b:Int)-1) (by omega) (by omega);have w2:=wrap_i64 ((j:Int)-(a:Int)) (by omega) (by omega);have w3:IntKind.i64.wrap ((b:Int)-1-((j:Int)-(a:Int)))=(k:Int):=by rw[wrap_i64 _ (by omega) (by omega)];omega
  simp[f0,f1,f2,f4,f14];refine aG.call (V:=fun _ h'=>SA P d n o h0 h') (by simpa using Ga (c:=c) (y:=y) lq (by omega) (by omega) w) ?_;rintro v h2 w';simp[f1,f2,f13,w1,w2,w3];exact K _ _ k 1 ⟨by simp[f0],by simp[f1],by simp[f2],by simp[f3],by simp[f4],⟨tt,by simp[f10]⟩,⟨u,by simp[f11]⟩,by simp[f12]⟩ (by simp) (by simp) (by omega) (by omega) w'
 .have zk:(t==2)=false:=by simpa using ht
  simp[f14,zk];exact K _ _ j t ⟨by simp[f0],by simp[f1],by simp[f2],by simp[f3],by simp[f4],⟨tt,by simp[f10]⟩,⟨u,by simp[f11]⟩,by simp[f12]⟩ (by simp[f13]) (by simp[f14]) FR D8 w
theorem WN(Y:iU y)(yT:a+13<=b)(lq:b<=n)(hn:n<50)(w:SA P d n o h0 h)(E:PQ d n c y a b lim e)(f13:ak e 13=.int .i64 j)(f14:ak e 14=.int .i64 t)(K1:∀e' h',SA P d n o h0 h'->QQ .ret e' h')(K:∀e' h',PQ d n c y a b lim e'->ak e' 13=.int .i64 j->SA P d n o h0 h'->QQ .normal e' h'):aB FF pdC e h QQ:=by
 have YC:=E.f10;have X11:=E.f11;obtain⟨f0,f1,f2,f3,f4,⟨tt,f10⟩,⟨u,f11⟩,f12⟩:=E;unfold pdC;cases tt with
 |false=>
  simp[f10];exact K _ _ ⟨by simp[f0],by simp[f1],by simp[f2],by simp[f3],by simp[f4],(Exists.imp (fun _ h=>by simp[h]) YC),⟨u,by simp[f11]⟩,by simp[f12]⟩ (by simp[f13]) w
 |true=>
  cases u with
  |false=>
   simp[f10,f11];exact K _ _ ⟨by simp[f0],by simp[f1],by simp[f2],by simp[f3],by simp[f4],(Exists.imp (fun _ h=>by simp[h]) YC),(Exists.imp (fun _ h=>by simp[h]) X11),by simp[f12]⟩ (by simp[f13]) w
  |true=>
   by_cases ht:t=1
   .subst ht;simp[f0,f1,f2,f4,f10,f11,f14];refine aG.call (V:=agf P d n o h0) (by simpa using I9 (c:=c) Y (by omega) lq hn w) ?_;rintro _ h2⟨w2,q,rfl⟩;cases q with
    |true=>
     simp;exact K1 _ _ w2
    |false=>
     simp;exact K _ _ ⟨by simp[f0],by simp[f1],by simp[f2],by simp[f3],by simp[f4],(Exists.imp (fun _ h=>by simp[h]) YC),(Exists.imp (fun _ h=>by simp[h]) X11),by simp[f12]⟩ (by simp[f13]) w2
   .have zk:(t==1)=false:=by simpa using ht
    simp[f10,f11,f14,zk];exact K _ _ ⟨by simp[f0],by simp[f1],by simp[f2],by simp[f3],by simp[f4],(Exists.imp (fun _ h=>by simp[h]) YC),(Exists.imp (fun _ h=>by simp[h]) X11),by simp[f12]⟩ (by simp[f13]) w
theorem WM(Y:iU y)(yT:a+13<=b)(lq:b<=n)(hn:n<50)(FR:a<=j)(D8:j<b)(w:SA P d n o h0 h)(E:PQ d n c y a b lim e)(f13:ak e 13=.int .i64 j)(K1:∀e' h' (a':Nat),a<a'->a'<=b->ak e' 0=.slice (some ⟨d,0,none⟩) n c->ak e' 1=.int .i64 a'->ak e' 2=.int .i64 b->ak e' 3=.int .i64 lim->ak e' 4=y->(∃t:Bool,ak e' 10=.bool t)->(∃t:Bool,ak e' 11=.bool t)->SA P d n o h0 h'->QQ (.exit 1) e' h')(K:∀e' h',PQ d n c y a b lim e'->ak e' 13=.int .i64 j->SA P d n o h0 h'->QQ .normal e' h'):aB FF pdB e h QQ:=by
 have YC:=E.f10;have X11:=E.f11;obtain⟨f0,f1,f2,f3,f4,⟨tt,f10⟩,⟨u,f11⟩,f12⟩:=E;unfold pdB;obtain⟨g,xs,s,hb,hl,hP⟩:=id w;by_cases ha:0<a
 .obtain⟨k,hk⟩:∃k,k=a-1:=⟨_,rfl⟩;have wk:IntKind.i64.wrap ((a:Int)-1)=(k:Int):=by rw[wrap_i64 _ (by omega) (by omega)];omega
  have zZ:k<n:=by omega
  have GS:j<n:=by omega
  obtain⟨x,hx⟩:=aE xs k;obtain⟨z,hz⟩:=aE xs j;have rx:=bJ hb hx;have rz:=bJ hb hz;simp[f0,f1,f4,f13,ha,wk,zZ,GS,rx,rz,ay,-ag];refine aU.cut (fun h1=>ab aK h h1) ?_ ?_
  .exact(ab.refl g.ok).tick
  intro h1 g1;refine aU.cU (V:=fun v BZ=>(∃c:Int,v=.int .i64 c)/\ab aK h1 BZ) (by simpa [f4] using Y h1 x z g1.ok) ?_;rintro _ h2⟨⟨cv,rfl⟩,g2⟩;have w2:=(w.bl g1).bl g2;by_cases hc:cv<0
  .simp[hc];exact K _ _ ⟨by simp[f0],by simp[f1],by simp[f2],by simp[f3],by simp[f4],(Exists.imp (fun _ h=>by simp[h]) YC),(Exists.imp (fun _ h=>by simp[h]) X11),by simp[f12]⟩ (by simp[f13]) w2
  .simp[hc,f0,f1,f2,f4,f13];refine aG.call (V:=agd P d n o a b h0) (by simpa using LA (c:=c) Y lq (by omega) FR D8 w2) ?_;rintro _ h3⟨w3,i,rfl,JE,AS⟩;simp;exact K1 _ _ i JE AS (by simp[f0]) (by simp) (by simp[f2]) (by simp[f3]) (by simp[f4]) (Exists.imp (fun _ h=>by simp[h]) YC) (Exists.imp (fun _ h=>by simp[h]) X11) w3
 .have ha0:a=0:=by omega
  simp[f1,ha];exact K _ _ ⟨by simp[f0],by simp[f1],by simp[f2],by simp[f3],by simp[f4],(Exists.imp (fun _ h=>by simp[h]) YC),(Exists.imp (fun _ h=>by simp[h]) X11),by simp[f12]⟩ (by simp[f13]) (w.bl ((ab.refl g.ok).tick))
end
section
variable{P:Int×(Bool×Int)->Prop}{d n o c:Nat}{h0:ae}{y:Value}
def ab7(P:Int×(Bool×Int)->Prop)(d n o c:Nat)(h0:ae)(y:Value)(k:Nat):Prop:=∀(a b lim:Nat)(h:ae),b-a<k->a<=b->b<=n->lim<=6->SA P d n o h0 h->aF FF fG [.slice (some ⟨d,0,none⟩) n c,.int .i64 a,.int .i64 b,.int .i64 lim,y] h (fun _ h'=>SA P d n o h0 h')
structure PQ0(d n c:Nat)(y:Value)(a b lim:Nat)(e:Env):Prop where
 f0:ak e 0=.slice (some ⟨d,0,none⟩) n c
 f1:ak e 1=.int .i64 a
 f2:ak e 2=.int .i64 b
 f3:ak e 3=.int .i64 lim
 f4:ak e 4=y
 f10:∃t:Bool,ak e 10=.bool t
 f11:∃t:Bool,ak e 11=.bool t
theorem WL(Y:iU y)(yT:a+13<=b)(lq:b<=n)(hn:n<50)(hl:lim<=6)(FR:a<=j)(D8:j<b)(IH:ab7 P d n o c h0 y (b-a))(w:SA P d n o h0 h)(E:PQ d n c y a b lim e)(f13:ak e 13=.int .i64 j)(K:∀e' h' (a' b':Nat),PQ0 d n c y a' b' lim e'->a'<=b'->b'<=n->b'-a'<b-a->SA P d n o h0 h'->QQ .normal e' h'):aB FF pdA e h QQ:=by
 obtain⟨f0,f1,f2,f3,f4,_,_,f12⟩:=E;unfold pdA;simp[f0,f1,f2,f4,f13];refine aG.call (V:=PtQ P d n o a b h0) (by simpa using Ss (c:=c) Y lq (by omega) FR D8 w) ?_;rintro _ h2⟨w2,m,t,rfl,Zk,hm2⟩;obtain⟨l,B9⟩:∃l,l=m-a:=⟨_,rfl⟩;obtain⟨r,rP⟩:∃r,r=b-m:=⟨_,rfl⟩;have w3:IntKind.i64.wrap ((m:Int)-(a:Int))=(l:Int):=by rw[wrap_i64 _ (by omega) (by omega)];omega
 have w4:IntKind.i64.wrap ((b:Int)-(m:Int))=(r:Int):=by rw[wrap_i64 _ (by omega) (by omega)];omega
 have w5:=wrap_i64 ((m:Int)+1) (by omega) (by omega);obtain⟨q,hq⟩:∃q,q=b-a:=⟨_,rfl⟩;rw[<-hq] at f12;have w6:=wrap_i64 ((q:Int)/8) (by omega) (by omega);by_cases hlr:l<r
 .simp[f0,f1,f2,f3,f4,f12,w3,w4,w6,hlr];refine aG.call (V:=fun _ h'=>SA P d n o h0 h') (by simpa using IH a m lim h2 (by omega) Zk (by omega) hl w2) ?_;rintro v h3 w7;simp[w5];exact K _ _ (m+1) b ⟨by simp[f0],by simp,by simp[f2],by simp[f3],by simp[f4],⟨_,by simp;rfl⟩,⟨t,by simp⟩⟩ (by omega) lq (by omega) w7
 .simp[f0,f1,f2,f3,f4,f12,w3,w4,w5,w6,hlr];refine aG.call (V:=fun _ h'=>SA P d n o h0 h') (by simpa using IH (m+1) b lim h2 (by omega) (by omega) lq hl w2) ?_;rintro v h3 w7;simp;exact K _ _ a m ⟨by simp[f0],by simp[f1],by simp,by simp[f3],by simp[f4],⟨_,by simp;rfl⟩,⟨t,by simp⟩⟩ Zk (by omega) (by omega) w7
def PdI(P:Int×(Bool×Int)->Prop)(d n o c:Nat)(h0:ae)(y:Value)(k:Nat)(m:Nat)(e:Env)(h':ae):Prop:=
 ∃a b lim:Nat,m=b-a/\b-a<k/\a<=b/\b<=n/\lim<=6/\PQ0 d n c y a b lim e/\SA P d n o h0 h'
theorem WU(Y:iU y)(hn:n<50):∀k,ab7 P d n o c h0 y k:=by
 intro k;induction k with
 |zero=>intro a b lim h hk;omega
 |succ k ih=>
  intro a b lim h hk yT lq hl w;refine aF.of fE ?_;unfold dF;simp;refine aB.loop (PdI P d n o c h0 y (k+1)) ?_ (n:=b-a) ⟨a,b,lim,rfl,hk,yT,lq,hl,⟨by simp,by simp,by simp,by simp,by simp,⟨true,by simp⟩,⟨true,by simp⟩⟩,w⟩;rintro m e h'⟨a,b,lim,rfl,hk,yT,lq,hl,⟨f0,f1,f2,f3,f4,f10,f11⟩,w⟩;rw[WT];obtain⟨q,hq⟩:∃q,q=b-a:=⟨_,rfl⟩;have w1:IntKind.i64.wrap ((b:Int)-(a:Int))=(q:Int):=by rw[wrap_i64 _ (by omega) (by omega)];omega
  by_cases h12:q<=12
  .have YX:(q:Int)<=12:=by omega
   simp[f0,f1,f2,f4,w1,YX];refine aG.call (V:=fun _ h'=>SA P d n o h0 h') (by simpa using Ee (c:=c) Y lq yT (by omega) w) ?_;rintro v h2 w2;simp;exact w2
  have YX:¬(q:Int)<=12:=by omega
  by_cases hz:lim=0
  .subst hz;simp[f0,f1,f2,f3,f4,w1,YX];refine aG.call (V:=fun _ h'=>SA P d n o h0 h') (by simpa using Rk (c:=c) Y (by omega) lq (by omega) w) ?_;rintro v h2 w2;simp;exact w2
  have TD:((lim:Int)==0)=false:=by simp;omega
  simp[f1,f2,f3,w1,YX,TD];have IH:ab7 P d n o c h0 y (b-a):=by intro a' b' ZL h' wV h1 h2 h3 w';exact ih a' b' ZL h' (by omega) h1 h2 h3 w'
  have h13:a+13<=b:=by omega
  refine WS (c:=c) (y:=y) (a:=a) (b:=b) (lim:=lim) h13 lq hn (by omega) hl w ⟨by simp[f0],by simp[f1],by simp[f2],by simp[f3],by simp[f4],Exists.imp (fun _ h=>by simp[h]) f10,Exists.imp (fun _ h=>by simp[h]) f11,by simp[hq]⟩ ?_;intro e1 h1 ai_ E1 B9 w1;simp;refine WQ Y h13 lq hn w1 E1 ?_;intro e2 h2 j2 t2 E2 k13 k14 FR D8 w2;simp;refine WO h13 lq hn FR D8 w2 E2 k13 k14 ?_;intro e3 h3 j3 t3 E3 l13 l14 ah8 ah9 w3;simp;refine WN Y h13 lq hn w3 E3 l13 l14 (fun e' h' w'=>by simpa using w') ?_;intro e4 h4 E4 V3 w4;simp;refine WM Y h13 lq hn ah8 ah9 w4 E4 V3 ?_ ?_
  .intro e5 h5 a5 ha1 KF p0 p1 p2 p3 p4 p10 p11 w5;simp;exact⟨b-a5,by omega,a5,b,ai_,rfl,by omega,KF,lq,B9,⟨p0,p1,p2,p3,p4,p10,p11⟩,w5⟩
  intro e5 h5 E5 n13 w5;simp;refine WL Y h13 lq hn B9 ah8 ah9 IH w5 E5 n13 ?_;intro e6 h6 a6 b6 E6 an3 aob dS w6;simp;exact⟨b6-a6,dS,a6,b6,ai_,rfl,by omega,an3,aob,B9,E6,w6⟩
theorem SU(Y:iU y)(hn:n<50)(w:SA P d n o h0 h):aF FF cW [.slice (some ⟨d,0,none⟩) n c,y] h (fun _ h'=>SA P d n o h0 h'):=by have w1:=gX (n:Int) (by omega) (by omega);have hl:=Ac n;refine aF.of eH ?_;unfold cV;simp[w1];refine aG.call (V:=fun v h'=>v=.int .i64 (lenOf n)/\h'=h) (by simpa using Eh h n (by omega)) ?_;rintro _ h'⟨rfl,e⟩;rw[e];simp;refine aG.call (V:=fun _ h'=>SA P d n o h0 h') (by simpa using WU (c:=c) Y hn (n+1) 0 n (lenOf n) h (by omega) (by omega) (dw _) hl w) ?_;rintro v h2 w2;simp;exact w2
theorem Xt(h:ae)(y:Value):aF FF cW [.slice none 0 0,y] h (fun _ h'=>h'=h):=by
 have w1:IntKind.u64.wrap 0=0:=gX _ (by omega) (by omega);refine aF.of eH ?_;unfold cV;simp[w1];refine aG.call (V:=fun v h'=>v=.int .i64 0/\h'=h) (by simpa [lenOf] using Eh h 0 (by omega)) ?_;rintro _ h'⟨rfl,e⟩;rw[e];simp;refine aG.call (V:=fun _ h'=>h'=h) ?_ ?_
 .have w2:IntKind.i64.wrap (0-0)=0:=wrap_i64 _ (by omega) (by omega);have w2':IntKind.i64.wrap 0=0:=wrap_i64 _ (by omega) (by omega);have w3:IntKind.i64.wrap (0+1)=1:=wrap_i64 _ (by omega) (by omega);have w3':IntKind.i64.wrap 1=1:=wrap_i64 _ (by omega) (by omega);simp;refine aF.of fE ?_;unfold dF;simp;rw[nz];unfold dv;simp[w2,w2'];refine aG.call (V:=fun _ h'=>h'=h) ?_ ?_
  .simp;refine aF.of ef ?_;unfold cM;simp[w3,w3'];rw[nz];unfold cJ;simp
  .rintro v h2 rfl;simp
 .rintro v h2 rfl;simp
end
theorem aan{v:Value}(a:bH lD n0 h v xs):v=.slice none 0 0/\xs=[]\/∃b s,v=.slice (some ⟨b,0,none⟩) xs.length xs.length/\h.tr.get b=some (.aC (lD.flat xs) false 3 s)/\n0<=b:=by
 rcases a with⟨h1,h2⟩|⟨b,s,h1,h2,_,h3⟩
 .exact .inl ⟨h2,h1⟩
 .exact .inr ⟨b,s,h1,h2,h3⟩
def mh(ats:List Int)(a:Int):Bool:=decide (0<=(ats[a.toNat]?).getD (-1))
def alU(h:ae)(ats:List Int)(ps:List Int)(row:List (Bool×Int))(ai:Nat)(e:Env)(m:Nat)(e':Env)(h':ae):Prop:=
 ∃(j:Nat) (L:SV) (rl:List (Int×(Bool×Int))),m=row.length-j/\j<=row.length/\aA [15,16,17,18,64,65,66,67,68,69,70,71,72,73,74,75,76,77,78,79,80,81,82,83,84,85,86,87] e e'/\ak e' 64=.int .i64 j/\ak e' 15=L.v/\ab aK h h'/\bH lD h.next h' L.v rl/\(∀x∈rl,fk ai x.2)/\rl.length=((ps.take j).filter (mh ats)).length
theorem Ef(ok:bm h){n dA d8 c8 k ai sA s8 o8:Nat}{ps:List Int}{row:List (Bool×Int)}(hn:n<=1000)(hA:h.tr.get dA=some (.aC (bj.flat ats) false 0 sA))(B7:ats.length=n)(h8:h.tr.get d8=some (.aC (rT.flat ws) false o8 s8))(hws:ws[k]?=some wk)(zZ:k<n)(iI:SliceR nR 1 h wk.v ps)(Fo:∀p∈ps,0<=p/\p<n)(jq:SliceR vR 2 h A.v row)(hv:∀v∈row,fk ai v)(hl:row.length=ps.length)(uj:ps.length<1000000)(f5:ak e 5=.slice (some ⟨dA,0,none⟩) n n)(f8:ak e 8=.slice (some ⟨d8,0,none⟩) n c8)(f11:ak e 11=.int .i64 k)(f15:ak e 15=d_.v)(f62:ak e 62=A.v)(f63:ak e 63=.int .i64 row.length)(f64:ak e 64=.int .i64 0)(C:∀e' h' L rl,ab aK h h'->aA [15,16,17,18,64,65,66,67,68,69,70,71,72,73,74,75,76,77,78,79,80,81,82,83,84,85,86,87] e e'->ak e' 15=SV.v L->bH lD h.next h' (SV.v L) rl->(∀x∈rl,fk ai x.2)->rl.length=(ps.filter (mh ats)).length->QQ (.exit 6) e' h'):
  aB FF (.loop nE) e h QQ:=by
 have B1:=SliceR.len jq;have K0:=SliceR.len iI;refine aB.loop (alU h ats ps row ai e) ?_ (n:=row.length) ⟨0,d_,[],rfl,by omega,aA.refl _ _,f64,f15,.refl ok,.inl ⟨rfl,rfl⟩,fun x hx=>by simp at hx,by simp⟩;rintro m e' h'⟨j,L,rl,rfl,hj,K,q64,Ax,g,xE,Zv,vj⟩;have q5:=K.at f5;have q8:=K.at f8;have mK:=K.at f11;have Sz:=K.at f62;have q63:=K.at f63;unfold nE;by_cases aS:j<row.length
 .have wj:=wrap_i64 ((j:Int)+1) (by omega) (by omega);have hx:row[j]?=some row[j]:=fI aS;have hm:=zT aS;generalize row[j]=v at hx hm;have hp:ps[j]?=some (ps[j]'(by omega)):=fI (by omega);have Fm:=zT (l:=ps) (n:=j) (by omega);generalize ps[j]'(by omega)=a at hp Fm;obtain⟨ha0,Bh⟩:=Fo a Fm;obtain⟨u,rfl⟩:∃u:Nat,a=u:=⟨a.toNat,by omega⟩;have IK:u<n:=by omega
  obtain⟨b1,Sb,c1,Tk,_,_,rfl,o1,Bn⟩:=SliceR.later ok jq hx;obtain⟨b2,ZV,c2,hwa,_,_,rfl,o2,FU⟩:=SliceR.later ok iI hp;have r1:=Bn h' g 0 2 (by decide);have r2:=FU h' g 0 1 (by decide);have hA':=g.get ok hA;have h8':=g.get ok h8;obtain⟨t,ht⟩:=aE ats u;have rt:=jI hA' ht;have rw8:=wJ h8' hws;have hjp:j<ps.length:=by omega
  have ob1:=g.bC o1;have ob2:=g.bC o2;have oA:=g.ok.bC hA';have o8:=g.ok.bC h8';simp[-ag] at r1 r2 rw8;rw[hwa,K0] at rw8;simp at Sz Ax;rw[Tk,B1] at Sz;have Rw:(ps.take (j+1)).filter (mh ats)=(ps.take j).filter (mh ats)++(if mh ats u then [(u:Int)] else []):=by rw[v9,hp,List.filter_append];cases hq:mh ats u<;>simp[hq]
  have hkt:mh ats u=decide (0<=t):=by simp[mh,ht]
  by_cases VD:0<=t
  .simp[q5,q8,mK,Ax,Sz,q63,q64,aS,r1,r2,rw8,rt,zZ,IK,hjp,VD,-ag,au,aX,aN,ob1,ob2,oA,o8];have gv:ab aK h' (put (aJ h' [.bool false,.int .i64 0] 0) h'.next 0 [.bool false,.int .i64 0] [.bool v.1,.int .i64 v.2] 0):=(ab.refl g.ok).var _ _;obtain⟨h2,e2⟩:∃h2,h2=put (aJ h' [.bool false,.int .i64 0] 0) h'.next 0 [.bool false,.int .i64 0] [.bool v.1,.int .i64 v.2] 0:=⟨_,rfl⟩;have NV:h2.next=h'.next+1:=by rw[e2];rfl
   rw[<-e2] at gv⊢;have g2:=g.trans gv;have g3:=aP g2.ok (lD.enc (t,v)) 0;simp only[UB] at g3;have Mw:=(xE.grow g.ok gv (fun _ _ h=>h)).grow g2.ok g3 (fun _ _ h=>h);have hw3:bc lD (aJ h2 [.int .i64 t,.bool v.1,.int .i64 v.2] 0) (.slice (some ⟨h2.next,0,none⟩) 1 1) [(t,v)]:=⟨_,_,rfl,.inr ⟨h2.next,0,_,_,_,_,rfl,bS _ _ _,by simp,by simp⟩⟩;have hrl2:rl.length<=j:=by rw[vj];exact sD (XP _ _) (by simp;omega)
   have ln:=g2.next;obtain⟨v',h5,ha5,B0,g5,MA⟩:=lJ (bytes:=24) g3.ok (z:=[.int .i64 0,.bool false,.int .i64 0]) rfl Mw hw3 (by omega) (by decide) (by simp;omega);rw[NV] at ha5;refine iE ha5 ?_;obtain⟨V,rfl⟩:=bH.Yu B0;have lo:∀b,ax L.v b->h.next<=b:=fun b hb=>xE.of hb;simp[q64,wj];refine⟨row.length-(j+1),by omega,j+1,V,rl++[(t,v)],rfl,by omega,?_,by simp,by simp,(g2.trans g3).trans' g5 (fun _ _ h=>h) (fun x hx e=>by have:=lo x e;omega),B0,fun x hx=>?_,?_⟩
   .repeat (refine aA.set ?_)
    exact K
   .rcases lE.1 hx with h1|h1
    .exact Zv x h1
    .simp at h1;subst h1;exact hv v hm
   .rw[Rw,hkt];simp[VD,vj]
  .simp[q5,q8,mK,Ax,Sz,q63,q64,aS,r1,r2,rw8,rt,zZ,IK,hjp,VD,wj,-ag,au,aX,aN,ob1,ob2,oA,o8];refine⟨row.length-(j+1),by omega,j+1,L,rl,rfl,by omega,?_,by simp,by simp[Ax],g.trans ((ab.refl g.ok).var _ _),xE.grow g.ok ((ab.refl g.ok).var _ _) (fun _ _ h=>h),Zv,?_⟩
   .repeat (refine aA.set ?_)
    exact K
   .rw[Rw,hkt];simp[VD,vj]
 .have:j=row.length:=by omega
  subst this;rw[hl,we] at vj;simp[q63,q64];exact C _ _ L rl g (K.set) (by simp[Ax]) xE Zv vj
def alT(h:ae)(P:SV)(qs:List (Int×SV))(i ai n X sX:Nat)(xc:List Value)(dst:Int)(e:Env)(m:Nat)(e':Env)(h':ae):Prop:=
 ∃(j:Nat) (F:SV) (vl:List (Bool×Int)),m=n-j/\j<=n/\aA [20,97,98,99,100,101,102,103,104,105,106,107,108,109,110,111,112,113,114,115,116] e e'/\ak e' 97=.int .i64 j/\ab (ax P.v) h h'/\h'.tr.get X=some (.aC xc false 0 sX)/\eY gL h' P (qs.set i (dst,F))/\bH bx h.next h' F.v vl/\vl.length=j/\∀v∈vl,fk ai v
theorem RJ(ok:bm h){P L T:SV}{i ai X sX d n sd:Nat}{dst:Int}{q0:Int×SV}(hP:eY gL h P (qs.set i (dst,d_)))(hq:qs[i]?=some q0)(hX:h.tr.get X=some (.aC [P.v,L.v,.int .i64 kind,.bool on.1,.int .i64 on.2,T.v] false 0 sX))(hPX:¬ax P.v X)(hd:h.tr.get d=some (.aC (lD.flat xs) false 3 sd))(hPd:¬ax P.v d)(hn:xs.length=n)(NV:n<1000000)(hv:∀x∈xs,fk ai x.2)(f12:ak e 12=.pointer (some ⟨X,0,none⟩))(f13:ak e 13=.int .i64 i)(f95:ak e 95=.slice (some ⟨d,0,none⟩) n n)(f96:ak e 96=.int .i64 n)(f97:ak e 97=.int .i64 0)(C:∀e' h' F vl,aA [20,97,98,99,100,101,102,103,104,105,106,107,108,109,110,111,112,113,114,115,116] e e'->ab (ax P.v) h h'->h'.tr.get X=some (.aC [P.v,L.v,.int .i64 kind,.bool on.1,.int .i64 on.2,T.v] false 0 sX)->eY gL h' P (qs.set i (dst,F))->bH bx h.next h' (SV.v F) vl->vl.length=n->(∀v∈vl,fk ai v)->QQ (.exit 8) e' h'):
  aB FF (.loop kq) e h QQ:=by
 have gY:=(cr.mp hq).1;refine aB.loop (alT h P qs i ai n X sX [P.v,L.v,.int .i64 kind,.bool on.1,.int .i64 on.2,T.v] dst e) ?_ (n:=n) ⟨0,d_,[],rfl,by omega,aA.refl _ _,f97,.refl ok,hX,hP,.inl ⟨rfl,rfl⟩,rfl,fun v hv=>by simp at hv⟩;rintro m e' h'⟨j,F,vl,rfl,hj,K,q97,g,mf,Rc,hA,Fq,x5⟩;have lI:=K.at f12;have q13:=K.at f13;have q95:=K.at f95;have q96:=K.at f96;have bz:=g.ok;unfold kq;by_cases aS:j<n
 .have wj:=wrap_i64 ((j:Int)+1) (by omega) (by omega);obtain⟨x,hx⟩:=aE xs j;have Ya:=g.get ok hd hPd;have rx:=bJ Ya hx;have hqi:(qs.set i (dst,F))[i]?=some (dst,F):=by rw[fg,aZ rfl,aZ gY]
  obtain⟨b,cs,o,s,rM,hb,hiA,eU,dj,gE⟩:=Rc.el hqi;have r1:=dj 1 1 (by decide);simp[-ag] at r1;have kj:=Rc.len;simp at kj;have dX:=mf;simp at dX;rw[rM,kj] at dX;have oX:=bz.bC mf;have ob:=bz.bC hb;have od:=bz.bC Ya;have C0:=bz.st _ _ _ _ _ mf;have nX:¬X=b:=fun e=>hPX (e▸cw rM);have hif:i<qs.length:=gY;simp[lI,q13,q95,q96,q97,aS,rx,r1,hif,-ag,au,aX,aN,iy,oX,ob,od,av dX,ay];obtain⟨h2,e2⟩:∃h2,h2=tick (put (aJ h' [.int .i64 0,.bool false,.int .i64 0] 0) h'.next 0 [.int .i64 0,.bool false,.int .i64 0] [.int .i64 x.1,.bool x.2.1,.int .i64 x.2.2] 0):=⟨_,rfl⟩;have gv:ab aK h' h2:=by rw[e2];exact((ab.refl bz).var _ _).tick
  have ao9:h2.next=h'.next+1:=by rw[e2];rfl
  rw[<-e2];have g3:=aP gv.ok (bx.enc x.2) 0;simp only[qB] at g3;have Mw:=(hA.grow bz gv (fun _ _ h=>h)).grow gv.ok g3 (fun _ _ h=>h);have hw3:bc bx (aJ h2 [.bool x.2.1,.int .i64 x.2.2] 0) (.slice (some ⟨h2.next,0,none⟩) 1 1) [x.2]:=⟨_,_,rfl,.inr ⟨h2.next,0,_,_,_,_,rfl,bS _ _ _,by simp,by simp⟩⟩;have ln:=g.next;obtain⟨v',h5,ha5,B0,g5,MA⟩:=lJ (bytes:=16) g3.ok (z:=[.bool false,.int .i64 0]) rfl Mw hw3 (by omega) (by decide) (by simp;omega);rw[ao9] at ha5;refine Au ha5 ?_;obtain⟨V,rfl⟩:=bH.Yu B0;have lo:∀y,ax F.v y->h.next<=y:=fun y hy=>hA.of hy;have lb:b<h.next:=by have:=hP.bC ok (cw rM);exact this
  have lX:X<h.next:=ok.wf _ _ hX;have uL:=g5.get g3.ok (g3.get gv.ok (gv.get bz mf (fun h=>h))) (fun h=>by have:=lo X h;omega);have Zc:=g5.get g3.ok (g3.get gv.ok (gv.get bz hb (fun h=>h))) (fun h=>by have:=lo b h;omega);simp at uL;rw[rM,kj] at uL;have VC:sX<=h'.clock+1:=by omega
  have hf:=eU 1 1 (by decide);simp at hf;simp[uL,VC,hif,Zc,hf,q97,wj];have gw:ab (· =b) h5 (put h5 b (i*2+1) cs [.slice V.a V.l V.c] o):=aQ g5.ok Zc;have hPf:=gE (dst,V) 1 [V.v] (by simp) rfl (put h5 b (i*2+1) cs [.slice V.a V.l V.c] o) ⟨_,aD _ _ _ _ _ _⟩;rw[List.set_set] at hPf;have g15:ab (ax P.v) h h5:=((g.trans gv.bl).trans g3.bl).trans' g5 (fun _ _ h=>h) (fun y hy e=>by have:=lo y e;omega);have lV:∀y,ax V.v y->h.next<=y:=fun y hy=>by have:=MA y hy;simp at this;omega
  refine⟨n-(j+1),by omega,j+1,V,vl++[x.2],rfl,by omega,?_,by simp,g15.trans (gw.bU (fun y _ e=>e▸cw rM)),?_,hPf,B0.grow g5.ok gw (fun y hy e=>by have:=lV y hy;omega),by simp[Fq],fun v IL=>?_⟩
  .repeat (refine aA.set ?_)
   exact K
  .have:=gw.get g5.ok uL nX;simpa [rM,kj] using this
  .rcases lE.1 IL with h1|h1
   .exact x5 v h1
   .simp at h1;subst h1;exact hv x (dG hx)
 .have:j=n:=by omega
  subst this;simp[q96,q97];exact C _ _ F vl (K.set) g mf Rc hA Fq x5
def Ext(κ cap κ' iL:Nat->Nat):Prop:=∀b,κ b≠0->κ' b=κ b/\iL b=cap b
theorem Ext.refl(κ cap:Nat->Nat):Ext κ cap κ cap:=fun _ _=>⟨rfl,rfl⟩
theorem Ext.trans{κ cap κ1 xB κ2 J7:Nat->Nat}(a:Ext κ cap κ1 xB)(b:Ext κ1 xB κ2 J7):Ext κ cap κ2 J7:=fun x hx=>by obtain⟨h1,h2⟩:=a x hx;obtain⟨h3,h4⟩:=b x (by omega);exact⟨by omega,by omega⟩
theorem VA.ext{κ cap κ' iL:Nat->Nat}(w:VA κ cap A)(e:Ext κ cap κ' iL):VA κ' iL A:=w.congr (fun b hb=>by have:=e b (by omega);omega)
section
variable{h h':ae}{n0 ai:Nat}{κ cap:Nat->Nat}{rs:List XR}
theorem cn.amE(w0:cn h n0 ai κ cap rs)(hn:n0<=h.next)(w:cn h' n0 ai κ cap rs)(ok:bm h'){F:SV}{vl:List (Bool×Int)}(hA:bH bx h.next h' F.v vl)(hv:∀v∈vl,fk ai v):
  ∃κ' iL,cn h' n0 ai κ' iL rs/\VA κ' iL F/\Ext κ cap κ' iL/\F.l=vl.length/\∀b,b<h.next->κ' b=κ b:=by
 rcases hA with⟨rfl,e⟩|⟨b,s,e,hb,hx,lq⟩
 .simp at e;exact⟨κ,cap,w,⟨by omega,.inl ⟨e.1,e.2.2⟩⟩,Ext.refl _ _,by simp[e.2.1],fun _ _=>rfl⟩
 .simp at e;have ZC:κ b=0:=by
   rcases ve (κ b) with h|h
   .exact h
   .have:=(w0.new b (by omega)).2;omega
  have ne:∀b',κ b'≠0->b≠b':=fun b' gk e=>gk (e▸ZC);have ext:Ext κ cap (CB κ F 1) (CB cap F vl.length):=fun b' gk=>⟨kz e.1 (ne b' gk),kz e.1 (ne b' gk)⟩;refine⟨CB κ F 1,CB cap F vl.length,⟨fun i r hr=>(w.r i r hr).congr ext,w.dP,w.dL,w.dT,fun b' gk=>?_,fun b' gk=>?_⟩,⟨by omega,.inr ⟨b,e.1,pN e.1,by rw[pN e.1,e.2.2]⟩⟩,ext,e.2.1,fun b' gk=>kz e.1 (by omega)⟩
  .by_cases e1:b=b'
   .subst e1;exact⟨vl,_,s,hb,.inr rfl,by rw[pN e.1],hv⟩
   .rw[kz e.1 e1] at gk⊢;exact w.V b' gk
  .by_cases e1:b=b'
   .subst e1;exact⟨by omega,ok.wf _ _ hb⟩
   .rw[kz e.1 e1] at gk;exact w.new b' gk
def ZS(r:XR):XR:= {r with P:=d_,ps:=[]}
theorem cn.drop(w:cn h n0 ai κ cap rs)(hr:rs[i]?=some r):cn h n0 ai κ cap (rs.set i (ZS r)):=by
 have hi:=(cr.mp hr).1;have R:=w.r i r hr;refine⟨fun j x hx=>?_,?_,eI (f:=(·.L)) hr w.dL rfl,eI (f:=(·.T)) hr w.dT rfl,w.V,w.new⟩
 .rw[fg] at hx;by_cases e1:i=j
  .rw[aZ e1,aZ hi] at hx;cases hx;exact⟨eY.nil _ _,R.L,R.T,fun b hb=>(fS rfl hb).elim,R.kL,R.kT,fun p hp=>(om hp).elim,R.ls,R.on⟩
  .rw[aW e1] at hx;exact w.r j x hx
 .intro i' j ri rj b h1 h2 hn hb cA;rw[fg] at h1 h2;by_cases e1:i=i'
  .rw[aZ e1,aZ hi] at h1;cases h1;exact fS rfl hb
  .rw[aW e1] at h1;by_cases e2:i=j
   .rw[aZ e2,aZ hi] at h2;cases h2;exact fS rfl cA
   .rw[aW e2] at h2;exact w.dP i' j ri rj b h1 h2 hn hb cA
theorem cn.aaX(w:cn h n0 ai κ cap rs)(ok:bm h){P:SV}(g:ab (ax P.v) h h')(hk:∀b,ax P.v b->κ b=3)(hd:∀(i:Nat)(r:XR),rs[i]?=some r->∀b,ax P.v b->¬ax r.P.v b):cn h' n0 ai κ cap rs:=by refine⟨fun i r hr=>(w.r i r hr).grow ok g (fun b hb=>⟨hd i r hr b hb,fun h=>by have:=hk b hb;have:=(w.r i r hr).kL b h;omega,fun h=>by have:=hk b hb;have:=(w.r i r hr).kT b h;omega⟩),w.dP,w.dL,w.dT,w.V.grow ok g (fun b hb=>by have:=hk b hb;omega),fun b hb=>by have:=w.new b hb;have:=g.next;omega⟩
theorem cn.aez{P:SV}{ps:List (Int×SV)}(w:cn h n0 ai κ cap rs)(hr:rs[i]?=some r)(hP:eY gL h P ps)(hk:∀b,ax P.v b->κ b=3)(hd:∀(j:Nat)(r:XR),rs[j]?=some r->i≠j->∀b,ax P.v b->¬ax r.P.v b)(iI:∀p∈ps,(0<=p.1/\p.1<ai)/\VA κ cap p.2):
  cn h n0 ai κ cap (rs.set i {r with P:=P,ps:=ps}):=by
 have hi:=(cr.mp hr).1;have R:=w.r i r hr;refine⟨fun j x hx=>?_,?_,eI (f:=(·.L)) hr w.dL rfl,eI (f:=(·.T)) hr w.dT rfl,w.V,w.new⟩
 .rw[fg] at hx;by_cases e1:i=j
  .rw[aZ e1,aZ hi] at hx;cases hx;exact⟨hP,R.L,R.T,hk,R.kL,R.kT,iI,R.ls,R.on⟩
  .rw[aW e1] at hx;exact w.r j x hx
 .intro i' j ri rj b h1 h2 hn hb cA;rw[fg] at h1 h2;by_cases e1:i=i'
  .rw[aZ e1,aZ hi] at h1;cases h1;rw[aW (by omega)] at h2;exact hd j rj h2 (by omega) b hb cA
  .rw[aW e1] at h1;by_cases e2:i=j
   .rw[aZ e2,aZ hi] at h2;cases h2;exact hd i' ri h1 e1 b cA hb
   .rw[aW e2] at h2;exact w.dP i' j ri rj b h1 h2 hn hb cA
end
structure KB(h1:ae)(κ0:Nat->Nat)(n dA d8 n8:Nat)(ats:List Int)(ws:List SV)(ah:List (List Int)):Prop where
 nn:n<=1000
 hA:∃s,h1.tr.get dA=some (.aC (bj.flat ats) false 0 s)
 al:ats.length=n
 acc:jU bj n8 h1 d8 ws ah
 κA:κ0 dA=0
 low:∀b,κ0 b≠0->b<n8
 rows:A0 n ah
 short:∀ps∈ah,ps.length<50
theorem KB.at(k:KB h1 κ0 n dA d8 n8 ats ws ah)(ok:bm h1)(g:ab (fun b=>κ0 b≠0) h1 h'):KB h' κ0 n dA d8 n8 ats ws ah:=by obtain⟨s,hA⟩:=k.hA;exact⟨k.nn,⟨s,g.get ok hA (fun h=>h k.κA)⟩,k.al,k.acc.grow ok g (fun b hb h=>by have:=k.low b h;omega),k.κA,k.low,k.rows,k.short⟩
def Pm(κ cap:Nat->Nat)(m:Nat)(q p:Int×SV):Prop:=q.1=p.1/\VA κ cap q.2/\q.2.l=m
def IW:aq:=(G_ [f_ 90 0 12,l_ 91 90,m_ 92 13,a_ 93 2 91 92,f_ 94 1 93,u_ (.store 1 (t_ 94) (.const (.slice none 0 0)))] (G_ [m_ 95 15,z_ 96 95,k_ 97 0] (Q_ 8 kq)))
theorem RQ:tD=G_ [B_ 57 .lss 56 55] (J_ (H_ 57 4) (J_ (P_ 5 (G_ [m_ 58 56,a_ 59 2 54 56,L_ 60 2 59,o_ 14 (.alloc [(.int .i64 0),(.slice none 0 0)]),m_ 13 58,s_ 2 14 60] (G_ [o_ 15 (.mv (.const (.slice none 0 0)))] (J_ (G_ [f_ 61 1 14,l_ 62 61,z_ 63 62,k_ 64 0] (Q_ 6 nE)) (G_ [m_ 88 15,F_ 89 197 [t_ 88,(.func 198)]] IW))))) (O_ [C_ 117 .add 56 1,m_ 56 117]))):=rfl
def KpT:List Nat:=[20,90,91,92,93,94,95,96,97,98,99,100,101,102,103,104,105,106,107,108,109,110,111,112,113,114,115,116]
theorem ZK(ok:bm h){P L T:SV}{rsD:List XR}{Lr:SV}(O:cn h n0 ai κ cap rsD)(wv:n0<=h.next)(hP:eY gL h P qs)(hq:qs[j]?=some q)(hX:h.tr.get X=some (.aC [P.v,L.v,.int .i64 kind,.bool on.1,.int .i64 on.2,T.v] false 0 sX))(hPX:¬ax P.v X)(hPκ:∀b,ax P.v b->κ b=3)(hdP:∀(i:Nat)(x:XR),rsD[i]?=some x->∀b,ax P.v b->¬ax x.P.v b)(hL:Lr.v=.slice none 0 0/\xs=[]\/∃d sd,Lr.v=.slice (some ⟨d,0,none⟩) xs.length xs.length/\h.tr.get d=some (.aC (lD.flat xs) false 3 sd)/\¬ax P.v d)(hv:∀x∈xs,fk ai x.2)(hn:xs.length=n)(NV:n<1000000)(f12:ak e 12=.pointer (some ⟨X,0,none⟩))(f13:ak e 13=.int .i64 j)(f15:ak e 15=Lr.v)(C:∀e' h' κ' iL F,aA KpT e e'->ab (ax P.v) h h'->h'.tr.get X=some (.aC [P.v,L.v,.int .i64 kind,.bool on.1,.int .i64 on.2,T.v] false 0 sX)->Ext κ cap κ' iL->(∀b,b<h.next->κ' b=κ b)->cn h' n0 ai κ' iL rsD->eY gL h' P (qs.set j (q.1,F))->VA κ' iL F->F.l=n->QQ .normal e' h'):aB FF IW e h QQ:=by
 have aS:=(cr.mp hq).1;obtain⟨b,cs,o,s,rM,hb,Yc,eU,dj,gE⟩:=hP.el hq;have kj:=hP.len;have dX:=hX;simp at dX;rw[rM,kj] at dX;have hf:=eU 1 1 (by decide);simp at hf;have gw:ab (· =b) h (put h b (j*2+1) cs [.slice none 0 0] o):=aQ ok hb;have gP:ab (ax P.v) h (put h b (j*2+1) cs [.slice none 0 0] o):=gw.bU (fun x _ e=>e▸cw rM);have hP5:=gE (q.1,d_) 1 [.slice none 0 0] (by simp) rfl (put h b (j*2+1) cs [.slice none 0 0] o) ⟨_,aD _ _ _ _ _ _⟩;have O5:=O.aaX ok gP hPκ hdP;have uL:=gP.get ok hX hPX;unfold IW;rcases hL with⟨e1,rfl⟩|⟨d,sd,e1,hd,hPd⟩
 .rw[e1] at f15;simp at hn;simp[f12,f13,f15,dX,aS,hb,hf];rw[nz];unfold kq;simp;refine C _ _ κ cap d_ ?_ gP uL (Ext.refl _ _) (fun _ _=>rfl) O5 hP5 ⟨dw _,.inl ⟨rfl,rfl⟩⟩ hn
  repeat (refine aA.set ?_)
  exact aA.refl _ _
 .rw[e1,hn] at f15;have MA:=gP.get ok hd hPd;simp[f12,f13,f15,dX,aS,hb,hf];refine RJ gP.ok (ai:=ai) (q0:=q) hP5 hq uL hPX MA hPd hn NV hv (by simp[f12]) (by simp[f13]) (by simp) (by simp) (by simp) ?_;intro e6 h6 F vl K6 g6 wU hP6 YZ Fq x5;have O6:=O5.aaX gP.ok g6 hPκ hdP;obtain⟨κ',iL,O7,hVA,E7,pC,iM⟩:=O5.amE (by have:=gP.next;omega) O6 g6.ok YZ x5;simp;refine C _ _ κ' iL F (aA.trans ?_ (K6.bU)) (gP.trans g6) wU E7 (fun b hb=>iM b hb) O7 hP6 hVA (by omega)
  repeat (refine aA.set ?_)
  exact aA.refl _ _
def KpL:List Nat:=[13,14,15,16,17,18,20,56,57,58,59,60,61,62,63,64,65,66,67,68,69,70,71,72,73,74,75,76,77,78,79,80,81,82,83,84,85,86,87,88,89,90,91,92,93,94,95,96,97,98,99,100,101,102,103,104,105,106,107,108,109,110,111,112,113,114,115,116,117]
def af8(hS:ae)(κ0 κ1 xB:Nat->Nat)(n0 ai X sX k m0:Nat)(r:XR)(rs:List XR)(xc:List Value)(e:Env)(m:Nat)(e':Env)(h':ae):Prop:=
 ∃(j:Nat) (κ cap:Nat->Nat) (qs:List (Int×SV)),m=r.ps.length-j/\j<=r.ps.length/\aA KpL e e'/\ak e' 56=.int .i64 j/\ab (fun b=>κ0 b=3) hS h'/\h'.tr.get X=some (.aC xc false 0 sX)/\Ext κ1 xB κ cap/\(∀b,b<hS.next->κ b=κ1 b)/\cn h' n0 ai κ cap (rs.set k (ZS r))/\eY gL h' r.P qs/\qs.length=r.ps.length/\
  ∀(i:Nat)(q p:Int×SV),qs[i]?=some q->r.ps[i]?=some p->(i<j->Pm κ cap m0 q p)/\(j<=i->q=p)
theorem RI{hS:ae}(okS:bm hS)(B:KB hS κ0 n dA d8 n8 ats ws ah)(hr:rs[k]?=some r)(O:cn hS n0 ai κ1 xB rs)(wv:n0<=hS.next)(h01:∀b,κ0 b≠0->κ1 b=κ0 b)(hP3:∀b,ax r.P.v b->κ0 b=3)(hX:hS.tr.get X=some (.aC [r.P.v,r.L.v,.int .i64 r.kind,.bool r.on.1,.int .i64 r.on.2,r.T.v] false 0 sX))(κX:κ0 X=0){pk:List Int}(KZ:ws[k]?=some wk)(CK:ah[k]?=some pk)(iI:∀p∈r.ps,p.2.l=pk.length)(uj:r.ps.length<1000000)(zZ:k<n)(f5:ak e 5=.slice (some ⟨dA,0,none⟩) n n)(f8:ak e 8=.slice (some ⟨d8,0,none⟩) n n)(f11:ak e 11=.int .i64 k)(f12:ak e 12=.pointer (some ⟨X,0,none⟩))(f54:ak e 54=r.P.v)(f55:ak e 55=.int .i64 r.ps.length)(f56:ak e 56=.int .i64 0)(C:∀e' h' κ cap qs,aA KpL e e'->ab (fun b=>κ0 b=3) hS h'->h'.tr.get X=some (.aC [r.P.v,r.L.v,.int .i64 r.kind,.bool r.on.1,.int .i64 r.on.2,r.T.v] false 0 sX)->Ext κ1 xB κ cap->(∀b,b<hS.next->κ b=κ1 b)->cn h' n0 ai κ cap (rs.set k {r with ps:=qs})->qs.length=r.ps.length->(∀(i:Nat)(q p:Int×SV),qs[i]?=some q->r.ps[i]?=some p->Pm κ cap (pk.filter (mh ats)).length q p)->QQ (.exit 4) e' h'):
  aB FF (.loop tD) e hS QQ:=by
 have rN:=(cr.mp hr).1;have R:=O.r k r hr;have kj:=R.P.len;have Y5:∀b,ax r.P.v b->κ1 b=3:=fun b hb=>by have:=hP3 b hb;rw[h01 b (by omega),this]
 have hdP:∀(i:Nat)(x:XR),(rs.set k (ZS r))[i]?=some x->∀b,ax r.P.v b->¬ax x.P.v b:=by
  intro i x hx b hb;rw[fg] at hx;by_cases e1:k=i
  .rw[aZ e1,aZ rN] at hx;cases hx;exact fun h=>fS rfl h
  .rw[aW e1] at hx;exact O.dP k i r x b hr hx e1 hb
 refine aB.loop (af8 hS κ0 κ1 xB n0 ai X sX k (pk.filter (mh ats)).length r rs [r.P.v,r.L.v,.int .i64 r.kind,.bool r.on.1,.int .i64 r.on.2,r.T.v] e) ?_ (n:=r.ps.length)
  ⟨0,κ1,xB,r.ps,rfl,by omega,aA.refl _ _,f56,.refl okS,hX,Ext.refl _ _,fun _ _=>rfl,O.drop hr,R.P,rfl,fun i q p h1 h2=>⟨fun h=>by omega,fun _=>by rw[h1] at h2;cases h2;rfl⟩⟩
 rintro m e' h'⟨j,κ,cap,qs,rfl,hj,K,q56,g,mf,E1,abb,O',Rc,Tv,H⟩;have bz:=g.ok;have q5:=K.at f5;have q8:=K.at f8;have mK:=K.at f11;have lI:=K.at f12;have Sy:=K.at f54;have TK:=K.at f55;have hPκ:∀b,ax r.P.v b->κ b=3:=fun b hb=>by have:=Y5 b hb;rw[(E1 b (by omega)).1,this]
 have B':=B.at okS (g.bU (fun x _ h=>by show κ0 x≠0;omega));rw[RQ];by_cases aS:j<r.ps.length
 .have wj:=wrap_i64 ((j:Int)+1) (by omega) (by omega);obtain⟨p,hp⟩:=aE r.ps j aS;obtain⟨q,hq⟩:=aE qs j;have eqp:=(H j q p hq hp).2 (dw _);subst eqp;have Fp:=dG hp;have hql2:=iI q Fp;have hVA:=(R.ps q Fp).2.ext E1;obtain⟨row,jq,vj,Zv⟩:=VA.row hVA O'.V;obtain⟨b,cs,o,s,rM,hb,Yc,eU,dj,gE⟩:=Rc.el hq;have U2:=Rc.len;have r0:=dj 0 2 (by decide);simp[-ag] at r0;simp at Sy;rw[rM,U2,Tv] at Sy;simp[Sy,TK,q56,aS,r0,-ag,au];refine aB.cut (fun h1=>ab aK h' h1) ((ab.refl bz).var _ _) ?_;intro h2 g2;have B2:=B'.at bz (g2.bU (fun _ _ h=>h.elim));obtain⟨sA,KA⟩:=B2.hA;obtain⟨s8,XQ⟩:=B2.acc.aC;have hpsl:=B.short pk (dG CK);refine Ef g2.ok (n:=n) (c8:=n) (k:=k) (A:=q.2) (ai:=ai) B.nn KA B.al XQ KZ zZ (HG B2.acc KZ CK) ((B.rows.row k pk CK).2) (jq.mono bz g2 fun _ _ h=>h) Zv (by omega) (by omega) (by simp[q5]) (by simp[q8]) (by simp[mK]) (by simp[d_]) (by simp) (by simp[vj]) (by simp) ?_;intro e3 h3 L rl g3 K3 k15 xE apA hrll;have di:ab aK h' h3:=g2.trans g3;have fe:=di.get bz mf;have x4:=di.get bz hb;have O3:=O'.bl bz di;have anD:=Rc.bl bz di;have F0:=K3.at (t:=12) (by simp;exact lI);have V3:ak e3 13=.int .i64 j:=K3.at (t:=13) (by simp);have m56:=K3.at (t:=56) (by simp;exact q56);have K3':aA KpL e e3:=by
   refine aA.trans ?_ (K3.bU)
   repeat (refine aA.set ?_)
   exact K
  have lP:∀x,ax r.P.v x->x<h'.next:=fun x hx=>Rc.bC bz hx;have lb:=lP b (cw rM);have lX:X<h'.next:=bz.wf _ _ mf;have nXb:¬X=b:=fun e=>by have:=hP3 b (cw rM);rw[e] at κX;omega
  have l3:=di.next
  
  have behind:∀(h4:ae)(xs:List (Int×(Bool×Int))),ab (fun x=>h'.next<=x) h3 h4->(∀x∈xs,fk ai x.2)->xs.length=rl.length->(L.v=.slice none 0 0/\xs=[]\/∃d sd,L.v=.slice (some ⟨d,0,none⟩) xs.length xs.length/\h4.tr.get d=some (.aC (lD.flat xs) false 3 sd)/\h'.next<=d)->
    cn h4 n0 ai κ cap (rs.set k (ZS r))/\eY gL h4 r.P qs/\ab (fun b=>κ0 b=3) hS h4/\h4.tr.get X=some (.aC [r.P.v,r.L.v,.int .i64 r.kind,.bool r.on.1,.int .i64 r.on.2,r.T.v] false 0 sX)/\h4.tr.get b=some (.aC cs false o s):=by
   intro h4 xs g4 _ _ _;have hκ:∀x,h'.next<=x->κ x=0:=fun x hx=>by
    rcases ve (κ x) with h|h
    .exact h
    .have:=(O'.new x (by omega)).2;omega
   refine⟨O3.grow di.ok g4 (fun x hx=>.inl (hκ x hx)),anD.grow di.ok g4 (fun x hx h=>by have:=lP x hx;omega),(g.trans (di.bU (fun _ _ h=>h.elim))).trans' g4 (fun _ _ h=>h) (fun x hx h=>by have:=g.next;omega),g4.get di.ok fe (by omega),g4.get di.ok x4 (by omega)⟩
  have post:∀(h4:ae)(e4:Env)(xs:List (Int×(Bool×Int)))(Q2:aT->Env->ae->Prop),ab (fun x=>h'.next<=x) h3 h4->(∀x∈xs,fk ai x.2)->xs.length=rl.length->(L.v=.slice none 0 0/\xs=[]\/∃d sd,L.v=.slice (some ⟨d,0,none⟩) xs.length xs.length/\h4.tr.get d=some (.aC (lD.flat xs) false 3 sd)/\h'.next<=d)->
    ak e4 12=.pointer (some ⟨X,0,none⟩)->ak e4 13=.int .i64 j->ak e4 15=L.v->ak e4 56=.int .i64 j->aA KpL e e4->
    (∀e6 h6 κ6 vX SB,ak e6 56=.int .i64 j->aA KpL e e6->ab (fun b=>κ0 b=3) hS h6->h6.tr.get X=some (.aC [r.P.v,r.L.v,.int .i64 r.kind,.bool r.on.1,.int .i64 r.on.2,r.T.v] false 0 sX)->Ext κ1 xB κ6 vX->(∀b,b<hS.next->κ6 b=κ1 b)->cn h6 n0 ai κ6 vX (rs.set k (ZS r))->eY gL h6 r.P SB->SB.length=r.ps.length->
     (∀(i:Nat)(q p:Int×SV),SB[i]?=some q->r.ps[i]?=some p->(i<j+1->Pm κ6 vX (pk.filter (mh ats)).length q p)/\(j+1<=i->q=p))->Q2 .normal e6 h6)->aB FF IW e4 h4 Q2:=by
   intro h4 e4 xs Q2 g4 TA rV hLx VS k13 ap8 k56 K4 HQ;obtain⟨O4,XT,G4,vg,D3⟩:=behind h4 xs g4 TA rV hLx;refine ZK g4.ok (n:=xs.length) O4 (by have:=G4.next;omega) XT hq vg (fun h=>by have:=hP3 X h;omega) hPκ hdP (by
    rcases hLx with h|⟨d,sd,h1,h2,h3⟩
    .exact .inl h
    .exact .inr ⟨d,sd,h1,h2,fun h=>by have:=lP d h;omega⟩) TA rfl (by have:=XP (mh ats) pk;omega) VS k13 ap8 ?_
   intro e6 h6 κ6 vX F K6 g6 wU E6 aii O6 hP6 hVF pC;refine HQ e6 h6 κ6 vX (qs.set j (q.1,F)) (K6.at k56) (K4.trans (K6.bU)) (G4.trans (g6.bU (fun x _ h=>hP3 x h))) wU (E1.trans E6) (fun b hb=>by rw[aii b (by have:=G4.next;omega),abb b hb]) O6 hP6 (by simp[Tv]) (fun i a c h1 h2=>?_);rw[fg] at h1;by_cases ei:j=i
   .subst ei;rw[aZ rfl,aZ (by omega)] at h1;cases h1;rw[hp] at h2;cases h2;exact⟨fun _=>⟨rfl,hVF,by show F.l=_;omega⟩,fun h=>by omega⟩
   .rw[aW ei] at h1;obtain⟨a1,a2⟩:=H i a c h1 h2;refine⟨fun h=>?_,fun h=>a2 (by omega)⟩;obtain⟨c1,c2,c3⟩:=a1 (by omega);exact⟨c1,c2.ext E6,c3⟩
  have fin:∀(e6:Env)(h6:ae)(κ6 vX:Nat->Nat)(SB:List (Int×SV)),ak e6 56=.int .i64 j->aA KpL e e6->ab (fun b=>κ0 b=3) hS h6->h6.tr.get X=some (.aC [r.P.v,r.L.v,.int .i64 r.kind,.bool r.on.1,.int .i64 r.on.2,r.T.v] false 0 sX)->Ext κ1 xB κ6 vX->(∀b,b<hS.next->κ6 b=κ1 b)->cn h6 n0 ai κ6 vX (rs.set k (ZS r))->eY gL h6 r.P SB->SB.length=r.ps.length->
    (∀(i:Nat)(q p:Int×SV),SB[i]?=some q->r.ps[i]?=some p->(i<j+1->Pm κ6 vX (pk.filter (mh ats)).length q p)/\(j+1<=i->q=p))->∃m,m<r.ps.length-j/\af8 hS κ0 κ1 xB n0 ai X sX k (pk.filter (mh ats)).length r rs [r.P.v,r.L.v,.int .i64 r.kind,.bool r.on.1,.int .i64 r.on.2,r.T.v] e m (Tr.set (Tr.set e6 117 (.int .i64 ((j:Int)+1))) 56 (.int .i64 ((j:Int)+1))) h6:=by
   intro e6 h6 κ6 vX SB a1 a2 a3 a4 a5 a55 a6 a7 a8 a9;refine⟨r.ps.length-(j+1),by omega,j+1,κ6,vX,SB,rfl,aS,?_,by simp,a3,a4,a5,a55,a6,a7,a8,a9⟩;exact aA.set (aA.set a2)
  simp;rcases aan xE with⟨e1,rfl⟩|⟨d,sd,e1,hd,Ri⟩
  .rw[e1] at k15;simp[k15];refine aG.call (V:=fun _ h4=>h4=h3) (by simpa using Xt h3 (.func (.func tA) #[] #[])) ?_;rintro v h4 rfl;simp;refine post h4 _ [] _ (.refl di.ok) (fun x hx=>by simp at hx) rfl (.inl ⟨e1,rfl⟩) (by simp[F0]) (by simp[V3]) (by rw[e1];simp[k15]) (by simp[m56]) (aA.set (aA.set K3')) ?_;intro e6 h6 κ6 vX SB a1 a2 a3 a4 a5 a55 a6 a7 a8 a9;simp[a1,wj];exact fin e6 h6 κ6 vX SB a1 a2 a3 a4 a5 a55 a6 a7 a8 a9
  .rw[e1] at k15;have Rv:rl.length<50:=by have:=XP (mh ats) pk;omega
   simp[k15];refine aG.call (V:=fun _ h4=>SA (fun x=>fk ai x.2) d rl.length 3 h3 h4) (by simpa using SU (P:=fun x=>fk ai x.2) (d:=d) (n:=rl.length) (o:=3) (c:=rl.length) (h0:=h3) aci Rv (h:=h3) ⟨.refl di.ok,rl,sd,hd,rfl,apA⟩) ?_;rintro v h4⟨g4,xs,sd4,hd4,rV,TA⟩;simp;refine post h4 _ xs _ (g4.bU (fun x _ e=>by have:=g2.next;omega)) TA rV (.inr ⟨d,sd4,by rw[rV];exact e1,hd4,by have:=g2.next;omega⟩) (by simp[F0]) (by simp[V3]) (by rw[e1];simp[k15]) (by simp[m56]) (aA.set (aA.set K3')) ?_;intro e6 h6 κ6 vX SB a1 a2 a3 a4 a5 a55 a6 a7 a8 a9;simp[a1,wj];exact fin e6 h6 κ6 vX SB a1 a2 a3 a4 a5 a55 a6 a7 a8 a9
 .have:j=r.ps.length:=by omega
  subst this;simp[TK,q56];have O2:=O'.aez (i:=k) (r:=ZS r) (P:=r.P) (ps:=qs) (by rw[fg,aZ rfl,aZ rN]) Rc hPκ (fun i x hx cq b hb=>hdP i x hx b hb) (fun q hq=>by obtain⟨i,hi⟩:=sv hq;have gY:=(cr.mp hi).1;have Yi:r.ps[i]?=some (r.ps[i]'(by omega)):=fI (by omega);obtain⟨a1,a2,_⟩:=(H i q _ hi Yi).1 (by omega);have:=(R.ps _ (dG Yi)).1;exact⟨by rw[a1];exact this,a2⟩)
  rw[List.set_set] at O2;exact C _ _ κ cap qs (K.set) g mf E1 abb O2 Tv (fun i q p h1 h2=>(H i q p h1 h2).1 (cr.mp h2).1)
def alW(h:ae)(n:Nat)(aO:List Nat)(d4:Nat)(e:Env)(m:Nat)(e':Env)(h2:ae):Prop:=
 ∃(j:Nat) (pI:List Int),m=aO.length-j/\j<=aO.length/\ak e' 30=.int .i64 j/\aA [30,6,7,31,32,33,34,35,36,37,38,39] e e'/\ab (· =d4) h h2/\(∃s,h2.tr.get d4=some (.aC (bj.flat pI) false 0 s))/\pI.length=n/\(∀i x:Nat,i<j->aO[i]?=some x->pI[x]?=some (i:Int))/\∀x,x<n->x∉aO.take j->pI[x]?=some (-1)
theorem ZG(ok:bm h)(nd:aO.Nodup)(dS:∀x∈aO,x<n)(hr:aO.length<=n)(hn:n<=1000){d4 s4:Nat}(hO:bc bj h O.v (nI aO))(hOd:∀b,ax O.v b->aO≠[]->b≠d4)(hA:h.tr.get d4=some (.aC (bj.flat (List.replicate n (-1:Int))) false 0 s4))(f5:ak e 5=.slice (some ⟨d4,0,none⟩) n n)(f28:ak e 28=O.v)(f29:ak e 29=.int .i64 aO.length)(f30:ak e 30=.int .i64 0)(C:∀e' h' LB,aA [30,6,7,31,32,33,34,35,36,37,38,39] e e'->ab (· =d4) h h'->(∃s,h'.tr.get d4=some (.aC (bj.flat LB) false 0 s))->LB.length=n->(∀i x:Nat,aO[i]?=some x->LB[x]?=some (i:Int))->(∀x,x<n->x∉aO->LB[x]?=some (-1))->QQ (.exit 0) e' h'):
  aB FF (.loop tF) e h QQ:=by
 have XS:O.l=aO.length:=by obtain⟨a,cap,e,_⟩:=hO;simp[nI] at e;exact e.2.1
 refine aB.loop (alW h n aO d4 e) ?_ (n:=aO.length) ⟨0,_,rfl,by omega,f30,aA.refl _ _,.refl ok,⟨s4,hA⟩,by simp,fun i x h=>by omega,fun x hx _=>by rw[UN,aZ hx]⟩;rintro m e' h2⟨j,pl,rfl,hj,LF,K,g2,⟨s,KA⟩,uj,B8,hno⟩;have q5:=K.at f5;have EO:=K.at f28;have W2:=K.at f29;unfold tF;by_cases aS:j<aO.length
 .obtain⟨x,hx⟩:=aE aO j aS;have Ft:=dS x (dG hx);have hO2:=Js hO ok g2 (fun cq b hb=>hOd b hb (fun e=>cq (by rw[e];rfl)));obtain⟨bO,aqE,amR,hOv,_,_,dj⟩:=hO2.read (Qe hx);have ro:=dj 0 1 (by decide);simp[-ag,nI] at ro hOv;have wj:=wrap_i64 ((j:Int)+1) (by omega) (by omega);have rV:x+1<=pl.length:=by omega
  simp at EO;rw[hOv.1,XS] at EO;simp[q5,EO,W2,LF,aS,ro,Ft,KA,rV,wj,-ag];have inj:∀i,aO[i]?=some x->i=j:=fun i hi=>by have h1:=(cr.mp hi).2;have h2:=(cr.mp hx).2;exact(List.getElem_inj nd).1 (h1.trans h2.symm)
  refine⟨aO.length-(j+1),by omega,j+1,pl.set x j,rfl,aS,by simp,?_,g2.trans (aQ g2.ok KA),⟨h2.clock,by rw[aD,oO pl x j (by omega)]⟩,by simp[uj],fun i y hi hy=>?_,fun y hy Tu=>?_⟩
  .repeat (refine aA.set ?_)
   exact K
  .rw[fg];by_cases e:x=y
   .subst e;rw[aZ rfl,aZ (by omega),inj i hy]
   .rw[aW e];by_cases e2:i=j
    .subst e2;rw[hx] at hy;cases hy;exact absurd rfl e
    .exact B8 i y (by omega) hy
  .rw[v9,hx] at Tu;rw[fg,aW (fun e=>Tu (by simp[e]))];exact hno y hy (fun h=>Tu (List.mem_append_left _ h))
 .have:j=aO.length:=by omega
  subst this;rw[we] at hno;simp[W2,LF];exact C _ _ pl (K.set) g2 ⟨s,KA⟩ uj (fun i x hx=>B8 i x (cr.mp hx).1 hx) hno
def Ls(ats:List Int)(t:Int):Int:=(ats[t.toNat]?).getD (-1)
def KtL:List Nat:=[21,22,122,123,124,125,126,127,128,129,130,131,132,133,134,135,136]
def alS(h:ae)(n0 ai X sX k:Nat)(κ cap:Nat->Nat)(ats:List Int)(r:XR)(rs:List XR)(xc:List Value)(e:Env)(m:Nat)(e':Env)(h':ae):Prop:=
 ∃(j:Nat) (ts:List Int),m=r.ts.length-j/\j<=r.ts.length/\aA KtL e e'/\ak e' 122=.int .i64 j/\ab (ax r.T.v) h h'/\h'.tr.get X=some (.aC xc false 0 sX)/\cn h' n0 ai κ cap (rs.set k {r with ts:=ts})/\ts=(r.ts.take j).map (Ls ats)++r.ts.drop j
theorem ZH(ok:bm h)(hA:h.tr.get dA=some (.aC (bj.flat ats) false 0 sA))(B7:ats.length=n)(hr:rs[k]?=some r)(O:cn h n0 ai κ cap rs)(nTA:¬ax r.T.v dA)(KY:∀t∈r.ts,0<=t/\t<n)(sG:r.ts.length<1000000)(hn:n<1000000)(hX:h.tr.get X=some (.aC [r.P.v,r.L.v,.int .i64 r.kind,.bool r.on.1,.int .i64 r.on.2,r.T.v] false 0 sX))(nTX:¬ax r.T.v X)(f5:ak e 5=.slice (some ⟨dA,0,none⟩) n n)(f12:ak e 12=.pointer (some ⟨X,0,none⟩))(f120:ak e 120=r.T.v)(f121:ak e 121=.int .i64 r.ts.length)(f122:ak e 122=.int .i64 0)(C:∀e' h',aA KtL e e'->ab (ax r.T.v) h h'->h'.tr.get X=some (.aC [r.P.v,r.L.v,.int .i64 r.kind,.bool r.on.1,.int .i64 r.on.2,r.T.v] false 0 sX)->cn h' n0 ai κ cap (rs.set k {r with ts:=r.ts.map (Ls ats)})->QQ (.exit 10) e' h'):
  aB FF (.loop tC) e h QQ:=by
 have rN:=(cr.mp hr).1;have R:=O.r k r hr;have xZ:=R.T.len;have aiH:rs.set k {r with ts:=r.ts} =rs:=by
  refine zS fun i=>?_;rw[fg];split
  .rename_i e;subst e;exact hr.symm
  .rfl
 refine aB.loop (alS h n0 ai X sX k κ cap ats r rs [r.P.v,r.L.v,.int .i64 r.kind,.bool r.on.1,.int .i64 r.on.2,r.T.v] e) ?_ (n:=r.ts.length) ⟨0,r.ts,rfl,by omega,aA.refl _ _,f122,.refl ok,hX,by rw[aiH];exact O,by simp⟩;rintro m e' h'⟨j,ts,rfl,hj,K,ajw,g,mf,O',qE⟩;have q5:=K.at f5;have lI:=K.at f12;have aeE:=K.at f120;have ajv:=K.at f121;have bz:=g.ok;unfold tC;by_cases aS:j<r.ts.length
 .have wj:=wrap_i64 ((j:Int)+1) (by omega) (by omega);have hx:r.ts[j]?=some r.ts[j]:=fI aS;have hm:=zT aS;generalize r.ts[j]=t at hx hm;obtain⟨VD,htn⟩:=KY t hm;obtain⟨u,rfl⟩:∃u:Nat,t=u:=⟨t.toNat,by omega⟩;have IK:u<n:=by omega
  have hrk:(rs.set k {r with ts:=ts})[k]?=some {r with ts:=ts} :=by rw[fg,aZ rfl,aZ rN]
  have R':=O'.r k _ hrk;have hjt:((r.ts.take j).map (Ls ats)).length=j:=by simp;omega
  have apM:ts[j]?=some (u:Int):=by rw[qE,Mu (by omega),hjt,Nat.sub_self,List.getElem?_drop,Nu,hx]
  obtain⟨b,cs,o,s,Fj,hb,Yc,eU,dj,gE⟩:=R'.T.el apM;have anP:=R'.T.len;dsimp only at Fj anP Yc;have r0:=dj 0 1 (by decide);simp[-ag] at r0;have hA':=g.get ok hA nTA;obtain⟨a,ha⟩:=aE ats u;have ra:=jI hA' ha;have htl':ts.length=r.ts.length:=by omega
  have dX:=mf;simp at dX aeE;rw[Fj,xZ] at dX aeE;have hf:=eU 0 1 (by decide);simp at hf;have hXn:=av dX;simp[q5,lI,aeE,ajv,ajw,aS,r0,dX,hXn,IK,ra,hb,hf,wj,ay,-ag];have hTb:ab (ax r.T.v) h' (put (tick h') b j cs [.int .i64 a] o):=by have gt:ab aK h' (tick h'):=(ab.refl bz).tick;exact gt.bl.trans ((aQ gt.ok hb).bU (fun x _ e=>e▸cw Fj))
  have ahq:=gE a 0 [.int .i64 a] (by simp) rfl (put (tick h') b j cs [.int .i64 a] o) ⟨(tick h').clock,by have:=aD (tick h') b j cs [.int .i64 a] o;simpa using this⟩;have O2:=O'.ary bz hrk hTb ahq rfl;rw[List.set_set] at O2;refine⟨r.ts.length-(j+1),by omega,j+1,ts.set j a,rfl,aS,?_,by simp,g.trans hTb,hTb.get bz mf nTX,O2,?_⟩
  .repeat (refine aA.set ?_)
   exact K
  .have hnt:Ls ats (u:Int)=a:=by simp[Ls,ha]
   rw[qE,List.set_append,aW (by omega),hjt,Nat.sub_self,v9,hx];have hd:r.ts.drop j=(u:Int)::r.ts.drop (j+1):=by rw[List.drop_eq_getElem_cons aS];have:=(cr.mp hx).2;rw[this]
   rw[hd,List.set_cons_zero];simp[hnt]
 .have:j=r.ts.length:=by omega
  subst this;rw[we,List.drop_length,List.append_nil] at qE;rw[qE] at O';simp[ajv,ajw];exact C _ _ (K.set) g mf O'
theorem DO{xs ys:List XR}(w:eY fC h A xs)(hl:ys.length=xs.length)(he:∀(i:Nat)(x y:XR),xs[i]?=some x->ys[i]?=some y->fC.enc y=fC.enc x):eY fC h A ys:=by
 have hf:∀bg,fC.flat (ys++bg)=fC.flat (xs++bg):=by
  intro bg;rw[fC.dN,fC.dN];congr 1;clear w;induction xs generalizing ys with
  |nil=>rw[JC hl]
  |cons x xs ih=>
   cases ys with
   |nil=>simp at hl
   |cons y ys=>
    rw[fC.eL,fC.eL,he 0 x y rfl rfl,ih (by simpa using hl) (fun i a b h1 h2=>he (i+1) a b h1 h2)]
 obtain⟨hA,w⟩:=w;refine⟨by omega,?_⟩;rcases w with⟨h1,h2,rfl⟩|⟨b,o,s,bg,h1,h2,h3,h4⟩
 .exact .inl ⟨h1,h2,JC hl⟩
 .exact .inr ⟨b,o,s,bg,h1,by omega,by rw[hf];exact h3,h4⟩
structure KR(ats:List Int)(pk:List Int)(r r':XR):Prop where
 P:r'.P=r.P
 L:r'.L=r.L
 T:r'.T=r.T
 kind:r'.kind=r.kind
 on:r'.on=r.on
 ls:r'.ls=r.ls
 ts:r'.ts=r.ts.map (Ls ats)
 pl:r'.ps.length=r.ps.length
 ps:∀(i:Nat)(q p:Int×SV),r'.ps[i]?=some q->r.ps[i]?=some p->q.1=p.1/\q.2.l=(pk.filter (mh ats)).length
def alV(h1:ae)(κ0 pP:Nat->Nat)(n0 ai n F R:Nat)(fc rc:List Value)(B O:SV)(c5 c8:Value)(ats:List Int)(ah:List (List Int))(aO:List Nat)(rs:List XR)(m:Nat)(e:Env)(h':ae):Prop:=
 ∃(i:Nat) (κ cap:Nat->Nat) (JI acc:List XR) (A:SV),m=aO.length-i/\i<=aO.length/\ak e 2=.pointer (some ⟨F,0,none⟩)/\ak e 4=.pointer (some ⟨R,0,none⟩)/\ak e 5=c5/\ak e 8=c8/\ak e 42=O.v/\ak e 43=.int .i64 aO.length/\ak e 44=.int .i64 i/\ak e 9=A.v/\
  ab (fun b=>κ0 b=3\/κ0 b=5) h1 h'/\Ext κ0 pP κ cap/\(∀b,b<h1.next->κ b=κ0 b)/\cn h' n0 ai κ cap JI/\(∀b,ax A.v b->κ b=0)/\eY fC h' B JI/\JI.length=n/\bH fC h1.next h' A.v acc/\acc.length=i/\
  (∀(j k:Nat)(a:XR),aO[j]?=some k->acc[j]?=some a->JI[k]?=some a)/\
  (∀(k:Nat)(r r':XR),rs[k]?=some r->JI[k]?=some r'->(k∈aO.take i->∃pk,ah[k]?=some pk/\KR ats pk r r')/\(k∉aO.take i->r'=r))
theorem Lg(xe:bm h1){n dA d8 n8 n0 ai F R sF sR:Nat}(TR:KB h1 κ0 n dA d8 n8 ats ws ah)(vj:rs.length=n)(wv:n0<=h1.next)(Os:cn h1 n0 ai κ0 pP rs)(hB:eY fC h1 B rs)(kB:∀b,ax B.v b->κ0 b=2){p r:Int}(hF:h1.tr.get F=some (.aC (aw name p r B) false 0 sF))(κF:κ0 F=0)(hR:h1.tr.get R=some (.aC [.string ⟨⟨[]⟩⟩,.int .i64 0,.int .i64 0,.slice none 0 0] false 0 sR))(κR:κ0 R=0)(nd:aO.Nodup)(dS:∀x∈aO,x<n)(hO:bc bj h1 O.v (nI aO))(κO:aO≠[]->∀b,ax O.v b->κ0 b=0)(KY:∀r∈rs,r.ts.length<1000000/\∀t∈r.ts,0<=t/\t<n)(iI:∀(k:Nat)(r:XR)(pk:List Int),rs[k]?=some r->ah[k]?=some pk->∀q∈r.ps,q.2.l=pk.length)(uj:∀r∈rs,r.ps.length<1000000){QQ:aT->Env->ae->Prop}(f2:ak e 2=.pointer (some ⟨F,0,none⟩))(f4:ak e 4=.pointer (some ⟨R,0,none⟩))(f5:ak e 5=.slice (some ⟨dA,0,none⟩) n n)(f8:ak e 8=.slice (some ⟨d8,0,none⟩) n n)(f42:ak e 42=O.v)(f43:ak e 43=.int .i64 aO.length)(f44:ak e 44=.int .i64 0)(f9:ak e 9=d_.v)(C:∀e' h' κ cap JI acc A,ak e' 2=.pointer (some ⟨F,0,none⟩)->ak e' 4=.pointer (some ⟨R,0,none⟩)->ak e' 9=SV.v A->ab (fun b=>κ0 b=3\/κ0 b=5) h1 h'->Ext κ0 pP κ cap->(∀b,b<h1.next->κ b=κ0 b)->cn h' n0 ai κ cap JI->(∀b,ax (SV.v A) b->κ b=0)->bH fC h1.next h' (SV.v A) acc->acc.length=aO.length->(∀(j k:Nat)(a:XR),aO[j]?=some k->acc[j]?=some a->JI[k]?=some a)->JI.length=n->
   (∀(k:Nat)(r r':XR),rs[k]?=some r->JI[k]?=some r'->k∈aO->∃pk,ah[k]?=some pk/\KR ats pk r r')->QQ (.exit 2) e' h'):
  aB FF (.loop tE) e h1 QQ:=by
 have hnn:=TR.nn;have XS:O.l=aO.length:=by obtain⟨a,cap,e,_⟩:=hO;simp[nI] at e;exact e.2.1
 have Vr:aO.length<=n:=by have:=gK_ nd (l₂:=List.range n) (fun x hx=>Kw.2 (dS x hx));simpa using this
 refine aB.loop (alV h1 κ0 pP n0 ai n F R (aw name p r B) [.string ⟨⟨[]⟩⟩,.int .i64 0,.int .i64 0,.slice none 0 0] B O (.slice (some ⟨dA,0,none⟩) n n) (.slice (some ⟨d8,0,none⟩) n n) ats ah aO rs) ?_ (n:=aO.length)
  ⟨0,κ0,pP,rs,[],d_,rfl,by omega,f2,f4,f5,f8,f42,f43,f44,f9,.refl xe,Ext.refl _ _,fun _ _=>rfl,Os,fun b hb=>(fS rfl hb).elim,hB,vj,.inl ⟨rfl,rfl⟩,rfl,fun j k a _ h=>by simp at h,fun k r r' h1 h2=>⟨fun h=>by simp at h,fun _=>by rw[h1] at h2;cases h2;rfl⟩⟩
 rintro m e' h'⟨i,κ,cap,JI,acc,A,rfl,hi,q2,q4,q5,q8,q42,Qn,Jb,q9,g,E1,κlo,O',κA',hB',Zt,xE,KG,Vz,H⟩;have bz:=g.ok;unfold tE;by_cases gY:i<aO.length
 .have wi:=wrap_i64 ((i:Int)+1) (by omega) (by omega);obtain⟨k,hk⟩:=aE aO i gY;have zZ:=dS k (dG hk);obtain⟨r0,AV⟩:=aE rs k;obtain⟨r1,rP⟩:=aE JI k;have aic:k∉aO.take i:=by
   intro hm;obtain⟨j,hj⟩:=sv hm;rw[FN] at hj;split at hj
   .have h1:=(cr.mp hj).2;have h2:=(cr.mp hk).2;have:=(List.getElem_inj nd).1 (h1.trans h2.symm);omega
   .cases hj
  have er:=(H k r0 r1 AV rP).2 aic;subst er;have w35:∀x,(κ0 x=3\/κ0 x=5)->κ0 x≠0:=fun x h=>by omega
  have KB':=TR.at xe (g.bU (fun x _ h=>w35 x h));obtain⟨sA,hA'⟩:=KB'.hA;obtain⟨pk,CK⟩:=aE ah k (by rw[TR.rows.len];exact zZ);obtain⟨wk,KZ⟩:=aE ws k (by rw[TR.acc.len,TR.rows.len];exact zZ);have hO':=Js hO xe g (fun cq b hb h=>w35 b h (κO (fun e=>cq (by rw[e];rfl)) b hb));obtain⟨bO,aqE,amR,hOv,_,_,apz⟩:=hO'.read (Qe hk);have ro:=apz 0 1 (by decide);simp[-ag,nI] at ro hOv;have vf:=g.get xe hF (fun h=>w35 F h κF);simp[aw] at vf;obtain⟨bB,cs,oB,sB,kC,PH,hjB,eU,dj,gE⟩:=hB'.el rP;have ez:=hB'.len;have LG:=dj 0 6 (by decide);simp[-ag] at LG;rw[kC,ez,Zt] at vf;simp at q42;rw[hOv.1,XS] at q42;have R1:=O'.r k r1 rP;have R0:=Os.r k r1 AV;have kj:=R1.P.len;have xZ:=R1.T.len;have oF:=bz.bC vf;simp[q2,q42,Qn,Jb,gY,ro,vf,zZ,LG,-ag,au,av vf,kj];refine aB.cut (fun h2=>ab aK h' h2/\∃s,h2.tr.get h'.next=some (.aC [r1.P.v,r1.L.v,.int .i64 r1.kind,.bool r1.on.1,.int .i64 r1.on.2,r1.T.v] false 0 s)) ?_ ?_
  .refine⟨(ab.refl bz).var _ _,h'.clock,?_⟩;simp[aH,kj]
  rintro h2⟨g2,sX,dX⟩;have ln:=g.next;have κX0:κ0 h'.next=0:=by
   rcases ve (κ0 h'.next) with h|h
   .exact h
   .have:=(Os.new h'.next (by omega)).2;omega
  have G2:ab (fun b=>κ0 b=3\/κ0 b=5) h1 h2:=g.trans (g2.bU (fun _ _ h=>h.elim));have O2:=O'.bl bz g2;have B2:=TR.at xe (G2.bU (fun x _ h=>w35 x h));refine RI g2.ok B2 rP O2 (by have:=G2.next;omega) (fun b hb=>(E1 b hb).1) (fun b hb=>R0.kP b hb) dX κX0 KZ CK (iI k r1 pk AV CK) (uj r1 (dG AV)) zZ (by simp[q5]) (by simp[q8]) (by simp) (by simp) (by simp[kj]) (by simp) (by simp) ?_;intro e3 h3 κ3 ace qs K3 g3 fe E3 z8 O3 adD H3;have G3:=G2.trans (g3.bU (fun x _ h=>(.inl h:κ0 x=3\/κ0 x=5)));have k2:=K3.at (t:=2) (by simp;exact q2);have k4:=K3.at (t:=4) (by simp;exact q4);have k5:=K3.at (t:=5) (by simp;exact q5);have k8:=K3.at (t:=8) (by simp;exact q8);have k9:=K3.at (t:=9) (by simp;exact q9);have VS:ak e3 12=.pointer (some ⟨h'.next,0,none⟩):=K3.at (t:=12) (by simp);have k42:=K3.at (t:=42) (by simp;exact q42);have k43:=K3.at (t:=43) (by simp;exact Qn);have k44:=K3.at (t:=44) (by simp;exact Jb);have hkC:k<JI.length:=by omega
  obtain⟨r3,YN⟩:∃r3:XR,r3= {r1 with ps:=qs} :=⟨_,rfl⟩;rw[<-YN] at O3;have hr3:(JI.set k r3)[k]?=some r3:=by rw[fg,aZ rfl,aZ hkC]
  have nT:∀b,κ0 b=0->¬ax r3.T.v b:=fun b hb h=>by rw[YN] at h;have:=R0.kT b h;omega
  obtain⟨sA3,Mw⟩:=(TR.at xe (G3.bU (fun x _ h=>w35 x h))).hA;have FQ:h3.tr.get h'.next=some (.aC [r3.P.v,r3.L.v,.int .i64 r3.kind,.bool r3.on.1,.int .i64 r3.on.2,r3.T.v] false 0 sX):=by rw[YN];exact fe
  have anQ:r3.T.l=r1.ts.length:=by rw[YN];exact xZ
  have adO:r3.ts=r1.ts:=by rw[YN]
  obtain⟨sG,htr⟩:=KY r1 (dG AV);simp at FQ;simp[VS,FQ];refine ZH G3.ok (n:=n) Mw TR.al hr3 O3 (nT _ TR.κA) (by rw[adO];exact htr) (by rw[adO];exact sG) (by omega) (by simpa using FQ) (nT _ κX0) (by simp[k5]) (by simp[VS]) (by simp) (by simp[anQ,adO]) (by simp) ?_;intro e4 h4 K4 g4 vg O4;have G4:ab (fun b=>κ0 b=3\/κ0 b=5) h1 h4:=G3.trans (g4.bU (fun x _ h=>by rw[YN] at h;have:=R0.kT x h;omega))
  have m2:=K4.at (t:=2) (by simp;exact k2);have m4:=K4.at (t:=4) (by simp;exact k4);have m5:=K4.at (t:=5) (by simp;exact k5);have m8:=K4.at (t:=8) (by simp;exact k8);have m9:=K4.at (t:=9) (by simp;exact k9);have F0:ak e4 12=.pointer (some ⟨h'.next,0,none⟩):=K4.at (t:=12) (by simp;exact VS);have m42:=K4.at (t:=42) (by simp;exact k42);have m43:=K4.at (t:=43) (by simp;exact k43);have m44:=K4.at (t:=44) (by simp;exact k44);rw[List.set_set] at O4;obtain⟨r4,er4⟩:∃r4:XR,r4= {r3 with ts:=r3.ts.map (Ls ats)} :=⟨_,rfl⟩;rw[<-er4] at O4;have NI:h4.tr.get h'.next=some (.aC (fC.enc r4) false 0 sX):=by rw[er4];exact vg
  simp only[qz] at NI;simp at NI m9;simp[m9,F0,NI];have hG:ab (fun b=>κ0 b=3\/κ0 b=5) h' h4:=(g2.bU (fun _ _ h=>h.elim)).trans ((g3.bU (fun x _ h=>(.inl h:κ0 x=3\/κ0 x=5))).trans (g4.bU (fun x _ h=>by rw[YN] at h;exact .inr (R0.kT x h))))
  
  have ahA:bH fC h1.next h4 A.v acc:=by exact xE.grow bz hG (fun b hb h=>by have:=xE.of hb;have:=(Os.new b (w35 b h)).2;omega)
  have g5:=aP G4.ok (fC.enc r4) 0;have B0:=ahA.grow G4.ok g5 (fun _ _ h=>h);have VE:bc fC (aJ h4 (fC.enc r4) 0) (.slice (some ⟨h4.next,0,none⟩) 1 1) [r4]:=⟨_,_,rfl,.inr ⟨h4.next,0,_,_,_,_,rfl,bS _ _ _,by simp,by simp⟩⟩;simp only[qz] at g5 B0 VE;simp at g5 B0 VE;have lG4:=G4.next;obtain⟨v',h6,ha6,YZ,g6,hd6⟩:=lJ (bytes:=96) g5.ok (z:=[.slice none 0 0,.slice none 0 0,.int .i64 0,.bool false,.int .i64 0,.slice none 0 0]) rfl B0 VE (by omega) (by decide) (by simp;omega);refine iE ha6 ?_;obtain⟨V,rfl⟩:=bH.Yu YZ;have lA:∀b,ax (.slice A.a A.l A.c) b->h1.next<=b:=fun b hb=>xE.of (by simpa using hb);have G6:ab (fun b=>κ0 b=3\/κ0 b=5) h1 h6:=(G4.trans (g5.bU (fun _ _ h=>h.elim))).trans' g6 (fun _ _ h=>h) (fun x hx h=>by have:=lA x h;omega);simp[m44,wi];refine⟨aO.length-(i+1),by omega,i+1,κ3,ace,JI.set k r4,acc++[r4],V,rfl,by omega,by simp[m2],by simp[m4],by simp[m5],by simp[m8],by simp[m42,hOv.1,XS],by simp[m43],by simp,by simp,G6,E1.trans E3,fun b hb=>by rw[z8 b (by have:=G2.next;omega),κlo b hb],?_,?_,?_,by simp[Zt],YZ,by simp[KG],?_,?_⟩
  .refine(O4.bl G4.ok g5).grow g5.ok g6 (fun b hb=>.inl ?_);have gk:ax A.v b:=by simpa using hb
   have NL:=xE.sl;have:b<h'.next:=by
    rcases xE with⟨_,e⟩|⟨b2,s2,e,cA,_⟩
    .rw[e] at gk;obtain⟨_,_,_,e3⟩:=gk;cases e3
    .rw[e] at gk;obtain⟨_,_,_,e3⟩:=gk;cases e3;exact bz.wf _ _ cA
   rw[z8 b (by have:=g2.next;omega),κA' b gk]
  .intro b hb;have:=hd6 b hb;simp at this;rcases ve (κ3 b) with h|h
   .exact h
   .have:=(O4.new b (by omega)).2;omega
  .have hBB:∀b,ax B.v b->¬(κ0 b=3\/κ0 b=5):=fun b hb h=>by have:=kB b hb;omega
   have hB4:=hB'.grow bz hG hBB;have hB6:=(hB4.bl G4.ok g5).grow g5.ok g6 (fun b hb h=>by have:=lA b h;have:=hB.bC xe hb;omega);refine DO hB6 (by simp) (fun j x y h1 h2=>?_);rw[fg] at h2;by_cases ej:k=j
   .subst ej;rw[aZ rfl,aZ hkC] at h2;cases h2;rw[rP] at h1;cases h1;rw[er4,YN];rfl
   .rw[aW ej] at h2;rw[h1] at h2;cases h2;rfl
  .intro j k' a h1 h2;rw[fg];by_cases hj:j<i
   .rw[Ky (by omega)] at h2;have cq:¬k=k':=fun e=>by subst e;have a1:=(cr.mp h1).2;have a2:=(cr.mp hk).2;have:=(List.getElem_inj nd).1 (a1.trans a2.symm);omega
    rw[aW cq];exact Vz j k' a h1 h2
   .rw[Mu (by omega)] at h2;have hj0:j-acc.length=0:=by have:=(cr.mp h2).1;simp at this;omega
    have Vj:j=i:=by omega
    subst Vj;rw[hj0] at h2;simp at h2;rw[hk] at h1;cases h1;rw[aZ rfl,aZ hkC,h2]
  .intro k' a c h1 h2;rw[v9,hk];rw[fg] at h2;by_cases ek:k=k'
   .subst ek;rw[aZ rfl,aZ hkC] at h2;cases h2;rw[AV] at h1;cases h1;refine⟨fun _=>⟨pk,CK,?_⟩,fun h=>absurd (List.mem_append_right _ (by simp)) h⟩;rw[er4,YN];exact⟨rfl,rfl,rfl,rfl,rfl,rfl,rfl,adD,fun i q p a b=>⟨(H3 i q p a b).1,(H3 i q p a b).2.2⟩⟩
   .rw[aW ek] at h2;obtain⟨c1,c2⟩:=H k' a c h1 h2;refine⟨fun h=>c1 ?_,fun h=>c2 (fun h'=>h (List.mem_append_left _ h'))⟩;rcases lE.1 h with h|h
    .exact h
    .simp at h;exact absurd h.symm ek
 .have:i=aO.length:=by omega
  subst this;rw[we] at H;simp[Qn,Jb];exact C _ _ κ cap JI acc A (by simp[q2]) (by simp[q4]) (by simp[q9]) g E1 κlo O' κA' xE KG Vz Zt (fun k r r' h1 h2=>(H k r r' h1 h2).1)
theorem cn.sel{rs xs:List XR}(w:cn h n0 ai κ cap rs)(f:Nat->Nat)(hs:∀(i:Nat)(x:XR),xs[i]?=some x->rs[f i]?=some x)(hf:∀i j:Nat,i<xs.length->j<xs.length->f i=f j->i=j):cn h n0 ai κ cap xs:=by
 have dd:∀(g:XR->SV),(∀(i j:Nat)(ri rj:XR)(b:Nat),rs[i]?=some ri->rs[j]?=some rj->i≠j->ax (g ri).v b->¬ax (g rj).v b)->∀(i j:Nat)(ri rj:XR)(b:Nat),xs[i]?=some ri->xs[j]?=some rj->i≠j->ax (g ri).v b->¬ax (g rj).v b:=by intro g d i j ri rj b h1 h2 hn;exact d (f i) (f j) ri rj b (hs i ri h1) (hs j rj h2) (fun e=>hn (hf i j (cr.mp h1).1 (cr.mp h2).1 e))
 exact⟨fun i x hx=>w.r (f i) x (hs i x hx),dd (·.P) w.dP,dd (·.L) w.dL,dd (·.T) w.dT,w.V,w.new⟩
structure ab3(rs:List XR)(aO:List Nat):Prop where
 T:TOk (bA rs)
 F9:rs.length<=72
 short:∀ps∈Edge.bD (bA rs),ps.length<50
 nd:aO.Nodup
 lt:∀x∈aO,x<rs.length
 pl:∀r∈rs,r.ps.length<1000000
 rows:∀(k:Nat)(r:XR)(pk:List Int),rs[k]?=some r->(Edge.bD (bA rs))[k]?=some pk->∀q∈r.ps,q.2.l=pk.length
def af7(name:ByteArray)(p r:Int)(n0 ai:Nat)(κ0:Nat->Nat)(rs:List XR)(aO:List Nat)(h:ae)(v:Value)(h':ae):Prop:=
 ab (fun b=>κ0 b=3\/κ0 b=5) h h'/\∃(B':SV) (cC:List XR) (κ cap:Nat->Nat) (ats:List Int),v=.agg ⟨aw name p r B'⟩/\(∀x,x<h.next->κ x=κ0 x)/\pV h' n0 ai κ cap B' cC/\cC.length=aO.length/\ats.length=rs.length/\
  (∀i x:Nat,aO[i]?=some x->ats[x]?=some (i:Int))/\(∀x,x<rs.length->x∉aO->ats[x]?=some (-1))/\
  ∀(i k:Nat)(a b:XR),aO[i]?=some k->rs[k]?=some a->cC[i]?=some b->∃pk,(Edge.bD (bA rs))[k]?=some pk/\KR ats pk a b
theorem Xf{dp:List (List Int)}(T:TOk dp):A0 dp.length (Edge.bD dp):=by
 have KY:∀ts∈dp,∀t∈ts,t.toNat<dp.length:=fun ts qE t ht=>by have:=T.to ts qE t ht;omega
 refine⟨Edge.eQ _,fun x ps iI=>⟨?_,fun p hp=>?_⟩⟩
 .have h1:=Edge.ov (n:=dp.length) (dy:=dp) T.two x dp.length;have h2:((Edge.upto dp.length dp dp.length)[x]?).getD []=ps:=by show((Edge.bD dp)[x]?).getD []=ps;rw[iI];rfl
  rw[h2] at h1;have:=T.len;omega
 .have hm:=(Edge.w_ KY (u:=x) (x:=p)).1 (by rw[iI];exact hp);obtain⟨i,rfl,ts,ht,_⟩:=hm;have:=(cr.mp ht).1;omega
theorem RH(ok:bm h){name:ByteArray}{p r:Int}(W:pV h n0 ai κ0 pP B rs)(wv:n0<=h.next)(I:ab3 rs aO)(hO:bc bj h O.v (nI aO))(κO:aO≠[]->∀b,ax O.v b->κ0 b=0):
  aF FF wz [.agg ⟨aw name p r B⟩,O.v] h (af7 name p r n0 ai κ0 rs aO h):=by
 have ez:=W.A.len;have h24:=I.F9;have XS:O.l=aO.length:=by obtain⟨a,cap,e,_⟩:=hO;simp[nI] at e;exact e.2.1
 have Vr:aO.length<=rs.length:=by have:=gK_ I.nd (l₂:=List.range rs.length) (fun x hx=>Kw.2 (I.lt x hx));simpa using this
 have κnew:∀b,h.next<=b->κ0 b=0:=fun b hb=>by
  rcases ve (κ0 b) with h|h
  .exact h
  .have:=(W.os.new b (by omega)).2;omega
 refine aF.of J1 ?_;unfold BM;have n2:¬h.next=h.next+1+1:=by omega
 simp[aw,n2];refine aG.cut (fun h1=>ab aK h h1/\(∃s,h1.tr.get h.next=some (.aC (aw name p r B) false 0 s))/\(∃s,h1.tr.get (h.next+1)=some (.aC [.string ⟨⟨[]⟩⟩,.int .i64 0,.int .i64 0,.slice none 0 0] false 0 s))/\(∃s,h1.tr.get (h.next+1+1)=some (.aC [.int .i64 (-1)] false 0 s))) ?_ ?_
 .exact⟨(((ab.refl ok).new _ _).new _ _).new _ _,⟨0,by simp[aw,n2]⟩,⟨0,by simp⟩,⟨0,by simp⟩⟩
 rintro h1⟨g1,⟨sF,xX⟩,⟨sR,uK⟩,⟨s1,Zk⟩⟩;refine aG.call (V:=fun v h'=>ab aK h1 h'/\∃d s,v=.slice (some ⟨d,0,none⟩) rs.length rs.length/\h1.next<=d/\h'.tr.get d=some (.aC (bj.flat (List.replicate rs.length (-1:Int))) false 0 s)) (by simpa [ez] using ES g1.ok rs.length (by omega) (x:= -1) Zk) ?_;rintro _ h2⟨g2,dA,sA,rfl,hdA,KA⟩;have mz:=g1.trans g2;have mI:=g2.get g1.ok xX;have AO:=g2.get g1.ok uK;have lR:=g1.ok.wf _ _ uK;simp[XS];refine ZG mz.ok (n:=rs.length) I.nd I.lt Vr (by omega) (hO.bl ok mz) (fun b hb cq e=>?_) KA (by simp) (by simp[XS]) (by simp) (by simp) ?_
 .subst e;have dS:b<h.next:=by
   obtain⟨off,nn,iL,e1⟩:=hb;obtain⟨a,cap,e2,hx⟩:=hO;rcases hx with⟨h1,_⟩|⟨b2,ZV,cs2,ro2,o2,Xy,e3,cA,_⟩
   .have:(nI aO).length=0:=by rw[h1];rfl
    simp[nI] at this;exact absurd this cq
   .rw[e1,e3] at e2;injection e2 with e2;cases e2;exact ok.wf _ _ cA
  have:=g1.next;omega
 intro e3 h3 ats K3 g3 ⟨sA3,Mw⟩ B7 B8 hno;have di:ab aK h h3:=mz.trans' g3 (fun _ _ h=>h) (fun x hx e=>by have:=g1.next;omega);have xD:=g3.get mz.ok mI (by omega);have zh:=g3.get mz.ok AO (by omega);have W3:=W.bl ok di;obtain⟨bs,KH,hV⟩:=W3.view;have E:=hV.ends I.T;have N7:=hV.dy;have k1:ak e3 1=O.v:=K3.at (t:=1) (by simp[XS]);have k2:ak e3 2=.pointer (some ⟨h.next,0,none⟩):=K3.at (t:=2) (by simp);have k4:ak e3 4=.pointer (some ⟨h.next+1,0,none⟩):=K3.at (t:=4) (by simp);have k5:ak e3 5=.slice (some ⟨dA,0,none⟩) rs.length rs.length:=K3.at (t:=5) (by simp);simp[aw] at xD;simp[k2,xD];refine aG.call (V:=fun v h'=>ab aK h3 h'/\∃d ws,v=.slice (some ⟨d,0,none⟩) bs.length bs.length/\jU bj h3.next h' d ws (Edge.bD (bt bs))) (by simpa [aw] using oo di.ok (name:=name) (p:=p) (r:=r) KH E) ?_;rintro _ h4⟨g4,d8,ws,rfl,w8⟩;rw[N7] at w8;have vh:bs.length=rs.length:=hV.1;rw[vh];have me:=di.trans g4;have GL:=g4.get di.ok xD;have U5:=g4.get di.ok zh;have YY:=g4.get di.ok Mw;have W4:=W.bl ok me;have sG:(bA rs).length=rs.length:=by simp[bA]
 have RW:=Xf I.T;rw[sG] at RW;have ln1:=g1.next;have ln3:=di.next;have TR:KB h4 κ0 rs.length dA d8 h3.next ats ws (Edge.bD (bA rs)):=⟨by omega,⟨sA3,YY⟩,B7,w8,κnew dA (by omega),fun b hb=>by have:=(W.os.new b hb).2;omega,RW,I.short⟩;have KY:∀x∈rs,x.ts.length<1000000/\∀t∈x.ts,0<=t/\t<rs.length:=by intro x hx;have hm:x.ts∈bA rs:=dZ.2 ⟨x,hx,rfl⟩;refine⟨by have:=I.T.two _ hm;omega,fun t ht=>?_⟩;have:=I.T.to _ hm t ht;rw[sG] at this;exact this
 simp[k1,XS];refine Lg me.ok TR rfl (by have:=me.next;omega) W4.os W4.A W4.kB GL (κnew _ (by omega)) U5 (κnew _ (by omega)) I.nd I.lt (hO.bl ok me) κO KY I.rows I.pl (by simp[k2]) (by simp[k4]) (by simp[k5]) (by simp) (by simp[XS]) (by simp) (by simp) (by simp[d_]) ?_;intro e5 h5 κ cap JI acc A q2 q4 q9 g5 E5 κlo O5 κA5 xE KG Vz Zt H5;have w35:∀x,(κ0 x=3\/κ0 x=5)->κ0 x≠0:=fun x h=>by omega
 have NB:=g5.get me.ok GL (fun h=>w35 _ h (κnew _ (by omega)));have GM:=g5.get me.ok U5 (fun h=>w35 _ h (κnew _ (by omega)));simp at q9;simp[q2,q4,q9,NB,GM];have ln4:=me.next;have ln5:=g5.next;have κ0n:∀x,h.next<=x->x<h4.next->κ x=0:=fun x h1 h2=>by rw[κlo x h2];exact κnew x h1
 have B0:eY fC h5 A acc:=by
  rcases xE with⟨e1,e2⟩|⟨b,s,e2,hb,hx,lq⟩
  .simp at e2;exact⟨by rw[e1];exact e2.2.1,.inl ⟨e2.1,e2.2.2,e1⟩⟩
  .simp at e2;exact⟨e2.2.1,.inr ⟨b,_,s,[],e2.1,by simp[e2.2.2],by simpa using hb,.inr rfl⟩⟩
 have arw:∀(i:Nat)(x:XR),acc[i]?=some x->∃k,aO[i]?=some k/\JI[k]?=some x:=by
  intro i x hx;have hi:i<aO.length:=by rw[<-KG];exact(cr.mp hx).1
  exact⟨_,fI hi,Vz i _ x (fI hi) hx⟩
 have OA:=O5.sel (xs:=acc) (fun i=>(aO[i]?).getD 0) (fun i x hx=>by
  obtain⟨k,h1,h2⟩:=arw i x hx;rw[h1];exact h2) (fun i j hi hj e=>by
  have zi:i<aO.length:=by omega
  have Rm:j<aO.length:=by omega
  rw[fI zi,fI Rm] at e;exact(List.getElem_inj I.nd).1 e)
 have lA:∀b,ax A.v b->h4.next<=b:=fun b hb=>xE.of hb;obtain⟨κ',w',e'⟩:=cn.own OA g5.ok B0 (dw n0) (fun b hb=>⟨by have:=lA b hb;omega,κA5 b hb⟩);have κ'0:∀x,h.next<=x->x<h4.next->κ' x=0:=fun x h1 h2=>by rw[e' x (fun hb=>by have:=lA x hb;omega)];exact κ0n x h1 h2
 have l2:=g2.next;have l3:=g3.next;have l4:=g4.next;have gw:=((ab.refl g5.ok).put (S:=fun x=>x=h.next\/x=h.next+1) (off:=3) (vs:=[Value.slice A.a A.l A.c]) ⟨_,NB⟩ (.inr (.inl rfl))).put (b:=h.next+1) (off:=0) (cs:=[Value.string ⟨⟨[]⟩⟩,Value.int IntKind.i64 0,Value.int IntKind.i64 0,Value.slice none 0 0]) (o:=0) (vs:=[Value.string name,Value.int IntKind.i64 p,Value.int IntKind.i64 r,Value.slice A.a A.l A.c]) ⟨sR,by simp[GM]⟩ (.inr (.inr rfl));generalize put (put h5 _ _ _ _ _) _ _ _ _ _=h6 at gw⊢;refine⟨?_,A,acc,κ',cap,ats,by simp[aw],fun x hx=>by rw[e' x (fun hb=>by have:=lA x hb;omega),κlo x (by omega)],w'.grow g5.ok gw (fun b hb=>?_),KG,B7,B8,hno,fun i k a b h1 h2 h3=>?_⟩
 .exact(me.trans' g5 (S:=fun b=>κ0 b=3\/κ0 b=5) (fun _ _ h=>h.elim) (fun _ _ h=>h)).trans' gw (fun _ _ h=>h) (fun x hx e=>by omega)
 .rcases hb with e|e<;>(rw[e];exact κ'0 _ (by omega) (by omega))
 .exact H5 k a b h2 (Vz i k b h1 h3) (dG h1)
theorem AF(E:Enc α)(ys zs:List α)(i:Nat):aH (E.flat ys) (i*E.sz) (E.flat zs)=E.flat (ys.take i++zs++ys.drop (i+zs.length)):=by unfold aH;rw[E.gW,E.bI,<-tw,E.kZ,E.dN,E.dN]
def IxI(h:ae)(W:SV)(t:Int)(xs:List Int)(m:Nat)(e:Env)(h2:ae):Prop:=
 ∃j:Nat,m=xs.length-j/\j<=xs.length/\ak e 0=W.v/\ak e 1=.int .i64 t/\ak e 7=.int .i64 xs.length/\ak e 8=.int .i64 j/\h2=h/\∀k,k<j->xs[k]? ≠some t
theorem Lb{xs:List Int}(hW:bc bj h W.v xs)(hl:xs.length<1000000)(ht:t∈xs):
  aF FF il [W.v,.int .i64 t] h (fun v h'=>h'=h/\∃k:Nat,v=.int .i64 k/\xs[k]?=some t):=by
 have FP:W.l=xs.length:=by obtain⟨a,cap,e,_⟩:=hW;simp at e;exact e.2.1
 refine aF.of lZ ?_;unfold ie;simp[FP];refine aB.loop (IxI h W t xs) ?_ (n:=xs.length) ⟨0,rfl,by omega,by simp[FP],by simp,by simp,by simp,rfl,fun k hk=>by omega⟩;rintro m e h2⟨j,rfl,hj,f0,f1,f7,f8,rfl,hn⟩;unfold gq;have aS:j<xs.length:=by
  rcases zf j xs.length with h|h
  .exact h
  .obtain⟨k,hk⟩:=sv ht;exact absurd hk (hn k (by have:=(cr.mp hk).1;omega))
 have wj:=wrap_i64 ((j:Int)+1) (by omega) (by omega);obtain⟨x,hx⟩:=aE xs j aS;obtain⟨bW,ajn,agA,XX,_,_,dj⟩:=hW.read hx;have ro:=dj 0 1 (by decide);simp[-ag] at ro XX;simp at f0;rw[XX.1,FP] at f0;by_cases e1:t=x
 .subst e1;simp[f0,f1,f7,f8,aS,ro,-ag];exact⟨j,rfl,hx⟩
 .have e2:(t==x)=false:=by simp[e1]
  simp[f0,f1,f7,f8,aS,ro,e2,wj,-ag];refine⟨xs.length-(j+1),by omega,j+1,rfl,by omega,by simp[f0,XX.1,FP],by simp[f1],by simp[f7],by simp,rfl,fun k hk he=>?_⟩;rcases zf k j with h|h
  .exact hn k h he
  .have:k=j:=by omega
   subst this;rw[hx] at he;cases he;exact e1 rfl
def YA(F:SV)(b o:Nat)(vs:List (Bool×Int))(l:Nat)(y:Bool×Int)(h:ae)(v:Value)(h':ae):Prop:=
 ∃(F':SV) (vs':List (Bool×Int)),v=F'.v/\F'.a=F.a/\F'.l=l/\F'.c=F.c/\ab (· =b) h h'/\(∃s',h'.tr.get b=some (.aC (bx.flat vs') false o s'))/\vs'.length=vs.length/\∀v∈vs',v∈vs\/v=y
theorem UL(y:Bool×Int):bx.flat [y]=[.bool y.1,.int .i64 y.2]:=rfl
theorem RF(ok:bm h){F:SV}(ha:F.a=some ⟨b,0,none⟩)(hc:F.c=vs.length)(dS:F.l<F.c)(ho:o=0\/o=2)(hb:h.tr.get b=some (.aC (bx.flat vs) false o s)){x xo xc QE xs:Nat}{QD:List Value}{y:Bool×Int}(hx:h.tr.get x=some (.aC QD false QE xs))(hv:aV h x xo 2=some [.bool y.1,.int .i64 y.2])(Tp:b≠x)(i:Nat)(hi:i<=F.l)(bY:F.l<1000000):
  aF FF gD [F.v,.int .i64 i,.slice (some ⟨x,xo,none⟩) 1 xc] h (YA F b o vs (F.l+1) y h):=by
 have q1:Nat.ble i F.l=true:=by simpa using hi
 have q2:Nat.blt F.l F.c=true:=by simpa using dS
 have q3:(Nat.beq o 2||Nat.beq o 0)=true:=by rcases ho with rfl|rfl<;>rfl
 have q4:Nat.ble (0+F.c*2) (bx.flat vs).length=true:=by rw[bx.bI,hc];simp
 have q5:Nat.beq b x=false:=by
  cases e:Nat.beq b x with
  |true=>exact absurd (mH e) Tp
  |false=>rfl
 have q6:Nat.blt F.l 1000000=true:=by simpa using bY
 have e1:Go.AI.aI (bx.flat vs) [.bool y.1,.int .i64 y.2] 0 i F.l 2=bx.flat (vs.take i++[y]++(vs.drop i).take (F.l-i)):=by have a1:=bx.gW vs i;have a2:=bx.kZ vs i;have a3:=bx.gW (vs.drop i) (F.l-i);simp only[dI] at a1 a2 a3;unfold Go.AI.aI;rw[List.drop_zero,a1,BX,a2,a3,bx.dN,bx.dN,UL]
 have e2:aH (bx.flat vs) 0 (Go.AI.aI (bx.flat vs) [.bool y.1,.int .i64 y.2] 0 i F.l 2)=bx.flat ((vs.take i++[y]++(vs.drop i).take (F.l-i))++vs.drop (F.l+1)):=by have:=AF bx vs (vs.take i++[y]++(vs.drop i).take (F.l-i)) 0;rw[Nat.zero_mul,List.take_zero,List.nil_append,BX,<-e1] at this;rw[this];congr 3;simp;omega
 have hp:rmV 2 [F.v,.int .i64 i,.slice (some ⟨x,xo,none⟩) 1 xc] h=some (.slice (some ⟨b,0,none⟩) (F.l+1) F.c,{put h b 0 (bx.flat vs) (Go.AI.aI (bx.flat vs) [.bool y.1,.int .i64 y.2] 0 i F.l 2) o with next:=h.next+8}):=by show rmV 2 [.slice F.a F.l F.c,.int .i64 (.ofNat i),.slice (some ⟨x,xo,none⟩) 1 xc] h=_;rw[ha];simp only[rmV,hb,hx,q1,q2,q3,q4,q5,q6,Nat.beq_refl,Bool.and_true,Bool.not_false,if_true,hv]
 refine aF.run mC hp ⟨⟨F.a,F.l+1,F.c⟩,(vs.take i++[y]++(vs.drop i).take (F.l-i))++vs.drop (F.l+1),by simp[ha],rfl,rfl,rfl,?_,⟨h.clock,by rw[<-e2];simp[put,Tr.az]⟩,?_,?_⟩
 .have g:=aQ (off:=0) (vs:=Go.AI.aI (bx.flat vs) [.bool y.1,.int .i64 y.2] 0 i F.l 2) ok hb;exact⟨Nat.le_add_right _ _,g.clock,fun b' h1 h2=>g.same b' h1 h2,⟨fun b' o' h'=>Ix (g.ok.wf b' o' h') (Nat.le_add_right _ _),g.ok.st⟩⟩
 .simp;omega
 .intro v IL;simp only[lE,List.mem_singleton] at IL;rcases IL with((h1|h1)|h1)|h1
  .exact .inl (Nv h1)
  .exact .inr h1
  .exact .inl (List.mem_of_mem_drop (Nv h1))
  .exact .inl (List.mem_of_mem_drop h1)
theorem Ux(ok:bm h){b o s c l k K N:Nat}(hc:c=vs.length)(hl:l<=c)(hb:h.tr.get b=some (.aC (bx.flat vs) false o s))(hk:k<l)(hK:K=k+1)(hN:N=l-1)(bY:l<1000000):
  ∃h2 vs2,nD h [.bool false,.int .i64 0] 16 false (.slice (some ⟨b,0,none⟩) k c) (.slice (some ⟨b,K*2,none⟩) (l-K) (c-K))=some (.slice (some ⟨b,0,none⟩) N c,h2)/\ab (· =b) h h2/\(∃s,h2.tr.get b=some (.aC (bx.flat vs2) false o s))/\vs2.length=vs.length/\∀v∈vs2,v∈vs:=by
 have hM:((vs.drop K).take (l-K)).length=l-K:=by simp;omega
 have hw:bc bx h (.slice (some ⟨b,K*2,none⟩) (l-K) (c-K)) ((vs.drop K).take (l-K)):=by
  refine⟨_,_,by rw[hM],.inr ⟨b,K*2,_,_,_,_,rfl,hb,?_,?_⟩⟩
  .rw[hM,bx.bI,dI];omega
  .have a2:=bx.kZ vs K;have a3:=bx.gW (vs.drop K) (l-K);simp only[dI] at a2 a3;rw[hM,dI,a2,a3]
 unfold nD;rw[I2 (E:=bx) (z:=[.bool false,.int .i64 0]) rfl hw,hM];dsimp only;rcases ve (l-K) with h0|h0
 .refine⟨h,vs,?_,.refl ok,⟨s,hb⟩,rfl,fun v hv=>hv⟩;have:N=k:=by omega
  have q:k<=c:=by omega
  rw[h0,this];simp[ib,q]
 .obtain⟨M,hM'⟩:∃M,M=l-K:=⟨_,rfl⟩;rw[<-hM'] at h0 hM⊢;have r1:roomy N=true:=by simp[roomy];omega
  have r2:roomy (N*16)=true:=by simp[roomy];omega
  have q1:N<=c:=by omega
  have q2:¬M=0:=by omega
  have e1:k+M=N:=by omega
  have iC:(bx.flat ((vs.drop K).take M)).length=M*2:=by rw[bx.bI,hM,dI]
  have q3:k*2+M*2<=(bx.flat vs).length:=by rw[bx.bI,dI];omega
  have q4:k*2+M*2<=vs.length*2:=by omega
  refine⟨put h b (k*2) (bx.flat vs) (bx.flat ((vs.drop K).take M)) o,vs.take k++(vs.drop K).take M++vs.drop (k+M),?_,aQ ok hb,⟨h.clock,?_⟩,?_,?_⟩
  .simp[ib,r1,r2,q1,q2,hb,iC,q4,e1]
  .rw[aD];have:=AF bx vs ((vs.drop K).take M) k;rw[hM] at this;simp only[dI] at this;rw[this]
  .simp;omega
  .intro v hv;simp only[lE] at hv;rcases hv with(h1|h1)|h1
   .exact Nv h1
   .exact List.mem_of_mem_drop (Nv h1)
   .exact List.mem_of_mem_drop h1
theorem QY(ok:bm h){F:SV}(ha:F.a=some ⟨b,0,none⟩)(hc:F.c=vs.length)(hl:F.l<=F.c)(ho:o=0\/o=2)(hb:h.tr.get b=some (.aC (bx.flat vs) false o s))(k:Nat)(hk:k<F.l)(bY:F.l<1000000):
  aF FF gC [F.v,.int .i64 k,.int .i64 ((k:Int)+1)] h (YA F b o vs (F.l-1) (false,0) h):=by
 obtain⟨K,hK⟩:∃K,K=k+1:=⟨_,rfl⟩;obtain⟨N,hN⟩:∃N,N=F.l-1:=⟨_,rfl⟩;have eK:((k:Int)+1)=(K:Int):=by omega
 rw[eK];have q1:K<=F.l:=by omega
 have q2:k<=K:=by omega
 have q3:((k:Int)==(K:Int))=false:=by simp;omega
 have q4:K<=F.c:=by omega
 have q5:k<=F.l:=by omega
 have q6:k<=F.c:=by omega
 refine aF.of mB ?_;unfold gy;have q7:(Nat.beq o 0||Nat.beq o 2)=true:=by rcases ho with rfl|rfl<;>rfl
 simp[ha,q1,q2,q3,q4,q5,q6,q7,hl,hb];obtain⟨h2,vs2,ea,g2,⟨s2,cA⟩,sE,hv2⟩:=Ux (N:=N) (bh ok).ok hc hl (by simpa using hb) hk hK hN bY;refine Au ea ?_;have q8:N<=F.l:=by omega
 have q9:N<=F.c:=by omega
 have y9:F.l-N=1:=by omega
 have mK:N*2+2<=vs2.length*2:=by omega
 have hr:jP [Value.bool false,Value.int IntKind.i64 0] 1=[.bool false,.int .i64 0]:=rfl;simp[q7,q8,q9,y9,mK,hl,cA,hr];have g3:=aQ (off:=N*2) (vs:=[.bool false,.int .i64 0]) g2.ok cA;refine⟨⟨some ⟨b,0,none⟩,N,F.c⟩,vs2.set N (false,0),by simp,ha.symm,hN,rfl,((bh ok).bl.trans g2).trans g3,⟨h2.clock,?_⟩,by simp[sE],fun x hx=>?_⟩
 .rw[aD];have:=bx.eD vs2 N (false,0) (by omega);simp only[dI,qB] at this;rw[this]
 .rcases Kx hx with h|h
  .exact .inl (hv2 _ h)
  .exact .inr h
section
variable{h h':ae}{n0 ai:Nat}{κ cap:Nat->Nat}{rs:List XR}
theorem cn.BA(w:cn h n0 ai κ cap rs)(ok:bm h)(hk:κ b=1)(g:ab (· =b) h h')(hb:∃s,h'.tr.get b=some (.aC (bx.flat vs) false o s))(ho:o=0\/o=2)(hl:vs.length=cap b)(hv:∀v∈vs,fk ai v):cn h' n0 ai κ cap rs:=by
 refine⟨fun i r hr=>(w.r i r hr).aaW ok g (fun x hx=>by subst hx;omega),w.dP,w.dL,w.dT,fun x hx=>?_,fun x hx=>by have:=w.new x hx;have:=g.next;omega⟩;by_cases e:x=b
 .subst e;obtain⟨s,hb⟩:=hb;exact⟨vs,o,s,hb,ho,hl,hv⟩
 .obtain⟨vs',o',s',h1,h2⟩:=w.V x hx;exact⟨vs',o',s',g.get ok h1 e,h2⟩
theorem pV.BA{B:SV}(w:pV h n0 ai κ cap B rs)(ok:bm h){b:Nat}(hk:κ b=1)(g:ab (· =b) h h'){vs:List (Bool×Int)}{o:Nat}(hb:∃s,h'.tr.get b=some (.aC (bx.flat vs) false o s))(ho:o=0\/o=2)(hl:vs.length=cap b)(hv:∀v∈vs,fk ai v):pV h' n0 ai κ cap B rs:=
 ⟨w.os.BA ok hk g hb ho hl hv,w.A.grow ok g (fun x hx e=>by have:=w.kB x hx;subst e;omega),w.kB⟩
end
def ame:List Nat:=[79,80,81,82,83,84,85,86,87,88,89,90,91,92,93,94,95,96,97,98,99]
theorem W_(ok:bm h)(O:pV h n0 ai κ cap B rs){F X1 X2 y i k j sF:Nat}{p rg:Int}(hF:h.tr.get F=some (.aC (aw name p rg B) false 0 sF))(κF:κ F=0)(hr:rs[y]?=some r)(hq:r.ps[i]?=some q)(yS:∃s,h.tr.get X1=some (.aC [.int .i64 q.1,q.2.v] false 0 s))(κ1:κ X1=0)(dX:∃s,h.tr.get X2=some (.aC [.bool v.1,.int .i64 v.2] false 0 s))(κ2:κ X2=0)(hv:fk ai v)(hk:k<q.2.l)(hj:j+1<=q.2.l)(Tv:q.2.l<1000000)(gY:r.ps.length<1000000)(f0:ak e 0=.pointer (some ⟨F,0,none⟩))(f8:ak e 8=.int .i64 y)(f9:ak e 9=.int .i64 k)(f10:ak e 10=.int .i64 j)(f13:ak e 13=.int .i64 i)(f14:ak e 14=.pointer (some ⟨X1,0,none⟩))(f15:ak e 15=.pointer (some ⟨X2,0,none⟩))(C:∀e' h' F',aA ame e e'->ab (fun b=>κ b=1\/κ b=3) h h'->F'.l=q.2.l->pV h' n0 ai κ cap B (rs.set y {r with ps:=r.ps.set i (q.1,F')})->QQ .normal e' h'):aB FF Jc e h QQ:=by
 obtain⟨s1,yS⟩:=yS;obtain⟨s2,dX⟩:=dX;have R:=O.os.r y r hr;have Aa:=(cr.mp hr).1;have aoG:=(cr.mp hq).1;obtain⟨bB,cs,oB,sB,kC,PH,hjB,eU,dj,gE⟩:=O.A.el hr;have κB:κ bB=2:=O.kB bB (cw kC);have LG:=dj 0 1 (by decide);simp[-ag] at LG;have UY:=O.A.len;have mI:=hF;simp[aw] at mI;rw[kC,UY] at mI;have apG:=ok.st _ _ _ _ _ hF;have apF:=ok.st _ _ _ _ _ PH;have aiO:=ok.st _ _ _ _ _ yS;have tY:=ok.st _ _ _ _ _ dX;have oF:=ok.bC hF;have oX2:=ok.bC dX;obtain⟨hVl,hVA|⟨b,hVa,ZC,hVc⟩⟩:=(R.ps q (dG hq)).2
 .omega
 obtain⟨vs,o,s,hb,ho,Fq,x5⟩:=O.os.V b ZC;have kj:=R.P.len;have wk:=wrap_i64 ((k:Int)+1) (by omega) (by omega);simp at yS;rw[hVa] at yS;unfold Jc;simp[f0,f8,f9,f10,f13,f14,f15,mI,Aa,LG,yS,dX,wk,-ag,av mI,av yS,av dX,ay,aN,oF,oX2];refine aU.cut (fun h2=>ab aK h h2/\h.clock<=h2.clock/\h2.tr.get h.next=some (.aC [.bool v.1,.int .i64 v.2] false 0 0)) ?_ ?_
 .exact⟨(bh ok).trans (aP (bh ok).ok _ _),Nat.le_succ _,by simp⟩
 rintro h2⟨g2,JD,Rd⟩;have cA:=g2.get ok hb;have UX:=g2.get ok PH;have Iz:=g2.get ok mI;have anX:=g2.get ok dX;have O2:=O.bl ok g2;refine aU.call (V:=YA q.2 b o vs (q.2.l-1) (false,0) h2) (by simpa [hVa] using QY g2.ok (F:=q.2) hVa (by omega) hVl ho cA k hk Tv) ?_;rintro _ h3⟨F3,vs3,rfl,Zb,Ye,hc3,g3,⟨s3,x4⟩,hvl3,hvv3⟩;have O3:=O2.BA g2.ok ZC g3 ⟨s3,x4⟩ ho (by omega) (fun v hv=>by
  rcases hvv3 v hv with h|h
  .exact x5 v h
  .rw[h];intro h;cases h)
 have nb1:¬h.next=b:=fun e=>by have:=ok.wf _ _ hb;omega
 have nb2:¬X2=b:=fun e=>by rw[e] at κ2;omega
 have nbF:¬F=b:=fun e=>by rw[e] at κF;omega
 have nbB:¬bB=b:=fun e=>by rw[e] at κB;omega
 have PI:=g3.get g2.ok Rd nb1;have anY:=g3.get g2.ok anX nb2;have xD:=g3.get g2.ok Iz nbF;have Ny:=g3.get g2.ok UX nbB;simp[f15,anY,PI,tY];have rY:aV h3 h.next 0 2=some [.bool v.1,.int .i64 v.2]:=by rw[bV PI (by simp)];rfl
 refine aU.call (V:=YA F3 b o vs3 (F3.l+1) v h3) (by simpa using RF g3.ok (F:=F3) (by rw[Zb,hVa]) (by omega) (by omega) ho x4 PI rY (Ne.symm nb1) j (by omega) (by omega)) ?_;rintro _ h4⟨F4,vs4,rfl,ha4,Rp,hc4,g4,⟨s4,D3⟩,hvl4,hvv4⟩;have O4:=O3.BA g3.ok ZC g4 ⟨s4,D3⟩ ho (by omega) (fun w hw=>by
  rcases hvv4 w hw with h|h
  .rcases hvv3 w h with h|h
   .exact x5 w h
   .rw[h];intro h;cases h
  .rw[h];exact hv)
 have GL:=g4.get g3.ok xD nbF;have ann:=g4.get g3.ok Ny nbB;have R4:=(O4.os.r y r hr).P;obtain⟨bP,csP,oP,sP,rM,hPb,hjP,aa8,aiA,abn⟩:=R4.el hq;have κP:κ bP=3:=R.kP bP (cw rM);have Tq:=aa8 1 1 (by decide);simp at Tq;have eP:r.P.v=.slice (some ⟨bP,0,none⟩) r.ps.length r.P.c:=by rw[show r.P.v=.slice r.P.a r.P.l r.P.c from rfl,rM,kj]
 have gw:ab (· =bP) h4 (put h4 bP (i*2+1) csP [.slice F4.a F4.l F4.c] oP):=aQ g4.ok hPb;have gw':ab (ax r.P.v) h4 (put h4 bP (i*2+1) csP [.slice F4.a F4.l F4.c] oP):=gw.bU (fun x _ e=>e▸cw rM);have A5:=abn (q.1,F4) 1 [.slice F4.a F4.l F4.c] (by simp) rfl (put h4 bP (i*2+1) csP [.slice F4.a F4.l F4.c] oP) ⟨_,aD _ _ _ _ _ _⟩;simp[GL,ann,apG,apF,rM,kj,aoG,hPb,Tq];refine C _ _ F4 ?_ ?_ (by omega) ⟨O4.os.aal g4.ok hr gw' A5 rfl (fun p hp=>?_),?_,O4.kB⟩
 .repeat (refine aA.set ?_)
  exact aA.refl _ _
 .have w1:∀x,x=b->(κ x=1\/κ x=3):=fun x e=>.inl (by rw[e];exact ZC);exact((g2.bl.trans (g3.bU (fun x _ e=>w1 x e))).trans (g4.bU (fun x _ e=>w1 x e))).trans (gw.bU (fun x _ e=>.inr (by rw[e];exact κP)))
 .rcases Kx hp with h|h
  .exact R.ps p h
  .rw[h];exact⟨(R.ps q (dG hq)).1,by show F4.l<=F4.c;omega,.inr ⟨b,by show F4.a=_;rw[ha4,Zb,hVa],ZC,by show F4.c=_;omega⟩⟩
 .refine DO (O4.A.grow g4.ok gw (fun x hx e=>by have:=O4.kB x hx;rw[e] at this;omega)) (by simp) (fun m a c h1 h2=>?_);rw[fg] at h2;by_cases e1:y=m
  .subst e1;rw[aZ rfl,aZ Aa] at h2;cases h2;rw[hr] at h1;cases h1;rfl
  .rw[aW e1] at h2;rw[h1] at h2;cases h2;rfl
def agh:List Nat:=[13,14,15,69,70,71,72,73,74,75,76,77,78,79,80,81,82,83,84,85,86,87,88,89,90,91,92,93,94,95,96,97,98,99,100]
def mF(qs ps:List (Int×SV)):Prop:=qs.length=ps.length/\∀(i:Nat)(q p:Int×SV),qs[i]?=some q->ps[i]?=some p->q.1=p.1/\q.2.l=p.2.l
theorem mF.refl(ps:List (Int×SV)):mF ps ps:=⟨rfl,fun i q p a b=>by rw[a] at b;cases b;exact⟨rfl,rfl⟩⟩
theorem mF.trans{a b c:List (Int×SV)}(h:mF a b)(k:mF b c):mF a c:=⟨h.1.trans k.1,fun i q p h1 h2=>by obtain⟨x,hx⟩:=aE b i (by rw[<-h.1];exact(cr.mp h1).1);obtain⟨a1,a2⟩:=h.2 i q x h1 hx;obtain⟨b1,b2⟩:=k.2 i x p hx h2;exact⟨a1.trans b1,a2.trans b2⟩⟩
theorem mF.set{qs ps:List (Int×SV)}(h:mF qs ps){i:Nat}{q:Int×SV}(hq:qs[i]?=some q){F:SV}(hF:F.l=q.2.l):mF (qs.set i (q.1,F)) ps:=by
 refine mF.trans ⟨by simp,fun j a b h1 h2=>?_⟩ h;rw[fg] at h1;by_cases e:i=j
 .subst e;rw[aZ rfl,aZ (cr.mp hq).1] at h1;cases h1;rw[hq] at h2;cases h2;exact⟨rfl,hF⟩
 .rw[aW e,h2] at h1;cases h1;exact⟨rfl,rfl⟩
def amg(h:ae)(n0 ai:Nat)(κ cap:Nat->Nat)(B:SV)(rs:List XR)(y:Nat)(r:XR)(e:Env)(m:Nat)(e':Env)(h':ae):Prop:=
 ∃(i:Nat) (qs:List (Int×SV)),m=r.ps.length-i/\i<=r.ps.length/\aA agh e e'/\ak e' 69=.int .i64 i/\ab (fun b=>κ b=1\/κ b=3) h h'/\pV h' n0 ai κ cap B (rs.set y {r with ps:=qs})/\mF qs r.ps
theorem Xa(ok:bm h)(O:pV h n0 ai κ cap B rs)(wv:n0<=h.next){F y k j l sF:Nat}{p rg:Int}(hF:h.tr.get F=some (.aC (aw name p rg B) false 0 sF))(κF:κ F=0)(hr:rs[y]?=some r)(hl:∀q∈r.ps,q.2.l=l)(hk:k<l)(hj:j+1<=l)(JF:l<1000000)(uj:r.ps.length<1000000)(f0:ak e 0=.pointer (some ⟨F,0,none⟩))(f8:ak e 8=.int .i64 y)(f9:ak e 9=.int .i64 k)(f10:ak e 10=.int .i64 j)(f67:ak e 67=r.P.v)(f68:ak e 68=.int .i64 r.ps.length)(f69:ak e 69=.int .i64 0)(C:∀e' h' qs,aA agh e e'->ab (fun b=>κ b=1\/κ b=3) h h'->pV h' n0 ai κ cap B (rs.set y {r with ps:=qs})->mF qs r.ps->QQ (.exit 4) e' h'):aB FF (.loop pf) e h QQ:=by
 have Aa:=(cr.mp hr).1;have z9:rs.set y {r with ps:=r.ps} =rs:=by
  refine zS fun m=>?_;rw[fg];by_cases e:y=m
  .subst e;rw[aZ rfl,aZ Aa,hr]
  .rw[aW e]
 refine aB.loop (amg h n0 ai κ cap B rs y r e) ?_ (n:=r.ps.length) ⟨0,r.ps,rfl,by omega,aA.refl _ _,f69,.refl ok,by rw[z9];exact O,mF.refl _⟩;rintro m e' h'⟨i,qs,rfl,hi,K,q69,g,O',S⟩;have bz:=g.ok;have q0:=K.at f0;have q8:=K.at f8;have q9:=K.at f9;have y9:=K.at f10;have q67:=K.at f67;have q68:=K.at f68;unfold pf;by_cases gY:i<r.ps.length
 .have wi:=wrap_i64 ((i:Int)+1) (by omega) (by omega);obtain⟨p0,PT⟩:=aE r.ps i gY;obtain⟨q,hq⟩:=aE qs i (by rw[S.1];exact gY);have Tv:q.2.l=l:=by rw[(S.2 i q p0 hq PT).2];exact hl p0 (dG PT)
  have oZ:(rs.set y {r with ps:=qs})[y]?=some {r with ps:=qs} :=by rw[fg,aZ rfl,aZ Aa]
  have R:=O'.os.r y _ oZ;have RP:eY gL h' r.P qs:=R.P;obtain⟨hVl,hVA|⟨b,hVa,ZC,hVc⟩⟩:=(R.ps q (dG hq)).2
  .omega
  obtain⟨vs,o,s,hb,ho,Fq,x5⟩:=O'.os.V b ZC;obtain⟨v,hv⟩:=aE vs k;obtain⟨bP,csP,oP,sP,rM,hPb,hjP,aa8,aiA,abn⟩:=RP.el hq;have r0:=aiA 0 2 (by decide);simp[-ag] at r0;have kj:=RP.len;have rv:aV h' b (k*2) 2=some [.bool v.1,.int .i64 v.2]:=by rw[bV hb (by rw[bx.bI,dI];omega)];have:=bx.lL vs k v hv;simp only[dI] at this;rw[this];rfl
  simp at q67;rw[rM,kj,S.1] at q67;have rN:k<q.2.l:=by omega
  have ob:=bz.bC hb;have nb1:¬b=h'.next:=by have:=ob.lt;omega
  have nb2:¬b=h'.next+1:=by have:=ob.lt;omega
  simp[q67,q68,q69,q9,gY,rN,r0,rv,hVa,ob,nb1,nb2,-ag,au,aX,aN,ay];refine aB.cut (fun h2=>ab aK h' h2/\(∃s,h2.tr.get h'.next=some (.aC [.int .i64 q.1,q.2.v] false 0 s))/\∃s,h2.tr.get (h'.next+1)=some (.aC [.bool v.1,.int .i64 v.2] false 0 s)) ?_ ?_
  .have n1:¬h'.next=h'.next+1:=by omega
   exact⟨((ab.refl bz).var _ _).var _ _,⟨h'.clock,by simp[aH,hVa,n1]⟩,⟨h'.clock+1,by simp[aH]⟩⟩
  rintro h2⟨g2,yS,dX⟩;have ln:=g.next;have κn:∀x,h'.next<=x->κ x=0:=fun x hx=>by
   rcases ve (κ x) with h|h
   .exact h
   .have:=(O'.os.new x (by omega)).2;omega
  refine W_ g2.ok (O'.bl bz g2) (F:=F) (X1:=h'.next) (X2:=h'.next+1) (y:=y) (i:=i) (k:=k) (j:=j) (v:=v) (q:=q) (g2.get bz (g.get ok hF (by omega))) κF oZ hq yS (κn _ (by omega)) dX (κn _ (by omega)) (x5 v (dG hv)) (by omega) (by omega) (by omega) (by show qs.length<_;rw[S.1];exact uj) (by simp[q0]) (by simp[q8]) (by simp[q9]) (by simp[y9]) (by simp) (by simp) (by simp) ?_;intro e3 h3 F' K3 g3 vf O3;have k69:=K3.at (t:=69) (by simp;exact q69);rw[List.set_set] at O3;simp[k69,wi];refine⟨r.ps.length-(i+1),by omega,i+1,qs.set i (q.1,F'),rfl,gY,?_,by simp,g.trans (g2.bl.trans g3),O3,S.set hq vf⟩;refine aA.set (aA.set (aA.trans ?_ (K3.bU)))
  repeat (refine aA.set ?_)
  exact K
 .have:i=r.ps.length:=by omega
  subst this;simp[q68,q69];exact C _ _ qs (aA.set K) g O' S
end Go.Proofs.YtdhnndleffachaaGreatDoor
