/- Parts of the proof. -/
import Derived.Test.YtdhnndleffachaaGreatDoorP06
set_option linter.all false
namespace Go.Proofs.YtdhnndleffachaaGreatDoor
open Go.AI
variable{B F F' G:SV}{QQ:aT->Env->ae->Prop}{R1 R2 U X Y ai i j k n n0 p sU sX sY:Nat}{b:GB}{bs:List GB}{bu c:Int}{cap pP κ0:Nat->Nat}{e:Env}{f:GF}{fs:List GF}{fv v:Value}{gs:List GG}{h h' h0 h1:ae}{name:ByteArray}{r:XR}{rs:List XR}{u:GU}{x:XI}{xc:List Value}{α:Type}
def abX(ai:Nat)(u a:Bool×Int):Prop:=u.1=a.1/\fk ai u/\(a.1=false->u=a)
theorem LZ{u a:Bool×Int}(hu:abX ai u a):shV u=shV a:=by
 obtain⟨u1,_,u3⟩:=hu;unfold shV;rw[u1];cases h:a.1 with
 |true=>rfl
 |false=>rw[u3 h]
theorem zL(φ:Sh->Bool)(ls:List XI):uF φ ls=((ls.map shX).filter φ).length:=by unfold uF;rw[List.filter_map,UP];rfl
theorem Us{φ:Sh->Bool}{ls:List XI}{x y:XI}(h:ls[j]?=some x)(e:shX y=shX x):uF φ (ls.set j y)=uF φ ls:=by
 rw[zL,zL,List.map_set];congr 2;refine zS fun m=>?_;rw[fg];by_cases e1:j=m
 .subst e1;rw[aZ rfl,aZ (by simpa using(cr.mp h).1),tT,h,e];rfl
 .rw[aW e1]
section
variable{n0 ai:Nat}{κ cap:Nat->Nat}{B:SV}{rs:List XR}{N nb:Nat}
theorem NR.box(k:NR h n0 ai κ cap B rs N nb)(ok:bm h)(g:ab (· =Y) h h')(κY:κ Y=0)(nY:¬wP N nb Y):NR h' n0 ai κ cap B rs N nb:=
 ⟨k.O.grow ok g (fun b hb=>by rw[hb];exact κY),k.w.grow ok g (fun e=>nY (.inl e.symm)) (fun e=>nY (.inr e.symm)),k.κN,k.κb,k.Fu⟩
def WlD:List Nat:=[151,152,153,154,155,156,157,158,159,160]
theorem aaD(ok:bm h)(k:NR h n0 ai κ cap B rs N nb)(Yn:fk ai x.a)(FW:fk ai x.b)(hY:h.tr.get Y=some (.aC [.int .i64 x.op,.int .i64 x.dst,.bool x.a.1,.int .i64 x.a.2,.bool x.b.1,.int .i64 x.b.2,.int .i64 x.fn,.slice x.args.a x.args.l x.args.c] false 0 sY))(κY:κ Y=0)(nY:¬wP N nb Y)(f3:ak e 3=.pointer (some ⟨N,0,none⟩))(f20:ak e 20=.pointer (some ⟨Y,0,none⟩))(C:∀e' h' u w s,aA WlD e e'->ab (fun z=>wP N nb z\/z=Y) h h'->NR h' n0 ai κ cap B rs N nb->abX ai u x.a->abX ai w x.b->h'.tr.get Y=some (.aC [.int .i64 x.op,.int .i64 x.dst,.bool u.1,.int .i64 u.2,.bool w.1,.int .i64 w.2,.int .i64 x.fn,.slice x.args.a x.args.l x.args.c] false 0 s)->QQ .normal e' h'):aB FF Pg e h QQ:=by
 have oY:=ok.bC hY;have C0:=ok.st _ _ _ _ _ hY;unfold Pg;simp[f3,f20,hY,av hY,oY];have xe:=(bh ok).ok;have gt:ab aK h (tick h):=bh ok;generalize tick h=h1 at xe gt⊢;have k1:=k.bl ok gt;have hY1:=gt.get ok hY;refine aU.call (V:=XO N nb ai x.a h1) (by simpa using uT xe k1.w Yn k.Fu) ?_;rintro _ h2⟨g2,w2,u,rfl,u1,u2,u3⟩;have k2:=k1.step xe (.refl xe) g2 w2;have Rd:=g2.get xe hY1 nY;simp[f20,Rd,C0];refine aU.call (V:=XO N nb ai x.b h2) (by simpa using uT g2.ok k2.w FW k.Fu) ?_;rintro _ h3⟨g3,w3,w,rfl,v1,v2,v3⟩;have k3:=k2.step g2.ok (.refl g2.ok) g3 w3;have PI:=g3.get g2.ok Rd nY;simp[f20,PI];have g4:=((ab.refl g3.ok).put (S:=(· =Y)) (off:=2) (vs:=[Value.bool u.1,Value.int .i64 u.2]) ⟨_,PI⟩ (.inr rfl)).put (b:=Y) (off:=4) (cs:=[.int .i64 x.op,.int .i64 x.dst,.bool u.1,.int .i64 u.2,.bool x.b.1,.int .i64 x.b.2,.int .i64 x.fn,.slice x.args.a x.args.l x.args.c]) (o:=0) (vs:=[Value.bool w.1,Value.int .i64 w.2]) ⟨h3.clock,by simp[aH]⟩ (.inr rfl);refine C _ _ u w (h3.clock+1) ?_ ?_ (k3.box g3.ok g4 κY nY) ⟨u1,u2,u3⟩ ⟨v1,v2,v3⟩ ?_
 .repeat (refine aA.set ?_)
  exact aA.refl _ _
 .exact((gt.bl.trans (g2.bU (fun z _ h=>.inl h))).trans (g3.bU (fun z _ h=>.inl h))).trans (g4.bU (fun z _ h=>.inr h))
 .rw[aD];rfl
theorem QC(ok:bm h)(k:NR h n0 ai κ cap B rs N nb)(ME:rs[i]?=some r){x x':XI}(hx:r.ls[j]?=some x)(hd:x'.dst<ai)(ha:fk ai x'.a)(hb:fk ai x'.b)(hv:VA κ cap x'.args)(hX:h.tr.get X=some (.aC xc false 0 sX))(κX:κ X=0)(nX:¬wP N nb X)(C1:(xc.drop 1).take 1=[r.L.v])(hY:h.tr.get Y=some (.aC (jZ.enc x') false 0 sY))(f14:ak e 14=.pointer (some ⟨X,0,none⟩))(f19:ak e 19=.int .i64 j)(f20:ak e 20=.pointer (some ⟨Y,0,none⟩))(C:∀e' h',aA [185,186,187,188,189] e e'->ab (JB κ N nb) h h'->NR h' n0 ai κ cap B (rs.set i {r with ls:=r.ls.set j x'}) N nb->h'.tr.get X=some (.aC xc false 0 sX)->QQ .normal e' h'):aB FF Pf e h QQ:=by
 have R:=k.O.os.r i r ME;obtain⟨bL,cs,o,s,haL,hbL,_,eU,_,gE⟩:=R.L.el hx;have aS:=(cr.mp hx).1;have ui:=R.L.len;have rV:1+1<=xc.length:=by have:=congrArg List.length C1;simp at this;omega
 have xI:(xc.drop 1).take 1=[.slice (some ⟨bL,0,none⟩) r.ls.length r.L.c]:=by rw[C1];simp[haL,ui]
 have rX:aV h X 1 1=some [.slice (some ⟨bL,0,none⟩) r.ls.length r.L.c]:=by rw[bV hX rV,xI]
 have hf:=eU 0 8 (by decide);simp at hf;have Rd:=hY;simp only[UC] at Rd;simp at Rd;have κL:κ bL=4:=R.kL bL (cw haL);unfold Pf;simp[f14,f19,f20,rX,Rd,av Rd,aS,hbL,hf,-ag];have g4:=aQ (off:=j*8) (vs:=[Value.int .i64 x'.op,.int .i64 x'.dst,.bool x'.a.1,.int .i64 x'.a.2,.bool x'.b.1,.int .i64 x'.b.2,.int .i64 x'.fn,.slice x'.args.a x'.args.l x'.args.c]) ok hbL;have hL4:=gE x' 0 [Value.int .i64 x'.op,.int .i64 x'.dst,.bool x'.a.1,.int .i64 x'.a.2,.bool x'.b.1,.int .i64 x'.b.2,.int .i64 x'.fn,.slice x'.args.a x'.args.l x'.args.c] (by simp) rfl (put h bL (j*8) cs [Value.int .i64 x'.op,.int .i64 x'.dst,.bool x'.a.1,.int .i64 x'.a.2,.bool x'.b.1,.int .i64 x'.b.2,.int .i64 x'.fn,.slice x'.args.a x'.args.l x'.args.c] o) ⟨h.clock,by simp⟩;have k4:=k.aeY ok ME (g4.bU (fun y _ e=>e▸cw haL)) hL4 (fun z hz=>by
  rcases Kx hz with h|h
  .exact R.ls z h
  .rw[h];exact⟨hd,ha,hb,hv⟩)
 refine C _ _ ?_ (g4.bU (fun z _ e=>.inr (by rw[e];omega))) k4 (g4.get ok hX (fun e=>by rw[e] at κX;omega))
 repeat (refine aA.set ?_)
 exact aA.refl _ _
def WlL:List Nat:=[19,20,21,22,146,147,148,149,150,151,152,153,154,155,156,157,158,159,160,161,162,163,164,165,166,167,168,169,170,171,172,173,174,175,176,177,178,179,180,181,182,183,184,185,186,187,188,189,190]
def WlI(h:ae)(n0 ai:Nat)(κ cap:Nat->Nat)(B:SV)(rs:List XR)(N nb i:Nat)(r:XR)(X:Nat)(xc:List Value)(sX:Nat)(e:Env)(m:Nat)(e':Env)(h':ae):Prop:=
 ∃(j:Nat) (ys:List XI),m=r.ls.length-j/\j<=r.ls.length/\aA WlL e e'/\ak e' 146=.int .i64 j/\ab (JB κ N nb) h h'/\NR h' n0 ai κ cap B (rs.set i {r with ls:=ys}) N nb/\ys.length=r.ls.length/\(∀x∈ys,x.args.l<=1048576)/\(∀φ,uF φ ys=uF φ r.ls)/\h'.tr.get X=some (.aC xc false 0 sX)
theorem Wl(ok:bm h)(k:NR h n0 ai κ cap B rs N nb)(hr:rs[i]?=some r)(hl:r.ls.length<=1048576)(al:∀x∈r.ls,x.args.l<=1048576)(hX:h.tr.get X=some (.aC xc false 0 sX))(κX:κ X=0)(nX:¬wP N nb X)(C1:(xc.drop 1).take 1=[r.L.v])(f3:ak e 3=.pointer (some ⟨N,0,none⟩))(f14:ak e 14=.pointer (some ⟨X,0,none⟩))(f144:ak e 144=r.L.v)(f145:ak e 145=.int .i64 r.ls.length)(f146:ak e 146=.int .i64 0)(C:∀e' h' ys,ys.length=r.ls.length->aA WlL e e'->ab (JB κ N nb) h h'->NR h' n0 ai κ cap B (rs.set i {r with ls:=ys}) N nb->(∀φ,uF φ ys=uF φ r.ls)->h'.tr.get X=some (.aC xc false 0 sX)->QQ (.exit 16) e' h'):aB FF (.loop ni) e h QQ:=by
 have gY:=(cr.mp hr).1;refine aB.loop (WlI h n0 ai κ cap B rs N nb i r X xc sX e) ?_ (n:=r.ls.length) ⟨0,r.ls,rfl,by omega,aA.refl _ _,f146,.refl ok,by rw[LY hr];exact k,rfl,al,fun _=>rfl,hX⟩;rintro m e' h'⟨j,ys,rfl,hj,K,aeJ,g,k',PV,Aa,GW,mf⟩;have bz:=g.ok;have q3:=K.at f3;have Hq:=K.at f14;have aeI:=K.at f144;have ajy:=K.at f145;have rV:2<=xc.length:=by have:=congrArg List.length C1;simp at this;omega
 unfold ni;by_cases aS:j<r.ls.length
 .have wj:=wrap_i64 ((j:Int)+1) (by omega) (by omega);obtain⟨x,hx⟩:=aE ys j;have Fs:=dG hx;have ME:(rs.set i {r with ls:=ys})[i]?=some {r with ls:=ys} :=by rw[fg,aZ rfl,aZ gY]
  have R:=k'.O.os.r i _ ME;have RL:eY jZ h' r.L ys:=R.L;obtain⟨bL,cs,o,s,ha,hb,_,eU,dj,_⟩:=RL.el hx;have rd:=dj 0 8 (by decide);simp[-ag] at rd;have ui:=RL.len;obtain⟨hd,Yn,FW,TA⟩:=R.ls x Fs;simp at aeI;rw[ha,ui,PV] at aeI;simp[aeI,ajy,aeJ,aS,rd,-ag,au];refine aB.cut (fun h2=>ab aK h' h2/\∃s,h2.tr.get h'.next=some (.aC [.int .i64 x.op,.int .i64 x.dst,.bool x.a.1,.int .i64 x.a.2,.bool x.b.1,.int .i64 x.b.2,.int .i64 x.fn,.slice x.args.a x.args.l x.args.c] false 0 s)) ?_ ?_
  .exact⟨(ab.refl bz).var _ _,h'.clock,by simp[aH]⟩
  rintro h2⟨g2,s2,Rd⟩;have k2:=k'.bl bz g2;have dX:=g2.get bz mf;obtain⟨lN,lnb⟩:=k'.lt bz;have lX:=bz.wf _ _ mf;have nY:¬wP N nb h'.next:=fun e=>by rcases e with e|e<;>omega
  have κY:κ h'.next=0:=by
   have hw:=k'.O.os.new h'.next;rcases ve (κ h'.next) with h|h
   .exact h
   .have:=(hw (by omega)).2;omega
  refine aaD g2.ok k2 Yn FW Rd κY nY (by simp[q3]) (by simp) ?_;intro e3 h3 u w s3 K3 g3 k3 hu hw PI;have fe:=g3.get g2.ok dX (fun e=>by rcases e with e|e;exact nX e;omega);have a3:=K3.at (t:=3) (by simp;exact q3);have a14:=K3.at (t:=14) (by simp;exact Hq);have a19:ak e3 19=.int .i64 j:=K3.at (t:=19) (by simp);have a20:ak e3 20=.pointer (some ⟨h'.next,0,none⟩):=K3.at (t:=20) (by simp);have amz:=K3.at (t:=146) (by simp;exact aeJ);have KK3:aA WlL e e3:=by
   refine aA.trans ?_ (K3.bU)
   repeat (refine aA.set ?_)
   exact K
  simp[a20,PI];refine aji g3.ok k3 TA (Aa x Fs) PI κY nY rfl (by simp[a3]) (by simp[a20]) (by simp) (by simp) (by simp) ?_;intro e4 h4 K4 g4 k4 XZ;have vg:=g4.get g3.ok fe (fun e=>by rcases e with e|e;exact nX e;exact e κX);have b3:=K4.at (t:=3) (by simp;exact a3);have b14:=K4.at (t:=14) (by simp;exact a14);have b19:=K4.at (t:=19) (by simp;exact a19);have b20:=K4.at (t:=20) (by simp;exact a20);have agv:=K4.at (t:=146) (by simp;exact amz);have KK4:aA WlL e e4:=by
   refine aA.trans ?_ (K4.bU)
   repeat (refine aA.set ?_)
   exact KK3
  have G4:ab (JB κ N nb) h h4:=((g.trans g2.bl).trans' g3 (fun _ _ h=>h) (fun z hz e=>by
   rcases e with e|e
   .exact .inl e
   .have:=g.next;omega)).trans g4
  have hxl3:1+1<=xc.length:=rV;have κL:κ bL=4:=R.kL bL (cw ha)
  
  have fin:∀(e6:Env)(h6:ae)(d:Int),d<ai->aA WlL e e6->ab (JB κ N nb) h h6->NR h6 n0 ai κ cap B (rs.set i {r with ls:=ys.set j ⟨x.op,d,u,w,x.fn,x.args⟩}) N nb->h6.tr.get X=some (.aC xc false 0 sX)->∃m,m<r.ls.length-j/\WlI h n0 ai κ cap B rs N nb i r X xc sX e m (Tr.set (Tr.set e6 190 (.int .i64 ((j:Int)+1))) 146 (.int .i64 ((j:Int)+1))) h6:=by
   intro e6 h6 d hdr K6 G6 k6 wU;refine⟨r.ls.length-(j+1),by omega,j+1,ys.set j ⟨x.op,d,u,w,x.fn,x.args⟩,rfl,aS,aA.set (aA.set K6),by simp,G6,k6,by simp[PV],fun z hz=>?_,fun φ=>?_,wU⟩
   .rcases Kx hz with h|h
    .exact Aa z h
    .rw[h];exact Aa x Fs
   .rw[Us hx ?_]
    .exact GW φ
    .simp only[shX,LZ hu,LZ hw]
  by_cases Yb:0<=x.dst
  .obtain⟨dn,Ri⟩:∃u:Nat,x.dst=u:=⟨x.dst.toNat,by omega⟩;rw[Ri] at XZ hd;have ac1:(0:Int)<=(dn:Int):=by omega
   simp[b3,b20,XZ,ac1];refine aG.call (V:=NmQ N nb ai h4) (by simpa using xb g4.ok k4.w (r:=dn) (by omega) k.Fu) ?_;rintro _ h5⟨g5,w5,y,rfl,hy⟩;have k5:=k4.step g4.ok (.refl g4.ok) g5 w5;have hY5:=g5.get g4.ok XZ nY;have uL:=g5.get g4.ok vg nX;simp[b20,hY5];have g6:=(ab.refl g5.ok).put (S:=(· =h'.next)) (off:=1) (vs:=[Value.int .i64 y]) ⟨_,hY5⟩ (.inr rfl);have hY6:∃s,(put h5 h'.next 1 [.int .i64 x.op,.int .i64 dn,.bool u.1,.int .i64 u.2,.bool w.1,.int .i64 w.2,.int .i64 x.fn,.slice x.args.a x.args.l x.args.c] [Value.int .i64 y] 0).tr.get h'.next=some (.aC (jZ.enc ⟨x.op,y,u,w,x.fn,x.args⟩) false 0 s):=⟨h5.clock,by rw[aD];rfl⟩;have wU:=g6.get g5.ok uL (by omega);have k6:=k5.box g5.ok g6 κY nY;generalize put h5 h'.next 1 _ _ 0=h6 at*;obtain⟨s6,hY6⟩:=hY6;have lY:h'.next<h6.next:=g6.ok.wf _ _ hY6;refine QC g6.ok k6 ME hx (x':=⟨x.op,y,u,w,x.fn,x.args⟩) (by show(y:Int)<ai;omega) hu.2.1 hw.2.1 TA wU κX nX C1 hY6 (by simp[b14]) (by simp[b19]) (by simp[b20]) ?_;intro e7 h7 K7 g7 k7 XY;rw[List.set_set] at k7;have Ui:=K7.at (t:=146) (by simp;exact agv);simp[Ui,wj];refine fin e7 h7 y (by omega) ?_ ?_ k7 XY
   .refine aA.trans ?_ (K7.bU)
    repeat (refine aA.set ?_)
    exact KK4
   .exact((G4.trans (g5.bU (fun z _ h=>.inl h))).trans' g6 (fun _ _ h=>h) (fun z hz e=>by have:=g.next;omega)).trans g7
  .simp[b20,XZ,Yb];refine QC g4.ok k4 ME hx (x':=⟨x.op,x.dst,u,w,x.fn,x.args⟩) hd hu.2.1 hw.2.1 TA vg κX nX C1 XZ (by simp[b14]) (by simp[b19]) (by simp[b20]) ?_;intro e7 h7 K7 g7 k7 XY;rw[List.set_set] at k7;have Ui:=K7.at (t:=146) (by simp;exact agv);simp[Ui,wj];refine fin e7 h7 x.dst hd ?_ (G4.trans g7) k7 XY;refine aA.trans ?_ (K7.bU)
   repeat (refine aA.set ?_)
   exact KK4
 .have:j=r.ls.length:=by omega
  subst this;simp[ajy,aeJ];exact C _ _ ys PV (aA.set K) g k' GW mf
end
section
variable{n0 ai:Nat}{κ cap:Nat->Nat}{B:SV}{rs:List XR}{N nb:Nat}
def WbD:List Nat:=[191,192,193,194,195,196,197,198,199,200,201]
theorem aaA(ok:bm h)(k:NR h n0 ai κ cap B rs N nb)(ME:rs[j]?=some r){F sF:Nat}{p rg:Int}(hF:h.tr.get F=some (.aC (aw name p rg B) false 0 sF))(κF:κ F=0)(nF:¬wP N nb F){r0:XR}(hX:h.tr.get X=some (.aC (fC.enc r0) false 0 sX))(h0:r0.on=r.on)(f1:ak e 1=.pointer (some ⟨F,0,none⟩))(f3:ak e 3=.pointer (some ⟨N,0,none⟩))(f13:ak e 13=.int .i64 j)(f14:ak e 14=.pointer (some ⟨X,0,none⟩))(C:∀e' h' u,aA WbD e e'->ab (JB κ N nb) h h'->NR h' n0 ai κ cap B (rs.set j {r with on:=u}) N nb->QQ .normal e' h'):aB FF Pc e h QQ:=by
 have aS:=(cr.mp ME).1;have R:=k.O.os.r j r ME;obtain⟨bB,cs,oB,sB,kC,PH,_,eU,dj,_⟩:=k.O.A.el ME;have κB:κ bB=2:=k.O.kB bB (cw kC);have ez:=k.O.A.len;have mI:=hF;simp[aw] at mI;rw[kC,ez] at mI;have dX:=hX;simp only[qz] at dX;simp at dX;rw[h0] at dX;have oF:=ok.bC hF;have oX:=ok.bC hX;have C0:=ok.st _ _ _ _ _ hF;unfold Pc;simp[f1,f3,f13,f14,mI,dX,av mI,av dX,oF,oX];have xe:=(bh ok).ok;have gt:ab aK h (tick h):=bh ok;generalize tick h=h1 at xe gt⊢;have k1:=k.bl ok gt;have xX:=gt.get ok mI;refine aU.call (V:=XO N nb ai r.on h1) (by simpa using uT xe k1.w R.on k.Fu) ?_;rintro _ h2⟨g2,w2,u,rfl,u1,u2,u3⟩;have k2:=k1.step xe (.refl xe) g2 w2;have xD:=g2.get xe xX nF;obtain⟨bB',cs2,oB2,sB2,tU,UX,_,D6,_,aiI⟩:=k2.O.A.el ME;rw[kC] at tU;cases tU;have hf:=D6 3 2 (by decide);simp at hf;simp[f1,xD,C0,aS,UX,hf];have g3:=aQ (off:=j*6+3) (vs:=[Value.bool u.1,Value.int .i64 u.2]) g2.ok UX;have A3:=aiI {r with on:=u} 3 [Value.bool u.1,Value.int .i64 u.2] (by simp) rfl (put h2 bB (j*6+3) cs2 [Value.bool u.1,Value.int .i64 u.2] oB2) ⟨h2.clock,by simp⟩;have os3:=(k2.O.os.abN ME r.kind u u2).grow g2.ok g3 (fun x e=>.inr (by rw[e];exact κB));have k3:NR (put h2 bB (j*6+3) cs2 [Value.bool u.1,Value.int .i64 u.2] oB2) n0 ai κ cap B (rs.set j {r with on:=u}) N nb:=
  ⟨⟨os3,A3,k2.O.kB⟩,k2.w.grow g2.ok g3 (fun e=>by have:=k.κN;rw[e] at this;omega) (fun e=>by have:=k.κb;rw[e] at this;omega),k.κN,k.κb,k.Fu⟩
 refine C _ _ u ?_ ?_ k3
 .repeat (refine aA.set ?_)
  exact aA.refl _ _
 .exact(gt.bl.trans (g2.bU (fun z _ h=>.inl h))).trans (g3.bU (fun z _ e=>.inr (by rw[e];omega)))
def WbI(h:ae)(n0 ai:Nat)(κ cap:Nat->Nat)(B:SV)(rs:List XR)(N nb F:Nat)(v2:Value)(m:Nat)(e':Env)(h':ae):Prop:=
 ∃(j:Nat) (cC:List XR),m=rs.length-j/\j<=rs.length/\ak e' 1=.pointer (some ⟨F,0,none⟩)/\ak e' 2=v2/\ak e' 3=.pointer (some ⟨N,0,none⟩)/\ak e' 102=B.v/\ak e' 103=.int .i64 rs.length/\ak e' 104=.int .i64 j/\ab (JB κ N nb) h h'/\NR h' n0 ai κ cap B cC N nb/\cC.length=rs.length/\(∀i,j<=i->cC[i]?=rs[i]?)/\(∀r∈cC,r.ps.length<=100000/\r.ls.length<=100000)/\∀φ,kK φ cC=kK φ rs
theorem On(ok:bm h)(k:NR h n0 ai κ cap B rs N nb)(wv:n0<=h.next)(T:TF rs){F sF:Nat}{p rg:Int}(hF:h.tr.get F=some (.aC (aw name p rg B) false 0 sF))(κF:κ F=0)(nF:¬wP N nb F){v2:Value}(f1:ak e 1=.pointer (some ⟨F,0,none⟩))(f2:ak e 2=v2)(f3:ak e 3=.pointer (some ⟨N,0,none⟩))(f102:ak e 102=B.v)(f103:ak e 103=.int .i64 rs.length)(f104:ak e 104=.int .i64 0)(C:∀e' h' cC,ak e' 1=.pointer (some ⟨F,0,none⟩)->ak e' 2=v2->ak e' 3=.pointer (some ⟨N,0,none⟩)->ab (JB κ N nb) h h'->NR h' n0 ai κ cap B cC N nb->cC.length=rs.length->(∀r∈cC,r.ps.length<=100000/\r.ls.length<=100000)->(∀φ,kK φ cC=kK φ rs)->QQ (.exit 10) e' h'):aB FF (.loop np) e h QQ:=by
 have F9:=T.F9;refine aB.loop (WbI h n0 ai κ cap B rs N nb F v2) ?_ (n:=rs.length) ⟨0,rs,rfl,by omega,f1,f2,f3,f102,f103,f104,.refl ok,k,rfl,fun _ _=>rfl,T.size,fun _=>rfl⟩;rintro m e' h'⟨j,cC,rfl,hj,q1,q2,q3,aaa,aeA,aeB,g,k',vj,Ca,qD,GW⟩;have bz:=g.ok;unfold np;by_cases aS:j<rs.length
 .have wj:=wrap_i64 ((j:Int)+1) (by omega) (by omega);obtain⟨r,hr⟩:=aE rs j aS;have CZ:cC[j]?=some r:=by rw[Ca j (dw _)];exact hr
  have hm:=dG hr;obtain⟨sp,sl⟩:=T.size r hm;have R:=k'.O.os.r j r CZ;obtain⟨bB,cs,o,s,ha,hb,_,_,dj,_⟩:=k'.O.A.el CZ;have rd:=dj 0 6 (by decide);simp[-ag] at rd;have ez:=k'.O.A.len;have kj:=R.P.len;have ui:=R.L.len;simp at aaa;rw[ha,ez,vj] at aaa;simp[aaa,aeA,aeB,aS,rd,-ag,au,kj];refine aB.cut (fun h2=>ab aK h' h2/\∃s,h2.tr.get h'.next=some (.aC (fC.enc r) false 0 s)) ?_ ?_
  .exact⟨(ab.refl bz).var _ _,h'.clock,by simp[aH,kj]⟩
  rintro h2⟨g2,sX,dX⟩;have k2:=k'.bl bz g2;obtain⟨lN,lnb⟩:=k'.lt bz;have nX:¬wP N nb h'.next:=fun e=>by rcases e with e|e<;>omega
  have ln:=g.next;have κX:κ h'.next=0:=by
   have hw:=k'.O.os.new h'.next;rcases ve (κ h'.next) with h|h
   .exact h
   .have:=(hw (by omega)).2;omega
  have nW:¬JB κ N nb h'.next:=fun e=>by rcases e with e|e;exact nX e;exact e κX
  have nWF:¬JB κ N nb F:=fun e=>by rcases e with e|e;exact nF e;exact e κF
  have Tv:∀q∈r.ps,q.2.l<=1048576:=by intro q hq;obtain⟨pk,CK⟩:=aE (Edge.bD (bA rs)) j (by rw[Edge.eQ,dW];exact aS);have h1:=T.OK j r pk hr CK q hq;have h2:=T.Xs pk (dG CK);omega
  refine Wm g2.ok k2 CZ (by omega) dX κX nX rfl Tv (by simp[q3]) (by simp) (by simp[kj]) (by simp) (by simp) ?_;intro e3 h3 qs adD K3 g3 k3 fe;have a1:=K3.at (t:=1) (by simp;exact q1);have a2:=K3.at (t:=2) (by simp;exact q2);have a3:=K3.at (t:=3) (by simp;exact q3);have a13:ak e3 13=.int .i64 j:=K3.at (t:=13) (by simp);have a14:ak e3 14=.pointer (some ⟨h'.next,0,none⟩):=K3.at (t:=14) (by simp);have amw:=K3.at (t:=102) (by simp;exact aaa);have amx:=K3.at (t:=103) (by simp;exact aeA);have amy:=K3.at (t:=104) (by simp;exact aeB);have hr3:(cC.set j {r with ps:=qs})[j]?=some {r with ps:=qs} :=by rw[fg,aZ rfl,aZ (by omega)]
  have FQ:=fe;simp only[qz] at FQ;simp at FQ;simp[a14,FQ];refine Wl g3.ok k3 hr3 (by show r.ls.length<=_;omega) (T.al r hm) fe κX nX rfl (by simp[a3]) (by simp[a14]) (by simp) (by simp[ui]) (by simp) ?_;intro e4 h4 ys adY K4 g4 k4 aoY vg;have b1:=K4.at (t:=1) (by simp;exact a1);have b2:=K4.at (t:=2) (by simp;exact a2);have b3:=K4.at (t:=3) (by simp;exact a3);have b13:=K4.at (t:=13) (by simp;exact a13);have b14:=K4.at (t:=14) (by simp;exact a14);have amJ:=K4.at (t:=102) (by simp;exact amw);have amK:=K4.at (t:=103) (by simp;exact amx);have amL:=K4.at (t:=104) (by simp;exact amy);rw[List.set_set] at k4;have hr4:(cC.set j {r with ps:=qs,ls:=ys})[j]?=some {r with ps:=qs,ls:=ys} :=by rw[fg,aZ rfl,aZ (by omega)]
  have G4:=(g.trans g2.bl).trans (g3.trans g4);have GL:=(G4).get ok hF nWF;simp;refine aaA g4.ok k4 hr4 GL κF nF vg rfl b1 b3 b13 b14 ?_;intro e5 h5 u K5 g5 k5;rw[List.set_set] at k5;have amO:=K5.at (t:=104) amL;have amN:=K5.at (t:=102) amJ;simp[amO,wj];refine⟨rs.length-(j+1),by omega,j+1,cC.set j {r with ps:=qs,ls:=ys,on:=u},rfl,aS,by simp[K5.at (t:=1) b1],by simp[K5.at (t:=2) b2],by simp[K5.at (t:=3) b3],by simp[amN,ha,ez,vj],by simp[K5.at (t:=103) amK],by simp,G4.trans g5,k5,by simp[vj],fun i hi=>?_,fun z hz=>?_,fun φ=>?_⟩
  .rw[fg,aW (by omega)];exact Ca i (by omega)
  .rcases Kx hz with h|h
   .exact qD z h
   .rw[h];show qs.length<=100000/\ys.length<=100000;rw[adD,adY];exact⟨sp,sl⟩
  .have:=xn (fun r:XR=>uF φ r.ls) cC j r {r with ps:=qs,ls:=ys,on:=u} CZ;have h2:=aoY φ;have h3:=GW φ;unfold kK at h3⊢;dsimp only at this h2;omega
 .have:j=rs.length:=by omega
  subst this;simp[aeA,aeB];exact C _ _ cC (by simp[q1]) (by simp[q2]) (by simp[q3]) g k' vj qD GW
end
def TX(name:ByteArray)(p:Int)(n0 ai:Nat)(κ0:Nat->Nat)(rs:List XR)(h:ae)(v:Value)(h':ae):Prop:=
 ab (fun x=>κ0 x≠0) h h'/\∃(B':SV) (cC:List XR) (κ cap:Nat->Nat) (many:Nat),v=.agg ⟨aw name p many B'⟩/\many<=ai/\(∀x,x<h.next->κ x=κ0 x)/\pV h' n0 ai κ cap B' cC/\(0<cC.length/\cC.length<=72)/\(∀r∈cC,r.ps.length<=100000/\r.ls.length<=100000)/\∀φ,kK φ cC=kK φ rs
theorem ZR(ai:Nat):TY (List.replicate ai (-1)) 0 ai:=by refine⟨by simp,fun v hv=>.inl (List.eq_of_mem_replicate hv),?_⟩;rw[BX,List.countP_replicate];simp
theorem Om(ok:bm h){name:ByteArray}(wv:n0<=h.next)(O:pV h n0 ai κ0 pP B rs)(T:TF rs)(hp:p<=ai)(yV:ai<1000000):
  aF FF wB [.agg ⟨aw name p ai B⟩] h (TX name p n0 ai κ0 rs h):=by
 have κnew:∀x,h.next<=x->κ0 x=0:=fun x hx=>by
  have hw:=O.os.new x;rcases ve (κ0 x) with h1|h1
  .exact h1
  .have:=(hw (by omega)).2;omega
 refine aF.of DE ?_;unfold vL;have n2:¬h.next=h.next+1:=by omega
 have n3:¬h.next+1=h.next:=by omega
 simp[aw,n2,n3];refine aU.cut (fun h1=>ab aK h h1/\h1.tr.get h.next=some (.aC (aw name p ai B) false 0 0)/\(∃s,h1.tr.get (h.next+1)=some (.aC [.string ⟨⟨[]⟩⟩,.int .i64 0,.int .i64 0,.slice none 0 0] false 0 s))) ?_ ?_
 .exact⟨(((ab.refl ok).new _ _).new _ _).tick,by simp[aw,n2],⟨0,by simp⟩⟩
 rintro h1⟨g1,xX,⟨sR,uK⟩⟩;have lF:=g1.ok.wf _ _ xX;have lR:=g1.ok.wf _ _ uK;refine aU.call (V:=ab6 rs h1) (by simpa [aw] using Ly g1.ok (name:=name) (p:=p) (r:=ai) (O.bl ok g1) T.toTF0) ?_;rintro _ h2⟨g2,L,rfl,hL⟩;have mz:=g1.trans g2;have mI:=g2.get g1.ok xX;have AO:=g2.get g1.ok uK;have O2:=O.bl ok mz;simp[mI];refine aU.call (V:=ab4 name p ai n0 ai κ0 rs h2) (by simpa [aw] using P5 g2.ok (name:=name) (p:=p) (r:=ai) O2 (by have:=mz.next;omega) T.toTF0 hL (fun x hx=>κnew x (by omega))) ?_;rintro _ h3⟨g3,B',cC,κ,cap,rfl,iM,O3,T3,hR3',adk⟩;have ln2:=mz.next;have κ35:∀x,(κ0 x=3\/κ0 x=5)->κ0 x≠0:=fun x h=>by omega
 have xD:=g3.get g2.ok mI (fun e=>κ35 _ e (κnew _ (by omega)));have zh:=g3.get g2.ok AO (fun e=>κ35 _ e (κnew _ (by omega)));simp[aw] at xD;have l2:=g2.next;have l3:=g3.next;have κF:κ h.next=0:=by rw[iM _ (by omega)];exact κnew _ (by omega)
 have κR:κ (h.next+1)=0:=by rw[iM _ (by omega)];exact κnew _ (by omega)
 have n4:¬h.next=h3.next:=by omega
 have lF3:=g3.ok.wf _ _ xD;have oF3:=g3.ok.bC xD;simp[aw,xD,n4];refine aG.cut (fun h4=>ab (· =h.next) h3 h4/\(∃s,h4.tr.get h.next=some (.aC (aw name p ai B') false 0 s))/\∃s,h4.tr.get h3.next=some (.aC [.int .i64 (-1)] false 0 s)) ?_ ?_
 .have g4:=(ab.refl g3.ok).put (S:=(· =h.next)) (off:=0) (vs:=[Value.string name,Value.int .i64 p,Value.int .i64 ai,Value.slice B'.a B'.l B'.c]) ⟨_,xD⟩ (.inr rfl);exact⟨g4.new _ _,⟨h3.clock,by simp[aw,n4]⟩,⟨0,by simp⟩⟩
 rintro h4⟨g4,⟨sF4,GL⟩,⟨sM,hM4⟩⟩;refine aG.call (V:=fun v h'=>ab aK h4 h'/\∃d s,v=.slice (some ⟨d,0,none⟩) ai ai/\h4.next<=d/\h'.tr.get d=some (.aC (bj.flat (List.replicate ai (-1:Int))) false 0 s)) (by simpa using ES g4.ok ai yV (x:= -1) hM4) ?_;rintro _ h5⟨g5,d,sd,rfl,Ri,MA⟩;have NB:=g5.get g4.ok GL;have U0:=NB;simp[aw] at U0;have l4:=g4.next;have l5:=g5.next;have ld:=g5.ok.wf _ _ MA;have nF5:¬h.next=h5.next:=by omega
 simp[U0,nF5];refine aB.cut (fun h6=>ab aK h5 h6/\∃s,h6.tr.get h5.next=some (.aC [.slice (some ⟨d,0,none⟩) ai ai,.int .i64 0] false 0 s)) ?_ ?_
 .exact⟨(ab.refl g5.ok).new _ _,0,by simp⟩
 rintro h6⟨g6,sN,hN6⟩;have hd6:=g6.get g5.ok MA;have hF6:=g6.get g5.ok NB;have l6:=g6.next;have G46:=g5.trans g6;have G36:ab (· =h.next) h3 h6:=g4.trans G46.bl;have O6:pV h6 n0 ai κ cap B' cC:=O3.grow g3.ok G36 (fun x e=>by rw[e];exact κF);have NF:=G36.get g3.ok zh (by omega);have κhi:∀x,h3.next<=x->κ x=0:=fun x hx=>by
  have hw:=O3.os.new x;rcases ve (κ x) with h1|h1
  .exact h1
  .have:=(hw (by omega)).2;omega
 have k6:NR h6 n0 ai κ cap B' cC h5.next d:=⟨O6,⟨_,0,sN,sd,hN6,hd6,by omega,ZR ai⟩,κhi _ (by omega),κhi _ (by omega),yV⟩;have nF:¬wP h5.next d h.next:=fun e=>by rcases e with e|e<;>omega
 have nR:¬wP h5.next d (h.next+1):=fun e=>by rcases e with e|e<;>omega
 refine Sa (v1:=.pointer (some ⟨h.next,0,none⟩)) (v2:=.pointer (some ⟨h.next+1,0,none⟩)) g6.ok k6 (p:=p) hp (by simp) (by simp) (by simp) (by simp) (by simp) ?_;intro e7 h7 q1 q2 q3 g7 k7;have hF7:=g7.get g6.ok hF6 nF;have aha:=hF7;simp[aw] at aha;have ez:=O3.A.len;simp[q1,aha];refine R_ (v1:=.pointer (some ⟨h.next,0,none⟩)) (v2:=.pointer (some ⟨h.next+1,0,none⟩)) g7.ok k7 T3 (by simp[q1]) (by simp[q2]) (by simp[q3]) (by simp) (by simp[ez]) (by simp) ?_;intro e8 h8 r1 r2 r3 g8 k8;have hF8:=g8.get g7.ok hF7 nF;have ahb:=hF8;simp[aw] at ahb;simp[r1,ahb];have l7:=g7.next;have l8:=g8.next;refine On (v2:=.pointer (some ⟨h.next+1,0,none⟩)) g8.ok k8 (by omega) T3 hF8 κF nF (by simp[r1]) (by simp[r2]) (by simp[r3]) (by simp) (by simp[ez]) (by simp) ?_;intro e9 h9 rs9 s1 s2 s3 g9 k9 hl9 apI ao0;have nFW:¬JB κ h5.next d h.next:=fun e=>by rcases e with e|e;exact nF e;exact e κF
 have nRW:¬JB κ h5.next d (h.next+1):=fun e=>by rcases e with e|e;exact nR e;exact e κR
 have hF9:=g9.get g8.ok hF8 nFW;have hR9:=g9.get g8.ok (g8.get g7.ok (g7.get g6.ok NF nR) nR) nRW;obtain⟨now,many,t1,t2,hN9,hb9,hne9,nm9⟩:=k9.w;have acI:=hF9;simp[aw] at acI;simp[s1,s2,s3,acI,hN9,hR9,n2,n3];have gw:=((ab.refl g9.ok).put (S:=fun x=>x=h.next\/x=h.next+1) (off:=2) (vs:=[Value.int .i64 many]) ⟨_,acI⟩ (.inr (.inl rfl))).put (b:=h.next+1) (off:=0) (cs:=[Value.string ⟨⟨[]⟩⟩,Value.int .i64 0,Value.int .i64 0,Value.slice none 0 0]) (o:=0) (vs:=[Value.string name,Value.int .i64 p,Value.int .i64 many,Value.slice B'.a B'.l B'.c]) ⟨sR,by simp[hR9,n3]⟩ (.inr (.inr rfl));generalize put (put h9 _ _ _ _ _) _ _ _ _ _=CU at gw⊢;have xC:=nm9.xC;have F9:=T3.F9;have n1:=T3.n1;have ad8:∀x,x<h.next->¬wP h5.next d x:=fun x hx e=>by rcases e with e|e<;>omega
 have Gw:ab (fun x=>κ0 x≠0) h h9:=by
  refine((((((mz.bl).trans (g3.bU (fun x _ e=>κ35 x e))).trans' G36 (fun _ _ e=>e) (fun x hx e=>by omega)).trans' g7 (fun _ _ e=>e) (fun x hx e=>(ad8 x hx e).elim)).trans' g8 (fun _ _ e=>e) (fun x hx e=>(ad8 x hx e).elim)).trans' g9 (fun _ _ e=>e) (fun x hx e=>?_));rcases e with e|e
  .exact(ad8 x hx e).elim
  .rw[iM x (by omega)] at e;exact e
 refine⟨Gw.trans' gw (fun _ _ e=>e) (fun x hx e=>by omega),B',rs9,κ,cap,many,by simp[aw],by omega,fun x hx=>iM x (by omega),k9.O.grow g9.ok gw (fun b e=>by rcases e with e|e<;>(rw[e];first|exact κF|exact κR)),⟨by omega,by omega⟩,apI,fun φ=>(ao0 φ).trans ((adk φ).2 T.seen)⟩
def aaN(name:ByteArray)(p:Int)(n0 ai:Nat)(κ0:Nat->Nat)(rs:List XR)(h:ae)(v:Value)(h':ae):Prop:=
 ab (fun x=>κ0 x≠0) h h'/\∃(B':SV) (cC:List XR) (κ cap:Nat->Nat) (many:Nat),v=.agg ⟨aw name p many B'⟩/\many<=ai/\(∀x,x<h.next->κ x=κ0 x)/\pV h' n0 ai κ cap B' cC/\(0<cC.length/\cC.length<=72)/\(∀r∈cC,r.ps.length<=100000/\r.ls.length<=100000)/\∀φ,kK φ cC<=kK φ rs/\(Seen rs->kK φ cC=kK φ rs)
theorem SX(ok:bm h){name:ByteArray}(wv:n0<=h.next)(O:pV h n0 ai κ0 pP B rs)(T:TF0 rs)(hp:p<=ai)(yV:ai<1000000):
  aF FF Ck [.agg ⟨aw name p ai B⟩] h (aaN name p n0 ai κ0 rs h):=by
 have κnew:∀x,h.next<=x->κ0 x=0:=fun x hx=>by
  have hw:=O.os.new x;rcases ve (κ0 x) with h1|h1
  .exact h1
  .have:=(hw (by omega)).2;omega
 refine aF.of J0 ?_;unfold BL;have n2:¬h.next=h.next+1:=by omega
 have n3:¬h.next+1=h.next:=by omega
 simp[aw,n2,n3];refine aU.cut (fun h1=>ab aK h h1/\h1.tr.get h.next=some (.aC (aw name p ai B) false 0 0)/\(∃s,h1.tr.get (h.next+1)=some (.aC [.string ⟨⟨[]⟩⟩,.int .i64 0,.int .i64 0,.slice none 0 0] false 0 s))) ?_ ?_
 .exact⟨(((ab.refl ok).new _ _).new _ _).tick,by simp[aw,n2],⟨0,by simp⟩⟩
 rintro h1⟨g1,xX,⟨sR,uK⟩⟩;have lF:=g1.ok.wf _ _ xX;have lR:=g1.ok.wf _ _ uK;refine aU.call (V:=ab6 rs h1) (by simpa [aw] using Ly g1.ok (name:=name) (p:=p) (r:=ai) (O.bl ok g1) T) ?_;rintro _ h2⟨g2,L,rfl,hL⟩;have mz:=g1.trans g2;have mI:=g2.get g1.ok xX;have AO:=g2.get g1.ok uK;have O2:=O.bl ok mz;simp[mI];refine aU.call (V:=ab4 name p ai n0 ai κ0 rs h2) (by simpa [aw] using P5 g2.ok (name:=name) (p:=p) (r:=ai) O2 (by have:=mz.next;omega) T hL (fun x hx=>κnew x (by omega))) ?_;rintro _ h3⟨g3,B3,rs3,κ3,ace,rfl,z8,O3,T3,_,adk⟩;have ln2:=mz.next;have ln3:=g3.next;have κ35:∀x,(κ0 x=3\/κ0 x=5)->κ0 x≠0:=fun x h=>by omega
 have zh:=g3.get g2.ok AO (fun e=>κ35 _ e (κnew _ (by omega)));have l2:=g2.next;have κR3:κ3 (h.next+1)=0:=by rw[z8 _ (by omega)];exact κnew _ (by omega)
 simp[aw];refine aU.call (V:=TP name p ai n0 ai κ3 ace B3 rs3 h3) (by simpa [aw] using Kb g3.ok (name:=name) (p:=p) (rg:=ai) (by omega) O3 T3) ?_;rintro _ h4⟨g4,rfl,rs4,κ4,GX,P4⟩;have ln4:=g4.next;have U5:=g4.get g3.ok zh (fun e=>e κR3);have κR4:κ4 (h.next+1)=0:=by rw[GX _ (by omega)];exact κR3
 simp[aw];refine aU.call (V:=TX name p n0 ai κ4 rs4 h4) (by simpa [aw] using Om g4.ok (name:=name) (p:=p) (by omega) P4.O P4.tf hp yV) ?_;rintro _ h5⟨g5,B5,rs5,κ5,acf,many,rfl,hm,Ea,O5,hl5,hs5,aoZ⟩;have GM:=g5.get g4.ok U5 (fun e=>e κR4);simp[aw,GM];have gw:=(ab.refl g5.ok).put (S:=(· =h.next+1)) (off:=0) (vs:=[Value.string name,Value.int .i64 p,Value.int .i64 many,Value.slice B5.a B5.l B5.c]) ⟨_,GM⟩ (.inr rfl);generalize put h5 _ _ _ _ _=h6 at gw⊢;have κR5:κ5 (h.next+1)=0:=by rw[Ea _ (by omega)];exact κR4
 have G:ab (fun x=>κ0 x≠0) h h5:=by
  refine((mz.bl.trans (g3.bU (fun x _ e=>κ35 x e))).trans' g4 (fun _ _ e=>e) (fun x hx e=>?_)).trans' g5 (fun _ _ e=>e) (fun x hx e=>?_)
  .rw[z8 x (by omega)] at e;exact e
  .rw[GX x (by omega),z8 x (by omega)] at e;exact e
 refine⟨G.trans' gw (fun _ _ e=>e) (fun x hx e=>by omega),B5,rs5,κ5,acf,many,by simp[aw],hm,fun x hx=>by rw[Ea x (by omega),GX x (by omega),z8 x (by omega)],O5.grow g5.ok gw (fun b e=>by rw[e];exact κR5),hl5,hs5,fun φ=>?_⟩;rw[aoZ φ,P4.CL φ];exact adk φ
def aaK(n0 ai:Nat)(B:SV)(κ0 cap:Nat->Nat)(rs:List XR)(h:ae)(v:Value)(h':ae):Prop:=
 ∃(κ':Nat->Nat) (cC:List XR) (nw ko:List (Bool×Int)) (D:Nat->Prop) (cH:Bool),v=.bool cH/\ab (fun b=>κ0 b=1\/κ0 b=2) h h'/\(∀b,b<h.next->κ' b=κ0 b)/\pV h' n0 ai κ' cap B cC/\WR D rs cC nw ko false cH
theorem UA{κ cap:Nat->Nat}(w:cn h n0 ai κ cap rs)(hr:rs[i]?=some r){q:Int}(hq:q∈eJ r):q<ai:=by
 unfold eJ at hq;rcases lE.1 hq with h1|h1
 .obtain⟨p,hp,rfl⟩:=dZ.1 h1;exact((w.r i r hr).ps p hp).1.2
 .unfold gK at h1;obtain⟨p,hp,rfl⟩:=dZ.1 h1;obtain⟨x,hx,rfl⟩:=dZ.1 (Ms.1 hp).1;exact((w.r i r hr).ls x hx).1
theorem Oe(us:List Int)(n:Nat):mJ us n 0=List.replicate n []:=by unfold mJ;refine List.ext_getElem (by simp) fun i h1 h2=>by simp
theorem Se(ok:bm h){p:Int}{n0 ai F sF:Nat}(wv:n0<=h.next)(O:pV h n0 ai κ0 cap B rs)(tf:TF0 rs)(uq:Uq rs)(fd:Fd rs)(hF:h.tr.get F=some (.aC (aw name p ai B) false 0 sF))(κF:κ0 F=0)(yV:ai<1000000)(hw:0<=bu/\bu<1000000000):
  aF FF Aq [.int .i64 bu,.pointer (some ⟨F,0,none⟩)] h (aaK n0 ai B κ0 cap rs h):=by
 obtain⟨bs,KH,V⟩:=O.view;have E:=V.ends tf.tok;have ez:=O.A.len;have F9:=tf.F9;have n1:=tf.n1;have lF:=ok.wf _ _ hF;have r1:roomy rs.length=true:=by simp[roomy];omega
 have r2:roomy (rs.length*24)=true:=by simp[roomy];omega
 have κhi:∀b,h.next<=b->κ0 b=0:=fun b hb=>by
  rcases ve (κ0 b) with h1|h1
  .exact h1
  .have:=(O.os.new b (by omega)).2;omega
 have hF0:=hF;simp[aw] at hF0;have nF:¬F=h.next:=by omega
 have nF2:¬F=h.next+1:=by omega
 have oF:=ok.bC hF;refine aF.of HW ?_;unfold zE;simp[hF0,ez,r1,r2,nF,nF2];refine aG.cut (fun h1=>ab aK h h1/\jU bj h.next h1 h.next (List.replicate rs.length d_) (List.replicate rs.length [])/\h1.next=h.next+1+1/\(∃s,h1.tr.get (h.next+1)=some (.aC (fJ bu F ⟨some ⟨h.next,0,none⟩,rs.length,rs.length⟩ d_ false) false 0 s))) ?_ ?_
 .have a:=Dq h ok bj rs.length h.next (dw _);have g1:=aP ok (jP [Value.slice none 0 0] rs.length) 0;have g2:=aP g1.ok (fJ bu F ⟨some ⟨h.next,0,none⟩,rs.length,rs.length⟩ d_ false) 0;have a2:=a.bl g1.ok g2;refine⟨by simpa [fJ,d_] using g1.trans g2,by simpa [fJ,d_] using a2,by simp,0,by simp[fJ,d_]⟩
 rintro h1⟨g1,A1,e1,sK,Y3⟩;have l1:=g1.next;refine aG.call (V:=T_ h1 bs.length) (by simpa [aw,ez] using Hy g1.ok (name:=name) (p:=p) (r:=ai) (KH.mono ok g1) E (by rw[V.1];exact n1)) ?_;rintro _ h2⟨g2,up,us,su,rfl,lup,hup,U⟩;rw[V.1] at U⊢;have xY:=g2.get g1.ok Y3;have A2:=A1.bl g1.ok g2;have l2:=g2.next;have lup2:=g2.ok.wf _ _ hup;obtain⟨fD,T⟩:=ZI U;have S0:Ks h h2 (h.next+1) F rs.length h.next h2.next up bu us (List.replicate rs.length d_) 0:=
  ⟨g1.trans g2,⟨sK,xY⟩,⟨su,hup⟩,by rw[Oe];exact A2,fun w hm b hb=>by rw[(List.mem_replicate.1 hm).2] at hb;exact(fS rfl hb).elim,⟨by omega,by omega,by omega,by omega⟩,⟨by omega,by omega⟩,⟨by omega,by omega⟩⟩
 simp;refine Sf U (by omega) S0 (by simp) (by simp) (by simp) (by simp) ?_;intro e3 h3 ws K3 S3;have g3:=S3.g;have l3:=g3.next;have m1:ak e3 1=.pointer (some ⟨F,0,none⟩):=K3.at (t:=1) (by simp);have m5:ak e3 5=.pointer (some ⟨h.next+1,0,none⟩):=K3.at (t:=5) (by simp);obtain⟨sK3,KD⟩:=S3.hK;have xD:=g3.get ok hF;have ag_:=xD;simp[aw] at ag_;simp[m1,ag_];refine Wp g3.ok yV KD (by simp[m5]) (by simp) (by simp) ?_;intro e4 h4 NW K4 g4 ⟨sK4,hK4⟩ JQ;have l4:=g4.next;have q1:ak e4 1=.pointer (some ⟨F,0,none⟩):=K4.at (t:=1) (by simp[m1]);have q5:ak e4 5=.pointer (some ⟨h.next+1,0,none⟩):=K4.at (t:=5) (by simp[m5]);have g04:ab aK h h4:=g3.trans' g4 (fun _ _ h=>h) (fun x hx e=>by omega);obtain⟨sd3,GN⟩:=S3.A.aC;have ld3:=g3.ok.wf _ _ GN;have hd4:=g4.get g3.ok GN (by omega);have GL:=g04.get ok hF;have wl:=S3.A.len;have nwN:∀b,ax (SV.v NW) b->h3.next<=b:=fun b hb=>JQ.of hb;have wsN:∀w∈ws,∀b,ax (SV.v w) b->h2.next<=b/\b<h3.next:=fun w hw b hb=>by refine⟨S3.hi w hw b hb,?_⟩;obtain⟨i,hi⟩:=sv hw;obtain⟨xs,AW⟩:=aE (mJ us rs.length rs.length) i (by rw[<-wl];exact(cr.mp hi).1);exact(bH.arr (S3.A.acc i w xs hi AW)).bC g3.ok hb
 have GW:=S3.lo
 let c:WC:= { n0:=n0,ai:=ai,B:=B,K:=h.next+1,F:=F,bu:=bu,name:=name,p:=p,KI:=⟨some ⟨h.next,0,none⟩,rs.length,rs.length⟩,NW:=NW,d:=h.next,ws:=ws,kids:=mJ us rs.length rs.length,M:=h4.next }
 have ajc:∀b,yx c b->κ0 b=0/\b<h4.next:=by
  rintro b (hb|hb|hb|hb|⟨w,hw,hb⟩)
  .rw[show b=h.next+1 from hb];exact⟨κhi _ (by omega),by omega⟩
  .rw[show b=F from hb];exact⟨κF,by omega⟩
  .rw[show b=h.next from hb];exact⟨κhi _ (dw _),by omega⟩
  .have:=nwN b hb;exact⟨κhi _ (by omega),(bH.arr JQ).bC g4.ok hb⟩
  .have:=wsN w hw b hb;exact⟨κhi _ (by omega),by omega⟩
 have W4:Wk c h4 κ0 cap rs (wD ai) false:=by
  refine⟨O.bl ok g04,⟨⟨sK4,hK4⟩,bH.arr JQ,fun b hb=>?_,ZT ai⟩,⟨sF,GL⟩,⟨?_,?_⟩,⟨sd3,hd4⟩,fun i w xs a b=>?_,fun b hb=>(ajc b hb).1,fun b hb=>(ajc b hb).2,by show n0<=h4.next;omega,dw _,fun b hb=>?_⟩
  .have:=nwN b hb;show b≠h.next+1;omega
  .show _=SV.mk _ _ _;rw[show c.kids.length=rs.length from mW _ _ _]
  .show ws.length=(mJ us rs.length rs.length).length;exact wl
  .refine(bH.arr (S3.A.acc i w xs a b)).grow g3.ok g4 (fun x hx e=>?_);have:=wsN w (dG a) x hx;omega
  .rcases hb with hb|hb|⟨w,hw,hb⟩
   .rw[show b=F from hb];exact⟨by show F≠h.next+1;omega,fun hb=>by have:=nwN _ hb;omega⟩
   .rw[show b=h.next from hb];exact⟨by show h.next≠h.next+1;omega,fun hb=>by have:=nwN _ hb;omega⟩
   .have:=wsN w hw b hb;exact⟨by show b≠h.next+1;omega,fun hb=>by have:=nwN _ hb;omega⟩
 simp[q5];have inK:ML c h4 κ0 cap rs (wD ai) false us rs.length 0 (.map none) []:=
  ⟨W4,tf,uq,fd,rfl,n1,fun i r _ hr q hq _=>by have h0:=Kj O.os hr hq;have h1:=UA O.os hr hq;dsimp only;rw[Qf (by omega),Int.toNat_of_nonneg h0],by simp,.inl ⟨rfl,rfl⟩,fun p hp=>by simp at hp,fun p hp=>by simp at hp,fun m e=>by simp at e⟩
 refine aG.call (V:=fun _=>JP c h4 κ0 cap rs (wD ai) false (eS us 0)) (by simpa [c] using Te (c:=c) (cap:=cap) T hw (rs.length+1) 0 h4 κ0 rs (wD ai) false (.map none) [] (by omega) g4.ok inK) ?_;rintro _ h5⟨κ5,rs5,nw5,ajd,g5,V0,W5,R5⟩;obtain⟨sF5,NB⟩:=W5.hF;have l5:=g5.next;have U0:=NB;simp[aw,c] at U0;simp[q1,U0];have T5:=R5.tf tf;have hB5:=W5.O.A.len;refine Sd g5.ok W5 T5 (by simp[q1,c]) (by simp[q5,c]) (by simp[c]) (by simp[c] at hB5⊢;exact_mod_cast hB5) (by simp) ?_;intro e6 h6 K6 g6 W6;have p5:ak e6 5=.pointer (some ⟨h.next+1,0,none⟩):=K6.at (t:=5) (by simp[q5]);obtain⟨sK6,hK6⟩:=W6.k.hK;simp[fJ,c] at hK6;simp[p5,hK6];refine⟨κ5,rs5,wD ai,nw5,eS us 0,ajd,rfl,(g04.trans' g5 (fun _ _ h=>h.elim) (fun x hx e=>?_)).trans' g6 (fun _ _ h=>h) (fun x hx e=>by rw[V0 x (by omega)] at e;exact e),fun b hb=>V0 b (by omega),W6.O,R5⟩;rcases e with e|e|e|e
 .exact .inl e
 .exact .inr e
 .change x=h.next+1 at e;omega
 .have:=nwN x e;omega
def af0(bs:List GB):Prop:=bs.length<=1000/\∀b∈bs,b.dQ.length<=1000000/\b.list.length<=1000000
def LgI(h:ae)(B:SV)(bs:List GB)(F:Nat)(fc:List Value)(m:Nat)(e:Env)(h2:ae):Prop:=
 ∃j k:Nat,m=bs.length-j/\j<=bs.length/\ak e 1=.pointer (some ⟨F,0,none⟩)/\ak e 3=.int .i64 k/\k<=j*2000000/\ak e 7=B.v/\ak e 8=.int .i64 bs.length/\ak e 9=.int .i64 j/\ab aK h h2
theorem Og(ok:bm h){name:ByteArray}{p r:Int}(hB:CT h B bs)(C:af0 bs):
  aF FF yg [.agg ⟨aw name p r B⟩] h (zl h):=by
 have ez:=SliceR.len hB;have hl:=C.1;refine aF.of FC ?_;unfold xR;simp[aw,ez];refine aB.cut (fun h1=>ab aK h h1/\∃s,h1.tr.get h.next=some (.aC (aw name p r B) false 0 s)) ?_ ?_
 .exact⟨(ab.refl ok).new _ _,0,by simp[aw,ez]⟩
 rintro h1⟨g1,sF,xX⟩;refine aB.loop (LgI h1 B bs h.next (aw name p r B)) ?_ (n:=bs.length) ⟨0,0,rfl,by omega,by simp,by simp,by omega,by simp[ez],by simp,by simp,.refl g1.ok⟩;rintro m e h2⟨j,k,rfl,hj,q1,q3,hk,q7,q8,q9,g2⟩;have mI:=g2.get g1.ok xX;unfold vo;by_cases aS:j<bs.length
 .have hb:bs[j]?=some bs[j]:=fI aS;have hm:=zT aS;generalize bs[j]=b at hb hm;obtain⟨c1,c2⟩:=C.2 b hm;obtain⟨bB,off,cells,kC,_,_,⟨P,L,T,rfl,sP,sL,sT⟩,oB,dj⟩:=SliceR.later ok hB hb;have rd:=dj h2 (g1.trans g2) 0 6 (by decide);simp[-ag] at rd;have kj:=SliceR.len sP;have ui:=SliceR.len sL;simp at q7;rw[kC,ez] at q7;have wj:=wrap_i64 ((j:Int)+1) (by omega) (by omega);have w1:=wrap_i64 ((b.dQ.length:Int)+b.list.length) (by omega) (by omega);have w2:=wrap_i64 ((k:Int)+((b.dQ.length:Int)+b.list.length)) (by omega) (by omega);have gv:ab aK h2 (put (aJ h2 [.slice none 0 0,.slice none 0 0,.int .i64 0,.bool false,.int .i64 0,.slice none 0 0] 0) h2.next 0 [.slice none 0 0,.slice none 0 0,.int .i64 0,.bool false,.int .i64 0,.slice none 0 0] [P.v,L.v,.int .i64 b.kind,.bool b.on.1,.int .i64 b.on.2,T.v] 0):=(ab.refl g2.ok).var _ _;simp at gv;simp[q1,q3,q7,q8,q9,aS,rd,kj,ui,wj,w1,w2,-ag,au];rw[kj,ui] at gv;refine⟨bs.length-(j+1),by omega,j+1,k+(b.dQ.length+b.list.length),rfl,aS,by simp[q1],by simp,by omega,by simp[q7,kC,ez],by simp[q8],by simp,g2.trans gv⟩
 .have:j=bs.length:=by omega
  subst this;have Iz:=mI;simp[aw] at Iz;by_cases a1:(40:Int)<(bs.length:Int)
  .simp[q1,q3,q8,q9,Iz,ez,a1];exact⟨g1.trans g2,_,rfl⟩
  .by_cases a2:(300:Int)<(k:Int)
   .simp[q1,q3,q8,q9,Iz,ez,a1,a2];exact⟨g1.trans g2,_,rfl⟩
   .simp[q1,q3,q8,q9,Iz,ez,a1,a2];exact⟨g1.trans g2,_,rfl⟩
def gS(c:List Value)(g:GG):Prop:=∃I:SV,c=[.string g.name,.int .i64 g.size,I.v]
theorem SliceR.imp{R R':List Value->α->Prop}{sz:Nat}{xs:List α}(s:SliceR R sz h v xs)(hR:∀c x,R c x->R' c x):SliceR R' sz h v xs:=by
 obtain⟨a,cap,rfl,s⟩:=s;refine⟨a,cap,rfl,?_⟩;rcases s with s|⟨b,off,cs,ro,o,st,rfl,hb,he⟩
 .exact .inl s
 .exact .inr ⟨b,off,cs,ro,o,st,rfl,hb,fun i x hx=>⟨(he i x hx).1,hR _ _ (he i x hx).2⟩⟩
theorem agU(s:SliceR (gR h) 3 h' v gs):SliceR gS 3 h' v gs:=SliceR.imp s fun _ _ ⟨I,e,_⟩=>⟨I,e⟩
def nC(gs:List GG):Int:=(gs.map (·.size)).sum
def af5(gs:List GG):Prop:=gs.length<=10/\∀g∈gs,1<=g.size/\g.size<=200
theorem Mj{g:GG}(h:gs[j]?=some g):nC (gs.take (j+1))=nC (gs.take j)+g.size:=by unfold nC;rw[v9,h];simp
theorem HB(hg:∀g∈gs,1<=g.size/\g.size<=200):0<=nC gs/\nC gs<=200*gs.length:=by
 induction gs with
 |nil=>simp[nC]
 |cons g gs ih=>
  have h1:=ih (fun x hx=>hg x (by simp[hx]));have h2:=hg g (by simp);unfold nC at h1⊢;simp only[BY,PF,List.length_cons];omega
def amv(h:ae)(G:SV)(gs:List GG)(m:Nat)(e:Env)(h2:ae):Prop:=
 ∃j:Nat,m=gs.length-j/\j<=gs.length/\ak e 3=.int .i64 (nC (gs.take j))/\ak e 7=G.v/\ak e 8=.int .i64 gs.length/\ak e 9=.int .i64 j/\ab aK h h2
def Uc(gs:List GG)(h:ae)(v:Value)(h':ae):Prop:=ab aK h h'/\v=.int .i64 (nC gs)
theorem Ll(ok:bm h){G F:SV}(hG:SliceR gS 3 h G.v gs)(C:af5 gs):
  aF FF Ao [.agg ⟨[G.v,F.v]⟩] h (Uc gs h):=by
 have U1:=SliceR.len hG;obtain⟨hl,hs⟩:=C;refine aF.of HT ?_;unfold zA;simp[U1];refine aB.cut (fun h1=>ab aK h h1) ((ab.refl ok).new _ _) ?_;intro h1 g1;refine aB.loop (amv h1 G gs) ?_ (n:=gs.length) ⟨0,rfl,by omega,by simp[nC],by simp[U1],by simp,by simp,.refl g1.ok⟩;rintro m e h2⟨j,rfl,hj,q3,q7,q8,q9,g2⟩;unfold wH;by_cases aS:j<gs.length
 .have hg:gs[j]?=some gs[j]:=fI aS;have hm:=zT aS;generalize gs[j]=g at hg hm;obtain⟨c1,c2⟩:=hs g hm;obtain⟨bG,off,cells,hGa,_,_,⟨I,rfl⟩,oG,dj⟩:=SliceR.later ok hG hg;have rd:=dj h2 (g1.trans g2) 0 3 (by decide);simp[-ag] at rd;simp at q7;rw[hGa,U1] at q7;have hw:=HB (gs:=gs.take j) (fun g hg=>hs g (Nv hg));have K0:(gs.take j).length<=10:=by simp;omega
  have wj:=wrap_i64 ((j:Int)+1) (by omega) (by omega);have w1:=wrap_i64 (nC (gs.take j)+g.size) (by omega) (by omega);have et:=Mj hg;have gv:ab aK h2 (put (aJ h2 [.string ⟨⟨[]⟩⟩,.int .i64 0,.slice none 0 0] 0) h2.next 0 [.string ⟨⟨[]⟩⟩,.int .i64 0,.slice none 0 0] [.string g.name,.int .i64 g.size,.slice I.a I.l I.c] 0):=(ab.refl g2.ok).var _ _;simp[q3,q7,q8,q9,aS,rd,wj,w1,-ag,au];refine⟨gs.length-(j+1),by omega,j+1,rfl,aS,by simp[et],by simp[q7,hGa,U1],by simp[q8],by simp,g2.trans gv⟩
 .have:j=gs.length:=by omega
  subst this;rw[we] at q3;simp[q3,q8,q9];exact⟨g1.trans g2,rfl⟩
def shG(x:GI):Sh:=(x.op,shV x.a,shV x.b)
def Kd(φ:Sh->Bool)(xs:List GI):Nat:=(xs.filter fun x=>φ (shG x)).length
def CH(φ:Sh->Bool)(bs:List GB):Nat:=(bs.map fun b=>Kd φ b.list).sum
structure QF(fs:List GF):Prop where
 f:fs.length<=1000
 b:∀f∈fs,f.blocks.length<=1000
 l:∀f∈fs,∀b∈f.blocks,b.list.length<=1000000
theorem OQ{α:Type}{f:α->Nat}{k:Nat} :∀ {l:List α},(∀x∈l,f x<=k)->(l.map f).sum<=l.length*k
 |[],_=>Nat.zero_le _
 |x::l,h=>by have h1:=h x (by simp);have h2:=OQ (l:=l) (fun y hy=>h y (by simp[hy]));simp only[BY,PF,List.length_cons,tw];omega
section
variable{f:GF}{rs:List XR}
theorem Mp.at(R:Mp rs bs)(h:rs[i]?=some r):∃b,bs[i]?=some b/\RD r b:=by obtain⟨b,hb⟩:=aE bs i (by rw[<-R.1];exact(cr.mp h).1);exact⟨b,hb,R.2 i r b h hb⟩
theorem Mp.mem(R:Mp rs bs)(h:r∈rs):∃b∈bs,RD r b:=by obtain⟨i,hi⟩:=sv h;obtain⟨b,hb,rd⟩:=R.at hi;exact⟨b,dG hb,rd⟩
theorem Mp.ts(R:Mp rs bs):bA rs=bt bs:=by
 refine zS fun i=>?_;unfold bA bt;rw[tT,tT];rcases zf i rs.length with hi|hi
 .obtain⟨r,hr⟩:=aE rs i hi;obtain⟨b,hb,rd⟩:=R.at hr;rw[hr,hb];simp only[DY];rw[rd.to]
 .rw[tS hi,tS (by rw[<-R.1];exact hi)];rfl
theorem Mp.map{bs:List GB}(R:Mp rs bs)(p:XR->Nat)(q:GB->Nat)(h:∀r b,RD r b->p r=q b):rs.map p=bs.map q:=by
 refine zS fun i=>?_;rw[tT,tT];rcases zf i rs.length with hi|hi
 .obtain⟨r,hr⟩:=aE rs i hi;obtain⟨b,hb,rd⟩:=R.at hr;rw[hr,hb];simp only[DY];rw[h r b rd]
 .rw[tS hi,tS (by rw[<-R.1];exact hi)];rfl
theorem Hb:∀(bs:List GB),fF bs=(bs.map fun b=>b.dQ.length+b.list.length).sum
 |[]=>rfl
 |b::bs=>by simp only[fF,BY,PF];rw[Hb bs]
theorem Qv{q:XI}{p:GI}(h:Gi q p):shX q=shG p:=by obtain⟨c1,c2,c3,c4,c5⟩:=h;unfold shX shG;rw[c1,c3,c4]
theorem Ut(R:Mp rs bs)(φ:Sh->Bool):kK φ rs=CH φ bs:=by
 unfold kK CH;rw[R.map (fun r=>uF φ r.ls) (fun b=>Kd φ b.list) (fun r b rd=>?_)];rw[zL];unfold Kd;have:r.ls.map shX=b.list.map shG:=by
  refine zS fun i=>?_;rw[tT,tT];rcases zf i r.ls.length with hi|hi
  .obtain⟨q,hq⟩:=aE r.ls i hi;obtain⟨p,hp⟩:=aE b.list i (by rw[<-rd.ll];exact hi);rw[hq,hp];simp only[DY];rw[Qv (rd.ls i q p hq hp).1]
  .rw[tS hi,tS (by rw[<-rd.ll];exact hi)];rfl
 rw[this,List.filter_map,UP];rfl
theorem Qz(F:mM f)(L:Dj f)(S:r6 f.blocks)(R:Mp rs f.blocks):TF rs:=by
 have hb:=F.head.blocks;have hl:rs.length=f.blocks.length:=R.1;have hE:=F.body.ends;have tin:∀b∈f.blocks,∀t∈b.to,1<=t/\t<(f.blocks.length:Int):=fun b hb t ht=>by have:=(hE b hb).to t ht;unfold aaq at this;omega
 have qE:=R.ts;have sG:(bA rs).length=rs.length:=dW rs;have Zm:∀ts∈bA rs,∀t∈ts,t.toNat<(bA rs).length:=by intro ts h t ht;obtain⟨r,hr,rfl⟩:=dZ.1 h;obtain⟨b,Zd,rd⟩:=R.mem hr;rw[rd.to] at ht;have:=tin b Zd t ht;omega
 have two:∀ts∈bA rs,ts.length<=2:=fun ts h=>by obtain⟨r,hr,rfl⟩:=dZ.1 h;obtain⟨b,Zd,rd⟩:=R.mem hr;rw[rd.to];rcases(hE b Zd).kind with⟨_,e⟩|⟨_,t,e⟩|⟨_,t,u,e,_⟩<;>rw[e]<;>simp
 refine⟨⟨by omega,by have:=L.1;omega,fun r hr=>?_,fun r hr t ht=>?_,fun k r hr q hq=>?_,?_,fun r hr x hx=>?_,fun k hk=>?_⟩,fun k r hr=>.inl ?_⟩
 .obtain⟨b,Zd,rd⟩:=R.mem hr;unfold Yx;rw[rd.kind,rd.to];rcases(hE b Zd).kind with h|h|⟨h,t,u,e,_⟩
  .exact .inl h
  .exact .inr (.inl h)
  .exact .inr (.inr ⟨h,t,u,e⟩)
 .obtain⟨b,Zd,rd⟩:=R.mem hr;rw[rd.to] at ht;rw[hl];exact tin b Zd t ht
 .obtain⟨b,cA,rd⟩:=R.at hr;obtain⟨m,hm⟩:=sv hq;obtain⟨p,hp⟩:=aE b.dQ m (by rw[<-rd.pl];exact(cr.mp hm).1);obtain⟨_,e2⟩:=rd.ps m q p hm hp;obtain⟨_,l,sE,ph⟩:=(F.body.HJ k b cA).dQ p (dG hp);rw[<-qE] at sE;rw[e2,ph.len,Edge.pW Zm sE,sG]
 .rw[R.map ku (fun b=>b.dQ.length+b.list.length) (fun r b rd=>by simp only[ku];rw[rd.pl,rd.ll]),<-Hb];have:=F.head.many;omega
 .obtain⟨b,Zd,rd⟩:=R.mem hr;obtain⟨m,hm⟩:=sv hx;obtain⟨p,hp⟩:=aE b.list m (by rw[<-rd.ll];exact(cr.mp hm).1);rw[(rd.ls m x p hm hp).2];obtain⟨j,hj⟩:=sv Zd;have:=(wW ((F.body.HJ j b hj).list p (dG hp))).2;omega
 .have h1:=Edge.ov (n:=(bA rs).length) (dy:=bA rs) two k (bA rs).length;obtain⟨ps,iI⟩:=aE (Edge.bD (bA rs)) k (by rw[Edge.eQ,sG];exact hk);have h2:((Edge.upto (bA rs).length (bA rs) (bA rs).length)[k]?).getD []=ps:=by show((Edge.bD (bA rs))[k]?).getD []=ps;rw[iI];rfl
  rw[h2] at h1;have h3:=Edge.pW Zm iI;rw[sG] at h3;rw[<-h3];have:=L.1;omega
 .have rN:=(cr.mp hr).1;have e1:po f.blocks=Edge.uQ (bA rs):=by rw[qE];simp[po,bt,Edge.uQ]
  rw[<-Edge.LD (by omega) Zm k];have hS:f.blocks.length<=(Dfs.ly (Edge.uQ (bA rs)) (bA rs).length).length:=by unfold r6 pJ at S;rw[e1,UP] at S;rw[sG,hl];exact S
  obtain⟨nd,lt,_⟩:=Dfs.xh (dy:=Edge.uQ (bA rs)) (n:=(bA rs).length) (by omega) (fun b t ht=>by obtain⟨ts,u,h1,h2,rfl⟩:=Edge.AB ht;exact Zm ts (dG h1) u h2)
  by_cases hk:k∈Dfs.ly (Edge.uQ (bA rs)) (bA rs).length
  .exact hk
  .have h1:(k::Dfs.ly (Edge.uQ (bA rs)) (bA rs).length).Nodup:=List.nodup_cons.2 ⟨hk,nd⟩;have h2:=gK_ h1 (l₂:=List.range (bA rs).length) (fun x hx=>by
    rcases List.mem_cons.1 hx with rfl|hx
    .exact Kw.2 (by rw[sG];exact rN)
    .exact Kw.2 (lt x hx))
   simp only[List.length_cons,List.length_range] at h2;rw[sG] at h2 hS;omega
theorem ajN(F:mM f){l:List Int}(h:(Edge.bD (bt f.blocks))[i]?=some l):l.length<=80:=by
 have h1:=Edge.ov (n:=(bt f.blocks).length) (dy:=bt f.blocks) (fun ts qE=>by obtain⟨b,hb,rfl⟩:=dZ.1 qE;rcases(F.body.ends b hb).kind with⟨_,e⟩|⟨_,t,e⟩|⟨_,t,u,e,_⟩<;>rw[e]<;>simp) i (bt f.blocks).length
 have h2:((Edge.upto (bt f.blocks).length (bt f.blocks) (bt f.blocks).length)[i]?).getD []=l:=by show((Edge.bD (bt f.blocks))[i]?).getD []=l;rw[h];rfl
 rw[h2] at h1;have h3:(bt f.blocks).length=f.blocks.length:=by simp[bt]
 have:=F.head.blocks;omega
theorem VL(F:mM f):∀b∈f.blocks,InB f.ai.toNat b:=by
 intro b hb;obtain⟨i,hi⟩:=sv hb;have B:=F.body.HJ i b hi;have s:=F.sm b hb;have hr:=F.head.ai;have hp:=F.head.params;have E:=F.body.ends b hb;refine⟨by have:=s.ph;have:=mY hb;have:=F.head.many;omega,by have:=mY hb;have:=F.head.many;omega,?_,fun p hp2=>?_,fun x hx=>?_,fun h=>?_⟩
 .rcases E.kind with⟨_,h⟩|⟨_,t,h⟩|⟨_,t,u,h,_⟩<;>rw[h]<;>simp
 .obtain⟨_,l,hl,ph⟩:=B.dQ p hp2;have:=ph.dst;unfold u9 at this;have:=ph.len;have:=ajN F hl;exact⟨by omega,by omega,fun v hv=>A9 (ph.row v hv)⟩
 .have I:=B.list x hx;have:=(wW I).2;refine⟨?_,A9 I.a,A9 I.b,by omega,fun v hv=>A9 (Lc I v hv)⟩;rcases P0 I with h|h
  .omega
  .unfold u9 at h;omega
 .have:=E.on h;omega
end
structure XG where
 name:ByteArray
 size:Int
 I:SV
def DN:Enc XG:=⟨fun x=>[.string x.name,.int .i64 x.size,x.I.v],3,fun _=>rfl,by decide,fun _=>rfl⟩
@[simp] theorem akd:DN.sz=3:=rfl
@[simp] theorem agF(x:XG):DN.enc x=[.string x.name,.int .i64 x.size,x.I.v]:=rfl
structure XF where
 name:ByteArray
 params:Int
 ai:Int
 B:SV
def zO:Enc XF:=⟨fun x=>aw x.name x.params x.ai x.B,4,fun _=>rfl,by decide,fun _=>rfl⟩
@[simp] theorem akh:zO.sz=4:=rfl
@[simp] theorem agK(x:XF):zO.enc x=[.string x.name,.int .i64 x.params,.int .i64 x.ai,x.B.v]:=rfl
def aaH(h:ae)(y:XG)(g:GG):Prop:=y.name=g.name/\y.size=g.size/\SliceR nR 1 h y.I.v g.init
theorem agV(s:SliceR (gR h) 3 h v gs):∃ys:List XG,ys.length=gs.length/\bc DN h v ys/\∀(i:Nat)(y:XG)(g:GG),ys[i]?=some y->gs[i]?=some g->aaH h y g:=
 SliceR.pick (E:=DN) (Q:=aaH h) s (fun c x ⟨I,e,hI⟩=>⟨⟨x.name,x.size,I⟩,e,rfl,rfl,hI⟩)
def Pp(h:ae)(y:XF)(f:GF):Prop:=y.name=f.name/\y.params=f.params/\y.ai=f.ai/\CT h y.B f.blocks
theorem agP(s:SliceR (fR h) 4 h v fs):∃ys:List XF,ys.length=fs.length/\bc zO h v ys/\∀(i:Nat)(y:XF)(f:GF),ys[i]?=some y->fs[i]?=some f->Pp h y f:=
 SliceR.pick (E:=zO) (Q:=Pp h) s (fun c x ⟨B,e,hB⟩=>⟨⟨x.name,x.params,x.ai,B⟩,e,rfl,rfl,rfl,hB⟩)
def JN(ys:List XG)(gs:List GG):Prop:=ys.length=gs.length/\∀(i:Nat)(y:XG)(g:GG),ys[i]?=some y->gs[i]?=some g->y.name=g.name/\y.size=g.size
def alD(h0 h:ae)(G F f:SV)(U R1 R2:Nat)(fv:Value)(gs:List GG)(m:Nat)(e:Env)(h':ae):Prop:=
 ∃(j:Nat) (ys:List XG),m=gs.length-j/\j<=gs.length/\ak e 1=fv/\ak e 2=.pointer (some ⟨U,0,none⟩)/\ak e 4=.pointer (some ⟨R1,0,none⟩)/\ak e 5=.pointer (some ⟨R2,0,none⟩)/\ak e 15=G.v/\ak e 16=.int .i64 gs.length/\ak e 17=.int .i64 j/\
  ab (ax G.v) h h'/\eY DN h' G ys/\JN ys gs/\∀(i:Nat)(y:XG)(g:GG),j<=i->ys[i]?=some y->gs[i]?=some g->SliceR nR 1 h0 y.I.v g.init
theorem Ig(oD:bm h0)(g0:ab aK h0 h){G F f:SV}{ys:List XG}(hU:h.tr.get U=some (.aC [G.v,F.v] false 0 sU))(nU:¬ax G.v U)(hG:eY DN h G ys)(Y2:∀b,ax G.v b->h0.next<=b)(PV:JN ys gs)(hI:∀(i:Nat)(y:XG)(g:GG),ys[i]?=some y->gs[i]?=some g->SliceR nR 1 h0 y.I.v g.init)(hgl:gs.length<=10)(zY:∀g∈gs,g.init.length<=1048576)(f1:ak e 1=fv)(f2:ak e 2=.pointer (some ⟨U,0,none⟩))(f4:ak e 4=.pointer (some ⟨R1,0,none⟩))(f5:ak e 5=.pointer (some ⟨R2,0,none⟩))(f15:ak e 15=G.v)(f16:ak e 16=.int .i64 gs.length)(f17:ak e 17=.int .i64 0)(C:∀e' h' ys',ak e' 1=fv->ak e' 2=.pointer (some ⟨U,0,none⟩)->ak e' 4=.pointer (some ⟨R1,0,none⟩)->ak e' 5=.pointer (some ⟨R2,0,none⟩)->ab (ax G.v) h h'->eY DN h' G ys'->JN ys' gs->QQ (.exit 0) e' h'):aB FF (.loop rq) e h QQ:=by
 have U1:=hG.len;refine aB.loop (alD h0 h G F f U R1 R2 fv gs) ?_ (n:=gs.length) ⟨0,ys,rfl,by omega,f1,f2,f4,f5,f15,f16,f17,.refl g0.ok,hG,PV,fun i y g _ a b=>hI i y g a b⟩;rintro m e' h'⟨j,zs,rfl,hj,q1,q2,q4,q5,Ax,CO,WZ,g,hG',Rz,hI'⟩;have bz:=g.ok;have gg:ab aK h0 h':=g0.trans' g (fun _ _ h=>h) (fun x hx e=>by have:=Y2 x e;omega);have yR:=g.get g0.ok hU nU;have zU:=yR;simp at zU;have C0:=bz.st _ _ _ _ _ yR;have oU:=bz.bC yR;unfold rq;by_cases aS:j<gs.length
 .have wj:=wrap_i64 ((j:Int)+1) (by omega) (by omega);obtain⟨y,hy⟩:=aE zs j (by rw[Rz.1];exact aS);obtain⟨gj,hgj⟩:=aE gs j aS;have sI:=hI' j y gj (dw _) hy hgj;obtain⟨b,cs,o,s,ha,hb,Yc,eU,dj,gE⟩:=hG'.el hy;have acK:=hG'.len;have rd:=dj 0 3 (by decide);simp[-ag] at rd;rw[ha,acK,Rz.1] at zU;simp at Ax;rw[ha,acK,Rz.1] at Ax;have nUb:¬U=b:=fun e=>nU (e▸cw ha);simp[q2,Ax,CO,WZ,aS,rd,-ag,au,aX,aN,av zU,oU,ay];refine aU.cut (fun h2=>ab aK h' h2) (((ab.refl bz).var _ _).tick) ?_;intro h2 g2;have D0:=g2.get bz zU;have x4:=g2.get bz hb;refine aU.call (V:=tj bj h2 gj.init) (by simpa using jM bj (bytes:=8) lS rfl (by decide) g2.ok ((abE sI).bl oD (gg.trans g2)) (by have:=zY gj (dG hgj);omega)) ?_;rintro _ h3⟨g3,I',rfl,_,_,_⟩;have My:=g3.get g2.ok D0;have D3:=g3.get g2.ok x4;have tY:sU<=h'.clock+1:=by omega
  have hf:=eU 2 1 (by decide);simp at hf;simp[q2,My,tY,aS,D3,hf,WZ,wj];have g4:=aQ (off:=j*3+2) (vs:=[Value.slice I'.a I'.l I'.c]) g3.ok D3;have A4:=gE {y with I:=I'} 2 [Value.slice I'.a I'.l I'.c] (by simp) rfl (put h3 b (j*3+2) cs [Value.slice I'.a I'.l I'.c] o) ⟨h3.clock,by simp⟩;refine⟨gs.length-(j+1),by omega,j+1,zs.set j {y with I:=I'},rfl,aS,by simp[q1],by simp[q2],by simp[q4],by simp[q5],by simp[Ax,ha,acK,Rz.1],by simp[CO],by simp,((g.trans g2.bl).trans g3.bl).trans (g4.bU (fun x _ e=>e▸cw ha)),A4,⟨by simp[Rz.1],fun i a c h1 h2=>?_⟩,fun i a c hi h1 h2=>?_⟩
  .rw[fg] at h1;by_cases e1:j=i
   .subst e1;rw[aZ rfl,aZ (by rw[Rz.1];exact aS)] at h1;cases h1;exact Rz.2 j y c hy h2
   .rw[aW e1] at h1;exact Rz.2 i a c h1 h2
  .rw[fg,aW (by omega)] at h1;exact hI' i a c (by omega) h1 h2
 .have:j=gs.length:=by omega
  subst this;simp[CO,WZ];exact C _ _ zs (by simp[q1]) (by simp[q2]) (by simp[q4]) (by simp[q5]) g hG' Rz
abbrev BF:Type:=GF->Nat->List XR->Prop
def Gh(P:Nat->List XR->Prop)(name:ByteArray)(p:Int)(n0:Nat)(κ0:Nat->Nat)(h:ae)(v:Value)(h':ae):Prop:=
 ab (fun x=>κ0 x≠0) h h'/\∃(B':SV) (cC:List XR) (κ cap:Nat->Nat) (ai many:Nat),v=.agg ⟨aw name p many B'⟩/\(∀x,x<h.next->κ x=κ0 x)/\pV h' n0 ai κ cap B' cC/\cC.length<=72/\(∀r∈cC,r.ps.length<=100000/\r.ls.length<=100000)/\P many cC
def zn(M:Nat)(P:BF)(h:ae)(z:XF)(f:GF):Prop:=
 ∃(n0 ai many:Nat) (κ cap:Nat->Nat) (rs:List XR),pV h n0 ai κ cap z.B rs/\(∀x,x<M->κ x=0)/\rs.length<=72/\(∀r∈rs,r.ps.length<=100000/\r.ls.length<=100000)/\(z.name=f.name/\z.params=f.params/\z.ai=many)/\P f many rs
theorem zn.grow{S:Nat->Prop}{M:Nat}{P:BF}{h h':ae}{z:XF}{f:GF}(d:zn M P h z f)(ok:bm h)(g:ab S h h')(hS:∀b,S b->b<M\/h.next<=b):zn M P h' z f:=by
 obtain⟨n0,ai,many,κ,cap,rs,O,GW,a,b,c,d⟩:=d;refine⟨n0,ai,many,κ,cap,rs,O.grow ok g (fun x hx=>?_),GW,a,b,c,d⟩;rcases hS x hx with h1|h1
 .exact GW x h1
 .have hw:=O.os.new x;rcases ve (κ x) with h2|h2
  .exact h2
  .have:=(hw (by omega)).2;omega
structure aaG(f:GF):Prop where
 F:mM f
 L:Dj f
 S:r6 f.blocks
def alE(h0 hL:ae)(P:BF)(F:SV)(U R1 R2:Nat)(fv:Value)(fs:List GF)(m:Nat)(e:Env)(h':ae):Prop:=
 ∃(k:Nat) (zs:List XF),m=fs.length-k/\k<=fs.length/\ak e 1=fv/\ak e 2=.pointer (some ⟨U,0,none⟩)/\ak e 4=.pointer (some ⟨R1,0,none⟩)/\ak e 5=.pointer (some ⟨R2,0,none⟩)/\ak e 36=F.v/\ak e 37=.int .i64 fs.length/\ak e 38=.int .i64 k/\
  ab (ax F.v) hL h'/\eY zO h' F zs/\zs.length=fs.length/\(∀(i:Nat)(z:XF)(f:GF),i<k->zs[i]?=some z->fs[i]?=some f->zn hL.next P h' z f)/\∀(i:Nat)(z:XF)(f:GF),k<=i->zs[i]?=some z->fs[i]?=some f->Pp h0 z f
theorem Ni{h0 hL:ae}(oD:bm h0)(g0:ab aK h0 hL){P:BF}{U R1 R2 sU s1 s2:Nat}{zs0:List XF}(hU:hL.tr.get U=some (.aC [G.v,F.v] false 0 sU))(uK:hL.tr.get R1=some (.aC [.slice none 0 0,.slice none 0 0] false 0 s1))(AO:hL.tr.get R2=some (.aC [.int .i64 0,.int .i64 0] false 0 s2))(n12:¬R1=R2)(nU:¬ax F.v U)(nR1:¬ax F.v R1)(nR2:¬ax F.v R2)(hF:eY zO hL F zs0)(KC:∀b,ax F.v b->h0.next<=b)(IN:zs0.length=fs.length)(hz:∀(i:Nat)(z:XF)(f:GF),zs0[i]?=some z->fs[i]?=some f->Pp h0 z f)(iC:fs.length<=10)(dx:∀f∈fs,aaG f)(H:∀f∈fs,∀(h:ae)(pn n0 ai:Nat)(κ cap:Nat->Nat)(B:SV)(rs:List XR),bm h->ab (ax F.v) hL h->n0<=h.next->hL.next<=n0->f.params=pn->f.ai=ai->pn<=ai->ai<1000000->pV h n0 ai κ cap B rs->Mp rs f.blocks->c_ FF fv [.agg ⟨aw f.name pn ai B⟩] h (Gh (P f) f.name pn n0 κ h))(f1:ak e 1=fv)(f2:ak e 2=.pointer (some ⟨U,0,none⟩))(f4:ak e 4=.pointer (some ⟨R1,0,none⟩))(f5:ak e 5=.pointer (some ⟨R2,0,none⟩))(f36:ak e 36=F.v)(f37:ak e 37=.int .i64 fs.length)(f38:ak e 38=.int .i64 0)(bad:∀e' h' a,ak e' 4=.pointer (some ⟨R1,0,none⟩)->ak e' 5=.pointer (some ⟨R2,0,none⟩)->ab (fun b=>ax F.v b\/b=R1\/b=R2) hL h'->(∃s,h'.tr.get R1=some (.aC [.slice none 0 0,.slice none 0 0] false 0 s))->(∃s,h'.tr.get R2=some (.aC [.int .i64 10,.int .i64 a] false 0 s))->QQ .ret e' h')(yQ:∀e' h' zs,ak e' 2=.pointer (some ⟨U,0,none⟩)->ak e' 4=.pointer (some ⟨R1,0,none⟩)->ak e' 5=.pointer (some ⟨R2,0,none⟩)->ab (ax F.v) hL h'->eY zO h' F zs->zs.length=fs.length->(∀(i:Nat)(z:XF)(f:GF),zs[i]?=some z->fs[i]?=some f->zn hL.next P h' z f)->QQ (.exit 2) e' h'):aB FF (.loop rp) e hL QQ:=by
 have okL:=g0.ok;refine aB.loop (alE h0 hL P F U R1 R2 fv fs) ?_ (n:=fs.length) ⟨0,zs0,rfl,by omega,f1,f2,f4,f5,f36,f37,f38,.refl okL,hF,IN,fun i z f h=>by omega,fun i z f _ a b=>hz i z f a b⟩;rintro m e' h'⟨k,zs,rfl,hk,q1,q2,q4,q5,q36,q37,Sx,g,vf,K9,hD,hT⟩;have bz:=g.ok;have ln:=g.next;have gg:ab aK h0 h':=g0.trans' g (fun _ _ h=>h) (fun x hx e=>by have:=KC x e;omega);have yR:=g.get okL hU nU;have hR1':=g.get okL uK nR1;have hR2':=g.get okL AO nR2;have pC:=vf.len;unfold rp;by_cases rN:k<fs.length
 .have wk:=wrap_i64 ((k:Int)+1) (by omega) (by omega);obtain⟨z,hzk⟩:=aE zs k;obtain⟨f,hfk⟩:=aE fs k rN;obtain⟨e1,e2,e3,hBs⟩:=hT k z f (dw _) hzk hfk;have K:=dx f (dG hfk);have hr:=K.F.head.ai;have hp:=K.F.head.params;obtain⟨pn,N1⟩:∃n:Nat,f.params=n:=⟨f.params.toNat,by omega⟩;obtain⟨rn,Rv⟩:∃n:Nat,f.ai=n:=⟨f.ai.toNat,by omega⟩;obtain⟨b,cs,o,s,ha,hb,Yc,eU,dj,gE⟩:=vf.el hzk;have rd:=dj 0 4 (by decide);simp[-ag] at rd;rw[e1,e2,e3,N1,Rv] at rd;simp at q36;rw[ha,pC,K9] at q36;simp[q36,q37,Sx,q1,rN,rd,-ag,au];refine aG.cut (fun h2=>ab aK h' h2/\∃s,h2.tr.get h'.next=some (.aC (aw f.name pn rn z.B) false 0 s)) ?_ ?_
  .exact⟨(ab.refl bz).var _ _,h'.clock,by simp[aH,aw]⟩
  rintro h2⟨g2,sX,dX⟩;have mz:=gg.trans g2;have Tl:CT h2 z.B f.blocks:=hBs.mono oD mz;have l2:=g2.next;have lX:=g2.ok.wf _ _ dX;refine aG.call (V:=aaE f.name pn rn rn f.blocks h2) (by simpa [aw] using QV g2.ok (name:=f.name) (p:=pn) (r:=rn) (ai:=rn) Tl (fun b hb=>by have:=VL K.F b hb;rw[Rv] at this;simpa using this) (by have:=K.F.head.blocks;omega)) ?_;rintro _ h3⟨g3,B3,rs,κ,cap,rfl,O3,R3⟩;have fe:=g3.get g2.ok dX;have κlo:∀x,x<h2.next->κ x=0:=fun x hx=>by
   have hw:=O3.os.new x;rcases ve (κ x) with h1|h1
   .exact h1
   .have:=(hw (by omega)).1;omega
  have l3:=g3.next;simp[q1];refine aG.cU (V:=Gh (P f) f.name pn h2.next κ h3) (by simpa [q1,aw] using H f (dG hfk) h3 pn h2.next rn κ cap B3 rs g3.ok (g.trans (g2.trans g3).bl) (by omega) (by omega) N1 Rv (by omega) (by omega) O3 R3) ?_;rintro _ h4⟨g4,B4,rs4,κ4,amQ,ajK,many,rfl,GX,O4,Rp,hs4,XT⟩;have G4:ab aK h' h4:=(g2.trans g3).trans' g4 (fun _ _ h=>h) (fun x hx e=>e (κlo x (by omega)));have vg:=g4.get g3.ok fe (fun e=>e (κlo _ lX));have NI:=vg;simp[aw] at NI;simp[aw,NI];refine aG.cut (fun h5=>ab (· =h'.next) h4 h5/\∃s,h5.tr.get h'.next=some (.aC [.string f.name,.int .i64 pn,.int .i64 many,.slice B4.a B4.l B4.c] false 0 s)) ?_ ?_
  .exact⟨(ab.refl g4.ok).put ⟨_,NI⟩ (.inr rfl),h4.clock,by simp⟩
  rintro h5⟨g5,s5,uL⟩;have κX4:κ4 h'.next=0:=by rw[GX _ (by omega)];exact κlo _ lX
  have O5:=O4.grow g4.ok g5 (fun x e=>by rw[e];exact κX4);have G5:ab aK h' h5:=G4.trans' g5 (fun _ _ h=>h) (fun x hx e=>by omega);obtain⟨bs5,aod,hV5⟩:=O5.view;have C5:af0 bs5:=by refine⟨by rw[hV5.1];omega,fun b hb=>?_⟩;obtain⟨i,hi⟩:=sv hb;obtain⟨r,hr⟩:=aE rs4 i (by rw[<-hV5.1];exact(cr.mp hi).1);have v:=hV5.2 i r b hr hi;have:=hs4 r (dG hr);rw[v.pl,v.ll];omega
  refine aG.call (V:=zl h5) (by simpa [aw] using Og g5.ok (name:=f.name) (p:=pn) (r:=many) aod C5) ?_;rintro _ h6⟨g6,big,rfl⟩;have G6:=G5.trans g6;have GL6:ab (ax F.v) hL h6:=g.trans G6.bl;have To:=GL6.get okL hU nU;have Y7:=GL6.get okL uK nR1;have Y8:=GL6.get okL AO nR2;have wU:=g6.get g5.ok uL;cases big with
  |true=>
   simp;refine aG.call (by simpa using jl h6 g6.ok 10 (k:Int)) ?_;rintro _ h7⟨rfl,g7⟩;have U3:=g7.get g6.ok Y7;have U4:=g7.get g6.ok Y8;have n21:¬R2=R1:=fun e=>n12 e.symm;simp[q4,q5,U3,U4,n21];have GL7:ab (fun b=>ax F.v b\/b=R1\/b=R2) hL h7:=(GL6.bU (fun x _ h=>.inl h)).trans g7.bl;refine bad _ _ k (by simp[q4]) (by simp[q5]) ?_ ⟨h7.clock,by simp[n12]⟩ ⟨h7.clock+1,by simp⟩;exact(GL7.put ⟨_,U3⟩ (.inr (.inr (.inl rfl)))).put ⟨s2,by simp[n21,U4]⟩ (.inr (.inr (.inr rfl)))
  |false=>
   have A6:=vf.grow bz G6 (fun _ _ h=>h);obtain⟨b6,cs6,o6,s6,ha6,NJ,hjA6,ahY,hrd6,aiJ⟩:=A6.el hzk;rw[ha] at ha6;cases ha6;have NH:=To;simp at NH;rw[ha,pC,K9] at NH;have hf6:=ahY 0 4 (by decide);simp at hf6;simp[q2,NH,wU,rN,NJ,hf6,Sx,wk];have lb:b<hL.next:=hF.bC okL (cw ha);have g7:=aQ (off:=k*4) (vs:=[Value.string f.name,Value.int .i64 pn,Value.int .i64 many,Value.slice B4.a B4.l B4.c]) g6.ok NJ;have A7:=aiJ ⟨f.name,pn,many,B4⟩ 0 [Value.string f.name,Value.int .i64 pn,Value.int .i64 many,Value.slice B4.a B4.l B4.c] (by simp) rfl (put h6 b (k*4) cs6 [Value.string f.name,Value.int .i64 pn,Value.int .i64 many,Value.slice B4.a B4.l B4.c] o6) ⟨h6.clock,by simp⟩;have GL7:=GL6.trans (g7.bU (fun x _ e=>e▸cw ha));generalize put h6 b (k*4) cs6 _ o6=h7 at*;have hkz:k<zs.length:=by omega
   refine⟨fs.length-(k+1),by omega,k+1,zs.set k ⟨f.name,pn,many,B4⟩,rfl,rN,by simp[q1],by simp[q2],by simp[q4],by simp[q5],by simp[q36,ha,pC,K9],by simp[q37],by simp,GL7,A7,by simp[K9],fun i z2 f2 hi h1 h2=>?_,fun i z2 f2 hi h1 h2=>?_⟩
   .rw[fg] at h1;by_cases e1:k=i
    .subst e1;rw[aZ rfl,aZ hkz] at h1;cases h1;rw[hfk] at h2;cases h2;have D5:zn hL.next P h5 ⟨f.name,pn,many,B4⟩ f:=⟨_,ajK,many,κ4,amQ,rs4,O5,fun x hx=>by rw[GX x (by omega)];exact κlo x (by omega),Rp,hs4,⟨rfl,N1.symm,rfl⟩,XT⟩;exact(D5.grow g5.ok g6 (fun _ h=>h.elim)).grow g6.ok g7 (fun x e=>.inl (by omega))
    .rw[aW e1] at h1;exact((hD i z2 f2 (by omega) h1 h2).grow bz G6 (fun _ h=>h.elim)).grow g6.ok g7 (fun x e=>.inl (by omega))
   .rw[fg,aW (by omega)] at h1;exact hT i z2 f2 (by omega) h1 h2
 .have:k=fs.length:=by omega
  subst this;simp[q37,Sx];exact yQ _ _ zs (by simp[q2]) (by simp[q4]) (by simp[q5]) g vf K9 (fun i z f a b=>hD i z f (by have:=(cr.mp b).1;omega) a b)
def aaF(P:BF)(gs:List GG)(fs:List GF)(h:ae)(v:Value)(h':ae):Prop:=
 ab aK h h'/\∃(G' F':SV) (c a:Int),v=.tuple #[.agg ⟨[G'.v,F'.v]⟩,.agg ⟨[.int .i64 c,.int .i64 a]⟩]/\
  ((c≠0/\G'=d_/\F'=d_)\/(c=0/\(∀b,ax G'.v b\/ax F'.v b->h.next<=b)/\∃M ys zs,h.next<=M/\eY DN h' G' ys/\JN ys gs/\eY zO h' F' zs/\zs.length=fs.length/\∀(i:Nat)(z:XF)(f:GF),zs[i]?=some z->fs[i]?=some f->zn M P h' z f))
theorem Q3(ok:bm h){P:BF}(hu:uR h G F u)(hgl:u.globals.length<=10)(zY:∀g∈u.globals,g.init.length<=1048576)(iC:u.funcs.length<=10)(dx:∀f∈u.funcs,aaG f)(H:∀f∈u.funcs,∀(h1:ae)(pn n0 ai:Nat)(κ cap:Nat->Nat)(B:SV)(rs:List XR),bm h1->ab aK h h1->n0<=h1.next->h.next<=n0->f.params=pn->f.ai=ai->pn<=ai->ai<1000000->pV h1 n0 ai κ cap B rs->Mp rs f.blocks->c_ FF fv [.agg ⟨aw f.name pn ai B⟩] h1 (Gh (P f) f.name pn n0 κ h1)):
  aF FF Al [.agg ⟨[G.v,F.v]⟩,fv] h (aaF P u.globals u.funcs h):=by
 obtain⟨ys,Aa,PV,hY⟩:=agV hu.1;obtain⟨zs,IN,Rz,hZ⟩:=agP hu.2;refine aF.of HR ?_;unfold zx;have n1:¬h.next=h.next+1:=by omega
 have n2:¬h.next=h.next+1+1:=by omega
 simp[n1,n2];refine aG.cut (fun h1=>ab aK h h1/\(∃s,h1.tr.get h.next=some (.aC [G.v,F.v] false 0 s))/\(∃s,h1.tr.get (h.next+1)=some (.aC [.slice none 0 0,.slice none 0 0] false 0 s))/\(∃s,h1.tr.get (h.next+1+1)=some (.aC [.int .i64 0,.int .i64 0] false 0 s))) ?_ ?_
 .exact⟨(((ab.refl ok).new _ _).new _ _).new _ _,⟨0,by simp[n1,n2]⟩,⟨0,by simp⟩,⟨0,by simp⟩⟩
 rintro h1⟨g1,⟨sU,XU⟩,⟨s1,anH⟩,⟨s2,ahm⟩⟩;have lR:=g1.ok.wf _ _ ahm;refine aG.call (V:=tj DN h1 ys) (by simpa using jM DN (bytes:=48) jX rfl (by decide) g1.ok (PV.bl ok g1) (by omega)) ?_;rintro _ h2⟨g2,G',rfl,hG2,Y2,_⟩;have zU:=g2.get g1.ok XU;have IB:=zU;simp at IB;have anI:=g2.get g1.ok anH;have anL:=g2.get g1.ok ahm;have U1:=hG2.len;simp[IB];refine aB.cut (fun h3=>ab (· =h.next) h2 h3/\∃s,h3.tr.get h.next=some (.aC [G'.v,F.v] false 0 s)) ?_ ?_
 .exact⟨(ab.refl g2.ok).put ⟨_,IB⟩ (.inr rfl),h2.clock,by simp⟩
 rintro h3⟨g3,sU3,D0⟩;have l2:=g2.next;have mz:=g1.trans g2;have di:ab aK h h3:=mz.trans' g3 (fun _ _ h=>h) (fun x hx e=>by omega);have nG:∀x,x<h1.next->¬ax G'.v x:=fun x hx e=>by have:=Y2 x e;omega
 have hG3:=hG2.grow g2.ok g3 (fun b hb e=>by have:=Y2 b hb;omega);have anJ:=g3.get g2.ok anI (by omega);have anM:=g3.get g2.ok anL (by omega);refine Ig (fv:=fv) (R1:=h.next+1) (R2:=h.next+1+1) (f:=d_) ok di D0 (nG _ (by omega)) hG3 (fun b hb=>by have:=Y2 b hb;have:=g1.next;omega) ⟨Aa,fun i y g a b=>⟨(hY i y g a b).1,(hY i y g a b).2.1⟩⟩ (fun i y g a b=>(hY i y g a b).2.2) hgl zY (by simp) (by simp) (by simp) (by simp) (by simp) (by simp[U1,Aa]) (by simp) ?_;intro e4 h4 ys4 q1 q2 q4 q5 g4 hG4 hS4;have me:ab aK h h4:=di.trans' g4 (fun _ _ h=>h) (fun x hx e=>by have:=Y2 x e;have:=g1.next;omega);have My:=g4.get g3.ok D0 (nG _ (by omega));have anK:=g4.get g3.ok anJ (nG _ (by omega));have anN:=g4.get g3.ok anM (nG _ (by omega));have NG:=My;simp at NG;simp[q2,NG];refine aG.call (V:=tj zO h4 zs) (by simpa using jM zO (bytes:=56) lQ rfl (by decide) g4.ok (Rz.bl ok me) (by omega)) ?_;rintro _ h5⟨g5,F',rfl,NB,KC,_⟩;have hU5:=g5.get g4.ok My;have acR:=hU5;simp at acR;have l34:h2.next<=h4.next:=sD g3.next g4.next;have pC:=NB.len;have hG5:=hG4.bl g4.ok g5;simp[q2,acR];refine aB.cut (fun h6=>ab (· =h.next) h5 h6/\∃s,h6.tr.get h.next=some (.aC [G'.v,F'.v] false 0 s)) ?_ ?_
 .exact⟨(ab.refl g5.ok).put ⟨_,acR⟩ (.inr rfl),h5.clock,by simp⟩
 rintro h6⟨g6,sU6,To⟩;have l5:=g5.next;have Mt:ab aK h h6:=(me.trans g5).trans' g6 (fun _ _ h=>h) (fun x hx e=>by omega);have g46:ab (· =h.next) h4 h6:=g5.bl.trans g6;have nF:∀x,x<h4.next->¬ax F'.v x:=fun x hx e=>by have:=KC x e;omega
 have hF6:=NB.grow g5.ok g6 (fun b hb e=>by have:=KC b hb;omega);have hG6:=hG5.grow g5.ok g6 (fun b hb e=>by have:=Y2 b hb;omega);have Y7:=g46.get g4.ok anK (by omega);have Y8:=g46.get g4.ok anN (by omega);have l1:=g1.next;refine Ni (R1:=h.next+1) (R2:=h.next+1+1) (U:=h.next) (zs0:=zs) (fs:=u.funcs) ok Mt To Y7 Y8 (by omega) (nF _ (by omega)) (nF _ (by omega)) (nF _ (by omega)) hF6 (fun b hb=>by have:=KC b hb;omega) IN hZ iC dx (fun f hf h1 pn n0 ai κ cap B rs a1 a2 a3 a4 a5 a6 a7 a8 a9 a10=>H f hf h1 pn n0 ai κ cap B rs a1 (Mt.trans' a2 (fun _ _ h=>h) (fun x hx e=>by have:=KC x e;omega)) a3 (by have:=Mt.next;omega) a5 a6 a7 a8 a9 a10) (by simp[q1]) (by simp[q2]) (by simp[q4]) (by simp[q5]) (by simp) (by simp[pC,IN]) (by simp) ?_ ?_
 .rintro e7 h7 a k4 k5 g7⟨t1,hA⟩ ⟨t2,hB⟩;simp[k4,k5,hA,hB];exact⟨Mt.trans' g7 (fun _ _ h=>h) (fun x hx e=>by
   rcases e with e|e|e
   .have:=KC x e;omega
   .omega
   .omega),d_,d_,10,a,rfl,.inl ⟨by decide,rfl,rfl⟩⟩
 .intro e7 h7 zs7 k2 k4 k5 g7 hF7 hl7 hD7;have XV:=g7.get g6.ok To (nF _ (by omega));have U3:=g7.get g6.ok Y7 (nF _ (by omega));have U4:=g7.get g6.ok Y8 (nF _ (by omega));have ahs:=XV;simp at ahs;have hFG:∀b,ax G'.v b->¬ax F'.v b:=fun b hb h=>by have:=hG4.bC g4.ok hb;have:=KC b h;omega
  have hG7:=hG6.grow g6.ok g7 hFG;simp[k2,k4,k5,ahs,U3,U4];have gw:=((ab.refl g7.ok).put (S:=fun x=>x=h.next+1\/x=h.next+1+1) (off:=0) (vs:=[Value.slice G'.a G'.l G'.c,Value.slice F'.a F'.l F'.c]) ⟨_,U3⟩ (.inr (.inl rfl))).put (b:=h.next+1+1) (off:=0) (cs:=[.int .i64 0,.int .i64 0]) (o:=0) (vs:=[.int .i64 0,.int .i64 0]) ⟨s2,by simp[U4]⟩ (.inr (.inr rfl));have l6:=g6.next;generalize put (put h7 _ _ _ _ _) _ _ _ _ _=h8 at gw⊢;refine⟨(Mt.trans' g7 (fun _ _ h=>h) (fun x hx e=>by have:=KC x e;omega)).trans' gw (fun _ _ h=>h) (fun x hx e=>by omega),G',F',0,0,by simp,.inr ⟨rfl,fun b hb=>by
   rcases hb with hb|hb
   .have:=Y2 b hb;omega
   .have:=KC b hb;omega,h6.next,ys4,zs7,by omega,hG7.grow g7.ok gw (fun b hb e=>by have:=Y2 b hb;omega),hS4,hF7.grow g7.ok gw (fun b hb e=>by have:=KC b hb;omega),hl7,fun i z f a b=>(hD7 i z f a b).grow g7.ok gw (fun x e=>.inl (by omega))⟩⟩
def Wu(c:Int)(rs:List XR):Nat:=kK (fun s=>s.1==c) rs
def MK(rs cC:List XR):Prop:=(∀c:Int,Wu c cC<=Wu c rs)/\∀c:Int,c<1\/17<c->Wu c cC=Wu c rs
structure Kp(vA rs:List XR):Prop where
 tf:TF0 rs
 uq:Uq rs
 fd:Fd rs
 seen:Seen vA->Seen rs
 op:MK vA rs
theorem WR.ops{D:Nat->Prop}{rs tg:List XR}{nw I3:List (Bool×Int)}{aR jS:Bool}(w:WR D rs tg nw I3 aR jS):MK rs tg:=by
 have le:∀c:Int,Wu c tg<=Wu c rs:=fun c=>u4 _ _ _ w.len (fun i x y a b=>(w.row i y x b a).aqI c);refine⟨le,fun c hc=>Nat.le_antisymm (le c) ?_⟩;exact u4 _ _ _ w.len.symm (fun i x y a b=>by have:=(w.row i x y a b).op c hc;show Oq c x.ls<=Oq c y.ls;omega)
theorem Kp.step{vA rs tg:List XR}(k:Kp vA rs){D:Nat->Prop}{nw I3:List (Bool×Int)}{aR jS:Bool}(w:WR D rs tg nw I3 aR jS):Kp vA tg:=
 ⟨w.tf k.tf,w.uq k.uq,w.fd k.fd,fun s=>w.seen (k.seen s),fun c=>sD (w.ops.1 c) (k.op.1 c),fun c hc=>(w.ops.2 c hc).trans (k.op.2 c hc)⟩
def VdI(n0 ai:Nat)(B:SV)(κ0 cap:Nat->Nat)(rs:List XR)(bu:Int)(F R:Nat)(h:ae)(mm:Nat)(e':Env)(h':ae):Prop:=
 ∃(κ:Nat->Nat) (cC:List XR),mm=vq cC/\ak e' 0=.int .i64 bu/\ak e' 3=.pointer (some ⟨F,0,none⟩)/\ak e' 4=.pointer (some ⟨R,0,none⟩)/\ab (fun b=>κ0 b=1\/κ0 b=2) h h'/\(∀b,b<h.next->κ b=κ0 b)/\pV h' n0 ai κ cap B cC/\Kp rs cC
theorem OY(ok:bm h){name:ByteArray}(wv:n0<=h.next)(O:pV h n0 ai κ0 pP B rs)(T:TF0 rs)(U:Uq rs)(Fd0:Fd rs)(S:Seen rs)(hp:p<=ai)(yV:ai<1000000)(hw:0<=bu/\bu<1000000000):
  aF FF Ap [.int .i64 bu,.agg ⟨aw name p ai B⟩] h (Gh (fun _ cC=>MK rs cC) name p n0 κ0 h):=by
 have κhi:∀b,h.next<=b->κ0 b=0:=fun b hb=>by
  rcases ve (κ0 b) with h1|h1
  .exact h1
  .have:=(O.os.new b (by omega)).2;omega
 have n1:¬h.next=h.next+1:=by omega
 refine aF.of HU ?_;unfold zC;simp[aw,n1];refine aB.cut (fun h1=>ab aK h h1/\(∃s,h1.tr.get h.next=some (.aC (aw name p ai B) false 0 s))/\∃s,h1.tr.get (h.next+1)=some (.aC [.string ⟨⟨[]⟩⟩,.int .i64 0,.int .i64 0,.slice none 0 0] false 0 s)) ?_ ?_
 .exact⟨((ab.refl ok).new _ _).new _ _,⟨0,by simp[n1,aw]⟩,0,by simp⟩
 rintro h1⟨g1,⟨sF,xX⟩,sR,uK⟩;have lR:=g1.ok.wf _ _ uK;have l1:=g1.next;have κF0:κ0 h.next=0:=κhi _ (dw _);have κR0:κ0 (h.next+1)=0:=κhi _ (by omega);refine aB.loop (VdI n0 ai B κ0 pP rs bu h.next (h.next+1) h1) ?_ (n:=vq rs) ⟨κ0,rs,rfl,by simp,by simp,by simp,.refl g1.ok,fun _ _=>rfl,O.bl ok g1,T,U,Fd0,fun s=>s,fun _=>dw _,fun _ _=>rfl⟩;rintro mm e' h'⟨κ,cC,rfl,q0,q3,q4,g,low,O',K⟩;have bz:=g.ok;have l2:=g.next;have nsF:¬(κ0 h.next=1\/κ0 h.next=2):=by omega
 have nsR:¬(κ0 (h.next+1)=1\/κ0 (h.next+1)=2):=by omega
 have hF:=g.get g1.ok xX nsF;have hR:=g.get g1.ok uK nsR;unfold wI;simp[q0,q3];refine aG.call (V:=fun v h2=>aaK n0 ai B κ pP cC h' v h2/\bm h2) (by refine aF.mono (by simpa [q0,q3] using Se bz (by omega) O' K.tf K.uq K.fd hF (by rw[low _ (by omega)];exact κF0) yV hw) ?_;intro v h2 hq;refine⟨hq,?_⟩;obtain⟨_,_,_,_,_,_,_,g2,_⟩:=hq;exact g2.ok) ?_
 rintro _ h2⟨⟨κ2,Fv,nw,nw2,D,aR,rfl,g2,ad4,O2,R2⟩,Wo⟩;have l3:=g2.next;have gg:ab (fun b=>κ0 b=1\/κ0 b=2) h1 h2:=g.trans' g2 (fun _ _ h=>h) (fun x hx e=>by rw[low x hx] at e;exact e);have K2:=K.step R2;have lw2:∀b,b<h1.next->κ2 b=κ0 b:=fun b hb=>by rw[ad4 b (by omega),low b hb]
 cases aR with
 |true=>
  have sz:vq Fv<vq cC:=by
   rcases R2.size rfl with h|h
   .cases h
   .exact h
  simp;exact⟨vq Fv,sz,κ2,Fv,rfl,by simp[q0],by simp[q3],by simp[q4],gg,lw2,O2,K2⟩
 |false=>
  have mI:=gg.get g1.ok xX nsF;have AO:=gg.get g1.ok uK nsR;have Iz:=mI;simp[aw] at Iz;simp[q3,q4,Iz];refine aG.call (V:=aaN name p n0 ai κ2 Fv h2) (by simpa [aw] using SX g2.ok (name:=name) (by omega) O2 K2.tf hp yV) ?_;rintro _ h6⟨g6,B6,rs6,κ6,vX,many,rfl,atg,ajb,O6,hl6,hs6,hc6⟩;have κR2:κ2 (h.next+1)=0:=by rw[lw2 _ (by omega)];exact κR0
  have NF:=g6.get g2.ok AO (fun e=>e κR2);have κR6:κ6 (h.next+1)=0:=by rw[ajb _ (by omega)];exact κR2
  simp[aw,q4,NF];have g7:=aQ (off:=0) (vs:=[Value.string name,.int .i64 p,.int .i64 many,.slice B6.a B6.l B6.c]) g6.ok NF;have y2:ab (fun x=>κ0 x≠0) h h2:=g1.bl.trans' gg (fun _ _ h=>h) (fun x hx e=>by omega);have y6:ab (fun x=>κ0 x≠0) h h6:=y2.trans' g6 (fun _ _ h=>h) (fun x hx e=>by rw[lw2 x (by omega)] at e;exact e);refine⟨y6.trans' g7 (fun _ _ h=>h) (fun x hx e=>by omega),B6,rs6,κ6,vX,ai,many,by simp[aw],fun x hx=>by rw[ajb x (by omega),lw2 x (by omega)],O6.grow g6.ok g7 (fun x e=>by rw[e];exact κR6),hl6.2,hs6,fun c=>sD (hc6 _).1 (K2.op.1 c),fun c hc=>((hc6 _).2 (K2.seen S)).trans (K2.op.2 c hc)⟩
def Le(c:Int):Sh->Bool:=fun s=>s.1==c
def AX(c:Int)(bs:List GB):Nat:=CH (Le c) bs
def VaP:BF:=fun f _ rs=>(∀c:Int,Wu c rs<=AX c f.blocks)/\∀c:Int,c<1\/17<c->Wu c rs=AX c f.blocks
theorem MK.copy{rs cC:List XR}(V:MK rs cC)(R:Mp rs f.blocks):(∀c:Int,Wu c cC<=AX c f.blocks)/\∀c:Int,c<1\/17<c->Wu c cC=AX c f.blocks:=by have e:∀c:Int,Wu c rs=AX c f.blocks:=fun c=>Ut R _;exact⟨fun c=>by rw[<-e];exact V.1 c,fun c hc=>by rw[<-e];exact V.2 c hc⟩
theorem Ik{α β γ:Type}{f:α->γ}{g:β->γ}{xs:List α}{ys:List β}(hl:xs.length=ys.length)(H:∀(i:Nat)(x:α)(y:β),xs[i]?=some x->ys[i]?=some y->f x=g y):xs.map f=ys.map g:=by
 refine zS fun i=>?_;rw[tT,tT];rcases zf i xs.length with hi|hi
 .obtain⟨x,hx⟩:=aE xs i hi;obtain⟨y,hy⟩:=aE ys i;rw[hx,hy];simp only[DY];rw[H i x y hx hy]
 .rw[tS hi,tS (by omega)];rfl
theorem Ko(φ:Int->Bool)(f:α->Int)(xs:List α):(xs.filter fun x=>φ (f x)).map f=(xs.map f).filter φ:=by rw[List.filter_map];rfl
theorem Q1(rd:RD r b):eJ r=sq b:=by unfold eJ sq gK tR;have e1:r.ps.map (·.1)=b.dQ.map (·.dst):=Ik rd.pl (fun i x y h1 h2=>(rd.ps i x y h1 h2).1);have e2:r.ls.map (fun x=>x.dst)=b.list.map (·.dst):=Ik rd.ll (fun i x y h1 h2=>(rd.ls i x y h1 h2).1.2.1);rw[e1,Ko (fun d=>decide (0<=d)) (fun x:GI=>x.dst),<-e2,Ko (fun d=>decide (0<=d)) (fun k:Int×Int×Int×SV=>k.2.1),List.map_map];rfl
theorem aas(h:(f.blocks.flatMap sq).Nodup)(R:Mp rs f.blocks):Uq rs:=by
 unfold Uq;have:rs.flatMap eJ=f.blocks.flatMap sq:=by rw[List.flatMap_def,List.flatMap_def,Ik (g:=sq) R.1 (fun i x y h1 h2=>Q1 (R.2 i x y h1 h2))]
 rw[this];exact h
theorem YR(F:mM f)(R:Mp rs f.blocks):Fd rs:=by
 intro r hr k hk h1;obtain⟨b,hb,rd⟩:=R.mem hr;obtain⟨x,hx,rfl⟩:=dZ.1 hk;obtain⟨i,hi⟩:=sv hx;obtain⟨p,hp⟩:=aE b.list i (by rw[<-rd.ll];exact(cr.mp hi).1);obtain⟨⟨e1,e2,_⟩,_⟩:=rd.ls i x p hi hp;obtain⟨j,hj⟩:=sv hb;have I:=(F.body.HJ j b hj).list p (dG hp);unfold iN at h1⊢;dsimp only at h1⊢;rw[e1] at h1;have hs:(cz p.op).1=true:=by
  unfold cz;split
  .rfl
  .rw[aZ (by omega)]
 have:=I.dst hs (by omega);unfold u9 at this;omega
def DoQ(P:BF)(u:GU)(h:ae)(v:Value)(h':ae):Prop:=
 ab aK h h'/\∃(G' F':SV) (c a:Int),v=.tuple #[.agg ⟨[G'.v,F'.v]⟩,.agg ⟨[.int .i64 c,.int .i64 a]⟩]/\
  ((c≠0/\G'=d_/\F'=d_)\/(c=0/\Dm u/\∃M ys zs,eY DN h' G' ys/\JN ys u.globals/\eY zO h' F' zs/\zs.length=u.funcs.length/\∀(i:Nat)(z:XF)(f:GF),zs[i]?=some z->u.funcs[i]?=some f->zn M P h' z f))
theorem Tc(ok:bm h)(hw:0<=bu/\bu<1000000000){W sW:Nat}(hW:h.tr.get W=some (.aC [.int .i64 bu] false 0 sW)){name:ByteArray}(wv:n0<=h.next)(O:pV h n0 ai κ0 pP B rs)(T:TF0 rs)(U:Uq rs)(Fd0:Fd rs)(S:Seen rs)(hp:p<=ai)(yV:ai<1000000):
  c_ FF (.func (.func uP) #[] #[.pointer (some ⟨W,0,none⟩)]) [.agg ⟨aw name p ai B⟩] h (Gh (fun _ cC=>MK rs cC) name p n0 κ0 h):=by
 have κnew:∀x,h.next<=x->κ0 x=0:=fun x hx=>by
  have hw:=O.os.new x;rcases ve (κ0 x) with h1|h1
  .exact h1
  .have:=(hw (by omega)).2;omega
 refine c_.func ?_;refine aF.of HV ?_;unfold zD;have n1:¬h.next=h.next+1:=by omega
 have lW:=ok.wf _ _ hW;have oW:=ok.bC hW;have nW1:¬W=h.next:=by omega
 have nW2:¬W=h.next+1:=by omega
 simp[aw,n1,hW,nW1,nW2];refine aG.cut (fun h1=>ab aK h h1/\(∃s,h1.tr.get (h.next+1)=some (.aC [.string ⟨⟨[]⟩⟩,.int .i64 0,.int .i64 0,.slice none 0 0] false 0 s))) ?_ ?_
 .exact⟨((ab.refl ok).new _ _).new _ _,⟨0,by simp⟩⟩
 rintro h1⟨g1,⟨sR,uK⟩⟩;have l1:=g1.next;have lR:=g1.ok.wf _ _ uK;refine aG.call (V:=Gh (fun _ cC=>MK rs cC) name p n0 κ0 h1) (by simpa [aw] using OY g1.ok (name:=name) (p:=p) (by omega) (O.bl ok g1) T U Fd0 S hp yV hw) ?_;rintro _ h2⟨g2,B2,Fv,κ2,J7,ajJ,many,rfl,iM,O2,sE,hs2,aoX⟩;have AO:=g2.get g1.ok uK (fun e=>e (κnew _ (by omega)));simp[aw,AO];have gw:=(ab.refl g2.ok).put (S:=(· =h.next+1)) (off:=0) (vs:=[Value.string name,Value.int .i64 p,Value.int .i64 many,Value.slice B2.a B2.l B2.c]) ⟨_,AO⟩ (.inr rfl);generalize put h2 _ _ _ _ _=h3 at gw⊢;have κR2:κ2 (h.next+1)=0:=by rw[iM _ (by omega)];exact κnew _ (by omega)
 exact⟨(g1.bl.trans g2).trans' gw (fun _ _ e=>e) (fun x hx e=>by omega),B2,Fv,κ2,J7,ajJ,many,by simp[aw],fun x hx=>iM x (by omega),O2.grow g2.ok gw (fun b e=>by rw[e];exact κR2),sE,hs2,aoX⟩
theorem XJ(ok:bm h)(hw:CA h)(hu:uR h G F u)(sm:A8 u)(hL:∀f∈u.funcs,Dj f):
  aF FF Er [.agg ⟨[G.v,F.v]⟩] h (DoQ VaP u h):=by
 refine aF.of M4 ?_;unfold Dw;have e1:¬h.next=h.next+1:=by omega
 have e2:¬h.next=h.next+1+1:=by omega
 simp[e1,e2];refine aG.cut (fun h1=>ab aK h h1/\(∃s,h1.tr.get h.next=some (.aC [G.v,F.v] false 0 s))/\(∃s,h1.tr.get (h.next+1)=some (.aC [.slice none 0 0,.slice none 0 0] false 0 s))/\(∃s,h1.tr.get (h.next+1+1)=some (.aC [.int .i64 0,.int .i64 0] false 0 s))) ?_ ?_
 .exact⟨(((ab.refl ok).new _ _).new _ _).new _ _,⟨0,by simp[e1,e2]⟩,⟨0,by simp⟩,⟨0,by simp⟩⟩
 rintro h1⟨g1,⟨sU,XU⟩,⟨s1,Nx⟩,⟨s2,hB1⟩⟩;refine aG.call (V:=Dg (Dm u) h1) (by simpa using LW g1.ok (hw.grow ok g1) (hu.mono ok g1) sm) ?_;rintro _ h2⟨g2,c,a,rfl,hc⟩;have mz:=g1.trans g2;have zU:=g2.get g1.ok XU;have KA:=g2.get g1.ok Nx;have Tl:=g2.get g1.ok hB1;have lB:=g1.ok.wf _ _ hB1;have l2:=g2.next;have nAB:¬h.next+1+1=h.next+1:=by omega
 have nBA:¬h.next+1=h.next+1+1:=by omega
 rcases hc with hc|⟨rfl,rfl,hS⟩
 .have Mz:(c==0)=false:=by simp[hc]
  have nA2:¬h.next+1=h2.next:=by omega
  have nB2:¬h.next+1+1=h2.next:=by omega
  have aqn:¬h2.next=h.next+1:=by omega
  have aqp:¬h2.next=h.next+1+1:=by omega
  simp[Mz,KA,Tl,nA2,nB2,aqn,aqp,nAB,nBA,au,ay];have g3:ab aK h (tick (put (aJ h2 [.int .i64 0,.int .i64 0] 0) h2.next 0 [.int .i64 0,.int .i64 0] [.int .i64 c,.int .i64 a] 0)):=(mz.var _ _).tick;exact⟨(g3.put ⟨s1,by simp[KA,nA2]⟩ (.inl (by omega))).put ⟨s2,by simp[Tl,nB2,nAB]⟩ (.inl (by omega)),d_,d_,c,a,rfl,.inl ⟨hc,rfl,rfl⟩⟩
 .have IB:=zU;simp at IB;have nU:¬h.next=h2.next:=by omega
  simp[IB,nU];refine aG.cut (fun h3=>ab aK h2 h3) ((ab.refl g2.ok).var _ _) ?_;intro h3 g3;have di:=mz.trans g3;have C:af5 u.globals:=⟨hS.unit.gn,fun g hg=>⟨(hS.unit.gs g hg).1,(hS.unit.gs g hg).2.1⟩⟩;refine aG.call (V:=Uc u.globals h3) (by simpa using Ll (F:=F) di.ok (agU (hu.1.mono ok di fun _ _ r=>r)) C) ?_;rintro _ h4⟨g4,rfl⟩;have UM:=g3.trans g4;have My:=UM.get g2.ok zU;have YY:=UM.get g2.ok KA;have hB4:=UM.get g2.ok Tl;have NG:=My;simp at NG;have lB4:=g4.ok.wf _ _ hB4;have nU4:¬h.next=h4.next:=by omega
  simp[NG,nU4];refine aG.cut (fun h5=>ab aK h4 h5/\∃s,h5.tr.get h4.next=some (.aC [.int .i64 (nC u.globals)] false 0 s)) ⟨(ab.refl g4.ok).var _ _,h4.clock,by simp[aH]⟩ ?_;rintro h5⟨g5,sW,hW5⟩;have oS:=(di.trans g4).trans g5;have B0:=g5.get g4.ok YY;have hB5:=g5.get g4.ok hB4;have hwd:=HB C.2;have hgl:=C.1;refine aG.call (V:=aaF VaP u.globals u.funcs h5) (by simpa using Q3 (P:=VaP) (fv:=.func (.func uP) #[] #[.pointer (some ⟨h4.next,0,none⟩)]) oS.ok (hu.mono ok oS) C.1 (fun g hg=>by have:=(hS.unit.gs g hg).2;omega) hS.unit.fn (fun f hf=>⟨hS.form f hf,hL f hf,hS.seen f hf⟩) (fun f hf h1 pn n0 ai κ cap B rs a1 a2 a3 a4 a5 a6 a7 a8 a9 a10=>by have K:=Tc a1 (bu:=nC u.globals) (by omega) (a2.get oS.ok hW5) (name:=f.name) a3 a9 (Qz (hS.form f hf) (hL f hf) (hS.seen f hf) a10).toTF0 (aas (hS.once f hf) a10) (YR (hS.form f hf) a10) (Qz (hS.form f hf) (hL f hf) (hS.seen f hf) a10).seen a7 a8;refine K.mono (fun v h' q=>?_);obtain⟨q1,B',cC,κ',iL,ajI,many,q2,q3,q4,q5,q6,q7⟩:=q;exact⟨q1,B',cC,κ',iL,ajI,many,q2,q3,q4,q5,q6,q7.copy a10⟩)) ?_
  rintro _ h6⟨g6,G',F',c,a,rfl,hc⟩;have YZ:=g6.get g5.ok B0;have hB6:=g6.get g5.ok hB5;simp[YZ,hB6,nAB,nBA];have gw:=((ab.refl g6.ok).put (S:=fun x=>x=h.next+1\/x=h.next+1+1) (off:=0) (vs:=[Value.slice G'.a G'.l G'.c,Value.slice F'.a F'.l F'.c]) ⟨_,YZ⟩ (.inr (.inl rfl))).put (b:=h.next+1+1) (off:=0) (cs:=[.int .i64 0,.int .i64 0]) (o:=0) (vs:=[.int .i64 c,.int .i64 a]) ⟨s2,by simp[hB6]⟩ (.inr (.inr rfl));generalize put (put h6 _ _ _ _ _) _ _ _ _ _=h7 at gw⊢;have l6:h.next+1+1<h5.next:=g5.ok.wf _ _ hB5;refine⟨(oS.trans g6).trans' gw (fun _ _ h=>h) (fun x hx e=>by omega),G',F',c,a,by simp,?_⟩;rcases hc with hc|⟨hc,N,M,ys,zs,hM,A1,A2,A3,A4,A5⟩
  .exact .inl hc
  .exact .inr ⟨hc,hS,M,ys,zs,A1.grow g6.ok gw (fun b hb e=>by have:=N b (.inl hb);omega),A2,A3.grow g6.ok gw (fun b hb e=>by have:=N b (.inr hb);omega),A4,fun i z f a b=>(A5 i z f a b).grow g6.ok gw (fun x e=>.inl (by omega))⟩
def Yp(c:Int)(xs:List GI):Nat:=Kd (Le c) xs
def Ew(c:Int)(fs:List GF):Nat:=(fs.map fun f=>AX c f.blocks).sum
theorem Wt{xs:List GI}{x:GI}(h:xs[j]?=some x):Yp c (xs.take (j+1))=Yp c (xs.take j)+(if x.op=c then 1 else 0):=by unfold Yp Kd;rw[v9,h,List.filter_append,GJ];have e:Le c (shG x)=(x.op==c):=rfl;by_cases hq:x.op=c<;>simp[e,hq]
theorem aem(c:Int)(xs:List GI)(j:Nat):Yp c (xs.take j)<=xs.length:=sD (XP _ _) (by simp;omega)
theorem Wr(h:bs[j]?=some b):AX c (bs.take (j+1))=AX c (bs.take j)+Yp c b.list:=by unfold AX CH Yp;rw[v9,h];simp
theorem Ws(h:fs[j]?=some f):Ew c (fs.take (j+1))=Ew c (fs.take j)+AX c f.blocks:=by unfold Ew;rw[v9,h];simp
theorem Wq(h1:bs.length<=1000)(h2:∀b∈bs,b.list.length<=1000000)(j:Nat):AX c (bs.take j)<=1000000000:=by
 have:=OQ (f:=fun b:GB=>Kd (Le c) b.list) (k:=1000000) (l:=bs.take j) (fun b hb=>sD (XP _ _) (h2 b (Nv hb)));have hl:(bs.take j).length<=1000:=by simp;omega
 have:=DX 1000000 hl;unfold AX CH;omega
theorem ael(C:QF fs)(j:Nat):Ew c (fs.take j)<=1000000000000:=by
 have:=OQ (f:=fun f:GF=>AX c f.blocks) (k:=1000000000) (l:=fs.take j) (fun f hf=>by have hm:=Nv hf;have:=Wq (c:=c) (C.b f hm) (C.l f hm) f.blocks.length;rw[we] at this;exact this)
 have hl:(fs.take j).length<=1000:=by have:=C.f;simp;omega
 have:=DX 1000000000 hl;unfold Ew;omega
def OpL:List Nat:=[5,8]++(List.range 33).map (· +27)
def al2(h1:ae)(c:Int)(n:Nat)(xs:List GI)(e:Env)(m:Nat)(e':Env)(h':ae):Prop:=
 ∃j:Nat,m=xs.length-j/\j<=xs.length/\aA OpL e e'/\ak e' 5=.int .i64 ((n+Yp c (xs.take j):Nat):Int)/\ak e' 8=.int .i64 j/\ab aK h1 h'
theorem WH(ok:bm h)(g1:ab aK h h1)(hF:SliceR (fR h) 4 h F.v fs)(hU:h1.tr.get U=some (.aC [G.v,F.v] false 0 sU)){k m n:Nat}(hk:fs[k]?=some f)(hm:f.blocks[m]?=some b)(hl:b.list.length<=1000000)(hn:n<=2000000000000)(f1:ak e 1=.int .i64 c)(f2:ak e 2=.pointer (some ⟨U,0,none⟩))(f5:ak e 5=.int .i64 n)(f6:ak e 6=.int .i64 k)(f7:ak e 7=.int .i64 m)(f8:ak e 8=.int .i64 0)(C:∀e' h',aA OpL e e'->ak e' 5=.int .i64 ((n+Yp c b.list:Nat):Int)->ab aK h1 h'->QQ (.exit 4) e' h'):aB FF (.loop j_) e h1 QQ:=by
 have pC:=SliceR.len hF;refine aB.loop (al2 h1 c n b.list e) ?_ (n:=b.list.length) ⟨0,rfl,by omega,aA.refl _ _,by simpa [Yp,Kd] using f5,f8,.refl g1.ok⟩;rintro i e' h'⟨j,rfl,hj,K,q5,q8,g⟩;have q1:=K.at (t:=1) f1;have q2:=K.at (t:=2) f2;have q6:=K.at (t:=6) f6;have q7:=K.at (t:=7) f7;have bz:=g.ok;have gg:=g1.trans g;obtain⟨bF,aqD,cF,zg,rN,_,⟨B,rfl,sB⟩,oF,hrdF⟩:=SliceR.later ok hF hk;obtain⟨bB,offB,cB,kC,Yg,_,⟨P,L,T,rfl,sP,sL,sT⟩,oB,hrdB⟩:=SliceR.later ok sB hm;have ez:=SliceR.len sB;have ui:=SliceR.len sL;have rF:=hrdF h' gg 3 1 (by decide);have rB:=hrdB h' gg 1 1 (by decide);have yR:=g.get g1.ok hU;simp at yR;rw[zg,pC] at yR;simp[-ag] at rF rB;rw[kC,ez] at rF;rw[ui] at rB;unfold j_;by_cases aS:j<b.list.length
 .have wj:=wrap_i64 ((j:Int)+1) (by omega) (by omega);obtain⟨x,hx⟩:=aE b.list j aS;obtain⟨bL,offL,cL,Y4,_,_,⟨A,rfl,sA⟩,oL,hrdL⟩:=SliceR.later ok sL hx;have rL:=hrdL h' gg 0 1 (by decide);simp[-ag,aI] at rL;rw[Y4] at rB;have hle:=aem c b.list j;have Rw:=Wt (c:=c) hx;by_cases hq:x.op=c
  .rw[aZ hq] at Rw;have w5:=wrap_i64 (((n+Yp c (b.list.take j):Nat):Int)+1) (by omega) (by omega);simp only[Int.natCast_add] at w5 q5;simp[q1,q2,q5,q6,q7,q8,yR,av yR,rN,rF,Yg,rB,aS,rL,hq,wj,w5,-ag];refine⟨b.list.length-(j+1),by omega,j+1,rfl,aS,?_,?_,by simp,g⟩
   .repeat (refine aA.set ?_)
    exact K
   .simp;rw[Rw];simp only[Int.natCast_add];omega
  .rw[aW hq] at Rw;simp[q1,q2,q6,q7,q8,yR,av yR,rN,rF,Yg,rB,aS,rL,hq,wj,-ag];refine⟨b.list.length-(j+1),by omega,j+1,rfl,aS,?_,by simp[q5,Rw],by simp,g⟩
   repeat (refine aA.set ?_)
   exact K
 .have:j=b.list.length:=by omega
  subst this;rw[we] at q5;simp[q2,q6,q7,q8,yR,av yR,rN,rF,Yg,rB,-ag];refine C _ _ ?_ (by simpa using q5) g
  repeat (refine aA.set ?_)
  exact K
def al3(h1:ae)(U:Nat)(c:Int)(k n:Nat)(bs:List GB)(m:Nat)(e':Env)(h':ae):Prop:=
 ∃j:Nat,m=bs.length-j/\j<=bs.length/\ak e' 1=.int .i64 c/\ak e' 2=.pointer (some ⟨U,0,none⟩)/\ak e' 5=.int .i64 ((n+AX c (bs.take j):Nat):Int)/\ak e' 6=.int .i64 k/\ak e' 7=.int .i64 j/\ab aK h1 h'
theorem Ov(ok:bm h)(g1:ab aK h h1)(hF:SliceR (fR h) 4 h F.v fs)(hU:h1.tr.get U=some (.aC [G.v,F.v] false 0 sU))(hk:fs[k]?=some f)(hb:f.blocks.length<=1000)(hl:∀b∈f.blocks,b.list.length<=1000000)(hn:n<=1000000000000)(f1:ak e 1=.int .i64 c)(f2:ak e 2=.pointer (some ⟨U,0,none⟩))(f5:ak e 5=.int .i64 n)(f6:ak e 6=.int .i64 k)(f7:ak e 7=.int .i64 0)(C:∀e' h',ak e' 1=.int .i64 c->ak e' 2=.pointer (some ⟨U,0,none⟩)->ak e' 5=.int .i64 ((n+AX c f.blocks:Nat):Int)->ak e' 6=.int .i64 k->ab aK h1 h'->QQ (.exit 2) e' h'):aB FF (.loop ka) e h1 QQ:=by
 have pC:=SliceR.len hF;refine aB.loop (al3 h1 U c k n f.blocks) ?_ (n:=f.blocks.length) ⟨0,rfl,by omega,f1,f2,by simpa [AX,CH] using f5,f6,f7,.refl g1.ok⟩;rintro i e' h'⟨j,rfl,hj,q1,q2,q5,q6,q7,g⟩;have bz:=g.ok;have gg:=g1.trans g;obtain⟨bF,aqD,cF,zg,rN,_,⟨B,rfl,sB⟩,oF,hrdF⟩:=SliceR.later ok hF hk;have ez:=SliceR.len sB;have rF:=hrdF h' gg 3 1 (by decide);have hU0:=g.get g1.ok hU;have yR:=hU0;simp at yR;rw[zg,pC] at yR;simp[-ag] at rF;rw[ez] at rF;unfold ka;by_cases aS:j<f.blocks.length
 .have wj:=wrap_i64 ((j:Int)+1) (by omega) (by omega);obtain⟨b,U8⟩:=aE f.blocks j aS;have hle:=Wq (c:=c) hb hl j;have Rw:=Wr (c:=c) U8;simp[q2,q6,q7,yR,av yR,rN,rF,aS,-ag];refine WH ok gg hF hU0 hk U8 (hl b (dG U8)) (n:=n+AX c (f.blocks.take j)) (c:=c) (by omega) (by simp[q1]) (by simp[q2]) (by simp[q5]) (by simp[q6]) (by simp[q7]) (by simp) ?_;intro e3 h3 K3 k5 g3;have k7:=K3.at (t:=7) (by simp;exact q7);simp[k7,wj];refine⟨f.blocks.length-(j+1),by omega,j+1,rfl,aS,by simpa using K3.at (t:=1) (by simp;exact q1),by simpa using K3.at (t:=2) (by simp;exact q2),?_,by simpa using K3.at (t:=6) (by simp;exact q6),by simp,g.trans g3⟩;rw[Rw];simp[k5];omega
 .have:j=f.blocks.length:=by omega
  subst this;rw[we] at q5;simp[q2,q6,q7,yR,av yR,rN,rF,-ag];exact C _ _ (by simp[q1]) (by simp[q2]) (by simpa using q5) (by simp[q6]) g
def al4(h1:ae)(U:Nat)(c:Int)(fs:List GF)(m:Nat)(e':Env)(h':ae):Prop:=
 ∃j:Nat,m=fs.length-j/\j<=fs.length/\ak e' 1=.int .i64 c/\ak e' 2=.pointer (some ⟨U,0,none⟩)/\ak e' 5=.int .i64 ((Ew c (fs.take j):Nat):Int)/\ak e' 6=.int .i64 j/\ab aK h1 h'
theorem ue(ok:bm h){G F:SV}(hF:SliceR (fR h) 4 h F.v fs)(Cf:QF fs)(c:Int):
  aF FF sZ [.agg ⟨[G.v,F.v]⟩,.int .i64 c] h (fun v h'=>ab aK h h'/\v=.int .i64 ((Ew c fs:Nat):Int)):=by
 have pC:=SliceR.len hF;have iC:=Cf.f;refine aF.of zJ ?_;unfold sf;simp;refine aB.cut (fun h1=>ab aK h h1/\∃s,h1.tr.get h.next=some (.aC [G.v,F.v] false 0 s)) ⟨(ab.refl ok).new _ _,0,by simp⟩ ?_;rintro h1⟨g1,sU,hU⟩;refine aB.loop (al4 h1 h.next c fs) ?_ (n:=fs.length) ⟨0,rfl,by omega,by simp,by simp,by simp[Ew],by simp,.refl g1.ok⟩;rintro i e' h'⟨j,rfl,hj,q1,q2,q5,q6,g⟩;have bz:=g.ok;have hU0:=g.get g1.ok hU;have yR:=hU0;simp at yR;rw[pC] at yR;unfold pK;by_cases aS:j<fs.length
 .have wj:=wrap_i64 ((j:Int)+1) (by omega) (by omega);obtain⟨f,hfj⟩:=aE fs j aS;have hm:=dG hfj;have Rw:=Ws (c:=c) hfj;have hle:=ael (c:=c) Cf j;simp[q2,q6,yR,aS];refine Ov ok (g1.trans g) hF hU0 hfj (Cf.b f hm) (Cf.l f hm) (n:=Ew c (fs.take j)) (c:=c) hle (by simp[q1]) (by simp[q2]) (by simp[q5]) (by simp[q6]) (by simp) ?_;intro e3 h3 k1 k2 k5 k6 g3;simp[k6,wj];refine⟨fs.length-(j+1),by omega,j+1,rfl,aS,by simp[k1],by simp[k2],?_,by simp,g.trans g3⟩;rw[Rw];simp[k5]
 .have:j=fs.length:=by omega
  subst this;rw[we] at q5;simp[q2,q5,q6,yR];exact g1.trans g
theorem Ke(V:BVs ai rs bs)(φ:Sh->Bool):CH φ bs=kK φ rs:=by
 unfold kK CH;congr 1;refine zS fun i=>?_;rw[tT,tT];rcases zf i rs.length with hi|hi
 .obtain⟨r,hr⟩:=aE rs i hi;obtain⟨b,hb⟩:=aE bs i (by rw[V.1];exact hi);have v:=V.2 i r b hr hb;rw[hr,hb];simp only[DY];rw[zL];unfold Kd;have:r.ls.map shX=b.list.map shG:=by
   refine zS fun j=>?_;rw[tT,tT];rcases zf j r.ls.length with hj|hj
   .obtain⟨q,hq⟩:=aE r.ls j hj;obtain⟨p,hp⟩:=aE b.list j (by rw[v.ll];exact hj);rw[hq,hp];simp only[DY];rw[Qv (v.ls j q p hq hp).1]
   .rw[tS hj,tS (by rw[v.ll];exact hj)];rfl
  rw[this,List.filter_map,UP];rfl
 .rw[tS hi,tS (by rw[V.1];exact hi)];rfl
theorem Nf{M:Nat}{zs:List XF}(hF:eY zO h F' zs)(hl:zs.length=fs.length)(D:∀(i:Nat)(z:XF)(f:GF),zs[i]?=some z->fs[i]?=some f->zn M VaP h z f)(CU:fs.length<=10):
  ∃Im:List GF,Im.length=fs.length/\SliceR (fR h) 4 h F'.v Im/\QF Im/\(∀c:Int,Ew c Im<=Ew c fs)/\∀c:Int,c<1\/17<c->Ew c Im=Ew c fs:=by
 obtain⟨Im,FT,H⟩:=qG (Q:=fun(i:Nat) (g:GF)=>∀z f,zs[i]?=some z->fs[i]?=some f->fR h (zO.enc z) g/\((∀c:Int,AX c g.blocks<=AX c f.blocks)/\∀c:Int,c<1\/17<c->AX c g.blocks=AX c f.blocks)/\g.blocks.length<=72/\∀b∈g.blocks,b.list.length<=100000) (List.range fs.length) (fun i hi=>by
  have gY:i<fs.length:=Kw.1 hi;obtain⟨z,hz⟩:=aE zs i;obtain⟨f,hf⟩:=aE fs i gY;obtain⟨n0,ai,many,κ,cap,rs,O,_,h24,qD,hnm,GW⟩:=D i z f hz hf;obtain⟨bs,KH,hV⟩:=O.view;refine⟨⟨z.name,z.params,z.ai,bs⟩,fun z2 f2 h1 h2=>?_⟩;rw[hz] at h1;cases h1;rw[hf] at h2;cases h2;refine⟨⟨z.B,rfl,KH⟩,⟨fun c=>?_,fun c hc=>?_⟩,by show bs.length<=72;rw[hV.1];exact h24,fun b hb=>?_⟩
  .show CH (Le c) bs<=CH (Le c) f.blocks;rw[Ke hV];exact GW.1 c
  .show CH (Le c) bs=CH (Le c) f.blocks;rw[Ke hV];exact GW.2 c hc
  obtain⟨j,hj⟩:=sv hb;obtain⟨r,hr⟩:=aE rs j (by rw[<-hV.1];exact(cr.mp hj).1);have v:=hV.2 j r b hr hj;rw[v.ll];exact(qD r (dG hr)).2)
 rw[List.length_range] at FT;have at':∀(i:Nat)(g:GF),Im[i]?=some g->∃z f,zs[i]?=some z/\fs[i]?=some f/\fR h (zO.enc z) g/\((∀c:Int,AX c g.blocks<=AX c f.blocks)/\∀c:Int,c<1\/17<c->AX c g.blocks=AX c f.blocks)/\g.blocks.length<=72/\∀b∈g.blocks,b.list.length<=100000:=by
  intro i g hg;have gY:i<fs.length:=by rw[<-FT];exact(cr.mp hg).1
  obtain⟨z,hz⟩:=aE zs i;obtain⟨f,hf⟩:=aE fs i gY;exact⟨z,f,hz,hf,H i i g (List.getElem?_range gY) hg z f hz hf⟩
 refine⟨Im,FT,hF.view (by omega) (fun i z g h1 h2=>?_),⟨by omega,fun g hg=>?_,fun g hg b hb=>?_⟩,fun c=>?_,fun c hc=>?_⟩
 .obtain⟨z2,f,a,b,c,_⟩:=at' i g h2;rw[h1] at a;cases a;exact c
 .obtain⟨i,hi⟩:=sv hg;obtain⟨z,f,a,b,c,d,e,_⟩:=at' i g hi;omega
 .obtain⟨i,hi⟩:=sv hg;obtain⟨z,f,a,b2,c,d,e,k⟩:=at' i g hi;have:=k b hb;omega
 .unfold Ew;exact u4 (fun f:GF=>AX c f.blocks) Im fs FT (fun i g f h1 h2=>by obtain⟨z,f2,a,b,_,d,_⟩:=at' i g h1;rw[h2] at b;cases b;exact d.1 c)
 .unfold Ew;have h1:=u4 (fun f:GF=>AX c f.blocks) Im fs FT (fun i g f h1 h2=>by obtain⟨z,f2,a,b,_,d,_⟩:=at' i g h1;rw[h2] at b;cases b;rw[d.2 c hc];exact dw _)
  have h2:=u4 (fun f:GF=>AX c f.blocks) fs Im FT.symm (fun i f g h2 h1=>by obtain⟨z,f2,a,b,_,d,_⟩:=at' i g h1;rw[h2] at b;cases b;rw[d.2 c hc];exact dw _)
  omega
theorem DH(S:Dm u):QF u.funcs:=by refine⟨by have:=S.unit.fn;omega,fun f hf=>by have:=(S.form f hf).head.blocks;omega,fun f hf b hb=>?_⟩;have:=mY hb;have:=(S.form f hf).head.many;omega
def alX(h0:ae)(U V:Nat)(m:Nat)(e':Env)(h':ae):Prop:=
 ∃o:Nat,m=23-o/\19<=o/\o<=23/\ak e' 1=.pointer (some ⟨U,0,none⟩)/\ak e' 3=.pointer (some ⟨V,0,none⟩)/\ak e' 5=.int .i64 o/\ab aK h0 h'
theorem ad5{h hV h1:ae}(ok:bm h)(okV:bm hV)(g0:ab aK h h1)(gV:ab aK hV h1){G F G' F':SV}{fs Im:List GF}(hF:SliceR (fR h) 4 h F.v fs)(vf:SliceR (fR hV) 4 hV F'.v Im)(Cf:QF fs)(Cf':QF Im)(hc:∀c:Int,18<=c->Ew c Im=Ew c fs){U V sU sV:Nat}(hU:h1.tr.get U=some (.aC [G.v,F.v] false 0 sU))(hVb:h1.tr.get V=some (.aC [G'.v,F'.v] false 0 sV))(f1:ak e 1=.pointer (some ⟨U,0,none⟩))(f3:ak e 3=.pointer (some ⟨V,0,none⟩))(f5:ak e 5=.int .i64 19)(C:∀e' h',ak e' 1=.pointer (some ⟨U,0,none⟩)->ak e' 3=.pointer (some ⟨V,0,none⟩)->ab aK h1 h'->QQ (.exit 0) e' h'):aB FF (.loop fN) e h1 QQ:=by
 refine aB.loop (alX h1 U V) ?_ (n:=4) ⟨19,rfl,by omega,by omega,f1,f3,f5,.refl g0.ok⟩;rintro m e' h'⟨o,rfl,ho2,ho,q1,q3,q5,g⟩;have bz:=g.ok;have zU:=g.get g0.ok hU;have hV2:=g.get g0.ok hVb;simp at zU hV2;unfold fN;by_cases NY:o<=22
 .have wo:=wrap_i64 ((o:Int)+1) (by omega) (by omega);have apj:(o:Int)<=22:=by omega
  have oU:=bz.bC zU;have oV:=bz.bC hV2;have sV2:=bz.st _ _ _ _ _ hV2;have hco:=hc (o:Int) (by omega);simp[q1,q3,q5,zU,hV2,av zU,av hV2,apj,oU,oV,ay];have gt:ab aK h' (tick h'):=bh bz;generalize tick h'=h2 at gt⊢;refine aU.call (V:=fun v h3=>ab aK h2 h3/\v=.int .i64 ((Ew (o:Int) Im:Nat):Int)) (by simpa using ue (G:=G') gt.ok (vf.mono okV ((gV.trans g).trans gt) fun _ _ r=>r.mono okV ((gV.trans g).trans gt)) Cf' (o:Int)) ?_;rintro _ h3⟨g3,rfl⟩;have My:=g3.get gt.ok (gt.get bz zU (fun h=>h));have sU2:=bz.st _ _ _ _ _ zU;simp[q1,My,sU2];refine aU.call (V:=fun v h4=>ab aK h3 h4/\v=.int .i64 ((Ew (o:Int) fs:Nat):Int)) (by simpa using ue (G:=G) g3.ok (hF.mono ok (((g0.trans g).trans gt).trans g3) fun _ _ r=>r.mono ok (((g0.trans g).trans gt).trans g3)) Cf (o:Int)) ?_;rintro _ h4⟨g4,rfl⟩;simp[hco,q5,wo];exact⟨23-(o+1),by omega,o+1,rfl,by omega,by omega,by simp[q1],by simp[q3],by simp,((g.trans gt).trans g3).trans g4⟩
 .have:¬(o:Int)<=22:=by omega
  simp[q5,this];exact C _ _ (by simp[q1]) (by simp[q3]) g
theorem Fc(ok:bm h)(hw:CA h)(hu:uR h G F u)(s1:Small u)(sm:A8 u):
  aF FF lv [.agg ⟨[G.v,F.v]⟩] h (fun v _=>v=.bool true):=by
 refine aF.of tP ?_;unfold kX;simp;refine aG.cut (fun h1=>ab aK h h1/\h1.tr.get h.next=some (.aC [G.v,F.v] false 0 0)) ⟨(ab.refl ok).new _ _,by simp⟩ ?_;rintro h1⟨g1,XU⟩;refine aG.call (V:=fun v h'=>ab aK h1 h'/\∃hv:Bool,v=.bool hv/\(hv=false->u.funcs.length<=10/\∀f∈u.funcs,Dj f)) (by simpa using NN g1.ok (hu.mono ok g1) s1) ?_;rintro _ h2⟨g2,hv,rfl,hL⟩;have mz:=g1.trans g2;have zU:=g2.get g1.ok XU;have IB:=zU;simp at IB;cases hv with
 |true=>simp
 |false=>
 obtain⟨CU,hL⟩:=hL rfl;simp[IB];refine aG.call (V:=DoQ VaP u h2) (by simpa using XJ g2.ok (hw.grow ok mz) (hu.mono ok mz) sm hL) ?_;rintro _ h3⟨g3,G',F',c,a,rfl,hc⟩;have D0:=g3.get g2.ok zU;have lU:=g3.ok.wf _ _ D0;have di:=mz.trans g3;have n1:¬h3.next=h3.next+1:=by omega
 simp;rcases hc with⟨hc,eG,eF⟩|⟨rfl,hS,M,ys,zs,A1,A2,A3,A4,A5⟩
 .have Mz:(c !=0)=true:=by simp[hc]
  have lG:G'.l=0:=by rw[eG];rfl
  have lF:F'.l=0:=by rw[eF];rfl
  refine aB.cut (fun h4=>ab aK h3 h4/\∃s,h4.tr.get h3.next=some (.aC [.slice G'.a G'.l G'.c,.slice F'.a F'.l F'.c] false 0 s)) ?_ ?_
  .exact⟨((((ab.refl g3.ok).new _ _).new _ _).put ⟨0,by simp[n1]⟩ (.inl (by omega))).put ⟨0,by simp⟩ (.inl (by omega)),h3.clock,by simp[n1,aH]⟩
  rintro h4⟨g4,sV,hV4⟩;simp[Mz,hV4];refine aG.call (V:=fun v h'=>v=.bool (decide (G'.l=0)&&decide (F'.l=0))/\ab aK h4 h') (by simpa using Hg g4.ok G' F') ?_;rintro _ h5⟨rfl,g5⟩;simp[lG,lF]
 .refine aB.cut (fun h4=>ab aK h3 h4/\∃s,h4.tr.get h3.next=some (.aC [.slice G'.a G'.l G'.c,.slice F'.a F'.l F'.c] false 0 s)) ?_ ?_
  .exact⟨((((ab.refl g3.ok).new _ _).new _ _).put ⟨0,by simp[n1]⟩ (.inl (by omega))).put ⟨0,by simp⟩ (.inl (by omega)),h3.clock,by simp[n1,aH]⟩
  rintro h4⟨g4,sV,hV4⟩;have My:=g4.get g3.ok D0;have NG:=My;simp at NG;have me:=di.trans g4;have pC:=A3.len;have hFu:=SliceR.len hu.2;have adx:=hS.unit.one;have hF0:¬F'.l=0:=by omega
  simp[hV4];refine aG.call (V:=fun v h'=>v=.bool (decide (G'.l=0)&&decide (F'.l=0))/\ab aK h4 h') (by simpa using Hg g4.ok G' F') ?_;rintro _ h6⟨rfl,g6⟩;have hV6:=g6.get g4.ok hV4;have To:=g6.get g4.ok My;have NH:=To;simp at NH;have g36:=g4.trans g6;obtain⟨Im,FT,vf,DZ,hle,Rs⟩:=Nf A3 A4 A5 CU;have xX:¬F.l=0:=by omega
  simp[hF0,xX,hV6,NH];refine ad5 (G:=G) (G':=G') (fs:=u.funcs) ok g3.ok (me.trans g6) g36 hu.2 vf (DH hS) DZ (fun c hc=>Rs c (by omega)) To hV6 (by simp) (by simp) (by simp) ?_;intro e7 h7 q1 q3 g7;have hV7:=g7.get g6.ok hV6;have XV:=g7.get g6.ok NH;have oU7:=g7.ok.bC XV;have oV7:=g7.ok.bC hV7;simp[q1,q3,hV7,XV,av XV,av hV7,oU7,oV7,ay];have gt:ab aK h7 (tick h7):=bh g7.ok;have a8:=((me.trans g6).trans g7).trans gt;have b8:=(g36.trans g7).trans gt;have hU8:=gt.get g7.ok XV;have hV8:=gt.get g7.ok hV7;have sU7:=g7.ok.st _ _ _ _ _ XV;have e18:=Rs 18 (by omega);have e5:=hle 5;generalize tick h7=h8 at gt a8 b8 hU8 hV8⊢;refine aU.call (V:=fun v h9=>ab aK h8 h9/\v=.int .i64 ((Ew 18 Im:Nat):Int)) (by simpa using ue (G:=G') gt.ok (vf.mono g3.ok b8 fun _ _ r=>r.mono g3.ok b8) DZ 18) ?_;rintro _ h9⟨g9,rfl⟩;have hU9:=g9.get gt.ok hU8;have hV9:=g9.get gt.ok hV8;have a9:=a8.trans g9;simp[q1,hU9,sU7];refine aU.call (V:=fun v CU=>ab aK h9 CU/\v=.int .i64 ((Ew 18 u.funcs:Nat):Int)) (by simpa using ue (G:=G) g9.ok (hu.2.mono ok a9 fun _ _ r=>r.mono ok a9) (DH hS) 18) ?_;rintro _ CU⟨Fi,rfl⟩;have Y9:=Fi.get g9.ok hU9;have acS:=Fi.get g9.ok hV9;have aqx:=Fi.ok.bC Y9;have aqy:=Fi.ok.bC acS;have b10:=(b8.trans g9).trans Fi;simp[e18,q1,q3,Y9,acS,av Y9,av acS,aqx,aqy,ay];refine aU.call (V:=fun v h11=>ab aK CU h11/\v=.int .i64 ((Ew 5 Im:Nat):Int)) (by simpa using ue (G:=G') Fi.ok (vf.mono g3.ok b10 fun _ _ r=>r.mono g3.ok b10) DZ 5) ?_;rintro _ h11⟨YV,rfl⟩;have anS:=YV.get Fi.ok Y9;have a11:=(a9.trans Fi).trans YV;simp[q1,anS,sU7];refine aU.call (V:=fun v h12=>ab aK h11 h12/\v=.int .i64 ((Ew 5 u.funcs:Nat):Int)) (by simpa using ue (G:=G) YV.ok (hu.2.mono ok a11 fun _ _ r=>r.mono ok a11) (DH hS) 5) ?_;rintro _ h12⟨g12,rfl⟩;simp[e5]
end Go.Proofs.YtdhnndleffachaaGreatDoor
