/- Parts of the proof. -/
import Derived.Test.YtdhnndleffachaaGreatDoorP09
import Derived.Test.YtdhnndleffachaaGreatDoorP08
import Derived.Test.YtdhnndleffachaaGreatDoorP04
import Derived.KernelRfl
import Derived.Test.YtdhnndleffachaaGreatDoorP05
set_option linter.all false
namespace Go.Proofs.YtdhnndleffachaaGreatDoor
open Go.AI
variable {L T:SV} {P b i n n0 sY:Nat} {aV:Bool} {ah:List (List Int)} {az to:Int} {bs:List GB} {h:ae} {ps:List Int} {ws:List SV} {x:XR}
section
variable {S d m:Nat} {name:ByteArray} {p r:Int} {B AH:SV} {n0 ai:Nat} {κ cap:Nat->Nat} {rs:List XR} {fx:List (Int×Int)} {Y:Nat}
theorem Tn.grow {Z:Nat->Prop} {h h':ae} (k:Tn h n0 ai κ cap rs S d m Y name p r B AH fx) (ok:bu h) (g:ab Z h h') (hZ: ∀x,Z x->κ x=0/\x≠S/\x≠d/\x≠Y):Tn h' n0 ai κ cap rs S d m Y name p r B AH fx:=by obtain⟨O,v,⟨s,hY⟩,a,b,c⟩:=k;exact⟨O.grow ok g (fun x hx=> .inl (hZ x hx).1),v.grow ok g (fun e=>(hZ _ e).2.1 rfl) (fun e=>(hZ _ e).2.2.1 rfl),⟨s,g.get ok hY (fun e=>(hZ _ e).2.2.2 rfl)⟩,a,b,c⟩
theorem Tn.low (k:Tn h n0 ai κ cap rs S d m Y name p r B AH fx) (ok:bu h):S<h.next/\d<h.next/\Y<h.next:=by obtain⟨s1,aV,h1⟩:=k.v.hS;obtain⟨s2,h2⟩:=k.v.hd;obtain⟨s3,h3⟩:=k.hY;exact⟨ok.wf _ _ h1,ok.wf _ _ h2,ok.wf _ _ h3⟩
def StL:List Nat:=[87,88,89,90,91,92,93,94,95,96,97,98,99,100,101,102,103,104,105,106,107]
theorem SI (ok:bu h) (w:Sv h S d m n name p r B AH fx) (hY:h.tr.get Y=some (.aA [.pointer (some ⟨S,0,none⟩)] false 0 sY)) (hw:0<=az/\az<1000000000) {y:XI} (hyd:y.dst<n) {X sX:Nat} (hX:h.tr.get X=some (.aA [.int .i64 y.op,.int .i64 y.dst,.bool y.a.1,.int .i64 y.a.2,.bool y.b.1,.int .i64 y.b.2,.int .i64 y.fn,.slice y.args.a y.args.l y.args.c] false 0 sX))
  {e:Env} {Q:aP->Env->ae->Prop} (f1:Env.get e 1= .int .i64 az) (f3:Env.get e 3= .pointer (some ⟨Y,0,none⟩)) (f14:Env.get e 14= .pointer (some ⟨X,0,none⟩))
  (C: ∀e' h',aw StL e e'->Env.get e' 107= .bool (vA az fx y)->ab aG h h'->Q .normal e' h'):aB FF Fl e h Q:=by
 obtain⟨s1,aV,hS⟩:=w.hS;obtain⟨s2,hd⟩:=w.hd;have oS:=ok.bA hS;have od:=ok.bA hd;have oX:=ok.bA hX;have oY:=ok.bA hY;have nh:=hS;simp[cu] at nh;unfold Fl;by_cases U8:0<=y.dst
 .obtain⟨k,hk⟩: ∃k:Nat,y.dst=k:=⟨y.dst.toNat,by omega⟩;rw[hk] at hX;have Ec:k<n:=by omega
  obtain⟨x,hx⟩: ∃x,fx[k]? =some x:=⟨_,aX (by rw[w.fl];exact Ec)⟩;have r0:=zf hd hx 0 1 (by decide);simp[-ag] at r0;have Rc: ¬(k:Int)<0:=by omega
  obtain⟨x1,x2⟩:=x;by_cases c:x1=1
  .subst c;simp[f1,f3,f14,hX,hY,nh,Ec,r0,Rc,-ag,aq hX,aq hY,aq nh,ay];refine aQ.cut (fun h2=>ab aG h h2) (aW ok) ?_;intro h2 g2;refine aQ.call (V:=fun v h'=>v= .bool (cZ az y.op y.a.1 y.a.2 y.b.1 y.b.2)/\ab aG h2 h') (by simpa [aC] using OD h2 g2.ok az y.op k y.a.2 y.b.2 y.fn y.a.1 y.b.1 y.args.a y.args.l y.args.c hw) ?_;rintro _ h3 ⟨rfl,g3⟩;have hs:vA az fx y= !cZ az y.op y.a.1 y.a.2 y.b.1 y.b.2:=by simp[vA,hk,Rc,hx]
   simp;refine C _ _ ?_ (by simp[hs]) (g2.trans g3)
   repeat (refine aw.set ?_)
   exact aw.refl _ _
  .have c':(x1 !=1)=true:=by simpa using c
   have hs:vA az fx y=true:=by simp[vA,hk,Rc,hx,c]
   simp[f1,f3,f14,hX,hY,nh,Ec,r0,Rc,c,c',-ag,aq hX,aq hY,aq nh,ay];refine C _ _ ?_ (by simp[hs]) (aW ok)
   repeat (refine aw.set ?_)
   exact aw.refl _ _
 .have hs:vA az fx y=true:=by simp[vA];exact .inl (by omega)
  have Tj:y.dst<0:=by omega
  simp[f1,f3,f14,hX,Tj,-ag,aq hX,ay];refine C _ _ ?_ (by simp[hs]) (aW ok)
  repeat (refine aw.set ?_)
  exact aw.refl _ _
def abA:List Nat:=[12,14,15,16]++(List.range 56).map (· +57)
def uH (az:Int) (fx:List (Int×Int)) (ls:List XI):List XI:=(ls.map (Av fx)).filter (vA az fx)
theorem OX {ls:List XI} {j:Nat} {x:XI} (h:ls[j]? =some x):uH az fx (ls.take (j+1))=uH az fx (ls.take j)++(if vA az fx (Av fx x) then [Av fx x] else []):=by
 have e:ls.take (j+1)=ls.take j++[x]:=by rw[yn,h];rfl
 unfold uH;rw[e,List.map_append,List.filter_append];congr 1;simp only[Fw,List.map_nil,List.filter_cons,List.filter_nil]
def ak2 (h:ae) (n0 ai:Nat) (κ cap:Nat->Nat) (rs:List XR) (S d m Y:Nat) (name:ByteArray) (p r:Int) (B AH:SV) (fx:List (Int×Int)) (az:Int) (ls:List XI) (e:Env) (mm:Nat) (e':Env) (h':ae):Prop:=
 ∃(j:Nat) (W:SV),mm=ls.length-j/\j<=ls.length/\aw abA e e'/\Env.get e' 57= .int .i64 j/\Env.get e' 12=W.v/\cI mJ h.next h' W.v (uH az fx (ls.take j))/\ab (uN κ) h h'/\Tn h' n0 ai κ cap rs S d m Y name p r B AH fx
theorem SU (ok:bu h) (k:Tn h n0 ai κ cap rs S d m Y name p r B AH fx) (hw:0<=az/\az<1000000000) (hx:rs[i]? =some x) (Ed:x.ls.length<=100000) (C0: ∀y∈x.ls,y.args.l<=1048576)
  {e:Env} {Q:aP->Env->ae->Prop} (f1:Env.get e 1= .int .i64 az) (f3:Env.get e 3= .pointer (some ⟨Y,0,none⟩)) (f12:Env.get e 12=fI.v) (f55:Env.get e 55=x.L.v) (f56:Env.get e 56= .int .i64 x.ls.length) (f57:Env.get e 57= .int .i64 0)
  (C: ∀e' h' W,aw abA e e'->Env.get e' 12=SV.v W->cI mJ h.next h' (SV.v W) (uH az fx x.ls)->ab (uN κ) h h'->Tn h' n0 ai κ cap rs S d m Y name p r B AH fx->Q (.exit 4) e' h'):aB FF (.loop iZ) e h Q:=by
 refine aB.loop (ak2 h n0 ai κ cap rs S d m Y name p r B AH fx az x.ls e) ?_ (n:=x.ls.length) ⟨0,fI,rfl,by omega,aw.refl _ _,f57,f12,.inl ⟨rfl,rfl⟩,.refl ok,k⟩;rintro mm e' h' ⟨j,W,rfl,hj,K,q57,kg,acc,g,k'⟩;have bX:=g.ok;have q1:=K.at f1;have q3:=K.at f3;have MJ:=K.at f55;have TD:=K.at f56;have ln:=g.next;have κhi: ∀b,h.next<=b->κ b=0:=fun b hb=>by
  rcases tP (κ b) with h1|h1
  .exact h1
  .have:=(k.O.new b (by omega)).2;omega
 obtain⟨lS,ld,lY⟩:=k.low ok;unfold iZ;by_cases aS:j<x.ls.length
 .have wj:=wrap_i64 ((j:Int)+1) (by omega) (by omega);obtain⟨y,hy⟩: ∃y,x.ls[j]? =some y:=⟨_,aX aS⟩;have hym:=dk hy;have R:=k'.O.r i x hx;obtain⟨hyd,hya,hyb,hyA⟩:=R.ls y hym;obtain⟨bL,cs,o,s,UW,hbL,YY,eH,dy,_⟩:=R.L.el hy;have tB:=R.L.len;have r0:=dy 0 8 (by decide);simp[-ag] at r0;simp at MJ;rw[UW,tB] at MJ;obtain⟨sY,hY⟩:=k'.hY;have oY:=bX.bA hY;have rY:bc h' Y 0 1=some [.pointer (some ⟨S,0,none⟩)]:=by rw[cy hY (by simp)];rfl
  have lY':=oY.lt;have nYn: ¬Y=h'.next:=by omega
  simp[q1,q3,MJ,TD,q57,aS,r0,rY,oY,nYn,-ag,av,bg,aI,ay];refine aQ.cut (fun h2=>ab aG h' h2/\ ∃s,s<=h'.clock+1/\h2.tr.get h'.next=some (.aA [.int .i64 y.op,.int .i64 y.dst,.bool y.a.1,.int .i64 y.a.2,.bool y.b.1,.int .i64 y.b.2,.int .i64 y.fn,.slice y.args.a y.args.l y.args.c] false 0 s)) ?_ ?_
  .exact⟨((ab.refl bX).var _ _).tick,h'.clock,Nat.le_succ _,by simp[aJ]⟩
  rintro h2 ⟨g2,sX,hsX,dS⟩;have k2:=k'.bt bX g2;refine aQ.call (V:=fun u h'=>u= .agg ⟨[.bool (gz fx y.a).1,.int .i64 (gz fx y.a).2]⟩/\ab aG h2 h') (by simpa using wU g2.ok k2.v hya) ?_;rintro _ h3 ⟨rfl,g3⟩;have k3:=k2.bt g2.ok g3;have fK:=g3.get g2.ok dS (fun h=>h);have Mz:=g3.get g2.ok (g2.get bX hY (fun h=>h)) (fun h=>h);have hstY:=bX.st _ _ _ _ _ hY;have ahJ:sY<=h'.clock+1:=by omega
  simp[q3,fK,hsX,Mz,ahJ];refine aQ.call (V:=fun u h'=>u= .agg ⟨[.bool (gz fx y.b).1,.int .i64 (gz fx y.b).2]⟩/\ab aG h3 h') (by simpa using wU g3.ok k3.v hyb) ?_;rintro _ h4 ⟨rfl,g4⟩;have k4:=k3.bt g3.ok g4;have tR:=g4.get g3.ok fK (fun h=>h);have l4:=g4.next;have l3:=g3.next;have l2:=g2.next;have mK:=(g2.trans g3).trans g4;have lX4:=g4.ok.wf _ _ tR;simp[tR,hsX,aJ];refine aB.cut (fun h5=>ab aG h' h5/\ ∃s,h5.tr.get h'.next=some (.aA [.int .i64 y.op,.int .i64 y.dst,.bool (gz fx y.a).1,.int .i64 (gz fx y.a).2,.bool (gz fx y.b).1,.int .i64 (gz fx y.b).2,.int .i64 y.fn,.slice y.args.a y.args.l y.args.c] false 0 s)) ?_ ?_
  .exact⟨(mK.put ⟨sX,tR⟩ (.inl (dK _))).put ⟨h4.clock,by simp[aJ]⟩ (.inl (dK _)),h4.clock+1,by simp[aJ]⟩
  rintro h5 ⟨g5,s5,rV⟩;have k5:=k'.bt bX g5;have κX:κ h'.next=0:=κhi _ ln;refine SQ g5.ok k5 hyA (C0 y hym) rV κX rfl (by simp[q3]) (by simp) (by simp) (by simp) (by simp) ?_;rintro e6 h6 K6 g6 k6;have yp:=g6.get g5.ok rV (fun e=>by unfold uN at e;omega);have m1:Env.get e6 1= .int .i64 az:=K6.at (t:=1) (by simp[q1]);have m3:Env.get e6 3= .pointer (some ⟨Y,0,none⟩):=K6.at (t:=3) (by simp[q3]);have m14:Env.get e6 14= .pointer (some ⟨h'.next,0,none⟩):=K6.at (t:=14) (by simp);have MI:Env.get e6 12=W.v:=K6.at (t:=12) (by simp[kg]);have m57:Env.get e6 57= .int .i64 j:=K6.at (t:=57) (by simp[q57]);obtain⟨s6,hY6⟩:=k6.hY;have aln:=acc.grow bX g5 (fun _ _ h=>h);have abB:=aln.grow g5.ok g6 (fun b hb e=>by have:=acc.of hb;have:=κhi b this;unfold uN at e;omega);simp;refine SI g6.ok k6.v hY6 hw (y:=Av fx y) (by show y.dst<_;exact hyd) (by simpa [Av] using yp) (by simp[m1]) (by simp[m3]) (by simp[m14]) ?_;intro e7 h7 K7 t107 g7;have k7:=k6.bt g6.ok g7;have afE:=abB.grow g6.ok g7 (fun _ _ h=>h);have Tg:=g7.get g6.ok yp (fun h=>h);have p14:Env.get e7 14= .pointer (some ⟨h'.next,0,none⟩):=K7.at (t:=14) (by simp[m14]);have p12:Env.get e7 12=W.v:=K7.at (t:=12) (by simp[MI]);have p57:Env.get e7 57= .int .i64 j:=K7.at (t:=57) (by simp[m57]);have K07:aw abA e e7:=by
   refine aw.trans (aw.trans ?_ (K6.bJ)) (K7.bJ)
   repeat (refine aw.set ?_)
   exact K
  have UL:ab (uN κ) h h7:=((g.trans g5.bt).trans g6).trans g7.bt;have tk:=OX (fx:=fx) (az:=az) hy;cases hs:vA az fx (Av fx y) with
  |false=>
   rw[hs] at tk t107;simp[t107,p57,wj];refine⟨x.ls.length-(j+1),by omega,j+1,W,rfl,aS,?_,by simp,by simp[p12],by rw[tk];simpa using afE,UL,k7⟩
   repeat (refine aw.set ?_)
   exact K07
  |true=>
   rw[hs] at tk t107;simp[t107,p12,p14,Tg];have hw5:bk mJ (aL h7 (mJ.enc (Av fx y)) 0) (.slice (some ⟨h7.next,0,none⟩) 1 1) [Av fx y]:=xF (cx _ _ _);have g8:=aO g7.ok (mJ.enc (Av fx y)) 0;have abC:=afE.grow g7.ok g8 (fun _ _ h=>h);have l7:=g7.next;have l6:=g6.next;have l5:=g5.next;have tl:(uH az fx (x.ls.take j)).length<=x.ls.length:=by unfold uH;refine ug (QT _ _) ?_;simp;omega
   obtain⟨v',h9,ha,afF,g9,hd9⟩:=pY (bytes:=80) g8.ok (z:=[.int .i64 0,.int .i64 0,.bool false,.int .i64 0,.bool false,.int .i64 0,.int .i64 0,.slice none 0 0]) rfl abC hw5 (by omega) (by decide) (by simp;omega);obtain⟨W',rfl⟩:=cI.sv' afF;refine kE (by simpa [Av] using ha) ?_;have gW: ∀b,ax W.v b->h.next<=b:=fun b hb=>acc.of hb;have k9:=(k7.bt g7.ok g8).grow g8.ok g9 (fun b hb=>by have:=gW b hb;exact⟨κhi b this,by omega,by omega,by omega⟩)
   simp[p57,wj];refine⟨x.ls.length-(j+1),by omega,j+1,W',rfl,aS,?_,by simp,by simp,by rw[tk];simpa using afF,?_,k9⟩
   .repeat (refine aw.set ?_)
    exact K07
   .exact(UL.trans g8.bt).trans' g9 (fun _ _ h=>h) (fun b hb e=>by have:=gW b e;omega)
 .have:j=x.ls.length:=by omega
  subst this;simp[TD,q57];rw[xV] at acc;exact C _ _ W (aw.set K) (by simp[kg]) acc g k'
end
section
variable {S d m:Nat} {name:ByteArray} {p r:Int} {B AH:SV} {n0 ai:Nat} {κ cap:Nat->Nat} {rs:List XR} {fx:List (Int×Int)} {Y:Nat}
def Jd (fx:List (Int×Int)) (q:Int×SV):Bool:=((fx[q.1.toNat]?).getD (0,0)).1==1
theorem Xp (ok:bu h) (w:Sv h S d m n name p r B AH fx) (hY:h.tr.get Y=some (.aA [.pointer (some ⟨S,0,none⟩)] false 0 sY)) {q:Int×SV} (hq:0<=q.1/\q.1<n):
  cP FF (.func (.func iO) #[] #[.pointer (some ⟨Y,0,none⟩)]) [.agg ⟨jR.enc q⟩] h (fun v h'=>v= .bool (Jd fx q)/\ab aG h h'):=by
 obtain⟨s1,aV,hS⟩:=w.hS;obtain⟨s2,hd⟩:=w.hd;have nh:=hS;simp[cu] at nh;obtain⟨k,A⟩:=q;obtain⟨k,rfl⟩: ∃k':Nat,k=k':=⟨k.toNat,by omega⟩;have hk:k<n:=by omega
 obtain⟨x,hx⟩: ∃x,fx[k]? =some x:=⟨_,aX (by rw[w.fl];exact hk)⟩;have oS:=ok.bA hS;have od:=ok.bA hd;have oY:=ok.bA hY;have r0:=zf hd hx 0 1 (by decide);simp[-ag] at r0;refine cP.func ?_;refine aF.of vD ?_;unfold mP;have Tj:Jd fx ((k:Int),A)=(x.1==1):=by simp[Jd,hx]
 simp[aI,d_,aq hY,aq nh,oS,oY,od,hk,r0,Tj,-ag,ay];exact((ab.refl ok).new _ _).tick
def afx:List Nat:=[9,10,11,33,34,35,36,37,38,39,40,41,42,43,44,45,46,47,48,49,50,51,52,53]
def ak4 (h:ae) (n0 ai:Nat) (κ cap:Nat->Nat) (rs:List XR) (S d m Y:Nat) (name:ByteArray) (p r:Int) (B AH:SV) (fx:List (Int×Int)) (k:Nat) (e:Env) (mm:Nat) (e':Env) (h':ae):Prop:=
 ∃j:Nat,mm=k-j/\j<=k/\aw afx e e'/\Env.get e' 33= .int .i64 j/\ab (uN κ) h h'/\Tn h' n0 ai κ cap rs S d m Y name p r B AH fx
theorem SX (ok:bu h) (k:Tn h n0 ai κ cap rs S d m Y name p r B AH fx) (hx:rs[i]? =some x) (va:x.ps.length<=100000) (C0: ∀q∈x.ps,q.2.l<=1048576)
  {e:Env} {Q:aP->Env->ae->Prop} (f3:Env.get e 3= .pointer (some ⟨Y,0,none⟩)) (f31:Env.get e 31=x.P.v) (f32:Env.get e 32= .int .i64 x.ps.length) (f33:Env.get e 33= .int .i64 0)
  (C: ∀e' h',aw afx e e'->ab (uN κ) h h'->Tn h' n0 ai κ cap rs S d m Y name p r B AH fx->Q (.exit 0) e' h'):aB FF (.loop jb) e h Q:=by
 refine aB.loop (ak4 h n0 ai κ cap rs S d m Y name p r B AH fx x.ps.length e) ?_ (n:=x.ps.length) ⟨0,rfl,by omega,aw.refl _ _,f33,.refl ok,k⟩;rintro mm e' h' ⟨j,rfl,hj,K,q33,g,k'⟩;have bX:=g.ok;have q3:=K.at f3;have WK:=K.at f31;have ZQ:=K.at f32;unfold jb;by_cases aS:j<x.ps.length
 .have wj:=wrap_i64 ((j:Int)+1) (by omega) (by omega);obtain⟨q,hq⟩: ∃q,x.ps[j]? =some q:=⟨_,aX aS⟩;have K9:=dk hq;have R:=k'.O.r i x hx;obtain⟨bP,cs,o,s,oZ,hPb,YY,eH,dy,_⟩:=R.P.el hq;have jl:=R.P.len;have r0:=dy 0 2 (by decide);simp[-ag] at r0 WK;rw[oZ,jl] at WK;simp[q3,WK,ZQ,q33,aS,r0,-ag,av,bg,aI,ay];refine aB.cut (fun h2=>ab aG h' h2/\ ∃s,h2.tr.get h'.next=some (.aA [.int .i64 q.1,.slice q.2.a q.2.l q.2.c] false 0 s)) ?_ ?_
  .exact⟨(ab.refl bX).var _ _,h'.clock,by simp[aJ]⟩
  rintro h2 ⟨g2,sX,dS⟩;have k2:=k'.bt bX g2;have ln:=g.next;have κX:κ h'.next=0:=by
   rcases tP (κ h'.next) with h1|h1
   .exact h1
   .have:=(k'.O.new h'.next (by omega)).2;omega
  refine Xr g2.ok k2 (R.ps q K9).2 (C0 q K9) dS κX rfl (by simp[q3]) (by simp) (by simp) (by simp) (by simp) ?_;intro e3 h3 K3 g3 k3;have m33:=K3.at (t:=33) (by simp;exact q33);simp[m33,wj];refine⟨x.ps.length-(j+1),by omega,j+1,rfl,aS,?_,by simp,(g.trans g2.bt).trans g3,k3⟩;refine aw.set (aw.set (aw.trans ?_ (K3.bJ)))
  repeat (refine aw.set ?_)
  exact K
 .have:j=x.ps.length:=by omega
  subst this;simp[ZQ,q33];exact C _ _ (aw.set K) g k'
theorem cI.arr {α:Type} {E:Enc α} {xs:List α} (a:cI E n0 h L.v xs):e_ E h L xs:=by
 rcases a with⟨rfl,e⟩|⟨b,s,e,hb,hx,hn⟩
 .simp at e;exact⟨e.2.1,.inl ⟨e.1,e.2.2,rfl⟩⟩
 .simp at e;exact⟨e.2.1,.inr ⟨b,E.sz,s,[],e.1,by simp[e.2.2],by simpa using hb,.inr rfl⟩⟩
theorem cq.abW {h h':ae} (w:cq h n0 ai κ cap rs) (ok:bu h) (um:n0<=h.next) {r:XR} (hr:rs[i]? =some r) (g:ab aG h h') {L':SV} {I9:List XI} (hL:e_ mJ h' L' I9) {nl:Nat} (hb: ∀b,ax L'.v b->nl<=b) (To:n0<=nl/\nl<=h.next) (Rc: ∀b,nl<=b->κ b=0) (JQ: ∀x∈I9,x.dst<ai/\gK ai x.a/\gK ai x.b/\VA κ cap x.args):
  ∃κ':Nat->Nat,cq h' n0 ai κ' cap (rs.set i { r with L:=L',ls:=I9 })/\(∀b,b<nl->κ' b=κ b)/\(∀b,κ' b=2->κ b=2):=by
 classical
 obtain⟨κ',hκ⟩: ∃κ':Nat->Nat,∀b,κ' b=if ax L'.v b then 4 else κ b:=⟨fun b=>if ax L'.v b then 4 else κ b,fun b=>rfl⟩
 have low: ∀b,b<nl->κ' b=κ b:=fun b dq=>by rw[hκ,aT (fun e=>by have:=hb b e;omega)]
 have back: ∀k b,k≠4->κ' b=k->κ b=k:=fun k b hk dq=>by
  rw[hκ] at dq;split at dq
  .omega
  .exact dq
 refine⟨κ',w.ads ok hr (g.bJ (fun _ _ h=>h.elim)) hL (fun b dq=> ?_) (fun b dq=>back 1 b (by decide) dq) (fun b dq=>by rw[hκ,aU dq]) (fun j x hx _ b KO dq=> ?_) (fun b dq=> ?_) JQ,low,fun b dq=>back 2 b (by decide) dq⟩
 .rw[hκ,aT (fun e=>dq (Rc b (hb b e)))]
 .have:=Rc b (hb b KO);have:=(w.r j x hx).kL b dq;omega
 .rw[hκ] at dq;split at dq
  .rename_i e;have:=hb b e;exact⟨by omega,hL.bA g.ok e⟩
  .have:=w.new b dq;have:=g.next;omega
structure xh (az:Int) (fx:List (Int×Int)) (r r':XR):Prop where
 kind:r'.kind=r.kind
 on:r'.on=gz fx r.on
 ts:r'.ts=r.ts
 ps:r'.ps=uy (Jd fx) r.ps
 ls:r'.ls=uH az fx r.ls
def T8 (h:ae) (n0 ai:Nat) (κ cap:Nat->Nat) (rs:List XR) (i:Nat) (x:XR) (az:Int) (fx:List (Int×Int)) (v:Value) (h':ae):Prop:=
 ab (fun b=>κ b=1\/κ b=3) h h'/\ ∃(x':XR) (κ':Nat->Nat),v= .agg ⟨fe.enc x'⟩/\xh az fx x x'/\(∀b,b<h.next->κ' b=κ b)/\(∀b,κ' b=2->κ b=2)/\cq h' n0 ai κ' cap (rs.set i x')
theorem SS (ok:bu h) (O:cq h n0 ai κ cap rs) (um:n0<=h.next) (w:Sv h S d m ai name p r B AH fx) (κS:κ S=0) (κd:κ d=0) (hw:0<=az/\az<1000000000) (hx:rs[i]? =some x) {xs:List XR} (hA:e_ fe h B xs) (CQ:xs[i]? =some x)
  (Ed:x.ls.length<=100000) (C0: ∀y∈x.ls,y.args.l<=1048576) (va:x.ps.length<=100000) (Ha: ∀q∈x.ps,q.2.l<=1048576):
  aF FF pS [.pointer (some ⟨S,0,none⟩),.int .i64 az,.int .i64 i] h (T8 h n0 ai κ cap rs i x az fx):=by
 obtain⟨s1,aV,hS⟩:=w.hS;have nh:=hS;simp[cu] at nh;obtain⟨bB,cs,oB,sB,ig,FZ,hiB,eH,dy,_⟩:=hA.el CQ;have HC:=dy 0 6 (by decide);simp[-ag] at HC;rw[ig] at nh;have oS:=ok.bA hS;have oB':=ok.bA FZ;have R:=O.r i x hx;have lS:=oS.lt;have e1: ¬h.next=h.next+1:=by omega
 have nS: ¬S=h.next:=by omega
 have nS1: ¬S=h.next+1:=by omega
 refine aF.of xO ?_;unfold pE;simp[nh,e1,nS,nS1,hiB,HC,oS,oB',-ag,aq nh,aI,d_,bg,av,ay];have κhi: ∀b,h.next<=b->κ b=0:=fun b hb=>by
  rcases tP (κ b) with h1|h1
  .exact h1
  .have:=(O.new b (by omega)).2;omega
 refine aE.cut (fun h1=>ab aG h h1/\(∃s,h1.tr.get h.next=some (.aA [.pointer (some ⟨S,0,none⟩)] false 0 s))/\(∃s,h1.tr.get (h.next+1)=some (.aA [.slice none 0 0,.slice none 0 0,.int .i64 0,.bool false,.int .i64 0,.slice none 0 0] false 0 s))/\ ∃s,h1.tr.get (h.next+1+1)=some (.aA [.slice x.P.a x.P.l x.P.c,.slice x.L.a x.L.l x.L.c,.int .i64 x.kind,.bool x.on.1,.int .i64 x.on.2,.slice x.T.a x.T.l x.T.c] false 0 s)) ?_ ?_
 .have e2: ¬h.next=h.next+1+1:=by omega
  have e3: ¬h.next+1=h.next+1+1:=by omega
  exact⟨(((ab.refl ok).new _ _).new _ _).var _ _,⟨0,by simp[e1,e2]⟩,⟨0,by simp[e3]⟩,_,by simp[aJ];rfl⟩
 rintro h1 ⟨g1,⟨sY,hY1⟩,⟨sR,sG⟩,sX,mL⟩;have lX1:=g1.ok.wf _ _ mL;have O1:=O.bt ok g1;have R1:=O1.r i x hx;have w1:=w.grow ok g1 (fun h=>h) (fun h=>h);have κX:κ (h.next+1+1)=0:=κhi _ (by omega);have κY:κ h.next=0:=κhi _ (by omega);have κR:κ (h.next+1)=0:=κhi _ (by omega);have nP: ∀b,κ b=0-> ¬ax x.P.v b:=fun b hb h=>by have:=R1.kP b h;omega
 refine aE.call (V:=ae8 jR (Jd fx) x.P x.ps h1) (by simpa using Nk (E:=jR) (p:=Jd fx) (y:= .func (.func iO) #[] #[.pointer (some ⟨h.next,0,none⟩)]) (z0:=((0:Int),fI)) rfl abI abJ g1.ok R1.P (by omega) (fun q hq h2 g=>Xp g.ok (w1.grow g1.ok g (nP _ κS) (nP _ κd)) (g.get g1.ok hY1 (nP _ κY)) (R1.ps q hq).1)) ?_;rintro _ h2 ⟨g2,P',rfl,ami,My⟩;have O2:=O1.SF g1.ok hx g2 My ami (fun q hq=>R1.ps q (NA.1 hq).1);have w2:=w1.grow g1.ok g2 (nP _ κS) (nP _ κd);have KM:=g2.get g1.ok hY1 (nP _ κY);have xW:=g2.get g1.ok sG (nP _ κR);have dS:=g2.get g1.ok mL (nP _ κX);obtain⟨r1,o7⟩: ∃r1:XR,r1= { x with P:=P',ps:=uy (Jd fx) x.ps } :=⟨_,rfl⟩;rw[<-o7] at O2;have ff:=(bY.mp hx).1;have Zi:(rs.set i r1)[i]? =some r1:=by rw[eR,aU rfl,aU ff]
 have jl:P'.l=r1.ps.length:=by rw[o7];exact My.len
 have nSX: ¬S=h.next+1+1:=by omega
 have ld:d<h.next:=by obtain⟨s,hd⟩:=w.hd;exact ok.wf _ _ hd
 simp[dS];refine aB.cut (fun h3=>ab (· =h.next+1+1) h2 h3/\ ∃s,h3.tr.get (h.next+1+1)=some (.aA [P'.v,.slice x.L.a x.L.l x.L.c,.int .i64 x.kind,.bool x.on.1,.int .i64 x.on.2,.slice x.T.a x.T.l x.T.c] false 0 s)) ?_ ?_
 .exact⟨aM g2.ok dS,_,by simp[aJ];rfl⟩
 rintro h3 ⟨g3,sX3,fK⟩;have k2:Tn h2 n0 ai κ cap (rs.set i r1) S d m h.next name p r B AH fx:=⟨O2,w2,⟨sY,KM⟩,κS,κd,κY⟩;have k3:=k2.grow g2.ok g3 (fun b hb=>by rw[hb];exact⟨κX,by omega,by omega,by omega⟩);have Ga:=g3.get g2.ok xW (by omega);have ao5: ∀q∈r1.ps,q∈x.ps:=fun q hq=>by rw[o7] at hq;exact(NA.1 hq).1
 have ple:r1.ps.length<=x.ps.length:=by rw[o7];exact QT _ _
 refine SX g3.ok k3 Zi (by omega) (fun q hq=>Ha q (ao5 q hq)) (by simp) (by simp[o7]) (by simp[jl]) (by simp) ?_;intro e4 h4 K4 g4 k4;have m7:Env.get e4 7= .pointer (some ⟨h.next+1+1,0,none⟩):=K4.at (t:=7) (by simp);have m6:Env.get e4 6= .pointer (some ⟨h.next+1,0,none⟩):=K4.at (t:=6) (by simp);have m3:Env.get e4 3= .pointer (some ⟨h.next,0,none⟩):=K4.at (t:=3) (by simp);have m1:Env.get e4 1= .int .i64 az:=K4.at (t:=1) (by simp);have tR:=g4.get g3.ok fK (fun e=>by unfold uN at e;omega);have NJ:=g4.get g3.ok Ga (fun e=>by unfold uN at e;omega);have tB:x.L.l=r1.ls.length:=by rw[o7];exact R.L.len
 have hL1:r1.L=x.L:=by rw[o7]
 have Y3:r1.ls=x.ls:=by rw[o7]
 simp[m7,tR];refine SU g4.ok k4 hw Zi (by rw[Y3];exact Ed) (by rw[Y3];exact C0) (by simp[m1]) (by simp[m3]) (by simp[fI]) (by simp[hL1]) (by simp[tB]) (by simp) ?_;intro e5 h5 W K5 t12 acc g5 k5;have p7:Env.get e5 7= .pointer (some ⟨h.next+1+1,0,none⟩):=K5.at (t:=7) (by simp[m7]);have p6:Env.get e5 6= .pointer (some ⟨h.next+1,0,none⟩):=K5.at (t:=6) (by simp[m6]);have p3:Env.get e5 3= .pointer (some ⟨h.next,0,none⟩):=K5.at (t:=3) (by simp[m3]);have rV:=g5.get g4.ok tR (fun e=>by unfold uN at e;omega);have u9:=g5.get g4.ok NJ (fun e=>by unfold uN at e;omega);obtain⟨sY5,hY5⟩:=k5.hY;simp at rV;have nYX: ¬h.next=h.next+1+1:=by omega
 simp[p3,p7,t12,rV,hY5,nYX];refine aE.cut (fun h6=>ab (· =h.next+1+1) h5 h6/\ ∃s,h6.tr.get (h.next+1+1)=some (.aA [.slice P'.a P'.l P'.c,.slice W.a W.l W.c,.int .i64 x.kind,.bool x.on.1,.int .i64 x.on.2,.slice x.T.a x.T.l x.T.c] false 0 s)) ?_ ?_
 .exact⟨aM g5.ok rV,_,by simp[aJ];rfl⟩
 rintro h6 ⟨g6,sX6,yp⟩;have k6:=k5.grow g5.ok g6 (fun b hb=>by rw[hb];exact⟨κX,by omega,by omega,by omega⟩);have KJ:=g6.get g5.ok u9 (by omega);refine aE.call (V:=fun u h'=>u= .agg ⟨[.bool (gz fx x.on).1,.int .i64 (gz fx x.on).2]⟩/\ab aG h6 h') (by simpa using wU g6.ok k6.v R.on) ?_;rintro _ h7 ⟨rfl,g7⟩;have k7:=k6.bt g6.ok g7;have Tg:=g7.get g6.ok yp (fun h=>h);have hR7:=g7.get g6.ok KJ (fun h=>h);have nRX: ¬h.next+1=h.next+1+1:=by omega
 simp[p6,p7,Tg,hR7,nRX,aJ];have l1:=g1.next;have l2:=g2.next;have l3:=g3.next;have l4:=g4.next;have l5:=g5.next;have l6:=g6.next;have l7:=g7.next;obtain⟨h8,e8,g8⟩: ∃h8,h8=put (put h7 (h.next+1+1) 3 [.slice P'.a P'.l P'.c,.slice W.a W.l W.c,.int .i64 x.kind,.bool x.on.1,.int .i64 x.on.2,.slice x.T.a x.T.l x.T.c] [.bool (gz fx x.on).1,.int .i64 (gz fx x.on).2] 0) (h.next+1) 0 [.slice none 0 0,.slice none 0 0,.int .i64 0,.bool false,.int .i64 0,.slice none 0 0] [.slice P'.a P'.l P'.c,.slice W.a W.l W.c,.int .i64 x.kind,.bool (gz fx x.on).1,.int .i64 (gz fx x.on).2,.slice x.T.a x.T.l x.T.c] 0/\ab (fun b=>b=h.next+1+1\/b=h.next+1) h7 h8:=
  ⟨_,rfl,((ab.refl g7.ok).put ⟨_,Tg⟩ (.inr (.inl rfl))).put ⟨sR,by rw[eV,aT nRX];exact hR7⟩ (.inr (.inr rfl))⟩
 rw[<-e8];clear e8;have k8:=k7.grow g7.ok g8 (fun b hb=>by rcases hb with hb|hb<;>(rw[hb];exact⟨by assumption,by omega,by omega,by omega⟩));have nW: ∀b,ax W.v b->h4.next<=b:=fun b hb=>acc.of hb;have abB:=acc.grow g5.ok g6 (fun b hb e=>by have:=nW b hb;omega);have abC:=(abB.grow g6.ok g7 (fun _ _ h=>h)).grow g7.ok g8 (fun b hb e=>by have:=nW b hb;omega);have l8:=g8.next;have hn4:h.next<=h4.next:=by omega
 obtain⟨κ',O9,low,k2'⟩:=k8.O.abW g8.ok (by omega) Zi (.refl g8.ok) (cI.arr abC) (nl:=h4.next) nW ⟨by omega,by omega⟩ (fun b hb=>κhi b (by omega)) (fun z hz=>by unfold uH at hz;have vK:=(NA.1 hz).1;obtain⟨y,hy,rfl⟩:=j9.1 vK;rw[Y3] at hy;obtain⟨a1,a2,a3,a4⟩:=R.ls y hy;exact⟨a1,Au a2,Au a3,a4⟩)
 rw[List.set_set] at O9;have O10:=O9.abb (i:=i) (r:= { r1 with L:=W,ls:=uH az fx r1.ls }) (by rw[eR,aU rfl,aU ff]) x.kind (gz fx x.on) (Au R.on);rw[List.set_set] at O10;have Za:r1.P=P'/\r1.T=x.T/\r1.ts=x.ts/\r1.ps=uy (Jd fx) x.ps:=by rw[o7];exact⟨rfl,rfl,rfl,rfl⟩
 refine⟨?_,_,κ',?_,?_,fun b hb=>low b (by omega),k2',O10⟩
 .have z1:ab (fun b=>κ b=1\/κ b=3) h h2:=(g1.bt).trans (g2.bJ (fun b _ hb=> .inr (R1.kP b hb)));have z3:ab (fun b=>κ b=1\/κ b=3) h h3:=z1.trans' g3 (fun _ _ h=>h) (fun b hb e=>by omega);have z4:ab (fun b=>κ b=1\/κ b=3) h h5:=(z3.trans (g4.bJ (fun b _ hb=> .inl hb))).trans (g5.bJ (fun b _ hb=> .inl hb));have z6:ab (fun b=>κ b=1\/κ b=3) h h6:=z4.trans' g6 (fun _ _ h=>h) (fun b hb e=>by omega);exact(z6.trans g7.bt).trans' g8 (fun _ _ h=>h) (fun b hb e=>by omega)
 .simp[Za.1,Za.2.1]
 .exact⟨rfl,rfl,Za.2.2.1,Za.2.2.2,by show uH az fx r1.ls=_;rw[Y3]⟩
end
def m63 (b:Int):Int:=IntKind.i64.wrap (((b%2^IntKind.i64.bits).toNat &&& 63%2^IntKind.i64.bits:Nat):Int)
theorem Oh (b:Int): ¬m63 b<0:=by unfold m63;have h1:((b%2^IntKind.i64.bits).toNat &&& 63%2^IntKind.i64.bits)<=63:=ug Nat.and_le_right (by decide);rw[wrap_i64 _ (by omega) (by omega)];omega
def Yf (b:Bool):Int:=if b then 1 else 0
def rZ (op a b:Int):Int×Bool:=
 if op=1 then(a,true) else
 if op=2 then(IntKind.i64.wrap (a+b),true) else
 if op=3 then(IntKind.i64.wrap (a-b),true) else
 if op=4 then(IntKind.i64.wrap (a*b),true) else
 if op=5 then(if b=0 then(0,false) else(IntKind.i64.wrap (a.tdiv b),true)) else
 if op=6 then(if b=0 then(0,false) else(a.tmod b,true)) else
 if op=7 then(IntKind.i64.wrap (((a%2^IntKind.i64.bits).toNat &&& (b%2^IntKind.i64.bits).toNat:Nat):Int),true) else
 if op=8 then(IntKind.i64.wrap (((a%2^IntKind.i64.bits).toNat ||| (b%2^IntKind.i64.bits).toNat:Nat):Int),true) else
 if op=9 then(IntKind.i64.wrap (((a%2^IntKind.i64.bits).toNat ^^^ (b%2^IntKind.i64.bits).toNat:Nat):Int),true) else
 if op=10 then(IntKind.i64.wrap (a*2^(min (m63 b).toNat IntKind.i64.bits)),true) else
 if op=11 then(a.fdiv (2^(min (m63 b).toNat IntKind.i64.bits)),true) else
 if op=12 then(Yf (a==b),true) else
 if op=13 then(Yf (a !=b),true) else
 if op=14 then(Yf (decide (a<b)),true) else
 if op=15 then(Yf (decide (a<=b)),true) else
 if op=16 then(IntKind.i64.wrap (-a),true) else
 (IntKind.i64.wrap ((((if IntKind.i64.signed=true then(-1:Int) else 9223372036854775807)%2^IntKind.i64.bits).toNat ^^^ (a%2^IntKind.i64.bits).toNat:Nat):Int),true)
theorem AS (h:ae) (b:Bool):cP FF (.func (.func Ai) #[] #[]) [.bool b] h (fun v h'=>v= .int .i64 (Yf b)/\h'=h):=by refine cP.func ?_;refine aF.of HX ?_;unfold zC;cases b<;>simp[Yf]
theorem Xt (h:ae) {op:Int} (a b:Int) (vN:1<=op/\op<=17):aF FF EA [.int .i64 op,.int .i64 a,.int .i64 b] h (fun v h'=>v= .tuple #[.int .i64 (rZ op a b).1,.bool (rZ op a b).2]/\h'=h):=by
 refine aF.of M5 ?_;unfold DA;have hn:=Oh b;unfold m63 at hn;have hc:op=1\/op=2\/op=3\/op=4\/op=5\/op=6\/op=7\/op=8\/op=9\/op=10\/op=11\/op=12\/op=13\/op=14\/op=15\/op=16\/op=17:=by omega
 rcases hc with rfl|rfl|rfl|rfl|rfl|rfl|rfl|rfl|rfl|rfl|rfl|rfl|rfl|rfl|rfl|rfl|rfl
 .simp[rZ]
 .simp[rZ]
 .simp[rZ]
 .simp[rZ]
 .by_cases hb:b=0
  .subst hb;simp[rZ]
  .simp[rZ,hb]
 .by_cases hb:b=0
  .subst hb;simp[rZ]
  .simp[rZ,hb]
 .simp[rZ]
 .simp[rZ]
 .simp[rZ]
 .simp[rZ,gY,hn,m63]
 .simp[rZ,gY,hn,m63]
 .simp[rZ];refine aE.cD (V:=fun v h'=>v= .int .i64 (Yf (a==b))/\h'=h) (by simpa using AS h (a==b)) ?_;rintro _ h' ⟨rfl,rfl⟩;simp
 .simp[rZ];refine aE.cD (V:=fun v h'=>v= .int .i64 (Yf (a !=b))/\h'=h) (by simpa using AS h (a !=b)) ?_;rintro _ h' ⟨rfl,rfl⟩;simp
 .simp[rZ];refine aE.cD (V:=fun v h'=>v= .int .i64 (Yf (decide (a<b)))/\h'=h) (by simpa using AS h (decide (a<b))) ?_;rintro _ h' ⟨rfl,rfl⟩;simp
 .simp[rZ];refine aE.cD (V:=fun v h'=>v= .int .i64 (Yf (decide (a<=b)))/\h'=h) (by simpa using AS h (decide (a<=b))) ?_;rintro _ h' ⟨rfl,rfl⟩;simp
 .simp[rZ]
 .simp[rZ]
section
variable {h0 hz:ae} {S d m n nb:Nat} {name:ByteArray} {p r:Int} {B AH:SV}
def aaj (h:ae) (v:Value) (h':ae):Prop:=ab aG h h'/\ ∃y,v=bE y/\kN y
theorem Oi (ok:bu h) {fx:List (Int×Int)} (w:Sv h S d m n name p r B AH fx) (fk: ∀x∈fx,kN x) {x:GI} {A:SV} (ha:gK n x.a) (hb:gK n x.b):
  aF FF oy [.pointer (some ⟨S,0,none⟩),.agg ⟨mi x A⟩] h (aaj h):=by
 refine aF.of wg ?_;unfold oe;have e1: ¬h.next=h.next+1:=by omega
 simp[mi,aC];refine aE.cut (fun h1=>ab aG h h1/\(∃s,h1.tr.get h.next=some (.aA [.int .i64 x.op,.int .i64 x.dst,.bool x.a.1,.int .i64 x.a.2,.bool x.b.1,.int .i64 x.b.2,.int .i64 x.fn,.slice A.a A.l A.c] false 0 s))/\ ∃s,h1.tr.get (h.next+1)=some (.aA [.int .i64 0,.int .i64 0] false 0 s)) ?_ ?_
 .exact⟨((ab.refl ok).new _ _).new _ _,⟨0,by simp[e1]⟩,0,by simp⟩
 rintro h1 ⟨g1,⟨s1,mL⟩,s2,sG⟩;have lR:=g1.ok.wf _ _ sG;refine aE.call (V:=fun v h'=>v= .bool (decide (1<=x.op)&&decide (x.op<=17))/\h'=h1) (by simpa using dG h1 x.op 1 17) ?_;rintro _ hx ⟨rfl,e⟩;rw[e];have fin: ∀(h2:ae) (vs:List Value) (s:Nat),ab aG h h2->h2.tr.get (h.next+1)=some (.aA [.int .i64 0,.int .i64 0] false 0 s)->ab aG h (put h2 (h.next+1) 0 [.int .i64 0,.int .i64 0] vs 0):=fun h2 vs s g hR=>g.put ⟨_,hR⟩ (.inl (by omega));by_cases vN:1<=x.op/\x.op<=17
 .have oX:=g1.ok.bA mL;have oR:=g1.ok.bA sG;have nX1: ¬h.next=h1.next:=by omega
  have nX2: ¬h.next=h1.next+1:=by omega
  have Vz:=g1.ok.st _ _ _ _ _ mL;simp[vN,mL,nX1,nX2];refine aQ.cut (fun h2=>ab aG h1 h2/\h2.tr.get h1.next=some (.aA [.int .i64 0,.int .i64 0] false 0 0)/\h2.tr.get (h1.next+1)=some (.aA [.int .i64 0,.int .i64 0] false 0 0)) ?_ ?_
  .exact⟨((aW g1.ok).new _ _).new _ _,by simp,by simp⟩
  rintro h2 ⟨g2,IJ,ND⟩;have iI:=g1.trans g2;have lB:=g2.ok.wf _ _ ND;refine aQ.call (V:=fun u h'=>u=bE (jy fx x.a)/\ab aG h2 h') (by simpa using Aw g2.ok (w.grow ok iI (fun h=>h) (fun h=>h)) ha) ?_;rintro _ h3 ⟨rfl,g3⟩;have dh:=iI.trans g3;have fK:=(g2.trans g3).get g1.ok mL (fun h=>h);have JO:=g3.get g2.ok IJ (fun h=>h);have hB3:=g3.get g2.ok ND (fun h=>h);simp[fK,Vz];refine aQ.call (V:=fun u h'=>u=bE (jy fx x.b)/\ab aG h3 h') (by simpa using Aw g3.ok (w.grow ok dh (fun h=>h) (fun h=>h)) hb) ?_;rintro _ h4 ⟨rfl,g4⟩;have mK:=dh.trans g4;have tR:=g4.get g3.ok fK (fun h=>h);have Td:=g4.get g3.ok JO (fun h=>h);have YL:=g4.get g3.ok hB3 (fun h=>h);have NJ:=((g2.trans g3).trans g4).get g1.ok sG (fun h=>h);have fa:=Bf fk x.a;have fb:=Bf fk x.b;generalize jy fx x.a=ya at*;generalize jy fx x.b=yb at*;obtain⟨a1,a2⟩:=ya;obtain⟨b1,b2⟩:=yb;have nAB: ¬h1.next=h1.next+1:=by omega
  simp[bE,Td,YL];refine aE.cut (fun h5=>ab aG h h5/\(∃s,h5.tr.get h1.next=some (.aA [.int .i64 a1,.int .i64 a2] false 0 s))/\(∃s,h5.tr.get (h1.next+1)=some (.aA [.int .i64 b1,.int .i64 b2] false 0 s))/\h5.tr.get h.next=h4.tr.get h.next/\h5.tr.get (h.next+1)=h4.tr.get (h.next+1)) ?_ ?_
  .have n3: ¬h.next+1=h1.next:=by omega
   have n4: ¬h.next+1=h1.next+1:=by omega
   exact⟨(mK.put ⟨_,Td⟩ (.inl (by omega))).put ⟨0,by simp[YL]⟩ (.inl (by omega)),⟨h4.clock,by simp[nAB]⟩,⟨h4.clock+1,by simp⟩,by simp[nX1,nX2],by simp[n3,n4,nX1]⟩
  rintro h5 ⟨g5,⟨sA,yo⟩,⟨sB,XH⟩,rV,u9⟩;rw[tR] at rV;rw[NJ] at u9;by_cases c1:a1=2
  .subst c1;simp[yo,XH,u9];exact⟨fin _ _ _ g5 u9,(2,0),rfl,.inr (.inr rfl)⟩
  have Uf:(a1==2)=false:=gO c1;by_cases c2:b1=2
  .subst c2;simp[yo,XH,u9,c1,Uf];exact⟨fin _ _ _ g5 u9,(2,0),rfl,.inr (.inr rfl)⟩
  have c2':(b1==2)=false:=gO c2;by_cases c3:a1=0
  .subst c3;simp[yo,XH,u9,c2,c2'];exact⟨fin _ _ _ g5 u9,(0,0),rfl,.inl rfl⟩
  have c3':(a1==0)=false:=gO c3;by_cases c4:b1=0
  .subst c4;simp[yo,XH,u9,c1,Uf,c3,c3'];exact⟨fin _ _ _ g5 u9,(0,0),rfl,.inl rfl⟩
  have c4':(b1==0)=false:=gO c4;simp[yo,XH,u9,rV,c1,Uf,c2,c2',c3,c3',c4,c4'];refine aE.call (by simpa using Xt h5 a2 b2 vN) ?_;rintro _ h6 ⟨rfl,e6⟩;rw[e6];generalize rZ x.op a2 b2=t;obtain⟨t1,t2⟩:=t;cases t2 with
  |true=>
   simp[u9];exact⟨fin _ _ _ g5 u9,(1,t1),rfl,.inr (.inl rfl)⟩
  |false=>
   simp[u9];exact⟨fin _ _ _ g5 u9,(2,0),rfl,.inr (.inr rfl)⟩
 .have acP:(decide (1<=x.op)&&decide (x.op<=17))=false:=by
   by_cases c1:1<=x.op
   .have c2: ¬x.op<=17:=fun c=>vN ⟨c1,c⟩;simp[c2]
   .simp[c1]
  simp[acP,sG];exact⟨fin _ _ _ g1 sG,(2,0),rfl,.inr (.inr rfl)⟩
theorem Ni (ok:bu h) {fx gs:List (Int×Int)} (w:St h0 hz h S d m n nb name p r B AH fx gs aV) {Y1 Y2 s1 s2:Nat} (h1:h.tr.get Y1=some (.aA [.pointer (some ⟨S,0,none⟩)] false 0 s1)) (h2:h.tr.get Y2=some (.aA [.int .i64 to] false 0 s2)) (a:Int):
  aF FF iN [.int .i64 a,.pointer (some ⟨Y1,0,none⟩),.pointer (some ⟨Y2,0,none⟩)] h (fun v h'=>v= .bool (decide ((a,to)∈gs))/\ab aG h h'):=by
 obtain⟨s,hS⟩:=w.hS;have nh:=hS;simp[cu] at nh;have hm:=w.hm;have lk:=I8 (a,to) gs;simp only[bE] at lk;refine aF.of vC ?_;unfold mO;by_cases tS:(a,to)∈gs
 .simp[tS] at lk;simp[h1,h2,nh,hm,lk,jY,tS];exact aW ok
 .simp[tS] at lk;simp[h1,h2,nh,hm,lk,jY,tS];exact aW ok
theorem St.add {h:ae} {fx gs:List (Int×Int)} {aV:Bool} (w:St h0 hz h S d m n nb name p r B AH fx gs aV) {e:Int×Int} (hn:e∉gs) (he:0<=e.1/\e.1<nb/\0<=e.2/\e.2<nb) {s:Nat} (hS:h.tr.get S=some (.aA (cu name p r B AH d n m aV) false 0 s)):
  Gr h0 hz S d m n nb name p r B AH fx gs aV h (put (zc (zc h m (jU gs++[(bE e,.bool false)])) m (jU (gs++[e]))) S 7 (cu name p r B AH d n m aV) [.bool true] 0):=by
 have ok:=w.g.ok;obtain⟨s2,hd⟩:=w.hd;obtain⟨n1,n2,n3⟩:=w.ne;have g1:=GV ok (jU gs++[(bE e,.bool false)]) w.hm;have PR:(zc h m (jU gs++[(bE e,.bool false)])).tr.get m=some (.map (jU gs++[(bE e,.bool false)])):=by rw[ml,aU rfl]
 have hS1:(zc h m (jU gs++[(bE e,.bool false)])).tr.get S=some (.aA (cu name p r B AH d n m aV) false 0 s):=by rw[ml,aT n2,hS]
 have Tj:(zc h m (jU gs++[(bE e,.bool false)])).tr.get d=some (.aA (jt.flat fx) false 0 s2):=by rw[ml,aT n3,hd]
 generalize zc h m (jU gs++[(bE e,.bool false)])=h1 at*;have g2:=GV g1.ok (jU (gs++[e])) PR;have hm2:(zc h1 m (jU (gs++[e]))).tr.get m=some (.map (jU (gs++[e]))):=by rw[ml,aU rfl]
 have hS2:(zc h1 m (jU (gs++[e]))).tr.get S=some (.aA (cu name p r B AH d n m aV) false 0 s):=by rw[ml,aT n2,hS1]
 have D9:(zc h1 m (jU (gs++[e]))).tr.get d=some (.aA (jt.flat fx) false 0 s2):=by rw[ml,aT n3,Tj]
 generalize zc h1 m (jU (gs++[e]))=h2 at*;have g12:ab (HN S d m) h h2:=(g1.trans g2).bJ (fun x _ e=> .inr (.inr e));have g3:=g12.put (off:=7) (vs:=[.bool true]) ⟨s,hS2⟩ (.inr (.inl rfl));have gi:=w.gi.add hn he;refine⟨g3,fx,gs++[e],true,⟨w.g.trans' g3 (fun _ _ h=>h) (fun x hx e=> ?_),w.gy.trans' g3 (fun _ _ h=>h) (fun x hx e=> ?_),w.Zt,w.nS,w.nd,w.nm,⟨h2.clock,by simp[cu]⟩,⟨s2,by rw[eV,aT (fun e=>n1 e.symm),D9]⟩,by rw[eV,aT (fun e=>n2 e.symm),hm2],w.fl,w.fk,gi,w.ne⟩,?_⟩
 .have:=w.nS;have:=w.nd;have:=w.nm
  rcases e with e|e|e<;>omega
 .have:=w.Zt;rcases e with e|e|e
  .omega
  .exact .inl e
  .exact .inr e
 .have:=ZN (fx:=fx) gi;exact⟨by omega,fun _ _=>this,fun _=>rfl⟩
theorem QV {fx gs:List (Int×Int)} (w:St h0 hz h S d m n nb name p r B AH fx gs aV) {a to:Int} (ha:0<=a/\a<nb) (ht:0<=to/\to<nb):
  aF FF pP [.pointer (some ⟨S,0,none⟩),.int .i64 a,.int .i64 to] h (fun _ h'=>Gr h0 hz S d m n nb name p r B AH fx gs aV h h'):=by
 obtain⟨s,hS⟩:=w.hS;have nh:=hS;simp[cu] at nh;have hm:=w.hm;have lk:=I8 (a,to) gs;simp only[bE] at lk;refine aF.of xM ?_;unfold pC;by_cases tS:(a,to)∈gs
 .simp[tS] at lk;simp[nh,hm,lk,jY];exact Gr.refl w
 .simp[tS] at lk;have eg:=aax (a,to) gs tS;have ea:=abO (a,to) gs;have es:=Yy (a,to) gs;simp only[bE] at eg ea es;obtain⟨n1,n2,n3⟩:=w.ne;have hS2:h.tr.get S=some (.aA (cu name p r B AH d n m aV) false 0 s):=hS;simp[nh,hm,lk,jY,eg,ea,es,Tr.aN,n2,hS2];have w':=w.add tS ⟨ha.1,ha.2,ht.1,ht.2⟩ hS;simp only[bE] at w';exact w'
end
section
variable {h0 hz:ae} {S d m n nb:Nat} {name:ByteArray} {p r:Int} {B AH:SV}
structure AhS (hz:ae) (d m:Nat) (AH:SV) (ws:List SV) (ah:List (List Int)):Prop where
 len:ws.length=ah.length
 sl: ∀h1,ab (DM d m) hz h1->SliceR (fun c (W:SV)=>c=[W.v]) 1 h1 AH.v ws
 row: ∀h1,ab (DM d m) hz h1-> ∀(i:Nat) (W:SV) (xs:List Int),ws[i]? =some W->ah[i]? =some xs->SliceR nR 1 h1 W.v xs
theorem QI {fx gs:List (Int×Int)} (w:St h0 hz h S d m n nb name p r B AH fx gs aV) (Bh:AhS hz d m AH ws ah) (gM:ah[b]? =some ps) (va:ps.length<1000000):
  aF FF pO [.pointer (some ⟨S,0,none⟩),.int .i64 b] h (vO h):=by
 have ok:=w.g.ok;refine aF.of xL ?_;unfold pB;have e1: ¬h.next=h.next+1:=by omega
 by_cases hb:b=0
 .subst hb;simp[e1];exact⟨(((ab.refl ok).new _ _).new _ _).tick,_,rfl⟩
 .have iy:((b:Int)==0)=false:=gO (by omega);have hbi: ¬(b:Int)=0:=by omega
  obtain⟨s1,hS⟩:=w.hS;have oS:=ok.bA hS;have lS:=oS.lt;have nh:=hS;simp[cu] at nh;have nS1: ¬S=h.next:=by omega
  have nS2: ¬S=h.next+1:=by omega
  have UR:=SliceR.len (Bh.sl h w.gy);have pc:b<ws.length:=by rw[Bh.len];exact(bY.mp gM).1
  obtain⟨W,hW⟩: ∃W,ws[b]? =some W:=⟨_,aX pc⟩;have sW:=Bh.row h w.gy b W ps hW gM;obtain⟨b2,Ot,c2,UQ,_,_,rfl,o2,xZ⟩:=SliceR.later ok (Bh.sl h w.gy) hW;rw[UQ,UR] at nh;have gH:ab aG h (tick (aL (aL h [.pointer (some ⟨S,0,none⟩)] 0) [.int .i64 b] 0)):=(((ab.refl ok).new _ _).new _ _).tick;have gY1:(tick (aL (aL h [.pointer (some ⟨S,0,none⟩)] 0) [.int .i64 b] 0)).tr.get h.next=some (.aA [.pointer (some ⟨S,0,none⟩)] false 0 0):=by simp[e1]
  have gY2:(tick (aL (aL h [.pointer (some ⟨S,0,none⟩)] 0) [.int .i64 b] 0)).tr.get (h.next+1)=some (.aA [.int .i64 b] false 0 0):=by simp
  have gS:=gH.get ok nh (fun h=>h);have r2:=xZ _ gH 0 1 (by decide);simp only[ID,Nat.mul_one,List.drop_zero,List.take,SV.abi] at r2;simp[e1,hb,iy,hbi,pc,r2,-ag,aq gS,aq gY1,aq gY2];refine aQ.cut (fun h1=>ab aG h h1/\(∃s,h1.tr.get h.next=some (.aA [.pointer (some ⟨S,0,none⟩)] false 0 s))/\ ∃s,h1.tr.get (h.next+1)=some (.aA [.int .i64 b] false 0 s)) ?_ ?_
  .exact⟨(((ab.refl ok).new _ _).new _ _).tick,⟨0,by simp[e1]⟩,0,by simp⟩
  rintro h1 ⟨g1,⟨s2,hY1⟩,s3,KM⟩;have w1:=w.grow g1;refine aQ.call (V:=fun v h'=>v= .bool (ps.any fun a=>decide ((a,(b:Int))∈gs))/\ab aG h1 h') (by simpa using sq g1.ok (T:=W) (sW.mono ok g1 fun _ _ e=>e) (by omega) (f:= .func (.func iN) #[] #[.pointer (some ⟨h.next,0,none⟩),.pointer (some ⟨h.next+1,0,none⟩)]) (fun a=>decide ((a,(b:Int))∈gs)) (fun h2 a g2=>cP.func (by simpa using Ni g2.ok (w1.grow g2) (g2.get g1.ok hY1 (fun h=>h)) (g2.get g1.ok KM (fun h=>h)) a))) ?_;rintro _ h2 ⟨rfl,g2⟩;simp;exact⟨g1.trans g2,_,rfl⟩
end
section
variable {h0 hz:ae} {S d m n nb:Nat} {name:ByteArray} {p r:Int} {B AH:SV}
def SrL:List Nat:=[7,8,37,38,39,40,41,42,43,44,45,46,47,48,49,50,51,52,53,54,55,56,57,58,59,60,61]
def SrI (h0 hz:ae) (S d m n nb:Nat) (name:ByteArray) (p r:Int) (B AH:SV) (fx gs:List (Int×Int)) (aV:Bool) (h:ae) (k:Nat) (e:Env) (mm:Nat) (e':Env) (h':ae):Prop:=
 ∃j:Nat,mm=k-j/\j<=k/\aw SrL e e'/\Env.get e' 37= .int .i64 j/\Gr h0 hz S d m n nb name p r B AH fx gs aV h h'
theorem Xn {fx gs:List (Int×Int)} (jG:bu h0) (w:St h0 hz h S d m n nb name p r B AH fx gs aV) {b:Nat} {W A:SV} (sW: ∀h1,ab (DM d m) hz h1->SliceR nR 1 h1 W.v ps) (Ha: ∀x∈ps,0<=x/\x<nb) (va:ps.length<1000000) {q:GP} (sA:SliceR vR 2 h0 A.v q.row) (hq:0<=q.dst/\q.dst<n) (hv: ∀v∈q.row,gK n v) (hl:q.row.length=ps.length)
  {X sX:Nat} (hX:h.tr.get X=some (.aA [.int .i64 q.dst,A.v] false 0 sX)) (nX: ¬HN S d m X)
  {e:Env} {Q:aP->Env->ae->Prop} (f0:Env.get e 0= .pointer (some ⟨S,0,none⟩)) (f1:Env.get e 1= .int .i64 b) (f6:Env.get e 6= .pointer (some ⟨X,0,none⟩)) (f35:Env.get e 35=W.v) (f36:Env.get e 36= .int .i64 ps.length) (f37:Env.get e 37= .int .i64 0)
  (C: ∀e' h',aw SrL e e'->Gr h0 hz S d m n nb name p r B AH fx gs aV h h'->Q (.exit 2) e' h'):aB FF (.loop iW) e h Q:=by
 have NK:=SliceR.len (sW h w.gy);have vE:=SliceR.len sA;refine aB.loop (SrI h0 hz S d m n nb name p r B AH fx gs aV h ps.length e) ?_ (n:=ps.length) ⟨0,rfl,by omega,aw.refl _ _,f37,.refl w⟩;rintro mm e' h' ⟨j,rfl,hj,K,Yb,g,CY,FY,jZ,w1,a1⟩;have q0:=K.at f0;have q1:=K.at f1;have q6:=K.at f6;have q35:=K.at f35;have Ya:=K.at f36;have ok:=w1.g.ok;unfold iW;by_cases aS:j<ps.length
 .have wj:=wrap_i64 ((j:Int)+1) (by omega) (by omega);obtain⟨a,hpx⟩: ∃a,ps[j]? =some a:=⟨_,aX aS⟩;obtain⟨v,hvx⟩: ∃v,q.row[j]? =some v:=⟨_,aX (by omega)⟩;have ha:=Ha a (dk hpx);have xp:=hv v (dk hvx);obtain⟨b1,EF,c1,hWa,_,_,rfl,_,qL⟩:=SliceR.later ok (sW h' w1.gy) hpx;have r1:=qL h' (ab.refl ok) 0 1 (by decide);obtain⟨b2,Ot,c2,CK,_,_,rfl,_,xZ⟩:=SliceR.later jG sA hvx;have r2:=xZ h' w1.g 0 2 (by decide);simp[-ag] at r1 r2;simp at q35;rw[hWa,NK] at q35;obtain⟨s1,hS⟩:=w1.hS;have nh:=hS;simp[cu] at nh;have oS:=ok.bA hS;have mL:=g.get w.g.ok hX nX;have xX:=mL;simp at xX;rw[CK,vE,hl] at xX;have oX:=ok.bA mL;have lk:=I8 (a,(b:Int)) FY;simp only[bE] at lk;have hm:=w1.hm;by_cases tS:(a,(b:Int))∈FY
  .simp[tS] at lk;have Ei:=ok.st _ _ _ _ _ xX;simp[q0,q1,q6,q35,Ya,Yb,aS,r1,nh,hm,lk,jY,-ag,aq nh,aq xX,ay,oS,oX,r2];refine aQ.cut (fun h2=>ab aG h' h2) (aW ok) ?_;intro h2 g2;have w2:=w1.grow g2;refine aQ.call (V:=fun u hh=>u=bE (jy CY v)/\ab aG h2 hh) (by simpa using Aw g2.ok w2.sv xp) ?_;rintro _ h3 ⟨rfl,g3⟩;have w3:=w2.grow g3;have fK:=g3.get g2.ok (g2.get ok xX (fun h=>h)) (fun h=>h);have wN:sX<=h'.clock+1:=by omega
   simp[fK,wN,Ei,q0,q6];obtain⟨dn,XV⟩: ∃u:Nat,q.dst=u:=⟨q.dst.toNat,by omega⟩;refine aQ.call (V:=fun _ hh=>Gr h0 hz S d m n nb name p r B AH CY FY jZ h3 hh) (by simpa [XV] using Fk w3 (k:=dn) (by omega) (Bf w3.fk v)) ?_;rintro u4 h4 ⟨g4,YG,gs4,Hp,w4,a4⟩;simp[Yb,wj];refine⟨ps.length-(j+1),by omega,j+1,rfl,by omega,?_,by simp,(g.trans (g2.trans g3).bt).trans g4,YG,gs4,Hp,w4,a1.trans a4⟩
   repeat (refine aw.set ?_)
   exact K
  .simp[tS] at lk;simp[q0,q1,q6,q35,Ya,Yb,aS,r1,nh,hm,lk,jY,-ag,aq nh,aq xX,ay,oS,oX,wj];refine⟨ps.length-(j+1),by omega,j+1,rfl,by omega,?_,by simp,g,CY,FY,jZ,w1,a1⟩
   repeat (refine aw.set ?_)
   exact K
 .have:j=ps.length:=by omega
  subst this;simp[Ya,Yb];exact C _ _ (K.set) ⟨g,CY,FY,jZ,w1,a1⟩
end
section
variable {h0 hz:ae} {S d m n nb:Nat} {name:ByteArray} {p r:Int} {B AH:SV}
def SpL:List Nat:=[6]++[7,8,25,26,27,28,29,30,31,32,33,34,35,36,37,38,39,40,41,42,43,44,45,46,47,48,49,50,51,52,53,54,55,56,57,58,59,60,61,62]
def SpI (h0 hz:ae) (S d m n nb:Nat) (name:ByteArray) (p r:Int) (B AH:SV) (fx gs:List (Int×Int)) (aV:Bool) (h:ae) (L:List Nat) (t k:Nat) (e:Env) (mm:Nat) (e':Env) (h':ae):Prop:=
 ∃j:Nat,mm=k-j/\j<=k/\aw L e e'/\Env.get e' t= .int .i64 j/\Gr h0 hz S d m n nb name p r B AH fx gs aV h h'
theorem SM {fx gs:List (Int×Int)} (jG:bu h0) (w:St h0 hz h S d m n nb name p r B AH fx gs aV) (Bh:AhS hz d m AH ws ah) (gM:ah[b]? =some ps) (va:ps.length<1000000) (Ha: ∀x∈ps,0<=x/\x<nb)
  {P:SV} {te:List GP} (hP:SliceR (pR h0) 2 h0 P.v te) (hphl:te.length<1000000) (cN: ∀q∈te,(0<=q.dst/\q.dst<n)/\q.row.length=ps.length/\ ∀v∈q.row,gK n v)
  {e:Env} {Q:aP->Env->ae->Prop} (f0:Env.get e 0= .pointer (some ⟨S,0,none⟩)) (f1:Env.get e 1= .int .i64 b) (f23:Env.get e 23=P.v) (f24:Env.get e 24= .int .i64 te.length) (f25:Env.get e 25= .int .i64 0)
  (C: ∀e' h',aw SpL e e'->Gr h0 hz S d m n nb name p r B AH fx gs aV h h'->Q (.exit 0) e' h'):aB FF (.loop iX) e h Q:=by
 have jl:=SliceR.len hP;have UR:=SliceR.len (Bh.sl h w.gy);have pc:b<ws.length:=by rw[Bh.len];exact(bY.mp gM).1
 obtain⟨W,hW⟩: ∃W,ws[b]? =some W:=⟨_,aX pc⟩;refine aB.loop (SpI h0 hz S d m n nb name p r B AH fx gs aV h SpL 25 te.length e) ?_ (n:=te.length) ⟨0,rfl,by omega,aw.refl _ _,f25,.refl w⟩;rintro mm e' h' ⟨j,rfl,hj,K,Sc,g,CY,FY,jZ,w1,a1⟩;have q0:=K.at f0;have q1:=K.at f1;have Qf:=K.at f23;have Gl:=K.at f24;have ok:=w1.g.ok;unfold iX;by_cases aS:j<te.length
 .have wj:=wrap_i64 ((j:Int)+1) (by omega) (by omega);obtain⟨q,hq⟩: ∃q,te[j]? =some q:=⟨_,aX aS⟩;obtain⟨hqd,K0,hqv⟩:=cN q (dk hq);obtain⟨b1,EF,c1,oZ,_,_,⟨A,rfl,sA⟩,_,qL⟩:=SliceR.later jG hP hq;have r1:=qL h' w1.g 0 2 (by decide);simp[-ag] at r1 Qf;rw[oZ,jl] at Qf;obtain⟨b2,Ot,c2,UQ,_,_,rfl,ob2,xZ⟩:=SliceR.later ok (Bh.sl h' w1.gy) hW;have sW: ∀h1,ab (DM d m) hz h1->SliceR nR 1 h1 W.v ps:=fun h1 g1=>Bh.row h1 g1 b W ps hW gM;obtain⟨s1,hS⟩:=w1.hS;have nh:=hS;simp[cu] at nh;rw[UQ,UR] at nh;have oS:=ok.bA hS;have lS:=oS.lt;have r2:=xZ h' (ab.refl ok) 0 1 (by decide);simp[-ag] at r2;have NK:=SliceR.len (sW h' w1.gy);simp[q0,q1,Qf,Gl,Sc,aS,r1,r2,pc,-ag,aq nh,bg,aI,av,oS,ob2];refine aB.cut (fun h2=>ab aG h' h2/\ ∃s,h2.tr.get h'.next=some (.aA [.int .i64 q.dst,.slice A.a A.l A.c] false 0 s)) ?_ ?_
  .exact⟨(ab.refl ok).var _ _,h'.clock,by simp[aJ]⟩
  rintro h2 ⟨g2,sX,dS⟩;have w2:=w1.grow g2;have lX:=g2.ok.wf _ _ dS;have nX: ¬HN S d m h'.next:=by obtain⟨s2,hd⟩:=w1.hd;have:=ok.wf _ _ hd;have:=ok.wf _ _ w1.hm;rintro(e|e|e)<;>omega
  refine Xn jG w2 (b:=b) (W:=W) (A:=A) (ps:=ps) sW Ha va (q:=q) sA hqd hqv K0 dS nX (by simp[q0]) (by simp[q1]) (by simp) (by simp) (by simp[NK]) (by simp) ?_;rintro e3 h3 K3 ⟨g3,fx3,gs3,P5,w3,a3⟩;have k25:=K3.at (t:=25) (by simp;exact Sc);simp[k25,wj];refine⟨te.length-(j+1),by omega,j+1,rfl,aS,?_,by simp,(g.trans g2.bt).trans g3,fx3,gs3,P5,w3,a1.trans a3⟩;refine aw.set (aw.set (aw.trans ?_ (K3.bJ)))
  repeat (refine aw.set ?_)
  exact K
 .have:j=te.length:=by omega
  subst this;simp[Gl,Sc];exact C _ _ (K.set) ⟨g,CY,FY,jZ,w1,a1⟩
def SlL:List Nat:=[10,66,67,68,69,70,71,72,73,74,75,76,77,78,79,80]
theorem SL {fx gs:List (Int×Int)} (jG:bu h0) (w:St h0 hz h S d m n nb name p r B AH fx gs aV) {xs:List GI} (hL:SliceR (iR h0) 8 h0 L.v xs) (uv:xs.length<1000000) (cN: ∀x∈xs,x.dst<n/\gK n x.a/\gK n x.b)
  {e:Env} {Q:aP->Env->ae->Prop} (f0:Env.get e 0= .pointer (some ⟨S,0,none⟩)) (f64:Env.get e 64=L.v) (f65:Env.get e 65= .int .i64 xs.length) (f66:Env.get e 66= .int .i64 0)
  (C: ∀e' h',aw SlL e e'->Gr h0 hz S d m n nb name p r B AH fx gs aV h h'->Q (.exit 4) e' h'):aB FF (.loop iV) e h Q:=by
 have tB:=SliceR.len hL;refine aB.loop (SpI h0 hz S d m n nb name p r B AH fx gs aV h SlL 66 xs.length e) ?_ (n:=xs.length) ⟨0,rfl,by omega,aw.refl _ _,f66,.refl w⟩;rintro mm e' h' ⟨j,rfl,hj,K,q66,g,CY,FY,jZ,w1,a1⟩;have q0:=K.at f0;have Sg:=K.at f64;have q65:=K.at f65;have ok:=w1.g.ok;unfold iV;by_cases aS:j<xs.length
 .have wj:=wrap_i64 ((j:Int)+1) (by omega) (by omega);obtain⟨x,hx⟩: ∃q,xs[j]? =some q:=⟨_,aX aS⟩;obtain⟨hxd,Tv,Ge⟩:=cN x (dk hx);obtain⟨b1,EF,c1,UW,_,_,⟨A,rfl,sA⟩,_,qL⟩:=SliceR.later jG hL hx;have r1:=qL h' w1.g 0 8 (by decide);simp[-ag,aC] at r1;simp at Sg;rw[UW,tB] at Sg;by_cases U8:0<=x.dst
  .obtain⟨dn,XV⟩: ∃u:Nat,x.dst=u:=⟨x.dst.toNat,by omega⟩;rw[XV] at r1;have U9:(0:Int)<=(dn:Int):=by omega
   simp[q0,Sg,q65,q66,aS,r1,U9,-ag,av,ay];refine aQ.cut (fun h2=>ab aG h' h2/\ ∃s,s<=h'.clock+1/\h2.tr.get h'.next=some (.aA [.int .i64 x.op,.int .i64 dn,.bool x.a.1,.int .i64 x.a.2,.bool x.b.1,.int .i64 x.b.2,.int .i64 x.fn,.slice A.a A.l A.c] false 0 s)) ?_ ?_
   .exact⟨((ab.refl ok).var _ _).tick,h'.clock,Nat.le_succ _,by simp[aJ]⟩
   rintro h2 ⟨g2,sX,hsX,dS⟩;have w2:=w1.grow g2;refine aQ.call (V:=aaj h2) (by simpa [mi,aC,XV] using Oi (x:=x) (A:=A) g2.ok w2.sv w2.fk Tv Ge) ?_;rintro _ h3 ⟨g3,y,rfl,hy⟩;have w3:=w2.grow g3;have fK:=g3.get g2.ok dS (fun h=>h);simp[fK,hsX,q0];refine aQ.call (V:=fun _ hh=>Gr h0 hz S d m n nb name p r B AH CY FY jZ h3 hh) (by simpa using Fk w3 (k:=dn) (by omega) hy) ?_;rintro u4 h4 ⟨g4,YG,gs4,Hp,w4,a4⟩;simp[q66,wj];refine⟨xs.length-(j+1),by omega,j+1,rfl,by omega,?_,by simp,(g.trans (g2.trans g3).bt).trans g4,YG,gs4,Hp,w4,a1.trans a4⟩
   repeat (refine aw.set ?_)
   exact K
  .simp[q0,Sg,q65,q66,aS,r1,U8,-ag,av,wj];refine⟨xs.length-(j+1),by omega,j+1,rfl,by omega,?_,by simp,?_⟩
   .repeat (refine aw.set ?_)
    exact K
   .have g2:=(ab.refl ok).var [.int .i64 0,.int .i64 0,.bool false,.int .i64 0,.bool false,.int .i64 0,.int .i64 0,.slice none 0 0] [.int .i64 x.op,.int .i64 x.dst,.bool x.a.1,.int .i64 x.a.2,.bool x.b.1,.int .i64 x.b.2,.int .i64 x.fn,.slice A.a A.l A.c] (S:=aG);exact⟨g.trans g2.bt,CY,FY,jZ,w1.grow g2,a1⟩
 .have:j=xs.length:=by omega
  subst this;simp[q65,q66];exact C _ _ (K.set) ⟨g,CY,FY,jZ,w1,a1⟩
end
def SeO:List Nat:=(List.range 22).map (· +95)
theorem ad_ {e:Env} {X N s1 s2 j:Nat} {kind k nn:Int} {P L T:SV} {on:Bool×Int} {Q:aP->Env->ae->Prop} (hX:h.tr.get X=some (.aA [P.v,L.v,.int .i64 kind,.bool on.1,.int .i64 on.2,T.v] false 0 s1)) (hN:h.tr.get N=some (.aA [.int .i64 k,.int .i64 nn] false 0 s2))
  (f4:Env.get e 4= .pointer (some ⟨X,0,none⟩)) (f11:Env.get e 11= .pointer (some ⟨N,0,none⟩)) (f12:Env.get e 12= .int .i64 j)
  (H: ∀e' t,aw SeO e e'->Env.get e' 116= .bool t->Q .normal e' h):aB FF Xg e h Q:=by
 have lM:=hX;simp at lM;unfold Xg;by_cases c1:kind=2
 .subst c1;simp[f4,f11,f12,-ag,aq lM,aq hN];refine H _ true ?_ (by simp)
  repeat (refine aw.set ?_)
  exact aw.refl _ _
 have Uf:(kind==2)=false:=gO c1;by_cases c2:k=2
 .subst c2;simp[f4,f11,f12,-ag,aq lM,aq hN,c1,Uf];refine H _ true ?_ (by simp)
  repeat (refine aw.set ?_)
  exact aw.refl _ _
 have c2':(k==2)=false:=gO c2;by_cases c3:k=1
 .subst c3;have c4: ∃t:Bool,t=(nn !=0):=⟨_,rfl⟩;have c5: ∃t:Bool,t=((j:Int)==0):=⟨_,rfl⟩;obtain⟨t4,h4⟩:=c4;obtain⟨t5,h5⟩:=c5;simp[f4,f11,f12,-ag,aq lM,aq hN,c1,Uf,gE,dI];refine H _ ((nn !=0)==((j:Int)==0)) ?_ (by simp)
  repeat (refine aw.set ?_)
  exact aw.refl _ _
 .have c3':(k==1)=false:=gO c3;simp[f4,f11,f12,-ag,aq lM,aq hN,c1,Uf,c2,c2',c3,c3'];refine H _ false ?_ (by simp)
  repeat (refine aw.set ?_)
  exact aw.refl _ _
section
variable {h0 hz:ae} {S d m n nb:Nat} {name:ByteArray} {p r:Int} {B AH:SV}
def SeL:List Nat:=[12,13]++(List.range 32).map (· +90)
theorem SK {fx gs:List (Int×Int)} (jG:bu h0) (w:St h0 hz h S d m n nb name p r B AH fx gs aV) {ts:List Int} (hT:SliceR nR 1 h0 T.v ts) (pK:ts.length<1000000) (cN: ∀t∈ts,0<=t/\t<nb) (hb:b<nb)
  {X N s1 s2:Nat} {P' L' T':SV} {kind k nn:Int} {on:Bool×Int} (hX:h.tr.get X=some (.aA [P'.v,L'.v,.int .i64 kind,.bool on.1,.int .i64 on.2,T'.v] false 0 s1)) (nX: ¬HN S d m X) (hN:h.tr.get N=some (.aA [.int .i64 k,.int .i64 nn] false 0 s2)) (nN: ¬HN S d m N)
  {e:Env} {Q:aP->Env->ae->Prop} (f0:Env.get e 0= .pointer (some ⟨S,0,none⟩)) (f1:Env.get e 1= .int .i64 b) (f4:Env.get e 4= .pointer (some ⟨X,0,none⟩)) (f11:Env.get e 11= .pointer (some ⟨N,0,none⟩)) (f88:Env.get e 88=T.v) (f89:Env.get e 89= .int .i64 ts.length) (f90:Env.get e 90= .int .i64 0)
  (C: ∀e' h',aw SeL e e'->Gr h0 hz S d m n nb name p r B AH fx gs aV h h'->Q (.exit 6) e' h'):aB FF (.loop iU) e h Q:=by
 have tC:=SliceR.len hT;refine aB.loop (SpI h0 hz S d m n nb name p r B AH fx gs aV h SeL 90 ts.length e) ?_ (n:=ts.length) ⟨0,rfl,by omega,aw.refl _ _,f90,.refl w⟩;rintro mm e' h' ⟨j,rfl,hj,K,q90,g,CY,FY,jZ,w1,a1⟩;have q0:=K.at f0;have q1:=K.at f1;have q4:=K.at f4;have mE:=K.at f11;have q88:=K.at f88;have q89:=K.at f89;have ok:=w1.g.ok;have mL:=g.get w.g.ok hX nX;have hN1:=g.get w.g.ok hN nN;unfold iU;by_cases aS:j<ts.length
 .have wj:=wrap_i64 ((j:Int)+1) (by omega) (by omega);obtain⟨to,ht⟩: ∃q,ts[j]? =some q:=⟨_,aX aS⟩;have Ej:=cN to (dk ht);obtain⟨b1,EF,c1,Bi,_,_,rfl,_,qL⟩:=SliceR.later jG hT ht;have r1:=qL h' w1.g 0 1 (by decide);simp[-ag] at r1;simp at q88;rw[Bi,tC] at q88;simp[q88,q89,q90,aS,r1,-ag];refine ad_ mL hN1 (j:=j) (by simp[q4]) (by simp[mE]) (by simp) ?_;intro e2 t K2 ahZ;have X7:Env.get e2 13= .int .i64 to:=K2.at (t:=13) (by simp);have k0:=K2.at (t:=0) (by simp;exact q0);have k1:=K2.at (t:=1) (by simp;exact q1);have k90:=K2.at (t:=90) (by simp;exact q90);cases t with
  |true=>
   simp[k0,k1,X7,ahZ];refine aE.call (V:=fun _ hh=>Gr h0 hz S d m n nb name p r B AH CY FY jZ h' hh) (by simpa using QV w1 (a:=b) (to:=to) (by omega) Ej) ?_;rintro u4 h4 ⟨g4,YG,gs4,Hp,w4,a4⟩;simp[k90,wj];refine⟨ts.length-(j+1),by omega,j+1,rfl,by omega,?_,by simp,g.trans g4,YG,gs4,Hp,w4,a1.trans a4⟩;refine aw.set (aw.set (aw.set (aw.set (aw.set (aw.set (aw.trans ?_ (K2.bJ)))))))
   repeat (refine aw.set ?_)
   exact K
  |false=>
   simp[k0,k1,X7,ahZ,k90,wj];refine⟨ts.length-(j+1),by omega,j+1,rfl,by omega,?_,by simp,g,CY,FY,jZ,w1,a1⟩;refine aw.set (aw.set (aw.trans ?_ (K2.bJ)))
   repeat (refine aw.set ?_)
   exact K
 .have:j=ts.length:=by omega
  subst this;simp[q89,q90];exact C _ _ (K.set) ⟨g,CY,FY,jZ,w1,a1⟩
end
section
variable {h0 hz:ae} {S d m n nb:Nat} {name:ByteArray} {p r:Int} {B AH:SV}
structure Dt (n:Nat) (ah:List (List Int)) (bs:List GB):Prop where
 len:bs.length<=1000
 ahl:ah.length=bs.length
 row: ∀(i:Nat) (ps:List Int),ah[i]? =some ps->ps.length<1000000/\ ∀x∈ps,0<=x/\x<bs.length
 ph: ∀(i:Nat) (b:GB) (ps:List Int),bs[i]? =some b->ah[i]? =some ps->b.eS.length<1000000/\ ∀q∈b.eS,(0<=q.dst/\q.dst<n)/\q.row.length=ps.length/\ ∀v∈q.row,gK n v
 li: ∀b∈bs,b.list.length<1000000/\ ∀x∈b.list,x.dst<n/\gK n x.a/\gK n x.b
 on: ∀b∈bs,gK n b.on
 to: ∀b∈bs,b.to.length<1000000/\ ∀t∈b.to,0<=t/\t<bs.length
theorem SJ {fx gs:List (Int×Int)} (jG:bu h0) (w:St h0 hz h S d m n nb name p r B AH fx gs aV) (hB:AU h0 B bs) (iz:bs.length=nb) (Bh:AhS hz d m AH ws ah) (I:Dt n ah bs) (hb:b<nb):
  aF FF pQ [.pointer (some ⟨S,0,none⟩),.int .i64 b] h (fun _ h'=>Gr h0 hz S d m n nb name p r B AH fx gs aV h h'):=by
 have ok:=w.g.ok;have ew:=SliceR.len hB;obtain⟨x,hx⟩: ∃x,bs[b]? =some x:=⟨_,aX (by omega)⟩;obtain⟨ps,gM⟩: ∃x,ah[b]? =some x:=⟨_,aX (by rw[I.ahl];omega)⟩;have MG:=dk hx;obtain⟨rl,rp⟩:=I.row b ps gM;obtain⟨pl,pq⟩:=I.ph b x ps hx gM;obtain⟨ll,lq⟩:=I.li x MG;obtain⟨tl,tq⟩:=I.to x MG;obtain⟨b1,EF,c1,ig,_,_,⟨P,L,T,rfl,sP,sL,sT⟩,o1,qL⟩:=SliceR.later jG hB hx;have r1:=qL h w.g 0 6 (by decide);simp[-ag] at r1;have jl:=SliceR.len sP;have tB:=SliceR.len sL;have tC:=SliceR.len sT;obtain⟨s1,hS⟩:=w.hS;have nh:=hS;simp[cu] at nh;rw[ig,ew] at nh;have pc:b<bs.length:=by omega
 refine aF.of xN ?_;unfold pD;simp[nh,pc,r1,-ag,aq nh,av];refine aB.cut (fun h2=>ab aG h h2/\ ∃s,h2.tr.get h.next=some (.aA [P.v,L.v,.int .i64 x.kind,.bool x.on.1,.int .i64 x.on.2,T.v] false 0 s)) ?_ ?_
 .exact⟨(ab.refl ok).var _ _,h.clock,by simp[aJ]⟩
 rintro h2 ⟨g2,sX,dS⟩;have w2:=w.grow g2;have lX:=g2.ok.wf _ _ dS;have nX: ¬HN S d m h.next:=by obtain⟨s2,hd⟩:=w.hd;have:=ok.wf _ _ hd;have:=ok.wf _ _ w.hm;have:=ok.wf _ _ hS;rintro(e|e|e)<;>omega
 refine SM jG w2 Bh gM rl (by rw[<-iz];exact rp) sP pl pq (by simp) (by simp) (by simp) (by simp[jl]) (by simp) ?_;rintro e3 h3 K3 ⟨g3,fx3,gs3,P5,w3,a3⟩;have k0:Env.get e3 0= .pointer (some ⟨S,0,none⟩):=K3.at (t:=0) (by simp);have k1:Env.get e3 1= .int .i64 b:=K3.at (t:=1) (by simp);have k4:Env.get e3 4= .pointer (some ⟨h.next,0,none⟩):=K3.at (t:=4) (by simp);have fK:=g3.get g2.ok dS nX;have zW:=fK;simp at zW;simp[k4,zW,-ag,aq zW];refine SL jG w3 sL ll lq (by simp[k0]) (by simp) (by simp[tB]) (by simp) ?_;rintro e4 h4 K4 ⟨g4,YG,gs4,Hp,w4,a4⟩;have m0:Env.get e4 0= .pointer (some ⟨S,0,none⟩):=K4.at (t:=0) (by simp[k0]);have m1:Env.get e4 1= .int .i64 b:=K4.at (t:=1) (by simp[k1]);have m4:Env.get e4 4= .pointer (some ⟨h.next,0,none⟩):=K4.at (t:=4) (by simp[k4]);have tR:=g4.get g3.ok fK nX;have D6:=tR;simp at D6;simp[m0,m1,m4,D6,-ag,aq D6];refine aE.call (V:=fun u hh=>u=bE (jy YG x.on)/\ab aG h4 hh) (by simpa using Aw w4.g.ok w4.sv (I.on x MG)) ?_;rintro _ h5 ⟨rfl,g5⟩;have w5:=w4.grow g5;have rV:=g5.get w4.g.ok tR (fun h=>h);have acg:=rV;simp at acg;generalize jy YG x.on=y;obtain⟨y1,y2⟩:=y;have oX5:=g5.ok.bA rV;have nX5: ¬h.next=h5.next:=by have:=oX5.lt;omega
 simp[bE,m0,m1,m4,acg,nX5,-ag,aq acg,bg,aI,oX5];refine aB.cut (fun h6=>ab aG h5 h6/\ ∃s,h6.tr.get h5.next=some (.aA [.int .i64 y1,.int .i64 y2] false 0 s)) ?_ ?_
 .exact⟨(ab.refl g5.ok).var _ _,h5.clock,by simp[aJ]⟩
 rintro h6 ⟨g6,sN,hN6⟩;have w6:=w5.grow g6;have nN: ¬HN S d m h5.next:=by obtain⟨s2,hd⟩:=w5.hd;obtain⟨s3,hS5⟩:=w5.hS;have:=w5.g.ok.wf _ _ hd;have:=w5.g.ok.wf _ _ w5.hm;have:=w5.g.ok.wf _ _ hS5;rintro(e|e|e)<;>omega
 have yp:=g6.get g5.ok rV (fun h=>h);refine SK jG w6 sT tl (by rw[<-iz];exact tq) hb yp nX hN6 nN (by simp[m0]) (by simp[m1]) (by simp[m4]) (by simp) (by simp) (by simp[tC]) (by simp) ?_;rintro e7 h7 K7 ⟨g7,fx7,gs7,ah4,w7,a7⟩;simp;exact⟨(((g2.bt.trans g3).trans g4).trans (g5.trans g6).bt).trans g7,fx7,gs7,ah4,w7,((a3.trans a4).trans a7)⟩
end
section
variable {h0 hz:ae} {S d m n nb:Nat} {name:ByteArray} {p r:Int} {B AH:SV}
theorem St.ao7 {fx gs:List (Int×Int)} (w:St h0 hz h S d m n nb name p r B AH fx gs aV) {k:Nat} {y:Int×Int} (hk:k<n) (hy:kN y):
  ab (HN S d m) h (put h d (k*2) (jt.flat fx) [.int .i64 y.1,.int .i64 y.2] 0)/\St h0 hz (put h d (k*2) (jt.flat fx) [.int .i64 y.1,.int .i64 y.2] 0) S d m n nb name p r B AH (fx.set k y) gs aV:=by
 have ok:=w.g.ok;obtain⟨s1,hS⟩:=w.hS;obtain⟨s2,hd⟩:=w.hd;have sp:=AL fx k y (by rw[w.fl];exact hk);obtain⟨n1,n2,n3⟩:=w.ne;have g2:=(ab.refl ok).put (S:=HN S d m) (off:=k*2) (vs:=[.int .i64 y.1,.int .i64 y.2]) ⟨_,hd⟩ (.inr (.inr (.inl rfl)));refine⟨g2,⟨w.g.trans' g2 (fun _ _ h=>h) (fun x hx e=> ?_),w.gy.trans' g2 (fun _ _ h=>h) (fun x hx e=> ?_),w.Zt,w.nS,w.nd,w.nm,⟨s1,by rw[eV,aT n1,hS]⟩,⟨h.clock,by rw[eV,aU rfl,sp]⟩,by rw[eV,aT (fun e=>n3 e.symm),w.hm],by simp[w.fl],fun x hx=> ?_,w.gi,w.ne⟩⟩
 .have:=w.nS;have:=w.nd;have:=w.nm
  rcases e with e|e|e<;>omega
 .have:=w.Zt;rcases e with e|e|e
  .omega
  .exact .inl e
  .exact .inr e
 .rcases KG hx with h|h
  .exact w.fk x h
  .rw[h];exact hy
theorem St.aij {fx gs:List (Int×Int)} (w:St h0 hz h S d m n nb name p r B AH fx gs aV) (v:Bool):
  ab (HN S d m) h (put h S 7 (cu name p r B AH d n m aV) [.bool v] 0)/\St h0 hz (put h S 7 (cu name p r B AH d n m aV) [.bool v] 0) S d m n nb name p r B AH fx gs v:=by
 have ok:=w.g.ok;obtain⟨s1,hS⟩:=w.hS;obtain⟨s2,hd⟩:=w.hd;obtain⟨n1,n2,n3⟩:=w.ne;have g2:=(ab.refl ok).put (S:=HN S d m) (off:=7) (vs:=[.bool v]) ⟨s1,hS⟩ (.inr (.inl rfl));refine⟨g2,⟨w.g.trans' g2 (fun _ _ h=>h) (fun x hx e=> ?_),w.gy.trans' g2 (fun _ _ h=>h) (fun x hx e=> ?_),w.Zt,w.nS,w.nd,w.nm,⟨h.clock,by simp[cu]⟩,⟨s2,by rw[eV,aT (fun e=>n1 e.symm),hd]⟩,by rw[eV,aT (fun e=>n2 e.symm),w.hm],w.fl,w.fk,w.gi,w.ne⟩⟩
 .have:=w.nS;have:=w.nd;have:=w.nm
  rcases e with e|e|e<;>omega
 .have:=w.Zt;rcases e with e|e|e
  .omega
  .exact .inl e
  .exact .inr e
def afq:List Nat:=[4,17,18,19,20,21,22,23,24,25,26,27]
def akZ (h0 hz:ae) (S d m n nb:Nat) (name:ByteArray) (p r:Int) (B AH:SV) (gs:List (Int×Int)) (aV:Bool) (h:ae) (k:Nat) (e:Env) (mm:Nat) (e':Env) (h':ae):Prop:=
 ∃(j:Nat) (fx:List (Int×Int)),mm=k-j/\j<=k/\aw afq e e'/\Env.get e' 17= .int .i64 j/\ab (HN S d m) h h'/\St h0 hz h' S d m n nb name p r B AH fx gs aV
theorem JH {fx gs:List (Int×Int)} (w:St h0 hz h S d m n nb name p r B AH fx gs aV) (hP:P<=n) (hn:n<=1000000)
  {e:Env} {Q:aP->Env->ae->Prop} (f3:Env.get e 3= .pointer (some ⟨S,0,none⟩)) (f16:Env.get e 16= .int .i64 P) (f17:Env.get e 17= .int .i64 0)
  (C: ∀e' h' YF,aw afq e e'->ab (HN S d m) h h'->St h0 hz h' S d m n nb name p r B AH YF gs aV->Q (.exit 0) e' h'):aB FF (.loop nu) e h Q:=by
 refine aB.loop (akZ h0 hz S d m n nb name p r B AH gs aV h P e) ?_ (n:=P) ⟨0,fx,rfl,by omega,aw.refl _ _,f17,.refl w.g.ok,w⟩;rintro mm e' h' ⟨j,CY,rfl,hj,K,q17,g,w1⟩;have q3:=K.at f3;have Gk:=K.at f16;unfold nu;by_cases aS:j<P
 .have wj:=wrap_i64 ((j:Int)+1) (by omega) (by omega);obtain⟨s1,hS⟩:=w1.hS;obtain⟨s2,hd⟩:=w1.hd;have nh:=hS;simp[cu] at nh;have Eb:j<n:=by omega
  have eH:j*2+2<=CY.length*2:=by have:=w1.fl;omega
  simp[q3,Gk,q17,aS,nh,Eb,hd,eH,wj];have W:=w1.ao7 (k:=j) (y:=(2,0)) Eb (.inr (.inr rfl));refine⟨P-(j+1),by omega,j+1,CY.set j (2,0),rfl,aS,?_,by simp,g.trans W.1,W.2⟩
  repeat (refine aw.set ?_)
  exact K
 .have:j=P:=by omega
  subst this;simp[Gk,q17];exact C _ _ CY (K.set) g w1
def afo:List Nat:=[5,41,42,43,44,45,46,47,48,49,50]
def akX (h0 hz:ae) (S d m n nb:Nat) (name:ByteArray) (p r:Int) (B AH:SV) (fx gs:List (Int×Int)) (aV:Bool) (h:ae) (e:Env) (mm:Nat) (e':Env) (h':ae):Prop:=
 ∃j:Nat,mm=nb-j/\j<=nb/\aw afo e e'/\Env.get e' 41= .int .i64 j/\Gr h0 hz S d m n nb name p r B AH fx gs aV h h'
theorem JG {fx gs:List (Int×Int)} (jG:bu h0) (w:St h0 hz h S d m n nb name p r B AH fx gs aV) (hB:AU h0 B bs) (iz:bs.length=nb) (Bh:AhS hz d m AH ws ah) (I:Dt n ah bs)
  {e:Env} {Q:aP->Env->ae->Prop} (f3:Env.get e 3= .pointer (some ⟨S,0,none⟩)) (f40:Env.get e 40= .int .i64 nb) (f41:Env.get e 41= .int .i64 0)
  (C: ∀e' h',aw afo e e'->Gr h0 hz S d m n nb name p r B AH fx gs aV h h'->Q (.exit 4) e' h'):aB FF (.loop nr) e h Q:=by
 have il:=I.len;refine aB.loop (akX h0 hz S d m n nb name p r B AH fx gs aV h e) ?_ (n:=nb) ⟨0,rfl,by omega,aw.refl _ _,f41,.refl w⟩;rintro mm e' h' ⟨j,rfl,hj,K,q41,g,CY,FY,jZ,w1,a1⟩;have q3:=K.at f3;have WL:=K.at f40;unfold nr;by_cases aS:j<nb
 .have wj:=wrap_i64 ((j:Int)+1) (by omega) (by omega);obtain⟨ps,gM⟩: ∃x,ah[j]? =some x:=⟨_,aX (by rw[I.ahl];omega)⟩;simp[q3,WL,q41,aS];refine aE.call (V:=vO h') (by simpa using QI w1 Bh gM (I.row j ps gM).1) ?_;rintro _ h2 ⟨g2,c,rfl⟩;have w2:=w1.grow g2;cases c with
  |false=>
   simp[q41,wj];refine⟨nb-(j+1),by omega,j+1,rfl,aS,?_,by simp,g.trans g2.bt,CY,FY,jZ,w2,a1⟩
   repeat (refine aw.set ?_)
   exact K
  |true=>
   simp[q3];refine aE.call (V:=fun _ hh=>Gr h0 hz S d m n nb name p r B AH CY FY jZ h2 hh) (by simpa using SJ jG w2 hB iz Bh I aS) ?_;rintro u3 h3 ⟨g3,fx3,gs3,P5,w3,a3⟩;simp[q41,wj];refine⟨nb-(j+1),by omega,j+1,rfl,aS,?_,by simp,(g.trans g2.bt).trans g3,fx3,gs3,P5,w3,a1.trans a3⟩
   repeat (refine aw.set ?_)
   exact K
 .have:j=nb:=by omega
  subst this;simp[WL,q41];exact C _ _ (K.set) ⟨g,CY,FY,jZ,w1,a1⟩
def afp:List Nat:=[5,31,32,33,34,35,36,37,38,39,40,41,42,43,44,45,46,47,48,49,50]
def akY (h0 hz:ae) (S d m n nb:Nat) (name:ByteArray) (p r:Int) (B AH:SV) (h:ae) (e:Env) (mm:Nat) (e':Env) (h':ae):Prop:=
 ∃(fx gs:List (Int×Int)) (aV:Bool),mm=2*Sa (nb*nb) fx gs+aV.toNat/\aw afp e e'/\ab (HN S d m) h h'/\St h0 hz h' S d m n nb name p r B AH fx gs aV
theorem OR {fx gs:List (Int×Int)} (jG:bu h0) (w:St h0 hz h S d m n nb name p r B AH fx gs aV) (hB:AU h0 B bs) (iz:bs.length=nb) (Bh:AhS hz d m AH ws ah) (I:Dt n ah bs)
  {X sX:Nat} (hX:h.tr.get X=some (.aA (au name p r B) false 0 sX)) (nX: ¬HN S d m X)
  {e:Env} {Q:aP->Env->ae->Prop} (f1:Env.get e 1= .pointer (some ⟨X,0,none⟩)) (f3:Env.get e 3= .pointer (some ⟨S,0,none⟩))
  (C: ∀e' h' YF gs' yr,aw afp e e'->ab (HN S d m) h h'->St h0 hz h' S d m n nb name p r B AH YF gs' yr->Q (.exit 2) e' h'):aB FF (.loop nt) e h Q:=by
 have ew:=SliceR.len hB;refine aB.loop (akY h0 hz S d m n nb name p r B AH h e) ?_ (n:=2*Sa (nb*nb) fx gs+aV.toNat) ⟨fx,gs,aV,rfl,aw.refl _ _,.refl w.g.ok,w⟩;rintro mm e' h' ⟨CY,FY,jZ,rfl,K,g,w1⟩;have q1:=K.at f1;have q3:=K.at f3;have ok:=w1.g.ok;obtain⟨s1,hS⟩:=w1.hS;have nh:=hS;simp[cu] at nh;have mL:=g.get w.g.ok hX nX;simp[au] at mL;have nSX: ¬X=S:=fun e=>nX (.inl e);unfold nt;cases jZ with
 |false=>
  simp[q3,nh];refine C _ _ CY FY false ?_ g w1
  repeat (refine aw.set ?_)
  exact K
 |true=>
  have W:=w1.aij false;simp[q1,q3,nh,mL,nSX];simp only[cu] at W;have Wg:=W.1;have W2:=W.2;simp at Wg W2;refine JG jG W2 hB iz Bh I (by simp[q3]) (by simp[ew,iz]) (by simp) ?_;rintro e2 h2 K2 ⟨g2,fx2,gs2,Ho,w2,a2⟩;simp;refine⟨2*Sa (nb*nb) fx2 gs2+Ho.toNat,?_,fx2,gs2,Ho,rfl,?_,(g.trans Wg).trans g2,w2⟩
  .obtain⟨b1,b2,b3⟩:=a2;cases Ho with
   |false=>simp;omega
   |true=>
    have:=b2 rfl rfl;simp;omega
  .refine aw.trans ?_ (K2.bJ)
   repeat (refine aw.set ?_)
   exact K
theorem abD {n0 d8 c:Nat} {j4:List (List Int)} (ok:bu hz) (w:jm bp n0 hz d8 ws j4) (hd:d<n0) (hm:m<n0):AhS hz d m ⟨some ⟨d8,0,none⟩,j4.length,c⟩ ws j4:=by
 have W: ∀h1,ab (DM d m) hz h1->jm bp n0 h1 d8 ws j4:=fun h1 g=>w.grow ok g (fun b hb e=>by rcases e with e|e<;>omega);refine⟨w.len,fun h1 g=> ?_,fun h1 g i wi xs hw hx=> ?_⟩
 .obtain⟨s,hb⟩:=(W h1 g).aA;refine⟨_,c,by rw[w.len];rfl,.inr ⟨d8,0,_,_,_,_,rfl,hb,fun i wi hw=> ?_⟩⟩;have:=rS.lZ ws i wi hw;simp only[PD,Nat.mul_one] at this;rw[Bg,Nat.mul_one,this];exact⟨rfl,rfl⟩
 .have a:=(W h1 g).acc i wi xs hw hx;rcases a with⟨rfl,e⟩|⟨b,s',e,iy,pL,_⟩
  .rw[e];exact⟨none,0,rfl,.inl ⟨rfl,.inl rfl⟩⟩
  .rw[e];refine⟨_,_,rfl,.inr ⟨b,0,_,_,_,_,rfl,iy,fun k x hk=> ?_⟩⟩;have:=bp.lZ xs k x hk;simp only[Is,Nat.mul_one] at this;rw[Bg,Nat.mul_one,this];exact⟨rfl,rfl⟩
def T6 (h:ae) (n:Nat) (name:ByteArray) (p r:Int) (B:SV) (v:Value) (h':ae):Prop:=
 ab aG h h'/\ ∃(S d m:Nat) (AH:SV) (fx:List (Int×Int)),v= .pointer (some ⟨S,0,none⟩)/\h.next<=S/\h.next<=d/\Sv h' S d m n name p r B AH fx/\ ∀x∈fx,kN x
theorem OQ (ok:bu h) {name:ByteArray} {B:SV} (hB:AU h B bs) (E:jo bs) (I:Dt n (Edge.bw (bj bs)) bs) (hP:P<=n) (hn:n<=1000000):
  aF FF wQ [.agg ⟨au name P n B⟩] h (T6 h n name P n B):=by
 have r1:roomy n=true:=by simp[roomy];omega
 have r2:roomy (n*16)=true:=by simp[roomy];omega
 refine aF.of DK ?_;unfold vZ;simp[au,r1,r2];refine aQ.cut (fun h1=>ab aG h h1/\h1.next=h.next+3/\h1.tr.get h.next=some (.aA (au name P n B) false 0 0)/\h1.tr.get (h.next+1)=some (.aA (jt.flat (List.replicate n (0,0))) false 0 0)/\h1.tr.get (h.next+1+1)=some (.map [])) ?_ ?_
 .rw[Dg jt (z:=[.int .i64 0,.int .i64 0]) (0,0) rfl];refine⟨(((ab.refl ok).new _ _).tick.new _ _).trans (QX ((((ab.refl (S:=aG) ok).new _ _).tick.new _ _).ok) _ (fun _ _ _ _ e=>by cases e)),rfl,?_,?_,?_⟩
  .simp[ae.new,Tr.aN,au];omega
  .simp[ae.new,Tr.aN]
  .simp[ae.new,Tr.aN]
 rintro h1 ⟨g1,hn1,mL,Tj,PR⟩;refine aQ.call (V:=fun v h'=>ab aG h1 h'/\ ∃d ws,v= .slice (some ⟨d,0,none⟩) bs.length bs.length/\jm bp h1.next h' d ws (Edge.bw (bj bs))) (by simpa [au] using jA g1.ok (name:=name) (p:=P) (r:=n) (hB.mono ok g1) E) ?_;rintro _ h2 ⟨g2,d8,ws,rfl,acc⟩;have okz:=g2.ok;have C0:(Edge.bw (bj bs)).length=bs.length:=I.ahl;have Bh:AhS h2 (h.next+1) (h.next+1+1) ⟨some ⟨d8,0,none⟩,(Edge.bw (bj bs)).length,bs.length⟩ ws (Edge.bw (bj bs)):=abD okz acc (by omega) (by omega);have dS:=g2.get g1.ok mL (fun h=>h);have D9:=g2.get g1.ok Tj (fun h=>h);have hm2:=g2.get g1.ok PR (fun h=>h);have l2:=g2.next;simp[au] at dS;have iI:=g1.trans g2;have nX2: ¬h.next=h2.next:=by omega
 simp[dS,D9,hm2,nX2];refine aB.cut (fun h3=>ab aG h2 h3/\ ∃s,h3.tr.get h2.next=some (.aA (cu name P n B ⟨some ⟨d8,0,none⟩,bs.length,bs.length⟩ (h.next+1) n (h.next+1+1) false) false 0 s)) ?_ ?_
 .exact⟨(ab.refl okz).new _ _,0,by simp[cu]⟩
 rintro h3 ⟨g3,s3,hS3⟩;have w3:St h h2 h3 h2.next (h.next+1) (h.next+1+1) n bs.length name P n B ⟨some ⟨d8,0,none⟩,bs.length,bs.length⟩ (List.replicate n (0,0)) [] false:=
  ⟨iI.trans g3,g3.bt,dK _,by omega,by omega,by omega,⟨s3,hS3⟩,⟨0,g3.get okz D9 (fun h=>h)⟩,g3.get okz hm2 (fun h=>h),by simp,fun x hx=> .inl (List.mem_replicate.1 hx).2,⟨by simp,by simp⟩,by omega,by omega,by omega⟩
 rw[C0] at Bh;refine JH w3 hP hn (by simp) (by simp) (by simp) ?_;intro e4 h4 YG K4 g4 w4;have nX: ¬HN h2.next (h.next+1) (h.next+1+1) h.next:=by rintro(e|e|e)<;>omega
 have k3:Env.get e4 3= .pointer (some ⟨h2.next,0,none⟩):=K4.at (t:=3) (by simp);have k1:Env.get e4 1= .pointer (some ⟨h.next,0,none⟩):=K4.at (t:=1) (by simp);obtain⟨s4,hS4⟩:=w4.hS;have agr:=hS4;simp[cu] at agr;have tR:=g4.get g3.ok (g3.get okz dS (fun h=>h)) nX;have W:=w4.aij true;simp only[cu] at W;have Wg:=W.1;have W2:=W.2;simp at Wg W2;simp[k3,agr];refine OR ok W2 hB rfl Bh I (X:=h.next) (sX:=0) (by simpa [au] using Wg.get w4.g.ok tR nX) nX (by simp[k1]) (by simp[k3]) ?_;intro e5 h5 fx5 gs5 arK K5 g5 w5;have m3:Env.get e5 3= .pointer (some ⟨h2.next,0,none⟩):=K5.at (t:=3) (by simp[k3]);simp[m3];exact⟨w5.g,h2.next,h.next+1,h.next+1+1,_,fx5,rfl,by omega,by omega,w5.sv,w5.fk⟩
end
end Go.Proofs.YtdhnndleffachaaGreatDoor
namespace Go.AI.Edge
theorem Qs (f g:Nat->Nat) (b:Nat) (h: ∀i,i≠b->f i=g i): ∀n,((List.range n).map f).sum+(if b<n then g b else 0)=((List.range n).map g).sum+(if b<n then f b else 0)
 |0=>by simp
 |n+1=>by
  have ih:=Qs f g b h n;rw[List.range_succ,List.map_append,List.map_append,List.sum_append_nat,List.sum_append_nat];simp only[Fw,List.map_nil,Mu,List.sum_nil,ID];by_cases e:n=b
  .subst e;rw[aU (by omega),aU (by omega)];rw[aT (by omega),aT (by omega)] at ih;omega
  .have:=h n e;by_cases e2:b<n
   .rw[aU (by omega),aU (by omega)];rw[aU e2,aU e2] at ih;omega
   .rw[aT (by omega),aT (by omega)];rw[aT e2,aT e2] at ih;omega
def Nj (cT:List (List Int)) (b to:Nat):List (List Int):=cT.set b [(to:Int)]
theorem ZX {cT:List (List Int)} {b to oth:Nat} {ts:List Int} (hb:cT[b]? =some ts) (jT:ts=[(to:Int),(oth:Int)]\/ts=[(oth:Int),(to:Int)]) (k:Nat):
  (rowOf (Nj cT b to) k cT.length).length+(if k=oth then 1 else 0)=(rowOf cT k cT.length).length:=by
 have pc:=(bY.mp hb).1;rw[lI,lI];have h1:=Qs (fun i=>qg (Nj cT b to) k i) (fun i=>qg cT k i) b (fun i hi=>by unfold qg Nj;rw[eR,aT (Ne.symm hi)]) cT.length
 rw[aU pc,aU pc] at h1;have one: ∀x:Nat,([x].count k)=if k=x then 1 else 0:=by
  intro x;by_cases e:k=x
  .subst e;simp
  .rw[aT e,List.count_eq_zero];simpa using e
 have h2:qg (Nj cT b to) k b=if k=to then 1 else 0:=by unfold qg Nj;rw[eR,aU rfl,aU pc];show [((to:Int)).toNat].count k=_;rw[UI,one]
 have h3:qg cT k b=(if k=to then 1 else 0)+(if k=oth then 1 else 0):=by
  unfold qg;rw[hb];rcases jT with rfl|rfl
  .show([((to:Int)).toNat]++[((oth:Int)).toNat]).count k=_;rw[List.count_append,UI,UI,one,one]
  .show([((oth:Int)).toNat]++[((to:Int)).toNat]).count k=_;rw[List.count_append,UI,UI,one,one];omega
 omega
end Go.AI.Edge
namespace Go.Proofs.YtdhnndleffachaaGreatDoor
open Go.AI
variable {B:SV} {F ai i n0 sF:Nat} {az p rg:Int} {bs:List GB} {cap κ κ0:Nat->Nat} {h:ae} {name:ByteArray} {rb x:XR} {rs:List XR} {u:GU}
def Two (rs:List XR):Prop:= ∀r∈rs,r.kind=3-> ∃t u,r.ts=[t,u]/\t≠u
structure Dl (rs bH:List XR) (b to oth:Nat):Prop where
 len:bH.length=rs.length
 at_: ∀(k:Nat) (r r':XR),rs[k]? =some r->bH[k]? =some r'->r'.ls=r.ls/\r'.ps.length=r.ps.length/\(∀(i:Nat) (q q':Int×SV),r.ps[i]? =some q->r'.ps[i]? =some q'->q'.2.l+(if k=oth then 1 else 0)=q.2.l)/\(k=b->r'.kind=2/\r'.ts=[(to:Int)])/\(k≠b->r'.kind=r.kind/\r'.ts=r.ts)
section
variable {rs bH:List XR} {b to oth:Nat}
theorem Dl.back (C:Dl rs bH b to oth) {k:Nat} {r':XR} (h:bH[k]? =some r'): ∃r,rs[k]? =some r:=⟨_,aX (by rw[<-C.len];exact(bY.mp h).1)⟩
theorem Dl.ts (C:Dl rs bH b to oth):bz bH=Edge.Nj (bz rs) b to:=by
 refine zV fun k=> ?_;unfold bz Edge.Nj;rw[tQ,eR];rcases AV k bH.length with hk|hk
 .obtain⟨r',wM⟩: ∃r,bH[k]? =some r:=⟨_,aX hk⟩;obtain⟨r,hr⟩:=C.back wM;obtain⟨_,_,_,h1,h2⟩:=C.at_ k r r' hr wM;rw[wM];by_cases e:b=k
  .rw[aU e,aU (by rw[XE,e];exact(bY.mp hr).1)];simp only[CJ];rw[(h1 e.symm).2]
  .rw[aT e,tQ,hr];simp only[CJ];rw[(h2 (Ne.symm e)).2]
 .rw[uI hk];have vM:rs.length<=k:=by rw[<-C.len];exact hk
  by_cases e:b=k
  .rw[aU e,aT (by rw[XE,e];omega)];rfl
  .rw[aT e,uI (by rw[XE];exact vM)];rfl
theorem Dl.qg (C:Dl rs bH b to oth) (φ:Sh->Bool):fN φ bH=fN φ rs:=by
 unfold fN;congr 1;refine zV fun k=> ?_;rw[tQ,tQ];rcases AV k bH.length with hk|hk
 .obtain⟨r',wM⟩: ∃r,bH[k]? =some r:=⟨_,aX hk⟩;obtain⟨r,hr⟩:=C.back wM;rw[hr,wM];simp only[CJ];rw[(C.at_ k r r' hr wM).1]
 .rw[uI hk,uI (by rw[<-C.len];exact hk)]
theorem Dl.two (C:Dl rs bH b to oth) (w:Two rs):Two bH:=by
 intro r' h h3;obtain⟨k,hk⟩:=rT h;obtain⟨r,hr⟩:=C.back hk;obtain⟨_,_,_,h1,h2⟩:=C.at_ k r r' hr hk;by_cases e:k=b
 .rw[(h1 e).1] at h3;cases h3
 .rw[(h2 e).2];exact w r (dk hr) (by rw[<-(h2 e).1];exact h3)
theorem Dl.tf (C:Dl rs bH b to oth) (w:TF0 rs) (hb:rs[b]? =some rb) (jT:rb.ts=[(to:Int),(oth:Int)]\/rb.ts=[(oth:Int),(to:Int)]):TF0 bH:=by
 have hT:=C.ts;have row:=fun k=>Edge.ZX (tj hb) jT k;rw[dx] at row;have Ej:(1:Int)<=(to:Int)/\(to:Int)<rs.length:=w.to rb (dk hb) _ (by rcases jT with e|e<;>rw[e]<;>simp);have mem: ∀r'∈bH,∃(k:Nat) (r:XR),rs[k]? =some r/\bH[k]? =some r':=fun r' h=>by obtain⟨k,hk⟩:=rT h;obtain⟨r,hr⟩:=C.back hk;exact⟨k,r,hr,hk⟩
 refine⟨by rw[C.len];exact w.n1,by rw[C.len];exact w.Ez,fun r' h=> ?_,fun r' h t ht=> ?_,fun k r' wM q hq=> ?_,?_,fun r' h x hx=> ?_,fun k hk=> ?_⟩
 .obtain⟨k,r,hr,wM⟩:=mem r' h;obtain⟨_,_,_,h1,h2⟩:=C.at_ k r r' hr wM;by_cases e:k=b
  .exact .inr (.inl ⟨(h1 e).1,_,(h1 e).2⟩)
  .unfold TM;rw[(h2 e).1,(h2 e).2];exact w.kind r (dk hr)
 .obtain⟨k,r,hr,wM⟩:=mem r' h;obtain⟨_,_,_,h1,h2⟩:=C.at_ k r r' hr wM;rw[C.len];by_cases e:k=b
  .rw[(h1 e).2] at ht;simp at ht;rw[ht];exact Ej
  .rw[(h2 e).2] at ht;exact w.to r (dk hr) t ht
 .obtain⟨r,hr⟩:=C.back wM;obtain⟨_,hl,hp,_,_⟩:=C.at_ k r r' hr wM;obtain⟨i,hi⟩:=rT hq;obtain⟨q0,XZ⟩: ∃q,r.ps[i]? =some q:=⟨_,aX (by rw[<-hl];exact(bY.mp hi).1)⟩;have e1:=hp i q0 q XZ hi;have e2:=w.rows k r hr q0 (dk XZ);have e3:=row k;rw[hT,C.len];omega
 .have:bH.map oN=rs.map oN:=by
   refine zV fun k=> ?_;rw[tQ,tQ];rcases AV k bH.length with hk|hk
   .obtain⟨r',wM⟩: ∃r,bH[k]? =some r:=⟨_,aX hk⟩;obtain⟨r,hr⟩:=C.back wM;obtain⟨a1,a2,_⟩:=C.at_ k r r' hr wM;rw[hr,wM];simp only[CJ,oN];rw[a1,a2]
   .rw[uI hk,uI (by rw[<-C.len];exact hk)]
  rw[this];exact w.sum
 .obtain⟨k,r,hr,wM⟩:=mem r' h;rw[(C.at_ k r r' hr wM).1] at hx;exact w.al r (dk hr) x hx
 .rw[C.len] at hk;have e3:=row k;have e4:=w.short k hk;rw[hT,C.len];omega
end
section
variable {h h':ae} {n0 ai:Nat} {κ cap:Nat->Nat} {rs:List XR}
theorem cq.Gj (w:cq h n0 ai κ cap rs) (ok:bu h) (um:n0<=h.next) {r:XR} (hr:rs[i]? =some r) (g:ab aG h h') {T':SV} {BC:List Int} (hT:e_ bp h' T' BC) (hb: ∀b,ax T'.v b->h.next<=b) (k:Int) {on:Bool×Int} (hon:gK ai on):
  ∃κ':Nat->Nat,cq h' n0 ai κ' cap (rs.set i { r with kind:=k,on:=on,T:=T',ts:=BC })/\ ∀b,b<h.next->κ' b=κ b:=by
 classical
 have hi:=(bY.mp hr).1;have R:=w.r i r hr;obtain⟨κ',hκ⟩: ∃κ':Nat->Nat,∀b,κ' b=if ax T'.v b then 5 else κ b:=⟨fun b=>if ax T'.v b then 5 else κ b,fun b=>rfl⟩
 have k0: ∀b,h.next<=b->κ b=0:=fun b hb=>by
  have hw:=w.new b;rcases tP (κ b) with h1|h1
  .exact h1
  .have:=(hw (by omega)).2;omega
 have low: ∀b,b<h.next->κ' b=κ b:=fun b dq=>by rw[hκ,aT (fun e=>by have:=hb b e;omega)]
 have ext: ∀b,κ b≠0->κ' b=κ b:=fun b dq=>low b (w.new b dq).2;have UB: ∀b,κ b≠0->κ' b=κ b/\cap b=cap b:=fun b hb=>⟨ext b hb,rfl⟩;have back: ∀b,κ' b=1->κ b=1:=fun b dq=>by
  rw[hκ] at dq;split at dq
  .omega
  .exact dq
 have W:=w.bt ok g;refine⟨κ',⟨fun j x hx=> ?_,eL (f:=(·.P)) hr w.dP rfl,eL (f:=(·.L)) hr w.dL rfl,?_,fun b hb=>W.V b (back b hb),fun b dq=> ?_⟩,low⟩
 .rw[eR] at hx;by_cases e1:i=j
  .rw[aU e1,aU hi] at hx;cases hx;have R':=(W.r i r hr).congr UB;exact⟨R'.P,R'.L,hT,R'.kP,R'.kL,fun b dq=>by rw[hκ,aU dq],R'.ps,R'.ls,hon⟩
  .rw[aT e1] at hx;exact(W.r j x hx).congr UB
 .intro i' j ri rj b h1 h2 hn KO dq;rw[eR] at h1 h2;have bA: ∀(m:Nat) (x:XR),rs[m]? =some x->ax x.T.v b->b<h.next:=fun m x hx PK=>by have:=(w.r m x hx).kT b PK;exact(w.new b (by omega)).2
  by_cases e1:i=i'
  .rw[aU e1,aU hi] at h1;cases h1;rw[aT (by omega)] at h2;have:=bA j rj h2 dq;have:=hb b KO;omega
  .rw[aT e1] at h1;by_cases e2:i=j
   .rw[aU e2,aU hi] at h2;cases h2;have:=bA i' ri h1 KO;have:=hb b dq;omega
   .rw[aT e2] at h2;exact w.dT i' j ri rj b h1 h2 hn KO dq
 .rw[hκ] at dq;split at dq
  .rename_i e;have:=hb b e;have:=hT.bA g.ok e;omega
  .have:=w.new b dq;have:=g.next;omega
end
def aki:List Nat:=[53,54,55,56,57,58,59,60,61,62,63,64,65,66,67,68,69]
theorem Uq (ok:bu h) (O:mF h n0 ai κ cap B rs) {F X1 y i k sF:Nat} (hF:h.tr.get F=some (.aA (au name p rg B) false 0 sF)) (κF:κ F=0) {r:XR} (hr:rs[y]? =some r) {q:Int×SV} (hq:r.ps[i]? =some q)
  (mL: ∃s,h.tr.get X1=some (.aA [.int .i64 q.1,q.2.v] false 0 s)) (κ1:κ X1=0) (hk:k<q.2.l) (K0:q.2.l<1000000) (ff:r.ps.length<1000000)
  {e:Env} {Q:aP->Env->ae->Prop} (f0:Env.get e 0= .pointer (some ⟨F,0,none⟩)) (f8:Env.get e 8= .int .i64 y) (f9:Env.get e 9= .int .i64 k) (f10:Env.get e 10= .int .i64 i) (f11:Env.get e 11= .pointer (some ⟨X1,0,none⟩))
  (C: ∀e' h' F',aw aki e e'->ab (fun b=>κ b=1\/κ b=3) h h'->F'.l+1=q.2.l->mF h' n0 ai κ cap B (rs.set y { r with ps:=r.ps.set i (q.1,F') })->Q .normal e' h'):aB FF Im e h Q:=by
 obtain⟨s1,mL⟩:=mL;have R:=O.os.r y r hr;have uw:=(bY.mp hr).1;have acz:=(bY.mp hq).1;obtain⟨bB,cs,oB,sB,ig,FZ,YZ,eH,dy,fH⟩:=O.A.el hr;have κB:κ bB=2:=O.kB bB (bU ig);have HC:=dy 0 1 (by decide);simp[-ag] at HC;have D3:=O.A.len;have kx:=hF;simp[au] at kx;rw[ig,D3] at kx;have ac6:=ok.st _ _ _ _ _ hF;have ac5:=ok.st _ _ _ _ _ FZ;have Vz:=ok.st _ _ _ _ _ mL;have oF:=ok.bA hF;obtain⟨hVl,YU|⟨b,Q1,PU,hVc⟩⟩:=(R.ps q (dk hq)).2
 .omega
 obtain⟨vs,o,s,hb,ho,Hc,xp⟩:=O.os.V b PU;have jl:=R.P.len;have wk:=wrap_i64 ((k:Int)+1) (by omega) (by omega);simp at mL;rw[Q1] at mL;unfold Im;simp[f0,f8,f9,f10,f11,kx,uw,HC,mL,wk,-ag,aq kx,aq mL,ay,aI,oF];refine aQ.cut (fun h2=>ab aG h h2/\h.clock<=h2.clock) ?_ ?_
 .exact⟨aW ok,Nat.le_succ _⟩
 rintro h2 ⟨g2,IQ⟩;have dq:=g2.get ok hb (fun h=>h);have IK:=g2.get ok FZ (fun h=>h);have vG:=g2.get ok kx (fun h=>h);have O2:=O.bt ok g2;refine aQ.call (V:=TV q.2 b o vs (q.2.l-1) (false,0) h2) (by simpa [Q1] using GJ g2.ok (F:=q.2) Q1 (by omega) hVl ho dq k hk K0) ?_;rintro _ h3 ⟨F3,vs3,rfl,ha3,Y0,hc3,g3,⟨s3,Bk⟩,hvl3,hvv3⟩;have O3:=O2.Bz g2.ok PU g3 ⟨s3,Bk⟩ ho (by omega) (fun v hv=>by
  rcases hvv3 v hv with h|h
  .exact xp v h
  .rw[h];intro h;cases h)
 have nbF: ¬F=b:=fun e=>by rw[e] at κF;omega
 have nbB: ¬bB=b:=fun e=>by rw[e] at κB;omega
 have vH:=g3.get g2.ok vG nbF;have IL:=g3.get g2.ok IK nbB;have R4:=(O3.os.r y r hr).P;obtain⟨bP,Ys,oP,sP,oZ,hPb,hjP,KW,Vt,Lc⟩:=R4.el hq;have κP:κ bP=3:=R.kP bP (bU oZ);have NO:=KW 1 1 (by decide);simp at NO;have gw:ab (· =bP) h3 (put h3 bP (i*2+1) Ys [.slice F3.a F3.l F3.c] oP):=aM g3.ok hPb;have gw':ab (ax r.P.v) h3 (put h3 bP (i*2+1) Ys [.slice F3.a F3.l F3.c] oP):=gw.bJ (fun x _ e=>e▸bU oZ);have A5:=Lc (q.1,F3) 1 [.slice F3.a F3.l F3.c] (by simp) rfl (put h3 bP (i*2+1) Ys [.slice F3.a F3.l F3.c] oP) ⟨_,aD _ _ _ _ _ _⟩;simp[vH,IL,ac6,ac5,oZ,jl,acz,hPb,NO];refine C _ _ F3 ?_ ?_ (by omega) ⟨O3.os.SF g3.ok hr gw' A5 rfl (fun p hp=> ?_),?_,O3.kB⟩
 .repeat (refine aw.set ?_)
  exact aw.refl _ _
 .have w1: ∀x,x=b->(κ x=1\/κ x=3):=fun x e=> .inl (by rw[e];exact PU);exact(g2.bt.trans (g3.bJ (fun x _ e=>w1 x e))).trans (gw.bJ (fun x _ e=> .inr (by rw[e];exact κP)))
 .rcases KG hp with h|h
  .exact R.ps p h
  .rw[h];exact⟨(R.ps q (dk hq)).1,by show F3.l<=F3.c;omega,.inr ⟨b,by show F3.a=_;rw[ha3,Q1],PU,by show F3.c=_;omega⟩⟩
 .refine zQ (O3.A.grow g3.ok gw (fun x hx e=>by have:=O3.kB x hx;rw[e] at this;omega)) (by simp) (fun m a c h1 h2=> ?_);rw[eR] at h2;by_cases e1:y=m
  .subst e1;rw[aU rfl,aU uw] at h2;cases h2;rw[hr] at h1;cases h1;rfl
  .rw[aT e1] at h2;rw[h1] at h2;cases h2;rfl
def aah:List Nat:=[10,11,48,49,50,51,52,53,54,55,56,57,58,59,60,61,62,63,64,65,66,67,68,69,70]
def abr (qs ps:List (Int×SV)):Prop:=qs.length=ps.length/\ ∀(i:Nat) (q p:Int×SV),qs[i]? =some q->ps[i]? =some p->q.1=p.1/\q.2.l+1=p.2.l
def akj (j:Nat) (qs ps:List (Int×SV)):Prop:=qs.length=ps.length/\ ∀(i:Nat) (q p:Int×SV),qs[i]? =some q->ps[i]? =some p->(i<j->q.1=p.1/\q.2.l+1=p.2.l)/\(j<=i->q=p)
def akg (h:ae) (n0 ai:Nat) (κ cap:Nat->Nat) (B:SV) (rs:List XR) (y:Nat) (r:XR) (e:Env) (m:Nat) (e':Env) (h':ae):Prop:=
 ∃(i:Nat) (qs:List (Int×SV)),m=r.ps.length-i/\i<=r.ps.length/\aw aah e e'/\Env.get e' 48= .int .i64 i/\ab (fun b=>κ b=1\/κ b=3) h h'/\mF h' n0 ai κ cap B (rs.set y { r with ps:=qs })/\akj i qs r.ps
theorem SG {α:Type} {rs:List α} {y:Nat} {r:α} (hr:rs[y]? =some r):rs.set y r=rs:=by
 have uw:=(bY.mp hr).1;refine zV fun m=> ?_;rw[eR];by_cases e:y=m
 .subst e;rw[aU rfl,aU uw,hr]
 .rw[aT e]
theorem Ur (ok:bu h) (O:mF h n0 ai κ cap B rs) (um:n0<=h.next) {F y k l sF:Nat} (hF:h.tr.get F=some (.aA (au name p rg B) false 0 sF)) (κF:κ F=0) {r:XR} (hr:rs[y]? =some r)
  (hl: ∀q∈r.ps,q.2.l=l) (hk:k<l) (Ed:l<1000000) (va:r.ps.length<1000000)
  {e:Env} {Q:aP->Env->ae->Prop} (f0:Env.get e 0= .pointer (some ⟨F,0,none⟩)) (f8:Env.get e 8= .int .i64 y) (f9:Env.get e 9= .int .i64 k) (f46:Env.get e 46=r.P.v) (f47:Env.get e 47= .int .i64 r.ps.length) (f48:Env.get e 48= .int .i64 0)
  (C: ∀e' h' qs,aw aah e e'->ab (fun b=>κ b=1\/κ b=3) h h'->mF h' n0 ai κ cap B (rs.set y { r with ps:=qs })->abr qs r.ps->Q (.exit 2) e' h'):aB FF (.loop rJ) e h Q:=by
 have uw:=(bY.mp hr).1;refine aB.loop (akg h n0 ai κ cap B rs y r e) ?_ (n:=r.ps.length) ⟨0,r.ps,rfl,by omega,aw.refl _ _,f48,.refl ok,by rw[show({ r with ps:=r.ps } :XR)=r from rfl,SG hr];exact O,rfl,fun i q p h1 h2=>⟨fun h=>by omega,fun _=>by rw[h1] at h2;cases h2;rfl⟩⟩;rintro m e' h' ⟨i,qs,rfl,hi,K,q48,g,O',S⟩;have bX:=g.ok;have q0:=K.at f0;have q8:=K.at f8;have q9:=K.at f9;have WM:=K.at f46;have q47:=K.at f47;unfold rJ;by_cases ff:i<r.ps.length
 .have wi:=wrap_i64 ((i:Int)+1) (by omega) (by omega);obtain⟨p0,Tp⟩: ∃p,r.ps[i]? =some p:=⟨_,aX ff⟩;obtain⟨q,hq⟩: ∃q,qs[i]? =some q:=⟨_,aX (by rw[S.1];exact ff)⟩;have Y_:q=p0:=(S.2 i q p0 hq Tp).2 (dK _);have K0:q.2.l=l:=by rw[Y_];exact hl p0 (dk Tp)
  have ky:(rs.set y { r with ps:=qs })[y]? =some { r with ps:=qs } :=by rw[eR,aU rfl,aU uw]
  have R:=O'.os.r y _ ky;have RP:e_ jR h' r.P qs:=R.P;obtain⟨bP,Ys,oP,sP,oZ,hPb,hjP,KW,Vt,Lc⟩:=RP.el hq;have r0:=Vt 0 2 (by decide);simp[-ag] at r0;have jl:=RP.len;simp at WM;rw[oZ,jl,S.1] at WM;simp[WM,q47,q48,ff,r0,-ag,av,bg,aI,ay];refine aB.cut (fun h2=>ab aG h' h2/\(∃s,h2.tr.get h'.next=some (.aA [.int .i64 q.1,q.2.v] false 0 s))) ?_ ?_
  .exact⟨(ab.refl bX).var _ _,⟨h'.clock,by simp[aJ]⟩⟩
  rintro h2 ⟨g2,mL⟩;have ln:=g.next;have κn: ∀x,h'.next<=x->κ x=0:=fun x hx=>by
   rcases tP (κ x) with h|h
   .exact h
   .have:=(O'.os.new x (by omega)).2;omega
  refine Uq g2.ok (O'.bt bX g2) (F:=F) (X1:=h'.next) (y:=y) (i:=i) (k:=k) (q:=q) (g2.get bX (g.get ok hF (by omega)) (fun h=>h)) κF ky hq mL (κn _ (by omega)) (by omega) (by omega) (by show qs.length<_;rw[S.1];exact va) (by simp[q0]) (by simp[q8]) (by simp[q9]) (by simp) (by simp) ?_;intro e3 h3 F' K3 g3 sD O3;have k48:=K3.at (t:=48) (by simp;exact q48);rw[List.set_set] at O3;simp[k48,wi];refine⟨r.ps.length-(i+1),by omega,i+1,qs.set i (q.1,F'),rfl,ff,?_,by simp,g.trans (g2.bt.trans g3),O3,by simp[S.1],fun i' q' p' h1 h2=> ?_⟩
  .refine aw.set (aw.set (aw.trans ?_ (K3.bJ)))
   repeat (refine aw.set ?_)
   exact K
  .rw[eR] at h1;by_cases e1:i=i'
   .subst e1;rw[aU rfl,aU (by rw[S.1];exact ff)] at h1;cases h1;rw[Tp] at h2;cases h2;exact⟨fun _=>⟨by rw[Y_],by rw[<-Y_];exact sD⟩,fun h=>by omega⟩
   .rw[aT e1] at h1;obtain⟨a1,a2⟩:=S.2 i' q' p' h1 h2;exact⟨fun h=>a1 (by omega),fun h=>a2 (by omega)⟩
 .have:i=r.ps.length:=by omega
  subst this;simp[q47,q48];exact C _ _ qs (aw.set K) g O' ⟨S.1,fun i' q' p' h1 h2=>(S.2 i' q' p' h1 h2).1 (bY.mp h2).1⟩
def aag (rs:List XR) (ts:List Int) (oth i:Nat) (bH:List XR):Prop:=
 ((oth:Int)∉ts.take i/\bH=rs)\/((oth:Int)∈ts.take i/\ ∃r qs,rs[oth]? =some r/\abr qs r.ps/\bH=rs.set oth { r with ps:=qs })
def akh (h:ae) (n0 ai:Nat) (κ cap:Nat->Nat) (B:SV) (rs:List XR) (c6:Value) (F:Nat) (b to oth:Nat) (T:SV) (ts:List Int) (m:Nat) (e:Env) (h':ae):Prop:=
 ∃(i:Nat) (bH:List XR),m=ts.length-i/\i<=ts.length/\Env.get e 0= .pointer (some ⟨F,0,none⟩)/\Env.get e 1= .int .i64 b/\Env.get e 2= .int .i64 to/\Env.get e 6=c6/\Env.get e 24=T.v/\Env.get e 25= .int .i64 ts.length/\Env.get e 26= .int .i64 i/\ab (fun b=>κ b=1\/κ b=3) h h'/\mF h' n0 ai κ cap B bH/\aag rs ts oth i bH
def Yk (n0 ai:Nat) (κ0 cap:Nat->Nat) (B:SV) (rs:List XR) (b to oth:Nat) (h:ae) (_:Value) (h':ae):Prop:=
 ab (fun x=>κ0 x≠0) h h'/\ ∃(bH:List XR) (κ:Nat->Nat),(∀x,x<h.next->κ x=κ0 x)/\mF h' n0 ai κ cap B bH/\Dl rs bH b to oth
theorem Ku (ok:bu h) (O:mF h n0 ai κ cap B rs) (um:n0<=h.next) (hF:h.tr.get F=some (.aA (au name p rg B) false 0 sF)) (κF:κ F=0) (w:TF0 rs) {b to oth:Nat} (hb:rs[b]? =some rb) (jT:rb.ts=[(to:Int),(oth:Int)]\/rb.ts=[(oth:Int),(to:Int)]) (cJ:to≠oth):
  aF FF Ap [.pointer (some ⟨F,0,none⟩),.int .i64 b,.int .i64 to] h (Yk n0 ai κ cap B rs b to oth h):=by
 have T:=w.tok;have pK:(bz rs).length=rs.length:=dx rs;have hn:=T.len;obtain⟨bs,IP,hV⟩:=O.view;have E:=hV.ends T;have Br:=hV.dw;have pc:bs.length=rs.length:=hV.1;have IW:=(bY.mp hb).1;have Ro:=O.os.r b rb hb;have tC:=Ro.T.len;have κlow: ∀b,κ b≠0->b<h.next:=fun b hb=>(O.os.new b hb).2;have kx:=hF;simp[au] at kx;have t2:rb.ts.length=2:=by rcases jT with e|e<;>rw[e]<;>rfl
 refine aF.of H8 ?_;unfold zJ;simp[kx];refine aE.call (V:=fun v h'=>ab aG h h'/\ ∃d ws,v= .slice (some ⟨d,0,none⟩) bs.length bs.length/\jm bp h.next h' d ws (Edge.bw (bj bs))) (by simpa [au] using jA ok (name:=name) (p:=p) (r:=rg) IP E) ?_;rintro _ h1 ⟨g1,d,ws,rfl,w1⟩;rw[Br] at w1;have O1:=O.bt ok g1;have wK:=g1.get ok kx (fun h=>h);have ab4:=g1.get ok hF (fun h=>h);obtain⟨bB,cs,oB,sB,ig,FZ,YZ,eH,dy,fH⟩:=O1.A.el hb;have HC:=dy 5 1 (by decide);simp[-ag] at HC;have D3:=O1.A.len;rw[ig,D3] at wK;simp[wK,IW,HC,tC,-ag,aq wK];refine aB.loop (akh h1 n0 ai κ cap B rs (.slice (some ⟨d,0,none⟩) bs.length bs.length) F b to oth rb.T rb.ts) ?_ (n:=rb.ts.length)
  ⟨0,rs,rfl,by omega,by simp,by simp,by simp,by simp,by simp[tC],by simp,by simp,.refl g1.ok,O1,.inl ⟨by simp,rfl⟩⟩
 rintro m e' h' ⟨i,bH,rfl,hi,q0,q1,q2,q6,Gl,Sc,Qg,g,O',S⟩;have bX:=g.ok;unfold w_;by_cases ff:i<rb.ts.length
 .have wi:=wrap_i64 ((i:Int)+1) (by omega) (by omega);obtain⟨t,ht⟩: ∃t,rb.ts[i]? =some t:=⟨_,aX ff⟩;obtain⟨Tq,htn⟩:=T.to rb.ts (j9.2 ⟨rb,dk hb,rfl⟩) t (dk ht);obtain⟨u,rfl⟩: ∃u:Nat,t=u:=⟨t.toNat,by omega⟩;have C6:u<rs.length:=by omega
  have hTs:=Di Ro.T.sl ok (g1.bt.trans g) (fun _ b hb h=>by have:=Ro.kT b hb;omega);obtain⟨bT,aoU,alE,hTv,_,_,N0⟩:=hTs.read ht;have rt:=N0 0 1 (by decide);simp[-ag] at rt hTv;simp at Gl;rw[hTv.1,tC] at Gl;have tk:rb.ts.take (i+1)=rb.ts.take i++[(u:Int)]:=by rw[yn,ht];rfl
  by_cases j_:u=to
  .subst j_;simp[q0,q1,q2,q6,Gl,Sc,Qg,ff,rt,wi,-ag];refine⟨rb.ts.length-(i+1),by omega,i+1,bH,rfl,ff,by simp[q0],by simp[q1],by simp[q2],by simp[q6],by simp[Gl,hTv.1,tC],by simp[Sc],by simp,g,O',?_⟩;rcases S with⟨s1,s2⟩|⟨s1,s2⟩
   .refine .inl ⟨?_,s2⟩;rw[tk,tO];rintro(h|h)
    .exact s1 h
    .simp at h;omega
   .exact .inr ⟨by rw[tk];exact List.mem_append_left _ s1,s2⟩
  .have huo:u=oth:=by have:=dk ht;rcases jT with e|e<;>(rw[e] at this;simp at this;omega)
   subst huo;have CO:((u:Int)==(to:Int))=false:=gO (by omega);have Vk:(u:Int)∉rb.ts.take i:=by
    intro uk;obtain⟨j,hj⟩:=rT uk;rw[DZ] at hj;split at hj
    .rename_i Tl;rcases jT with e|e
     .rw[e] at hj ht;have:i=1\/i=0:=by rw[e] at ff;simp at ff;omega
      rcases this with rfl|rfl
      .have:j=0:=by omega
       subst this;simp at hj;omega
      .omega
     .rw[e] at hj ht;have:i=1\/i=0:=by rw[e] at ff;simp at ff;omega
      rcases this with rfl|rfl
      .simp at ht;omega
      .omega
    .cases hj
   have N2:bH=rs:=by
    rcases S with⟨_,s⟩|⟨s,_⟩
    .exact s
    .exact absurd s Vk
   subst N2;obtain⟨r0,AY⟩: ∃r0,bH[u]? =some r0:=⟨_,aX C6⟩;obtain⟨pk,zo⟩: ∃pk,(Edge.bw (bz bH))[u]? =some pk:=⟨_,aX (by rw[Edge.dz,pK];exact C6)⟩;obtain⟨wk,MF⟩: ∃wk,ws[u]? =some wk:=⟨_,aX (by rw[w1.len,Edge.dz,pK];exact C6)⟩;have uk:(b:Int)∈pk:=by have:=(Edge.qk w.nat (u:=u) (x:=(b:Int))).2 ⟨b,rfl,rb.ts,by simp[bz,hb],(u:Int),dk ht,by simp⟩;rw[zo] at this;exact this
   have anU:=w.JC pk (dk zo);have w':=w1.grow g1.ok g (fun b hb h=>by have:=κlow b (by omega);omega);obtain⟨sd,hd⟩:=w'.aA;have Yd:=ze hd MF;simp[-ag] at Yd;have hub:u<bs.length:=by omega
   simp[q0,q1,q2,q6,Gl,Sc,Qg,ff,rt,CO,Yd,hub,-ag];have XN:bk bp h' wk.v pk:=(w'.acc u wk pk MF zo).sl;refine aE.call (V:=fun v h2=>h2=h'/\ ∃k:Nat,v= .int .i64 k/\pk[k]? =some (b:Int)) (by simpa using B9 XN (by omega) uk) ?_;rintro _ h2 ⟨rfl,k,rfl,hk⟩;have qK:=(bY.mp hk).1;have sD:=g.get g1.ok wK (by omega);have vH:=g.get g1.ok ab4 (by omega);obtain⟨bB',Il,oB',sB',ov,QY,ag_,z7,Zc,Eh⟩:=O'.A.el AY;rw[ig] at ov;cases ov;have rd1:=Zc 0 1 (by decide);simp[-ag] at rd1;have R1:=O'.os.r u r0 AY;have jl:=R1.P.len;simp[q0,sD,C6,rd1,jl,-ag,aq sD];refine Ur bX O' (by have:=g1.next;have:=g.next;omega) (F:=F) (y:=u) (k:=k) (l:=pk.length) vH κF AY (fun q hq=>w.Ff u r0 pk AY zo q hq) qK (by omega) (by have:=(w.size r0 (dk AY)).1;omega) (by simp[q0]) (by simp) (by simp) (by simp[jl]) (by simp) (by simp) ?_;intro e4 h4 qs K4 g4 O4 S4;have m0:=K4.at (t:=0) (by simp;exact q0);have m1:=K4.at (t:=1) (by simp;exact q1);have m2:=K4.at (t:=2) (by simp;exact q2);have m6:=K4.at (t:=6) (by simp;exact q6);have m24:=K4.at (t:=24) (by simp;exact Gl);have m25:=K4.at (t:=25) (by simp;exact Sc);have m26:=K4.at (t:=26) (by simp;exact Qg);simp[m26,wi];refine⟨rb.ts.length-(i+1),by omega,i+1,bH.set u { r0 with ps:=qs },rfl,ff,by simp[m0],by simp[m1],by simp[m2],by simp[m6],by simp[m24,hTv.1,tC],by simp[m25],by simp,g.trans g4,O4,.inr ⟨?_,r0,qs,AY,S4,rfl⟩⟩;rw[tk];exact List.mem_append_right _ (by simp)
 .have:i=rb.ts.length:=by omega
  subst this;have anO:(oth:Int)∈rb.ts:=by rcases jT with e|e<;>rw[e]<;>simp
  rw[aag,xV] at S;obtain⟨r,qs,hr,agU,rfl⟩: ∃r qs,rs[oth]? =some r/\abr qs r.ps/\bH=rs.set oth { r with ps:=qs } :=by
   rcases S with⟨s,_⟩|⟨_,s⟩
   .exact absurd anO s
   .exact s
  have aaS:=(bY.mp hr).1;obtain⟨Bx,Vs⟩: ∃x,(rs.set oth { r with ps:=qs })[b]? =some x:=⟨_,aX (by simpa using IW)⟩;have sD:=g.get g1.ok wK (by omega);obtain⟨bB',Il,oB',sB',ov,QY,ag_,z7,Zc,Eh⟩:=O'.A.el Vs;rw[ig] at ov;cases ov;have κB:κ bB=2:=O'.kB bB (bU ig);have Bm:=z7 2 4 (by decide);simp at Bm;have nBn: ¬bB=h'.next:=by have:=bX.wf _ _ QY;omega
  simp[Sc,Qg,q0,q1,q2,sD,IW,QY,Bm,nBn];have g2:=aO bX [Value.int .i64 to] 0;obtain⟨y,hy⟩: ∃y:XR,y= { Bx with kind:=2,on:=(false,0),T:=⟨some ⟨h'.next,0,none⟩,1,1⟩,ts:=[(to:Int)] } :=⟨_,rfl⟩;have hT2:e_ bp (aL h' [Value.int .i64 to] 0) ⟨some ⟨h'.next,0,none⟩,1,1⟩ [(to:Int)]:=⟨rfl,.inr ⟨h'.next,0,0,[],rfl,rfl,cx _ _ _,.inl rfl⟩⟩;have KY:h.next<=h'.next:=by have:=g1.next;have:=g.next;omega
  obtain⟨κ',O2,low⟩:=O'.os.Gj bX (by omega) Vs g2 hT2 (fun x hx=>by rw[pa (A:=⟨some ⟨h'.next,0,none⟩,1,1⟩) rfl hx];exact dK _) 2 (on:=(false,0)) (fun h=>by cases h);rw[<-hy] at O2;have lB:=bX.wf _ _ QY;have κB':κ' bB=2:=by rw[low bB lB];exact κB
  have IK:=g2.get bX QY (fun h=>h);have gw:ab (· =bB) (aL h' [Value.int .i64 to] 0) (put (aL h' [Value.int .i64 to] 0) bB (b*6+2) Il [.int .i64 2,.bool false,.int .i64 0,.slice (some ⟨h'.next,0,none⟩) 1 1] oB'):=aM g2.ok IK;have A3:=Eh y 2 [.int .i64 2,.bool false,.int .i64 0,.slice (some ⟨h'.next,0,none⟩) 1 1] (by simp) (by rw[hy];rfl) (put (aL h' [Value.int .i64 to] 0) bB (b*6+2) Il [.int .i64 2,.bool false,.int .i64 0,.slice (some ⟨h'.next,0,none⟩) 1 1] oB') ⟨_,aD _ _ _ _ _ _⟩;have O3:=O2.grow g2.ok gw (fun x e=> .inr (by rw[e];exact κB'));refine⟨?_,_,κ',fun x hx=>low x (by omega),⟨O3,A3,fun x hx=>by rw[pa ig hx];exact κB'⟩,⟨by simp,fun k r0 r0' h1 h2=> ?_⟩⟩
  .have z1:ab (fun x=>κ x≠0) h h':=g1.bt.trans (g.bJ (fun x _ e=>by omega));exact(z1.trans g2.bt).trans (gw.bJ (fun x _ e=>by rw[e];omega))
  .rw[eR] at Vs h2;have q0: ∀(a:XR) (k:Nat),rs[k]? =some a-> ∀a':XR,(if oth=k then some { r with ps:=qs } else rs[k]?)=some a'->a'.ls=a.ls/\a'.ps.length=a.ps.length/\(∀(i:Nat) (q q':Int×SV),a.ps[i]? =some q->a'.ps[i]? =some q'->q'.2.l+(if k=oth then 1 else 0)=q.2.l)/\a'.kind=a.kind/\a'.ts=a.ts:=by
    intro a k ha a' ha';by_cases e:oth=k
    .subst e;rw[aU rfl] at ha';cases ha';rw[hr] at ha;cases ha;exact⟨rfl,agU.1,fun i q q' e1 e2=>by rw[aU rfl];exact(agU.2 i q' q e2 e1).2,rfl,rfl⟩
    .rw[aT e,ha] at ha';cases ha';exact⟨rfl,rfl,fun i q q' e1 e2=>by rw[e1] at e2;cases e2;rw[aT (fun h=>e h.symm)];rfl,rfl,rfl⟩
   rw[aU aaS] at Vs;rw[eR,aU aaS] at h2;by_cases e:b=k
   .subst e;rw[aU rfl,aU (by simpa using IW)] at h2;cases h2;obtain⟨a1,a2,a3,_,_⟩:=q0 r0 b h1 Bx Vs;rw[hy];exact⟨a1,a2,a3,fun _=>⟨rfl,rfl⟩,fun h=>absurd rfl h⟩
   .rw[aT e] at h2;obtain⟨a1,a2,a3,a4,a5⟩:=q0 r0 k h1 r0' h2;exact⟨a1,a2,a3,fun h=>absurd h.symm e,fun _=>⟨a4,a5⟩⟩
structure JmP (n0 ai:Nat) (κ0 cap:Nat->Nat) (B:SV) (rs:List XR) (h0 h:ae) (κ:Nat->Nat) (bH:List XR):Prop where
 g:ab (fun x=>κ0 x≠0) h0 h
 low: ∀x,x<h0.next->κ x=κ0 x
 O:mF h n0 ai κ cap B bH
 tf:TF0 bH
 two:Two bH
 len:bH.length=rs.length
 qg: ∀φ,fN φ bH=fN φ rs
def JmI (n0 ai:Nat) (κ0 cap:Nat->Nat) (B:SV) (rs:List XR) (h0:ae) (F:Nat) (m:Nat) (e:Env) (h':ae):Prop:=
 ∃(j:Nat) (κ:Nat->Nat) (bH:List XR),m=rs.length-j/\j<=rs.length/\Env.get e 0= .pointer (some ⟨F,0,none⟩)/\Env.get e 8= .int .i64 rs.length/\Env.get e 9= .int .i64 j/\JmP n0 ai κ0 cap B rs h0 h' κ bH
theorem N_ (ok:bu h) (O:mF h n0 ai κ0 cap B rs) (um:n0<=h.next) (hF:h.tr.get F=some (.aA (au name p rg B) false 0 sF)) (κF:κ0 F=0) (w:TF0 rs) (w2:Two rs):
  aF FF wP [.pointer (some ⟨F,0,none⟩)] h (fun _ h'=> ∃κ bH,JmP n0 ai κ0 cap B rs h h' κ bH):=by
 have kx:=hF;simp[au] at kx;have ew:=O.A.len;have lF:=ok.wf _ _ hF;refine aF.of DJ ?_;unfold vY;simp[kx];refine aB.loop (JmI n0 ai κ0 cap B rs h F) ?_ (n:=rs.length) ⟨0,κ0,rs,rfl,by omega,by simp,by simp[ew],by simp,.refl ok,fun _ _=>rfl,O,w,w2,rfl,fun _=>rfl⟩;rintro m e h' ⟨j,κ,bH,rfl,hj,q0,q8,q9,J⟩;have bX:=J.g.ok;have κF':κ F=0:=by rw[J.low F lF];exact κF
 have sD:=J.g.get ok hF (fun e=>e κF);have ln:=J.g.next;unfold uF;by_cases aS:j<rs.length
 .have Ez:=w.Ez;have wj:=wrap_i64 ((j:Int)+1) (by omega) (by omega);obtain⟨r,hr⟩: ∃r,bH[j]? =some r:=⟨_,aX (by rw[J.len];exact aS)⟩;have R:=J.O.os.r j r hr;have tC:=R.T.len;obtain⟨bB,cs,oB,sB,ig,FZ,YZ,eH,dy,fH⟩:=J.O.A.el hr;have rd:=dy 2 4 (by decide);simp[-ag] at rd;have D3:=J.O.A.len;have vG:=sD;simp[au] at vG;rw[ig,D3,J.len] at vG;have oF:=bX.bA vG;simp[q0,q8,q9,aS,vG,rd,-ag,aq vG,av,ay];refine aE.cut (fun h2=>ab aG h' h2/\ ∃s,h2.tr.get h'.next=some (.aA [.int .i64 r.kind,.bool r.on.1,.int .i64 r.on.2,.slice r.T.a r.T.l r.T.c] false 0 s)) ?_ ?_
  .exact⟨(ab.refl bX).var _ _,h'.clock,by simp[aJ]⟩
  rintro h2 ⟨g2,sE,Q0⟩;have J2:JmP n0 ai κ0 cap B rs h h2 κ bH:=⟨J.g.trans g2.bt,J.low,J.O.bt bX g2,J.tf,J.two,J.len,J.qg⟩;have agf:=g2.get bX sD (fun h=>h);have hm:=dk hr;have skip: ∀e2 h2,JmP n0 ai κ0 cap B rs h h2 κ bH->Env.get e2 0= .pointer (some ⟨F,0,none⟩)->Env.get e2 8= .int .i64 rs.length->Env.get e2 9= .int .i64 (j+1:Nat)-> ∃mm,mm<rs.length-j/\JmI n0 ai κ0 cap B rs h F mm e2 h2:=fun e2 h2 J2 a0 a8 a9=>⟨rs.length-(j+1),by omega,j+1,κ,bH,rfl,aS,a0,a8,a9,J2⟩;by_cases hk:r.kind=3
  .cases hon:r.on.1 with
   |true=>
    have vM:(r.kind !=3)=false:=by simpa using hk
    rw[hon] at Q0;simp[Q0,vM,q9,wj];exact skip _ _ J2 (by simp[q0]) (by simp[q8]) (by simp)
   |false=>
    have vM:(r.kind !=3)=false:=by simpa using hk
    obtain⟨t,u,jT,htu⟩:=J.two r hm hk;have ht:=J.tf.to r hm t (by rw[jT];simp);have hu:=J.tf.to r hm u (by rw[jT];simp);obtain⟨t,rfl⟩: ∃n:Nat,t=n:=⟨t.toNat,by omega⟩;obtain⟨u,rfl⟩: ∃n:Nat,u=n:=⟨u.toNat,by omega⟩;have R2:=J2.O.os.r j r hr;obtain⟨bT,csT,oT,sT,Bi,hTb,hj0,aqY,N0,_⟩:=R2.T.el (show r.ts[0]? =some (t:Int) by rw[jT];rfl);obtain⟨bT',csT',oT',sT',ags,amx,Fy,am6,ahu,_⟩:=R2.T.el (show r.ts[1]? =some (u:Int) by rw[jT];rfl);rw[Bi] at ags;cases ags;have rt:=N0 0 1 (by decide);have ru:=ahu 0 1 (by decide);simp[-ag] at rt ru;have hT2:r.T.l=2:=by rw[R2.T.len,jT];rfl
    have fin: ∀(to oth:Nat) h4 v,(r.ts=[(to:Int),(oth:Int)]\/r.ts=[(oth:Int),(to:Int)])->Yk n0 ai κ cap B bH j to oth h2 v h4-> ∃κ4 TH,JmP n0 ai κ0 cap B rs h h4 κ4 TH:=fun to oth h4 v Ej Q=>by obtain⟨g4,TH,κ4,Lp,O4,C4⟩:=Q;have l2:=g2.next;refine⟨κ4,TH,J2.g.trans' g4 (fun _ _ h=>h) (fun x hx e=>by rw[J.low x hx] at e;exact e),fun x hx=>by rw[Lp x (by omega),J.low x hx],O4,C4.tf J.tf hr Ej,C4.two J.two,by rw[C4.len,J.len],fun φ=>by rw[C4.qg,J.qg]⟩
    rw[hon,Bi,hT2] at Q0;by_cases hn:r.on.2=0
    .have KY:(r.on.2 !=0)=false:=by simpa using hn
     simp[Q0,vM,KY,q0,ru,-ag,aq Q0];refine aE.call (V:=Yk n0 ai κ cap B bH j u t h2) (by simpa using Ku g2.ok J2.O (by have:=g2.next;omega) agf κF' J.tf hr (to:=u) (oth:=t) (.inr jT) (by omega)) ?_;rintro _ h4 Q4;obtain⟨κ4,TH,J4⟩:=fin u t h4 _ (.inr jT) Q4;simp[q9,wj];exact⟨rs.length-(j+1),by omega,j+1,κ4,TH,rfl,aS,by simp[q0],by simp[q8],by simp,J4⟩
    .have KY:(r.on.2 !=0)=true:=by simpa using hn
     simp[Q0,vM,KY,q0,rt,-ag,aq Q0];refine aE.call (V:=Yk n0 ai κ cap B bH j t u h2) (by simpa using Ku g2.ok J2.O (by have:=g2.next;omega) agf κF' J.tf hr (to:=t) (oth:=u) (.inl jT) (by omega)) ?_;rintro _ h4 Q4;obtain⟨κ4,TH,J4⟩:=fin t u h4 _ (.inl jT) Q4;simp[q9,wj];exact⟨rs.length-(j+1),by omega,j+1,κ4,TH,rfl,aS,by simp[q0],by simp[q8],by simp,J4⟩
  .have vM:(r.kind !=3)=true:=by simpa using hk
   simp[Q0,vM,q9,wj];exact skip _ _ J2 (by simp[q0]) (by simp[q8]) (by simp)
 .have:j=rs.length:=by omega
  subst this;simp[q8,q9];exact⟨κ,bH,J⟩
theorem Z4 (O:mF h n0 ai κ cap B rs) (w:TF0 rs) (V:BVs ai rs bs):Dt ai (Edge.bw (bj bs)) bs:=by
 have Ez:=w.Ez;have hl:=V.1;have Br:=V.dw;have pK:(bz rs).length=rs.length:=dx rs;have row: ∀(i:Nat) (ps:List Int),(Edge.bw (bj bs))[i]? =some ps->ps.length<50/\ ∀x∈ps,0<=x/\x<bs.length:=fun i ps hp=>by
  rw[Br] at hp;refine⟨w.JC ps (dk hp),fun x hx=> ?_⟩;have h2:x∈((Edge.bw (bz rs))[i]?).getD []:=by rw[hp];exact hx
  obtain⟨j,rfl,ts,jT,_⟩:=(Edge.qk w.nat).1 h2;have:=(bY.mp jT).1;omega
 have at': ∀(i:Nat) (b:GB),bs[i]? =some b-> ∃r,rs[i]? =some r/\BV ai r b:=fun i b hb=>by obtain⟨r,hr⟩: ∃r,rs[i]? =some r:=⟨_,aX (by rw[<-hl];exact(bY.mp hb).1)⟩;exact⟨r,hr,V.2 i r b hr hb⟩
 have mem: ∀b∈bs,∃(i:Nat) (r:XR),rs[i]? =some r/\BV ai r b:=fun b hb=>by obtain⟨i,hi⟩:=rT hb;obtain⟨r,hr,v⟩:=at' i b hi;exact⟨i,r,hr,v⟩
 refine⟨by omega,by rw[Edge.dz,Br,pK,hl],fun i ps hp=>⟨by have:=(row i ps hp).1;omega,(row i ps hp).2⟩,fun i b ps hb hp=> ?_,fun b hb=> ?_,fun b hb=> ?_,fun b hb=> ?_⟩
 .obtain⟨r,hr,v⟩:=at' i b hb;have sz:=(w.size r (dk hr)).1;refine⟨by rw[v.pl];omega,fun q hq=> ?_⟩;obtain⟨j,hj⟩:=rT hq;obtain⟨q0,XZ⟩: ∃q,r.ps[j]? =some q:=⟨_,aX (by rw[<-v.pl];exact(bY.mp hj).1)⟩;obtain⟨e1,e2,e3⟩:=v.ps j q0 q XZ hj;have hm:=dk XZ;have hd:=((O.os.r i r hr).ps q0 hm).1;rw[Br] at hp;have vb:=w.Ff i r ps hr hp q0 hm;exact⟨by rw[e1];exact hd,by omega,e3⟩
 .obtain⟨i,r,hr,v⟩:=mem b hb;have sz:=(w.size r (dk hr)).2;refine⟨by rw[v.ll];omega,fun x hx=> ?_⟩;obtain⟨j,hj⟩:=rT hx;obtain⟨q0,XZ⟩: ∃q,r.ls[j]? =some q:=⟨_,aX (by rw[<-v.ll];exact(bY.mp hj).1)⟩;obtain⟨⟨c1,c2,c3,c4,c5⟩,_⟩:=v.ls j q0 x XZ hj;obtain⟨a1,a2,a3,_⟩:=(O.os.r i r hr).ls q0 (dk XZ);exact⟨by rw[<-c2];exact a1,by rw[<-c3];exact a2,by rw[<-c4];exact a3⟩
 .obtain⟨i,r,hr,v⟩:=mem b hb;rw[v.on];exact(O.os.r i r hr).on
 .obtain⟨i,r,hr,v⟩:=mem b hb;have hm:=dk hr;have h2:=w.two r hm;rw[v.to];refine⟨by omega,fun t ht=> ?_⟩;have:=w.to r hm t ht;omega
structure kO (az:Int) (fx:List (Int×Int)) (rs xs:List XR):Prop where
 len:xs.length=rs.length
 at_: ∀(i:Nat) (r x:XR),rs[i]? =some r->xs[i]? =some x->xh az fx r x
section
variable {az:Int} {fx:List (Int×Int)} {rs xs:List XR}
theorem kO.back (T:kO az fx rs xs) (h:xs[i]? =some x): ∃r,rs[i]? =some r/\xh az fx r x:=by obtain⟨r,hr⟩: ∃r,rs[i]? =some r:=⟨_,aX (by rw[<-T.len];exact(bY.mp h).1)⟩;exact⟨r,hr,T.at_ i r x hr h⟩
theorem kO.mem (T:kO az fx rs xs) (h:x∈xs): ∃r∈rs,xh az fx r x:=by obtain⟨i,hi⟩:=rT h;obtain⟨r,hr,t⟩:=T.back hi;exact⟨r,dk hr,t⟩
theorem kO.ts (T:kO az fx rs xs):bz xs=bz rs:=by
 refine zV fun i=> ?_;unfold bz;rw[tQ,tQ];rcases AV i xs.length with hi|hi
 .obtain⟨x,hx⟩: ∃x,xs[i]? =some x:=⟨_,aX hi⟩;obtain⟨r,hr,t⟩:=T.back hx;rw[hr,hx];simp only[CJ];rw[t.ts]
 .rw[uI hi,uI (by rw[<-T.len];exact hi)]
theorem kO.aiG (T:kO az fx rs xs) (f:XR->Nat) (hf: ∀r x,xh az fx r x->f x<=f r):(xs.map f).sum<=(rs.map f).sum:=by
 have key: ∀(xs rs:List XR),xs.length=rs.length->(∀(i:Nat) (r x:XR),rs[i]? =some r->xs[i]? =some x->f x<=f r)->(xs.map f).sum<=(rs.map f).sum:=by
  intro xs;induction xs with
  |nil=>intro rs _ _;simp
  |cons x xs ih=>
   intro rs hl H;cases rs with
   |nil=>simp at hl
   |cons r rs=>
    have h0:=H 0 r x rfl rfl;have h1:=ih rs (by simpa using hl) (fun i r x a b=>H (i+1) r x a b);simp only[Fw,Mu];omega
 exact key xs rs T.len (fun i r x a b=>hf r x (T.at_ i r x a b))
theorem SP (ls:List XI):(uH az fx ls).length<=ls.length:=by unfold uH;exact ug (QT _ _) (by simp)
theorem kO.tf (T:kO az fx rs xs) (w:TF0 rs):TF0 xs:=by
 have jT:=T.ts;refine⟨by rw[T.len];exact w.n1,by rw[T.len];exact w.Ez,fun x hx=> ?_,fun x hx t ht=> ?_,fun k x hx q hq=> ?_,?_,fun x hx y hy=> ?_,fun k hk=> ?_⟩
 .obtain⟨r,hr,t⟩:=T.mem hx;unfold TM;rw[t.kind,t.ts];exact w.kind r hr
 .obtain⟨r,hr,t'⟩:=T.mem hx;rw[t'.ts] at ht;rw[T.len];exact w.to r hr t ht
 .obtain⟨r,hr,t⟩:=T.back hx;rw[t.ps] at hq;rw[jT,T.len];exact w.rows k r hr q (NA.1 hq).1
 .refine ug (T.aiG oN (fun r x t=> ?_)) w.sum;unfold oN;rw[t.ps,t.ls];have:=SP (az:=az) (fx:=fx) r.ls;have:(uy (Jd fx) r.ps).length<=r.ps.length:=QT _ _;omega
 .obtain⟨r,hr,t⟩:=T.mem hx;rw[t.ls] at hy;obtain⟨z,hz,rfl⟩:=j9.1 (NA.1 hy).1;exact w.al r hr z hz
 .rw[T.len] at hk;rw[jT,T.len];exact w.short k hk
theorem kO.two (T:kO az fx rs xs) (w:Two rs):Two xs:=by intro x hx h3;obtain⟨r,hr,t⟩:=T.mem hx;rw[t.kind] at h3;rw[t.ts];exact w r hr h3
theorem kO.qg (T:kO az fx rs xs):fN (fun s=> !fg az s) xs<=fN (fun s=> !fg az s) rs:=by unfold fN;exact T.aiG _ (fun r x t=>by rw[t.ls];exact RE az fx r.ls)
end
section
variable {S d m:Nat} {name:ByteArray} {p r:Int} {B AH:SV} {n0 ai:Nat} {κ0 cap:Nat->Nat} {rs:List XR} {fx:List (Int×Int)}
structure TdO (h:ae) (n0 ai:Nat) (κ0 cap:Nat->Nat) (az:Int) (fx:List (Int×Int)) (rs:List XR) (j:Nat) (h':ae) (κ:Nat->Nat) (xs:List XR) (W:SV):Prop where
 g:ab (fun b=>κ0 b=1\/κ0 b=3) h h'
 low: ∀b,b<h.next->κ b=κ0 b
 O:cq h' n0 ai κ cap xs
 len:xs.length=rs.length
 at_: ∀(i:Nat) (r x:XR),rs[i]? =some r->xs[i]? =some x->(i<j->xh az fx r x)/\(j<=i->x=r)
 acc:cI fe h.next h' W.v (xs.take j)
 κW: ∀b,ax W.v b->κ b=0
def TdI (h:ae) (n0 ai:Nat) (κ0 cap:Nat->Nat) (az:Int) (fx:List (Int×Int)) (rs:List XR) (S F R:Nat) (mm:Nat) (e':Env) (h':ae):Prop:=
 ∃(j:Nat) (κ:Nat->Nat) (xs:List XR) (W:SV),mm=rs.length-j/\j<=rs.length/\Env.get e' 0= .int .i64 az/\Env.get e' 3= .pointer (some ⟨F,0,none⟩)/\Env.get e' 4= .pointer (some ⟨R,0,none⟩)/\Env.get e' 5= .pointer (some ⟨S,0,none⟩)/\Env.get e' 6=W.v/\Env.get e' 12= .int .i64 rs.length/\Env.get e' 13= .int .i64 j/\TdO h n0 ai κ0 cap az fx rs j h' κ xs W
theorem Ml (ok:bu h) (O:mF h n0 ai κ0 cap B rs) (um:n0<=h.next) (w:TF0 rs) (hv:Sv h S d m ai name p r B AH fx) (κS:κ0 S=0) (κd:κ0 d=0) (hw:0<=az/\az<1000000000) {F R:Nat}
  {e:Env} {Q:aP->Env->ae->Prop} (f0:Env.get e 0= .int .i64 az) (f3:Env.get e 3= .pointer (some ⟨F,0,none⟩)) (f4:Env.get e 4= .pointer (some ⟨R,0,none⟩)) (f5:Env.get e 5= .pointer (some ⟨S,0,none⟩)) (f6:Env.get e 6=fI.v) (f12:Env.get e 12= .int .i64 rs.length) (f13:Env.get e 13= .int .i64 0)
  (C: ∀e' h' κ xs W,Env.get e' 3= .pointer (some ⟨F,0,none⟩)->Env.get e' 4= .pointer (some ⟨R,0,none⟩)->Env.get e' 6=SV.v W->TdO h n0 ai κ0 cap az fx rs rs.length h' κ xs W->Q (.exit 0) e' h'):aB FF (.loop pt) e h Q:=by
 have Ez:=w.Ez;have lS:S<h.next:=by obtain⟨s,aV,hS⟩:=hv.hS;exact ok.wf _ _ hS
 have ld:d<h.next:=by obtain⟨s,hd⟩:=hv.hd;exact ok.wf _ _ hd
 refine aB.loop (TdI h n0 ai κ0 cap az fx rs S F R) ?_ (n:=rs.length) ⟨0,κ0,rs,fI,rfl,by omega,f0,f3,f4,f5,f6,f12,f13,.refl ok,fun _ _=>rfl,O.os,rfl,fun i r x a b=>⟨fun h=>by omega,fun _=>by rw[a] at b;cases b;rfl⟩,.inl ⟨by simp,rfl⟩,fun b hb=>(fW rfl hb).elim⟩;rintro mm e' h' ⟨j,κ,xs,W,rfl,hj,q0,q3,q4,q5,q6,kg,WJ,T⟩;have bX:=T.g.ok;unfold pt;by_cases aS:j<rs.length
 .have wj:=wrap_i64 ((j:Int)+1) (by omega) (by omega);obtain⟨r0,AY⟩: ∃r0,rs[j]? =some r0:=⟨_,aX aS⟩;obtain⟨x0,Le⟩: ∃r0,xs[j]? =some r0:=⟨_,aX (by rw[T.len];exact aS)⟩;have e0:=(T.at_ j r0 x0 AY Le).2 (dK _);subst e0;have hm:=dk AY;have sz:=w.size x0 hm;have Ha: ∀q∈x0.ps,q.2.l<=1048576:=fun q hq=>by have:=w.rows j x0 AY q hq;have:=w.short j aS;omega
  have A':e_ fe h' B rs:=O.A.grow ok T.g (fun b hb e=>by have:=O.kB b hb;omega);have v':=hv.grow ok T.g (by omega) (by omega);have ln:=T.g.next;simp[q0,q3,q5,q6,kg,WJ,aS];refine aE.call (V:=T8 h' n0 ai κ cap xs j x0 az fx) (by simpa using SS bX T.O (by omega) v' (by rw[T.low S lS];exact κS) (by rw[T.low d ld];exact κd) hw Le A' AY sz.2 (w.al x0 hm) sz.1 Ha) ?_;rintro _ h2 ⟨g2,x',κ',rfl,tr,ah2,_,O2⟩;have bA: ∀b,ax W.v b->b<h'.next:=fun b hb=>(cI.arr T.acc).bA bX hb;have alk:=T.acc.grow bX g2 (fun b hb e=>by have:=T.κW b hb;omega);simp;have g3:=aO g2.ok (fe.enc x') 0;have alm:=alk.grow g2.ok g3 (fun _ _ h=>h);have hw5:bk fe (aL h2 (fe.enc x') 0) (.slice (some ⟨h2.next,0,none⟩) 1 1) [x']:=xF (cx _ _ _);have l2:=g2.next;obtain⟨v4,h4,ha,afD,g4,hd4⟩:=pY (bytes:=96) g3.ok (z:=[.slice none 0 0,.slice none 0 0,.int .i64 0,.bool false,.int .i64 0,.slice none 0 0]) rfl alm hw5 (by simp;omega) (by decide) (by simp;omega);obtain⟨W',rfl⟩:=cI.sv' afD;refine kE (by simpa using ha) ?_;have k2: ∀b,h2.next<=b->κ' b=0:=fun b hb=>by
   rcases tP (κ' b) with h1|h1
   .exact h1
   .have:=(O2.new b (by omega)).2;omega
  have kW2: ∀b,ax W.v b->κ' b=0:=fun b hb=>by rw[ah2 b (bA b hb)];exact T.κW b hb
  have O4:=(O2.bt g2.ok g3).grow g3.ok g4 (fun b hb=> .inl (kW2 b hb));have Hb:(xs.set j x').take (j+1)=xs.take j++[x']:=by rw[yn,List.take_set_of_le (dK _),eR,aU rfl,aU (by rw[T.len];exact aS)];rfl
  simp[WJ,wj];refine⟨rs.length-(j+1),by omega,j+1,κ',xs.set j x',W',rfl,aS,by simp[q0],by simp[q3],by simp[q4],by simp[q5],by simp,by simp[kg],by simp,?_,fun b hb=>by rw[ah2 b (by omega),T.low b hb],O4,by simp[T.len],fun i a c h1 h2=> ?_,by rw[Hb];exact afD,fun b hb=>k2 b (by have:=hd4 b hb;simp at this;omega)⟩
  .refine((T.g.trans' g2 (fun _ _ h=>h) (fun x hx e=>by rw[T.low x hx] at e;exact e)).trans g3.bt).trans' g4 (fun _ _ h=>h) (fun x hx e=> ?_);have:=T.acc.of e;omega
  .rw[eR] at h2;by_cases e1:j=i
   .subst e1;rw[aU rfl,aU (by rw[T.len];exact aS)] at h2;cases h2;rw[AY] at h1;cases h1;exact⟨fun _=>tr,fun h=>by omega⟩
   .rw[aT e1] at h2;obtain⟨a1,a2⟩:=T.at_ i a c h1 h2;exact⟨fun h=>a1 (by omega),fun h=>a2 (by omega)⟩
 .have:j=rs.length:=by omega
  subst this;simp[kg,WJ];exact C _ _ κ xs W (by simp[q3]) (by simp[q4]) (by simp[q6]) T
end
theorem cq.ext {κ κ' cap:Nat->Nat} (w:cq h n0 ai κ cap rs) (e: ∀b,κ b≠0->κ' b=κ b) (e1: ∀b,κ' b=1->κ b=1) (new: ∀b,κ' b≠0->n0<=b/\b<h.next):cq h n0 ai κ' cap rs:=
 ⟨fun i r hr=>(w.r i r hr).congr (fun b hb=>⟨e b hb,rfl⟩),w.dP,w.dL,w.dT,fun b hb=>w.V b (e1 b hb),new⟩
theorem ON (ok:bu h) {name:ByteArray} {p n0 ai:Nat} (um:n0<=h.next) (O:mF h n0 ai κ0 cap B rs) (w:TF0 rs) (w2:Two rs) (hp:p<=ai) (CN:ai<1000000) (hw:0<=az/\az<1000000000):
  aF FF yy [.int .i64 az,.agg ⟨au name p ai B⟩] h (Gt (fun _ bH=>fN (fun s=> !fg az s) bH<=fN (fun s=> !fg az s) rs) name p n0 κ0 h):=by
 classical
 obtain⟨bs,IP,V⟩:=O.view;have E:=V.ends w.tok;have I:=Z4 O w V;have κhi: ∀b,h.next<=b->κ0 b=0:=fun b hb=>by
  rcases tP (κ0 b) with h1|h1
  .exact h1
  .have:=(O.os.new b (by omega)).2;omega
 have n1: ¬h.next=h.next+1:=by omega
 have n1': ¬h.next+1=h.next:=by omega
 refine aF.of FL ?_;unfold yg;simp[au,n1];refine aE.cut (fun h1=>ab aG h h1/\(∃s,h1.tr.get h.next=some (.aA (au name p ai B) false 0 s))/\ ∃s,h1.tr.get (h.next+1)=some (.aA [.string ⟨⟨[]⟩⟩,.int .i64 0,.int .i64 0,.slice none 0 0] false 0 s)) ?_ ?_
 .exact⟨((ab.refl ok).new _ _).new _ _,⟨0,by simp[n1,au]⟩,0,by simp⟩
 rintro h1 ⟨g1,⟨sF,wK⟩,sR,sG⟩;have lR:=g1.ok.wf _ _ sG;refine aE.call (V:=T6 h1 ai name p ai B) (by simpa [au] using OQ g1.ok (name:=name) (P:=p) (n:=ai) (IP.mono ok g1) E I hp (by omega)) ?_;rintro _ h2 ⟨g2,S,d,m,AH,fx,rfl,lS,ld,hv,_⟩;have iI:=g1.trans g2;have kx:=g2.get g1.ok wK (fun h=>h);have xW:=g2.get g1.ok sG (fun h=>h);have O2:=O.bt ok iI;have vG:=kx;simp[au] at vG;have ew:=O.A.len;have l1:=g1.next;have l2:=g2.next;simp[vG];refine Ml g2.ok O2 (by omega) w hv (κhi _ (by omega)) (κhi _ (by omega)) hw (F:=h.next) (R:=h.next+1) (by simp) (by simp) (by simp) (by simp) (by simp[fI]) (by simp[ew]) (by simp) ?_;intro e3 h3 κ xs W q3 q4 q6 T;have T2:kO az fx rs xs:=⟨T.len,fun i r x a b=>(T.at_ i r x a b).1 (bY.mp a).1⟩;have κF0:κ0 h.next=0:=κhi _ (dK _);have κR0:κ0 (h.next+1)=0:=κhi _ (by omega);have vH:=T.g.get g2.ok vG (by omega);have Ga:=T.g.get g2.ok xW (by omega);have l3:=T.g.next;have uh:=T.acc;rw[<-T.len,xV] at uh;have A3:=cI.arr uh;simp[q3,q4,q6,vH];refine aE.cut (fun h4=>ab (· =h.next) h3 h4/\ ∃s,h4.tr.get h.next=some (.aA (au name p ai W) false 0 s)) ?_ ?_
 .exact⟨aM T.g.ok vH,h3.clock,by simp[au,aJ]⟩
 rintro h4 ⟨g4,sF4,F9⟩;obtain⟨κ',hκ⟩: ∃κ':Nat->Nat,∀b,κ' b=if ax W.v b then 2 else κ b:=⟨fun b=>if ax W.v b then 2 else κ b,fun b=>rfl⟩
 have nW: ∀b,ax W.v b->h2.next<=b:=fun b hb=>uh.of hb;have Lp: ∀b,b<h2.next->κ' b=κ0 b:=fun b hb=>by rw[hκ,aT (fun e=>by have:=nW b e;omega)];exact T.low b hb
 have κF:κ h.next=0:=by rw[T.low _ (by omega)];exact κF0
 have O4:mF h4 n0 ai κ' cap W xs:=by
  refine⟨(T.O.grow T.g.ok g4 (fun b e=> .inl (by rw[e];exact κF))).ext (fun b hb=> ?_) (fun b hb=> ?_) (fun b hb=> ?_),A3.grow T.g.ok g4 (fun b hb e=>by have:=nW b hb;omega),fun b hb=>by rw[hκ,aU hb]⟩
  .rw[hκ,aT (fun e=>hb (T.κW b e))]
  .rw[hκ] at hb;split at hb
   .omega
   .exact hb
  .rw[hκ] at hb;split at hb
   .rename_i e;have:=nW b e;have:=A3.bA T.g.ok e;have:=g4.next;omega
   .have:=T.O.new b hb;have:=g4.next;omega
 have l4:=g4.next;refine aE.call (V:=fun _ h'=> ∃κ bH,JmP n0 ai κ' cap W xs h4 h' κ bH) (by simpa [q3] using N_ g4.ok O4 (by omega) F9 (by rw[Lp _ (by omega)];exact κF0) (T2.tf w) (T2.two w2)) ?_;rintro _ h5 ⟨κ5,rs5,J⟩;have κF4:κ' h.next=0:=by rw[Lp _ (by omega)];exact κF0
 have κR4:κ' (h.next+1)=0:=by rw[Lp _ (by omega)];exact κR0
 have NG:=J.g.get g4.ok F9 (fun e=>e κF4);have u9:=J.g.get g4.ok (g4.get T.g.ok Ga (by omega)) (fun e=>e κR4);have l5:=J.g.next;have UT:=NG;simp[au] at UT;simp[q3,q4,UT];refine aE.call (V:=aap name p n0 ai κ5 rs5 h5) (by simpa [au] using SN J.g.ok (name:=name) (by omega) J.O J.tf hp CN) ?_;rintro _ h6 ⟨g6,B6,rs6,κ6,wy,many,rfl,arb,ah3,O6,hl6,hs6,hc6⟩;have κR5:κ5 (h.next+1)=0:=by rw[J.low _ (by omega)];exact κR4
 have KJ:=g6.get J.g.ok u9 (fun e=>e κR5);have κR6:κ6 (h.next+1)=0:=by rw[ah3 _ (by omega)];exact κR5
 simp[au,q4,KJ];have g7:=aM (off:=0) (vs:=[Value.string name,.int .i64 p,.int .i64 many,.slice B6.a B6.l B6.c]) g6.ok KJ;have z2:ab (fun x=>κ0 x≠0) h h3:=iI.bt.trans' T.g (fun _ _ h=>h) (fun x hx e=>by omega);have z4:ab (fun x=>κ0 x≠0) h h4:=z2.trans' g4 (fun _ _ h=>h) (fun x hx e=>by omega);have z5:ab (fun x=>κ0 x≠0) h h5:=z4.trans' J.g (fun _ _ h=>h) (fun x hx e=>by rw[Lp x (by omega)] at e;exact e);have z6:ab (fun x=>κ0 x≠0) h h6:=z5.trans' g6 (fun _ _ h=>h) (fun x hx e=>by rw[J.low x (by omega),Lp x (by omega)] at e;exact e);refine⟨z6.trans' g7 (fun _ _ h=>h) (fun x hx e=>by omega),B6,rs6,κ6,wy,ai,many,by simp[au],fun x hx=>by rw[ah3 x (by omega),J.low x (by omega),Lp x (by omega)],O6.grow g6.ok g7 (fun x e=>by rw[e];exact κR6),hl6.2,hs6,?_⟩;have c1:=(hc6 (fun s=> !fg az s)).1;have c2:=J.qg (fun s=> !fg az s);have c3:=T2.qg;omega
def SpP (az:Int):BG:=fun f _ rs=>fN (fun s=> !fg az s) rs<=Nh (fun s=> !fg az s) f.blocks
theorem Xs {f:GF} (F:mU f) (R:Pp rs f.blocks):Two rs:=by
 intro r hr h3;obtain⟨b,hb,rd⟩:=R.mem hr;rw[rd.kind] at h3;rw[rd.to];rcases(F.body.ends b hb).kind with⟨e,_⟩|⟨e,_⟩|⟨_,t,u,e,cJ⟩
 .omega
 .omega
 .exact⟨t,u,e,cJ⟩
theorem SE (ok:bu h) (hw:0<=az/\az<1000000000) {W sW:Nat} (hW:h.tr.get W=some (.aA [.int .i64 az] false 0 sW)) {name:ByteArray} {p n0 ai:Nat} {κ0 ub:Nat->Nat} (um:n0<=h.next) (O:mF h n0 ai κ0 ub B rs) (T:TF0 rs) (T2:Two rs) (hp:p<=ai) (CN:ai<1000000):
  cP FF (.func (.func tE) #[] #[.pointer (some ⟨W,0,none⟩)]) [.agg ⟨au name p ai B⟩] h (Gt (fun _ bH=>fN (fun s=> !fg az s) bH<=fN (fun s=> !fg az s) rs) name p n0 κ0 h):=by
 have κnew: ∀x,h.next<=x->κ0 x=0:=fun x hx=>by
  have hw:=O.os.new x;rcases tP (κ0 x) with h1|h1
  .exact h1
  .have:=(hw (by omega)).2;omega
 refine cP.func ?_;refine aF.of FM ?_;unfold yh;have n1: ¬h.next=h.next+1:=by omega
 have lW:=ok.wf _ _ hW;have oW:=ok.bA hW;have nW1: ¬W=h.next:=by omega
 have nW2: ¬W=h.next+1:=by omega
 simp[au,n1,hW,nW1,nW2];refine aE.cut (fun h1=>ab aG h h1/\(∃s,h1.tr.get (h.next+1)=some (.aA [.string ⟨⟨[]⟩⟩,.int .i64 0,.int .i64 0,.slice none 0 0] false 0 s))) ?_ ?_
 .exact⟨((ab.refl ok).new _ _).new _ _,⟨0,by simp⟩⟩
 rintro h1 ⟨g1,⟨sR,sG⟩⟩;have l1:=g1.next;have lR:=g1.ok.wf _ _ sG;refine aE.call (V:=Gt (fun _ bH=>fN (fun s=> !fg az s) bH<=fN (fun s=> !fg az s) rs) name p n0 κ0 h1) (by simpa [au] using ON g1.ok (name:=name) (p:=p) (by omega) (O.bt ok g1) T T2 hp CN hw) ?_;rintro _ h2 ⟨g2,B2,TG,κ2,Kl,aiv,many,rfl,iM,O2,tT,hs2,anu⟩;have xW:=g2.get g1.ok sG (fun e=>e (κnew _ (by omega)));simp[au,xW];have gw:=(ab.refl g2.ok).put (S:=(· =h.next+1)) (off:=0) (vs:=[Value.string name,Value.int .i64 p,Value.int .i64 many,Value.slice B2.a B2.l B2.c]) ⟨_,xW⟩ (.inr rfl);generalize put h2 _ _ _ _ _=h3 at gw ⊢;have κR2:κ2 (h.next+1)=0:=by rw[iM _ (by omega)];exact κnew _ (by omega)
 exact⟨(g1.bt.trans g2).trans' gw (fun _ _ e=>e) (fun x hx e=>by omega),B2,TG,κ2,Kl,aiv,many,by simp[au],fun x hx=>iM x (by omega),O2.grow g2.ok gw (fun b e=>by rw[e];exact κR2),tT,hs2,anu⟩
def DoQ (P:BG) (u:GU) (h:ae) (v:Value) (h':ae):Prop:=
 ab aG h h'/\ ∃(G' F':SV) (c a:Int),v= .tuple #[.agg ⟨[G'.v,F'.v]⟩,.agg ⟨[.int .i64 c,.int .i64 a]⟩]/\
  ((c≠0/\G'=fI/\F'=fI)\/(c=0/\Ds u/\ ∃M ys zs,e_ DU h' G' ys/\JZ ys u.globals/\e_ zR h' F' zs/\zs.length=u.funcs.length/\ ∀(i:Nat) (z:XF) (f:GF),zs[i]? =some z->u.funcs[i]? =some f->zu M P h' z f))
theorem Xf (ok:bu h) (hw:CA h) {G F:SV} (hu:uR h G F u) (sm:A8 u) (hL: ∀f∈u.funcs,Dp f):
  aF FF Ch [.agg ⟨[G.v,F.v]⟩] h (DoQ (SpP (dR u.globals)) u h):=by
 refine aF.of Kd ?_;unfold BK;have e1: ¬h.next=h.next+1:=by omega
 have e2: ¬h.next=h.next+1+1:=by omega
 simp[e1,e2];refine aE.cut (fun h1=>ab aG h h1/\(∃s,h1.tr.get h.next=some (.aA [G.v,F.v] false 0 s))/\(∃s,h1.tr.get (h.next+1)=some (.aA [.slice none 0 0,.slice none 0 0] false 0 s))/\(∃s,h1.tr.get (h.next+1+1)=some (.aA [.int .i64 0,.int .i64 0] false 0 s))) ?_ ?_
 .exact⟨(((ab.refl ok).new _ _).new _ _).new _ _,⟨0,by simp[e1,e2]⟩,⟨0,by simp⟩,⟨0,by simp⟩⟩
 rintro h1 ⟨g1,⟨sU,XL⟩,⟨s1,UP⟩,⟨s2,hB1⟩⟩;refine aE.call (V:=Dm (Ds u) h1) (by simpa using L6 g1.ok (hw.grow ok g1) (hu.mono ok g1) sm) ?_;rintro _ h2 ⟨g2,c,a,rfl,hc⟩;have iI:=g1.trans g2;have CL:=g2.get g1.ok XL (fun h=>h);have IJ:=g2.get g1.ok UP (fun h=>h);have ND:=g2.get g1.ok hB1 (fun h=>h);have lB:=g1.ok.wf _ _ hB1;have l2:=g2.next;have nAB: ¬h.next+1+1=h.next+1:=by omega
 have nBA: ¬h.next+1=h.next+1+1:=by omega
 rcases hc with hc|⟨rfl,rfl,hS⟩
 .have MA:(c==0)=false:=by simp[hc]
  have nA2: ¬h.next+1=h2.next:=by omega
  have nB2: ¬h.next+1+1=h2.next:=by omega
  have aoF: ¬h2.next=h.next+1:=by omega
  have aoG: ¬h2.next=h.next+1+1:=by omega
  simp[MA,IJ,ND,nA2,nB2,aoF,aoG,nAB,nBA,av,ay];have g3:ab aG h (tick (put (aL h2 [.int .i64 0,.int .i64 0] 0) h2.next 0 [.int .i64 0,.int .i64 0] [.int .i64 c,.int .i64 a] 0)):=(iI.var _ _).tick;exact⟨(g3.put ⟨s1,by simp[IJ,nA2]⟩ (.inl (by omega))).put ⟨s2,by simp[ND,nB2,nAB]⟩ (.inl (by omega)),fI,fI,c,a,rfl,.inl ⟨hc,rfl,rfl⟩⟩
 .have IN:=CL;simp at IN;have nU: ¬h.next=h2.next:=by omega
  simp[IN,nU];refine aE.cut (fun h3=>ab aG h2 h3) ((ab.refl g2.ok).var _ _) ?_;intro h3 g3;have dh:=iI.trans g3;have C:TO u.globals:=⟨hS.unit.gn,fun g hg=>⟨(hS.unit.gs g hg).1,(hS.unit.gs g hg).2.1⟩⟩;refine aE.call (V:=HO u.globals h3) (by simpa using Lq (F:=F) dh.ok (aaz (hu.1.mono ok dh fun _ _ r=>r)) C) ?_;rintro _ h4 ⟨g4,rfl⟩;have Mt:=g3.trans g4;have PI:=Mt.get g2.ok CL (fun h=>h);have Td:=Mt.get g2.ok IJ (fun h=>h);have YL:=Mt.get g2.ok ND (fun h=>h);have Gb:=PI;simp at Gb;have lB4:=g4.ok.wf _ _ YL;have nU4: ¬h.next=h4.next:=by omega
  simp[Gb,nU4];refine aE.cut (fun h5=>ab aG h4 h5/\ ∃s,h5.tr.get h4.next=some (.aA [.int .i64 (dR u.globals)] false 0 s)) ⟨(ab.refl g4.ok).var _ _,h4.clock,by simp[aJ]⟩ ?_;rintro h5 ⟨g5,sW,hW5⟩;have u7:=(dh.trans g4).trans g5;have yo:=g5.get g4.ok Td (fun h=>h);have XH:=g5.get g4.ok YL (fun h=>h);have hwd:=BF C.2;have hgl:=C.1;refine aE.call (V:=aai (SpP (dR u.globals)) u.globals u.funcs h5) (by simpa using QO (P:=SpP (dR u.globals)) (fv:= .func (.func tE) #[] #[.pointer (some ⟨h4.next,0,none⟩)]) u7.ok (hu.mono ok u7) C.1 (fun g hg=>by have:=(hS.unit.gs g hg).2;omega) hS.unit.fn (fun f hf=>⟨hS.form f hf,hL f hf,hS.seen f hf⟩) (fun f hf h1 pn n0 ai κ cap B rs a1 a2 a3 a4 a5 a6 a7 a8 a9 a10=>by have K:=SE a1 (az:=dR u.globals) (by omega) (a2.get u7.ok hW5 (fun h=>h)) (name:=f.name) a3 a9 (Z7 (hS.form f hf) (hL f hf) (hS.seen f hf) a10).toTF0 (Xs (hS.form f hf) a10) a7 a8;refine K.mono (fun v h' q=> ?_);obtain⟨q1,B',bH,κ',iK,aiu,many,q2,q3,q4,q5,q6,q7⟩:=q;exact⟨q1,B',bH,κ',iK,aiu,many,q2,q3,q4,q5,q6,by rw[Um a10] at q7;exact q7⟩)) ?_
  rintro _ h6 ⟨g6,G',F',c,a,rfl,hc⟩;have YK:=g6.get g5.ok yo (fun h=>h);have hB6:=g6.get g5.ok XH (fun h=>h);simp[YK,hB6,nAB,nBA];have gw:=((ab.refl g6.ok).put (S:=fun x=>x=h.next+1\/x=h.next+1+1) (off:=0) (vs:=[Value.slice G'.a G'.l G'.c,Value.slice F'.a F'.l F'.c]) ⟨_,YK⟩ (.inr (.inl rfl))).put (b:=h.next+1+1) (off:=0) (cs:=[.int .i64 0,.int .i64 0]) (o:=0) (vs:=[.int .i64 c,.int .i64 a]) ⟨s2,by simp[hB6]⟩ (.inr (.inr rfl));generalize put (put h6 _ _ _ _ _) _ _ _ _ _=h7 at gw ⊢;have l6:h.next+1+1<h5.next:=g5.ok.wf _ _ XH;refine⟨(u7.trans g6).trans' gw (fun _ _ h=>h) (fun x hx e=>by omega),G',F',c,a,by simp,?_⟩;rcases hc with hc|⟨hc,N,M,ys,zs,hM,A1,A2,A3,A4,A5⟩
  .exact .inl hc
  .exact .inr ⟨hc,hS,M,ys,zs,A1.grow g6.ok gw (fun b hb e=>by have:=N b (.inl hb);omega),A2,A3.grow g6.ok gw (fun b hb e=>by have:=N b (.inr hb);omega),A4,fun i z f a b=>(A5 i z f a b).grow g6.ok gw (fun x e=> .inl (by omega))⟩
theorem Uo (V:BVs ai rs bs) (φ:Sh->Bool):Nh φ bs=fN φ rs:=by
 unfold fN Nh;congr 1;refine zV fun i=> ?_;rw[tQ,tQ];rcases AV i rs.length with hi|hi
 .obtain⟨r,hr⟩: ∃r,rs[i]? =some r:=⟨_,aX hi⟩;obtain⟨b,hb⟩: ∃b,bs[i]? =some b:=⟨_,aX (by rw[V.1];exact hi)⟩;have v:=V.2 i r b hr hb;rw[hr,hb];simp only[CJ];rw[zP];unfold Uk;have:r.ls.map MK=b.list.map shG:=by
   refine zV fun j=> ?_;rw[tQ,tQ];rcases AV j r.ls.length with hj|hj
   .obtain⟨q,hq⟩: ∃q,r.ls[j]? =some q:=⟨_,aX hj⟩;obtain⟨p,hp⟩: ∃p,b.list[j]? =some p:=⟨_,aX (by rw[v.ll];exact hj)⟩;rw[hq,hp];simp only[CJ];rw[Qo (v.ls j q p hq hp).1]
   .rw[uI hj,uI (by rw[v.ll];exact hj)];rfl
  rw[this,List.filter_map,XE];rfl
 .rw[uI hi,uI (by rw[V.1];exact hi)];rfl
theorem Qr {α:Type} (f:α->Nat): ∀(xs ys:List α),xs.length=ys.length->(∀(i:Nat) (x y:α),xs[i]? =some x->ys[i]? =some y->f x<=f y)->(xs.map f).sum<=(ys.map f).sum
 |[],[],_,_=>dK _
 |[],_::_,h,_=>by simp at h
 |_::_,[],h,_=>by simp at h
 |x::xs,y::ys,h,H=>by have h0:=H 0 x y rfl rfl;have h1:=Qr f xs ys (by simpa using h) (fun i a b p q=>H (i+1) a b p q);simp only[Fw,Mu];omega
theorem QM {M:Nat} {F':SV} {zs:List XF} {fs:List GF} (hF:e_ zR h F' zs) (hl:zs.length=fs.length) (D: ∀(i:Nat) (z:XF) (f:GF),zs[i]? =some z->fs[i]? =some f->zu M (SpP az) h z f) (Tc:fs.length<=10):
  ∃XA:List GF,XA.length=fs.length/\SliceR (fR h) 4 h F'.v XA/\sQ az XA<=sQ az fs/\Yj XA:=by
 obtain⟨XA,IV,H⟩:=qN (Q:=fun(i:Nat) (g:GF)=> ∀z f,zs[i]? =some z->fs[i]? =some f->fR h (zR.enc z) g/\lD az g.blocks<=lD az f.blocks/\g.blocks.length<=72/\ ∀b∈g.blocks,b.list.length<=100000) (List.range fs.length) (fun i hi=>by have ff:i<fs.length:=NB.1 hi;obtain⟨z,hz⟩: ∃z,zs[i]? =some z:=⟨_,aX (by omega)⟩;obtain⟨f,hf⟩: ∃z,fs[i]? =some z:=⟨_,aX ff⟩;obtain⟨n0,ai,many,κ,cap,rs,O,_,h24,p_,_,G7⟩:=D i z f hz hf;obtain⟨bs,IP,hV⟩:=O.view;refine⟨⟨z.name,z.params,z.ai,bs⟩,fun z2 f2 h1 h2=> ?_⟩;rw[hz] at h1;cases h1;rw[hf] at h2;cases h2;refine⟨⟨z.B,rfl,IP⟩,by show lD az bs<=lD az f.blocks;rw[Lo,Lo,Uo hV];exact G7,by show bs.length<=72;rw[hV.1];exact h24,fun b hb=> ?_⟩;obtain⟨j,hj⟩:=rT hb;obtain⟨r,hr⟩: ∃r,rs[j]? =some r:=⟨_,aX (by rw[<-hV.1];exact(bY.mp hj).1)⟩;have v:=hV.2 j r b hr hj;rw[v.ll];exact(p_ r (dk hr)).2)
 rw[List.length_range] at IV;have at': ∀(i:Nat) (g:GF),XA[i]? =some g-> ∃z f,zs[i]? =some z/\fs[i]? =some f/\fR h (zR.enc z) g/\lD az g.blocks<=lD az f.blocks/\g.blocks.length<=72/\ ∀b∈g.blocks,b.list.length<=100000:=by
  intro i g hg;have ff:i<fs.length:=by rw[<-IV];exact(bY.mp hg).1
  obtain⟨z,hz⟩: ∃z,zs[i]? =some z:=⟨_,aX (by omega)⟩;obtain⟨f,hf⟩: ∃z,fs[i]? =some z:=⟨_,aX ff⟩;exact⟨z,f,hz,hf,H i i g (List.getElem?_range ff) hg z f hz hf⟩
 refine⟨XA,IV,hF.view (by omega) (fun i z g h1 h2=> ?_),?_,⟨by omega,fun g hg=> ?_,fun g hg b hb=> ?_⟩⟩
 .obtain⟨z2,f,a,b,c,_⟩:=at' i g h2;rw[h1] at a;cases a;exact c
 .unfold sQ;refine Qr _ XA fs IV (fun i g f h1 h2=> ?_);obtain⟨z,f2,a,b,c,d,_⟩:=at' i g h1;rw[h2] at b;cases b;exact d
 .obtain⟨i,hi⟩:=rT hg;obtain⟨z,f,a,b,c,d,e,_⟩:=at' i g hi;omega
 .obtain⟨i,hi⟩:=rT hg;obtain⟨z,f,a,b2,c,d,e,k⟩:=at' i g hi;have:=k b hb;omega
theorem Un (S:Ds u):Yj u.funcs:=by refine⟨by have:=S.unit.fn;omega,fun f hf=>by have:=(S.form f hf).head.blocks;omega,fun f hf b hb=> ?_⟩;have:=ni hb;have:=(S.form f hf).head.many;omega
theorem CV (ok:bu h) (hw:CA h) {G F:SV} (hu:uR h G F u) (s1:Small u) (sm:A8 u):
  aF FF kD [.agg ⟨[G.v,F.v]⟩] h (fun v _=>v= .bool true):=by
 refine aF.of tx ?_;unfold kq;simp;refine aE.cut (fun h1=>ab aG h h1/\h1.tr.get h.next=some (.aA [G.v,F.v] false 0 0)) ⟨(ab.refl ok).new _ _,by simp⟩ ?_;rintro h1 ⟨g1,XL⟩;refine aE.call (V:=fun v h'=>ab aG h1 h'/\ ∃hv:Bool,v= .bool hv/\(hv=false->u.funcs.length<=10/\ ∀f∈u.funcs,Dp f)) (by simpa using NM g1.ok (hu.mono ok g1) s1) ?_;rintro _ h2 ⟨g2,hv,rfl,hL⟩;have iI:=g1.trans g2;have CL:=g2.get g1.ok XL (fun h=>h);have IN:=CL;simp at IN;cases hv with
 |true=>simp
 |false=>
 obtain⟨Tc,hL⟩:=hL rfl;simp[IN];refine aE.call (V:=DoQ (SpP (dR u.globals)) u h2) (by simpa using Xf g2.ok (hw.grow ok iI) (hu.mono ok iI) sm hL) ?_;rintro _ h3 ⟨g3,G',F',c,a,rfl,hc⟩;have D4:=g3.get g2.ok CL (fun h=>h);have lU:=g3.ok.wf _ _ D4;have dh:=iI.trans g3;have n1: ¬h3.next=h3.next+1:=by omega
 simp;rcases hc with⟨hc,eG,eF⟩|⟨rfl,hS,M,ys,zs,A1,A2,A3,A4,A5⟩
 .have MA:(c !=0)=true:=by simp[hc]
  have lG:G'.l=0:=by rw[eG];rfl
  have lF:F'.l=0:=by rw[eF];rfl
  refine aB.cut (fun h4=>ab aG h3 h4/\ ∃s,h4.tr.get h3.next=some (.aA [.slice G'.a G'.l G'.c,.slice F'.a F'.l F'.c] false 0 s)) ?_ ?_
  .exact⟨((((ab.refl g3.ok).new _ _).new _ _).put ⟨0,by simp[n1]⟩ (.inl (by omega))).put ⟨0,by simp⟩ (.inl (by omega)),h3.clock,by simp[n1,aJ]⟩
  rintro h4 ⟨g4,sV,U1⟩;simp[MA,U1];refine aE.call (V:=fun v h'=>v= .bool (decide (G'.l=0)&&decide (F'.l=0))/\ab aG h4 h') (by simpa using Hr g4.ok G' F') ?_;rintro _ h5 ⟨rfl,g5⟩;simp[lG,lF]
 .refine aB.cut (fun h4=>ab aG h3 h4/\ ∃s,h4.tr.get h3.next=some (.aA [.slice G'.a G'.l G'.c,.slice F'.a F'.l F'.c] false 0 s)) ?_ ?_
  .exact⟨((((ab.refl g3.ok).new _ _).new _ _).put ⟨0,by simp[n1]⟩ (.inl (by omega))).put ⟨0,by simp⟩ (.inl (by omega)),h3.clock,by simp[n1,aJ]⟩
  rintro h4 ⟨g4,sV,U1⟩;have PI:=g4.get g3.ok D4 (fun h=>h);have Gb:=PI;simp at Gb;have mK:=dh.trans g4;have oV:=g4.ok.bA U1;have oU:=g4.ok.bA PI;have pJ:=A3.len;have acO:=hS.unit.one;have hF0: ¬F'.l=0:=by omega
  have hsV:=g4.ok.st _ _ _ _ _ U1;simp[U1,Gb,aq U1,aq Gb,oV,oU];refine aQ.cut (fun h5=>ab aG h4 h5) (aW g4.ok) ?_;intro h5 g5;refine aQ.call (V:=fun v h'=>v= .bool (decide (G'.l=0)&&decide (F'.l=0))/\ab aG h5 h') (by simpa using Hr g5.ok G' F') ?_;rintro _ h6 ⟨rfl,g6⟩;have g46:=g5.trans g6;have hV6:=g46.get g4.ok U1 (fun h=>h);have PJ:=g46.get g4.ok Gb (fun h=>h);have oV6:=g6.ok.bA hV6;have oU6:=g6.ok.bA PJ;have g36:=g4.trans g46;obtain⟨XA,IV,sD,G7,F0⟩:=QM (A3.bt g3.ok g36) A4 (fun i z f a b=>(A5 i z f a b).grow g3.ok g36 (fun _ h=>h.elim)) Tc;have hG':SliceR gS 3 h6 G'.v u.globals:=(A1.bt g3.ok g36).view A2.1.symm (fun i y g a b=>by obtain⟨e1,e2⟩:=A2.2 i y g a b;exact⟨y.I,by rw[Uw,e1,e2]⟩)
  have Cg:TO u.globals:=⟨hS.unit.gn,fun g hg=>⟨(hS.unit.gs g hg).1,(hS.unit.gs g hg).2.1⟩⟩;simp[hF0,hV6,PJ,aq hV6,aq PJ,oV6,oU6];refine aQ.call (V:=fun v h'=>ab aG h6 h'/\v= .int .i64 ((sQ (dR u.globals) XA:Nat):Int)) (by simpa using Hk g6.ok hG' sD Cg F0) ?_;rintro _ h7 ⟨g7,rfl⟩;have hU7:=g7.get g6.ok PJ (fun h=>h);have UL:=(mK.trans g46).trans g7;simp[hU7];refine aQ.call (V:=fun v h'=>ab aG h7 h'/\v= .int .i64 ((sQ (dR u.globals) u.funcs:Nat):Int)) (by simpa using Hk g7.ok (aaz (hu.1.mono ok UL fun _ _ r=>r)) (hu.mono ok UL).2 Cg (Un hS)) ?_;rintro _ h8 ⟨g8,rfl⟩;simp[G7]
set_option maxRecDepth 100000
theorem adL:Pm Tryz.prog (rK Tryz.prog) 218:=by obtain⟨ei,xY⟩:=Option.isSome_iff_exists.mp (show(rK Tryz.prog 44).isSome=true by kernel_rfl);exact⟨Tryz.f218,59,44,{ u:= .slice 44,size:=1,bytes:=24,zero:=[.slice none 0 0],agg:=false },ei,Tryz.func218,by kernel_rfl,by kernel_rfl,by kernel_rfl,by kernel_rfl,by kernel_rfl,by kernel_rfl,rfl,xY⟩
theorem abt:Fu Tryz.prog (rK Tryz.prog) 1 (dZ (rK Tryz.prog) 1) FF0:=Pf (Ny QS) adL
theorem Yl:FF0 166=some ⟨[.tmp 6],sJ [.bool false,.int .i64 0] 2 16 218 219,.no⟩:=by kernel_rfl
theorem ae_:Fu Tryz.prog (rK Tryz.prog) 1 (dZ (rK Tryz.prog) 1) FF:=
 Mn abt (Mg _) Yl (fov:=⟨[],.bad,.Oy⟩) rfl rfl rfl (by decide) (by decide)
end Go.Proofs.YtdhnndleffachaaGreatDoor
namespace Go.AI
open Go.ChangeShapes Go.WideShapes Go.ChangeAt
def Fo (agg:Bool) (acs:List Value):Value:=bif agg then .agg ⟨acs⟩ else acs.headD (.tuple #[])
def aggT (P:Program) (t:TypeId):Bool:=match P.underlying t with
 |some (.struct _)=>true
 |some (.array _ _)=>true
 |_=>false
section
variable {H:Type} {enc:TypeId×Value->H} {P:Program} {w:World} {held:Bool} {CC:cj}
def LaidV (k:Option Nat) (CC:cj) (w:World) (agg:Bool) (T:Ty) (ρ:dY) (h:ae) (v:Value):Prop:=
 ∃ρ' h' acs y,ρ.le ρ'/\ab aG h h'/\yK CC ρ' h' w/\VR ρ' (Fo agg acs) v/\rep T h' acs y/\Bd k T y
theorem laidV_of {k:Option Nat} {d:Nat} {t:TypeId} {T:Ty} {base:Nat} {v:Value} {dd:DataW H} {ps:List MemPlace} {ρ:dY} {h:ae} (hT:tyOf P d t=some T) (Bs:Value.okWide P w .any base t v) (hx:DataW.Trod enc P w 0 (fun _=>true) held t v dd ps) (hW:WB k P t dd)
  (L:yK CC ρ h w) (cJ: ∃(k:Nat) (ez:Array Value) (el:TypeId) (fr:Nat×Nat),w.heap[k]? =some (.cells ez el fr)):LaidV k CC w (aggT P t) T ρ h v:=by
 obtain⟨n,hx⟩:=hx;obtain⟨ρ',h',acs,y,l,g,L',kk,r⟩:=I6 hT hx hW L cJ;refine⟨ρ',h',acs,y,l,g,L',?_,r⟩;unfold Fo;have Jj:aggT P t=false->(∀cs,v≠ .agg cs)->VR ρ' (bif aggT P t then .agg ⟨acs⟩ else acs.headD (.tuple #[])) v:=by
  intro ha hv;have hc:v.cells.toList=[v]:=by cases v<;>first|rfl|exact absurd rfl (hv _)
  rw[hc] at kk;rw[ha];cases kk with
  |cons hk hs=>exact hk.vr
 cases d with
 |zero=>simp[tyOf] at hT
 |succ d=>
  unfold tyOf at hT;split at hT
  .rename_i hu;obtain⟨b,rfl⟩:=okWide_bool hu Bs;exact Jj (by simp[aggT,hu]) (fun _ e=>by cases e)
  .rename_i k' hu;obtain⟨b,rfl⟩:=okWide_int hu Bs;exact Jj (by simp[aggT,hu]) (fun _ e=>by cases e)
  .rename_i hu;obtain⟨b,rfl⟩:=okWide_string hu Bs;exact Jj (by simp[aggT,hu]) (fun _ e=>by cases e)
  .rename_i e hu;obtain⟨a,len,cap,rfl⟩:=okWide_slice hu Bs;exact Jj (by simp[aggT,hu]) (fun _ e=>by cases e)
  .rename_i fs hu;simp only[Value.okWide,hu] at Bs;obtain⟨cs,rfl,_⟩:=Bs;have ha:aggT P t=true:=by simp[aggT,hu]
   rw[ha];obtain⟨cl⟩:=cs;exact .val (.agg kk)
  .rename_i m e hu;simp only[Value.okWide,hu] at Bs;obtain⟨cs,rfl,_⟩:=Bs;have ha:aggT P t=true:=by simp[aggT,hu]
   rw[ha];obtain⟨cl⟩:=cs;exact .val (.agg kk)
  .cases hT
theorem lain_heap1 {cs:List Value} (D8: ∀v∈cs,bK v=true) {w:World} (hw: ∃el fr,w.heap[0]? =some (.cells ⟨cs⟩ el fr)):
  yK CC (fun b=>if b=0 then some ⟨0,0,cs.length,0,cs.length⟩ else none) (GY cs) w:=by
 obtain⟨el,fr,hw⟩:=hw;have dM: ∀b o,(GY cs).tr.get b=some o->b=0/\o= .aA cs true 0 0:=by
  intro b o h;cases b with
  |zero=>simp only[GY,Tr.get,kl] at h;exact⟨rfl,h.symm⟩
  |succ b=>
   simp only[GY,Tr.get] at h;cases hb:Nat.beq (b%2) 0<;>rw[hb] at h<;>simp at h
 have JS: ∀b,¬dX (GY cs) b:=by rintro b ⟨o,ho,hr⟩;rw[(dM b o ho).2] at hr;cases hr
 refine⟨⟨fun b o h=> ?_,fun b c ro o s h=> ?_⟩,JS,⟨fun b r h=> ?_,fun b r o h ho=> ?_,fun b b' r r' o _ _ hw=>absurd hw (JS b),fun b o h=> ?_⟩⟩
 .rw[(dM b o h).1];exact Nat.zero_lt_one
 .have:=(dM b _ h).2;cases this;exact dK _
 .by_cases e:b=0
  .simp only[e,if_true,kl] at h;subst h;subst e;exact⟨Nat.zero_lt_one,(Array.getElem?_eq_some_iff.mp hw).1⟩
  .simp[e] at h
 .obtain⟨rfl,rfl⟩:=dM b o ho;simp only[if_true,kl] at h;subst h;exact⟨⟨cs⟩,el,fr,hw,rfl,rfl,by simp,(fun h=>by cases h),fun j v hv=>⟨v,by simpa using hv,.cell (gu (D8 v (dk hv)))⟩⟩
 .rw[(dM b o h).1];exact Nat.zero_lt_one
end
end Go.AI
namespace Go.Proofs.YtdhnndleffachaaGreatDoor
open Go Go.AI
variable {cs:List Value} {h:ae} {sz:Nat} {v:Value}
def xd:Ty:= .pair .bool (.pair (.int .i64) .unit)
def PV:Ty:= .pair (.int .i64) (.pair (.int .i64) (.pair xd (.pair xd (.pair (.int .i64) (.pair (.sl xd) .unit)))))
def Qd:Ty:= .pair (.int .i64) (.pair (.sl xd) .unit)
def afV:Ty:= .pair (.int .i64) (.pair xd (.pair (.sl (.int .i64)) .unit))
def xi:Ty:= .pair (.sl Qd) (.pair (.sl PV) (.pair afV .unit))
def IB:Ty:= .pair .str (.pair (.int .i64) (.pair (.int .i64) (.pair (.sl xi) .unit)))
def zU:Ty:= .pair .str (.pair (.int .i64) (.pair (.sl (.int .i64)) .unit))
def BE:Ty:= .pair (.sl zU) (.pair (.sl IB) .unit)
theorem nK {α β:Type} {R:List Value->α->Prop} {R':List Value->β->Prop} {xs:List α} (f:α->β) (s:SliceR R sz h v xs) (H: ∀c x,R c x->R' c (f x)):SliceR R' sz h v (xs.map f):=by
 obtain⟨a,cap,rfl,s⟩:=s;refine⟨a,cap,by rw[XE],?_⟩;rcases s with⟨rfl,s⟩|⟨b,off,cs,ro,o,st,rfl,hb,he⟩
 .exact .inl ⟨rfl,s⟩
 .refine .inr ⟨b,off,cs,ro,o,st,rfl,hb,fun i y hy=> ?_⟩;rw[tQ,Option.map_eq_some_iff] at hy;obtain⟨x,hx,rfl⟩:=hy;exact⟨(he i x hx).1,H _ _ (he i x hx).2⟩
theorem mD {α:Type} {R:List Value->α->Prop} {xs:List α} (s:SliceR R sz h v xs): ∃S:SV,v=S.v:=by obtain⟨a,cap,rfl,_⟩:=s;exact⟨⟨a,xs.length,cap⟩,rfl⟩
def toV (x:xd.den):Bool×Int:=(x.1,x.2.1)
def toI (x:PV.den):GI:=⟨x.1,x.2.1,toV x.2.2.1,toV x.2.2.2.1,x.2.2.2.2.1,List.map toV x.2.2.2.2.2.1⟩
def toP (x:Qd.den):GP:=⟨x.1,List.map toV x.2.1⟩
def toB (x:xi.den):GB:=⟨List.map toP x.1,List.map toI x.2.1,x.2.2.1.1,toV x.2.2.1.2.1,List.map id x.2.2.1.2.2.1⟩
def toF (x:IB.den):GF:=⟨x.1,x.2.1,x.2.2.1,List.map toB x.2.2.2.1⟩
def toG (x:zU.den):GG:=⟨x.1,x.2.1,List.map id x.2.2.1⟩
def toU (x:BE.den):GU:=⟨List.map toG x.1,List.map toF x.2.1⟩
theorem Df {x:xd.den} (r:rep xd h cs x):vR cs (toV x):=by obtain⟨a,b,_⟩:=x;obtain⟨c1,_,rfl,e1,c2,_,rfl,e2,e3⟩:=r;simp only[rep] at e1 e2 e3;subst e1 e2 e3;rfl
theorem LL {xs:List Int} (s:SliceR (rep (.int .i64) h) (Ty.sz (.int .i64)) h v xs):SliceR nR 1 h v (List.map id xs):=
 nK id s fun c x r=>by simpa [rep,nR] using r
theorem LM {xs:List xd.den} (s:SliceR (rep xd h) xd.sz h v xs):SliceR vR 2 h v (List.map toV xs):=
 nK toV s fun _ _ r=>Df r
theorem ZR {x:PV.den} (r:rep PV h cs x):iR h cs (toI x):=by obtain⟨op,dst,a,b,fn,vs,_⟩:=x;obtain⟨c1,_,rfl,e1,c2,_,rfl,e2,c3,_,rfl,ea,c4,_,rfl,eb,c5,_,rfl,e5,c6,_,rfl,⟨v,rfl,s⟩,e7⟩:=r;have ea:=Df ea;have eb:=Df eb;simp only[rep,vR] at e1 e2 ea eb e5 e7;subst e1 e2 ea eb e5 e7;obtain⟨S,rfl⟩:=mD s;exact⟨S,rfl,LM s⟩
theorem ZS {x:Qd.den} (r:rep Qd h cs x):pR h cs (toP x):=by obtain⟨dst,vs,_⟩:=x;obtain⟨c1,_,rfl,e1,c6,_,rfl,⟨v,rfl,s⟩,e7⟩:=r;simp only[rep] at e1 e7;subst e1 e7;obtain⟨S,rfl⟩:=mD s;exact⟨S,rfl,LM s⟩
theorem Sl {x:xi.den} (r:rep xi h cs x):bR h cs (toB x):=by obtain⟨ps,ls,⟨k,on,ts,_⟩,_⟩:=x;obtain⟨c1,_,rfl,⟨v1,rfl,s1⟩,c2,_,rfl,⟨v2,rfl,s2⟩,c3,_,rfl,⟨c4,_,rfl,e4,c5,_,rfl,e5,c6,_,rfl,⟨v3,rfl,s3⟩,e6⟩,e7⟩:=r;have e5:=Df e5;simp only[rep,vR] at e4 e5 e6 e7;subst e4 e5 e6 e7;obtain⟨S1,rfl⟩:=mD s1;obtain⟨S2,rfl⟩:=mD s2;obtain⟨S3,rfl⟩:=mD s3;exact⟨S1,S2,S3,rfl,nK toP s1 fun _ _ r=>ZS r,nK toI s2 fun _ _ r=>ZR r,LL s3⟩
theorem WR {x:IB.den} (r:rep IB h cs x):fR h cs (toF x):=by obtain⟨n,p,q,bs,_⟩:=x;obtain⟨c1,_,rfl,e1,c2,_,rfl,e2,c3,_,rfl,e3,c4,_,rfl,⟨v,rfl,s⟩,e7⟩:=r;simp only[rep] at e1 e2 e3 e7;subst e1 e2 e3 e7;obtain⟨S,rfl⟩:=mD s;exact⟨S,rfl,nK toB s fun _ _ r=>Sl r⟩
theorem OF {x:zU.den} (r:rep zU h cs x):gR h cs (toG x):=by obtain⟨n,p,bs,_⟩:=x;obtain⟨c1,_,rfl,e1,c2,_,rfl,e2,c4,_,rfl,⟨v,rfl,s⟩,e7⟩:=r;simp only[rep] at e1 e2 e7;subst e1 e2 e7;obtain⟨S,rfl⟩:=mD s;exact⟨S,rfl,LL s⟩
theorem WS {x:BE.den} (r:rep BE h cs x): ∃G F:SV,cs=[G.v,F.v]/\uR h G F (toU x):=by obtain⟨gs,fs,_⟩:=x;obtain⟨c1,_,rfl,⟨v1,rfl,s1⟩,c2,_,rfl,⟨v2,rfl,s2⟩,e7⟩:=r;simp only[rep] at e7;subst e7;obtain⟨S1,rfl⟩:=mD s1;obtain⟨S2,rfl⟩:=mD s2;exact⟨S1,S2,rfl,nK toG s1 fun _ _ r=>OF r,nK toF s2 fun _ _ r=>WR r⟩
theorem map_le {α β:Type} (f:α->β) (l:List α) (h:l.length<=140737488351232):(List.map f l).length<=140737488355328:=by rw[XE];omega
theorem Uc {x:BE.den} (b:Bd (some 140737488351232) BE x):Small (toU x)/\A8 (toU x):=by
 obtain⟨gs,fs,_⟩:=x;obtain⟨⟨g1,g2⟩,⟨f1,f2⟩,_⟩:=b;have g1:=g1 _ rfl;have f1:=f1 _ rfl;have hb: ∀b:xi.den,Bd (some 140737488351232) xi b->uO (toB b):=by
  rintro⟨ps,ls,⟨k,on,ts,_⟩,_⟩ ⟨⟨p1,p2⟩,⟨l1,l2⟩,⟨_,_,⟨t1,_⟩,_⟩,_⟩;have p1:=p1 _ rfl;have l1:=l1 _ rfl;have t1:=t1 _ rfl;refine⟨?_,?_,?_,fun p hp=> ?_,fun x hx=> ?_⟩
  .exact map_le _ _ p1
  .exact map_le _ _ l1
  .exact map_le _ _ t1
  .obtain⟨y,hy,rfl⟩:=j9.1 hp;obtain⟨_,⟨h1,_⟩,_⟩:=p2 y hy;have h1:=h1 _ rfl;exact map_le _ _ h1
  .obtain⟨y,hy,rfl⟩:=j9.1 hx;obtain⟨_,_,_,_,_,⟨h1,_⟩,_⟩:=l2 y hy;have h1:=h1 _ rfl;exact map_le _ _ h1
 have hf: ∀f∈(toU ⟨gs,fs,()⟩).funcs,Fits f.blocks/\ ∀b∈f.blocks,uO b:=by
  intro f hf;obtain⟨y,hy,rfl⟩:=j9.1 hf;obtain⟨_,_,_,⟨h1,h2⟩,_⟩:=f2 y hy;have h1:=h1 _ rfl;have IP: ∀b∈(toF y).blocks,uO b:=by intro b dq;obtain⟨z,hz,rfl⟩:=j9.1 dq;exact hb z (h2 z hz)
  exact⟨⟨map_le _ _ h1,fun b hb=>⟨(IP b hb).ph,(IP b hb).li⟩⟩,IP⟩
 refine⟨⟨?_,fun f h=>(hf f h).1⟩,fun g hg=> ?_,fun f h=>(hf f h).1,fun f h=>(hf f h).2⟩
 .exact map_le _ _ f1
 .obtain⟨y,hy,rfl⟩:=j9.1 hg;obtain⟨_,_,⟨h1,_⟩,_⟩:=g2 y hy;have h1:=h1 _ rfl;exact map_le _ _ h1
end Go.Proofs.YtdhnndleffachaaGreatDoor
