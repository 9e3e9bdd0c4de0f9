/- Parts of the proof. -/
import Derived.Test.YtdkdbjecehcekaaGreatDoorP10
set_option linter.all false
set_option linter.unusedSimpArgs false
set_option linter.unusedVariables false
set_option linter.unnecessarySimpa false
namespace Go.Proofs.YtdkdbjecehcekaaGreatDoor
open Go.AI
structure SC (h0 h:ae) (C W n wc:Nat) (name:ByteArray) (p r:Int) (B U:SV):Prop where
 g:ab aG h0 h
 n0:h0.next≤W
 ne:C≠W
 hC: ∃s,h.tr.get C=some (.aA (Gi name p r B U ⟨some ⟨W,0,none⟩,n,wc⟩) false 0 s)
 hW: ∃ws s,h.tr.get W=some (.aA (pQ.flat ws) false 0 s)∧ws.length=n
theorem SC.aW {h0 h h':ae} {C W n wc:Nat} {name:ByteArray} {p r:Int} {B U:SV} (w:SC h0 h C W n wc name p r B U) (g:ab aG h h'):SC h0 h' C W n wc name p r B U:=by
 obtain⟨s1,h1⟩:=w.hC
 obtain⟨ws,s2,h2,hl⟩:=w.hW
 exact⟨w.g.trans g,w.n0,w.ne,⟨s1,g.get w.g.ok h1 (fun h=>h)⟩,ws,s2,g.get w.g.ok h2 (fun h=>h),hl⟩
theorem SC.wr {h0 h h':ae} {C W n wc:Nat} {name:ByteArray} {p r:Int} {B U:SV} (w:SC h0 h C W n wc name p r B U) (g:ab (· =W) h h') (hW: ∃ws s,h'.tr.get W=some (.aA (pQ.flat ws) false 0 s)∧ws.length=n):SC h0 h' C W n wc name p r B U:=by
 obtain⟨s1,h1⟩:=w.hC
 exact⟨w.g.trans' g (fun _ _ h=>h) (fun x hx e=>by have:=w.n0;omega),w.n0,w.ne,⟨s1,g.get w.g.ok h1 w.ne⟩,hW⟩
section
variable {h0:ae} {C W n wc:Nat} {name:ByteArray} {p r:Int} {B U:SV}
def OV (h0 h:ae) (C W n wc:Nat) (name:ByteArray) (p r:Int) (B U:SV) (v:Value) (h':ae):Prop:=(∃t:Bool,v= .bool t)∧SC h0 h' C W n wc name p r B U∧ab (· =W) h h'
theorem zr {h:ae} (w:SC h0 h C W n wc name p r B U) {k:Int} (hk:0≤k∧k<n) (i j:Int):
  aE FF iP [.pointer (some ⟨C,0,none⟩),.int .i64 k,.int .i64 i,.int .i64 j] h (OV h0 h C W n wc name p r B U):=by
 obtain⟨s1,h1⟩:=w.hC
 obtain⟨ws,s2,h2,hl⟩:=w.hW
 obtain⟨k,rfl⟩: ∃k':Nat,k=k':=⟨k.toNat,by omega⟩
 refine(FU w.g.ok h1 h2 hl (k:=k) (by omega) i j).mono ?_
 rintro v h' ⟨⟨t,e⟩,g,hw⟩
 exact⟨⟨t,e⟩,w.wr g hw,g⟩
def Qw (h0 h:ae) (C W n wc:Nat) (name:ByteArray) (p r:Int) (B U:SV) (pn:Nat) (m:Nat) (e':Env) (h':ae):Prop:=
 ∃(j:Nat) (t:Bool),m=pn-j∧j≤pn∧Env.get e' 0= .pointer (some ⟨C,0,none⟩)∧Env.get e' 15= .int .i64 pn∧Env.get e' 16= .int .i64 j∧Env.get e' 3= .bool t∧SC h0 h' C W n wc name p r B U∧ab (· =W) h h'
theorem zL {h:ae} (w:SC h0 h C W n wc name p r B U) {pn:Nat} (hp:pn≤n) (hn:n<1000000) {e:Env} {Q:aO→Env→ae→Prop} (f0:Env.get e 0= .pointer (some ⟨C,0,none⟩)) (f15:Env.get e 15= .int .i64 pn) (f16:Env.get e 16= .int .i64 0) (f3: ∃t:Bool,Env.get e 3= .bool t)
  (K: ∀e' h' t,SC h0 h' C W n wc name p r B U→ab (· =W) h h'→Env.get e' 0= .pointer (some ⟨C,0,none⟩)→Env.get e' 3= .bool t→Q (.exit 0) e' h'):az FF (.loop fS) e h Q:=by
 obtain⟨t0,f3⟩:=f3
 refine az.loop (Qw h0 h C W n wc name p r B U pn) ?_ (n:=pn) ⟨0,t0,rfl,by omega,f0,f15,f16,f3,w,.refl w.g.ok⟩
 rintro m e' h' ⟨j,t,rfl,hj,q0,q15,q16,q3,w',gw⟩
 unfold fS
 by_cases hjl:j<pn
 ·have wj:=wrap_i64 ((j:Int)+1) (by omega) (by omega)
  simp[q0,q15,q16,hjl]
  refine aD.call (V:=OV h0 h' C W n wc name p r B U) (by simpa using zr w' (k:=j) (by omega) 0 (-1)) ?_
  rintro _ h2 ⟨⟨t2,rfl⟩,w2,g2⟩
  cases t2 with
  |false=>
   simp[q16,wj,q3]
   exact⟨pn-(j+1),by omega,j+1,false,rfl,by omega,by simp[q0],by simp[q15],by simp,by simp,w2,gw.trans g2⟩
  |true=>
   simp[q16,wj,q3]
   exact⟨pn-(j+1),by omega,j+1,t,rfl,by omega,by simp[q0],by simp[q15],by simp,by simp,w2,gw.trans g2⟩
 ·have:j=pn:=by omega
  subst this
  simp[q15,q16]
  exact K _ _ t w' gw (by simp[q0]) (by simp[q3])
def Ph (h0 h:ae) (C W n wc:Nat) (name:ByteArray) (p r:Int) (B U:SV) (k:Nat) (e:Env) (m:Nat) (e':Env) (h':ae):Prop:=
 ∃(j:Nat) (t:Bool),m=k-j∧j≤k∧aC [41,42,43,8,44,45,46,47,48,49,50,51,3,52,40] e e'∧Env.get e' 40= .int .i64 j∧Env.get e' 3= .bool t∧SC h0 h' C W n wc name p r B U∧ab (· =W) h h'
theorem Ea {h:ae} (ok0:bh h0) (w:SC h0 h C W n wc name p r B U) {P:SV} {ps:List GP} (hP:SliceR (pR h0) 2 h0 P.v ps) (hps: ∀q∈ps,0≤q.dst∧q.dst<n) (hl:ps.length<1000000) {i:Nat} {e:Env} {Q:aO→Env→ae→Prop} (f0:Env.get e 0= .pointer (some ⟨C,0,none⟩)) (f5:Env.get e 5= .int .i64 i)
  (f38:Env.get e 38=P.v) (f39:Env.get e 39= .int .i64 ps.length) (f40:Env.get e 40= .int .i64 0) (f3: ∃t:Bool,Env.get e 3= .bool t)
  (K: ∀e' h' t,SC h0 h' C W n wc name p r B U→ab (· =W) h h'→aC [41,42,43,8,44,45,46,47,48,49,50,51,3,52,40] e e'→Env.get e' 3= .bool t→Q (.exit 4) e' h'):az FF (.loop fP) e h Q:=by
 obtain⟨t0,f3⟩:=f3
 have hPl:=SliceR.len hP
 refine az.loop (Ph h0 h C W n wc name p r B U ps.length e) ?_ (n:=ps.length) ⟨0,t0,rfl,by omega,aC.refl _ _,f40,f3,w,.refl w.g.ok⟩
 rintro m e' h' ⟨j,t,rfl,hj,Kp,q40,q3,w',gw⟩
 have q0:=Kp.at (by decide) f0
 have q5:=Kp.at (by decide) f5
 have q38:=Kp.at (by decide) f38
 have q39:=Kp.at (by decide) f39
 unfold fP
 by_cases hjl:j<ps.length
 ·have wj:=wrap_i64 ((j:Int)+1) (by omega) (by omega)
  have hx:ps[j]? =some ps[j]:=aQ hjl
  have hm:=List.getElem_mem hjl
  generalize ps[j]=q at hx hm
  obtain⟨bb,off,c,hPa,_,_,⟨A,rfl,sA⟩,_,hrd⟩:=SliceR.later ok0 hP hx
  have r0:=hrd h' w'.g 0 2 (by decide)
  simp[-ag] at r0
  simp at q38
  rw[hPa,hPl] at q38
  simp[q0,q5,q38,q39,q40,hjl,r0,-ag,aq]
  refine aD.cut (fun h1=>ab aG h' h1) ((ab.refl w'.g.ok).var _ _) ?_
  intro h1 g1
  refine aD.call (V:=OV h0 h1 C W n wc name p r B U) (by simpa using zr (w'.aW g1) (hps q hm) i (-1)) ?_
  rintro _ h2 ⟨⟨t2,rfl⟩,w2,g2⟩
  cases t2 with
  |false=>
   simp[q40,wj,q3]
   refine⟨ps.length-(j+1),by omega,j+1,false,rfl,by omega,?_,by simp,by simp,w2,(gw.trans g1.aW).trans g2⟩
   repeat (refine aC.set (by decide) ?_)
   exact Kp
  |true=>
   simp[q40,wj,q3]
   refine⟨ps.length-(j+1),by omega,j+1,t,rfl,by omega,?_,by simp,by simp,w2,(gw.trans g1.aW).trans g2⟩
   repeat (refine aC.set (by decide) ?_)
   exact Kp
 ·have:j=ps.length:=by omega
  subst this
  simp[q39,q40]
  exact K _ _ t w' gw (Kp.set (by decide)) (by simp[q3])
def Qg (h0 h:ae) (C W n wc:Nat) (name:ByteArray) (p r:Int) (B U:SV) (k:Nat) (e:Env) (m:Nat) (e':Env) (h':ae):Prop:=
 ∃(j:Nat) (t:Bool),m=k-j∧j≤k∧aC [57,58,59,60,10,9,61,62,63,64,65,66,67,68,69,70,71,72,73,74,3,75,56] e e'∧Env.get e' 56= .int .i64 j∧Env.get e' 3= .bool t∧SC h0 h' C W n wc name p r B U∧ab (· =W) h h'
theorem Db {h:ae} (ok0:bh h0) (w:SC h0 h C W n wc name p r B U) {L:SV} {xs:List GI} (hL:SliceR (iR h0) 8 h0 L.v xs) (hxs: ∀x∈xs,x.dst<n) (hl:xs.length<1000000) {i:Nat} {e:Env} {Q:aO→Env→ae→Prop} (f0:Env.get e 0= .pointer (some ⟨C,0,none⟩)) (f5:Env.get e 5= .int .i64 i)
  (f54:Env.get e 54=L.v) (f55:Env.get e 55= .int .i64 xs.length) (f56:Env.get e 56= .int .i64 0) (f3: ∃t:Bool,Env.get e 3= .bool t)
  (K: ∀e' h' t,SC h0 h' C W n wc name p r B U→ab (· =W) h h'→aC [57,58,59,60,10,9,61,62,63,64,65,66,67,68,69,70,71,72,73,74,3,75,56] e e'→Env.get e' 3= .bool t→Q (.exit 6) e' h'):az FF (.loop fN) e h Q:=by
 obtain⟨t0,f3⟩:=f3
 have hLl:=SliceR.len hL
 refine az.loop (Qg h0 h C W n wc name p r B U xs.length e) ?_ (n:=xs.length) ⟨0,t0,rfl,by omega,aC.refl _ _,f56,f3,w,.refl w.g.ok⟩
 rintro m e' h' ⟨j,t,rfl,hj,Kp,q56,q3,w',gw⟩
 have q0:=Kp.at (by decide) f0
 have q5:=Kp.at (by decide) f5
 have q54:=Kp.at (by decide) f54
 have q55:=Kp.at (by decide) f55
 unfold fN
 by_cases hjl:j<xs.length
 ·have wj:=wrap_i64 ((j:Int)+1) (by omega) (by omega)
  have hx:xs[j]? =some xs[j]:=aQ hjl
  have hm:=List.getElem_mem hjl
  generalize xs[j]=x at hx hm
  obtain⟨bb,off,c,hLa,_,_,⟨A,rfl,sA⟩,_,hrd⟩:=SliceR.later ok0 hL hx
  have r0:=hrd h' w'.g 0 8 (by decide)
  simp[ay,-ag] at r0
  simp at q54
  rw[hLa,hLl] at q54
  have gv:ab aG h' (put (aH h' [.int .i64 0,.int .i64 0,.bool false,.int .i64 0,.bool false,.int .i64 0,.int .i64 0,.slice none 0 0] 0) h'.next 0 [.int .i64 0,.int .i64 0,.bool false,.int .i64 0,.bool false,.int .i64 0,.int .i64 0,.slice none 0 0] [.int .i64 x.op,.int .i64 x.dst,.bool x.a.1,.int .i64 x.a.2,.bool x.b.1,.int .i64 x.b.2,.int .i64 x.fn,.slice A.a A.l A.c] 0):=(ab.refl w'.g.ok).var _ _
  by_cases hd:x.dst<0
  ·simp[q0,q5,q54,q55,q56,hjl,r0,-ag,aq,hd,wj,q3]
   refine⟨xs.length-(j+1),by omega,j+1,t,rfl,by omega,?_,by simp,by simp,w'.aW gv,gw.trans gv.aW⟩
   repeat (refine aC.set (by decide) ?_)
   exact Kp
  ·simp[q0,q5,q54,q55,q56,hjl,r0,-ag,aq,hd]
   refine aD.cut (fun h1=>ab aG h' h1) gv ?_
   intro h1 g1
   refine aD.call (V:=OV h0 h1 C W n wc name p r B U) (by simpa using zr (w'.aW g1) ⟨by omega,hxs x hm⟩ i j) ?_
   rintro _ h2 ⟨⟨t2,rfl⟩,w2,g2⟩
   cases t2 with
   |false=>
    simp[q56,wj,q3]
    refine⟨xs.length-(j+1),by omega,j+1,false,rfl,by omega,?_,by simp,by simp,w2,(gw.trans g1.aW).trans g2⟩
    repeat (refine aC.set (by decide) ?_)
    exact Kp
   |true=>
    simp[q56,wj,q3]
    refine⟨xs.length-(j+1),by omega,j+1,t,rfl,by omega,?_,by simp,by simp,w2,(gw.trans g1.aW).trans g2⟩
    repeat (refine aC.set (by decide) ?_)
    exact Kp
 ·have:j=xs.length:=by omega
  subst this
  simp[q55,q56]
  exact K _ _ t w' gw (Kp.set (by decide)) (by simp[q3])
def PJ (h0 h:ae) (C W n wc:Nat) (name:ByteArray) (p r:Int) (B U:SV) (k:Nat) (m:Nat) (e':Env) (h':ae):Prop:=
 ∃(j:Nat) (t:Bool),m=k-j∧j≤k∧Env.get e' 0= .pointer (some ⟨C,0,none⟩)∧Env.get e' 30=B.v∧Env.get e' 31= .int .i64 k∧Env.get e' 32= .int .i64 j∧Env.get e' 3= .bool t∧SC h0 h' C W n wc name p r B U∧ab (· =W) h h'
def NW (h0 h:ae) (C W n wc:Nat) (name:ByteArray) (p r:Int) (B U:SV) (v:Value) (h':ae):Prop:=(∃t:Bool,v= .bool t)∧SC h0 h' C W n wc name p r B U∧ab (· =W) h h'
structure Ei (n:Nat) (bs:List GB):Prop where
 len:bs.length<1000000
 ph: ∀b∈bs,b.dY.length<1000000∧ ∀q∈b.dY,0≤q.dst∧q.dst<n
 li: ∀b∈bs,b.list.length<1000000∧ ∀x∈b.list,x.dst<n
theorem C8 {h:ae} (ok0:bh h0) {bs:List GB} (hB:wB h0 B bs) (D:Ei n bs) (w:SC h0 h C W n wc name p r B U) {pn:Nat} (hpn:p=pn) (hp:pn≤n) (hn:n<1000000):
  aE FF lQ [.pointer (some ⟨C,0,none⟩)] h (NW h0 h C W n wc name p r B U):=by
 have hBl:=SliceR.len hB
 have hbl:=D.len
 obtain⟨s1,hC⟩:=w.hC
 simp[Gi] at hC
 refine aE.of r_ ?_
 unfold lv
 simp[hC]
 refine zL w hp hn (by simp) (by simp[hpn]) (by simp) ⟨true,by simp⟩ ?_
 intro e1 h1 t1 w1 gw1 q0 q3
 obtain⟨s2,hC1⟩:=w1.hC
 simp[Gi] at hC1
 simp[q0,hC1]
 refine az.loop (PJ h0 h C W n wc name p r B U bs.length) ?_ (n:=bs.length) ⟨0,t1,rfl,by omega,by simp[q0],by simp,by simp[hBl],by simp,by simp[q3],w1,gw1⟩
 rintro m e' h' ⟨j,t,rfl,hj,q0,q30,q31,q32,q3,w',gw⟩
 unfold j7
 by_cases hjl:j<bs.length
 ·have wj:=wrap_i64 ((j:Int)+1) (by omega) (by omega)
  have hx:bs[j]? =some bs[j]:=aQ hjl
  have hm:=List.getElem_mem hjl
  generalize bs[j]=x at hx hm
  obtain⟨bb,off,c,hBa,_,_,⟨P,L,T,rfl,sP,sL,sT⟩,_,hrd⟩:=SliceR.later ok0 hB hx
  have r0:=hrd h' w'.g 0 6 (by decide)
  simp[-ag] at r0
  simp at q30
  rw[hBa,hBl] at q30
  have hPl:=SliceR.len sP
  have hLl:=SliceR.len sL
  simp[q0,q30,q31,q32,hjl,r0,-ag,aq]
  refine az.cut (fun h1=>ab aG h' h1∧ ∃s,h1.tr.get h'.next=some (.aA [P.v,L.v,.int .i64 x.kind,.bool x.on.1,.int .i64 x.on.2,T.v] false 0 s)) ⟨(ab.refl w'.g.ok).var _ _,_,ax _ _ _ _ _ _⟩ ?_
  rintro h2 ⟨g2,s3,hX⟩
  have lW:W<h'.next:=by obtain⟨_,_,hW,_⟩:=w'.hW;exact w'.g.ok.wf _ _ hW
  refine Ea ok0 (w'.aW g2) sP (D.ph x hm).2 (D.ph x hm).1 (i:=j) (by simp[q0]) (by simp) (by simp) (by simp[hPl]) (by simp) ⟨t,by simp[q3]⟩ ?_
  intro e3 h3 t3 w3 g3 K3 k3
  have hX3:=g3.get g2.ok hX (by omega)
  simp at hX3
  have k6:Env.get e3 6= .pointer (some ⟨h'.next,0,none⟩):=K3.at (t:=6) (by decide) (by simp)
  have k0:=K3.at (t:=0) (by decide) (by simp;exact q0)
  have k5:Env.get e3 5= .int .i64 j:=K3.at (t:=5) (by decide) (by simp)
  have k30:=K3.at (t:=30) (by decide) (by simp;exact q30)
  have k31:=K3.at (t:=31) (by decide) (by simp;exact q31)
  have k32:=K3.at (t:=32) (by decide) (by simp;exact q32)
  simp[k6,hX3]
  refine Db ok0 w3 sL (D.li x hm).2 (D.li x hm).1 (i:=j) (by simp[k0]) (by simp[k5]) (by simp) (by simp[hLl]) (by simp) ⟨t3,by simp[k3]⟩ ?_
  intro e4 h4 t4 w4 g4 K4 k43
  have k40:=K4.at (t:=0) (by decide) (by simp;exact k0)
  have k430:=K4.at (t:=30) (by decide) (by simp;exact k30)
  have k431:=K4.at (t:=31) (by decide) (by simp;exact k31)
  have k432:=K4.at (t:=32) (by decide) (by simp;exact k32)
  simp[k432,wj]
  exact⟨bs.length-(j+1),by omega,j+1,t4,rfl,by omega,by simp[k40],by simp[k430,hBa,hBl],by simp[k431],by simp,by simp[k43],w4,((gw.trans g2.aW).trans g3).trans g4⟩
 ·have:j=bs.length:=by omega
  subst this
  simp[q31,q32,q3]
  exact⟨⟨_,rfl⟩,w',gw⟩
end
structure UF (h0 h1:ae) (C W n wc d nb Pb R:Nat) (name:ByteArray) (p r:Int) (B:SV):Prop where
 g:ab aG h0 h1
 hC: ∃s,h1.tr.get C=some (.aA (Gi name p r B ⟨some ⟨d,0,none⟩,nb,nb⟩ ⟨some ⟨W,0,none⟩,n,wc⟩) false 0 s)
 hW: ∃ws s,h1.tr.get W=some (.aA (pQ.flat ws) false 0 s)∧ws.length=n
 hd: ∃us s,h1.tr.get d=some (.aA (aY.flat us) false 0 s)∧Tree.Hk us nb
 hP: ∃s,h1.tr.get Pb=some (.aA [.pointer (some ⟨C,0,none⟩)] false 0 s)
 hR: ∃s,h1.tr.get R=some (.aA [.bool false] false 0 s)
 nR:h0.next≤R
 nb:nb<1000000
 n:n<1000000
theorem UF.aW {h0 h1 h2:ae} {C W n wc d nb Pb R:Nat} {name:ByteArray} {p r:Int} {B:SV} (w:UF h0 h1 C W n wc d nb Pb R name p r B) (g:ab aG h1 h2):UF h0 h2 C W n wc d nb Pb R name p r B:=by
 obtain⟨s1,q1⟩:=w.hC
 obtain⟨ws,s2,q2,e2⟩:=w.hW
 obtain⟨us,s3,q3,e3⟩:=w.hd
 obtain⟨s4,q4⟩:=w.hP
 obtain⟨s5,q5⟩:=w.hR
 have ok:=w.g.ok
 exact⟨w.g.trans g,⟨s1,g.get ok q1 (fun h=>h)⟩,⟨ws,s2,g.get ok q2 (fun h=>h),e2⟩,⟨us,s3,g.get ok q3 (fun h=>h),e3⟩,⟨s4,g.get ok q4 (fun h=>h)⟩,⟨s5,g.get ok q5 (fun h=>h)⟩,w.nR,w.nb,w.n⟩
section
variable {h0:ae} {C W n wc d nb Pb R:Nat} {name:ByteArray} {p r:Int} {B:SV}
def gO (n:Nat) (v:Bool×Int):Prop:=v.1=true→0≤v.2∧v.2<n
theorem zl {h:ae} (w:UF h0 h C W n wc d nb Pb R name p r B) {v:Bool×Int} (hv:gO n v) {i:Nat} (hi:i<nb) (j:Int):
  aE FF iT [.pointer (some ⟨C,0,none⟩),.agg ⟨[.bool v.1,.int .i64 v.2]⟩,.int .i64 i,.int .i64 j] h (vu h):=by
 obtain⟨s1,q1⟩:=w.hC
 obtain⟨ws,s2,q2,e2⟩:=w.hW
 obtain⟨us,s3,q3,e3⟩:=w.hd
 exact Ej w.g.ok q1 q2 e2 q3 e3 w.nb hv hi j
def IT (h0:ae) (R:Nat) (e':Env) (h':ae):Prop:=ab aG h0 h'∧(∃t s,h'.tr.get R=some (.aA [.bool t] false 0 s))∧Env.get e' 2= .pointer (some ⟨R,0,none⟩)
def Ex:aj:= .ops [⟨(some 13),none,(.alloc [(.bool false),(.int .i64 0)])⟩,⟨none,none,(.store 2 (.tmp 13) (.tmp 79))⟩]
def y6:aj:=(.block 9 (.seq (.ops [l_ 80 1,L_ 81 2 13,l_ 82 4,l_ 83 11,F_ 84 67 [t_ 80,t_ 81,t_ 82,t_ 83],o_ 85 (.un .not (t_ 84))]) (.cond (t_ 85) (.seq (.ops [u_ (.store 1 (t_ 2) (.const (.bool false)))]) .ret) .skip)))
def ZU (h0:ae) (R:Nat) (h':ae):Prop:=ab aG h0 h'∧ ∃t s,h'.tr.get R=some (.aA [.bool t] false 0 s)
theorem wq {h:ae} (ok:bh h) (e:Env) (ps:List Nat) (asg body:aj):ab aG h (h.new (.loop e ps asg body .ready))∧(h.new (.loop e ps asg body .ready)).tr.get h.next=some (.loop e ps asg body .ready):=by
 refine⟨⟨Nat.le_succ _,Nat.le_refl _,fun b hb _=>zg _ hb,⟨fun b ob hb=> ?_,fun b cs ro op s hb=> ?_⟩⟩,by simp[ae.new,Tr.aN]⟩
 ·simp only[ae.new,Tr.aN] at hb ⊢
  by_cases e:b=h.next
  ·omega
  ·rw[if_neg e] at hb;exact Nat.lt_succ_of_lt (ok.wf b ob hb)
 ·simp only[ae.new,Tr.aN] at hb ⊢
  by_cases e:b=h.next
  ·rw[if_pos e] at hb;cases hb
  ·rw[if_neg e] at hb;exact ok.st b cs ro op s hb
theorem HB {hA:ae} (ok0:bh h0) (F:UF h0 hA C W n wc d nb Pb R name p r B) {X I4 J11 i j s4 s5:Nat} {x:GI} {A:SV} (hX: ∃s,hA.tr.get X=some (.aA (ez x A) false 0 s)) (sA:SliceR vR 2 h0 A.v x.args) (hal:x.args.length<2000000) (hv: ∀v∈c7 x,gO n v)
  (hI:hA.tr.get I4=some (.aA [.int .i64 i] false 0 s4)) (hJ:hA.tr.get J11=some (.aA [.int .i64 j] false 0 s5)) (hi:i<nb) {e:Env} {Q:aO→Env→ae→Prop} (f1:Env.get e 1= .pointer (some ⟨Pb,0,none⟩)) (f2:Env.get e 2= .pointer (some ⟨R,0,none⟩)) (f4:Env.get e 4= .pointer (some ⟨I4,0,none⟩)) (f11:Env.get e 11= .pointer (some ⟨J11,0,none⟩)) (f78:Env.get e 78= .func (.func cO) #[] #[.pointer (some ⟨X,0,none⟩)])
  (ret: ∀h',IT h0 R e h'→Q .ret e h') (norm: ∀h',ab aG hA h'→Q .normal e h'):az FF (.AM (.tmp 78) [79] Ex y6) e hA Q:=by
 have okA:=F.g.ok
 obtain⟨sX,hX⟩:=hX
 obtain⟨g0,hl0⟩:=wq okA e [79] Ex y6
 have hn0:(hA.new (.loop e [79] Ex y6 .ready)).next=hA.next+1:=rfl
 refine az.AM (first:= #[]) (caps:= #[.pointer (some ⟨X,0,none⟩)]) (by simpa using f78) ?_
 generalize hA.new (.loop e [79] Ex y6 .ready)=hL at*
 have lX:=(okA.bl hX).lt
 obtain⟨sR,hR⟩:=F.hR
 have lR:=(okA.bl hR).lt
 have H:=uF (h:=hL) ok0 sA hal (X:=X) (y:= .func (.yield hA.next) #[] #[]) (fun _ _ h2=>ab aG hA h2∧h2.tr.get hA.next=some (.loop e [79] Ex y6 .ready)) (fun b=>b=R∨b=hA.next) (fun h'=>h'.tr.get hA.next=some (.loop e [79] Ex y6 (.done none))∧ZU h0 R h')
  (fun _ _ h2 hh=>⟨F.g.trans hh.1,sX,hh.1.get okA hX (fun h=>h)⟩) (fun _ _ h2 h3 hh g=>⟨hh.1.trans g,g.get hh.1.ok hh.2 (fun h=>h)⟩) (by rintro b (rfl|rfl)<;>omega) ?_ (F.g.trans g0) ⟨sX,g0.get okA hX (fun h=>h)⟩ (fun h1 g=>⟨g0.trans g,g.get g0.ok hl0 (fun h=>h)⟩)
 ·refine aE.mono (by simpa using H) ?_
  rintro v h' (⟨g,hl⟩|⟨hl,hz1,hz2⟩)
  ·unfold pS
   rw[hl]
   refine norm _ (g.trans' (fZ g.ok hA.next) (fun _ _ h=>h) (fun x hx e=>by omega))
  ·unfold pS
   rw[hl]
   refine ret _ ⟨hz1.trans' (fZ hz1.ok hA.next) (fun _ _ h=>h) (fun x hx e=>by have:=F.g.next;omega),?_,f2⟩
   obtain⟨t,s,hz2⟩:=hz2
   exact⟨t,s,(fZ hz1.ok hA.next).get hz1.ok hz2 (by omega)⟩
 ·rintro Bq k v h2 hk hB1 hB2 ⟨g2,hl2⟩
  have hvv:=hv v (di hk)
  refine(uS (S:=(· =R)) (K:=fun h'=>ab aG hA h') (Z:=ZU h0 R) g2.ok (by omega) hl2 ?_ ?_ ?_).mono ?_
  ·unfold Ex
   simp
   have gv:ab aG h2 (put (aH h2 [.bool false,.int .i64 0] 0) h2.next 0 [.bool false,.int .i64 0] [.bool v.1,.int .i64 v.2] 0):=(ab.refl g2.ok).var _ _
   have hV:(put (aH h2 [.bool false,.int .i64 0] 0) h2.next 0 [.bool false,.int .i64 0] [.bool v.1,.int .i64 v.2] 0).tr.get h2.next=some (.aA [.bool v.1,.int .i64 v.2] false 0 h2.clock):=by simp
   generalize put (aH h2 [.bool false,.int .i64 0] 0) h2.next 0 [.bool false,.int .i64 0] [.bool v.1,.int .i64 v.2] 0=h3 at*
   refine⟨gv,fun h4 g4=> ?_⟩
   have t3:ab aG hA h4:=(g2.trans gv).trans' g4 (fun _ _ h=>h) (fun x hx e=>by omega)
   have F4:=F.aW t3
   obtain⟨sP,hP4⟩:=F4.hP
   obtain⟨sR4,hR4⟩:=F4.hR
   have hI4:=t3.get okA hI (fun h=>h)
   have hJ4:=t3.get okA hJ (fun h=>h)
   have l2:=g2.next
   have l3:hA.next<h2.next:=g2.ok.wf _ _ hl2
   have hV4:=g4.get gv.ok hV (by omega)
   unfold y6
   simp[f1,f2,f4,f11,hP4,hI4,hJ4,hV4]
   refine aD.call (V:=vu h4) (by simpa using zl F4 hvv hi j) ?_
   rintro _ h5 ⟨g5,t,rfl⟩
   cases t with
   |true=>
    simp
    exact⟨g5.aW,t3.trans g5⟩
   |false=>
    have hR5:=g5.get t3.ok hR4 (fun h=>h)
    simp[f2,hR5]
    exact⟨g5.aW.trans (aJ g5.ok hR5),(F4.g.trans g5).put ⟨_,hR5⟩ (.inl F.nR),false,h5.clock,by simp⟩
  ·intro h4 h5 k4 _ g
   exact k4.trans' g (fun _ _ h=>h) (fun x hx e=>by omega)
  ·rintro h4 h5 ⟨z1,t,s,z2⟩ _ g
   exact⟨z1.trans' g (fun _ _ h=>h) (fun x hx e=>by have:=F.g.next;omega),t,s,g.get z1.ok z2 (by omega)⟩
  ·rintro r h5 ⟨g5,⟨rfl,hl5,k5⟩|⟨rfl,hl5,z5⟩⟩
   ·exact⟨g5.bM (fun _ _ h=> .inl h),.inl ⟨rfl,k5,hl5⟩⟩
   ·exact⟨g5.bM (fun _ _ h=> .inl h),.inr ⟨rfl,hl5,z5⟩⟩
end
section
variable {h0:ae} {C W n wc d nb Pb R:Nat} {name:ByteArray} {p r:Int} {B:SV}
def PN (h:ae) (k:Nat) (e:Env) (m:Nat) (e':Env) (h':ae):Prop:=
 ∃j:Nat,m=k-j∧j≤k∧aC [8,9,10,40,41,42,43,44,45,46,47,48,49,50,51,52,53,54,55,56,57,58,59,60,61,62,63,64,65,66,67] e e'∧Env.get e' 40= .int .i64 j∧ab aG h h'
theorem JI {h hy:ae} (ok0:bh h0) (F:UF h0 h C W n wc d nb Pb R name p r B) {bs:List GB} (hB:wB h0 B bs) (hbn:bs.length=nb) (okx:bh hy) (gx:ab aG hy h) {AH:SV} {ah:List (List Int)} (hAH:SliceR (KO hy) 1 hy AH.v ah) (rw:wz nb ah)
  {A:SV} {row:List (Bool×Int)} (sA:SliceR vR 2 h0 A.v row) (hv: ∀v∈row,gO n v) (hrl:row.length<1000000) {i I4 s4:Nat} {ps:List Int} (hps:ah[i]? =some ps) (hpl:row.length=ps.length) (hI:h.tr.get I4=some (.aA [.int .i64 i] false 0 s4))
  {e:Env} {Q:aO→Env→ae→Prop} (f1:Env.get e 1= .pointer (some ⟨Pb,0,none⟩)) (f2:Env.get e 2= .pointer (some ⟨R,0,none⟩)) (f3:Env.get e 3=AH.v) (f4:Env.get e 4= .pointer (some ⟨I4,0,none⟩)) (f38:Env.get e 38=A.v) (f39:Env.get e 39= .int .i64 row.length) (f40:Env.get e 40= .int .i64 0)
  (ret: ∀e' h',IT h0 R e' h'→Q .ret e' h') (K: ∀e' h',ab aG h h'→aC [8,9,10,40,41,42,43,44,45,46,47,48,49,50,51,52,53,54,55,56,57,58,59,60,61,62,63,64,65,66,67] e e'→Q (.exit 4) e' h'):
  az FF (.loop ir) e h Q:=by
 have hAl:=SliceR.len sA
 have hAHl:=SliceR.len hAH
 have hBl:=SliceR.len hB
 have okh:=F.g.ok
 have hinb:i<nb:=by have:=(bY.mp hps).1;have:=rw.len;omega
 refine az.loop (PN h row.length e) ?_ (n:=row.length) ⟨0,rfl,by omega,aC.refl _ _,f40,.refl okh⟩
 rintro m e' h' ⟨j,rfl,hj,Kp,q40,g⟩
 have F':=F.aW g
 have q1:=Kp.at (by decide) f1
 have q2:=Kp.at (by decide) f2
 have q3:=Kp.at (by decide) f3
 have q4:=Kp.at (by decide) f4
 have q38:=Kp.at (by decide) f38
 have q39:=Kp.at (by decide) f39
 unfold ir
 by_cases hjl:j<row.length
 ·have wj:=wrap_i64 ((j:Int)+1) (by omega) (by omega)
  have hx:row[j]? =some row[j]:=aQ hjl
  have hm:=List.getElem_mem hjl
  generalize row[j]=v at hx hm
  obtain⟨b1,off1,c1,hAa,_,_,rfl,_,hrd1⟩:=SliceR.later ok0 sA hx
  have r1:=hrd1 h' F'.g 0 2 (by decide)
  obtain⟨b2,off2,c2,hAHa,_,_,⟨S,rfl,sS⟩,o2,hrd2⟩:=SliceR.later okx hAH hps
  have gx':=gx.trans g
  have r2: ∀h2,ab aG hy h2→aT h2 b2 (off2+i) 1=some [.slice S.a S.l S.c]:=fun h2 g2=>by have:=hrd2 h2 g2 0 1 (by decide);simpa [-ag] using this
  have hSl:=SliceR.len sS
  have hpx:ps[j]? =some ps[j]:=aQ (by omega)
  have hpm:=List.getElem_mem (l:=ps) (n:=j) (by omega)
  generalize ps[j]'(by omega)=a at hpx hpm
  obtain⟨ha0,han⟩:=(rw.row i ps hps).2 a hpm
  obtain⟨a,rfl⟩: ∃a':Nat,a=a':=⟨a.toNat,by omega⟩
  have han':a<nb:=by omega
  obtain⟨b3,off3,c3,hSa,_,_,rfl,o3,hrd3⟩:=SliceR.later okx sS hpx
  have r3: ∀h2,ab aG hy h2→aT h2 b3 (off3+j) 1=some [.int .i64 a]:=fun h2 g2=>by have:=hrd3 h2 g2 0 1 (by decide);simpa [-ag] using this
  obtain⟨xa,hxa⟩: ∃xa,bs[a]? =some xa:=⟨_,aQ (by omega)⟩
  obtain⟨b4,off4,c4,hBa,_,_,⟨P4,L4,T4,rfl,sP4,sL4,sT4⟩,o4,hrd4⟩:=SliceR.later ok0 hB hxa
  have r4: ∀h2,ab aG h0 h2→aT h2 b4 (off4+a*6+1) 1=some [.slice L4.a L4.l L4.c]:=fun h2 g2=>by have:=hrd4 h2 g2 1 1 (by decide);simpa [-ag] using this
  simp[-ag] at r1
  simp at q38 q3
  rw[hAa,hAl] at q38
  rw[hAHa,hAHl] at q3
  have hil:i<ah.length:=by rw[rw.len];exact hinb
  have hI':=g.get okh hI (fun h=>h)
  have oI:=F'.g.ok.bl hI'
  obtain⟨sP,hP'⟩:=F'.hP
  obtain⟨sC,hC'⟩:=F'.hC
  have hC2:=hC'
  simp[Gi] at hC2
  have oP:=F'.g.ok.bl hP'
  have oC:=F'.g.ok.bl hC'
  have ob2:=gx'.bl o2
  have ob3:=gx'.bl o3
  have ob4:=F'.g.bl o4
  have r2':=r2 h' gx'
  have r3':=r3 h' gx'
  have r4':=r4 h' F'.g
  have hjp:j<ps.length:=by omega
  rw[hSl,hSa] at r2'
  rw[hBa,hBl,hbn] at hC2
  simp[q1,q2,q3,q4,q38,q39,q40,hjl,r1,hil,-ag,aq,bg,aL,aw hI',oI,oP,oC,ob2,ob3,ob4,r2',r3',r4',hjp,aB,aw hP',aw hC2,hC2,hP',han']
  refine aP.cut (fun h5=>ab aG h' h5) ?_ ?_
  ·exact((ab.refl F'.g.ok).var _ _).tick
  intro h5 g5
  have F5:=F'.aW g5
  refine aP.call (V:=vu h5) (by simpa using zl F5 (hv v hm) han' L4.l) ?_
  rintro _ h6 ⟨g6,t,rfl⟩
  cases t with
  |true=>
   simp[q40,wj]
   refine⟨row.length-(j+1),by omega,j+1,rfl,by omega,?_,by simp,(g.trans g5).trans g6⟩
   repeat (refine aC.set (by decide) ?_)
   exact Kp
  |false=>
   obtain⟨sR,hR6⟩:=(F5.aW g6).hR
   have g06:=(F5.g.trans g6)
   simp[q2,hR6]
   exact ret _ _ ⟨g06.put ⟨_,hR6⟩ (.inl F.nR),⟨false,h6.clock,by simp⟩,by simp[q2]⟩
 ·have:j=row.length:=by omega
  subst this
  simp[q39,q40]
  exact K _ _ g (Kp.set (by decide))
def Pn (h:ae) (k:Nat) (e:Env) (m:Nat) (e':Env) (h':ae):Prop:=
 ∃j:Nat,m=k-j∧j≤k∧aC [7,33,34,35,36,37,38,39,68,8,9,10,40,41,42,43,44,45,46,47,48,49,50,51,52,53,54,55,56,57,58,59,60,61,62,63,64,65,66,67] e e'∧Env.get e' 33= .int .i64 j∧ab aG h h'
theorem aC.bM {l l':List Nat} {e e':Env} (K:aC l e e') (h: ∀t∈l,t∈l'):aC l' e e':=fun t ht=>K t (fun h'=>ht (h t h'))
theorem Ik {h hy:ae} (ok0:bh h0) (F:UF h0 h C W n wc d nb Pb R name p r B) {bs:List GB} (hB:wB h0 B bs) (hbn:bs.length=nb) (okx:bh hy) (gx:ab aG hy h) {AH:SV} {ah:List (List Int)} (hAH:SliceR (KO hy) 1 hy AH.v ah) (rw:wz nb ah)
  {i I4 s4:Nat} {ps:List Int} (hps:ah[i]? =some ps) (hI:h.tr.get I4=some (.aA [.int .i64 i] false 0 s4)) {P:SV} {phs:List GP} (hP:SliceR (pR h0) 2 h0 P.v phs) (hpl:phs.length<1000000) (hok: ∀q∈phs,q.row.length=ps.length∧ ∀v∈q.row,gO n v)
  {e:Env} {Q:aO→Env→ae→Prop} (f1:Env.get e 1= .pointer (some ⟨Pb,0,none⟩)) (f2:Env.get e 2= .pointer (some ⟨R,0,none⟩)) (f3:Env.get e 3=AH.v) (f4:Env.get e 4= .pointer (some ⟨I4,0,none⟩)) (f31:Env.get e 31=P.v) (f32:Env.get e 32= .int .i64 phs.length) (f33:Env.get e 33= .int .i64 0)
  (ret: ∀e' h',IT h0 R e' h'→Q .ret e' h') (K: ∀e' h',ab aG h h'→aC [7,33,34,35,36,37,38,39,68,8,9,10,40,41,42,43,44,45,46,47,48,49,50,51,52,53,54,55,56,57,58,59,60,61,62,63,64,65,66,67] e e'→Q (.exit 2) e' h'):
  az FF (.loop iw) e h Q:=by
 have hPl:=SliceR.len hP
 have okh:=F.g.ok
 refine az.loop (Pn h phs.length e) ?_ (n:=phs.length) ⟨0,rfl,by omega,aC.refl _ _,f33,.refl okh⟩
 rintro m e' h' ⟨j,rfl,hj,Kp,q33,g⟩
 have F':=F.aW g
 have q1:=Kp.at (by decide) f1
 have q2:=Kp.at (by decide) f2
 have q3:=Kp.at (by decide) f3
 have q4:=Kp.at (by decide) f4
 have q31:=Kp.at (by decide) f31
 have q32:=Kp.at (by decide) f32
 unfold iw
 by_cases hjl:j<phs.length
 ·have wj:=wrap_i64 ((j:Int)+1) (by omega) (by omega)
  have hx:phs[j]? =some phs[j]:=aQ hjl
  have hm:=List.getElem_mem hjl
  generalize phs[j]=q at hx hm
  obtain⟨hql,hqv⟩:=hok q hm
  obtain⟨b1,off1,c1,hPa,_,_,⟨A,rfl,sA⟩,_,hrd1⟩:=SliceR.later ok0 hP hx
  have r1:=hrd1 h' F'.g 0 2 (by decide)
  have hAl:=SliceR.len sA
  have:=(rw.row i ps hps).1
  simp[-ag] at r1
  simp at q31
  rw[hPa,hPl] at q31
  simp[q31,q32,q33,hjl,r1,-ag,aq]
  refine az.cut (fun h1=>ab aG h' h1) ((ab.refl F'.g.ok).var _ _) ?_
  intro h5 g5
  have F5:=F'.aW g5
  have g05:=g.trans g5
  refine JI ok0 F5 hB hbn okx (gx.trans g05) hAH rw sA hqv (by omega) hps hql (g05.get okh hI (fun h=>h)) (by simp[q1]) (by simp[q2]) (by simp[q3]) (by simp[q4]) (by simp) (by simp[hAl]) (by simp) ?_ ?_
  ·intro e6 h6 hr
   simp
   exact ret _ _ hr
  ·intro e6 h6 g6 K6
   have k33:=K6.at (t:=33) (by decide) (by simp;exact q33)
   simp[k33,wj]
   refine⟨phs.length-(j+1),by omega,j+1,rfl,by omega,?_,by simp,g05.trans g6⟩
   refine aC.set (by decide) (aC.set (by decide) (aC.trans ?_ (K6.bM (by decide))))
   repeat (refine aC.set (by decide) ?_)
   exact Kp
 ·have:j=phs.length:=by omega
  subst this
  simp[q32,q33]
  exact K _ _ g (Kp.set (by decide))
end
section
variable {h0:ae} {C W n wc d nb Pb R:Nat} {name:ByteArray} {p r:Int} {B:SV}
def P9 (h:ae) (k:Nat) (e:Env) (m:Nat) (e':Env) (h':ae):Prop:=
 ∃j:Nat,m=k-j∧j≤k∧aC [11,12,13,72,73,74,75,76,77,78,86] e e'∧Env.get e' 72= .int .i64 j∧ab aG h h'
theorem Hd {h:ae} (ok0:bh h0) (F:UF h0 h C W n wc d nb Pb R name p r B) {i I4 s4:Nat} (hi:i<nb) (hI:h.tr.get I4=some (.aA [.int .i64 i] false 0 s4)) {L:SV} {xs:List GI} (hL:SliceR (iR h0) 8 h0 L.v xs) (hll:xs.length<1000000) (hok: ∀x∈xs,x.args.length<2000000∧ ∀v∈c7 x,gO n v)
  {e:Env} {Q:aO→Env→ae→Prop} (f1:Env.get e 1= .pointer (some ⟨Pb,0,none⟩)) (f2:Env.get e 2= .pointer (some ⟨R,0,none⟩)) (f4:Env.get e 4= .pointer (some ⟨I4,0,none⟩)) (f70:Env.get e 70=L.v) (f71:Env.get e 71= .int .i64 xs.length) (f72:Env.get e 72= .int .i64 0)
  (ret: ∀e' h',IT h0 R e' h'→Q .ret e' h') (K: ∀e' h',ab aG h h'→aC [11,12,13,72,73,74,75,76,77,78,86] e e'→Q (.exit 6) e' h'):
  az FF (.loop gZ) e h Q:=by
 have hLl:=SliceR.len hL
 have okh:=F.g.ok
 refine az.loop (P9 h xs.length e) ?_ (n:=xs.length) ⟨0,rfl,by omega,aC.refl _ _,f72,.refl okh⟩
 rintro m e' h' ⟨j,rfl,hj,Kp,q72,g⟩
 have F':=F.aW g
 have q1:=Kp.at (by decide) f1
 have q2:=Kp.at (by decide) f2
 have q4:=Kp.at (by decide) f4
 have q70:=Kp.at (by decide) f70
 have q71:=Kp.at (by decide) f71
 unfold gZ
 by_cases hjl:j<xs.length
 ·have wj:=wrap_i64 ((j:Int)+1) (by omega) (by omega)
  have hx:xs[j]? =some xs[j]:=aQ hjl
  have hm:=List.getElem_mem hjl
  generalize xs[j]=x at hx hm
  obtain⟨hal,hv⟩:=hok x hm
  obtain⟨b1,off1,c1,hLa,_,_,⟨A,rfl,sA⟩,o1,hrd1⟩:=SliceR.later ok0 hL hx
  have r1:=hrd1 h' F'.g 0 8 (by decide)
  have ob1:=F'.g.bl o1
  simp[ay,-ag] at r1
  simp at q70
  rw[hLa,hLl] at q70
  simp[q70,q71,q72,hjl,r1,-ag,aq,aL,bg,ob1]
  refine aD.cut (fun h1=>ab aG h' h1∧ ∃s,h1.tr.get h'.next=some (.aA [.int .i64 j] false 0 s)) ?_ ?_
  ·refine⟨?_,⟨h'.clock,by simp⟩⟩
   repeat (first|exact .refl F'.g.ok|apply ab.new|refine ab.put ?_ (by simp) (by simp))
  rintro h5 ⟨g5,s6,hJ5⟩
  have g05:=g.trans g5
  refine aD.call (V:=fun v h'=>v= .func (.func cO) #[] #[.pointer (some ⟨h5.next,0,none⟩)]∧h'=aH h5 (ez x A) 0) (by simpa [ez,ay] using wI h5 x A) ?_
  rintro _ h6 ⟨rfl,e6⟩
  have g6:ab aG h5 h6:=by rw[e6];exact aI g05.ok _ _
  have hX6: ∃s,h6.tr.get h5.next=some (.aA (ez x A) false 0 s):=⟨0,by rw[e6];exact bH _ _ _⟩
  clear e6
  have g06:=g05.trans g6
  have hJ6:=g6.get g05.ok hJ5 (fun h=>h)
  have hI6:=g06.get okh hI (fun h=>h)
  simp
  refine HB ok0 (F.aW g06) hX6 sA hal hv hI6 hJ6 hi (by simp[q1]) (by simp[q2]) (by simp[q4]) (by simp) (by simp) ?_ ?_
  ·intro h7 hr
   simp
   exact ret _ _ hr
  ·intro h7 g7
   simp[q72,wj]
   refine⟨xs.length-(j+1),by omega,j+1,rfl,by omega,?_,by simp,g06.trans g7⟩
   repeat (refine aC.set (by decide) ?_)
   exact Kp
 ·have:j=xs.length:=by omega
  subst this
  simp[q71,q72]
  exact K _ _ g (Kp.set (by decide))
structure Em (n:Nat) (ah:List (List Int)) (bs:List GB):Prop where
 ph: ∀(i:Nat) b,bs[i]? =some b→b.dY.length<1000000∧ ∀ps,ah[i]? =some ps→ ∀q∈b.dY,q.row.length=ps.length∧ ∀v∈q.row,gO n v
 li: ∀b∈bs,b.list.length<1000000∧ ∀x∈b.list,x.args.length<2000000∧ ∀v∈c7 x,gO n v
 on: ∀b∈bs,gO n b.on
def Pp (h:ae) (C W n wc d nb Pb R:Nat) (B AH:SV) (k:Nat) (m:Nat) (e':Env) (h':ae):Prop:=
 ∃j:Nat,m=k-j∧j≤k∧Env.get e' 1= .pointer (some ⟨Pb,0,none⟩)∧Env.get e' 2= .pointer (some ⟨R,0,none⟩)∧Env.get e' 3=AH.v∧Env.get e' 23=B.v∧Env.get e' 24= .int .i64 k∧Env.get e' 25= .int .i64 j∧ab aG h h'
def KA (h:ae) (v:Value) (h':ae):Prop:=ab aG h h'∧ ∃t:Bool,v= .bool t
theorem Ij (ok0:bh h0) {bs:List GB} (hB:wB h0 B bs) (E:iJ bs) (hbn:bs.length=nb) (O:Em n (Edge.bm (aX bs)) bs) {s1 s2 s3:Nat} {ws:List (Int×Int)} {us:List Int}
  (hC:h0.tr.get C=some (.aA (Gi name p r B ⟨some ⟨d,0,none⟩,nb,nb⟩ ⟨some ⟨W,0,none⟩,n,wc⟩) false 0 s1)) (hW:h0.tr.get W=some (.aA (pQ.flat ws) false 0 s2)) (hl:ws.length=n) (hd:h0.tr.get d=some (.aA (aY.flat us) false 0 s3)) (hU:Tree.Hk us nb) (hn:n<1000000):
  aE FF nK [.pointer (some ⟨C,0,none⟩)] h0 (KA h0):=by
 have hBl:=SliceR.len hB
 have hel:=E.len
 have RW:=Gl E
 rw[hbn] at RW
 have oC:=ok0.bl hC
 have hC':=hC
 simp[Gi] at hC'
 refine aE.of uy ?_
 unfold nE
 simp[hC',oC]
 refine aD.cut (fun h1=>UF h0 h1 C W n wc d nb h0.next (h0.next+1) name p r B) ?_ ?_
 ·have g:ab aG h0 (aH (aH h0 [.pointer (some ⟨C,0,none⟩)] 0) [.bool false] 0):=((ab.refl ok0).new _ _).new _ _
  exact⟨g,⟨s1,g.get ok0 hC (fun h=>h)⟩,⟨ws,s2,g.get ok0 hW (fun h=>h),hl⟩,⟨us,s3,g.get ok0 hd (fun h=>h),hU⟩,⟨0,by simp⟩,⟨0,by simp⟩,by omega,by omega,hn⟩
 intro h1 F1
 refine aD.call (V:=fun v h'=>ab aG h1 h'∧ ∃d ws,v= .slice (some ⟨d,0,none⟩) bs.length bs.length∧jx aY h1.next h' d ws (Edge.bm (aX bs))) (by simpa [ak,hBl] using ma F1.g.ok (name:=name) (p:=p) (r:=r) (hB.mono ok0 F1.g) E) ?_
 rintro _ h2 ⟨g2,d8,wss,rfl,w8⟩
 have F2:=F1.aW g2
 obtain⟨sP,hP2⟩:=F2.hP
 obtain⟨sC,hC2⟩:=F2.hC
 simp[Gi] at hC2
 have hAH:=Gz (c:=bs.length) w8
 have hahl:(Edge.bm (aX bs)).length=bs.length:=by rw[Edge.eA];simp[aX]
 rw[hahl] at hAH
 simp[hP2,hC2]
 refine az.loop (Pp h2 C W n wc d nb h0.next (h0.next+1) B ⟨some ⟨d8,0,none⟩,bs.length,bs.length⟩ bs.length) ?_ (n:=bs.length) ⟨0,rfl,by omega,by simp,by simp,by simp,by simp,by simp[hBl],by simp,.refl F2.g.ok⟩
 rintro m e' h' ⟨j,rfl,hj,q1,q2,q3,q23,q24,q25,g⟩
 have F':=F2.aW g
 have ret: ∀e' h',IT h0 (h0.next+1) e' h'→tQ [.cell 2 none] (KA h0) .ret e' h':=by
  rintro e' h' ⟨gr,⟨t,s,hr⟩,er⟩
  simp[er,hr]
  exact⟨gr,t,rfl⟩
 unfold lr
 by_cases hjl:j<bs.length
 ·have wj:=wrap_i64 ((j:Int)+1) (by omega) (by omega)
  have hx:bs[j]? =some bs[j]:=aQ hjl
  have hm:=List.getElem_mem hjl
  generalize bs[j]=x at hx hm
  obtain⟨b1,off1,c1,hBa,_,_,⟨P,L,T,rfl,sP,sL,sT⟩,o1,hrd1⟩:=SliceR.later ok0 hB hx
  have r1:=hrd1 h' F'.g 0 6 (by decide)
  have ob1:=F'.g.bl o1
  have hPl:=SliceR.len sP
  have hLl:=SliceR.len sL
  obtain⟨ps,hps⟩: ∃ps,(Edge.bm (aX bs))[j]? =some ps:=⟨_,aQ (by omega)⟩
  obtain⟨hph1,hph2⟩:=O.ph j x hx
  obtain⟨hli1,hli2⟩:=O.li x hm
  simp[-ag] at r1
  simp at q23
  rw[hBa,hBl] at q23
  simp[q23,q24,q25,hjl,r1,-ag,aq,aL,bg,ob1]
  refine az.cut (fun h1=>ab aG h' h1∧(∃s,h1.tr.get h'.next=some (.aA [.int .i64 j] false 0 s))∧ ∃s,h1.tr.get (h'.next+1)=some (.aA [P.v,L.v,.int .i64 x.kind,.bool x.on.1,.int .i64 x.on.2,T.v] false 0 s)) ?_ ?_
  ·refine⟨?_,⟨h'.clock,by simp⟩,⟨h'.clock+1,by simp⟩⟩
   repeat (first|exact .refl F'.g.ok|apply ab.new|refine ab.put ?_ (by simp) (by simp))
  rintro h5 ⟨g5,⟨s5,hI5⟩,s6,hX5⟩
  have g05:=g.trans g5
  have F5:=F2.aW g05
  refine Ik ok0 F5 hB hbn F2.g.ok g05 hAH RW hps hI5 sP hph1 (hph2 ps hps) (by simp[q1]) (by simp[q2]) (by simp[q3]) (by simp) (by simp) (by simp[hPl]) (by simp) ?_ ?_
  ·intro e6 h6 hr
   simpa using ret _ _ hr
  intro e6 h6 g6 K6
  have hI6:=g6.get g05.ok hI5 (fun h=>h)
  have hX6:=g6.get g05.ok hX5 (fun h=>h)
  have k1:=K6.at (t:=1) (by decide) (by simp;exact q1)
  have k2:=K6.at (t:=2) (by decide) (by simp;exact q2)
  have k3:=K6.at (t:=3) (by decide) (by simp;exact q3)
  have k4:Env.get e6 4= .pointer (some ⟨h'.next,0,none⟩):=K6.at (t:=4) (by decide) (by simp)
  have k5:Env.get e6 5= .pointer (some ⟨h'.next+1,0,none⟩):=K6.at (t:=5) (by decide) (by simp)
  have k23:=K6.at (t:=23) (by decide) (by simp;exact q23)
  have k24:=K6.at (t:=24) (by decide) (by simp;exact q24)
  have k25:=K6.at (t:=25) (by decide) (by simp;exact q25)
  simp at hX6
  simp[k5,hX6]
  have F6:=F5.aW g6
  refine Hd ok0 F6 (by omega) hI6 sL hli1 hli2 (by simp[k1]) (by simp[k2]) (by simp[k4]) (by simp) (by simp[hLl]) (by simp) ?_ ?_
  ·intro e7 h7 hr
   simpa using ret _ _ hr
  intro e7 h7 g7 K7
  have hI7:=g7.get F6.g.ok hI6 (fun h=>h)
  have hX7:=g7.get F6.g.ok hX6 (fun h=>h)
  have F7:=F6.aW g7
  obtain⟨sP7,hP7⟩:=F7.hP
  have m1:=K7.at (t:=1) (by decide) (by simp;exact k1)
  have m2:=K7.at (t:=2) (by decide) (by simp;exact k2)
  have m3:=K7.at (t:=3) (by decide) (by simp;exact k3)
  have m4:Env.get e7 4= .pointer (some ⟨h'.next,0,none⟩):=K7.at (t:=4) (by decide) (by simp;exact k4)
  have m5:Env.get e7 5= .pointer (some ⟨h'.next+1,0,none⟩):=K7.at (t:=5) (by decide) (by simp;exact k5)
  have m23:=K7.at (t:=23) (by decide) (by simp;exact k23)
  have m24:=K7.at (t:=24) (by decide) (by simp;exact k24)
  have m25:=K7.at (t:=25) (by decide) (by simp;exact k25)
  simp[m1,m4,m5,hI7,hX7,hP7]
  refine aD.call (V:=vu h7) (by simpa using zl F7 (O.on x hm) (i:=j) (by omega) L.l) ?_
  rintro _ h8 ⟨g8,t,rfl⟩
  have F8:=F7.aW g8
  cases t with
  |true=>
   simp[m25,wj]
   exact⟨bs.length-(j+1),by omega,j+1,rfl,by omega,by simp[m1],by simp[m2],by simp[m3],by simp[m23,hBa,hBl],by simp[m24],by simp,(((g.trans g5).trans g6).trans g7).trans g8⟩
  |false=>
   obtain⟨sR,hR8⟩:=F8.hR
   simp[m2,hR8]
   exact⟨F8.g.put ⟨_,hR8⟩ (.inl F8.nR),false,rfl⟩
 ·have:j=bs.length:=by omega
  subst this
  obtain⟨sR,hR8⟩:=F'.hR
  simp[q24,q25,q2,hR8]
  exact⟨F'.g.put ⟨_,hR8⟩ (.inl F'.nR),true,rfl⟩
end
def oJ (bs:List GB):Prop:=bs.length≤(mA bs).length
def NY (bs:List GB) (h:ae) (v:Value) (h':ae):Prop:=ab aG h h'∧ ∃c:Int,v= .int .i64 c∧(c=0→oJ bs)
theorem Ck {h:ae} (ok:bh h) {name:ByteArray} {pn n:Nat} {B:SV} {bs:List GB} (hB:wB h B bs) (E:iJ bs) (h0:0<bs.length) (D:Ei n bs) (O:Em n (Edge.bm (aX bs)) bs) (hp:pn≤n) (hn:n<1000000):
  aE FF tU [.agg ⟨ak name pn n B⟩] h (NY bs h):=by
 have hBl:=SliceR.len hB
 have hel:=E.len
 refine aE.of zI ?_
 unfold tK
 simp[ak]
 have g0:ab aG h (tick (aH h (ak name pn n B) 0)):=(aI ok _ _).tick
 refine aP.cut (fun h1=>ab aG h h1∧h1.tr.get h.next=some (.aA (ak name pn n B) false 0 0)∧h1.tr.get (h.next+1)=some (.aA [.int .i64 (-1),.int .i64 (-1)] false 0 0)) ?_ ?_
 ·simp[ak] at g0
  exact⟨g0.new _ _,by simp[ak],by simp⟩
 rintro h1 ⟨g1,hF1,hW1⟩
 refine aP.call (V:=Mp h1 bs.length) (by simpa [ak] using HW g1.ok (name:=name) (p:=pn) (r:=n) (hB.mono ok g1) E h0) ?_
 rintro _ h2 ⟨g2,up,us,s2,rfl,hup,hU2,hUp⟩
 have hF2:=g2.get g1.ok hF1 (fun h=>h)
 simp[ak] at hF2
 have hW2:=g2.get g1.ok hW1 (fun h=>h)
 simp[hF2,hW2]
 have gg2:=g1.trans g2
 refine aP.call (V:=fun v h'=>ab aG h2 h'∧ ∃d s,v= .slice (some ⟨d,0,none⟩) n n∧h2.next≤d∧h'.tr.get d=some (.aA (pQ.flat (List.replicate n (-1,-1))) false 0 s)) (by simpa using JS gg2.ok n hn (x:=(-1,-1)) hW2) ?_
 rintro _ h3 ⟨g3,W,s3,rfl,hWl,hW3⟩
 have gg3:=gg2.trans g3
 have hF3:=g3.get gg2.ok hF2 (fun h=>h)
 have hU3:=g3.get gg2.ok hU2 (fun h=>h)
 have oF3:=gg3.ok.bl hF3
 simp[hF3,oF3]
 refine aP.cut (fun h4=>ab aG h3 h4∧ ∃s,h4.tr.get h3.next=some (.aA (Gi name pn n B ⟨some ⟨up,0,none⟩,bs.length,bs.length⟩ ⟨some ⟨W,0,none⟩,n,n⟩) false 0 s)) ?_ ?_
 ·exact⟨((ab.refl gg3.ok).new _ _).tick,0,by simp[Gi]⟩
 rintro h4 ⟨g4,s4,hC4⟩
 have gg4:=gg3.trans g4
 have hF4:=g4.get gg3.ok hF3 (fun h=>h)
 have hW4:=g4.get gg3.ok hW3 (fun h=>h)
 have hU4:=g4.get gg3.ok hU3 (fun h=>h)
 refine aP.call (V:=fun v h'=>ab aG h4 h'∧ ∃L:SV,v=L.v∧cj aY h4.next h' L.v (mA bs)) (by simpa [ak] using Am gg4.ok (name:=name) (p:=pn) (r:=n) (hB.mono ok gg4) E h0) ?_
 rintro _ h5 ⟨g5,L,rfl,hA⟩
 have gg5:=gg4.trans g5
 have hF5:=g5.get gg4.ok hF4 (fun h=>h)
 have hW5:=g5.get gg4.ok hW4 (fun h=>h)
 have hU5:=g5.get gg4.ok hU4 (fun h=>h)
 have hC5:=g5.get gg4.ok hC4 (fun h=>h)
 have hLl:L.l=(mA bs).length:=by
  rcases hA with⟨e,e2⟩|⟨_,_,e2,_⟩
  ·simp at e2;rw[e,e2.2.1];rfl
  ·simp at e2;exact e2.2.1
 have lW:W<h3.next:=(gg3.ok.bl hW3).lt
 by_cases hlt:(mA bs).length<bs.length
 ·simp[hF5,hBl,hLl,hlt]
  exact⟨gg5,5,rfl,fun h=>by cases h⟩
 ·simp[hF5,hBl,hLl,hlt]
  have w:SC h h5 h3.next W n n name pn n B ⟨some ⟨up,0,none⟩,bs.length,bs.length⟩:=⟨gg5,by have:=gg2.next;omega,by omega,⟨s4,hC5⟩,_,s3,hW5,by simp⟩
  refine aD.call (V:=NW h h5 h3.next W n n name pn n B ⟨some ⟨up,0,none⟩,bs.length,bs.length⟩) (by simpa using C8 ok hB D w rfl hp hn) ?_
  rintro _ h6 ⟨⟨t,rfl⟩,w6,gw6⟩
  cases t with
  |false=>
   simp
   exact⟨w6.g,7,rfl,fun h=>by cases h⟩
  |true=>
   simp
   obtain⟨s6,hC6⟩:=w6.hC
   obtain⟨ws,s7,hW6,hwl⟩:=w6.hW
   have lU:=(gg2.ok.bl hU2).lt
   have hU6:=gw6.get gg5.ok hU5 (by omega)
   refine aD.call (V:=KA h6) (by simpa using Ij w6.g.ok (hB.mono ok w6.g) E rfl O hC6 hW6 hwl hU6 hUp hn) ?_
   rintro _ h7 ⟨g7,t,rfl⟩
   cases t with
   |false=>
    simp
    exact⟨w6.g.trans g7,6,rfl,fun h=>by cases h⟩
   |true=>
    simp
    exact⟨w6.g.trans g7,0,rfl,fun _=>by unfold oJ;omega⟩
theorem kF {bs:List GB} {b:GB} (h:b∈bs):b.dY.length+b.list.length≤eQ bs:=by
 induction bs with
 |nil=>simp at h
 |cons x bs ih=>
  simp only[eQ]
  rcases List.mem_cons.1 h with rfl|h
  ·omega
  ·have:=ih h;omega
theorem Gg {ai:Int} {x:GI} (h:tP ai x):x.dst= -1∨qJ ai x.dst:=by
 have hf:=h.form
 unfold aU at hf
 cases hs:(bS x.op).1 with
 |false=>
  rw[hs] at hf
  simp at hf
  exact .inl hf.1
 |true=>
  by_cases h20:x.op=20∧x.dst= -1
  ·exact .inl h20.2
  ·exact .inr (h.dst hs h20)
theorem te {ai:Int} {x:GI} (h:tP ai x):lx ai x.args∧x.args.length≤6:=by
 by_cases h20:x.op=20
 ·exact h.args h20
 ·have hf:=h.form
  unfold aU at hf
  have h20':(x.op==20)=false:=by simpa using h20
  rw[h20'] at hf
  simp at hf
  have:x.args=[]:=List.eq_nil_of_length_eq_zero (by have:=hf.2.2.2.2;simp[this])
  rw[this]
  exact⟨lx.nil _,by simp⟩
theorem Dq {ai:Int} {x:GI} (h:tP ai x):lx ai x.args:=(te h).1
theorem wD {ai:Int} {v:Bool×Int} (h:o9 ai v):gO ai.toNat v:=by
 intro h1
 have:=h h1
 omega
theorem JK {ai:Int} {x:GI} (h:tP ai x): ∀v∈c7 x,o9 ai v:=by
 intro v hv
 unfold c7 at hv
 rcases List.mem_append.1 hv with hv|hv
 ·split at hv
  ·simp at hv;subst hv;exact h.a
  ·cases hv
 ·rcases List.mem_append.1 hv with hv|hv
  ·split at hv
   ·simp at hv;subst hv;exact h.b
   ·cases hv
  ·exact Dq h v hv
structure ml (f:GF):Prop where
 head:ui f
 body:wC f.ai f.blocks
 sm: ∀b∈f.blocks,qF b
theorem ml.ends {f:GF} (F:ml f):iJ f.blocks:=F.body.ends.ends (by have:=F.head.blocks;omega)
theorem ml.PC {f:GF} (F:ml f):Ei f.ai.toNat f.blocks:=by
 have hb:=F.head.blocks
 have hm:=F.head.many
 refine⟨by omega,fun b hb=>⟨by have:=kF hb;omega,fun q hq=> ?_⟩,fun b hb=>⟨by have:=kF hb;omega,fun x hx=> ?_⟩⟩
 ·obtain⟨i,hi⟩:=pM hb
  obtain⟨_,l,_,hp⟩:=(F.body.Bm i b hi).dY q hq
  have:=hp.dst
  unfold qJ at this
  omega
 ·obtain⟨i,hi⟩:=pM hb
  have hr:=F.head.ai
  have hp:=F.head.params
  rcases Gg ((F.body.Bm i b hi).list x hx) with h|h
  ·omega
  ·unfold qJ at h;omega
theorem ml.II {f:GF} (F:ml f):Em f.ai.toNat (Edge.bm (aX f.blocks)) f.blocks:=by
 have hm:=F.head.many
 refine⟨fun i b hb=>⟨by have:=kF (di hb);omega,fun ps hps q hq=> ?_⟩,fun b hb=>⟨by have:=kF hb;omega,fun x hx=> ?_⟩,fun b hb=> ?_⟩
 ·obtain⟨_,l,hl,hp⟩:=(F.body.Bm i b hb).dY q hq
  rw[hl] at hps;cases hps
  exact⟨hp.len,fun v hv=>wD (hp.row v hv)⟩
 ·obtain⟨i,hi⟩:=pM hb
  have:=(te ((F.body.Bm i b hi).list x hx)).2
  exact⟨by omega,fun v hv=>wD (JK ((F.body.Bm i b hi).list x hx) v hv)⟩
 ·intro h1
  have:=(F.body.ends b hb).on h1
  omega
structure zi (u:GU):Prop where
 unit:yy u
 form: ∀f∈u.funcs,ml f
 seen: ∀f∈u.funcs,oJ f.blocks
theorem zi.of {u:GU} (U:yy u) (sm:v_ u) (S: ∀f∈u.funcs,oJ f.blocks):zi u:=⟨U,fun f hf=>⟨U.head f hf,U.body f hf,sm.bs f hf⟩,S⟩
def PV (h0 h:ae) (R:Nat) (F:SV) (fs:List GF) (m:Nat) (e:Env) (h':ae):Prop:=
 ∃j:Nat,m=fs.length-j∧j≤fs.length∧Env.get e 2= .pointer (some ⟨R,0,none⟩)∧Env.get e 14=F.v∧Env.get e 15= .int .i64 fs.length∧Env.get e 16= .int .i64 j∧ab aG h h'∧ ∀f∈fs.take j,oJ f.blocks
theorem Dd {h:ae} (ok:bh h) (hw:xx h) {G F:SV} {u:GU} (hu:uR h G F u) (sm:v_ u):
  aE FF wU [.agg ⟨[G.v,F.v]⟩] h (zk (zi u) h):=by
 have hFl:=SliceR.len hu.2
 refine aE.of CK ?_
 unfold wJ
 simp
 refine aD.cut (fun h1=>ab aG h h1∧h1.tr.get h.next=some (.aA [G.v,F.v] false 0 0)∧h1.tr.get (h.next+1)=some (.aA [.int .i64 0,.int .i64 0] false 0 0)) ?_ ?_
 ·exact⟨((ab.refl ok).new _ _).new _ _,by simp,by simp⟩
 rintro h1 ⟨g1,hU1,hR1⟩
 refine aD.call (V:=zk (yy u) h1) (by simpa using Fa g1.ok (hw.grow ok g1) (hu.mono ok g1) sm) ?_
 rintro _ h2 ⟨g2,c,a,rfl,hc⟩
 have gg2:=g1.trans g2
 have hU2:=g2.get g1.ok hU1 (fun h=>h)
 have hR2:=g2.get g1.ok hR1 (fun h=>h)
 simp at hU2
 have oR2:=g2.ok.bl hR2
 have oU2:=g2.ok.bl hU2
 rcases hc with hc|⟨rfl,rfl,hU⟩
 ·have hc':(c==0)=false:=by simpa using hc
  simp[hc',hR2,oR2,aq,-ag]
  refine⟨ab.put (gg2.var _ _) ⟨0,?_⟩ (.inl (by omega)),c,a,rfl,.inl hc⟩
  rw[yf,if_neg (by have:=oR2.lt;omega),yv oR2,hR2]
 simp[hU2,oU2]
 refine az.cut (fun h3=>ab aG h2 h3) ?_ ?_
 ·exact(ab.refl g2.ok).var _ _
 intro h3 g3
 have gg3:=gg2.trans g3
 have S:=hU
 refine az.loop (PV h h3 (h.next+1) F u.funcs) ?_ (n:=u.funcs.length) ⟨0,rfl,by omega,by simp,by simp,by simp[hFl],by simp,.refl gg3.ok,fun f hf=>by simp at hf⟩
 rintro m e h' ⟨j,rfl,hj,q2,q14,q15,q16,g,hA⟩
 have gg:=gg3.trans g
 have hR:=(g3.trans g).get g2.ok hR2 (fun h=>h)
 unfold uf
 by_cases hjl:j<u.funcs.length
 ·have wj:=wrap_i64 ((j:Int)+1) (by omega) (by have:=hU.fn;omega)
  have hx:u.funcs[j]? =some u.funcs[j]:=aQ hjl
  have hm:=List.getElem_mem hjl
  generalize u.funcs[j]=f at hx hm
  have FO:ml f:=⟨hU.head f hm,hU.body f hm,sm.bs f hm⟩
  have hd:=FO.head
  obtain⟨b1,off1,c1,hFa,_,_,⟨B,rfl,sB⟩,o1,hrd1⟩:=SliceR.later ok hu.2 hx
  have r1:=hrd1 h' gg 0 4 (by decide)
  simp[-ag] at r1
  simp at q14
  rw[hFa,hFl] at q14
  have hp:=hd.params
  have hr:=hd.ai
  obtain⟨pn,hpn⟩: ∃pn:Nat,f.params=pn:=⟨f.params.toNat,by omega⟩
  obtain⟨rn,hrn⟩: ∃rn:Nat,f.ai=rn:=⟨f.ai.toNat,by omega⟩
  have D:=FO.PC
  have O:=FO.II
  have ern:f.ai.toNat=rn:=by omega
  rw[ern] at D O
  simp[q14,q15,q16,hjl,r1,-ag,aq]
  refine aD.cut (fun h1=>ab aG h' h1) ((ab.refl gg.ok).var _ _) ?_
  intro h5 g5
  have g05:=gg.trans g5
  rw[hpn,hrn]
  refine aD.call (V:=NY f.blocks h5) (by simpa [ak] using Ck g05.ok (name:=f.name) (sB.mono ok g05 fun _ _ r=>r.mono ok g05) FO.ends (by have:=hd.blocks;omega) D O (by omega) (by omega)) ?_
  rintro _ h6 ⟨g6,c,rfl,hc⟩
  have hR6:=(g5.trans g6).get gg.ok hR (fun h=>h)
  have g06:=g05.trans g6
  by_cases hc0:c=0
  ·subst hc0
   simp[q16,wj]
   refine⟨u.funcs.length-(j+1),by omega,j+1,rfl,by omega,by simp[q2],by simp[q14,hFa,hFl],by simp[q15],by simp,(g.trans g5).trans g6,fun f' hf'=> ?_⟩
   rw[List.take_add_one,hx] at hf'
   rcases List.mem_append.1 hf' with h1|h1
   ·exact hA f' h1
   ·simp at h1;subst h1;exact hc rfl
  ·have hcn:(c !=0)=true:=by simpa using hc0
   simp[hcn,hc0]
   refine aD.call (by simpa using ie h6 g06.ok c (j:Int)) ?_
   rintro _ h7 ⟨rfl,g7⟩
   have hR7:=g7.get g06.ok hR6 (fun h=>h)
   simp[q2,hR7]
   exact⟨(g06.trans g7).put ⟨_,hR7⟩ (.inl (by omega)),c,j,rfl,.inl hc0⟩
 ·have:j=u.funcs.length:=by omega
  subst this
  rw[List.take_length] at hA
  simp[q15,q16,q2,hR]
  exact⟨gg.put ⟨_,hR⟩ (.inl (by omega)),0,0,rfl,.inr ⟨rfl,rfl,zi.of hU sm hA⟩⟩
def eJ {α:Type} (E:Enc α) (h:ae) (A:SV) (xs:List α):Prop:=
 A.l=xs.length∧((A.a=none∧A.c=0∧xs=[])∨ ∃b o s rest,A.a=some ⟨b,0,none⟩∧A.c=xs.length+rest.length∧h.tr.get b=some (.aA (E.flat (xs++rest)) false o s)∧(o=0∨o=E.sz))
section
variable {α:Type} {E:Enc α} {h h':ae} {A:SV} {xs:List α}
theorem eJ.len (w:eJ E h A xs):A.l=xs.length:=w.1
theorem eJ.nil (E:Enc α) (h:ae):eJ E h eg []:=⟨rfl,.inl ⟨rfl,rfl,rfl⟩⟩
theorem bN {A:SV} {b:Nat} (h:A.a=some ⟨b,0,none⟩):av A.v b:=⟨0,A.l,A.c,by simp[h]⟩
theorem pw {A:SV} {b b':Nat} (h:A.a=some ⟨b,0,none⟩) (k:av A.v b'):b'=b:=by
 obtain⟨off,n,cap,e⟩:=k
 simp[h] at e
 exact e.1.1.symm
theorem fz {A:SV} {b:Nat} (h:A.a=none) (k:av A.v b):False:=by
 obtain⟨off,n,cap,e⟩:=k
 simp[h] at e
theorem eJ.grow {S:Nat→Prop} (w:eJ E h A xs) (ok:bh h) (g:ab S h h') (hS: ∀b,av A.v b→ ¬S b):eJ E h' A xs:=by
 obtain⟨hl,w⟩:=w
 refine⟨hl,?_⟩
 rcases w with w|⟨b,o,s,rest,ha,hc,hb,ho⟩
 ·exact .inl w
 ·exact .inr ⟨b,o,s,rest,ha,hc,g.get ok hb (hS b (bN ha)),ho⟩
theorem eJ.aW (w:eJ E h A xs) (ok:bh h) (g:ab aG h h'):eJ E h' A xs:=w.grow ok g (fun _ _ h=>h)
theorem eJ.sl (w:eJ E h A xs):aS E h A.v xs:=by
 obtain⟨hl,w⟩:=w
 refine⟨A.a,A.c,by simp[hl],?_⟩
 rcases w with⟨ha,_,rfl⟩|⟨b,o,s,rest,ha,hc,hb,ho⟩
 ·exact .inl ⟨rfl,.inl ha⟩
 ·refine .inr ⟨b,0,_,_,_,_,ha,hb,?_,?_⟩
  ·simp[Nat.add_mul]
  ·rw[List.drop_zero,E.fF];simp
theorem eJ.bl (w:eJ E h A xs) (ok:bh h) {b:Nat} (k:av A.v b):b<h.next:=by
 obtain⟨hl,w⟩:=w
 rcases w with⟨ha,_⟩|⟨b',o,s,rest,ha,hc,hb,ho⟩
 ·exact(fz ha k).elim
 ·rw[pw ha k];exact ok.wf _ _ hb
theorem Ed (E:Enc α) (ys:List α) (i:Nat) (x y:α) (hx:ys[i]? =some x) (k:Nat) (vs:List Value) (hk:k+vs.length≤E.sz) (e:aK (E.enc x) k vs=E.enc y):aK (E.flat ys) (i*E.sz+k) vs=E.flat (ys.set i y):=by
 have hi:=(bY.mp hx).1
 rw[List.set_eq_take_append_cons_drop,if_pos hi,E.cX,E.dM,←e]
 unfold aK
 have h1:(E.flat ys).take (i*E.sz+k)=E.flat (ys.take i)++(E.enc x).take k:=by
  rw[List.take_add,E.fF]
  congr 1
  rw[←E.mN ys i x hx,List.take_take,Nat.min_eq_left (by omega)]
 have h2:(E.flat ys).drop (i*E.sz+k+vs.length)=(E.enc x).drop (k+vs.length)++E.flat (ys.drop (i+1)):=by
  rw[Nat.add_assoc,←List.drop_drop,E.jE,List.drop_eq_getElem_cons hi,E.dM,List.drop_append,(bY.mp hx).2,E.len,show k+vs.length-E.sz=0 by omega,List.drop_zero]
 rw[h1,h2]
 simp[List.append_assoc]
theorem eJ.el (w:eJ E h A xs) {i:Nat} {x:α} (hx:xs[i]? =some x): ∃b cs o s,A.a=some ⟨b,0,none⟩∧h.tr.get b=some (.aA cs false o s)∧i<A.l∧(∀k m,k+m≤E.sz→i*E.sz+k+m≤cs.length)∧
  (∀k m,k+m≤E.sz→aT h b (i*E.sz+k) m=some (((E.enc x).drop k).take m))∧
  ∀y k vs,k+vs.length≤E.sz→aK (E.enc x) k vs=E.enc y→ ∀h1:ae,(∃s,h1.tr.get b=some (.aA (aK cs (i*E.sz+k) vs) false o s))→eJ E h1 A (xs.set i y):=by
 obtain⟨hl,w⟩:=w
 have hi:=(bY.mp hx).1
 rcases w with⟨ha,_,rfl⟩|⟨b,o,s,rest,ha,hc,hb,ho⟩
 ·simp at hi
 ·have hx':(xs++rest)[i]? =some x:=by rw[List.getElem?_append_left hi];exact hx
  have hlen: ∀k m,k+m≤E.sz→i*E.sz+k+m≤(E.flat (xs++rest)).length:=by
   intro k m hkm
   rw[E.bt,List.length_append]
   have:(i+1)*E.sz≤(xs.length+rest.length)*E.sz:=Nat.mul_le_mul_right _ (by omega)
   rw[Nat.add_mul] at this
   omega
  refine⟨b,_,o,s,ha,hb,by omega,hlen,fun k m hkm=> ?_,fun y k vs hk e h1 ⟨s1,hb1⟩=>⟨by simpa using hl,.inr ⟨b,o,s1,rest,ha,by simpa using hc,?_,ho⟩⟩⟩
  ·rw[cN hb (hlen k m hkm),E.kD _ _ _ _ _ hx' hkm]
  ·rw[hb1,Ed E _ _ _ _ hx' k vs hk e,List.set_append,if_pos hi]
theorem yx (E:Enc α) (xs ys rest:List α) (h:ys.length≤rest.length):aK (E.flat (xs++rest)) (xs.length*E.sz) (E.flat ys)=E.flat ((xs++ys)++rest.drop ys.length):=by
 unfold aK
 rw[E.fF,E.bt,←Nat.add_mul,E.jE]
 have:List.drop (xs.length+ys.length) xs=[]:=List.drop_eq_nil_of_le (by omega)
 simp[List.drop_append,this]
theorem yr {bytes:Nat} {z:List Value} {v:Value} {ys:List α} (ok:bh h) (hz:z.length=E.sz) (w:eJ E h A xs) (hw:aS E h v ys) (hl:xs.length+ys.length<2000000) (hby:bytes≤1000):
  ∃(A':SV) (h':ae),j6 h z bytes false A.v v=some (A'.v,h')∧eJ E h' A' (xs++ys)∧ab (av A.v) h h'∧(∀b,av A'.v b→av A.v b∨b=h.next)∧(A.c=A.l→A'.c=A'.l):=by
 have hp:=E.pos
 have hp':E.sz≠0:=by omega
 have hlen:=w.1
 unfold j6
 rw[xR hz hw]
 dsimp only
 cases ys with
 |nil=>
  refine⟨A,h,?_,by simpa using w,.refl ok,fun b hb=> .inl hb,fun h=>h⟩
  have:A.l≤A.c:=by
   rcases w.2 with⟨_,h2,rfl⟩|⟨_,_,_,rest,_,h2,_⟩
   ·rw[hlen];simp
   ·omega
  simp[ff,hz,hp,this]
 |cons y ys=>
  have r1:roomy (xs.length+(ys.length+1))=true:=by simp[roomy];simp at hl;omega
  have r2:roomy ((xs.length+(ys.length+1))*bytes)=true:=by
   have:(xs.length+(ys.length+1))*bytes≤2000000*1000:=Nat.mul_le_mul (by simp at hl;omega) hby
   simp[roomy];omega
  have hsl:(E.flat (y::ys)).length=(ys.length+1)*E.sz:=by rw[E.bt,List.length_cons]
  obtain⟨cs,hcs⟩: ∃cs,cs=E.flat (y::ys):=⟨_,rfl⟩
  rw[←hcs] at hsl ⊢
  rcases w.2 with⟨ha,hc,rfl⟩|⟨b,o,s,rest,ha,hc,hb,ho⟩
  ·refine⟨⟨some ⟨h.next,0,none⟩,ys.length+1,ys.length+1⟩,aH h cs E.sz,?_,⟨by simp,.inr ⟨h.next,E.sz,0,[],rfl,by simp,?_,.inr rfl⟩⟩,(aI ok _ _).aW,fun b hb=> .inr (pw rfl hb),fun _=>rfl⟩
   ·simp only[List.length_nil,Nat.zero_add] at r1 r2 hlen
    simp[ff,hz,hp,r1,r2,ha,hc,hlen]
   ·rw[bH,hcs];simp
  ·have hlt:(E.flat (xs++rest)).take (xs.length*E.sz)=E.flat xs:=by rw[E.fF];simp
   by_cases hroom:xs.length+(ys.length+1)≤A.c
   ·have hfit:xs.length*E.sz+(ys.length+1)*E.sz≤(xs.length+rest.length)*E.sz:=by
     rw[←Nat.add_mul];exact Nat.mul_le_mul_right _ (by omega)
    refine⟨⟨A.a,xs.length+(ys.length+1),A.c⟩,put h b (xs.length*E.sz) (E.flat (xs++rest)) cs o,?_,⟨by simp,.inr ⟨b,o,h.clock,rest.drop (ys.length+1),ha,by simp;omega,?_,ho⟩⟩,?_,?_,fun h=>by omega⟩
    ·simp[ff,hz,hp,r1,r2,ha,hlen,hroom,hb,hsl]
     have hfit':(ys.length+1)*E.sz≤rest.length*E.sz:=Nat.mul_le_mul_right _ (by omega)
     rw[if_pos hfit']
    ·rw[ax,hcs,yx E xs (y::ys) rest (by simp;omega)]
     rfl
    ·exact(aJ ok hb).bM (fun x _ e=>e▸bN ha)
    ·intro b' hb'
     have:=pw (A:=⟨A.a,xs.length+(ys.length+1),A.c⟩) ha hb'
     exact .inl (this▸bN ha)
   ·have hread:((E.flat (xs++rest)).drop 0).take (xs.length*E.sz)=E.flat xs:=by rw[List.drop_zero,hlt]
    have hflat:E.flat xs++cs=E.flat (xs++y::ys++[]):=by rw[hcs,List.append_nil,E.cX]
    rcases ho with rfl|rfl
    ·refine⟨⟨some ⟨h.next,0,none⟩,xs.length+(ys.length+1),xs.length+(ys.length+1)⟩,aH h (E.flat xs++cs) E.sz,?_,⟨by simp,.inr ⟨h.next,E.sz,0,[],rfl,by simp,?_,.inr rfl⟩⟩,(aI ok _ _).aW,fun b hb=> .inr (pw rfl hb),fun _=>rfl⟩
     ·simp[ff,hz,hp,r1,r2,ha,hlen,hroom,hb,hlt]
     ·rw[bH,hflat]
    ·refine⟨⟨some ⟨h.next,0,none⟩,xs.length+(ys.length+1),xs.length+(ys.length+1)⟩,aH { h with tr:=h.tr.del b } (E.flat xs++cs) E.sz,?_,⟨by simp,.inr ⟨h.next,E.sz,0,[],rfl,by simp,?_,.inr rfl⟩⟩,?_,fun b hb=> .inr (pw rfl hb),fun _=>rfl⟩
     ·have hcl:A.c*E.sz=(xs.length+rest.length)*E.sz:=by rw[hc]
      simp[ff,hz,hp,r1,r2,ha,hlen,hroom,hb,hlt,hp']
      intro hne
      have:Nat.beq (A.c*E.sz) (xs.length*E.sz+rest.length*E.sz)=true:=by rw[hcl,Nat.add_mul];exact Nat.beq_refl _
      rw[this] at hne;cases hne
     ·have:=bH { h with tr:=h.tr.del b } (E.flat xs++cs) E.sz
      rw[←hflat]
      exact this
     ·refine((fZ ok b).bM ?_).trans (aI (fZ ok b).ok _ _).aW
      rintro x _ rfl
      exact bN ha
end
def Ae (z:List Value) (bytes:Nat):aj:=(.seq (.ops [o_ 2 (.mv (.const (.slice none 0 0)))]) (.seq (.seq (.ops [m_ 3 0,o_ 4 (.bin .eql [3] (t_ 3) (.const (.slice none 0 0)))]) (.cond (t_ 4) (.seq (.ops [o_ 2 (.mv (.const (.slice none 0 0)))]) .ret) .skip)) (.seq (.ops [o_ 5 (.ct 0 [] []),m_ 6 0,o_ 7 (.append z bytes false (t_ 5) (t_ 6)),m_ 2 7]) .ret)))
def pF {α:Type} (E:Enc α) (h:ae) (xs:List α) (r:Value) (h':ae):Prop:=ab aG h h'∧ ∃w:SV,r=w.v∧eJ E h' w xs∧(∀b,av w.v b→h.next≤b)∧w.c=w.l
theorem iy {α:Type} (E:Enc α) {f bytes:Nat} {z:List Value} (hf:FF f=some ⟨[.tmp 2],Ae z bytes,.no⟩) (hz:z.length=E.sz) (hby:bytes≤1000) {h:ae} (ok:bh h) {v:SV} {xs:List α} (hs:aS E h v.v xs) (hlen:xs.length<2000000):
  aE FF f [v.v] h (pF E h xs):=by
 have hp:=E.pos
 have hll:v.l=xs.length:=by obtain⟨a,cap,e,_⟩:=hs;simp at e;exact e.2.1
 refine aE.of hf ?_
 unfold Ae
 cases ha:v.a with
 |none=>
  have hx:xs=[]:=by
   obtain⟨a,cap,e,h2⟩:=hs
   simp[ha] at e
   rcases h2 with h2|⟨b,off,cs,ro,o,st,e2,_⟩
   ·exact h2.1
   ·rw[e2] at e;simp at e
  subst hx
  simp[ha]
  exact⟨.refl ok,eg,rfl,eJ.nil E h,fun b hb=>(fz rfl hb).elim,rfl⟩
 |some a0=>
  have g0:=aI ok [] 0
  have w0:eJ E (aH h [] 0) ⟨some ⟨h.next,0,none⟩,0,0⟩ ([]:List α):=⟨rfl,.inr ⟨h.next,0,0,[],rfl,rfl,bH _ _ _,.inl rfl⟩⟩
  obtain⟨A',h',ha',wA,gA,hbA,hcA⟩:=yr (bytes:=bytes) g0.ok hz w0 (hs.aW ok g0) (by simpa using hlen) hby
  have hh:=ha'
  simp[ha,hll] at ha'
  simp[ha,hll]
  refine jV ha' ?_
  simp
  refine⟨g0.trans' gA (fun _ _ h=>h) (fun x hx e=>by have:=pw rfl e;omega),A',by simp,by simpa using wA,fun b hb=> ?_,hcA rfl⟩
  rcases hbA b hb with h|h
  ·rw[pw rfl h];exact Nat.le_refl _
  ·rw[h];simp
structure XI where
 op:Int
 dst:Int
 a:Bool×Int
 b:Bool×Int
 fn:Int
 args:SV
structure XR where
 P:SV
 L:SV
 T:SV
 kind:Int
 on:Bool×Int
 ps:List (Int×SV)
 ls:List XI
 ts:List Int
def bU:Enc (Bool×Int):=⟨fun x=>[.bool x.1,.int .i64 x.2],2,fun _=>rfl,by decide,fun _=>rfl⟩
@[simp] theorem eX:bU.sz=2:=rfl
@[simp] theorem rU (x:Bool×Int):bU.enc x=[.bool x.1,.int .i64 x.2]:=rfl
def iK:Enc (Int×SV):=⟨fun x=>[.int .i64 x.1,x.2.v],2,fun _=>rfl,by decide,fun _=>rfl⟩
@[simp] theorem OU:iK.sz=2:=rfl
@[simp] theorem On (x:Int×SV):iK.enc x=[.int .i64 x.1,x.2.v]:=rfl
def me:Enc XI:=⟨fun x=>[.int .i64 x.op,.int .i64 x.dst,.bool x.a.1,.int .i64 x.a.2,.bool x.b.1,.int .i64 x.b.2,.int .i64 x.fn,x.args.v],8,fun _=>rfl,by decide,fun _=>rfl⟩
@[simp] theorem OW:me.sz=8:=rfl
@[simp] theorem Jl (x:XI):me.enc x=[.int .i64 x.op,.int .i64 x.dst,.bool x.a.1,.int .i64 x.a.2,.bool x.b.1,.int .i64 x.b.2,.int .i64 x.fn,x.args.v]:=rfl
def fq:Enc XR:=⟨fun x=>[x.P.v,x.L.v,.int .i64 x.kind,.bool x.on.1,.int .i64 x.on.2,x.T.v],6,fun _=>rfl,by decide,fun _=>rfl⟩
@[simp] theorem OM:fq.sz=6:=rfl
@[simp] theorem nB (x:XR):fq.enc x=[x.P.v,x.L.v,.int .i64 x.kind,.bool x.on.1,.int .i64 x.on.2,x.T.v]:=rfl
def VA (κ cap:Nat→Nat) (A:SV):Prop:=A.l≤A.c∧((A.a=none∧A.c=0)∨ ∃b,A.a=some ⟨b,0,none⟩∧κ b=1∧A.c=cap b)
def xy (h:ae) (κ cap:Nat→Nat) (ai:Nat):Prop:= ∀b,κ b=1→ ∃vs o s,h.tr.get b=some (.aA (bU.flat vs) false o s)∧(o=0∨o=2)∧vs.length=cap b∧ ∀v∈vs,gO ai v
structure Gq (h:ae) (κ cap:Nat→Nat) (ai:Nat) (r:XR):Prop where
 P:eJ iK h r.P r.ps
 L:eJ me h r.L r.ls
 T:eJ aY h r.T r.ts
 kP: ∀b,av r.P.v b→κ b=3
 kL: ∀b,av r.L.v b→κ b=4
 kT: ∀b,av r.T.v b→κ b=5
 ps: ∀p∈r.ps,(0≤p.1∧p.1<ai)∧VA κ cap p.2
 ls: ∀x∈r.ls,x.dst<ai∧gO ai x.a∧gO ai x.b∧VA κ cap x.args
 on:gO ai r.on
structure cy (h:ae) (n0 ai:Nat) (κ cap:Nat→Nat) (rs:List XR):Prop where
 r: ∀(i:Nat) (r:XR),rs[i]? =some r→Gq h κ cap ai r
 dP: ∀(i j:Nat) (ri rj:XR) (b:Nat),rs[i]? =some ri→rs[j]? =some rj→i≠j→av ri.P.v b→ ¬av rj.P.v b
 dL: ∀(i j:Nat) (ri rj:XR) (b:Nat),rs[i]? =some ri→rs[j]? =some rj→i≠j→av ri.L.v b→ ¬av rj.L.v b
 dT: ∀(i j:Nat) (ri rj:XR) (b:Nat),rs[i]? =some ri→rs[j]? =some rj→i≠j→av ri.T.v b→ ¬av rj.T.v b
 V:xy h κ cap ai
 new: ∀b,κ b≠0→n0≤b∧b<h.next
section
variable {h h':ae} {n0 ai:Nat} {κ cap:Nat→Nat}
theorem xy.grow {S:Nat→Prop} (w:xy h κ cap ai) (ok:bh h) (g:ab S h h') (hS: ∀b,S b→κ b≠1):xy h' κ cap ai:=by
 intro b hb
 obtain⟨vs,o,s,h1,h2⟩:=w b hb
 exact⟨vs,o,s,g.get ok h1 (fun hs=>hS b hs hb),h2⟩
theorem Gq.grow {S:Nat→Prop} {r:XR} (w:Gq h κ cap ai r) (ok:bh h) (g:ab S h h') (hS: ∀b,S b→ ¬av r.P.v b∧ ¬av r.L.v b∧ ¬av r.T.v b):Gq h' κ cap ai r:=
 ⟨w.P.grow ok g (fun b hb hs=>(hS b hs).1 hb),w.L.grow ok g (fun b hb hs=>(hS b hs).2.1 hb),w.T.grow ok g (fun b hb hs=>(hS b hs).2.2 hb),w.kP,w.kL,w.kT,w.ps,w.ls,w.on⟩
theorem Gq.Mj {S:Nat→Prop} {r:XR} (w:Gq h κ cap ai r) (ok:bh h) (g:ab S h h') (hS: ∀b,S b→κ b≠3∧κ b≠4∧κ b≠5):Gq h' κ cap ai r:=
 w.grow ok g (fun b hs=>⟨fun h=>(hS b hs).1 (w.kP b h),fun h=>(hS b hs).2.1 (w.kL b h),fun h=>(hS b hs).2.2 (w.kT b h)⟩)
theorem cy.grow {S:Nat→Prop} {rs:List XR} (w:cy h n0 ai κ cap rs) (ok:bh h) (g:ab S h h') (hS: ∀b,S b→κ b=0∨κ b=2):cy h' n0 ai κ cap rs:=
 ⟨fun i r hr=>(w.r i r hr).Mj ok g (fun b hs=>by have:=hS b hs;omega),w.dP,w.dL,w.dT,w.V.grow ok g (fun b hs=>by have:=hS b hs;omega),fun b hb=>by have:=w.new b hb;have:=g.next;omega⟩
theorem cy.aW {rs:List XR} (w:cy h n0 ai κ cap rs) (ok:bh h) (g:ab aG h h'):cy h' n0 ai κ cap rs:=w.grow ok g (fun _ h=>h.elim)
theorem VA.congr {κ' cap':Nat→Nat} {A:SV} (w:VA κ cap A) (e: ∀b,κ b=1→κ' b=1∧cap' b=cap b):VA κ' cap' A:=by
 obtain⟨hl,h|⟨b,h1,h2,h3⟩⟩:=w
 ·exact⟨hl,.inl h⟩
 ·exact⟨hl,.inr ⟨b,h1,(e b h2).1,by rw[(e b h2).2,h3]⟩⟩
theorem Gq.congr {κ' cap':Nat→Nat} {r:XR} (w:Gq h κ cap ai r) (e: ∀b,κ b≠0→κ' b=κ b∧cap' b=cap b):Gq h κ' cap' ai r:=by
 have e1: ∀b,κ b=1→κ' b=1∧cap' b=cap b:=fun b hb=>by have:=e b (by omega);exact⟨by omega,this.2⟩
 exact⟨w.P,w.L,w.T,fun b hb=>by have:=w.kP b hb;rw[(e b (by omega)).1,this],fun b hb=>by have:=w.kL b hb;rw[(e b (by omega)).1,this],fun b hb=>by have:=w.kT b hb;rw[(e b (by omega)).1,this],
  fun p hp=>⟨(w.ps p hp).1,(w.ps p hp).2.congr e1⟩,fun x hx=>⟨(w.ls x hx).1,(w.ls x hx).2.1,(w.ls x hx).2.2.1,(w.ls x hx).2.2.2.congr e1⟩,w.on⟩
def xq (M:Nat) (f g:Nat→Nat) (b:Nat):Nat:=if b<M then f b else g b
theorem cy.push {S:Nat→Prop} {rs:List XR} {κn capn:Nat→Nat} {r:XR} (w:cy h n0 ai κ cap rs) (ok:bh h) (g:ab S h h') (hS: ∀b,S b→κ b=0∨κ b=2) (hn:n0≤h.next) (R:Gq h' κn capn ai r) (V:xy h' κn capn ai) (new: ∀b,κn b≠0→h.next≤b∧b<h'.next):
  cy h' n0 ai (xq h.next κ κn) (xq h.next cap capn) (rs++[r]):=by
 have w':=w.grow ok g hS
 have e1: ∀b,κ b≠0→xq h.next κ κn b=κ b∧xq h.next cap capn b=cap b:=by
  intro b hb
  have:=(w.new b hb).2
  exact⟨if_pos this,if_pos this⟩
 have e2: ∀b,κn b≠0→xq h.next κ κn b=κn b∧xq h.next cap capn b=capn b:=by
  intro b hb
  have:=(new b hb).1
  exact⟨if_neg (by omega),if_neg (by omega)⟩
 have sep: ∀(f:XR→SV) (k:Nat),k≠0→(∀(i:Nat) (ri:XR),rs[i]? =some ri→ ∀b,av (f ri).v b→κ b=k)→(∀b,av (f r).v b→κn b=k)→(∀(i j:Nat) (ri rj:XR) (b:Nat),rs[i]? =some ri→rs[j]? =some rj→i≠j→av (f ri).v b→ ¬av (f rj).v b)→
   ∀(i j:Nat) (ri rj:XR) (b:Nat),(rs++[r])[i]? =some ri→(rs++[r])[j]? =some rj→i≠j→av (f ri).v b→ ¬av (f rj).v b:=by
  intro f k hk h1 h2 d i j ri rj b hi hj hij hbi hbj
  have cases: ∀(i:Nat) (x:XR),(rs++[r])[i]? =some x→rs[i]? =some x∨(i=rs.length∧x=r):=by
   intro i x hx
   rcases Nat.lt_or_ge i rs.length with hl|hl
   ·rw[List.getElem?_append_left hl] at hx;exact .inl hx
   ·rw[List.getElem?_append_right hl] at hx
    have:i-rs.length=0:=by
     have:=(bY.mp hx).1
     simp at this;omega
    rw[this] at hx
    simp at hx
    exact .inr ⟨by omega,hx.symm⟩
  rcases cases i ri hi with a|⟨a1,rfl⟩
  ·rcases cases j rj hj with c|⟨c1,rfl⟩
   ·exact d i j ri rj b a c hij hbi hbj
   ·have:=w.new b (by rw[h1 i ri a b hbi];exact hk)
    have:=new b (by rw[h2 b hbj];exact hk)
    omega
  ·rcases cases j rj hj with c|⟨c1,rfl⟩
   ·have:=w.new b (by rw[h1 j rj c b hbj];exact hk)
    have:=new b (by rw[h2 b hbi];exact hk)
    omega
   ·omega
 refine⟨fun i x hx=> ?_,sep (·.P) 3 (by decide) (fun i ri hi=>(w.r i ri hi).kP) R.kP w.dP,sep (·.L) 4 (by decide) (fun i ri hi=>(w.r i ri hi).kL) R.kL w.dL,sep (·.T) 5 (by decide) (fun i ri hi=>(w.r i ri hi).kT) R.kT w.dT,fun b hb=> ?_,fun b hb=> ?_⟩
 ·rcases Nat.lt_or_ge i rs.length with hl|hl
  ·rw[List.getElem?_append_left hl] at hx
   exact(w'.r i x hx).congr e1
  ·rw[List.getElem?_append_right hl] at hx
   have:x=r:=by
    have h0:i-rs.length=0:=by
     have:=(bY.mp hx).1
     simp at this;omega
    rw[h0] at hx
    simp at hx
    exact hx.symm
   subst this
   exact R.congr e2
 ·unfold xq at hb ⊢
  split at hb
  ·rename_i hlt
   rw[if_pos hlt]
   exact w'.V b hb
  ·rename_i hlt
   rw[if_neg hlt]
   exact V b hb
 ·unfold xq at hb
  split at hb
  ·have:=w'.new b hb;exact this
  ·have:=new b hb;omega
theorem cy.nil (h:ae) (n0 ai:Nat):cy h n0 ai (fun _=>0) (fun _=>0) []:=⟨fun i r hr=>by simp at hr,fun i j ri rj b hr=>by simp at hr,fun i j ri rj b hr=>by simp at hr,fun i j ri rj b hr=>by simp at hr,fun b hb=>absurd hb (by decide),fun b hb=>absurd rfl hb⟩
end
theorem AY {α β:Type} {E:Enc β} {Q:β→α→Prop} : ∀(xs:List α) (f:Nat→List Value),(∀(i:Nat) (x:α),xs[i]? =some x→ ∃y,f i=E.enc y∧Q y x)→ ∃ys:List β,ys.length=xs.length∧ ∀(i:Nat) (y:β) (x:α),ys[i]? =some y→xs[i]? =some x→f i=E.enc y∧Q y x
 |[],f,_=>⟨[],rfl,fun i y x h=>by simp at h⟩
 |x::xs,f,H=>by
  obtain⟨y,h1,h2⟩:=H 0 x rfl
  obtain⟨ys,hl,h3⟩:=AY xs (fun i=>f (i+1)) (fun i x hx=>H (i+1) x hx)
  refine⟨y::ys,by simp[hl],fun i y' x' hy hx=> ?_⟩
  cases i with
  |zero=>simp at hy hx;subst hy;subst hx;exact⟨h1,h2⟩
  |succ i=>exact h3 i y' x' hy hx
theorem LG {β:Type} (E:Enc β) (cs:List Value): ∀(ys:List β),(∀(i:Nat) (y:β),ys[i]? =some y→(cs.drop (i*E.sz)).take E.sz=E.enc y)→cs.take (ys.length*E.sz)=E.flat ys:=by
 intro ys
 induction ys generalizing cs with
 |nil=>intro _;simp
 |cons y ys ih=>
  intro H
  have h0:=H 0 y rfl
  rw[Nat.zero_mul,List.drop_zero] at h0
  have h1:=ih (cs.drop E.sz) (fun i z hz=>by
   have:=H (i+1) z hz
   rw[Nat.add_mul,Nat.one_mul,Nat.add_comm] at this
   rw[List.drop_drop]
   exact this)
  rw[List.length_cons,Nat.add_mul,Nat.one_mul,Nat.add_comm,List.take_add,h0,h1,E.dM]
theorem SliceR.pick {α β:Type} {R:List Value→α→Prop} {E:Enc β} {Q:β→α→Prop} {h:ae} {v:Value} {xs:List α} (s:SliceR R E.sz h v xs) (hR: ∀c x,R c x→ ∃y,c=E.enc y∧Q y x):
  ∃ys:List β,ys.length=xs.length∧aS E h v ys∧ ∀(i:Nat) (y:β) (x:α),ys[i]? =some y→xs[i]? =some x→Q y x:=by
 obtain⟨a,cap,rfl,s⟩:=s
 rcases s with⟨rfl,s⟩|⟨b,off,cs,ro,o,st,rfl,hb,he⟩
 ·exact⟨[],rfl,⟨a,cap,rfl,.inl ⟨rfl,s⟩⟩,fun i y x h=>by simp at h⟩
 ·obtain⟨ys,hl,H⟩:=AY (E:=E) (Q:=Q) xs (fun i=>(cs.drop (off+i*E.sz)).take E.sz) (fun i x hx=>hR _ _ (he i x hx).2)
  refine⟨ys,hl,⟨_,cap,by rw[hl],?_⟩,fun i y x hy hx=>(H i y x hy hx).2⟩
  rcases Nat.eq_zero_or_pos xs.length with h0|h0
  ·exact .inl ⟨List.eq_nil_of_length_eq_zero (by omega),.inr ⟨b,off,rfl⟩⟩
  refine .inr ⟨b,off,cs,ro,o,st,rfl,hb,?_,?_⟩
  ·rw[hl]
   have:=(he (xs.length-1) _ (aQ (by omega))).1
   rw[List.length_take,List.length_drop] at this
   have hp:=E.pos
   have e:xs.length*E.sz=(xs.length-1)*E.sz+E.sz:=by
    rw[←Nat.succ_mul];congr 1;omega
   rw[e]
   omega
  ·refine LG E (cs.drop off) ys (fun i y hy=> ?_)
   have hil:=(bY.mp hy).1
   have hx:xs[i]? =some xs[i]:=aQ (by omega)
   rw[List.drop_drop]
   exact(H i y _ hy hx).1
theorem FY {h:ae} {v:Value} {xs:List (Bool×Int)} (s:SliceR vR 2 h v xs):aS bU h v xs:=by
 obtain⟨ys,hl,s',H⟩:=SliceR.pick (E:=bU) (Q:=fun y x=>y=x) s (fun c x e=>⟨x,e,rfl⟩)
 have:ys=xs:=List.ext_getElem? fun i=>by
  rcases Nat.lt_or_ge i xs.length with hi|hi
  ·have h1:xs[i]? =some xs[i]:=aQ hi
   have h2:ys[i]? =some (ys[i]'(by omega)):=aQ (by omega)
   rw[h2,H i _ _ h2 h1,h1]
  ·rw[List.getElem?_eq_none (by omega),List.getElem?_eq_none (by omega)]
 exact this▸s'
structure nC (h:ae) (M ai:Nat) (κ cap:Nat→Nat):Prop where
 V:xy h κ cap ai
 new: ∀b,κ b≠0→κ b=1∧M≤b∧b<h.next
theorem nC.grow {S:Nat→Prop} {h h':ae} {M ai:Nat} {κ cap:Nat→Nat} (w:nC h M ai κ cap) (ok:bh h) (g:ab S h h') (hS: ∀b,S b→κ b=0):nC h' M ai κ cap:=
 ⟨w.V.grow ok g (fun b hs=>by have:=hS b hs;omega),fun b hb=>by have:=w.new b hb;have:=g.next;omega⟩
def xE (f:Nat→Nat) (A:SV) (k:Nat) (b:Nat):Nat:=match A.a with
 |some p=>if p.block=b then k else f b
 |none=>f b
theorem mJ {f:Nat→Nat} {A:SV} {k b:Nat} (h:A.a=some ⟨b,0,none⟩):xE f A k b=k:=by unfold xE;rw[h];simp
theorem ji {f:Nat→Nat} {A:SV} {k b b':Nat} (h:A.a=some ⟨b,0,none⟩) (n:b≠b'):xE f A k b'=f b':=by unfold xE;rw[h];simp[n]
theorem nC.add {h h':ae} {M ai:Nat} {κ cap:Nat→Nat} {F:SV} {vs:List (Bool×Int)} (w:nC h M ai κ cap) (ok:bh h) (g:ab aG h h') (hM:M≤h.next) (hA:eJ bU h' F vs) (hF: ∀b,av F.v b→h.next≤b) (hv: ∀v∈vs,gO ai v) (hc:F.c=F.l):
  ∃κ' cap':Nat→Nat,nC h' M ai κ' cap'∧VA κ' cap' F∧(∀b,κ b≠0→κ' b=κ b∧cap' b=cap b)∧ ∀b,b<h.next→κ' b=κ b:=by
 have w':=w.grow ok g (fun _ h=>h.elim)
 obtain⟨hl,hA⟩:=hA
 rcases hA with⟨ha,hc,rfl⟩|⟨b,o,s,rest,ha,hc,hb,ho⟩
 ·exact⟨κ,cap,w',⟨by rw[hl];simp,.inl ⟨ha,hc⟩⟩,fun b _=>⟨rfl,rfl⟩,fun b _=>rfl⟩
 ·have hr:rest=[]:=List.eq_nil_of_length_eq_zero (by omega)
  subst hr
  have hbn:h.next≤b:=hF b (bN ha)
  have ne: ∀b',κ b'≠0→b≠b':=fun b' hb' e=>by have:=(w.new b' hb').2.2;omega
  have nd:=w'.new
  refine⟨xE κ F 1,xE cap F vs.length,⟨fun b' hb'=> ?_,fun b' hb'=> ?_⟩,⟨by omega,.inr ⟨b,ha,mJ ha,by rw[mJ ha,hc];rfl⟩⟩,fun b' hb'=>⟨ji ha (ne b' hb'),ji ha (ne b' hb')⟩,fun b' hb'=>ji ha (by omega)⟩
  ·by_cases e:b=b'
   ·subst e
    exact⟨vs,o,s,by simpa using hb,ho,by rw[mJ ha],hv⟩
   ·rw[ji ha e] at hb' ⊢
    exact w'.V b' hb'
  ·by_cases e:b=b'
   ·subst e
    exact⟨mJ ha,by omega,g.ok.wf _ _ hb⟩
   ·rw[ji ha e] at hb' ⊢
    exact nd b' hb'
def Mf (κ cap:Nat→Nat) (q:Int×SV) (p:GP):Prop:=q.1=p.dst∧VA κ cap q.2∧q.2.l=p.row.length
def Ga (h0:ae) (q:Int×SV) (p:GP):Prop:=q.1=p.dst∧SliceR vR 2 h0 q.2.v p.row
def CpI (h0 h:ae) (e:Env) (M X s0:Nat) (xc:List Value) (P':SV) (phs:List GP) (ai:Nat) (κ0 cap0:Nat→Nat) (m:Nat) (e':Env) (h':ae):Prop:=
 ∃(j:Nat) (κ cap:Nat→Nat) (qs:List (Int×SV)),m=phs.length-j∧j≤phs.length∧aC [5,6,28,29,30,31,32,33,34,35,36,37,38,39,40,41] e e'∧Env.get e' 28= .int .i64 j∧ab (av P'.v) h h'∧h'.tr.get X=some (.aA xc false 0 s0)∧eJ iK h' P' qs∧qs.length=phs.length∧
  (∀(i:Nat) (q:Int×SV) (p:GP),qs[i]? =some q→phs[i]? =some p→(i<j→Mf κ cap q p)∧(j≤i→Ga h0 q p))∧nC h' M ai κ cap∧(∀b,b<h.next→κ b=κ0 b)∧ ∀b,κ0 b≠0→κ b=κ0 b∧cap b=cap0 b
theorem HR {h0 h:ae} (ok0:bh h0) (g0:ab aG h0 h) {M X s0 ai:Nat} {P' L T:SV} {kind:Int} {on:Bool×Int} {qs:List (Int×SV)} {phs:List GP} {κ cap:Nat→Nat} (hP:eJ iK h P' qs) (hlen:qs.length=phs.length) (hq: ∀(i:Nat) (q:Int×SV) (p:GP),qs[i]? =some q→phs[i]? =some p→Ga h0 q p)
  (hrow: ∀p∈phs,p.row.length<2000000∧ ∀v∈p.row,gO ai v) (hpl:phs.length<1000000) (hM0:h0.next≤M) (hMh:M≤h.next) (hPM: ∀b,av P'.v b→M≤b∧κ b=0∧b≠X) (hX:h.tr.get X=some (.aA [P'.v,L.v,.int .i64 kind,.bool on.1,.int .i64 on.2,T.v] false 0 s0)) (W:nC h M ai κ cap)
  {e:Env} {Q:aO→Env→ae→Prop} (f4:Env.get e 4= .pointer (some ⟨X,0,none⟩)) (f26:Env.get e 26=P'.v) (f27:Env.get e 27= .int .i64 phs.length) (f28:Env.get e 28= .int .i64 0)
  (C: ∀e' h' κ' cap' qs',aC [5,6,28,29,30,31,32,33,34,35,36,37,38,39,40,41] e e'→ab (av P'.v) h h'→h'.tr.get X=some (.aA [P'.v,L.v,.int .i64 kind,.bool on.1,.int .i64 on.2,T.v] false 0 s0)→eJ iK h' P' qs'→qs'.length=phs.length→(∀(i:Nat) (q:Int×SV) (p:GP),qs'[i]? =some q→phs[i]? =some p→Mf κ' cap' q p)→nC h' M ai κ' cap'→(∀b,b<h.next→κ' b=κ b)→(∀b,κ b≠0→κ' b=κ b∧cap' b=cap b)→Q (.exit 2) e' h'):
  az FF (.loop nm) e h Q:=by
 have hPl:=hP.len
 refine az.loop (CpI h0 h e M X s0 [P'.v,L.v,.int .i64 kind,.bool on.1,.int .i64 on.2,T.v] P' phs ai κ cap) ?_ (n:=phs.length)
  ⟨0,κ,cap,qs,rfl,by omega,aC.refl _ _,f28,.refl g0.ok,hX,hP,hlen,fun i q p h1 h2=>⟨fun h=>by omega,fun _=>hq i q p h1 h2⟩,W,fun _ _=>rfl,fun _ _=>⟨rfl,rfl⟩⟩
 rintro m e' h' ⟨j,κ1,cap1,qs1,rfl,hj,K,q28,g,hX1,hP1,hl1,H1,W1,hκ1,hc1⟩
 have q4:=K.at (by decide) f4
 have q26:=K.at (by decide) f26
 have q27:=K.at (by decide) f27
 have ok':=g.ok
 have gg:ab aG h0 h':=g0.trans' g (fun _ _ h=>h) (fun x hx e=>by have:=(hPM x e).1;omega)
 unfold nm
 by_cases hjl:j<phs.length
 ·have wj:=wrap_i64 ((j:Int)+1) (by omega) (by omega)
  obtain⟨p,hp⟩: ∃p,phs[j]? =some p:=⟨_,aQ hjl⟩
  obtain⟨q,hqj⟩: ∃q,qs1[j]? =some q:=⟨_,aQ (by omega)⟩
  obtain⟨hq1,hq2⟩:=(H1 j q p hqj hp).2 (Nat.le_refl _)
  obtain⟨hrl,hrv⟩:=hrow p (di hp)
  obtain⟨b,cs,o,s,hPa,hb,hjA,hfit,hrd,hset⟩:=hP1.el hqj
  have hPl1:=hP1.len
  have r0:=hrd 0 2 (by decide)
  have oX:=ok'.bl hX1
  have hst:=ok'.st _ _ _ _ _ hX1
  have ob:=ok'.bl hb
  have nX: ¬X=b:=fun e=>(hPM b (bN hPa)).2.2 e.symm
  simp[-ag] at r0
  have hX1':=hX1
  simp at hX1'
  rw[hPa,hPl1,hl1] at hX1'
  simp at q26
  rw[hPa,hPl1,hl1] at q26
  have hst':s0≤h'.clock+1:=by omega
  simp[q4,q26,q27,q28,hjl,r0,-ag,aq,bg,aL,oX,aw hX1',aB]
  refine aP.cut (fun h5=>ab aG h' h5) ?_ ?_
  ·exact((ab.refl ok').var _ _).tick
  intro h5 g5
  have W5:=W1.grow ok' g5 (fun _ h=>h.elim)
  have hX5:=g5.get ok' hX1' (fun h=>h)
  have hb5:=g5.get ok' hb (fun h=>h)
  have gg5:=gg.trans g5
  refine aP.call (V:=pF bU h5 p.row) (by simpa using iy bU (bytes:=16) fI rfl (by decide) gg5.ok ((FY hq2).aW ok0 gg5) hrl) ?_
  rintro _ h6 ⟨g6,F,rfl,hF,hFn,hFc⟩
  have hM5:M≤h5.next:=by have:=g.next;have:=g5.next;omega
  obtain⟨κ2,cap2,W6,hVF,hκ2,hκ3⟩:=W5.add gg5.ok g6 hM5 hF hFn hrv hFc
  have hX6:=g6.get gg5.ok hX5 (fun h=>h)
  have hb6:=g6.get gg5.ok hb5 (fun h=>h)
  have hf2:=hfit 1 1 (by decide)
  simp at hf2
  simp[hX6,hst',hjl,hb6,hf2,q28,wj,q4]
  have gw:ab (· =b) h6 (put h6 b (j*2+1) cs [.slice F.a F.l F.c] o):=aJ g6.ok hb6
  have nb: ∀b',b'=b→κ2 b'=0:=by
   rintro b' rfl
   have h1:=(hPM b' (bN hPa)).2.1
   have hbh:b'<h.next:=by
    have:=hP.bl g0.ok (bN hPa)
    exact this
   rw[hκ3 b' (by have:=g.next;have:=g5.next;omega),hκ1 b' hbh,h1]
  refine⟨phs.length-(j+1),by omega,j+1,κ2,cap2,qs1.set j (q.1,F),rfl,hjl,?_,by simp,?_,?_,?_,by simp[hl1],?_,?_,?_,?_⟩
  ·repeat (refine aC.set (by decide) ?_)
   exact K
  ·exact((g.trans g5.aW).trans g6.aW).trans (gw.bM (fun x _ e=>e▸bN hPa))
  ·have:=gw.get g6.ok hX6 nX
   simpa [hPa,hPl1,hl1] using this
  ·exact hset (q.1,F) 1 [F.v] (by simp) rfl _ ⟨_,ax _ _ _ _ _ _⟩
  ·intro i q' p' h1 h2
   rw[List.getElem?_set] at h1
   by_cases e:j=i
   ·subst e
    rw[if_pos rfl,if_pos (by omega)] at h1
    cases h1
    rw[hp] at h2;cases h2
    exact⟨fun _=>⟨hq1,hVF,hF.len⟩,fun h=>by omega⟩
   ·rw[if_neg e] at h1
    obtain⟨a1,a2⟩:=H1 i q' p' h1 h2
    refine⟨fun h=> ?_,fun h=>a2 (by omega)⟩
    obtain⟨b1,b2,b3⟩:=a1 (by omega)
    exact⟨b1,b2.congr (fun b hb=>by have:=hκ2 b (by omega);omega),b3⟩
  ·exact W6.grow g6.ok gw nb
  ·intro b' hb'
   rw[hκ3 b' (by have:=g.next;have:=g5.next;omega),hκ1 b' hb']
  ·intro b' hb'
   obtain⟨c1,c2⟩:=hc1 b' hb'
   obtain⟨c3,c4⟩:=hκ2 b' (by omega)
   exact⟨by omega,by omega⟩
 ·have:j=phs.length:=by omega
  subst this
  simp[q27,q28]
  exact C _ _ κ1 cap1 qs1 (K.set (by decide)) g hX1 hP1 hl1 (fun i q p h1 h2=>(H1 i q p h1 h2).1 (bY.mp h2).1) W1 hκ1 hc1
def DG (q:XI) (p:GI):Prop:=q.op=p.op∧q.dst=p.dst∧q.a=p.a∧q.b=p.b∧q.fn=p.fn
def Mg (κ cap:Nat→Nat) (q:XI) (p:GI):Prop:=DG q p∧VA κ cap q.args∧q.args.l=p.args.length
def F0 (h0:ae) (q:XI) (p:GI):Prop:=DG q p∧SliceR vR 2 h0 q.args.v p.args
def CxI (h0 h:ae) (e:Env) (M X s0:Nat) (xc:List Value) (L':SV) (xs:List GI) (ai:Nat) (κ0 cap0:Nat→Nat) (m:Nat) (e':Env) (h':ae):Prop:=
 ∃(j:Nat) (κ cap:Nat→Nat) (qs:List XI),m=xs.length-j∧j≤xs.length∧aC [7,8,49,50,51,52,53,54,55,56,57,58,59,60,61,62] e e'∧Env.get e' 49= .int .i64 j∧ab (av L'.v) h h'∧h'.tr.get X=some (.aA xc false 0 s0)∧eJ me h' L' qs∧qs.length=xs.length∧
  (∀(i:Nat) (q:XI) (p:GI),qs[i]? =some q→xs[i]? =some p→(i<j→Mg κ cap q p)∧(j≤i→F0 h0 q p))∧nC h' M ai κ cap∧(∀b,b<h.next→κ b=κ0 b)∧ ∀b,κ0 b≠0→κ b=κ0 b∧cap b=cap0 b
theorem HO {h0 h:ae} (ok0:bh h0) (g0:ab aG h0 h) {M X s0 ai:Nat} {L' P T:SV} {kind:Int} {on:Bool×Int} {qs:List XI} {xs:List GI} {κ cap:Nat→Nat} (hP:eJ me h L' qs) (hlen:qs.length=xs.length) (hq: ∀(i:Nat) (q:XI) (p:GI),qs[i]? =some q→xs[i]? =some p→F0 h0 q p)
  (hrow: ∀p∈xs,p.args.length<2000000∧ ∀v∈p.args,gO ai v) (hpl:xs.length<1000000) (hM0:h0.next≤M) (hMh:M≤h.next) (hPM: ∀b,av L'.v b→M≤b∧κ b=0∧b≠X) (hX:h.tr.get X=some (.aA [P.v,L'.v,.int .i64 kind,.bool on.1,.int .i64 on.2,T.v] false 0 s0)) (W:nC h M ai κ cap)
  {e:Env} {Q:aO→Env→ae→Prop} (f4:Env.get e 4= .pointer (some ⟨X,0,none⟩)) (f26:Env.get e 47=L'.v) (f27:Env.get e 48= .int .i64 xs.length) (f28:Env.get e 49= .int .i64 0)
  (C: ∀e' h' κ' cap' qs',aC [7,8,49,50,51,52,53,54,55,56,57,58,59,60,61,62] e e'→ab (av L'.v) h h'→h'.tr.get X=some (.aA [P.v,L'.v,.int .i64 kind,.bool on.1,.int .i64 on.2,T.v] false 0 s0)→eJ me h' L' qs'→qs'.length=xs.length→(∀(i:Nat) (q:XI) (p:GI),qs'[i]? =some q→xs[i]? =some p→Mg κ' cap' q p)→nC h' M ai κ' cap'→(∀b,b<h.next→κ' b=κ b)→(∀b,κ b≠0→κ' b=κ b∧cap' b=cap b)→Q (.exit 4) e' h'):
  az FF (.loop oi) e h Q:=by
 have hPl:=hP.len
 refine az.loop (CxI h0 h e M X s0 [P.v,L'.v,.int .i64 kind,.bool on.1,.int .i64 on.2,T.v] L' xs ai κ cap) ?_ (n:=xs.length)
  ⟨0,κ,cap,qs,rfl,by omega,aC.refl _ _,f28,.refl g0.ok,hX,hP,hlen,fun i q p h1 h2=>⟨fun h=>by omega,fun _=>hq i q p h1 h2⟩,W,fun _ _=>rfl,fun _ _=>⟨rfl,rfl⟩⟩
 rintro m e' h' ⟨j,κ1,cap1,qs1,rfl,hj,K,q28,g,hX1,hP1,hl1,H1,W1,hκ1,hc1⟩
 have q4:=K.at (by decide) f4
 have q26:=K.at (by decide) f26
 have q27:=K.at (by decide) f27
 have ok':=g.ok
 have gg:ab aG h0 h':=g0.trans' g (fun _ _ h=>h) (fun x hx e=>by have:=(hPM x e).1;omega)
 unfold oi
 by_cases hjl:j<xs.length
 ·have wj:=wrap_i64 ((j:Int)+1) (by omega) (by omega)
  obtain⟨p,hp⟩: ∃p,xs[j]? =some p:=⟨_,aQ hjl⟩
  obtain⟨q,hqj⟩: ∃q,qs1[j]? =some q:=⟨_,aQ (by omega)⟩
  obtain⟨hq1,hq2⟩:=(H1 j q p hqj hp).2 (Nat.le_refl _)
  obtain⟨hrl,hrv⟩:=hrow p (di hp)
  obtain⟨b,cs,o,s,hPa,hb,hjA,hfit,hrd,hset⟩:=hP1.el hqj
  have hPl1:=hP1.len
  have r0:=hrd 0 8 (by decide)
  have oX:=ok'.bl hX1
  have hst:=ok'.st _ _ _ _ _ hX1
  have ob:=ok'.bl hb
  have nX: ¬X=b:=fun e=>(hPM b (bN hPa)).2.2 e.symm
  simp[-ag] at r0
  have hX1':=hX1
  simp at hX1'
  rw[hPa,hPl1,hl1] at hX1'
  simp at q26
  rw[hPa,hPl1,hl1] at q26
  have hst':s0≤h'.clock+1:=by omega
  simp[q4,q26,q27,q28,hjl,r0,-ag,aq,bg,aL,oX,aw hX1',aB]
  refine aP.cut (fun h5=>ab aG h' h5) ?_ ?_
  ·exact((ab.refl ok').var _ _).tick
  intro h5 g5
  have W5:=W1.grow ok' g5 (fun _ h=>h.elim)
  have hX5:=g5.get ok' hX1' (fun h=>h)
  have hb5:=g5.get ok' hb (fun h=>h)
  have gg5:=gg.trans g5
  refine aP.call (V:=pF bU h5 p.args) (by simpa using iy bU (bytes:=16) fI rfl (by decide) gg5.ok ((FY hq2).aW ok0 gg5) hrl) ?_
  rintro _ h6 ⟨g6,F,rfl,hF,hFn,hFc⟩
  have hM5:M≤h5.next:=by have:=g.next;have:=g5.next;omega
  obtain⟨κ2,cap2,W6,hVF,hκ2,hκ3⟩:=W5.add gg5.ok g6 hM5 hF hFn hrv hFc
  have hX6:=g6.get gg5.ok hX5 (fun h=>h)
  have hb6:=g6.get gg5.ok hb5 (fun h=>h)
  have hf2:=hfit 7 1 (by decide)
  simp at hf2
  simp[hX6,hst',hjl,hb6,hf2,q28,wj,q4]
  have gw:ab (· =b) h6 (put h6 b (j*8+7) cs [.slice F.a F.l F.c] o):=aJ g6.ok hb6
  have nb: ∀b',b'=b→κ2 b'=0:=by
   rintro b' rfl
   have h1:=(hPM b' (bN hPa)).2.1
   have hbh:b'<h.next:=by
    have:=hP.bl g0.ok (bN hPa)
    exact this
   rw[hκ3 b' (by have:=g.next;have:=g5.next;omega),hκ1 b' hbh,h1]
  refine⟨xs.length-(j+1),by omega,j+1,κ2,cap2,qs1.set j { q with args:=F },rfl,hjl,?_,by simp,?_,?_,?_,by simp[hl1],?_,?_,?_,?_⟩
  ·repeat (refine aC.set (by decide) ?_)
   exact K
  ·exact((g.trans g5.aW).trans g6.aW).trans (gw.bM (fun x _ e=>e▸bN hPa))
  ·have:=gw.get g6.ok hX6 nX
   simpa [hPa,hPl1,hl1] using this
  ·exact hset { q with args:=F } 7 [F.v] (by simp) rfl _ ⟨_,ax _ _ _ _ _ _⟩
  ·intro i q' p' h1 h2
   rw[List.getElem?_set] at h1
   by_cases e:j=i
   ·subst e
    rw[if_pos rfl,if_pos (by omega)] at h1
    cases h1
    rw[hp] at h2;cases h2
    exact⟨fun _=>⟨hq1,hVF,hF.len⟩,fun h=>by omega⟩
   ·rw[if_neg e] at h1
    obtain⟨a1,a2⟩:=H1 i q' p' h1 h2
    refine⟨fun h=> ?_,fun h=>a2 (by omega)⟩
    obtain⟨b1,b2,b3⟩:=a1 (by omega)
    exact⟨b1,b2.congr (fun b hb=>by have:=hκ2 b (by omega);omega),b3⟩
  ·exact W6.grow g6.ok gw nb
  ·intro b' hb'
   rw[hκ3 b' (by have:=g.next;have:=g5.next;omega),hκ1 b' hb']
  ·intro b' hb'
   obtain⟨c1,c2⟩:=hc1 b' hb'
   obtain⟨c3,c4⟩:=hκ2 b' (by omega)
   exact⟨by omega,by omega⟩
 ·have:j=xs.length:=by omega
  subst this
  simp[q27,q28]
  exact C _ _ κ1 cap1 qs1 (K.set (by decide)) g hX1 hP1 hl1 (fun i q p h1 h2=>(H1 i q p h1 h2).1 (bY.mp h2).1) W1 hκ1 hc1
structure Pf (ai:Nat) (b:GB):Prop where
 lp:b.dY.length<1000000
 ll:b.list.length<1000000
 lt:b.to.length<1000000
 ph: ∀p∈b.dY,(0≤p.dst∧p.dst<ai)∧p.row.length<2000000∧ ∀v∈p.row,gO ai v
 li: ∀x∈b.list,x.dst<ai∧gO ai x.a∧gO ai x.b∧x.args.length<2000000∧ ∀v∈x.args,gO ai v
 on:gO ai b.on
structure RD (r:XR) (b:GB):Prop where
 kind:r.kind=b.kind
 on:r.on=b.on
 to:r.ts=b.to
 pl:r.ps.length=b.dY.length
 ps: ∀(i:Nat) (q:Int×SV) (p:GP),r.ps[i]? =some q→b.dY[i]? =some p→q.1=p.dst∧q.2.l=p.row.length
 ll:r.ls.length=b.list.length
 ls: ∀(i:Nat) (q:XI) (p:GI),r.ls[i]? =some q→b.list[i]? =some p→DG q p∧q.args.l=p.args.length
structure Gv (h0:ae) (y:XR) (b:GB):Prop where
 kind:y.kind=b.kind
 on:y.on=b.on
 P:SliceR (pR h0) 2 h0 y.P.v b.dY
 L:SliceR (iR h0) 8 h0 y.L.v b.list
 T:SliceR nR 1 h0 y.T.v b.to
theorem My {h:ae} {v:Value} {xs:List Int} (s:SliceR nR 1 h v xs):aS aY h v xs:=by
 obtain⟨ys,hl,s',H⟩:=SliceR.pick (E:=aY) (Q:=fun y x=>y=x) s (fun c x e=>⟨x,e,rfl⟩)
 have:ys=xs:=List.ext_getElem? fun i=>by
  rcases Nat.lt_or_ge i xs.length with hi|hi
  ·have h1:xs[i]? =some xs[i]:=aQ hi
   have h2:ys[i]? =some (ys[i]'(by omega)):=aQ (by omega)
   rw[h2,H i _ _ h2 h1,h1]
  ·rw[List.getElem?_eq_none (by omega),List.getElem?_eq_none (by omega)]
 exact this▸s'
theorem N0 {h:ae} {v:Value} {xs:List GP} (s:SliceR (pR h) 2 h v xs): ∃qs:List (Int×SV),qs.length=xs.length∧aS iK h v qs∧ ∀(i:Nat) (q:Int×SV) (p:GP),qs[i]? =some q→xs[i]? =some p→Ga h q p:=
 SliceR.pick (E:=iK) (Q:=Ga h) s (fun c x ⟨A,e,hA⟩=>⟨(x.dst,A),e,rfl,hA⟩)
theorem Ot {h:ae} {v:Value} {xs:List GI} (s:SliceR (iR h) 8 h v xs): ∃qs:List XI,qs.length=xs.length∧aS me h v qs∧ ∀(i:Nat) (q:XI) (p:GI),qs[i]? =some q→xs[i]? =some p→F0 h q p:=
 SliceR.pick (E:=me) (Q:=F0 h) s (fun c x ⟨A,e,hA⟩=>⟨⟨x.op,x.dst,x.a,x.b,x.fn,A⟩,e,⟨rfl,rfl,rfl,rfl,rfl⟩,hA⟩)
theorem OC {h:ae} {v:Value} {xs:List GB} (s:SliceR (bR h) 6 h v xs): ∃ys:List XR,ys.length=xs.length∧aS fq h v ys∧ ∀(i:Nat) (y:XR) (b:GB),ys[i]? =some y→xs[i]? =some b→Gv h y b:=
 SliceR.pick (E:=fq) (Q:=Gv h) s (fun c x ⟨P,L,T,e,sP,sL,sT⟩=>⟨⟨P,L,T,x.kind,x.on,[],[],[]⟩,e,rfl,rfl,sP,sL,sT⟩)
theorem PI {h:ae} {M ai:Nat} {κ cap:Nat→Nat} (W:nC h M ai κ cap) (ok:bh h) {P L T:SV} {kind:Int} {on:Bool×Int} {ps:List (Int×SV)} {ls:List XI} {ts:List Int} (hP:eJ iK h P ps) (hL:eJ me h L ls) (hT:eJ aY h T ts)
  (nP: ∀b,av P.v b→M≤b∧κ b=0∧ ¬av L.v b∧ ¬av T.v b) (nL: ∀b,av L.v b→M≤b∧κ b=0∧ ¬av T.v b) (nT: ∀b,av T.v b→M≤b∧κ b=0)
  (hps: ∀p∈ps,(0≤p.1∧p.1<ai)∧VA κ cap p.2) (hls: ∀x∈ls,x.dst<ai∧gO ai x.a∧gO ai x.b∧VA κ cap x.args) (hon:gO ai on):
  ∃κn:Nat→Nat,Gq h κn cap ai ⟨P,L,T,kind,on,ps,ls,ts⟩∧xy h κn cap ai∧(∀b,κn b≠0→M≤b∧b<h.next)∧ ∀b,κn b=1→κ b=1:=by
 
 have paint: ∀ {α:Type} (E:Enc α) (κ:Nat→Nat) (A:SV) (xs:List α) (k:Nat),eJ E h A xs→ ∃κ':Nat→Nat,(∀b,av A.v b→κ' b=k)∧(∀b,¬av A.v b→κ' b=κ b):=by
  intro α E κ A xs k hA
  rcases hA.2 with⟨ha,_⟩|⟨b,_,_,_,ha,_⟩
  ·exact⟨κ,fun b hb=>(fz ha hb).elim,fun b _=>rfl⟩
  ·exact⟨xE κ A k,fun b' hb=>by rw[pw ha hb];exact mJ ha,fun b' hb=>ji ha (fun e=>hb (e▸bN ha))⟩
 obtain⟨κ1,p1,q1⟩:=paint iK κ P ps 3 hP
 obtain⟨κ2,p2,q2⟩:=paint me κ1 L ls 4 hL
 obtain⟨κ3,p3,q3⟩:=paint aY κ2 T ts 5 hT
 have bl: ∀b,κ b≠0→κ3 b=κ b:=by
  intro b hb
  have h1: ¬av P.v b:=fun h=>hb (nP b h).2.1
  have h2: ¬av L.v b:=fun h=>hb (nL b h).2.1
  have h3: ¬av T.v b:=fun h=>hb (nT b h).2
  rw[q3 b h3,q2 b h2,q1 b h1]
 have one: ∀b,κ b=1→κ3 b=1∧cap b=cap b:=fun b hb=>⟨by rw[bl b (by omega),hb],rfl⟩
 refine⟨κ3,⟨hP,hL,hT,fun b hb=> ?_,fun b hb=> ?_,p3,fun p hp=>⟨(hps p hp).1,(hps p hp).2.congr one⟩,fun x hx=>⟨(hls x hx).1,(hls x hx).2.1,(hls x hx).2.2.1,(hls x hx).2.2.2.congr one⟩,hon⟩,fun b hb=> ?_,fun b hb=> ?_,fun b hb=> ?_⟩
 ·have:=nP b hb
  rw[q3 b this.2.2.2,q2 b this.2.2.1,p1 b hb]
 ·have:=nL b hb
  rw[q3 b this.2.2,p2 b hb]
 ·by_cases h3:av T.v b
  ·rw[p3 b h3] at hb;omega
  ·rw[q3 b h3] at hb
   by_cases h2:av L.v b
   ·rw[p2 b h2] at hb;omega
   ·rw[q2 b h2] at hb
    by_cases h1:av P.v b
    ·rw[p1 b h1] at hb;omega
    ·rw[q1 b h1] at hb
     exact W.V b hb
 ·by_cases h3:av T.v b
  ·exact⟨(nT b h3).1,hT.bl ok h3⟩
  ·rw[q3 b h3] at hb
   by_cases h2:av L.v b
   ·exact⟨(nL b h2).1,hL.bl ok h2⟩
   ·rw[q2 b h2] at hb
    by_cases h1:av P.v b
    ·exact⟨(nP b h1).1,hP.bl ok h1⟩
    ·rw[q1 b h1] at hb
     exact(W.new b hb).2
 ·by_cases h3:av T.v b
  ·rw[p3 b h3] at hb;omega
  ·rw[q3 b h3] at hb
   by_cases h2:av L.v b
   ·rw[p2 b h2] at hb;omega
   ·rw[q2 b h2] at hb
    by_cases h1:av P.v b
    ·rw[p1 b h1] at hb;omega
    ·rw[q1 b h1] at hb
     exact hb
end Go.Proofs.YtdkdbjecehcekaaGreatDoor
