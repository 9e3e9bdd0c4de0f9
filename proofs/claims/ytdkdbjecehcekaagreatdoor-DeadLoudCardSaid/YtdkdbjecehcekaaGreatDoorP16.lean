/- Parts of the proof. -/
import Derived.Test.YtdkdbjecehcekaaGreatDoorP15
set_option linter.all false
set_option linter.unusedSimpArgs false
set_option linter.unusedVariables false
set_option linter.unnecessarySimpa false
namespace Go.Proofs.YtdkdbjecehcekaaGreatDoor
open Go.AI
section
variable {n0 ai:Nat} {κ cap:Nat→Nat} {B:SV} {rs:List XR} {N nb:Nat}
def Cw (κ:Nat→Nat) (N nb x:Nat):Prop:=tg N nb x∨κ x≠0
theorem NR.Dt {h h':ae} (k:NR h n0 ai κ cap B rs N nb) (ok:bh h) {b:Nat} (hk:κ b=1) (g:ab (· =b) h h') {vs:List (Bool×Int)} {o:Nat} (hb: ∃s,h'.tr.get b=some (.aA (bU.flat vs) false o s)) (ho:o=0∨o=2) (hl:vs.length=cap b) (hv: ∀v∈vs,gO ai v):NR h' n0 ai κ cap B rs N nb:=
 ⟨k.O.Dt ok hk g hb ho hl hv,k.w.grow ok g (fun e=>by have:=k.κN;rw[e] at this;omega) (fun e=>by have:=k.κb;rw[e] at this;omega),k.κN,k.κb,k.zC⟩
def Q9:List Nat:=[21,22,164,165,166,167,168,169,170,171,172,173,174,175,176]
def WaI (h:ae) (n0 ai:Nat) (κ cap:Nat→Nat) (B:SV) (rs:List XR) (N nb:Nat) (A:SV) (X:Nat) (xc:List Value) (sX:Nat) (e:Env) (m:Nat) (e':Env) (h':ae):Prop:=
 ∃j:Nat,m=A.l-j∧j≤A.l∧aC Q9 e e'∧Env.get e' 164= .int .i64 j∧ab (Cw κ N nb) h h'∧NR h' n0 ai κ cap B rs N nb∧h'.tr.get X=some (.aA xc false 0 sX)
theorem Oy {h:ae} (ok:bh h) (k:NR h n0 ai κ cap B rs N nb) {A:SV} (hA:VA κ cap A) (hl:A.l≤1048576) {X sX:Nat} {xc:List Value} (hX:h.tr.get X=some (.aA xc false 0 sX)) (κX:κ X=0) (nX: ¬tg N nb X) (hxc:(xc.drop 7).take 1=[A.v])
  {e:Env} {Q:aO→Env→ae→Prop} (f3:Env.get e 3= .pointer (some ⟨N,0,none⟩)) (fX:Env.get e 20= .pointer (some ⟨X,0,none⟩)) (fA:Env.get e 162=A.v) (fl:Env.get e 163= .int .i64 A.l) (fj:Env.get e 164= .int .i64 0)
  (C: ∀e' h',aC Q9 e e'→ab (Cw κ N nb) h h'→NR h' n0 ai κ cap B rs N nb→h'.tr.get X=some (.aA xc false 0 sX)→Q (.exit 18) e' h'):az FF (.loop iD) e h Q:=by
 refine az.loop (WaI h n0 ai κ cap B rs N nb A X xc sX e) ?_ (n:=A.l) ⟨0,rfl,by omega,aC.refl _ _,fj,.refl ok,k,hX⟩
 rintro m e' h' ⟨j,rfl,hj,K,qj,g,k',hX'⟩
 have ok':=g.ok
 have q3:=K.at (by decide) f3
 have qX:=K.at (by decide) fX
 have qA:=K.at (by decide) fA
 have ql:=K.at (by decide) fl
 have hxl:7+1≤xc.length:=by
  have:=congrArg List.length hxc
  simp at this;omega
 unfold iD
 by_cases hjl:j<A.l
 ·have wj:=wrap_i64 ((j:Int)+1) (by omega) (by omega)
  obtain⟨b,vs,o,s,v,ha,hkb,hc,hb,ho,hvl,hvv,hx,hv,rd⟩:=hA.val k'.O.os.V hjl
  simp at qA
  rw[ha] at qA
  have hxc':(xc.drop 7).take 1=[.slice (some ⟨b,0,none⟩) A.l A.c]:=by rw[hxc];simp[ha]
  have rX:aT h' X 7 1=some [.slice (some ⟨b,0,none⟩) A.l A.c]:=by rw[cN hX' hxl,hxc']
  have oX:=ok'.bl hX'
  have hst:=ok'.st _ _ _ _ _ hX'
  have lX:=oX.lt
  have nXn: ¬X=h'.next:=by omega
  have lb:=ok'.wf _ _ hb
  simp[q3,qX,qA,ql,qj,hjl,rd,rX,oX,nXn,-ag,aq,bg,aL,aB]
  refine aP.cut (fun h2=>ab aG h' h2) ?_ ?_
  ·exact((ab.refl ok').var _ _).tick
  intro h2 g2
  have k2:=k'.aW ok' g2
  have hX2:=g2.get ok' hX' (fun h=>h)
  refine aP.call (V:=KN N nb ai v h2) (by simpa using qz g2.ok k2.w hv k.zC) ?_
  rintro _ h3 ⟨g3,w3,u,rfl,_,hu,_⟩
  have k3:=k2.step g2.ok (.refl g2.ok) g3 w3
  have hX3:=g3.get g2.ok hX2 nX
  have nbS: ¬tg N nb b:=fun e=>by
   have h1:=k.κN
   have h2:=k.κb
   rcases e with e|e<;>(rw[e] at hkb;omega)
  have hb3:=g3.get g2.ok (g2.get ok' hb (fun h=>h)) nbS
  have hjv:j<vs.length:=(bY.mp hx).1
  have hf:j*2+2≤(bU.flat vs).length:=by rw[bU.bt,eX];omega
  have hf2:j*2+2≤vs.length*2:=by omega
  have hst2:sX≤h'.clock+1:=by omega
  simp[qX,hX3,hst2,hjl,hb3,hf2,qj,wj]
  have g4:=aJ (off:=j*2) (vs:=[Value.bool u.1,Value.int .i64 u.2]) g3.ok hb3
  have e4:=bU.fK vs j u hjv
  simp only[eX,rU] at e4
  have hb4: ∃s,(put h3 b (j*2) (bU.flat vs) [Value.bool u.1,Value.int .i64 u.2] o).tr.get b=some (.aA (bU.flat (vs.set j u)) false o s):=⟨_,by rw[ax,e4]⟩
  generalize put h3 b (j*2) (bU.flat vs) [Value.bool u.1,Value.int .i64 u.2] o=h4 at*
  have k4:=k3.Dt g3.ok hkb g4 hb4 ho (by simp[hvl]) (fun w hw=>by
   rcases List.mem_or_eq_of_mem_set hw with h|h
   ·exact hvv w h
   ·rw[h];exact hu)
  have nXb: ¬X=b:=fun e=>by rw[e] at κX;omega
  refine⟨A.l-(j+1),by omega,j+1,rfl,hjl,?_,by simp,?_,k4,g4.get g3.ok hX3 nXb⟩
  ·repeat (refine aC.set (by decide) ?_)
   exact K
  ·exact((g.trans g2.aW).trans (g3.bM (fun x _ h=> .inl h))).trans (g4.bM (fun x _ e=> .inr (by rw[e];omega)))
 ·have:j=A.l:=by omega
  subst this
  simp[ql,qj]
  exact C _ _ (aC.set (by decide) K) g k' hX'
def QY:List Nat:=[17,18,129,130,131,132,133,134,135,136,137,138,139,140,141]
def WrI (h:ae) (n0 ai:Nat) (κ cap:Nat→Nat) (B:SV) (rs:List XR) (N nb:Nat) (A:SV) (X:Nat) (xc:List Value) (sX:Nat) (e:Env) (m:Nat) (e':Env) (h':ae):Prop:=
 ∃j:Nat,m=A.l-j∧j≤A.l∧aC QY e e'∧Env.get e' 129= .int .i64 j∧ab (Cw κ N nb) h h'∧NR h' n0 ai κ cap B rs N nb∧h'.tr.get X=some (.aA xc false 0 sX)
theorem NP {h:ae} (ok:bh h) (k:NR h n0 ai κ cap B rs N nb) {A:SV} (hA:VA κ cap A) (hl:A.l≤1048576) {X sX:Nat} {xc:List Value} (hX:h.tr.get X=some (.aA xc false 0 sX)) (κX:κ X=0) (nX: ¬tg N nb X) (hxc:(xc.drop 1).take 1=[A.v])
  {e:Env} {Q:aO→Env→ae→Prop} (f3:Env.get e 3= .pointer (some ⟨N,0,none⟩)) (fX:Env.get e 16= .pointer (some ⟨X,0,none⟩)) (fA:Env.get e 127=A.v) (fl:Env.get e 128= .int .i64 A.l) (fj:Env.get e 129= .int .i64 0)
  (C: ∀e' h',aC QY e e'→ab (Cw κ N nb) h h'→NR h' n0 ai κ cap B rs N nb→h'.tr.get X=some (.aA xc false 0 sX)→Q (.exit 14) e' h'):az FF (.loop kO) e h Q:=by
 refine az.loop (WrI h n0 ai κ cap B rs N nb A X xc sX e) ?_ (n:=A.l) ⟨0,rfl,by omega,aC.refl _ _,fj,.refl ok,k,hX⟩
 rintro m e' h' ⟨j,rfl,hj,K,qj,g,k',hX'⟩
 have ok':=g.ok
 have q3:=K.at (by decide) f3
 have qX:=K.at (by decide) fX
 have qA:=K.at (by decide) fA
 have ql:=K.at (by decide) fl
 have hxl:1+1≤xc.length:=by
  have:=congrArg List.length hxc
  simp at this;omega
 unfold kO
 by_cases hjl:j<A.l
 ·have wj:=wrap_i64 ((j:Int)+1) (by omega) (by omega)
  obtain⟨b,vs,o,s,v,ha,hkb,hc,hb,ho,hvl,hvv,hx,hv,rd⟩:=hA.val k'.O.os.V hjl
  simp at qA
  rw[ha] at qA
  have hxc':(xc.drop 1).take 1=[.slice (some ⟨b,0,none⟩) A.l A.c]:=by rw[hxc];simp[ha]
  have rX:aT h' X 1 1=some [.slice (some ⟨b,0,none⟩) A.l A.c]:=by rw[cN hX' hxl,hxc']
  have oX:=ok'.bl hX'
  have hst:=ok'.st _ _ _ _ _ hX'
  have lX:=oX.lt
  have nXn: ¬X=h'.next:=by omega
  have lb:=ok'.wf _ _ hb
  simp[q3,qX,qA,ql,qj,hjl,rd,rX,oX,nXn,-ag,aq,bg,aL,aB]
  refine aP.cut (fun h2=>ab aG h' h2) ?_ ?_
  ·exact((ab.refl ok').var _ _).tick
  intro h2 g2
  have k2:=k'.aW ok' g2
  have hX2:=g2.get ok' hX' (fun h=>h)
  refine aP.call (V:=KN N nb ai v h2) (by simpa using qz g2.ok k2.w hv k.zC) ?_
  rintro _ h3 ⟨g3,w3,u,rfl,_,hu,_⟩
  have k3:=k2.step g2.ok (.refl g2.ok) g3 w3
  have hX3:=g3.get g2.ok hX2 nX
  have nbS: ¬tg N nb b:=fun e=>by
   have h1:=k.κN
   have h2:=k.κb
   rcases e with e|e<;>(rw[e] at hkb;omega)
  have hb3:=g3.get g2.ok (g2.get ok' hb (fun h=>h)) nbS
  have hjv:j<vs.length:=(bY.mp hx).1
  have hf:j*2+2≤(bU.flat vs).length:=by rw[bU.bt,eX];omega
  have hf2:j*2+2≤vs.length*2:=by omega
  have hst2:sX≤h'.clock+1:=by omega
  simp[qX,hX3,hst2,hjl,hb3,hf2,qj,wj]
  have g4:=aJ (off:=j*2) (vs:=[Value.bool u.1,Value.int .i64 u.2]) g3.ok hb3
  have e4:=bU.fK vs j u hjv
  simp only[eX,rU] at e4
  have hb4: ∃s,(put h3 b (j*2) (bU.flat vs) [Value.bool u.1,Value.int .i64 u.2] o).tr.get b=some (.aA (bU.flat (vs.set j u)) false o s):=⟨_,by rw[ax,e4]⟩
  generalize put h3 b (j*2) (bU.flat vs) [Value.bool u.1,Value.int .i64 u.2] o=h4 at*
  have k4:=k3.Dt g3.ok hkb g4 hb4 ho (by simp[hvl]) (fun w hw=>by
   rcases List.mem_or_eq_of_mem_set hw with h|h
   ·exact hvv w h
   ·rw[h];exact hu)
  have nXb: ¬X=b:=fun e=>by rw[e] at κX;omega
  refine⟨A.l-(j+1),by omega,j+1,rfl,hjl,?_,by simp,?_,k4,g4.get g3.ok hX3 nXb⟩
  ·repeat (refine aC.set (by decide) ?_)
   exact K
  ·exact((g.trans g2.aW).trans (g3.bM (fun x _ h=> .inl h))).trans (g4.bM (fun x _ e=> .inr (by rw[e];omega)))
 ·have:j=A.l:=by omega
  subst this
  simp[ql,qj]
  exact C _ _ (aC.set (by decide) K) g k' hX'
end
section
variable {n0 ai:Nat} {κ cap:Nat→Nat} {B:SV} {rs:List XR} {N nb:Nat}
theorem DT {rs:List XR} {i:Nat} {r:XR} (hr:rs[i]? =some r):rs.set i r=rs:=by
 refine List.ext_getElem? fun m=> ?_
 rw[List.getElem?_set]
 by_cases e:i=m
 ·subst e;rw[if_pos rfl,if_pos (bY.mp hr).1,hr]
 ·rw[if_neg e]
theorem Cy {h:ae} {i:Nat} {r r':XR} (w:eJ fq h B rs) (hr:rs[i]? =some r) (e:fq.enc r'=fq.enc r):eJ fq h B (rs.set i r'):=by
 refine zu w (by simp) (fun m a c h1 h2=> ?_)
 rw[List.getElem?_set] at h2
 by_cases e1:i=m
 ·subst e1
  rw[if_pos rfl,if_pos (bY.mp hr).1] at h2
  cases h2
  rw[hr] at h1;cases h1;exact e
 ·rw[if_neg e1,h1] at h2
  cases h2;rfl
theorem NR.Kz {h h':ae} (k:NR h n0 ai κ cap B rs N nb) (ok:bh h) {i:Nat} {r:XR} (hr:rs[i]? =some r) (g:ab (av r.P.v) h h') {ps':List (Int×SV)} (hP:eJ iK h' r.P ps') (hps: ∀p∈ps',(0≤p.1∧p.1<ai)∧VA κ cap p.2):NR h' n0 ai κ cap B (rs.set i { r with ps:=ps' }) N nb:=by
 have R:=k.O.os.r i r hr
 have hA:=k.O.A.grow ok g (fun b hb hs=>by have:=k.O.kB b hb;have:=R.kP b hs;omega)
 exact⟨⟨k.O.os.Kz ok hr g hP rfl hps,Cy hA hr rfl,k.O.kB⟩,k.w.grow ok g (fun e=>by have:=k.κN;have:=R.kP _ e;omega) (fun e=>by have:=k.κb;have:=R.kP _ e;omega),k.κN,k.κb,k.zC⟩
theorem NR.Lp {h h':ae} (k:NR h n0 ai κ cap B rs N nb) (ok:bh h) {i:Nat} {r:XR} (hr:rs[i]? =some r) (g:ab (av r.L.v) h h') {ls':List XI} (hL:eJ me h' r.L ls') (hls: ∀x∈ls',x.dst<ai∧gO ai x.a∧gO ai x.b∧VA κ cap x.args):NR h' n0 ai κ cap B (rs.set i { r with ls:=ls' }) N nb:=by
 have R:=k.O.os.r i r hr
 have hA:=k.O.A.grow ok g (fun b hb hs=>by have:=k.O.kB b hb;have:=R.kL b hs;omega)
 exact⟨⟨k.O.os.Lp ok hr g hL rfl hls,Cy hA hr rfl,k.O.kB⟩,k.w.grow ok g (fun e=>by have:=k.κN;have:=R.kL _ e;omega) (fun e=>by have:=k.κb;have:=R.kL _ e;omega),k.κN,k.κb,k.zC⟩
def QT:List Nat:=[15,16,17,18,112,113,114,115,116,117,118,119,120,121,122,123,124,125,126,127,128,129,130,131,132,133,134,135,136,137,138,139,140,141,142]
def WpI (h:ae) (n0 ai:Nat) (κ cap:Nat→Nat) (B:SV) (rs:List XR) (N nb i:Nat) (r:XR) (X:Nat) (xc:List Value) (sX:Nat) (e:Env) (m:Nat) (e':Env) (h':ae):Prop:=
 ∃(j:Nat) (qs:List (Int×SV)),m=r.ps.length-j∧j≤r.ps.length∧aC QT e e'∧Env.get e' 112= .int .i64 j∧ab (Cw κ N nb) h h'∧NR h' n0 ai κ cap B (rs.set i { r with ps:=qs }) N nb∧qs.length=r.ps.length∧(∀q∈qs,q.2.l≤1048576)∧h'.tr.get X=some (.aA xc false 0 sX)
theorem Jm {h:ae} (ok:bh h) (k:NR h n0 ai κ cap B rs N nb) {i:Nat} {r:XR} (hr:rs[i]? =some r) (hl:r.ps.length≤1048576) {X sX:Nat} {xc:List Value} (hX:h.tr.get X=some (.aA xc false 0 sX)) (κX:κ X=0) (nX: ¬tg N nb X) (hxc:xc.take 1=[r.P.v]) (hql: ∀q∈r.ps,q.2.l≤1048576)
  {e:Env} {Q:aO→Env→ae→Prop} (f3:Env.get e 3= .pointer (some ⟨N,0,none⟩)) (f14:Env.get e 14= .pointer (some ⟨X,0,none⟩)) (f110:Env.get e 110=r.P.v) (f111:Env.get e 111= .int .i64 r.ps.length) (f112:Env.get e 112= .int .i64 0)
  (C: ∀e' h' qs,qs.length=r.ps.length→aC QT e e'→ab (Cw κ N nb) h h'→NR h' n0 ai κ cap B (rs.set i { r with ps:=qs }) N nb→h'.tr.get X=some (.aA xc false 0 sX)→Q (.exit 12) e' h'):az FF (.loop iB) e h Q:=by
 have hil:=(bY.mp hr).1
 refine az.loop (WpI h n0 ai κ cap B rs N nb i r X xc sX e) ?_ (n:=r.ps.length) ⟨0,r.ps,rfl,by omega,aC.refl _ _,f112,.refl ok,by rw[DT hr];exact k,rfl,hql,hX⟩
 rintro m e' h' ⟨j,qs,rfl,hj,K,q112,g,k',hqs,hqv,hX'⟩
 have ok':=g.ok
 have q3:=K.at (by decide) f3
 have q14:=K.at (by decide) f14
 have q110:=K.at (by decide) f110
 have q111:=K.at (by decide) f111
 have hxl:1≤xc.length:=by
  have:=congrArg List.length hxc
  simp at this;omega
 unfold iB
 by_cases hjl:j<r.ps.length
 ·have wj:=wrap_i64 ((j:Int)+1) (by omega) (by omega)
  obtain⟨q,hq⟩: ∃q,qs[j]? =some q:=⟨_,aQ (by omega)⟩
  have hqm:=di hq
  have hri:(rs.set i { r with ps:=qs })[i]? =some { r with ps:=qs } :=by rw[List.getElem?_set,if_pos rfl,if_pos hil]
  have R:=k'.O.os.r i _ hri
  have RP:eJ iK h' r.P qs:=R.P
  obtain⟨bP,cs,o,s,ha,hb,_,hfit,hrd,_⟩:=RP.el hq
  have rd:=hrd 0 2 (by decide)
  simp[-ag] at rd
  have hPl:=RP.len
  obtain⟨⟨h0,h1⟩,hVA⟩:=R.ps q hqm
  obtain⟨u,hu⟩: ∃u:Nat,q.1=u:=⟨q.1.toNat,by omega⟩
  rw[hu] at rd
  simp at q110
  rw[ha,hPl,hqs] at q110
  have hxc':(xc.drop 0).take 1=[.slice (some ⟨bP,0,none⟩) r.ps.length r.P.c]:=by rw[List.drop_zero,hxc];simp[ha,hPl,hqs]
  have rX:aT h' X 0 1=some [.slice (some ⟨bP,0,none⟩) r.ps.length r.P.c]:=by rw[cN hX' (by omega),hxc']
  have oX:=ok'.bl hX'
  have hst:=ok'.st _ _ _ _ _ hX'
  have lX:=oX.lt
  have nXn: ¬X=h'.next:=by omega
  simp[q3,q14,q110,q111,q112,hjl,rd,rX,oX,nXn,-ag,aq,bg,aL,aB]
  refine aP.cut (fun h2=>ab aG h' h2∧ ∃s,h2.tr.get h'.next=some (.aA [.int .i64 u,.slice q.2.a q.2.l q.2.c] false 0 s)) ?_ ?_
  ·exact⟨((ab.refl ok').var _ _).tick,h'.clock,by simp[aK]⟩
  rintro h2 ⟨g2,s2,hY2⟩
  have k2:=k'.aW ok' g2
  have hX2:=g2.get ok' hX' (fun h=>h)
  refine aP.call (V:=MN N nb ai h2) (by simpa using tl g2.ok k2.w (r:=u) (by omega) k.zC) ?_
  rintro _ h3 ⟨g3,w3,x,rfl,hx⟩
  have k3:=k2.step g2.ok (.refl g2.ok) g3 w3
  have hX3:=g3.get g2.ok hX2 nX
  obtain⟨lN,lnb⟩:=k'.lt ok'
  have nY: ¬tg N nb h'.next:=fun e=>by rcases e with e|e<;>omega
  have hY3:=g3.get g2.ok hY2 nY
  have κP:κ bP=3:=R.kP bP (bN ha)
  have R3:=(k3.O.os.r i _ hri).P
  obtain⟨bP',cs3,o3,s3,ha3,hb3,_,hfit3,_,hset3⟩:=R3.el hq
  rw[ha] at ha3;cases ha3
  have hf:=hfit3 0 1 (by decide)
  simp at hf
  have hst2:sX≤h'.clock+1:=by omega
  have nYP: ¬h'.next=bP:=fun e=>by
   have hw:=k'.O.os.new h'.next
   rw[←e] at κP
   have:=(hw (by omega)).2;omega
  simp[q14,hX3,hst2,hjl,hb3,hf,nYP,hY3]
  have g4:=aJ (off:=j*2) (vs:=[Value.int .i64 x]) g3.ok hb3
  have hP4:=hset3 ((x:Int),q.2) 0 [.int .i64 x] (by simp) rfl (put h3 bP (j*2) cs3 [Value.int .i64 x] o3) ⟨h3.clock,by simp⟩
  have hY4:=g4.get g3.ok hY3 nYP
  have hX4:=g4.get g3.ok hX3 (fun e=>by rw[e] at κX;omega)
  generalize put h3 bP (j*2) cs3 [Value.int .i64 x] o3=h4 at*
  have k4:=k3.Kz g3.ok hri (g4.bM (fun y _ e=>e▸bN ha)) hP4 (fun p hp=>by
   rcases List.mem_or_eq_of_mem_set hp with h|h
   ·exact R.ps p h
   ·rw[h];exact⟨⟨by show(0:Int)≤x;omega,by show(x:Int)<ai;omega⟩,hVA⟩)
  rw[List.set_set] at k4
  refine NP g4.ok k4 hVA (hqv q hqm) hY4 ?_ nY rfl (by simp[q3]) (by simp) (by simp) (by simp) (by simp) ?_
  ·have hw:=k'.O.os.new h'.next
   rcases Nat.eq_zero_or_pos (κ h'.next) with h|h
   ·exact h
   ·have:=(hw (by omega)).2;omega
  intro e5 h5 K5 g5 k5 hY5
  have m112:=K5.at (t:=112) (by decide) (by simp;exact q112)
  have hX5:=g5.get g4.ok hX4 (fun e=>by rcases e with e|e;exact nX e;exact e κX)
  simp[m112,wj]
  refine⟨r.ps.length-(j+1),by omega,j+1,qs.set j ((x:Int),q.2),rfl,hjl,?_,by simp,?_,k5,by simp[hqs],fun p hp=> ?_,hX5⟩
  ·refine aC.set (by decide) (aC.set (by decide) (aC.trans ?_ (K5.bM (by decide))))
   repeat (refine aC.set (by decide) ?_)
   exact K
  ·exact(((g.trans g2.aW).trans (g3.bM (fun x _ h=> .inl h))).trans (g4.bM (fun x _ e=> .inr (by rw[e];omega)))).trans g5
  ·rcases List.mem_or_eq_of_mem_set hp with h|h
   ·exact hqv p h
   ·rw[h];exact hqv q hqm
 ·have:j=r.ps.length:=by omega
  subst this
  simp[q111,q112]
  exact C _ _ qs hqs (aC.set (by decide) K) g k' hX'
end
def FA:aj:=(.draw [D_ (m_ 151 3),D_ (f_ 152 2 20),D_ (L_ 153 2 152),D_ (m_ 155 3),D_ (f_ 156 4 20),D_ (L_ 157 2 156),(F_ 154 72 [t_ 151,t_ 153],[156]),D_ (f_ 159 2 20),(F_ 158 72 [t_ 155,t_ 157],[]),D_ (s_ 2 159 154),D_ (f_ 160 4 20),D_ (s_ 2 160 158)])
def Fh:aj:=(.ops [f_ 185 1 14,l_ 186 185,m_ 187 19,L_ 188 8 20,a_ 189 8 186 187,s_ 8 189 188])
theorem JD:iF=(.seq (.ops [B_ 147 .lss 146 145]) (.seq (.cond (t_ 147) .skip (.exit 16)) (.seq (.block 17 (.seq (.ops [m_ 148 146,a_ 149 8 144 146,L_ 150 8 149,o_ 20 (.alloc [(.int .i64 0),(.int .i64 0),(.bool false),(.int .i64 0),(.bool false),(.int .i64 0),(.int .i64 0),(.slice none 0 0)]),m_ 19 148,s_ 8 20 150]) (.seq FA (.seq (.seq (.ops [f_ 161 7 20,l_ 162 161,z_ 163 162,k_ 164 0]) (.block 18 (.loop iD))) (.seq (.seq (.ops [f_ 177 1 20,l_ 178 177,C_ 179 .geq 178 0]) (.cond (t_ 179) (.ops [m_ 180 3,f_ 181 1 20,l_ 182 181,F_ 183 71 [t_ 180,t_ 182],f_ 184 1 20,s_ 1 184 183]) .skip)) Fh))))) (.ops [C_ 190 .add 146 1,m_ 146 190])))):=rfl
def Ll (ai:Nat) (u a:Bool×Int):Prop:=u.1=a.1∧gO ai u∧(a.1=false→u=a)
theorem E8 {ai:Nat} {u a w b:Bool×Int} (hu:Ll ai u a) (hw:Ll ai w b) (words op:Int):cY words op u.1 u.2 w.1 w.2=cY words op a.1 a.2 b.1 b.2:=by
 obtain⟨u1,_,u3⟩:=hu
 obtain⟨w1,_,w3⟩:=hw
 unfold cY
 rw[u1,w1]
 have e1:(!a.1&&(decide (0≤u.2)&&decide (u.2≤words-1)))=(!a.1&&(decide (0≤a.2)&&decide (a.2≤words-1))):=by
  cases h:a.1 with
  |true=>rfl
  |false=>rw[u3 h]
 have e2:(!b.1&&decide (w.2≠0))=(!b.1&&decide (b.2≠0)):=by
  cases h:b.1 with
  |true=>rfl
  |false=>rw[w3 h]
 rw[e1,e2]
theorem sD (words:Int) (ls:List XI):jD words ls=((ls.map (fO words)).filter (fun q=> !q)).length:=by
 unfold jD
 rw[List.filter_map,List.length_map]
 rfl
theorem Hf {words:Int} {ls:List XI} {j:Nat} {x y:XI} (h:ls[j]? =some x) (e:fO words y=fO words x):jD words (ls.set j y)=jD words ls:=by
 rw[sD,sD,List.map_set]
 congr 2
 refine List.ext_getElem? fun m=> ?_
 rw[List.getElem?_set]
 by_cases e1:j=m
 ·subst e1
  rw[if_pos rfl,if_pos (by simpa using(bY.mp h).1),List.getElem?_map,h,e];rfl
 ·rw[if_neg e1]
section
variable {n0 ai:Nat} {κ cap:Nat→Nat} {B:SV} {rs:List XR} {N nb:Nat}
theorem NR.box {h h':ae} (k:NR h n0 ai κ cap B rs N nb) (ok:bh h) {Y:Nat} (g:ab (· =Y) h h') (κY:κ Y=0) (nY: ¬tg N nb Y):NR h' n0 ai κ cap B rs N nb:=
 ⟨k.O.grow ok g (fun b hb=>by rw[hb];exact κY),k.w.grow ok g (fun e=>nY (.inl e.symm)) (fun e=>nY (.inr e.symm)),k.κN,k.κb,k.zC⟩
def WlD:List Nat:=[151,152,153,154,155,156,157,158,159,160]
theorem Lq {h:ae} (ok:bh h) (k:NR h n0 ai κ cap B rs N nb) {x:XI} (hxa:gO ai x.a) (hxb:gO ai x.b) {Y sY:Nat} (hY:h.tr.get Y=some (.aA [.int .i64 x.op,.int .i64 x.dst,.bool x.a.1,.int .i64 x.a.2,.bool x.b.1,.int .i64 x.b.2,.int .i64 x.fn,.slice x.args.a x.args.l x.args.c] false 0 sY)) (κY:κ Y=0) (nY: ¬tg N nb Y)
  {e:Env} {Q:aO→Env→ae→Prop} (f3:Env.get e 3= .pointer (some ⟨N,0,none⟩)) (f20:Env.get e 20= .pointer (some ⟨Y,0,none⟩))
  (C: ∀e' h' u w s,aC WlD e e'→ab (fun z=>tg N nb z∨z=Y) h h'→NR h' n0 ai κ cap B rs N nb→Ll ai u x.a→Ll ai w x.b→h'.tr.get Y=some (.aA [.int .i64 x.op,.int .i64 x.dst,.bool u.1,.int .i64 u.2,.bool w.1,.int .i64 w.2,.int .i64 x.fn,.slice x.args.a x.args.l x.args.c] false 0 s)→Q .normal e' h'):az FF FA e h Q:=by
 have oY:=ok.bl hY
 have hst:=ok.st _ _ _ _ _ hY
 unfold FA
 simp[f3,f20,hY,aw hY,oY]
 have ok1:=(bc ok).ok
 have gt:ab aG h (tick h):=bc ok
 generalize tick h=h1 at ok1 gt ⊢
 have k1:=k.aW ok gt
 have hY1:=gt.get ok hY (fun h=>h)
 refine aP.call (V:=KN N nb ai x.a h1) (by simpa using qz ok1 k1.w hxa k.zC) ?_
 rintro _ h2 ⟨g2,w2,u,rfl,u1,u2,u3⟩
 have k2:=k1.step ok1 (.refl ok1) g2 w2
 have hY2:=g2.get ok1 hY1 nY
 simp[f20,hY2,hst]
 refine aP.call (V:=KN N nb ai x.b h2) (by simpa using qz g2.ok k2.w hxb k.zC) ?_
 rintro _ h3 ⟨g3,w3,w,rfl,v1,v2,v3⟩
 have k3:=k2.step g2.ok (.refl g2.ok) g3 w3
 have hY3:=g3.get g2.ok hY2 nY
 simp[f20,hY3]
 have g4:=((ab.refl g3.ok).put (S:=(· =Y)) (off:=2) (vs:=[Value.bool u.1,Value.int .i64 u.2]) ⟨_,hY3⟩ (.inr rfl)).put (b:=Y) (off:=4) (cs:=[.int .i64 x.op,.int .i64 x.dst,.bool u.1,.int .i64 u.2,.bool x.b.1,.int .i64 x.b.2,.int .i64 x.fn,.slice x.args.a x.args.l x.args.c]) (o:=0) (vs:=[Value.bool w.1,Value.int .i64 w.2]) ⟨h3.clock,by simp[aK]⟩ (.inr rfl)
 refine C _ _ u w (h3.clock+1) ?_ ?_ (k3.box g3.ok g4 κY nY) ⟨u1,u2,u3⟩ ⟨v1,v2,v3⟩ ?_
 ·repeat (refine aC.set (by decide) ?_)
  exact aC.refl _ _
 ·exact((gt.aW.trans (g2.bM (fun z _ h=> .inl h))).trans (g3.bM (fun z _ h=> .inl h))).trans (g4.bM (fun z _ h=> .inr h))
 ·rw[ax]
  rfl
theorem GJ {h:ae} (ok:bh h) (k:NR h n0 ai κ cap B rs N nb) {i j:Nat} {r:XR} (hri:rs[i]? =some r) {x x':XI} (hx:r.ls[j]? =some x) (hd:x'.dst<ai) (ha:gO ai x'.a) (hb:gO ai x'.b) (hv:VA κ cap x'.args) {X sX:Nat} {xc:List Value} (hX:h.tr.get X=some (.aA xc false 0 sX)) (κX:κ X=0) (nX: ¬tg N nb X) (hxc:(xc.drop 1).take 1=[r.L.v]) {Y sY:Nat} (hY:h.tr.get Y=some (.aA (me.enc x') false 0 sY))
  {e:Env} {Q:aO→Env→ae→Prop} (f14:Env.get e 14= .pointer (some ⟨X,0,none⟩)) (f19:Env.get e 19= .int .i64 j) (f20:Env.get e 20= .pointer (some ⟨Y,0,none⟩))
  (C: ∀e' h',aC [185,186,187,188,189] e e'→ab (Cw κ N nb) h h'→NR h' n0 ai κ cap B (rs.set i { r with ls:=r.ls.set j x' }) N nb→h'.tr.get X=some (.aA xc false 0 sX)→Q .normal e' h'):az FF Fh e h Q:=by
 have R:=k.O.os.r i r hri
 obtain⟨bL,cs,o,s,haL,hbL,_,hfit,_,hset⟩:=R.L.el hx
 have hjl:=(bY.mp hx).1
 have hLl:=R.L.len
 have hxl:1+1≤xc.length:=by
  have:=congrArg List.length hxc
  simp at this;omega
 have hxc':(xc.drop 1).take 1=[.slice (some ⟨bL,0,none⟩) r.ls.length r.L.c]:=by rw[hxc];simp[haL,hLl]
 have rX:aT h X 1 1=some [.slice (some ⟨bL,0,none⟩) r.ls.length r.L.c]:=by rw[cN hX hxl,hxc']
 have hf:=hfit 0 8 (by decide)
 simp at hf
 have hY2:=hY
 simp only[Jl] at hY2
 simp at hY2
 have κL:κ bL=4:=R.kL bL (bN haL)
 unfold Fh
 simp[f14,f19,f20,rX,hY2,aw hY2,hjl,hbL,hf,-ag]
 have g4:=aJ (off:=j*8) (vs:=[Value.int .i64 x'.op,.int .i64 x'.dst,.bool x'.a.1,.int .i64 x'.a.2,.bool x'.b.1,.int .i64 x'.b.2,.int .i64 x'.fn,.slice x'.args.a x'.args.l x'.args.c]) ok hbL
 have hL4:=hset x' 0 [Value.int .i64 x'.op,.int .i64 x'.dst,.bool x'.a.1,.int .i64 x'.a.2,.bool x'.b.1,.int .i64 x'.b.2,.int .i64 x'.fn,.slice x'.args.a x'.args.l x'.args.c] (by simp) rfl (put h bL (j*8) cs [Value.int .i64 x'.op,.int .i64 x'.dst,.bool x'.a.1,.int .i64 x'.a.2,.bool x'.b.1,.int .i64 x'.b.2,.int .i64 x'.fn,.slice x'.args.a x'.args.l x'.args.c] o) ⟨h.clock,by simp⟩
 have k4:=k.Lp ok hri (g4.bM (fun y _ e=>e▸bN haL)) hL4 (fun z hz=>by
  rcases List.mem_or_eq_of_mem_set hz with h|h
  ·exact R.ls z h
  ·rw[h];exact⟨hd,ha,hb,hv⟩)
 refine C _ _ ?_ (g4.bM (fun z _ e=> .inr (by rw[e];omega))) k4 (g4.get ok hX (fun e=>by rw[e] at κX;omega))
 repeat (refine aC.set (by decide) ?_)
 exact aC.refl _ _
def Ol:List Nat:=[19,20,21,22,146,147,148,149,150,151,152,153,154,155,156,157,158,159,160,161,162,163,164,165,166,167,168,169,170,171,172,173,174,175,176,177,178,179,180,181,182,183,184,185,186,187,188,189,190]
def Q3 (h:ae) (n0 ai:Nat) (κ cap:Nat→Nat) (B:SV) (rs:List XR) (N nb i:Nat) (r:XR) (X:Nat) (xc:List Value) (sX:Nat) (e:Env) (m:Nat) (e':Env) (h':ae):Prop:=
 ∃(j:Nat) (ys:List XI),m=r.ls.length-j∧j≤r.ls.length∧aC Ol e e'∧Env.get e' 146= .int .i64 j∧ab (Cw κ N nb) h h'∧NR h' n0 ai κ cap B (rs.set i { r with ls:=ys }) N nb∧ys.length=r.ls.length∧(∀x∈ys,x.args.l≤1048576)∧(∀words,jD words ys=jD words r.ls)∧h'.tr.get X=some (.aA xc false 0 sX)
theorem IN {h:ae} (ok:bh h) (k:NR h n0 ai κ cap B rs N nb) {i:Nat} {r:XR} (hr:rs[i]? =some r) (hl:r.ls.length≤1048576) (al: ∀x∈r.ls,x.args.l≤1048576) {X sX:Nat} {xc:List Value} (hX:h.tr.get X=some (.aA xc false 0 sX)) (κX:κ X=0) (nX: ¬tg N nb X) (hxc:(xc.drop 1).take 1=[r.L.v])
  {e:Env} {Q:aO→Env→ae→Prop} (f3:Env.get e 3= .pointer (some ⟨N,0,none⟩)) (f14:Env.get e 14= .pointer (some ⟨X,0,none⟩)) (f144:Env.get e 144=r.L.v) (f145:Env.get e 145= .int .i64 r.ls.length) (f146:Env.get e 146= .int .i64 0)
  (C: ∀e' h' ys,ys.length=r.ls.length→aC Ol e e'→ab (Cw κ N nb) h h'→NR h' n0 ai κ cap B (rs.set i { r with ls:=ys }) N nb→(∀words,jD words ys=jD words r.ls)→h'.tr.get X=some (.aA xc false 0 sX)→Q (.exit 16) e' h'):az FF (.loop iF) e h Q:=by
 have hil:=(bY.mp hr).1
 refine az.loop (Q3 h n0 ai κ cap B rs N nb i r X xc sX e) ?_ (n:=r.ls.length) ⟨0,r.ls,rfl,by omega,aC.refl _ _,f146,.refl ok,by rw[DT hr];exact k,rfl,al,fun _=>rfl,hX⟩
 rintro m e' h' ⟨j,ys,rfl,hj,K,q146,g,k',hys,hyl,hlo,hX'⟩
 have ok':=g.ok
 have q3:=K.at (by decide) f3
 have q14:=K.at (by decide) f14
 have q144:=K.at (by decide) f144
 have q145:=K.at (by decide) f145
 have hxl:2≤xc.length:=by
  have:=congrArg List.length hxc
  simp at this;omega
 rw[JD]
 by_cases hjl:j<r.ls.length
 ·have wj:=wrap_i64 ((j:Int)+1) (by omega) (by omega)
  obtain⟨x,hx⟩: ∃x,ys[j]? =some x:=⟨_,aQ (by omega)⟩
  have hxm:=di hx
  have hri:(rs.set i { r with ls:=ys })[i]? =some { r with ls:=ys } :=by rw[List.getElem?_set,if_pos rfl,if_pos hil]
  have R:=k'.O.os.r i _ hri
  have RL:eJ me h' r.L ys:=R.L
  obtain⟨bL,cs,o,s,ha,hb,_,hfit,hrd,_⟩:=RL.el hx
  have rd:=hrd 0 8 (by decide)
  simp[-ag] at rd
  have hLl:=RL.len
  obtain⟨hd,hxa,hxb,hxv⟩:=R.ls x hxm
  simp at q144
  rw[ha,hLl,hys] at q144
  simp[q144,q145,q146,hjl,rd,-ag,aq]
  refine az.cut (fun h2=>ab aG h' h2∧ ∃s,h2.tr.get h'.next=some (.aA [.int .i64 x.op,.int .i64 x.dst,.bool x.a.1,.int .i64 x.a.2,.bool x.b.1,.int .i64 x.b.2,.int .i64 x.fn,.slice x.args.a x.args.l x.args.c] false 0 s)) ?_ ?_
  ·exact⟨(ab.refl ok').var _ _,h'.clock,by simp[aK]⟩
  rintro h2 ⟨g2,s2,hY2⟩
  have k2:=k'.aW ok' g2
  have hX2:=g2.get ok' hX' (fun h=>h)
  obtain⟨lN,lnb⟩:=k'.lt ok'
  have lX:=ok'.wf _ _ hX'
  have nY: ¬tg N nb h'.next:=fun e=>by rcases e with e|e<;>omega
  have κY:κ h'.next=0:=by
   have hw:=k'.O.os.new h'.next
   rcases Nat.eq_zero_or_pos (κ h'.next) with h|h
   ·exact h
   ·have:=(hw (by omega)).2;omega
  refine Lq g2.ok k2 hxa hxb hY2 κY nY (by simp[q3]) (by simp) ?_
  intro e3 h3 u w s3 K3 g3 k3 hu hw hY3
  have hX3:=g3.get g2.ok hX2 (fun e=>by rcases e with e|e;exact nX e;omega)
  have a3:=K3.at (t:=3) (by decide) (by simp;exact q3)
  have a14:=K3.at (t:=14) (by decide) (by simp;exact q14)
  have a19:Env.get e3 19= .int .i64 j:=K3.at (t:=19) (by decide) (by simp)
  have a20:Env.get e3 20= .pointer (some ⟨h'.next,0,none⟩):=K3.at (t:=20) (by decide) (by simp)
  have a146:=K3.at (t:=146) (by decide) (by simp;exact q146)
  have KK3:aC Ol e e3:=by
   refine aC.trans ?_ (K3.bM (by decide))
   repeat (refine aC.set (by decide) ?_)
   exact K
  simp[a20,hY3]
  refine Oy g3.ok k3 hxv (hyl x hxm) hY3 κY nY rfl (by simp[a3]) (by simp[a20]) (by simp) (by simp) (by simp) ?_
  intro e4 h4 K4 g4 k4 hY4
  have hX4:=g4.get g3.ok hX3 (fun e=>by rcases e with e|e;exact nX e;exact e κX)
  have b3:=K4.at (t:=3) (by decide) (by simp;exact a3)
  have b14:=K4.at (t:=14) (by decide) (by simp;exact a14)
  have b19:=K4.at (t:=19) (by decide) (by simp;exact a19)
  have b20:=K4.at (t:=20) (by decide) (by simp;exact a20)
  have b146:=K4.at (t:=146) (by decide) (by simp;exact a146)
  have KK4:aC Ol e e4:=by
   refine aC.trans ?_ (K4.bM (by decide))
   repeat (refine aC.set (by decide) ?_)
   exact KK3
  have G4:ab (Cw κ N nb) h h4:=((g.trans g2.aW).trans' g3 (fun _ _ h=>h) (fun z hz e=>by
   rcases e with e|e
   ·exact .inl e
   ·have:=g.next;omega)).trans g4
  have hxl3:1+1≤xc.length:=hxl
  have κL:κ bL=4:=R.kL bL (bN ha)
  
  have fin: ∀(e6:Env) (h6:ae) (d:Int),d<ai→aC Ol e e6→ab (Cw κ N nb) h h6→NR h6 n0 ai κ cap B (rs.set i { r with ls:=ys.set j ⟨x.op,d,u,w,x.fn,x.args⟩ }) N nb→h6.tr.get X=some (.aA xc false 0 sX)→ ∃m,m<r.ls.length-j∧Q3 h n0 ai κ cap B rs N nb i r X xc sX e m (Tr.set (Tr.set e6 190 (.int .i64 ((j:Int)+1))) 146 (.int .i64 ((j:Int)+1))) h6:=by
   intro e6 h6 d hdr K6 G6 k6 hX6
   refine⟨r.ls.length-(j+1),by omega,j+1,ys.set j ⟨x.op,d,u,w,x.fn,x.args⟩,rfl,hjl,aC.set (by decide) (aC.set (by decide) K6),by simp,G6,k6,by simp[hys],fun z hz=> ?_,fun words=> ?_,hX6⟩
   ·rcases List.mem_or_eq_of_mem_set hz with h|h
    ·exact hyl z h
    ·rw[h];exact hyl x hxm
   ·rw[Hf hx ?_]
    ·exact hlo words
    ·exact E8 hu hw words x.op
  by_cases hd0:0≤x.dst
  ·obtain⟨dn,hdn⟩: ∃u:Nat,x.dst=u:=⟨x.dst.toNat,by omega⟩
   rw[hdn] at hY4 hd
   have hd0':(0:Int)≤(dn:Int):=by omega
   simp[b3,b20,hY4,hd0']
   refine aD.call (V:=MN N nb ai h4) (by simpa using tl g4.ok k4.w (r:=dn) (by omega) k.zC) ?_
   rintro _ h5 ⟨g5,w5,y,rfl,hy⟩
   have k5:=k4.step g4.ok (.refl g4.ok) g5 w5
   have hY5:=g5.get g4.ok hY4 nY
   have hX5:=g5.get g4.ok hX4 nX
   simp[b20,hY5]
   have g6:=(ab.refl g5.ok).put (S:=(· =h'.next)) (off:=1) (vs:=[Value.int .i64 y]) ⟨_,hY5⟩ (.inr rfl)
   have hY6: ∃s,(put h5 h'.next 1 [.int .i64 x.op,.int .i64 dn,.bool u.1,.int .i64 u.2,.bool w.1,.int .i64 w.2,.int .i64 x.fn,.slice x.args.a x.args.l x.args.c] [Value.int .i64 y] 0).tr.get h'.next=some (.aA (me.enc ⟨x.op,y,u,w,x.fn,x.args⟩) false 0 s):=⟨h5.clock,by rw[ax];rfl⟩
   have hX6:=g6.get g5.ok hX5 (by omega)
   have k6:=k5.box g5.ok g6 κY nY
   generalize put h5 h'.next 1 _ _ 0=h6 at*
   obtain⟨s6,hY6⟩:=hY6
   have lY:h'.next<h6.next:=g6.ok.wf _ _ hY6
   refine GJ g6.ok k6 hri hx (x':=⟨x.op,y,u,w,x.fn,x.args⟩) (by show(y:Int)<ai;omega) hu.2.1 hw.2.1 hxv hX6 κX nX hxc hY6 (by simp[b14]) (by simp[b19]) (by simp[b20]) ?_
   intro e7 h7 K7 g7 k7 hX7
   rw[List.set_set] at k7
   have b146':=K7.at (t:=146) (by decide) (by simp;exact b146)
   simp[b146',wj]
   refine fin e7 h7 y (by omega) ?_ ?_ k7 hX7
   ·refine aC.trans ?_ (K7.bM (by decide))
    repeat (refine aC.set (by decide) ?_)
    exact KK4
   ·exact((G4.trans (g5.bM (fun z _ h=> .inl h))).trans' g6 (fun _ _ h=>h) (fun z hz e=>by have:=g.next;omega)).trans g7
  ·simp[b20,hY4,hd0]
   refine GJ g4.ok k4 hri hx (x':=⟨x.op,x.dst,u,w,x.fn,x.args⟩) hd hu.2.1 hw.2.1 hxv hX4 κX nX hxc hY4 (by simp[b14]) (by simp[b19]) (by simp[b20]) ?_
   intro e7 h7 K7 g7 k7 hX7
   rw[List.set_set] at k7
   have b146':=K7.at (t:=146) (by decide) (by simp;exact b146)
   simp[b146',wj]
   refine fin e7 h7 x.dst hd ?_ (G4.trans g7) k7 hX7
   refine aC.trans ?_ (K7.bM (by decide))
   repeat (refine aC.set (by decide) ?_)
   exact KK4
 ·have:j=r.ls.length:=by omega
  subst this
  simp[q145,q146]
  exact C _ _ ys hys (aC.set (by decide) K) g k' hlo hX'
end
def E_:aj:=(.draw [D_ (f_ 191 3 1),D_ (l_ 192 191),D_ (m_ 193 13),D_ (m_ 194 3),D_ (f_ 195 2 14),D_ (f_ 196 1 195),D_ (L_ 197 2 196),(F_ 198 72 [t_ 194,t_ 197],[191]),D_ (a_ 199 6 192 193),D_ (f_ 200 2 199),D_ (f_ 201 1 200),D_ (s_ 2 201 198)])
theorem Kh:kC=(.seq (.ops [B_ 105 .lss 104 103]) (.seq (.cond (t_ 105) .skip (.exit 10)) (.seq (.block 11 (.seq (.ops [m_ 106 104,a_ 107 6 102 104,L_ 108 6 107,o_ 14 (.alloc [(.slice none 0 0),(.slice none 0 0),(.int .i64 0),(.bool false),(.int .i64 0),(.slice none 0 0)]),m_ 13 106,s_ 6 14 108]) (.seq (.seq (.ops [f_ 109 0 14,l_ 110 109,z_ 111 110,k_ 112 0]) (.block 12 (.loop iB))) (.seq (.seq (.ops [f_ 143 1 14,l_ 144 143,z_ 145 144,k_ 146 0]) (.block 16 (.loop iF))) E_)))) (.ops [C_ 202 .add 104 1,m_ 104 202])))):=rfl
section
variable {n0 ai:Nat} {κ cap:Nat→Nat} {B:SV} {rs:List XR} {N nb:Nat}
def WbD:List Nat:=[191,192,193,194,195,196,197,198,199,200,201]
theorem LU {h:ae} (ok:bh h) (k:NR h n0 ai κ cap B rs N nb) {j:Nat} {r:XR} (hri:rs[j]? =some r) {F sF:Nat} {name:ByteArray} {p rg:Int} (hF:h.tr.get F=some (.aA (ak name p rg B) false 0 sF)) (κF:κ F=0) (nF: ¬tg N nb F) {X sX:Nat} {r0:XR} (hX:h.tr.get X=some (.aA (fq.enc r0) false 0 sX)) (h0:r0.on=r.on)
  {e:Env} {Q:aO→Env→ae→Prop} (f1:Env.get e 1= .pointer (some ⟨F,0,none⟩)) (f3:Env.get e 3= .pointer (some ⟨N,0,none⟩)) (f13:Env.get e 13= .int .i64 j) (f14:Env.get e 14= .pointer (some ⟨X,0,none⟩))
  (C: ∀e' h' u,aC WbD e e'→ab (Cw κ N nb) h h'→NR h' n0 ai κ cap B (rs.set j { r with on:=u }) N nb→Q .normal e' h'):az FF E_ e h Q:=by
 have hjl:=(bY.mp hri).1
 have R:=k.O.os.r j r hri
 obtain⟨bB,cs,oB,sB,hBa,hBb,_,hfit,hrd,_⟩:=k.O.A.el hri
 have κB:κ bB=2:=k.O.kB bB (bN hBa)
 have hBl:=k.O.A.len
 have hF2:=hF
 simp[ak] at hF2
 rw[hBa,hBl] at hF2
 have hX2:=hX
 simp only[nB] at hX2
 simp at hX2
 rw[h0] at hX2
 have oF:=ok.bl hF
 have oX:=ok.bl hX
 have hst:=ok.st _ _ _ _ _ hF
 unfold E_
 simp[f1,f3,f13,f14,hF2,hX2,aw hF2,aw hX2,oF,oX]
 have ok1:=(bc ok).ok
 have gt:ab aG h (tick h):=bc ok
 generalize tick h=h1 at ok1 gt ⊢
 have k1:=k.aW ok gt
 have hF1:=gt.get ok hF2 (fun h=>h)
 refine aP.call (V:=KN N nb ai r.on h1) (by simpa using qz ok1 k1.w R.on k.zC) ?_
 rintro _ h2 ⟨g2,w2,u,rfl,u1,u2,u3⟩
 have k2:=k1.step ok1 (.refl ok1) g2 w2
 have hF3:=g2.get ok1 hF1 nF
 obtain⟨bB',cs2,oB2,sB2,hBa',hBb2,_,hfit2,_,hset2⟩:=k2.O.A.el hri
 rw[hBa] at hBa';cases hBa'
 have hf:=hfit2 3 2 (by decide)
 simp at hf
 simp[f1,hF3,hst,hjl,hBb2,hf]
 have g3:=aJ (off:=j*6+3) (vs:=[Value.bool u.1,Value.int .i64 u.2]) g2.ok hBb2
 have A3:=hset2 { r with on:=u } 3 [Value.bool u.1,Value.int .i64 u.2] (by simp) rfl (put h2 bB (j*6+3) cs2 [Value.bool u.1,Value.int .i64 u.2] oB2) ⟨h2.clock,by simp⟩
 have os3:=(k2.O.os.N7 hri r.kind u u2).grow g2.ok g3 (fun x e=> .inr (by rw[e];exact κB))
 have k3:NR (put h2 bB (j*6+3) cs2 [Value.bool u.1,Value.int .i64 u.2] oB2) n0 ai κ cap B (rs.set j { r with on:=u }) N nb:=
  ⟨⟨os3,A3,k2.O.kB⟩,k2.w.grow g2.ok g3 (fun e=>by have:=k.κN;rw[e] at this;omega) (fun e=>by have:=k.κb;rw[e] at this;omega),k.κN,k.κb,k.zC⟩
 refine C _ _ u ?_ ?_ k3
 ·repeat (refine aC.set (by decide) ?_)
  exact aC.refl _ _
 ·exact(gt.aW.trans (g2.bM (fun z _ h=> .inl h))).trans (g3.bM (fun z _ e=> .inr (by rw[e];omega)))
def WbI (h:ae) (n0 ai:Nat) (κ cap:Nat→Nat) (B:SV) (rs:List XR) (N nb F:Nat) (v2:Value) (m:Nat) (e':Env) (h':ae):Prop:=
 ∃(j:Nat) (rs':List XR),m=rs.length-j∧j≤rs.length∧Env.get e' 1= .pointer (some ⟨F,0,none⟩)∧Env.get e' 2=v2∧Env.get e' 3= .pointer (some ⟨N,0,none⟩)∧Env.get e' 102=B.v∧Env.get e' 103= .int .i64 rs.length∧Env.get e' 104= .int .i64 j∧ab (Cw κ N nb) h h'∧NR h' n0 ai κ cap B rs' N nb∧rs'.length=rs.length∧(∀i,j≤i→rs'[i]? =rs[i]?)∧(∀r∈rs',r.ps.length≤300∧r.ls.length≤300)∧ ∀words,fC words rs'=fC words rs
theorem E0 {h:ae} (ok:bh h) (k:NR h n0 ai κ cap B rs N nb) (hn0:n0≤h.next) (T:TF rs) {F sF:Nat} {name:ByteArray} {p rg:Int} (hF:h.tr.get F=some (.aA (ak name p rg B) false 0 sF)) (κF:κ F=0) (nF: ¬tg N nb F)
  {e:Env} {Q:aO→Env→ae→Prop} {v2:Value} (f1:Env.get e 1= .pointer (some ⟨F,0,none⟩)) (f2:Env.get e 2=v2) (f3:Env.get e 3= .pointer (some ⟨N,0,none⟩)) (f102:Env.get e 102=B.v) (f103:Env.get e 103= .int .i64 rs.length) (f104:Env.get e 104= .int .i64 0)
  (C: ∀e' h' rs',Env.get e' 1= .pointer (some ⟨F,0,none⟩)→Env.get e' 2=v2→Env.get e' 3= .pointer (some ⟨N,0,none⟩)→ab (Cw κ N nb) h h'→NR h' n0 ai κ cap B rs' N nb→rs'.length=rs.length→(∀r∈rs',r.ps.length≤300∧r.ls.length≤300)→(∀words,fC words rs'=fC words rs)→Q (.exit 10) e' h'):az FF (.loop kC) e h Q:=by
 have zE:=T.zE
 refine az.loop (WbI h n0 ai κ cap B rs N nb F v2) ?_ (n:=rs.length) ⟨0,rs,rfl,by omega,f1,f2,f3,f102,f103,f104,.refl ok,k,rfl,fun _ _=>rfl,T.size,fun _=>rfl⟩
 rintro m e' h' ⟨j,rs',rfl,hj,q1,q2,q3,q102,q103,q104,g,k',hrl,hsame,hsz,hlo⟩
 have ok':=g.ok
 rw[Kh]
 by_cases hjl:j<rs.length
 ·have wj:=wrap_i64 ((j:Int)+1) (by omega) (by omega)
  obtain⟨r,hr⟩: ∃r,rs[j]? =some r:=⟨_,aQ hjl⟩
  have hr':rs'[j]? =some r:=by rw[hsame j (Nat.le_refl _)];exact hr
  have hm:=di hr
  obtain⟨sp,sl⟩:=T.size r hm
  have R:=k'.O.os.r j r hr'
  obtain⟨bB,cs,o,s,ha,hb,_,_,hrd,_⟩:=k'.O.A.el hr'
  have rd:=hrd 0 6 (by decide)
  simp[-ag] at rd
  have hBl:=k'.O.A.len
  have hPl:=R.P.len
  have hLl:=R.L.len
  simp at q102
  rw[ha,hBl,hrl] at q102
  simp[q102,q103,q104,hjl,rd,-ag,aq,hPl]
  refine az.cut (fun h2=>ab aG h' h2∧ ∃s,h2.tr.get h'.next=some (.aA (fq.enc r) false 0 s)) ?_ ?_
  ·exact⟨(ab.refl ok').var _ _,h'.clock,by simp[aK,hPl]⟩
  rintro h2 ⟨g2,sX,hX2⟩
  have k2:=k'.aW ok' g2
  obtain⟨lN,lnb⟩:=k'.lt ok'
  have nX: ¬tg N nb h'.next:=fun e=>by rcases e with e|e<;>omega
  have ln:=g.next
  have κX:κ h'.next=0:=by
   have hw:=k'.O.os.new h'.next
   rcases Nat.eq_zero_or_pos (κ h'.next) with h|h
   ·exact h
   ·have:=(hw (by omega)).2;omega
  have nW: ¬Cw κ N nb h'.next:=fun e=>by rcases e with e|e;exact nX e;exact e κX
  have nWF: ¬Cw κ N nb F:=fun e=>by rcases e with e|e;exact nF e;exact e κF
  have hql: ∀q∈r.ps,q.2.l≤1048576:=by
   intro q hq
   obtain⟨pk,hpk⟩: ∃pk,(Edge.bm (bD rs))[j]? =some pk:=⟨_,aQ (by rw[Edge.eA,dD];exact hjl)⟩
   have h1:=T.BY j r pk hr hpk q hq
   have h2:=qY T.tok (by rw[dD];exact zE) pk (di hpk)
   omega
  refine Jm g2.ok k2 hr' (by omega) hX2 κX nX rfl hql (by simp[q3]) (by simp) (by simp[hPl]) (by simp) (by simp) ?_
  intro e3 h3 qs hql3 K3 g3 k3 hX3
  have a1:=K3.at (t:=1) (by decide) (by simp;exact q1)
  have a2:=K3.at (t:=2) (by decide) (by simp;exact q2)
  have a3:=K3.at (t:=3) (by decide) (by simp;exact q3)
  have a13:Env.get e3 13= .int .i64 j:=K3.at (t:=13) (by decide) (by simp)
  have a14:Env.get e3 14= .pointer (some ⟨h'.next,0,none⟩):=K3.at (t:=14) (by decide) (by simp)
  have a102:=K3.at (t:=102) (by decide) (by simp;exact q102)
  have a103:=K3.at (t:=103) (by decide) (by simp;exact q103)
  have a104:=K3.at (t:=104) (by decide) (by simp;exact q104)
  have hr3:(rs'.set j { r with ps:=qs })[j]? =some { r with ps:=qs } :=by rw[List.getElem?_set,if_pos rfl,if_pos (by omega)]
  have hX3':=hX3
  simp only[nB] at hX3'
  simp at hX3'
  simp[a14,hX3']
  refine IN g3.ok k3 hr3 (by show r.ls.length≤_;omega) (T.al r hm) hX3 κX nX rfl (by simp[a3]) (by simp[a14]) (by simp) (by simp[hLl]) (by simp) ?_
  intro e4 h4 ys hyl4 K4 g4 k4 hlo4 hX4
  have b1:=K4.at (t:=1) (by decide) (by simp;exact a1)
  have b2:=K4.at (t:=2) (by decide) (by simp;exact a2)
  have b3:=K4.at (t:=3) (by decide) (by simp;exact a3)
  have b13:=K4.at (t:=13) (by decide) (by simp;exact a13)
  have b14:=K4.at (t:=14) (by decide) (by simp;exact a14)
  have b102:=K4.at (t:=102) (by decide) (by simp;exact a102)
  have b103:=K4.at (t:=103) (by decide) (by simp;exact a103)
  have b104:=K4.at (t:=104) (by decide) (by simp;exact a104)
  rw[List.set_set] at k4
  have hr4:(rs'.set j { r with ps:=qs,ls:=ys })[j]? =some { r with ps:=qs,ls:=ys } :=by rw[List.getElem?_set,if_pos rfl,if_pos (by omega)]
  have G4:=(g.trans g2.aW).trans (g3.trans g4)
  have hF4:=(G4).get ok hF nWF
  simp
  refine LU g4.ok k4 hr4 hF4 κF nF hX4 rfl b1 b3 b13 b14 ?_
  intro e5 h5 u K5 g5 k5
  rw[List.set_set] at k5
  have c104:=K5.at (t:=104) (by decide) b104
  have c102:=K5.at (t:=102) (by decide) b102
  simp[c104,wj]
  refine⟨rs.length-(j+1),by omega,j+1,rs'.set j { r with ps:=qs,ls:=ys,on:=u },rfl,hjl,by simp[K5.at (t:=1) (by decide) b1],by simp[K5.at (t:=2) (by decide) b2],by simp[K5.at (t:=3) (by decide) b3],by simp[c102,ha,hBl,hrl],by simp[K5.at (t:=103) (by decide) b103],by simp,G4.trans g5,k5,by simp[hrl],fun i hi=> ?_,fun z hz=> ?_,fun words=> ?_⟩
  ·rw[List.getElem?_set,if_neg (by omega)]
   exact hsame i (by omega)
  ·rcases List.mem_or_eq_of_mem_set hz with h|h
   ·exact hsz z h
   ·rw[h]
    show qs.length≤300∧ys.length≤300
    rw[hql3,hyl4]
    exact⟨sp,sl⟩
  ·have:=sv (fun r:XR=>jD words r.ls) rs' j r { r with ps:=qs,ls:=ys,on:=u } hr'
   have h2:=hlo4 words
   have h3:=hlo words
   unfold fC at h3 ⊢
   dsimp only at this h2
   omega
 ·have:j=rs.length:=by omega
  subst this
  simp[q103,q104]
  exact C _ _ rs' (by simp[q1]) (by simp[q2]) (by simp[q3]) g k' hrl hsz hlo
end
def Ct (name:ByteArray) (p:Int) (n0 ai:Nat) (κ0:Nat→Nat) (rs:List XR) (h:ae) (v:Value) (h':ae):Prop:=
 ab (fun x=>κ0 x≠0) h h'∧ ∃(B':SV) (rs':List XR) (κ cap:Nat→Nat) (many:Nat),v= .agg ⟨ak name p many B'⟩∧many≤ai∧(∀x,x<h.next→κ x=κ0 x)∧ou h' n0 ai κ cap B' rs'∧(0<rs'.length∧rs'.length≤24)∧(∀r∈rs',r.ps.length≤300∧r.ls.length≤300)∧ ∀words,fC words rs'=fC words rs
theorem Lz (ai:Nat):J_ (List.replicate ai (-1)) 0 ai:=by
 refine⟨by simp,fun v hv=> .inl (List.eq_of_mem_replicate hv),?_⟩
 rw[Nat.zero_add,List.countP_replicate]
 simp
theorem Fe {h:ae} (ok:bh h) {name:ByteArray} {p n0 ai:Nat} {κ0 cap0:Nat→Nat} {B:SV} {rs:List XR} (hn0:n0≤h.next) (O:ou h n0 ai κ0 cap0 B rs) (T:TF rs) (hp:p≤ai) (hreg:ai<1000000):
  aE FF rZ [.agg ⟨ak name p ai B⟩] h (Ct name p n0 ai κ0 rs h):=by
 have κnew: ∀x,h.next≤x→κ0 x=0:=fun x hx=>by
  have hw:=O.os.new x
  rcases Nat.eq_zero_or_pos (κ0 x) with h1|h1
  ·exact h1
  ·have:=(hw (by omega)).2;omega
 refine aE.of zb ?_
 unfold rG
 have n2: ¬h.next=h.next+1:=by omega
 have n3: ¬h.next+1=h.next:=by omega
 simp[ak,n2,n3]
 refine aP.cut (fun h1=>ab aG h h1∧h1.tr.get h.next=some (.aA (ak name p ai B) false 0 0)∧(∃s,h1.tr.get (h.next+1)=some (.aA [.string ⟨⟨[]⟩⟩,.int .i64 0,.int .i64 0,.slice none 0 0] false 0 s))) ?_ ?_
 ·exact⟨(((ab.refl ok).new _ _).new _ _).tick,by simp[ak,n2],⟨0,by simp⟩⟩
 rintro h1 ⟨g1,hF1,⟨sR,hR1⟩⟩
 have lF:=g1.ok.wf _ _ hF1
 have lR:=g1.ok.wf _ _ hR1
 refine aP.call (V:=Nh rs h1) (by simpa [ak] using CD g1.ok (name:=name) (p:=p) (r:=ai) (O.aW ok g1) T) ?_
 rintro _ h2 ⟨g2,L,rfl,hL⟩
 have gg2:=g1.trans g2
 have hF2:=g2.get g1.ok hF1 (fun h=>h)
 have hR2:=g2.get g1.ok hR1 (fun h=>h)
 have O2:=O.aW ok gg2
 simp[hF2]
 refine aP.call (V:=MJ name p ai n0 ai κ0 rs h2) (by simpa [ak] using GR g2.ok (name:=name) (p:=p) (r:=ai) O2 (by have:=gg2.next;omega) T hL (fun x hx=>κnew x (by omega))) ?_
 rintro _ h3 ⟨g3,B',rs',κ,cap,rfl,hlow,O3,T3,hR3',hlo3⟩
 have ln2:=gg2.next
 have κ35: ∀x,(κ0 x=3∨κ0 x=5)→κ0 x≠0:=fun x h=>by omega
 have hF3:=g3.get g2.ok hF2 (fun e=>κ35 _ e (κnew _ (by omega)))
 have hR3:=g3.get g2.ok hR2 (fun e=>κ35 _ e (κnew _ (by omega)))
 simp[ak] at hF3
 have l2:=g2.next
 have l3:=g3.next
 have κF:κ h.next=0:=by rw[hlow _ (by omega)];exact κnew _ (by omega)
 have κR:κ (h.next+1)=0:=by rw[hlow _ (by omega)];exact κnew _ (by omega)
 have n4: ¬h.next=h3.next:=by omega
 have lF3:=g3.ok.wf _ _ hF3
 have oF3:=g3.ok.bl hF3
 simp[ak,hF3,n4]
 refine aD.cut (fun h4=>ab (· =h.next) h3 h4∧(∃s,h4.tr.get h.next=some (.aA (ak name p ai B') false 0 s))∧ ∃s,h4.tr.get h3.next=some (.aA [.int .i64 (-1)] false 0 s)) ?_ ?_
 ·have g4:=(ab.refl g3.ok).put (S:=(· =h.next)) (off:=0) (vs:=[Value.string name,Value.int .i64 p,Value.int .i64 ai,Value.slice B'.a B'.l B'.c]) ⟨_,hF3⟩ (.inr rfl)
  exact⟨g4.new _ _,⟨h3.clock,by simp[ak,n4]⟩,⟨0,by simp⟩⟩
 rintro h4 ⟨g4,⟨sF4,hF4⟩,⟨sM,hM4⟩⟩
 refine aD.call (V:=fun v h'=>ab aG h4 h'∧ ∃d s,v= .slice (some ⟨d,0,none⟩) ai ai∧h4.next≤d∧h'.tr.get d=some (.aA (aY.flat (List.replicate ai (-1:Int))) false 0 s)) (by simpa using yY g4.ok ai hreg (x:= -1) hM4) ?_
 rintro _ h5 ⟨g5,d,sd,rfl,hdn,hd5⟩
 have hF5:=g5.get g4.ok hF4 (fun h=>h)
 have hF5':=hF5
 simp[ak] at hF5'
 have l4:=g4.next
 have l5:=g5.next
 have ld:=g5.ok.wf _ _ hd5
 have nF5: ¬h.next=h5.next:=by omega
 simp[hF5',nF5]
 refine az.cut (fun h6=>ab aG h5 h6∧ ∃s,h6.tr.get h5.next=some (.aA [.slice (some ⟨d,0,none⟩) ai ai,.int .i64 0] false 0 s)) ?_ ?_
 ·exact⟨(ab.refl g5.ok).new _ _,0,by simp⟩
 rintro h6 ⟨g6,sN,hN6⟩
 have hd6:=g6.get g5.ok hd5 (fun h=>h)
 have hF6:=g6.get g5.ok hF5 (fun h=>h)
 have l6:=g6.next
 have G46:=g5.trans g6
 have G36:ab (· =h.next) h3 h6:=g4.trans G46.aW
 have O6:ou h6 n0 ai κ cap B' rs':=O3.grow g3.ok G36 (fun x e=>by rw[e];exact κF)
 have hR6:=G36.get g3.ok hR3 (by omega)
 have κhi: ∀x,h3.next≤x→κ x=0:=fun x hx=>by
  have hw:=O3.os.new x
  rcases Nat.eq_zero_or_pos (κ x) with h1|h1
  ·exact h1
  ·have:=(hw (by omega)).2;omega
 have k6:NR h6 n0 ai κ cap B' rs' h5.next d:=⟨O6,⟨_,0,sN,sd,hN6,hd6,by omega,Lz ai⟩,κhi _ (by omega),κhi _ (by omega),hreg⟩
 have nF: ¬tg h5.next d h.next:=fun e=>by rcases e with e|e<;>omega
 have nR: ¬tg h5.next d (h.next+1):=fun e=>by rcases e with e|e<;>omega
 refine Iw (v1:= .pointer (some ⟨h.next,0,none⟩)) (v2:= .pointer (some ⟨h.next+1,0,none⟩)) g6.ok k6 (p:=p) hp (by simp) (by simp) (by simp) (by simp) (by simp) ?_
 intro e7 h7 q1 q2 q3 g7 k7
 have hF7:=g7.get g6.ok hF6 nF
 have hF7':=hF7
 simp[ak] at hF7'
 have hBl:=O3.A.len
 simp[q1,hF7']
 refine HH (v1:= .pointer (some ⟨h.next,0,none⟩)) (v2:= .pointer (some ⟨h.next+1,0,none⟩)) g7.ok k7 T3 (by simp[q1]) (by simp[q2]) (by simp[q3]) (by simp) (by simp[hBl]) (by simp) ?_
 intro e8 h8 r1 r2 r3 g8 k8
 have hF8:=g8.get g7.ok hF7 nF
 have hF8':=hF8
 simp[ak] at hF8'
 simp[r1,hF8']
 have l7:=g7.next
 have l8:=g8.next
 refine E0 (v2:= .pointer (some ⟨h.next+1,0,none⟩)) g8.ok k8 (by omega) T3 hF8 κF nF (by simp[r1]) (by simp[r2]) (by simp[r3]) (by simp) (by simp[hBl]) (by simp) ?_
 intro e9 h9 rs9 s1 s2 s3 g9 k9 hl9 hsz9 hlo9
 have nFW: ¬Cw κ h5.next d h.next:=fun e=>by rcases e with e|e;exact nF e;exact e κF
 have nRW: ¬Cw κ h5.next d (h.next+1):=fun e=>by rcases e with e|e;exact nR e;exact e κR
 have hF9:=g9.get g8.ok hF8 nFW
 have hR9:=g9.get g8.ok (g8.get g7.ok (g7.get g6.ok hR6 nR) nR) nRW
 obtain⟨now,many,t1,t2,hN9,hb9,hne9,nm9⟩:=k9.w
 have hF9':=hF9
 simp[ak] at hF9'
 simp[s1,s2,s3,hF9',hN9,hR9,n2,n3]
 have gw:=((ab.refl g9.ok).put (S:=fun x=>x=h.next∨x=h.next+1) (off:=2) (vs:=[Value.int .i64 many]) ⟨_,hF9'⟩ (.inr (.inl rfl))).put (b:=h.next+1) (off:=0) (cs:=[Value.string ⟨⟨[]⟩⟩,Value.int .i64 0,Value.int .i64 0,Value.slice none 0 0]) (o:=0) (vs:=[Value.string name,Value.int .i64 p,Value.int .i64 many,Value.slice B'.a B'.l B'.c]) ⟨sR,by simp[hR9,n3]⟩ (.inr (.inr rfl))
 generalize put (put h9 _ _ _ _ _) _ _ _ _ _=h10 at gw ⊢
 have tC:=nm9.tC
 have zE:=T3.zE
 have n1:=T3.n1
 have new3: ∀x,x<h.next→ ¬tg h5.next d x:=fun x hx e=>by rcases e with e|e<;>omega
 have Gw:ab (fun x=>κ0 x≠0) h h9:=by
  refine((((((gg2.aW).trans (g3.bM (fun x _ e=>κ35 x e))).trans' G36 (fun _ _ e=>e) (fun x hx e=>by omega)).trans' g7 (fun _ _ e=>e) (fun x hx e=>(new3 x hx e).elim)).trans' g8 (fun _ _ e=>e) (fun x hx e=>(new3 x hx e).elim)).trans' g9 (fun _ _ e=>e) (fun x hx e=> ?_))
  rcases e with e|e
  ·exact(new3 x hx e).elim
  ·rw[hlow x (by omega)] at e;exact e
 refine⟨Gw.trans' gw (fun _ _ e=>e) (fun x hx e=>by omega),B',rs9,κ,cap,many,by simp[ak],by omega,fun x hx=>hlow x (by omega),k9.O.grow g9.ok gw (fun b e=>by rcases e with e|e<;>(rw[e];first|exact κF|exact κR)),⟨by omega,by omega⟩,hsz9,fun words=>(hlo9 words).trans (hlo3 words)⟩
theorem Hn {h:ae} (ok:bh h) {name:ByteArray} {p n0 ai:Nat} {κ0 cap0:Nat→Nat} {B:SV} {rs:List XR} (hn0:n0≤h.next) (O:ou h n0 ai κ0 cap0 B rs) (T:TF rs) (hp:p≤ai) (hreg:ai<1000000):
  aE FF xk [.agg ⟨ak name p ai B⟩] h (Ct name p n0 ai κ0 rs h):=by
 have κnew: ∀x,h.next≤x→κ0 x=0:=fun x hx=>by
  have hw:=O.os.new x
  rcases Nat.eq_zero_or_pos (κ0 x) with h1|h1
  ·exact h1
  ·have:=(hw (by omega)).2;omega
 refine aE.of Ec ?_
 unfold xm
 have n2: ¬h.next=h.next+1:=by omega
 have n3: ¬h.next+1=h.next:=by omega
 simp[ak,n2,n3]
 refine aP.cut (fun h1=>ab aG h h1∧h1.tr.get h.next=some (.aA (ak name p ai B) false 0 0)∧(∃s,h1.tr.get (h.next+1)=some (.aA [.string ⟨⟨[]⟩⟩,.int .i64 0,.int .i64 0,.slice none 0 0] false 0 s))) ?_ ?_
 ·exact⟨(((ab.refl ok).new _ _).new _ _).tick,by simp[ak,n2],⟨0,by simp⟩⟩
 rintro h1 ⟨g1,hF1,⟨sR,hR1⟩⟩
 have lF:=g1.ok.wf _ _ hF1
 have lR:=g1.ok.wf _ _ hR1
 refine aP.call (V:=Nh rs h1) (by simpa [ak] using CD g1.ok (name:=name) (p:=p) (r:=ai) (O.aW ok g1) T) ?_
 rintro _ h2 ⟨g2,L,rfl,hL⟩
 have gg2:=g1.trans g2
 have hF2:=g2.get g1.ok hF1 (fun h=>h)
 have hR2:=g2.get g1.ok hR1 (fun h=>h)
 have O2:=O.aW ok gg2
 simp[hF2]
 refine aP.call (V:=MJ name p ai n0 ai κ0 rs h2) (by simpa [ak] using GR g2.ok (name:=name) (p:=p) (r:=ai) O2 (by have:=gg2.next;omega) T hL (fun x hx=>κnew x (by omega))) ?_
 rintro _ h3 ⟨g3,B3,rs3,κ3,cap3,rfl,hlow3,O3,T3,_,hlo3⟩
 have ln2:=gg2.next
 have ln3:=g3.next
 have κ35: ∀x,(κ0 x=3∨κ0 x=5)→κ0 x≠0:=fun x h=>by omega
 have hR3:=g3.get g2.ok hR2 (fun e=>κ35 _ e (κnew _ (by omega)))
 have l2:=g2.next
 have κR3:κ3 (h.next+1)=0:=by rw[hlow3 _ (by omega)];exact κnew _ (by omega)
 simp[ak]
 refine aP.call (V:=Ki name p ai n0 ai κ3 cap3 B3 rs3 h3) (by simpa [ak] using D6 g3.ok (name:=name) (p:=p) (rg:=ai) (by omega) O3 T3) ?_
 rintro _ h4 ⟨g4,rfl,rs4,κ4,hlow4,P4⟩
 have ln4:=g4.next
 have hR4:=g4.get g3.ok hR3 (fun e=>e κR3)
 have κR4:κ4 (h.next+1)=0:=by rw[hlow4 _ (by omega)];exact κR3
 simp[ak]
 refine aP.call (V:=Ct name p n0 ai κ4 rs4 h4) (by simpa [ak] using Fe g4.ok (name:=name) (p:=p) (by omega) P4.O P4.tf hp hreg) ?_
 rintro _ h5 ⟨g5,B5,rs5,κ5,cap5,many,rfl,hm,hlow5,O5,hl5,hs5,hlo5⟩
 have hR5:=g5.get g4.ok hR4 (fun e=>e κR4)
 simp[ak,hR5]
 have gw:=(ab.refl g5.ok).put (S:=(· =h.next+1)) (off:=0) (vs:=[Value.string name,Value.int .i64 p,Value.int .i64 many,Value.slice B5.a B5.l B5.c]) ⟨_,hR5⟩ (.inr rfl)
 generalize put h5 _ _ _ _ _=h6 at gw ⊢
 have κR5:κ5 (h.next+1)=0:=by rw[hlow5 _ (by omega)];exact κR4
 have G:ab (fun x=>κ0 x≠0) h h5:=by
  refine((gg2.aW.trans (g3.bM (fun x _ e=>κ35 x e))).trans' g4 (fun _ _ e=>e) (fun x hx e=> ?_)).trans' g5 (fun _ _ e=>e) (fun x hx e=> ?_)
  ·rw[hlow3 x (by omega)] at e;exact e
  ·rw[hlow4 x (by omega),hlow3 x (by omega)] at e;exact e
 refine⟨G.trans' gw (fun _ _ e=>e) (fun x hx e=>by omega),B5,rs5,κ5,cap5,many,by simp[ak],hm,fun x hx=>by rw[hlow5 x (by omega),hlow4 x (by omega),hlow3 x (by omega)],O5.grow g5.ok gw (fun b e=>by rw[e];exact κR5),hl5,hs5,fun words=> ?_⟩
 rw[hlo5 words,P4.vG words,hlo3 words]
section
variable {rs rs':List XR} {words:Int} {need:List Bool}
def nS (words:Int) (need:List Bool) (rs rs':List XR):Prop:=rs'.length=rs.length∧ ∀(i:Nat) (r r':XR),rs[i]? =some r→rs'[i]? =some r'→we words need r r'
theorem nS.ts (D:nS words need rs rs'):bD rs'=bD rs:=by
 refine List.ext_getElem? fun i=> ?_
 unfold bD
 rw[List.getElem?_map,List.getElem?_map]
 rcases Nat.lt_or_ge i rs.length with hi|hi
 ·obtain⟨r,hr⟩: ∃r,rs[i]? =some r:=⟨_,aQ hi⟩
  obtain⟨r',hr'⟩: ∃r,rs'[i]? =some r:=⟨_,aQ (by rw[D.1];exact hi)⟩
  rw[hr,hr']
  simp only[Option.map_some]
  rw[(D.2 i r r' hr hr').ts]
 ·rw[List.getElem?_eq_none hi,List.getElem?_eq_none (by rw[D.1];exact hi)]
theorem nS.back (D:nS words need rs rs') {i:Nat} {r':XR} (h:rs'[i]? =some r'): ∃r,rs[i]? =some r∧we words need r r':=by
 obtain⟨r,hr⟩: ∃r,rs[i]? =some r:=⟨_,aQ (by rw[←D.1];exact(bY.mp h).1)⟩
 exact⟨r,hr,D.2 i r r' hr h⟩
theorem nS.OG (D:nS words need rs rs') (f:XR→Nat) (hf: ∀r r',we words need r r'→f r'≤f r):(rs'.map f).sum≤(rs.map f).sum:=by
 rw[←tq f 0 rs',←tq f 0 rs,D.1]
 refine De fun i hi=> ?_
 have hil:i<rs.length:=by simpa using hi
 obtain⟨r,hr⟩: ∃r,rs[i]? =some r:=⟨_,aQ hil⟩
 obtain⟨r',hr'⟩: ∃r,rs'[i]? =some r:=⟨_,aQ (by rw[D.1];exact hil)⟩
 rw[hr,hr']
 exact hf r r' (D.2 i r r' hr hr')
theorem Fl (words:Int) (need:List Bool) (ls:List XI):jD words (nk (zo words need) ls)=jD words ls:=by
 unfold jD nk
 rw[List.filter_filter]
 congr 1
 refine List.filter_congr fun x _=> ?_
 unfold zo
 cases fO words x<;>simp
theorem nS.vG (D:nS words need rs rs'):fC words rs'=fC words rs:=by
 unfold fC
 congr 1
 refine List.ext_getElem? fun i=> ?_
 rw[List.getElem?_map,List.getElem?_map]
 rcases Nat.lt_or_ge i rs.length with hi|hi
 ·obtain⟨r,hr⟩: ∃r,rs[i]? =some r:=⟨_,aQ hi⟩
  obtain⟨r',hr'⟩: ∃r,rs'[i]? =some r:=⟨_,aQ (by rw[D.1];exact hi)⟩
  rw[hr,hr']
  simp only[Option.map_some]
  rw[(D.2 i r r' hr hr').ls,Fl]
 ·rw[List.getElem?_eq_none hi,List.getElem?_eq_none (by rw[D.1];exact hi)]
theorem nS.tf (D:nS words need rs rs') (T:TF rs):TF rs':=by
 have ht:=D.ts
 have mem: ∀r'∈rs',∃r∈rs,we words need r r':=by
  intro r' h
  obtain⟨i,hi⟩:=pM h
  obtain⟨r,hr,d⟩:=D.back hi
  exact⟨r,di hr,d⟩
 refine⟨by rw[D.1];exact T.n1,by rw[D.1];exact T.zE,fun r' h=> ?_,fun r' h t htm=> ?_,fun k r' h q hq=> ?_,?_,fun r' h x hx=> ?_,fun k r' h=> ?_⟩
 ·obtain⟨r,hr,d⟩:=mem r' h
  unfold LA
  rw[d.kind,d.ts]
  exact T.kind r hr
 ·obtain⟨r,hr,d⟩:=mem r' h
  rw[d.ts] at htm
  rw[D.1]
  exact T.to r hr t htm
 ·obtain⟨r,hr,d⟩:=D.back h
  rw[d.ps] at hq
  rw[ht,D.1]
  exact T.rows k r hr q (List.mem_filter.1 hq).1
 ·refine Nat.le_trans (D.OG ov fun r r' d=> ?_) T.sum
  simp only[ov]
  rw[d.ps,d.ls]
  exact Nat.add_le_add (List.length_filter_le _ _) (List.length_filter_le _ _)
 ·obtain⟨r,hr,d⟩:=mem r' h
  rw[d.ls] at hx
  exact T.al r hr x (List.mem_filter.1 hx).1
 ·obtain⟨r,hr,d⟩:=D.back h
  rw[ht]
  rcases T.seen k r hr with h1|⟨h1,h2,h3⟩
  ·exact .inl h1
  ·exact .inr ⟨by rw[d.kind];exact h1,by rw[d.ps,h2];rfl,by rw[d.ls,h3];rfl⟩
end
theorem TF.taken {rs:List XR} (T:TF rs) {h:ae} {n0 ai:Nat} {κ cap:Nat→Nat} {B:SV} (O:ou h n0 ai κ cap B rs) {bs:List GB} (V:Nq ai rs bs):xM ai bs:=by
 have zE:=T.zE
 have mem: ∀b∈bs,∃(i:Nat) (r:XR),rs[i]? =some r∧BV ai r b:=by
  intro b hb
  obtain⟨i,hi⟩:=pM hb
  obtain⟨r,hr⟩: ∃r,rs[i]? =some r:=⟨_,aQ (by rw[←V.1];exact(bY.mp hi).1)⟩
  exact⟨i,r,hr,V.2 i r b hr hi⟩
 refine⟨by rw[V.1];omega,fun b hb=> ?_,fun b hb=> ?_,fun b hb=> ?_⟩
 ·obtain⟨i,r,hr,v⟩:=mem b hb
  have s:=(T.size r (di hr)).1
  refine⟨by rw[v.pl];omega,fun q hq=> ?_⟩
  obtain⟨m,hm⟩:=pM hq
  obtain⟨p,hp⟩: ∃p,r.ps[m]? =some p:=⟨_,aQ (by rw[←v.pl];exact(bY.mp hm).1)⟩
  obtain⟨e1,e2,e3⟩:=v.ps m p q hp hm
  obtain⟨pk,hpk⟩: ∃pk,(Edge.bm (bD rs))[i]? =some pk:=⟨_,aQ (by rw[Edge.eA,dD];exact(bY.mp hr).1)⟩
  have h1:=T.BY i r pk hr hpk p (di hp)
  have h2:=qY T.tok (by rw[dD];exact zE) pk (di hpk)
  exact⟨by rw[e1];exact((O.os.r i r hr).ps p (di hp)).1,by omega,e3⟩
 ·obtain⟨i,r,hr,v⟩:=mem b hb
  have s:=(T.size r (di hr)).2
  refine⟨by rw[v.ll];omega,fun x hx=> ?_⟩
  obtain⟨m,hm⟩:=pM hx
  obtain⟨p,hp⟩: ∃p,r.ls[m]? =some p:=⟨_,aQ (by rw[←v.ll];exact(bY.mp hm).1)⟩
  obtain⟨e1,e2,e3⟩:=v.ls m p x hp hm
  obtain⟨f1,f2,f3,f4⟩:=(O.os.r i r hr).ls p (di hp)
  have f5:=T.al r (di hr) p (di hp)
  obtain⟨c1,c2,c3,c4,c5⟩:=e1
  refine⟨by rw[←c2];exact f1,by omega,fun w hw=> ?_⟩
  unfold c7 at hw
  simp only[List.mem_append] at hw
  rcases hw with hw|hw|hw
  ·split at hw
   ·simp at hw;rw[hw,←c3];exact f2
   ·exact absurd hw (List.not_mem_nil)
  ·split at hw
   ·simp at hw;rw[hw,←c4];exact f3
   ·exact absurd hw (List.not_mem_nil)
  ·exact e3 w hw
 ·obtain⟨i,r,hr,v⟩:=mem b hb
  rw[v.on]
  exact(O.os.r i r hr).on
def Gc (words:Int) (name:ByteArray) (p:Int) (n0 ai:Nat) (κ0:Nat→Nat) (rs:List XR) (h:ae) (v:Value) (h':ae):Prop:=
 ab (fun x=>κ0 x≠0) h h'∧ ∃(B':SV) (rs':List XR) (κ cap:Nat→Nat) (many:Nat),v= .agg ⟨ak name p many B'⟩∧many≤ai∧(∀x,x<h.next→κ x=κ0 x)∧ou h' n0 ai κ cap B' rs'∧(0<rs'.length∧rs'.length≤24)∧(∀r∈rs',r.ps.length≤300∧r.ls.length≤300)∧fC words rs'=fC words rs
theorem HZ {h:ae} (ok:bh h) {words:Int} (hw:0≤words∧words<1000000000) {name:ByteArray} {p n0 ai:Nat} {κ0 cap0:Nat→Nat} {B:SV} {rs:List XR} (hn0:n0≤h.next) (O:ou h n0 ai κ0 cap0 B rs) (T:TF rs) (hq: ∀r∈rs,∀x∈r.ls,fO words x=true→0≤x.dst) (hp:p≤ai) (hreg:ai<1000000):
  aE FF xd [.int .i64 words,.agg ⟨ak name p ai B⟩] h (Gc words name p n0 ai κ0 rs h):=by
 have κnew: ∀x,h.next≤x→κ0 x=0:=fun x hx=>by
  have hw:=O.os.new x
  rcases Nat.eq_zero_or_pos (κ0 x) with h1|h1
  ·exact h1
  ·have:=(hw (by omega)).2;omega
 have zE:=T.zE
 have hBl:=O.A.len
 refine aE.of DX ?_
 unfold xt
 have n1: ¬h.next=h.next+1:=by omega
 have n2: ¬h.next=h.next+1+1:=by omega
 have n3: ¬h.next+1=h.next:=by omega
 simp[ak,n1,n2,n3]
 refine aD.cut (fun h1=>ab aG h h1∧(∃s,h1.tr.get h.next=some (.aA [.int .i64 words] false 0 s))∧(∃s,h1.tr.get (h.next+1)=some (.aA (ak name p ai B) false 0 s))∧(∃s,h1.tr.get (h.next+1+1)=some (.aA [.string ⟨⟨[]⟩⟩,.int .i64 0,.int .i64 0,.slice none 0 0] false 0 s))) ?_ ?_
 ·exact⟨(((ab.refl ok).new _ _).new _ _).new _ _,⟨0,by simp[n1,n2]⟩,⟨0,by simp[ak,n3]⟩,⟨0,by simp⟩⟩
 rintro h1 ⟨g1,⟨sW,hW1⟩,⟨sF,hF1⟩,⟨sR,hR1⟩⟩
 obtain⟨bs,hbs,hV⟩:=(O.aW ok g1).view
 refine aD.call (V:=GV ai h1) (by simpa [ak] using DN g1.ok (p:=p) hw (name:=name) hbs (T.taken O hV) hreg) ?_
 rintro _ h2 ⟨g2,d,rfl,hdn,need,⟨sd,hd2⟩,hnl⟩
 have gg2:=g1.trans g2
 have hW2:=g2.get g1.ok hW1 (fun h=>h)
 have hF2:=g2.get g1.ok hF1 (fun h=>h)
 have hR2:=g2.get g1.ok hR1 (fun h=>h)
 have lR:=g1.ok.wf _ _ hR1
 have l2:=g2.next
 have ld:=g2.ok.wf _ _ hd2
 have nF2: ¬h.next+1=h2.next:=by omega
 have hF2':=hF2
 simp[ak] at hF2'
 simp[hF2',nF2]
 refine az.cut (fun h3=>ab aG h2 h3∧ ∃s,h3.tr.get h2.next=some (.aA [.slice (some ⟨d,0,none⟩) ai ai] false 0 s)) ?_ ?_
 ·exact⟨(ab.refl g2.ok).var _ _,h2.clock,by simp[aK]⟩
 rintro h3 ⟨g3,sN,hN3⟩
 have gg3:=gg2.trans g3
 have O3:=O.aW ok gg3
 have hW3:=g3.get g2.ok hW2 (fun h=>h)
 have hF3:=g3.get g2.ok hF2 (fun h=>h)
 have hR3:=g3.get g2.ok hR2 (fun h=>h)
 have hd3:=g3.get g2.ok hd2 (fun h=>h)
 have l3:=g3.next
 have k3:uk h3 h.next h2.next d ai words need:=⟨⟨sW,hW3⟩,⟨sN,hN3⟩,⟨sd,hd3⟩,hnl⟩
 refine zX g3.ok (R:=h.next+1+1) O3 hw ⟨by omega,fun r hr=>by have:=(T.size r hr).1;omega,fun r hr=>by have:=(T.size r hr).2;omega,hq⟩ k3 ⟨κnew _ (by omega),κnew _ (by omega),κnew _ (by omega),κnew _ (by omega)⟩ (F:=h.next+1) hF3 (by simp) (by simp) (by simp) (by simp) (by simp) (by simp[hBl]) (by simp) ?_
 intro e4 h4 rs4 q3 q4 g4 O4 hl4 H4
 have D:nS words need rs rs4:=⟨hl4,H4⟩
 have T4:=D.tf T
 have hF4:=g4.get g3.ok hF3 (fun e=>e (κnew _ (by omega)))
 have hR4:=g4.get g3.ok hR3 (fun e=>e (κnew _ (by omega)))
 have hF4':=hF4
 simp[ak] at hF4'
 simp[q3,hF4']
 have G4:=gg3.aW.trans g4
 refine aD.call (V:=Ct name p n0 ai κ0 rs4 h4) (by simpa [ak] using Hn g4.ok (name:=name) (p:=p) (by have:=G4.next;omega) O4 T4 hp hreg) ?_
 rintro _ h5 ⟨g5,B5,rs5,κ5,cap5,many,rfl,hm,hlow5,O5,hl5,hs5,hlo5⟩
 have hR5:=g5.get g4.ok hR4 (fun e=>e (κnew _ (by omega)))
 simp[ak,q4,hR5]
 have gw:=(ab.refl g5.ok).put (S:=(· =h.next+1+1)) (off:=0) (vs:=[Value.string name,Value.int .i64 p,Value.int .i64 many,Value.slice B5.a B5.l B5.c]) ⟨_,hR5⟩ (.inr rfl)
 generalize put h5 _ _ _ _ _=h6 at gw ⊢
 have l4:=g4.next
 have κR5:κ5 (h.next+1+1)=0:=by rw[hlow5 _ (by omega)];exact κnew _ (by omega)
 have G5:ab (fun x=>κ0 x≠0) h h5:=G4.trans g5
 exact⟨G5.trans' gw (fun _ _ e=>e) (fun x hx e=>by omega),B5,rs5,κ5,cap5,many,by simp[ak],hm,fun x hx=>hlow5 x (by have:=G4.next;omega),O5.grow g5.ok gw (fun b e=>by rw[e];exact κR5),hl5,hs5,by rw[hlo5 words,D.vG]⟩
def N4 (bs:List GB):Prop:=bs.length≤1000∧ ∀b∈bs,b.dY.length≤1000000∧b.list.length≤1000000
def LgI (h:ae) (B:SV) (bs:List GB) (F:Nat) (fc:List Value) (m:Nat) (e:Env) (h2:ae):Prop:=
 ∃j k:Nat,m=bs.length-j∧j≤bs.length∧Env.get e 1= .pointer (some ⟨F,0,none⟩)∧Env.get e 3= .int .i64 k∧k≤j*2000000∧Env.get e 7=B.v∧Env.get e 8= .int .i64 bs.length∧Env.get e 9= .int .i64 j∧ab aG h h2
theorem FD {h:ae} (ok:bh h) {name:ByteArray} {p r:Int} {B:SV} {bs:List GB} (hB:wB h B bs) (C:N4 bs):
  aE FF tS [.agg ⟨ak name p r B⟩] h (vu h):=by
 have hBl:=SliceR.len hB
 have hl:=C.1
 refine aE.of zF ?_
 unfold uh
 simp[ak,hBl]
 refine az.cut (fun h1=>ab aG h h1∧ ∃s,h1.tr.get h.next=some (.aA (ak name p r B) false 0 s)) ?_ ?_
 ·exact⟨(ab.refl ok).new _ _,0,by simp[ak,hBl]⟩
 rintro h1 ⟨g1,sF,hF1⟩
 refine az.loop (LgI h1 B bs h.next (ak name p r B)) ?_ (n:=bs.length) ⟨0,0,rfl,by omega,by simp,by simp,by omega,by simp[hBl],by simp,by simp,.refl g1.ok⟩
 rintro m e h2 ⟨j,k,rfl,hj,q1,q3,hk,q7,q8,q9,g2⟩
 have hF2:=g2.get g1.ok hF1 (fun h=>h)
 unfold qR
 by_cases hjl:j<bs.length
 ·have hb:bs[j]? =some bs[j]:=aQ hjl
  have hm:=List.getElem_mem hjl
  generalize bs[j]=b at hb hm
  obtain⟨c1,c2⟩:=C.2 b hm
  obtain⟨bB,off,cells,hBa,_,_,⟨P,L,T,rfl,sP,sL,sT⟩,oB,hrd⟩:=SliceR.later ok hB hb
  have rd:=hrd h2 (g1.trans g2) 0 6 (by decide)
  simp[-ag] at rd
  have hPl:=SliceR.len sP
  have hLl:=SliceR.len sL
  simp at q7
  rw[hBa,hBl] at q7
  have wj:=wrap_i64 ((j:Int)+1) (by omega) (by omega)
  have w1:=wrap_i64 ((b.dY.length:Int)+b.list.length) (by omega) (by omega)
  have w2:=wrap_i64 ((k:Int)+((b.dY.length:Int)+b.list.length)) (by omega) (by omega)
  have gv:ab aG h2 (put (aH h2 [.slice none 0 0,.slice none 0 0,.int .i64 0,.bool false,.int .i64 0,.slice none 0 0] 0) h2.next 0 [.slice none 0 0,.slice none 0 0,.int .i64 0,.bool false,.int .i64 0,.slice none 0 0] [P.v,L.v,.int .i64 b.kind,.bool b.on.1,.int .i64 b.on.2,T.v] 0):=(ab.refl g2.ok).var _ _
  simp at gv
  simp[q1,q3,q7,q8,q9,hjl,rd,hPl,hLl,wj,w1,w2,-ag,aq]
  rw[hPl,hLl] at gv
  refine⟨bs.length-(j+1),by omega,j+1,k+(b.dY.length+b.list.length),rfl,hjl,by simp[q1],by simp,by omega,by simp[q7,hBa,hBl],by simp[q8],by simp,g2.trans gv⟩
 ·have:j=bs.length:=by omega
  subst this
  have hF2':=hF2
  simp[ak] at hF2'
  by_cases a1:(40:Int)<(bs.length:Int)
  ·simp[q1,q3,q8,q9,hF2',hBl,a1]
   exact⟨g1.trans g2,_,rfl⟩
  ·by_cases a2:(300:Int)<(k:Int)
   ·simp[q1,q3,q8,q9,hF2',hBl,a1,a2]
    exact⟨g1.trans g2,_,rfl⟩
   ·simp[q1,q3,q8,q9,hF2',hBl,a1,a2]
    exact⟨g1.trans g2,_,rfl⟩
def gS (c:List Value) (g:GG):Prop:= ∃I:SV,c=[.string g.name,.int .i64 g.size,I.v]
theorem SliceR.imp {α:Type} {R R':List Value→α→Prop} {sz:Nat} {h:ae} {v:Value} {xs:List α} (s:SliceR R sz h v xs) (hR: ∀c x,R c x→R' c x):SliceR R' sz h v xs:=by
 obtain⟨a,cap,rfl,s⟩:=s
 refine⟨a,cap,rfl,?_⟩
 rcases s with s|⟨b,off,cs,ro,o,st,rfl,hb,he⟩
 ·exact .inl s
 ·exact .inr ⟨b,off,cs,ro,o,st,rfl,hb,fun i x hx=>⟨(he i x hx).1,hR _ _ (he i x hx).2⟩⟩
theorem Ml {h h':ae} {v:Value} {gs:List GG} (s:SliceR (gR h) 3 h' v gs):SliceR gS 3 h' v gs:=SliceR.imp s fun _ _ ⟨I,e,_⟩=>⟨I,e⟩
def dQ (gs:List GG):Int:=(gs.map (·.size)).sum
def JH (gs:List GG):Prop:=gs.length≤10∧ ∀g∈gs,1≤g.size∧g.size≤200
theorem xg {gs:List GG} {j:Nat} {g:GG} (h:gs[j]? =some g):dQ (gs.take (j+1))=dQ (gs.take j)+g.size:=by
 unfold dQ
 rw[List.take_add_one,h]
 simp
theorem v8 {gs:List GG} (hg: ∀g∈gs,1≤g.size∧g.size≤200):0≤dQ gs∧dQ gs≤200*gs.length:=by
 induction gs with
 |nil=>simp[dQ]
 |cons g gs ih=>
  have h1:=ih (fun x hx=>hg x (by simp[hx]))
  have h2:=hg g (by simp)
  unfold dQ at h1 ⊢
  simp only[List.map_cons,List.sum_cons,List.length_cons]
  omega
def P7 (h:ae) (G:SV) (gs:List GG) (m:Nat) (e:Env) (h2:ae):Prop:=
 ∃j:Nat,m=gs.length-j∧j≤gs.length∧Env.get e 3= .int .i64 (dQ (gs.take j))∧Env.get e 7=G.v∧Env.get e 8= .int .i64 gs.length∧Env.get e 9= .int .i64 j∧ab aG h h2
def BN (gs:List GG) (h:ae) (v:Value) (h':ae):Prop:=ab aG h h'∧v= .int .i64 (dQ gs)
theorem CP {h:ae} (ok:bh h) {G F:SV} {gs:List GG} (hG:SliceR gS 3 h G.v gs) (C:JH gs):
  aE FF uZ [.agg ⟨[G.v,F.v]⟩] h (BN gs h):=by
 have hGl:=SliceR.len hG
 obtain⟨hl,hs⟩:=C
 refine aE.of BR ?_
 unfold vk
 simp[hGl]
 refine az.cut (fun h1=>ab aG h h1) ((ab.refl ok).new _ _) ?_
 intro h1 g1
 refine az.loop (P7 h1 G gs) ?_ (n:=gs.length) ⟨0,rfl,by omega,by simp[dQ],by simp[hGl],by simp,by simp,.refl g1.ok⟩
 rintro m e h2 ⟨j,rfl,hj,q3,q7,q8,q9,g2⟩
 unfold r7
 by_cases hjl:j<gs.length
 ·have hg:gs[j]? =some gs[j]:=aQ hjl
  have hm:=List.getElem_mem hjl
  generalize gs[j]=g at hg hm
  obtain⟨c1,c2⟩:=hs g hm
  obtain⟨bG,off,cells,hGa,_,_,⟨I,rfl⟩,oG,hrd⟩:=SliceR.later ok hG hg
  have rd:=hrd h2 (g1.trans g2) 0 3 (by decide)
  simp[-ag] at rd
  simp at q7
  rw[hGa,hGl] at q7
  have hw:=v8 (gs:=gs.take j) (fun g hg=>hs g (List.mem_of_mem_take hg))
  have hwl:(gs.take j).length≤10:=by simp;omega
  have wj:=wrap_i64 ((j:Int)+1) (by omega) (by omega)
  have w1:=wrap_i64 (dQ (gs.take j)+g.size) (by omega) (by omega)
  have et:=xg hg
  have gv:ab aG h2 (put (aH h2 [.string ⟨⟨[]⟩⟩,.int .i64 0,.slice none 0 0] 0) h2.next 0 [.string ⟨⟨[]⟩⟩,.int .i64 0,.slice none 0 0] [.string g.name,.int .i64 g.size,.slice I.a I.l I.c] 0):=(ab.refl g2.ok).var _ _
  simp[q3,q7,q8,q9,hjl,rd,wj,w1,-ag,aq]
  refine⟨gs.length-(j+1),by omega,j+1,rfl,hjl,by simp[et],by simp[q7,hGa,hGl],by simp[q8],by simp,g2.trans gv⟩
 ·have:j=gs.length:=by omega
  subst this
  rw[List.take_length] at q3
  simp[q3,q8,q9]
  exact⟨g1.trans g2,rfl⟩
def PL (h:ae) (U:Nat) (uc:List Value) (gs:List GG) (m:Nat) (e:Env) (h2:ae):Prop:=
 ∃j:Nat,m=gs.length-j∧j≤gs.length∧Env.get e 1= .pointer (some ⟨U,0,none⟩)∧Env.get e 3= .int .i64 (dQ (gs.take j))∧Env.get e 4= .int .i64 j∧h2=h
theorem DL {h:ae} (ok:bh h) {G F:SV} {gs:List GG} (hG:SliceR gS 3 h G.v gs) (C:JH gs):
  aE FF mC [.agg ⟨[G.v,F.v]⟩] h (BN gs h):=by
 have hGl:=SliceR.len hG
 obtain⟨hl,hs⟩:=C
 refine aE.of tE ?_
 unfold mF
 simp[hGl]
 refine az.cut (fun h1=>ab aG h h1∧ ∃s,h1.tr.get h.next=some (.aA [.slice G.a gs.length G.c,.slice F.a F.l F.c] false 0 s)) ⟨(ab.refl ok).new _ _,0,by simp[hGl]⟩ ?_
 rintro h1 ⟨g1,sU,hU⟩
 refine az.loop (PL h1 h.next [] gs) ?_ (n:=gs.length) ⟨0,rfl,by omega,by simp,by simp[dQ],by simp,rfl⟩
 rintro m e h2 ⟨j,rfl,hj,q1,q3,q4,rfl⟩
 unfold kq
 by_cases hjl:j<gs.length
 ·have hg:gs[j]? =some gs[j]:=aQ hjl
  have hm:=List.getElem_mem hjl
  generalize gs[j]=g at hg hm
  obtain⟨c1,c2⟩:=hs g hm
  obtain⟨bG,off,cells,hGa,_,_,⟨I,rfl⟩,oG,hrd⟩:=SliceR.later ok hG hg
  have rd:=hrd h2 g1 1 1 (by decide)
  simp[-ag] at rd
  rw[hGa] at hU
  have hw:=v8 (gs:=gs.take j) (fun g hg=>hs g (List.mem_of_mem_take hg))
  have hwl:(gs.take j).length≤10:=by simp;omega
  have wj:=wrap_i64 ((j:Int)+1) (by omega) (by omega)
  have w1:=wrap_i64 (dQ (gs.take j)+g.size) (by omega) (by omega)
  have et:=xg hg
  simp[q1,q3,q4,hU,aw hU,hjl,rd,wj,w1,-ag]
  exact⟨gs.length-(j+1),by omega,j+1,rfl,hjl,by simp[q1],by simp[et],by simp,rfl⟩
 ·have:j=gs.length:=by omega
  subst this
  rw[List.take_length] at q3
  simp[q1,q3,q4,hU]
  exact⟨g1,rfl⟩
theorem Da (h:ae) (ok:bh h) (words op dst an bn fn:Int) (ar br:Bool) (aa:Option Addr) (al ac:Nat):
  aE FF my [.int .i64 words,.agg ⟨ay op dst ar an br bn fn (.slice aa al ac)⟩] h (fun v h'=>v= .bool (cY words op ar an br bn)∧ab aG h h'):=by
 refine aE.of tv ?_
 unfold mG
 have g:ab aG h (aH h (ay op dst ar an br bn fn (.slice aa al ac)) 0):=aI ok _ _
 simp only[ay] at g
 by_cases k5:op=5
 ·subst k5
  cases br with
  |true=>
   simp[ay,cY]
   exact g
  |false=>
   simp[ay,cY]
   exact⟨by rfl,g⟩
 by_cases k6:op=6
 ·subst k6
  cases br with
  |true=>
   simp[ay,cY]
   exact g
  |false=>
   simp[ay,cY]
   exact⟨by rfl,g⟩
 have e5:(op==5)=false:=by simpa using k5
 have e6:(op==6)=false:=by simpa using k6
 by_cases k18:op=18
 ·subst k18
  cases ar with
  |true=>
   simp[ay,cY]
   exact g
  |false=>
   by_cases c1:0≤an
   ·by_cases c2:an<words
    ·simp[ay,cY,c1,c2]
     exact⟨by omega,g⟩
    ·simp[ay,cY,c1,c2]
     exact⟨by omega,g⟩
   ·simp[ay,cY,c1]
    exact g
 have e18:(op==18)=false:=by simpa using k18
 by_cases c1:1≤op
 ·by_cases c2:op≤17
  ·simp[ay,cY,e5,e6,e18,k5,k6,k18,c1,c2]
   exact g
  ·simp[ay,cY,e5,e6,e18,k5,k6,k18,c1,c2]
   exact g
 ·simp[ay,cY,e5,e6,e18,k5,k6,k18,c1]
  exact g
def kE (words:Int) (x:GI):Bool:=cY words x.op x.a.1 x.a.2 x.b.1 x.b.2
def pf (words:Int) (xs:List GI):Nat:=(xs.filter fun x=> !kE words x).length
def iX (words:Int) (bs:List GB):Nat:=(bs.map fun b=>pf words b.list).sum
def pc (words:Int) (fs:List GF):Nat:=(fs.map fun f=>iX words f.blocks).sum
structure Le (fs:List GF):Prop where
 f:fs.length≤1000
 b: ∀f∈fs,f.blocks.length≤1000
 l: ∀f∈fs,∀b∈f.blocks,b.list.length≤1000000
theorem Fw {words:Int} {xs:List GI} {j:Nat} {x:GI} (h:xs[j]? =some x):pf words (xs.take (j+1))=pf words (xs.take j)+(if kE words x then 0 else 1):=by
 unfold pf
 rw[List.take_add_one,h,List.filter_append,List.length_append]
 cases hq:kE words x<;>simp[hq]
theorem I6 (words:Int) (xs:List GI) (j:Nat):pf words (xs.take j)≤xs.length:=Nat.le_trans (List.length_filter_le _ _) (by simp;omega)
theorem FT {words:Int} {bs:List GB} {j:Nat} {b:GB} (h:bs[j]? =some b):iX words (bs.take (j+1))=iX words (bs.take j)+pf words b.list:=by
 unfold iX
 rw[List.take_add_one,h]
 simp
theorem EH {words:Int} {fs:List GF} {j:Nat} {f:GF} (h:fs[j]? =some f):pc words (fs.take (j+1))=pc words (fs.take j)+iX words f.blocks:=by
 unfold pc
 rw[List.take_add_one,h]
 simp
theorem EL {α:Type} {f:α→Nat} {k:Nat} : ∀ {l:List α},(∀x∈l,f x≤k)→(l.map f).sum≤l.length*k
 |[],_=>Nat.zero_le _
 |x::l,h=>by
  have h1:=h x (by simp)
  have h2:=EL (l:=l) (fun y hy=>h y (by simp[hy]))
  simp only[List.map_cons,List.sum_cons,List.length_cons,Nat.add_mul]
  omega
theorem CA {words:Int} {bs:List GB} (h1:bs.length≤1000) (h2: ∀b∈bs,b.list.length≤1000000) (j:Nat):iX words (bs.take j)≤1000000000:=by
 have:=EL (f:=fun b:GB=>pf words b.list) (k:=1000000) (l:=bs.take j) (fun b hb=>Nat.le_trans (List.length_filter_le _ _) (h2 b (List.mem_of_mem_take hb)))
 have hl:(bs.take j).length≤1000:=by simp;omega
 have:=Nat.mul_le_mul_right 1000000 hl
 unfold iX
 omega
theorem Jz {words:Int} {fs:List GF} (C:Le fs) (j:Nat):pc words (fs.take j)≤1000000000000:=by
 have:=EL (f:=fun f:GF=>iX words f.blocks) (k:=1000000000) (l:=fs.take j) (fun f hf=>by
  have hm:=List.mem_of_mem_take hf
  have:=CA (words:=words) (C.b f hm) (C.l f hm) f.blocks.length
  rw[List.take_length] at this
  exact this)
 have hl:(fs.take j).length≤1000:=by have:=C.f;simp;omega
 have:=Nat.mul_le_mul_right 1000000000 hl
 unfold pc
 omega
def QV:List Nat:=[4,7,28,29,30,31,32,33,34,35,36,37,38,39,40,41,42,43,44,45,46,47,48,49,50,51,52,53,54,55,56,57,58,59,60]
def Qu (h1:ae) (words:Int) (n:Nat) (xs:List GI) (e:Env) (m:Nat) (e':Env) (h':ae):Prop:=
 ∃j:Nat,m=xs.length-j∧j≤xs.length∧aC QV e e'∧Env.get e' 4= .int .i64 ((n+pf words (xs.take j):Nat):Int)∧Env.get e' 7= .int .i64 j∧ab aG h1 h'
theorem Ib {h h1:ae} (ok:bh h) (g1:ab aG h h1) {G F:SV} {fs:List GF} (hF:SliceR (fR h) 4 h F.v fs) {U sU:Nat} (hU:h1.tr.get U=some (.aA [G.v,F.v] false 0 sU)) {k m n:Nat} {f:GF} {b:GB} (hk:fs[k]? =some f) (hm:f.blocks[m]? =some b) (hl:b.list.length≤1000000) (hn:n≤2000000000000) {words:Int}
  {e:Env} {Q:aO→Env→ae→Prop} (f1:Env.get e 1= .pointer (some ⟨U,0,none⟩)) (f3:Env.get e 3= .int .i64 words) (f4:Env.get e 4= .int .i64 n) (f5:Env.get e 5= .int .i64 k) (f6:Env.get e 6= .int .i64 m) (f7:Env.get e 7= .int .i64 0)
  (C: ∀e' h',aC QV e e'→Env.get e' 4= .int .i64 ((n+pf words b.list:Nat):Int)→ab aG h1 h'→Q (.exit 4) e' h'):az FF (.loop gT) e h1 Q:=by
 have hFl:=SliceR.len hF
 refine az.loop (Qu h1 words n b.list e) ?_ (n:=b.list.length) ⟨0,rfl,by omega,aC.refl _ _,by simpa [pf] using f4,f7,.refl g1.ok⟩
 rintro i e' h' ⟨j,rfl,hj,K,q4,q7,g⟩
 have q1:=K.at (by decide) f1
 have q3:=K.at (by decide) f3
 have q5:=K.at (by decide) f5
 have q6:=K.at (by decide) f6
 have ok':=g.ok
 have gg:=g1.trans g
 obtain⟨bF,offF,cF,hFa,hkl,_,⟨B,rfl,sB⟩,oF,hrdF⟩:=SliceR.later ok hF hk
 obtain⟨bB,offB,cB,hBa,hml,_,⟨P,L,T,rfl,sP,sL,sT⟩,oB,hrdB⟩:=SliceR.later ok sB hm
 have hBl:=SliceR.len sB
 have hLl:=SliceR.len sL
 have rF:=hrdF h' gg 3 1 (by decide)
 have rB:=hrdB h' gg 1 1 (by decide)
 have hU':=g.get g1.ok hU (fun h=>h)
 simp at hU'
 rw[hFa,hFl] at hU'
 simp[-ag] at rF rB
 rw[hBa,hBl] at rF
 rw[hLl] at rB
 unfold gT
 by_cases hjl:j<b.list.length
 ·have wj:=wrap_i64 ((j:Int)+1) (by omega) (by omega)
  obtain⟨x,hx⟩: ∃x,b.list[j]? =some x:=⟨_,aQ hjl⟩
  obtain⟨bL,offL,cL,hLa,_,_,⟨A,rfl,sA⟩,oL,hrdL⟩:=SliceR.later ok sL hx
  have rL:=hrdL h' gg 0 8 (by decide)
  simp[-ag,ay] at rL
  rw[hLa] at rB
  have hle:=I6 words b.list j
  have htk:=Fw (words:=words) hx
  simp[q1,q3,q5,q6,q7,hU',aw hU',hkl,rF,hml,rB,hjl,rL,-ag]
  refine aD.call (V:=fun v h2=>v= .bool (kE words x)∧ab aG h' h2) (by simpa [ay,kE] using Da h' ok' words x.op x.dst x.a.2 x.b.2 x.fn x.a.1 x.b.1 A.a A.l A.c) ?_
  rintro _ h2 ⟨rfl,g2⟩
  have hU2:=g2.get ok' hU' (fun h=>h)
  cases hq:kE words x with
  |true=>
   rw[hq] at htk
   simp at htk
   simp[q7,wj]
   refine⟨b.list.length-(j+1),by omega,j+1,rfl,hjl,?_,by simp[q4,htk],by simp,g.trans g2⟩
   repeat (refine aC.set (by decide) ?_)
   exact K
  |false=>
   rw[hq] at htk
   simp at htk
   have w4:=wrap_i64 (((n+pf words (b.list.take j):Nat):Int)+1) (by omega) (by omega)
   simp only[Int.natCast_add] at w4 q4
   simp[q4,q7,wj,w4]
   refine⟨b.list.length-(j+1),by omega,j+1,rfl,hjl,?_,?_,by simp,g.trans g2⟩
   ·repeat (refine aC.set (by decide) ?_)
    exact K
   ·simp
    rw[htk]
    simp only[Int.natCast_add]
    omega
 ·have:j=b.list.length:=by omega
  subst this
  rw[List.take_length] at q4
  simp[q1,q5,q6,q7,hU',aw hU',hkl,rF,hml,rB,-ag]
  refine C _ _ ?_ (by simpa using q4) g
  repeat (refine aC.set (by decide) ?_)
  exact K
def QJ (h1:ae) (U:Nat) (words:Int) (k n:Nat) (bs:List GB) (m:Nat) (e':Env) (h':ae):Prop:=
 ∃j:Nat,m=bs.length-j∧j≤bs.length∧Env.get e' 1= .pointer (some ⟨U,0,none⟩)∧Env.get e' 3= .int .i64 words∧Env.get e' 4= .int .i64 ((n+iX words (bs.take j):Nat):Int)∧Env.get e' 5= .int .i64 k∧Env.get e' 6= .int .i64 j∧ab aG h1 h'
theorem D2 {h h1:ae} (ok:bh h) (g1:ab aG h h1) {G F:SV} {fs:List GF} (hF:SliceR (fR h) 4 h F.v fs) {U sU:Nat} (hU:h1.tr.get U=some (.aA [G.v,F.v] false 0 sU)) {k n:Nat} {f:GF} (hk:fs[k]? =some f) (hb:f.blocks.length≤1000) (hl: ∀b∈f.blocks,b.list.length≤1000000) (hn:n≤1000000000000) {words:Int}
  {e:Env} {Q:aO→Env→ae→Prop} (f1:Env.get e 1= .pointer (some ⟨U,0,none⟩)) (f3:Env.get e 3= .int .i64 words) (f4:Env.get e 4= .int .i64 n) (f5:Env.get e 5= .int .i64 k) (f6:Env.get e 6= .int .i64 0)
  (C: ∀e' h',Env.get e' 1= .pointer (some ⟨U,0,none⟩)→Env.get e' 3= .int .i64 words→Env.get e' 4= .int .i64 ((n+iX words f.blocks:Nat):Int)→Env.get e' 5= .int .i64 k→ab aG h1 h'→Q (.exit 2) e' h'):az FF (.loop ik) e h1 Q:=by
 have hFl:=SliceR.len hF
 refine az.loop (QJ h1 U words k n f.blocks) ?_ (n:=f.blocks.length) ⟨0,rfl,by omega,f1,f3,by simpa [iX] using f4,f5,f6,.refl g1.ok⟩
 rintro i e' h' ⟨j,rfl,hj,q1,q3,q4,q5,q6,g⟩
 have ok':=g.ok
 have gg:=g1.trans g
 obtain⟨bF,offF,cF,hFa,hkl,_,⟨B,rfl,sB⟩,oF,hrdF⟩:=SliceR.later ok hF hk
 have hBl:=SliceR.len sB
 have rF:=hrdF h' gg 3 1 (by decide)
 have hU0:=g.get g1.ok hU (fun h=>h)
 have hU':=hU0
 simp at hU'
 rw[hFa,hFl] at hU'
 simp[-ag] at rF
 rw[hBl] at rF
 unfold ik
 by_cases hjl:j<f.blocks.length
 ·have wj:=wrap_i64 ((j:Int)+1) (by omega) (by omega)
  obtain⟨b,hbj⟩: ∃b,f.blocks[j]? =some b:=⟨_,aQ hjl⟩
  have hle:=CA (words:=words) hb hl j
  have htk:=FT (words:=words) hbj
  simp[q1,q5,q6,hU',aw hU',hkl,rF,hjl,-ag]
  refine Ib ok gg hF hU0 hk hbj (hl b (di hbj)) (n:=n+iX words (f.blocks.take j)) (words:=words) (by omega) (by simp[q1]) (by simp[q3]) (by simp[q4]) (by simp[q5]) (by simp[q6]) (by simp) ?_
  intro e3 h3 K3 k4 g3
  have k6:=K3.at (t:=6) (by decide) (by simp;exact q6)
  simp[k6,wj]
  refine⟨f.blocks.length-(j+1),by omega,j+1,rfl,hjl,by simpa using K3.at (t:=1) (by decide) (by simp;exact q1),by simpa using K3.at (t:=3) (by decide) (by simp;exact q3),?_,by simpa using K3.at (t:=5) (by decide) (by simp;exact q5),by simp,g.trans g3⟩
  rw[htk]
  simp[k4]
  omega
 ·have:j=f.blocks.length:=by omega
  subst this
  rw[List.take_length] at q4
  simp[q1,q5,q6,hU',aw hU',hkl,rF,-ag]
  exact C _ _ (by simp[q1]) (by simp[q3]) (by simpa using q4) (by simp[q5]) g
def PH (h1:ae) (U:Nat) (words:Int) (fs:List GF) (m:Nat) (e':Env) (h':ae):Prop:=
 ∃j:Nat,m=fs.length-j∧j≤fs.length∧Env.get e' 1= .pointer (some ⟨U,0,none⟩)∧Env.get e' 3= .int .i64 words∧Env.get e' 4= .int .i64 ((pc words (fs.take j):Nat):Int)∧Env.get e' 5= .int .i64 j∧ab aG h1 h'
theorem As {h:ae} (ok:bh h) {G F:SV} {gs:List GG} {fs:List GF} (hG:SliceR gS 3 h G.v gs) (hF:SliceR (fR h) 4 h F.v fs) (Cg:JH gs) (Cf:Le fs):
  aE FF nM [.agg ⟨[G.v,F.v]⟩] h (fun v h'=>ab aG h h'∧v= .int .i64 ((pc (dQ gs) fs:Nat):Int)):=by
 have hFl:=SliceR.len hF
 have hGl:=SliceR.len hG
 have hfl:=Cf.f
 refine aE.of um ?_
 unfold mX
 simp
 refine aD.cut (fun h1=>ab aG h h1∧ ∃s,h1.tr.get h.next=some (.aA [G.v,F.v] false 0 s)) ⟨(ab.refl ok).new _ _,0,by simp⟩ ?_
 rintro h1 ⟨g1,sU,hU⟩
 refine aD.call (V:=BN gs h1) (by simpa using DL (F:=F) g1.ok (hG.mono ok g1 fun _ _ h=>h) Cg) ?_
 rintro _ h2 ⟨g2,rfl⟩
 have gg2:=g1.trans g2
 have hU2:=g2.get g1.ok hU (fun h=>h)
 simp
 refine az.loop (PH h2 h.next (dQ gs) fs) ?_ (n:=fs.length) ⟨0,rfl,by omega,by simp,by simp,by simp[pc],by simp,.refl g2.ok⟩
 rintro i e' h' ⟨j,rfl,hj,q1,q3,q4,q5,g⟩
 have ok':=g.ok
 have hU0:=g.get g2.ok hU2 (fun h=>h)
 have hU':=hU0
 simp at hU'
 rw[hFl] at hU'
 unfold lu
 by_cases hjl:j<fs.length
 ·have wj:=wrap_i64 ((j:Int)+1) (by omega) (by omega)
  obtain⟨f,hfj⟩: ∃f,fs[j]? =some f:=⟨_,aQ hjl⟩
  have hm:=di hfj
  have htk:=EH (words:=dQ gs) hfj
  have hle:=Jz (words:=dQ gs) Cf j
  simp[q1,q5,hU',hjl]
  refine D2 ok (gg2.trans g) hF hU0 hfj (Cf.b f hm) (Cf.l f hm) (n:=pc (dQ gs) (fs.take j)) (words:=dQ gs) hle (by simp[q1]) (by simp[q3]) (by simp[q4]) (by simp[q5]) (by simp) ?_
  intro e3 h3 k1 k3 k4 k5 g3
  simp[k5,wj]
  refine⟨fs.length-(j+1),by omega,j+1,rfl,hjl,by simp[k1],by simp[k3],?_,by simp,g.trans g3⟩
  rw[htk]
  simp[k4]
 ·have:j=fs.length:=by omega
  subst this
  rw[List.take_length] at q4
  simp[q1,q4,q5,hU']
  exact gg2.trans g
section
variable {f:GF} {rs:List XR}
theorem Ju.at {bs:List GB} (R:Ju rs bs) {i:Nat} {r:XR} (h:rs[i]? =some r): ∃b,bs[i]? =some b∧RD r b:=by
 obtain⟨b,hb⟩: ∃b,bs[i]? =some b:=⟨_,aQ (by rw[←R.1];exact(bY.mp h).1)⟩
 exact⟨b,hb,R.2 i r b h hb⟩
theorem Ju.mem {bs:List GB} (R:Ju rs bs) {r:XR} (h:r∈rs): ∃b∈bs,RD r b:=by
 obtain⟨i,hi⟩:=pM h
 obtain⟨b,hb,rd⟩:=R.at hi
 exact⟨b,di hb,rd⟩
theorem Ju.ts {bs:List GB} (R:Ju rs bs):bD rs=aX bs:=by
 refine List.ext_getElem? fun i=> ?_
 unfold bD aX
 rw[List.getElem?_map,List.getElem?_map]
 rcases Nat.lt_or_ge i rs.length with hi|hi
 ·obtain⟨r,hr⟩: ∃r,rs[i]? =some r:=⟨_,aQ hi⟩
  obtain⟨b,hb,rd⟩:=R.at hr
  rw[hr,hb]
  simp only[Option.map_some]
  rw[rd.to]
 ·rw[List.getElem?_eq_none hi,List.getElem?_eq_none (by rw[←R.1];exact hi)];rfl
theorem Ju.map {bs:List GB} (R:Ju rs bs) (p:XR→Nat) (q:GB→Nat) (h: ∀r b,RD r b→p r=q b):rs.map p=bs.map q:=by
 refine List.ext_getElem? fun i=> ?_
 rw[List.getElem?_map,List.getElem?_map]
 rcases Nat.lt_or_ge i rs.length with hi|hi
 ·obtain⟨r,hr⟩: ∃r,rs[i]? =some r:=⟨_,aQ hi⟩
  obtain⟨b,hb,rd⟩:=R.at hr
  rw[hr,hb]
  simp only[Option.map_some]
  rw[h r b rd]
 ·rw[List.getElem?_eq_none hi,List.getElem?_eq_none (by rw[←R.1];exact hi)];rfl
theorem G0 {ai:Int} {x:GI} (h:tP ai x) {words:Int} (hq:kE words x=true):0≤x.dst:=by
 have hop:1≤x.op∧x.op≤18:=by
  unfold kE cY at hq
  by_cases c1:x.op=5∨x.op=6
  ·omega
  ·rw[if_neg c1] at hq
   by_cases c2:x.op=18
   ·omega
   ·rw[if_neg c2] at hq
    simp at hq
    omega
 have hs:(bS x.op).1=true:=by
  unfold bS
  split
  ·rfl
  ·rw[if_pos (by omega)]
 have:=h.dst hs (by omega)
 unfold qJ at this
 omega
theorem AD: ∀(bs:List GB),eQ bs=(bs.map fun b=>b.dY.length+b.list.length).sum
 |[]=>rfl
 |b::bs=>by
  simp only[eQ,List.map_cons,List.sum_cons]
  rw[AD bs]
theorem Ih {bs:List GB} (R:Ju rs bs) (words:Int):fC words rs=iX words bs:=by
 unfold fC iX
 rw[R.map (fun r=>jD words r.ls) (fun b=>pf words b.list) (fun r b rd=> ?_)]
 rw[sD]
 unfold pf
 have:r.ls.map (fO words)=b.list.map (kE words):=by
  refine List.ext_getElem? fun i=> ?_
  rw[List.getElem?_map,List.getElem?_map]
  rcases Nat.lt_or_ge i r.ls.length with hi|hi
  ·obtain⟨q,hq⟩: ∃q,r.ls[i]? =some q:=⟨_,aQ hi⟩
   obtain⟨p,hp⟩: ∃p,b.list[i]? =some p:=⟨_,aQ (by rw[←rd.ll];exact hi)⟩
   obtain⟨⟨c1,c2,c3,c4,c5⟩,_⟩:=rd.ls i q p hq hp
   rw[hq,hp]
   simp only[Option.map_some]
   unfold fO kE
   rw[c1,c3,c4]
  ·rw[List.getElem?_eq_none hi,List.getElem?_eq_none (by rw[←rd.ll];exact hi)];rfl
 rw[this,List.filter_map,List.length_map]
 rfl
theorem KT (F:ml f) (L:yk f) (S:oJ f.blocks) (R:Ju rs f.blocks):TF rs:=by
 have hb:=F.head.blocks
 have hl:rs.length=f.blocks.length:=R.1
 have hE:=F.body.ends
 have tin: ∀b∈f.blocks,∀t∈b.to,1≤t∧t<(f.blocks.length:Int):=fun b hb t ht=>by
  have:=(hE b hb).to t ht
  unfold LM at this
  omega
 have hts:=R.ts
 have htl:(bD rs).length=rs.length:=dD rs
 have hnat: ∀ts∈bD rs,∀t∈ts,t.toNat<(bD rs).length:=by
  intro ts h t ht
  obtain⟨r,hr,rfl⟩:=List.mem_map.1 h
  obtain⟨b,hbm,rd⟩:=R.mem hr
  rw[rd.to] at ht
  have:=tin b hbm t ht
  omega
 refine⟨by omega,by have:=L.1;omega,fun r hr=> ?_,fun r hr t ht=> ?_,fun k r hr q hq=> ?_,?_,fun r hr x hx=> ?_,fun k r hr=> .inl ?_⟩
 ·obtain⟨b,hbm,rd⟩:=R.mem hr
  unfold LA
  rw[rd.kind,rd.to]
  rcases(hE b hbm).kind with h|h|⟨h,t,u,e,_⟩
  ·exact .inl h
  ·exact .inr (.inl h)
  ·exact .inr (.inr ⟨h,t,u,e⟩)
 ·obtain⟨b,hbm,rd⟩:=R.mem hr
  rw[rd.to] at ht
  rw[hl]
  exact tin b hbm t ht
 ·obtain⟨b,hb2,rd⟩:=R.at hr
  obtain⟨m,hm⟩:=pM hq
  obtain⟨p,hp⟩: ∃p,b.dY[m]? =some p:=⟨_,aQ (by rw[←rd.pl];exact(bY.mp hm).1)⟩
  obtain⟨_,e2⟩:=rd.ps m q p hm hp
  obtain⟨_,l,hl2,ph⟩:=(F.body.Bm k b hb2).dY p (di hp)
  rw[←hts] at hl2
  rw[e2,ph.len,Edge.sG hnat hl2,htl]
 ·rw[R.map ov (fun b=>b.dY.length+b.list.length) (fun r b rd=>by simp only[ov];rw[rd.pl,rd.ll]),←AD]
  exact F.head.many
 ·obtain⟨b,hbm,rd⟩:=R.mem hr
  obtain⟨m,hm⟩:=pM hx
  obtain⟨p,hp⟩: ∃p,b.list[m]? =some p:=⟨_,aQ (by rw[←rd.ll];exact(bY.mp hm).1)⟩
  rw[(rd.ls m x p hm hp).2]
  obtain⟨j,hj⟩:=pM hbm
  have:=(te ((F.body.Bm j b hj).list p (di hp))).2
  omega
 ·have hkl:=(bY.mp hr).1
  have e1:mh f.blocks=Edge.qm (bD rs):=by rw[hts];simp[mh,aX,Edge.qm]
  rw[←Edge.Dv (by omega) hnat k]
  have hS:f.blocks.length≤(Dfs.jM (Edge.qm (bD rs)) (bD rs).length).length:=by
   unfold oJ mA at S
   rw[e1,List.length_map] at S
   rw[htl,hl]
   exact S
  obtain⟨nd,lt,_⟩:=Dfs.sy (cT:=Edge.qm (bD rs)) (n:=(bD rs).length) (by omega) (fun b t ht=>by
   obtain⟨ts,u,h1,h2,rfl⟩:=Edge.vt ht
   exact hnat ts (di h1) u h2)
  by_cases hk:k∈Dfs.jM (Edge.qm (bD rs)) (bD rs).length
  ·exact hk
  ·have h1:(k::Dfs.jM (Edge.qm (bD rs)) (bD rs).length).Nodup:=List.nodup_cons.2 ⟨hk,nd⟩
   have h2:=List.Nodup.length_le_of_subset h1 (l₂:=List.range (bD rs).length) (fun x hx=>by
    rcases List.mem_cons.1 hx with rfl|hx
    ·exact List.mem_range.2 (by rw[htl];exact hkl)
    ·exact List.mem_range.2 (lt x hx))
   simp only[List.length_cons,List.length_range] at h2
   rw[htl] at h2 hS
   omega
theorem OB (F:ml f) {i:Nat} {l:List Int} (h:(Edge.bm (aX f.blocks))[i]? =some l):l.length≤80:=by
 have h1:=Edge.lL (n:=(aX f.blocks).length) (cT:=aX f.blocks) (fun ts hts=>by
  obtain⟨b,hb,rfl⟩:=List.mem_map.1 hts
  rcases(F.body.ends b hb).kind with⟨_,e⟩|⟨_,t,e⟩|⟨_,t,u,e,_⟩<;>rw[e]<;>simp) i (aX f.blocks).length
 have h2:((Edge.upto (aX f.blocks).length (aX f.blocks) (aX f.blocks).length)[i]?).getD []=l:=by
  show((Edge.bm (aX f.blocks))[i]?).getD []=l
  rw[h];rfl
 rw[h2] at h1
 have h3:(aX f.blocks).length=f.blocks.length:=by simp[aX]
 have:=F.head.blocks
 omega
theorem Jg (F:ml f): ∀b∈f.blocks,Pf f.ai.toNat b:=by
 intro b hb
 obtain⟨i,hi⟩:=pM hb
 have B:=F.body.Bm i b hi
 have s:=F.sm b hb
 have hr:=F.head.ai
 have hp:=F.head.params
 have E:=F.body.ends b hb
 refine⟨by have:=s.ph;have:=kF hb;have:=F.head.many;omega,by have:=kF hb;have:=F.head.many;omega,?_,fun p hp2=> ?_,fun x hx=> ?_,fun h=> ?_⟩
 ·rcases E.kind with⟨_,h⟩|⟨_,t,h⟩|⟨_,t,u,h,_⟩<;>rw[h]<;>simp
 ·obtain⟨_,l,hl,ph⟩:=B.dY p hp2
  have:=ph.dst
  unfold qJ at this
  have:=ph.len
  have:=OB F hl
  exact⟨by omega,by omega,fun v hv=>wD (ph.row v hv)⟩
 ·have I:=B.list x hx
  have:=(te I).2
  refine⟨?_,wD I.a,wD I.b,by omega,fun v hv=>wD (Dq I v hv)⟩
  rcases Gg I with h|h
  ·omega
  ·unfold qJ at h;omega
 ·have:=E.on h
  omega
end
end Go.Proofs.YtdkdbjecehcekaaGreatDoor
