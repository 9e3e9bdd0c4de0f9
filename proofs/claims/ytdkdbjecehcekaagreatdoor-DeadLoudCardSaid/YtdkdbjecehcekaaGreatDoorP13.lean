/- Parts of the proof. -/
import Derived.Test.YtdkdbjecehcekaaGreatDoorP12
set_option linter.all false
set_option linter.unusedSimpArgs false
set_option linter.unusedVariables false
set_option linter.unnecessarySimpa false
namespace Go.Proofs.YtdkdbjecehcekaaGreatDoor
open Go.AI
structure we (words:Int) (need:List Bool) (r r':XR):Prop where
 kind:r'.kind=r.kind
 on:r'.on=r.on
 ts:r'.ts=r.ts
 ps:r'.ps=nk (Fz need) r.ps
 ls:r'.ls=nk (zo words need) r.ls
structure N3 (words:Int) (rs:List XR):Prop where
 len:rs.length<1000000
 pl: ∀r∈rs,r.ps.length<1000000
 ll: ∀r∈rs,r.ls.length<1000000
 q: ∀r∈rs,∀x∈r.ls,fO words x=true→0≤x.dst
def DlI (h:ae) (n0 ai:Nat) (κ cap:Nat→Nat) (B:SV) (rs:List XR) (words:Int) (need:List Bool) (W N nb F R:Nat) (fc:List Value) (m:Nat) (e:Env) (h':ae):Prop:=
 ∃(j:Nat) (rs':List XR),m=rs.length-j∧j≤rs.length∧Env.get e 2= .pointer (some ⟨W,0,none⟩)∧Env.get e 3= .pointer (some ⟨F,0,none⟩)∧Env.get e 4= .pointer (some ⟨R,0,none⟩)∧Env.get e 5= .pointer (some ⟨N,0,none⟩)∧Env.get e 12=B.v∧Env.get e 13= .int .i64 rs.length∧Env.get e 14= .int .i64 j∧
  ab (fun b=>κ b≠0) h h'∧ou h' n0 ai κ cap B rs'∧rs'.length=rs.length∧ ∀(i:Nat) (r r':XR),rs[i]? =some r→rs'[i]? =some r'→(i<j→we words need r r')∧(j≤i→r'=r)
theorem zX {h:ae} (okh:bh h) {n0 ai:Nat} {κ cap:Nat→Nat} {B:SV} {rs:List XR} (O:ou h n0 ai κ cap B rs) {words:Int} (hw:0≤words∧words<1000000000) (I:N3 words rs) {need:List Bool} {W N nb F R:Nat} (k:uk h W N nb ai words need) (hκ:κ W=0∧κ N=0∧κ nb=0∧κ F=0)
  {name:ByteArray} {p r:Int} {sF:Nat} (hF:h.tr.get F=some (.aA (ak name p r B) false 0 sF)) {e:Env} {Q:aO→Env→ae→Prop} (f2:Env.get e 2= .pointer (some ⟨W,0,none⟩)) (f3:Env.get e 3= .pointer (some ⟨F,0,none⟩)) (f4:Env.get e 4= .pointer (some ⟨R,0,none⟩)) (f5:Env.get e 5= .pointer (some ⟨N,0,none⟩)) (f12:Env.get e 12=B.v) (f13:Env.get e 13= .int .i64 rs.length) (f14:Env.get e 14= .int .i64 0)
  (C: ∀e' h' rs',Env.get e' 3= .pointer (some ⟨F,0,none⟩)→Env.get e' 4= .pointer (some ⟨R,0,none⟩)→ab (fun b=>κ b≠0) h h'→ou h' n0 ai κ cap B rs'→rs'.length=rs.length→(∀(i:Nat) (r r':XR),rs[i]? =some r→rs'[i]? =some r'→we words need r r')→Q (.exit 0) e' h'):
  az FF (.loop pJ) e h Q:=by
 have hBl:=O.A.len
 have hlen:=I.len
 obtain⟨κW,κN,κnb,κF⟩:=hκ
 refine az.loop (DlI h n0 ai κ cap B rs words need W N nb F R (ak name p r B)) ?_ (n:=rs.length)
  ⟨0,rs,rfl,by omega,f2,f3,f4,f5,f12,f13,f14,.refl okh,O,rfl,fun i r r' h1 h2=>⟨fun h=>by omega,fun _=>by rw[h1] at h2;cases h2;rfl⟩⟩
 rintro m e' h' ⟨j,rs',rfl,hj,q2,q3,q4,q5,q12,q13,q14,g,O',hl',H⟩
 have ok':=g.ok
 have k':=k.grow okh g (fun h=>h κW) (fun h=>h κN) (fun h=>h κnb)
 have hF':=g.get okh hF (fun h=>h κF)
 unfold pJ
 by_cases hjl:j<rs.length
 ·have wj:=wrap_i64 ((j:Int)+1) (by omega) (by omega)
  obtain⟨r0,hr0⟩: ∃r0,rs[j]? =some r0:=⟨_,aQ hjl⟩
  obtain⟨r1,hr1⟩: ∃r1,rs'[j]? =some r1:=⟨_,aQ (by omega)⟩
  have e1:=(H j r0 r1 hr0 hr1).2 (Nat.le_refl _)
  subst e1
  have hm:=di hr0
  have R1:=O'.os.r j r1 hr1
  obtain⟨bB,cs,oB,sB,hBa,hBb,hjB,hfit,hrd,hset⟩:=O'.A.el hr1
  have κB:κ bB=2:=O'.kB bB (bN hBa)
  have rd0:=hrd 0 6 (by decide)
  simp[-ag] at rd0
  simp at q12
  have hBl':=O'.A.len
  rw[hBa,hBl',hl'] at q12
  have hPl:=R1.P.len
  have hLl:=R1.L.len
  have oF:=ok'.bl hF'
  have hF2:=hF'
  simp[ak] at hF2
  rw[hBa,hBl',hl'] at hF2
  have hstF:=ok'.st _ _ _ _ _ hF'
  simp[q2,q3,q5,q12,q13,q14,hjl,rd0,-ag,aq,bg,aL,aw hF2,oF,aB]
  refine aP.cut (fun h2=>ab aG h' h2∧ ∃s,h2.tr.get h'.next=some (.aA [r1.P.v,r1.L.v,.int .i64 r1.kind,.bool r1.on.1,.int .i64 r1.on.2,r1.T.v] false 0 s)) ?_ ?_
  ·exact⟨((ab.refl ok').var _ _).tick,h'.clock,by simp[aK]⟩
  rintro h2 ⟨g2,sX,hX2⟩
  have O2:=O'.aW ok' g2
  have k2:=k'.grow ok' g2 (fun h=>h) (fun h=>h) (fun h=>h)
  have hF3:=g2.get ok' hF2 (fun h=>h)
  have hBb2:=g2.get ok' hBb (fun h=>h)
  have R2:=O2.os.r j r1 hr1
  have κX:κ h'.next=0:=by
   rcases Nat.eq_zero_or_pos (κ h'.next) with h|h
   ·exact h
   ·have:=(O'.os.new h'.next (by omega)).2;omega
  have nP: ∀b,κ b=0→ ¬av r1.P.v b:=fun b hb h=>by have:=R2.kP b h;omega
  have nL: ∀b,κ b=0→ ¬av r1.L.v b:=fun b hb h=>by have:=R2.kL b h;omega
  refine aP.call (V:=MK iK (Fz need) r1.P r1.ps h2) (by simpa using xY (E:=iK) (p:=Fz need) (y:= .func (.func pG) #[] #[.pointer (some ⟨N,0,none⟩)]) (z0:=((0:Int),eg)) rfl MX Ns g2.ok R2.P (I.pl r1 hm) (fun q hq h1 g=>Kc g.ok (k2.grow g2.ok g (nP _ κW) (nP _ κN) (nP _ κnb)) (R2.ps q hq).1)) ?_
  rintro _ h3 ⟨g3,P',rfl,hP'a,hP'⟩
  have os3:=O2.os.Kz g2.ok hr1 g3 hP' hP'a (fun q hq=>R2.ps q (List.mem_filter.1 hq).1)
  have A3:=O2.A.grow g2.ok g3 (fun b hb h=>by have:=O2.kB b hb;have:=R2.kP b h;omega)
  have k3:=k2.grow g2.ok g3 (nP _ κW) (nP _ κN) (nP _ κnb)
  have hF4:=g3.get g2.ok hF3 (nP _ κF)
  have hX3:=g3.get g2.ok hX2 (nP _ κX)
  have hBb3:=g3.get g2.ok hBb2 (fun h=>by have:=R2.kP bB h;omega)
  have hstF2:sF≤h'.clock+1:=by omega
  have hf0:=hfit 0 1 (by decide)
  simp at hf0
  have gw1:ab (· =bB) h3 (put h3 bB (j*6) cs [.slice P'.a P'.l P'.c] oB):=aJ g3.ok hBb3
  have nBF: ¬F=bB:=fun e=>by rw[e] at κF;omega
  have nBX: ¬h'.next=bB:=fun e=>by rw[e] at κX;omega
  simp at hX3
  simp[hF4,hX3,hstF2,hjl,hBb3,hf0,nBF,nBX,q2,q3,q5,-ag,aw hF4,aw hX3,aB,bg]
  refine aP.cut (fun h4=>ab (· =bB) h3 h4∧h4.tr.get bB=some (.aA (aK cs (j*6) [.slice P'.a P'.l P'.c]) false oB h3.clock)) ?_ ?_
  ·exact⟨gw1.tick,ax _ _ _ _ _ _⟩
  rintro h4 ⟨g4,hBb4⟩
  obtain⟨r2,hr2⟩: ∃r2:XR,r2= { r1 with P:=P',ps:=nk (Fz need) r1.ps } :=⟨_,rfl⟩
  rw[←hr2] at os3
  have A4:eJ fq h4 B (rs'.set j r2):=hset r2 0 [P'.v] (by simp) (by rw[hr2];rfl) h4 ⟨_,by simpa using hBb4⟩
  have os4:=os3.grow g3.ok g4 (fun b e=> .inr (by rw[e];exact κB))
  have hjr:j<rs'.length:=by omega
  have hr2j:(rs'.set j r2)[j]? =some r2:=by rw[List.getElem?_set,if_pos rfl,if_pos hjr]
  have R4:=os4.r j r2 hr2j
  have hL4:r2.L=r1.L:=by rw[hr2]
  have hls4:r2.ls=r1.ls:=by rw[hr2]
  have k4:=k3.grow g3.ok g4 (fun e=>by rw[e] at κW;omega) (fun e=>by rw[e] at κN;omega) (fun e=>by rw[e] at κnb;omega)
  have nL': ∀b,κ b=0→ ¬av r2.L.v b:=fun b hb h=>by have:=R4.kL b h;omega
  have hL4':=R4.L
  rw[hL4,hls4] at hL4'
  refine aP.call (V:=MK me (zo words need) r1.L r1.ls h4) (by simpa using xY (E:=me) (p:=zo words need) (y:= .func (.func py) #[] #[.pointer (some ⟨W,0,none⟩),.pointer (some ⟨N,0,none⟩)]) (z0:=(⟨0,0,(false,0),(false,0),0,eg⟩:XI)) rfl Nn M9 g4.ok hL4' (I.ll r1 hm) (fun x hx h1 g=>KF g.ok (k4.grow g4.ok g (nL _ κW) (nL _ κN) (nL _ κnb)) hw (R2.ls x hx).1 (I.q r1 hm x hx))) ?_
  rintro _ h5 ⟨g5,L',rfl,hL'a,hL'⟩
  have os5:=os4.Lp g4.ok hr2j (by rw[hL4];exact g5) hL' (by rw[hL4];exact hL'a) (fun x hx=>by
   have:=(List.mem_filter.1 hx).1
   exact R2.ls x this)
  have A5:=A4.grow g4.ok g5 (fun b hb h=>by have:=O2.kB b hb;have:=R2.kL b h;omega)
  obtain⟨b5,cs5,o5,s5,hBa5,hBb5,_,hfit5,_,hset5⟩:=A5.el hr2j
  rw[hBa] at hBa5
  cases hBa5
  have hF5:=g5.get g4.ok (g4.get g3.ok hF4 nBF) (nL _ κF)
  have hstF3:sF≤h3.clock+1:=by have:=g2.clock;have:=g3.clock;omega
  have hf1:=hfit5 1 1 (by decide)
  simp at hf1
  simp[hF5,hstF3,hjl,hBb5,hf1,q14,wj]
  have gw2:ab (· =bB) h5 (put h5 bB (j*6+1) cs5 [.slice L'.a L'.l L'.c] o5):=aJ g5.ok hBb5
  obtain⟨r3,hr3⟩: ∃r3:XR,r3= { r2 with L:=L',ls:=nk (zo words need) r1.ls } :=⟨_,rfl⟩
  rw[←hr3] at os5
  have os6:=os5.grow g5.ok gw2 (fun b e=> .inr (by rw[e];exact κB))
  have A6:=hset5 r3 1 [L'.v] (by simp) (by rw[hr3];rfl) (put h5 bB (j*6+1) cs5 [.slice L'.a L'.l L'.c] o5) ⟨_,ax _ _ _ _ _ _⟩
  rw[List.set_set] at A6 os6
  have w1: ∀b,av r1.P.v b→κ b≠0:=fun b hb=>by have:=R2.kP b hb;omega
  have w2: ∀b,av r1.L.v b→κ b≠0:=fun b hb=>by have:=R2.kL b hb;omega
  have w3: ∀b,b=bB→κ b≠0:=fun b hb=>by rw[hb];omega
  refine⟨rs.length-(j+1),by omega,j+1,rs'.set j r3,rfl,hjl,by simp[q2],by simp[q3],by simp[q4],by simp[q5],by simp[q12,hBa,hBl',hl'],by simp[q13],by simp,?_,⟨os6,A6,O'.kB⟩,by simp[hl'],fun i a c h1 h2=> ?_⟩
  ·exact((((g.trans g2.aW).trans (g3.bM (fun b _ h=>w1 b h))).trans (g4.bM (fun b _ h=>w3 b h))).trans (g5.bM (fun b _ h=>w2 b h))).trans (gw2.bM (fun b _ h=>w3 b h))
  ·rw[List.getElem?_set] at h2
   by_cases e:j=i
   ·subst e
    rw[if_pos rfl,if_pos hjr] at h2
    cases h2
    rw[hr0] at h1;cases h1
    exact⟨fun _=>by rw[hr3,hr2];exact⟨rfl,rfl,rfl,rfl,rfl⟩,fun h=>by omega⟩
   ·rw[if_neg e] at h2
    obtain⟨a1,a2⟩:=H i a c h1 h2
    exact⟨fun h=>a1 (by omega),fun h=>a2 (by omega)⟩
 ·have:j=rs.length:=by omega
  subst this
  simp[q13,q14]
  exact C _ _ rs' (by simp[q3]) (by simp[q4]) g O' hl' (fun i r r' h1 h2=>(H i r r' h1 h2).1 (bY.mp h1).1)
def jN:Enc (Int×(Bool×Int)):=⟨fun x=>[.int .i64 x.1,.bool x.2.1,.int .i64 x.2.2],3,fun _=>rfl,by decide,fun _=>rfl⟩
@[simp] theorem KV:jN.sz=3:=rfl
@[simp] theorem Kr (x:Int×(Bool×Int)):jN.enc x=[.int .i64 x.1,.bool x.2.1,.int .i64 x.2.2]:=rfl
theorem bq {h:ae} {W:Nat} {ws:List (Int×(Bool×Int))} {o s:Nat} {ro:Bool} (hW:h.tr.get W=some (.aA (jN.flat ws) ro o s)) {k:Nat} {x:Int×(Bool×Int)} (hk:ws[k]? =some x):aT h W (k*3) 3=some [.int .i64 x.1,.bool x.2.1,.int .i64 x.2.2]:=by
 have hl:=(bY.mp hk).1
 have:=jN.kD ws k 0 3 x hk (by decide)
 rw[cN hW (by rw[jN.bt];simp;omega)]
 simp only[KV,Nat.add_zero] at this
 rw[this]
 rfl
theorem eW (ws:List (Int×(Bool×Int))) (i:Nat) (x:Int×(Bool×Int)) (h:i<ws.length):aK (jN.flat ws) (i*3) [.int .i64 x.1,.bool x.2.1,.int .i64 x.2.2]=jN.flat (ws.set i x):=by
 have:=jN.fK ws i x h
 simpa using this
def SA (P:Int×(Bool×Int)→Prop) (d n o:Nat) (h0 h:ae):Prop:=ab (· =d) h0 h∧ ∃xs s,h.tr.get d=some (.aA (jN.flat xs) false o s)∧xs.length=n∧ ∀x∈xs,P x
def gH (y:Value):Prop:= ∀(h:ae) (x z:Int×(Bool×Int)),bh h→bZ FF y [.agg ⟨jN.enc x⟩,.agg ⟨jN.enc z⟩] h (fun v h'=>(∃c:Int,v= .int .i64 c)∧ab aG h h')
section
variable {P:Int×(Bool×Int)→Prop} {d n o:Nat} {h0:ae}
theorem SA.aW {h h':ae} (w:SA P d n o h0 h) (g:ab aG h h'):SA P d n o h0 h':=by
 obtain⟨g0,xs,s,hb,hl,hP⟩:=w
 exact⟨g0.trans g.aW,xs,s,g.get g0.ok hb (fun h=>h),hl,hP⟩
theorem SA.swap {h:ae} {xs:List (Int×(Bool×Int))} {s i j:Nat} {x y:Int×(Bool×Int)} (g:ab (· =d) h0 h) (hb:h.tr.get d=some (.aA (jN.flat xs) false o s)) (hl:xs.length=n) (hP: ∀x∈xs,P x) (hi:xs[i]? =some x) (hj:xs[j]? =some y):
  SA P d n o h0 (put (put h d (i*3) (jN.flat xs) [.int .i64 y.1,.bool y.2.1,.int .i64 y.2.2] o) d (j*3) (jN.flat (xs.set i y)) [.int .i64 x.1,.bool x.2.1,.int .i64 x.2.2] o):=by
 have li:=(bY.mp hi).1
 have lj:=(bY.mp hj).1
 have hb2:(put h d (i*3) (jN.flat xs) [.int .i64 y.1,.bool y.2.1,.int .i64 y.2.2] o).tr.get d=some (.aA (jN.flat (xs.set i y)) false o h.clock):=by rw[ax,eW xs i y li]
 have g2:=g.trans (aJ g.ok hb (off:=i*3) (vs:=[.int .i64 y.1,.bool y.2.1,.int .i64 y.2.2]))
 refine⟨g2.trans (aJ g2.ok hb2),(xs.set i y).set j x,_,by rw[ax,eW _ j x (by simpa using lj)],by simp[hl],fun z hz=> ?_⟩
 rcases List.mem_or_eq_of_mem_set hz with h1|rfl
 ·rcases List.mem_or_eq_of_mem_set h1 with h2|rfl
  ·exact hP z h2
  ·exact hP _ (di hj)
 ·exact hP _ (di hi)
def Qd (P:Int×(Bool×Int)→Prop) (d n o c:Nat) (h0:ae) (y:Value) (a b i:Nat) (m:Nat) (e:Env) (h':ae):Prop:=
 ∃j:Nat,m=j∧a≤j∧j<b∧Env.get e 0= .slice (some ⟨d,0,none⟩) n c∧Env.get e 1= .int .i64 a∧Env.get e 2= .int .i64 b∧Env.get e 3=y∧Env.get e 8= .int .i64 i∧Env.get e 9= .int .i64 j∧SA P d n o h0 h'
theorem Bx {y:Value} (Y:gH y) {h:ae} {c a b i:Nat} (hbn:b≤n) (hn:n<1000000) (hai:a≤i) (hib:i<b) (w:SA P d n o h0 h) {e:Env} {Q:aO→Env→ae→Prop}
  (f0:Env.get e 0= .slice (some ⟨d,0,none⟩) n c) (f1:Env.get e 1= .int .i64 a) (f2:Env.get e 2= .int .i64 b) (f3:Env.get e 3=y) (f8:Env.get e 8= .int .i64 i) (f9:Env.get e 9= .int .i64 i)
  (C: ∀e' h',Env.get e' 0= .slice (some ⟨d,0,none⟩) n c→Env.get e' 1= .int .i64 a→Env.get e' 2= .int .i64 b→Env.get e' 3=y→Env.get e' 8= .int .i64 i→SA P d n o h0 h'→Q (.exit 2) e' h'):az FF (.loop cg) e h Q:=by
 refine az.loop (Qd P d n o c h0 y a b i) ?_ (n:=i) ⟨i,rfl,hai,hib,f0,f1,f2,f3,f8,f9,w⟩
 rintro j e' h' ⟨_,rfl,haj,hjb,q0,q1,q2,q3,q8,q9,w'⟩
 obtain⟨g,xs,s,hb,hl,hP⟩:=id w'
 unfold cg
 by_cases hja:a<j
 ·obtain⟨k,hk⟩: ∃k,k=j-1:=⟨_,rfl⟩
  have wk:IntKind.i64.wrap ((j:Int)-1)=(k:Int):=by rw[wrap_i64 _ (by omega) (by omega)];omega
  have hjn:j<n:=by omega
  have hkn:k<n:=by omega
  obtain⟨x,hx⟩: ∃x,xs[j]? =some x:=⟨_,aQ (by omega)⟩
  obtain⟨z,hz⟩: ∃z,xs[k]? =some z:=⟨_,aQ (by omega)⟩
  have rx:=bq hb hx
  have rz:=bq hb hz
  simp[q0,q1,q3,q9,hja,hjn,hkn,wk,rx,rz,aB,-ag]
  refine aP.cut (fun h1=>ab aG h' h1) ?_ ?_
  ·exact(ab.refl g.ok).tick
  intro h1 g1
  refine aP.cm (V:=fun v h''=>(∃c:Int,v= .int .i64 c)∧ab aG h1 h'') (by simpa [q3] using Y h1 x z g1.ok) ?_
  rintro _ h2 ⟨⟨cv,rfl⟩,g2⟩
  have w2:=(w'.aW g1).aW g2
  obtain⟨gg,xs2,s2,hb2,hl2,hP2⟩:=id w2
  obtain⟨x2,hx2⟩: ∃x2,xs2[j]? =some x2:=⟨_,aQ (by omega)⟩
  obtain⟨z2,hz2⟩: ∃z2,xs2[k]? =some z2:=⟨_,aQ (by omega)⟩
  have rx2:=bq hb2 hx2
  have rz2:=bq hb2 hz2
  by_cases hc:cv<0
  ·have l1:j*3+3≤xs2.length*3:=by omega
   have l2:k*3+3≤xs2.length*3:=by omega
   have sp:=eW xs2 j z2 (by omega)
   simp[hc,q0,q1,q3,q9,hjn,hkn,wk,rx2,rz2,aB,hb2,l1,l2,sp,-ag]
   exact⟨k,by omega,k,rfl,by omega,by omega,by simp[q0],by simp[q1],by simp[q2],by simp[q3],by simp[q8],by simp,SA.swap (h:=tick h2) gg.tick hb2 hl2 hP2 hx2 hz2⟩
  ·simp[hc]
   exact C _ _ (by simp[q0]) (by simp[q1]) (by simp[q2]) (by simp[q3]) (by simp[q8]) w2
 ·have hja': ¬(a:Int)<j:=by omega
  simp[q1,q9,hja]
  exact C _ _ (by simp[q0]) (by simp[q1]) (by simp[q2]) (by simp[q3]) (by simp[q8]) (w'.aW ((ab.refl g.ok).tick))
def QH (P:Int×(Bool×Int)→Prop) (d n o c:Nat) (h0:ae) (y:Value) (a b:Nat) (m:Nat) (e:Env) (h':ae):Prop:=
 ∃i:Nat,m=b+1-i∧a<i∧i≤b+1∧Env.get e 0= .slice (some ⟨d,0,none⟩) n c∧Env.get e 1= .int .i64 a∧Env.get e 2= .int .i64 b∧Env.get e 3=y∧Env.get e 8= .int .i64 i∧SA P d n o h0 h'
theorem yX {y:Value} (Y:gH y) {h:ae} {c a b:Nat} (hbn:b≤n) (hab:a≤b) (hn:n<1000000) (w:SA P d n o h0 h):
  aE FF dx [.slice (some ⟨d,0,none⟩) n c,.int .i64 a,.int .i64 b,y] h (fun _ h'=>SA P d n o h0 h'):=by
 refine aE.of du ?_
 unfold cq
 have wa:=wrap_i64 ((a:Int)+1) (by omega) (by omega)
 simp[wa]
 refine az.loop (QH P d n o c h0 y a b) ?_ (n:=b-a) ⟨a+1,by omega,by omega,by omega,by simp,by simp,by simp,by simp,by simp,w⟩
 rintro m e h' ⟨i,rfl,hai,hib,q0,q1,q2,q3,q8,w'⟩
 unfold b_
 by_cases hi:i<b
 ·have wi:=wrap_i64 ((i:Int)+1) (by omega) (by omega)
  simp[q2,q8,hi]
  refine Bx Y (a:=a) (b:=b) (c:=c) (i:=i) hbn hn (by omega) hi w' (by simp[q0]) (by simp[q1]) (by simp[q2]) (by simp[q3]) (by simp[q8]) (by simp) ?_
  intro e2 h2 k0 k1 k2 k3 k8 w2
  simp[k8,wi]
  exact⟨b+1-(i+1),by omega,i+1,rfl,by omega,by omega,by simp[k0],by simp[k1],by simp[k2],by simp[k3],by simp,w2⟩
 ·have hi': ¬(i:Int)<b:=by omega
  simp[q2,q8,hi]
  exact w'
theorem MW:gH (.func (.func pC) #[] #[]):=by
 intro h x z ok
 refine bZ.func ?_
 refine aE.of zM ?_
 unfold tW
 simp
 exact((ab.refl ok).new _ _).new _ _
def RvI (P:Int×(Bool×Int)→Prop) (d n o c:Nat) (h0:ae) (b:Nat) (m:Nat) (e:Env) (h':ae):Prop:=
 ∃(i:Nat) (j:Int),m=b-i∧i≤b∧j<b∧ -1≤j∧Env.get e 0= .slice (some ⟨d,0,none⟩) n c∧Env.get e 8= .int .i64 i∧Env.get e 9= .int .i64 j∧SA P d n o h0 h'
theorem zO {y:Value} {h:ae} {c a b:Nat} (hbn:b≤n) (hab:a≤b) (hn:n<1000000) (w:SA P d n o h0 h):
  aE FF dG [.slice (some ⟨d,0,none⟩) n c,.int .i64 a,.int .i64 b,y] h (fun _ h'=>SA P d n o h0 h'):=by
 refine aE.of iq ?_
 unfold dH
 have wb:=wrap_i64 ((b:Int)-1) (by omega) (by omega)
 simp[wb]
 refine az.loop (RvI P d n o c h0 b) ?_ (n:=b-a) ⟨a,(b:Int)-1,rfl,by omega,by omega,by omega,by simp,by simp,by simp,w⟩
 rintro m e h' ⟨i,j,rfl,hib,hjb,hj1,q0,q8,q9,w'⟩
 unfold dj
 by_cases hij:(i:Int)<j
 ·obtain⟨k,rfl⟩: ∃k:Nat,j=k:=⟨j.toNat,by omega⟩
  have hik:i<k:=by omega
  have hin:i<n:=by omega
  have hkn:k<n:=by omega
  have wi:=wrap_i64 ((i:Int)+1) (by omega) (by omega)
  have wk:=wrap_i64 ((k:Int)-1) (by omega) (by omega)
  obtain⟨g,xs,s,hb,hl,hP⟩:=id w'
  obtain⟨x,hx⟩: ∃x,xs[i]? =some x:=⟨_,aQ (by omega)⟩
  obtain⟨z,hz⟩: ∃z,xs[k]? =some z:=⟨_,aQ (by omega)⟩
  have rx:=bq hb hx
  have rz:=bq hb hz
  have l1:i*3+3≤xs.length*3:=by omega
  have l2:k*3+3≤xs.length*3:=by omega
  have sp:=eW xs i z (by omega)
  simp[q0,q8,q9,hik,hin,hkn,wi,wk,rx,rz,aB,hb,l1,l2,sp,-ag]
  exact⟨b-(i+1),by omega,i+1,(k:Int)-1,rfl,by omega,by omega,by omega,by simp[q0],by simp,by simp,SA.swap (h:=tick h') g.tick hb hl hP hx hz⟩
 ·simp[q8,q9,hij]
  exact w'
end
section
variable {P:Int×(Bool×Int)→Prop} {d n o c a:Nat} {h0:ae} {y:Value}
structure PE (d n c a:Nat) (y:Value) (e:Env):Prop where
 f0:Env.get e 0= .slice (some ⟨d,0,none⟩) n c
 f1:Env.get e 1= .int .i64 a
 f4:Env.get e 4=y
def Qy (P:Int×(Bool×Int)→Prop) (d n o c a:Nat) (h0:ae) (y:Value) (i0 j:Nat) (m:Nat) (e:Env) (h':ae):Prop:=
 ∃i:Nat,m=j+1-i∧i0≤i∧i≤max i0 (j+1)∧PE d n c a y e∧Env.get e 11= .int .i64 i∧Env.get e 12= .int .i64 j∧SA P d n o h0 h'
theorem N6 (Y:gH y) {h:ae} {i j:Nat} (hn:n<1000000) (han:a<n) (hj:j<n) (hin:i≤n) (w:SA P d n o h0 h) {e:Env} {Q:aO→Env→ae→Prop} (E:PE d n c a y e) (f11:Env.get e 11= .int .i64 i) (f12:Env.get e 12= .int .i64 j)
  (K: ∀e' h' i',PE d n c a y e'→i≤i'→i'≤max i (j+1)→Env.get e' 11= .int .i64 (i':Nat)→Env.get e' 12= .int .i64 j→SA P d n o h0 h'→Q (.exit 2) e' h'):az FF (.loop bX) e h Q:=by
 refine az.loop (Qy P d n o c a h0 y i j) ?_ (n:=j+1-i) ⟨i,rfl,by omega,by omega,E,f11,f12,w⟩
 rintro m e' h' ⟨i',rfl,hi1,hi2,E',q11,q12,w'⟩
 obtain⟨g,xs,s,hb,hl,hP⟩:=id w'
 unfold bX
 by_cases hij:i'≤j
 ·have hin':i'<n:=by omega
  have wi:=wrap_i64 ((i':Int)+1) (by omega) (by omega)
  obtain⟨x,hx⟩: ∃x,xs[a]? =some x:=⟨_,aQ (by omega)⟩
  obtain⟨z,hz⟩: ∃z,xs[i']? =some z:=⟨_,aQ (by omega)⟩
  have rx:=bq hb hx
  have rz:=bq hb hz
  simp[E'.f0,E'.f1,E'.f4,q11,q12,hij,han,hin',rx,rz,aB,-ag]
  refine aP.cut (fun h1=>ab aG h' h1) ?_ ?_
  ·exact(ab.refl g.ok).tick
  intro h1 g1
  refine aP.cm (V:=fun v h''=>(∃c:Int,v= .int .i64 c)∧ab aG h1 h'') (by simpa [E'.f4] using Y h1 x z g1.ok) ?_
  rintro _ h2 ⟨⟨cv,rfl⟩,g2⟩
  have w2:=(w'.aW g1).aW g2
  by_cases hc:cv<0
  ·simp[hc]
   exact K _ _ i' ⟨by simp[E'.f0],by simp[E'.f1],by simp[E'.f4]⟩ hi1 hi2 (by simp[q11]) (by simp[q12]) w2
  ·simp[hc,q11,wi]
   exact⟨j+1-(i'+1),by omega,i'+1,rfl,by omega,by omega,⟨by simp[E'.f0],by simp[E'.f1],by simp[E'.f4]⟩,by simp,by simp[q12],w2⟩
 ·simp[q11,q12,hij]
  exact K _ _ i' ⟨by simp[E'.f0],by simp[E'.f1],by simp[E'.f4]⟩ hi1 hi2 (by simp[q11]) (by simp[q12]) (w'.aW ((ab.refl g.ok).tick))
def Qs (P:Int×(Bool×Int)→Prop) (d n o c a:Nat) (h0:ae) (y:Value) (i j0:Nat) (m:Nat) (e:Env) (h':ae):Prop:=
 ∃j:Nat,m=j∧j≤j0∧a≤j∧PE d n c a y e∧Env.get e 11= .int .i64 i∧Env.get e 12= .int .i64 j∧SA P d n o h0 h'
theorem KY (Y:gH y) {h:ae} {i j:Nat} (hn:n<1000000) (hj:j<n) (hai:a<i) (haj:a≤j) (w:SA P d n o h0 h) {e:Env} {Q:aO→Env→ae→Prop} (E:PE d n c a y e) (f11:Env.get e 11= .int .i64 i) (f12:Env.get e 12= .int .i64 j)
  (K: ∀e' h' j',PE d n c a y e'→j'≤j→a≤j'→Env.get e' 11= .int .i64 i→Env.get e' 12= .int .i64 (j':Nat)→SA P d n o h0 h'→Q (.exit 4) e' h'):az FF (.loop bV) e h Q:=by
 refine az.loop (Qs P d n o c a h0 y i j) ?_ (n:=j) ⟨j,rfl,by omega,haj,E,f11,f12,w⟩
 rintro j' e' h' ⟨_,rfl,hj1,hj2,E',q11,q12,w'⟩
 obtain⟨g,xs,s,hb,hl,hP⟩:=id w'
 unfold bV
 by_cases hij:i≤j'
 ·have han:a<n:=by omega
  have hjn':j'<n:=by omega
  obtain⟨k,hk⟩: ∃k,k=j'-1:=⟨_,rfl⟩
  have wk:IntKind.i64.wrap ((j':Int)-1)=(k:Int):=by rw[wrap_i64 _ (by omega) (by omega)];omega
  obtain⟨x,hx⟩: ∃x,xs[a]? =some x:=⟨_,aQ (by omega)⟩
  obtain⟨z,hz⟩: ∃z,xs[j']? =some z:=⟨_,aQ (by omega)⟩
  have rx:=bq hb hx
  have rz:=bq hb hz
  simp[E'.f0,E'.f1,E'.f4,q11,q12,hij,han,hjn',rx,rz,aB,-ag]
  refine aP.cut (fun h1=>ab aG h' h1) ?_ ?_
  ·exact(ab.refl g.ok).tick
  intro h1 g1
  refine aP.cm (V:=fun v h''=>(∃c:Int,v= .int .i64 c)∧ab aG h1 h'') (by simpa [E'.f4] using Y h1 x z g1.ok) ?_
  rintro _ h2 ⟨⟨cv,rfl⟩,g2⟩
  have w2:=(w'.aW g1).aW g2
  by_cases hc:cv<0
  ·simp[hc,q12,wk]
   exact⟨k,by omega,k,rfl,by omega,by omega,⟨by simp[E'.f0],by simp[E'.f1],by simp[E'.f4]⟩,by simp[q11],by simp,w2⟩
  ·simp[hc]
   exact K _ _ j' ⟨by simp[E'.f0],by simp[E'.f1],by simp[E'.f4]⟩ hj1 hj2 (by simp[q11]) (by simp[q12]) w2
 ·simp[q11,q12,hij]
  exact K _ _ j' ⟨by simp[E'.f0],by simp[E'.f1],by simp[E'.f4]⟩ hj1 hj2 (by simp[q11]) (by simp[q12]) (w'.aW ((ab.refl g.ok).tick))
def Qj (P:Int×(Bool×Int)→Prop) (d n o c a b:Nat) (h0:ae) (y:Value) (m:Nat) (e:Env) (h':ae):Prop:=
 ∃i j:Nat,m=j+1-i∧a<i∧i≤b∧a≤j∧j<b∧PE d n c a y e∧Env.get e 11= .int .i64 i∧Env.get e 12= .int .i64 j∧SA P d n o h0 h'
def OJ (P:Int×(Bool×Int)→Prop) (d n o a b:Nat) (h0:ae) (v:Value) (h':ae):Prop:=SA P d n o h0 h'∧ ∃i:Nat,v= .int .i64 i∧a<i∧i≤b
theorem DM (Y:gH y) {h:ae} {b pv:Nat} (hbn:b≤n) (hn:n<1000000) (hap:a≤pv) (hpb:pv<b) (w:SA P d n o h0 h):
  aE FF dh [.slice (some ⟨d,0,none⟩) n c,.int .i64 a,.int .i64 b,.int .i64 pv,y] h (OJ P d n o a b h0):=by
 obtain⟨g,xs,s,hb,hl,hP⟩:=id w
 have han:a<n:=by omega
 have hpn:pv<n:=by omega
 obtain⟨x,hx⟩: ∃x,xs[a]? =some x:=⟨_,aQ (by omega)⟩
 obtain⟨z,hz⟩: ∃z,xs[pv]? =some z:=⟨_,aQ (by omega)⟩
 have rx:=bq hb hx
 have rz:=bq hb hz
 have l1:a*3+3≤xs.length*3:=by omega
 have l2:pv*3+3≤xs.length*3:=by omega
 have sp:=eW xs a z (by omega)
 have wa:=wrap_i64 ((a:Int)+1) (by omega) (by omega)
 obtain⟨k,hk⟩: ∃k,k=b-1:=⟨_,rfl⟩
 have wb:IntKind.i64.wrap ((b:Int)-1)=(k:Int):=by rw[wrap_i64 _ (by omega) (by omega)];omega
 refine aE.of gy ?_
 unfold dk
 simp[han,hpn,rx,rz,aB,hb,l1,l2,sp,wa,wb,-ag]
 have w1:=SA.swap (h:=tick h) g.tick hb hl hP hx hz
 refine az.loop (Qj P d n o c a b h0 y) ?_ (n:=k+1-(a+1)) ⟨a+1,k,rfl,by omega,by omega,by omega,by omega,⟨by simp,by simp,by simp⟩,by simp,by simp,w1⟩
 rintro m e' h' ⟨i,j,rfl,hai,hib,haj,hjb,E',q11,q12,w'⟩
 unfold de
 simp
 refine N6 Y hn han (by omega) (by omega) w' E' q11 q12 ?_
 intro e1 h1 i1 E1 hi1 hi1' k11 k12 w1
 simp
 refine KY Y hn (by omega) (by omega) haj w1 E1 k11 k12 ?_
 intro e2 h2 j2 E2 hj2 hj2' m11 m12 w2
 by_cases hij:j2<i1
 ·have hij':(j2:Int)<i1:=by omega
  simp[m11,m12,hij]
  rw[nA _ _ _ _ _ (by decide)]
  simp[m11]
  exact⟨w2,i1,rfl,by omega,by omega⟩
 ·obtain⟨g2,xs2,s2,hb2,hl2,hP2⟩:=id w2
  have hi1n:i1<n:=by omega
  have hj2n:j2<n:=by omega
  obtain⟨x2,hx2⟩: ∃x2,xs2[i1]? =some x2:=⟨_,aQ (by omega)⟩
  obtain⟨z2,hz2⟩: ∃z2,xs2[j2]? =some z2:=⟨_,aQ (by omega)⟩
  have rx2:=bq hb2 hx2
  have rz2:=bq hb2 hz2
  have l3:i1*3+3≤xs2.length*3:=by omega
  have l4:j2*3+3≤xs2.length*3:=by omega
  have sp2:=eW xs2 i1 z2 (by omega)
  have wi:=wrap_i64 ((i1:Int)+1) (by omega) (by omega)
  obtain⟨k2,hk2⟩: ∃k2,k2=j2-1:=⟨_,rfl⟩
  have wk:IntKind.i64.wrap ((j2:Int)-1)=(k2:Int):=by rw[wrap_i64 _ (by omega) (by omega)];omega
  simp[E2.f0,m11,m12,hij,hi1n,hj2n,rx2,rz2,aB,hb2,l3,l4,sp2,wi,wk,-ag]
  exact⟨k2+1-(i1+1),by omega,i1+1,k2,rfl,by omega,by omega,by omega,by omega,⟨by simp[E2.f0],by simp[E2.f1],by simp[E2.f4]⟩,by simp,by simp,SA.swap (h:=tick h2) g2.tick hb2 hl2 hP2 hx2 hz2⟩
end
section
variable {P:Int×(Bool×Int)→Prop} {d n o c a:Nat} {h0:ae} {y:Value}
def Qz (P:Int×(Bool×Int)→Prop) (d n o c a:Nat) (h0:ae) (y:Value) (i0 j:Nat) (m:Nat) (e:Env) (h':ae):Prop:=
 ∃i:Nat,m=j+1-i∧i0≤i∧i≤max i0 (j+1)∧PE d n c a y e∧Env.get e 12= .int .i64 i∧Env.get e 13= .int .i64 j∧SA P d n o h0 h'
theorem MB (Y:gH y) {h:ae} {i j:Nat} (hn:n<1000000) (han:a<n) (hj:j<n) (hin:i≤n) (w:SA P d n o h0 h) {e:Env} {Q:aO→Env→ae→Prop} (E:PE d n c a y e) (f11:Env.get e 12= .int .i64 i) (f12:Env.get e 13= .int .i64 j)
  (K: ∀e' h' i',PE d n c a y e'→i≤i'→i'≤max i (j+1)→Env.get e' 12= .int .i64 (i':Nat)→Env.get e' 13= .int .i64 j→SA P d n o h0 h'→Q (.exit 0) e' h'):az FF (.loop cE) e h Q:=by
 refine az.loop (Qz P d n o c a h0 y i j) ?_ (n:=j+1-i) ⟨i,rfl,by omega,by omega,E,f11,f12,w⟩
 rintro m e' h' ⟨i',rfl,hi1,hi2,E',q11,q12,w'⟩
 obtain⟨g,xs,s,hb,hl,hP⟩:=id w'
 unfold cE
 by_cases hij:i'≤j
 ·have hin':i'<n:=by omega
  have wi:=wrap_i64 ((i':Int)+1) (by omega) (by omega)
  obtain⟨x,hx⟩: ∃x,xs[a]? =some x:=⟨_,aQ (by omega)⟩
  obtain⟨z,hz⟩: ∃z,xs[i']? =some z:=⟨_,aQ (by omega)⟩
  have rx:=bq hb hx
  have rz:=bq hb hz
  simp[E'.f0,E'.f1,E'.f4,q11,q12,hij,han,hin',rx,rz,aB,-ag]
  refine aP.cut (fun h1=>ab aG h' h1) ?_ ?_
  ·exact(ab.refl g.ok).tick
  intro h1 g1
  refine aP.cm (V:=fun v h''=>(∃c:Int,v= .int .i64 c)∧ab aG h1 h'') (by simpa [E'.f4] using Y h1 z x g1.ok) ?_
  rintro _ h2 ⟨⟨cv,rfl⟩,g2⟩
  have w2:=(w'.aW g1).aW g2
  by_cases hc:cv<0
  ·simp[hc,q11,wi]
   exact⟨j+1-(i'+1),by omega,i'+1,rfl,by omega,by omega,⟨by simp[E'.f0],by simp[E'.f1],by simp[E'.f4]⟩,by simp,by simp[q12],w2⟩
  ·simp[hc]
   exact K _ _ i' ⟨by simp[E'.f0],by simp[E'.f1],by simp[E'.f4]⟩ hi1 hi2 (by simp[q11]) (by simp[q12]) w2
 ·simp[q11,q12,hij]
  exact K _ _ i' ⟨by simp[E'.f0],by simp[E'.f1],by simp[E'.f4]⟩ hi1 hi2 (by simp[q11]) (by simp[q12]) (w'.aW ((ab.refl g.ok).tick))
def Qb (P:Int×(Bool×Int)→Prop) (d n o c a:Nat) (h0:ae) (y:Value) (i0 j:Nat) (m:Nat) (e:Env) (h':ae):Prop:=
 ∃i:Nat,m=j+1-i∧i0≤i∧i≤max i0 (j+1)∧PE d n c a y e∧Env.get e 12= .int .i64 i∧Env.get e 13= .int .i64 j∧SA P d n o h0 h'
theorem Nf (Y:gH y) {h:ae} {i j:Nat} (hn:n<1000000) (han:a<n) (hj:j<n) (hin:i≤n) (w:SA P d n o h0 h) {e:Env} {Q:aO→Env→ae→Prop} (E:PE d n c a y e) (f11:Env.get e 12= .int .i64 i) (f12:Env.get e 13= .int .i64 j)
  (K: ∀e' h' i',PE d n c a y e'→i≤i'→i'≤max i (j+1)→Env.get e' 12= .int .i64 (i':Nat)→Env.get e' 13= .int .i64 j→SA P d n o h0 h'→Q (.exit 6) e' h'):az FF (.loop cC) e h Q:=by
 refine az.loop (Qb P d n o c a h0 y i j) ?_ (n:=j+1-i) ⟨i,rfl,by omega,by omega,E,f11,f12,w⟩
 rintro m e' h' ⟨i',rfl,hi1,hi2,E',q11,q12,w'⟩
 obtain⟨g,xs,s,hb,hl,hP⟩:=id w'
 unfold cC
 by_cases hij:i'≤j
 ·have hin':i'<n:=by omega
  have wi:=wrap_i64 ((i':Int)+1) (by omega) (by omega)
  obtain⟨x,hx⟩: ∃x,xs[a]? =some x:=⟨_,aQ (by omega)⟩
  obtain⟨z,hz⟩: ∃z,xs[i']? =some z:=⟨_,aQ (by omega)⟩
  have rx:=bq hb hx
  have rz:=bq hb hz
  simp[E'.f0,E'.f1,E'.f4,q11,q12,hij,han,hin',rx,rz,aB,-ag]
  refine aP.cut (fun h1=>ab aG h' h1) ?_ ?_
  ·exact(ab.refl g.ok).tick
  intro h1 g1
  refine aP.cm (V:=fun v h''=>(∃c:Int,v= .int .i64 c)∧ab aG h1 h'') (by simpa [E'.f4] using Y h1 z x g1.ok) ?_
  rintro _ h2 ⟨⟨cv,rfl⟩,g2⟩
  have w2:=(w'.aW g1).aW g2
  by_cases hc:cv<0
  ·simp[hc,q11,wi]
   exact⟨j+1-(i'+1),by omega,i'+1,rfl,by omega,by omega,⟨by simp[E'.f0],by simp[E'.f1],by simp[E'.f4]⟩,by simp,by simp[q12],w2⟩
  ·simp[hc]
   exact K _ _ i' ⟨by simp[E'.f0],by simp[E'.f1],by simp[E'.f4]⟩ hi1 hi2 (by simp[q11]) (by simp[q12]) w2
 ·simp[q11,q12,hij]
  exact K _ _ i' ⟨by simp[E'.f0],by simp[E'.f1],by simp[E'.f4]⟩ hi1 hi2 (by simp[q11]) (by simp[q12]) (w'.aW ((ab.refl g.ok).tick))
def Qh (P:Int×(Bool×Int)→Prop) (d n o c a:Nat) (h0:ae) (y:Value) (i j0:Nat) (m:Nat) (e:Env) (h':ae):Prop:=
 ∃j:Nat,m=j∧j≤j0∧a≤j∧PE d n c a y e∧Env.get e 12= .int .i64 i∧Env.get e 13= .int .i64 j∧SA P d n o h0 h'
theorem I3 (Y:gH y) {h:ae} {i j:Nat} (hn:n<1000000) (hj:j<n) (hai:a<i) (haj:a≤j) (w:SA P d n o h0 h) {e:Env} {Q:aO→Env→ae→Prop} (E:PE d n c a y e) (f11:Env.get e 12= .int .i64 i) (f12:Env.get e 13= .int .i64 j)
  (K: ∀e' h' j',PE d n c a y e'→j'≤j→a≤j'→Env.get e' 12= .int .i64 i→Env.get e' 13= .int .i64 (j':Nat)→SA P d n o h0 h'→Q (.exit 2) e' h'):az FF (.loop cG) e h Q:=by
 refine az.loop (Qh P d n o c a h0 y i j) ?_ (n:=j) ⟨j,rfl,by omega,haj,E,f11,f12,w⟩
 rintro j' e' h' ⟨_,rfl,hj1,hj2,E',q11,q12,w'⟩
 obtain⟨g,xs,s,hb,hl,hP⟩:=id w'
 unfold cG
 by_cases hij:i≤j'
 ·have han:a<n:=by omega
  have hjn':j'<n:=by omega
  obtain⟨k,hk⟩: ∃k,k=j'-1:=⟨_,rfl⟩
  have wk:IntKind.i64.wrap ((j':Int)-1)=(k:Int):=by rw[wrap_i64 _ (by omega) (by omega)];omega
  obtain⟨x,hx⟩: ∃x,xs[a]? =some x:=⟨_,aQ (by omega)⟩
  obtain⟨z,hz⟩: ∃z,xs[j']? =some z:=⟨_,aQ (by omega)⟩
  have rx:=bq hb hx
  have rz:=bq hb hz
  simp[E'.f0,E'.f1,E'.f4,q11,q12,hij,han,hjn',rx,rz,aB,-ag]
  refine aP.cut (fun h1=>ab aG h' h1) ?_ ?_
  ·exact(ab.refl g.ok).tick
  intro h1 g1
  refine aP.cm (V:=fun v h''=>(∃c:Int,v= .int .i64 c)∧ab aG h1 h'') (by simpa [E'.f4] using Y h1 z x g1.ok) ?_
  rintro _ h2 ⟨⟨cv,rfl⟩,g2⟩
  have w2:=(w'.aW g1).aW g2
  by_cases hc:cv<0
  ·simp[hc]
   exact K _ _ j' ⟨by simp[E'.f0],by simp[E'.f1],by simp[E'.f4]⟩ hj1 hj2 (by simp[q11]) (by simp[q12]) w2
  ·simp[hc,q12,wk]
   exact⟨k,by omega,k,rfl,by omega,by omega,⟨by simp[E'.f0],by simp[E'.f1],by simp[E'.f4]⟩,by simp[q11],by simp,w2⟩
 ·simp[q11,q12,hij]
  exact K _ _ j' ⟨by simp[E'.f0],by simp[E'.f1],by simp[E'.f4]⟩ hj1 hj2 (by simp[q11]) (by simp[q12]) (w'.aW ((ab.refl g.ok).tick))
def Qn (P:Int×(Bool×Int)→Prop) (d n o c a:Nat) (h0:ae) (y:Value) (i j0:Nat) (m:Nat) (e:Env) (h':ae):Prop:=
 ∃j:Nat,m=j∧j≤j0∧a≤j∧PE d n c a y e∧Env.get e 12= .int .i64 i∧Env.get e 13= .int .i64 j∧SA P d n o h0 h'
theorem Jv (Y:gH y) {h:ae} {i j:Nat} (hn:n<1000000) (hj:j<n) (hai:a<i) (haj:a≤j) (w:SA P d n o h0 h) {e:Env} {Q:aO→Env→ae→Prop} (E:PE d n c a y e) (f11:Env.get e 12= .int .i64 i) (f12:Env.get e 13= .int .i64 j)
  (K: ∀e' h' j',PE d n c a y e'→j'≤j→a≤j'→Env.get e' 12= .int .i64 i→Env.get e' 13= .int .i64 (j':Nat)→SA P d n o h0 h'→Q (.exit 8) e' h'):az FF (.loop cH) e h Q:=by
 refine az.loop (Qn P d n o c a h0 y i j) ?_ (n:=j) ⟨j,rfl,by omega,haj,E,f11,f12,w⟩
 rintro j' e' h' ⟨_,rfl,hj1,hj2,E',q11,q12,w'⟩
 obtain⟨g,xs,s,hb,hl,hP⟩:=id w'
 unfold cH
 by_cases hij:i≤j'
 ·have han:a<n:=by omega
  have hjn':j'<n:=by omega
  obtain⟨k,hk⟩: ∃k,k=j'-1:=⟨_,rfl⟩
  have wk:IntKind.i64.wrap ((j':Int)-1)=(k:Int):=by rw[wrap_i64 _ (by omega) (by omega)];omega
  obtain⟨x,hx⟩: ∃x,xs[a]? =some x:=⟨_,aQ (by omega)⟩
  obtain⟨z,hz⟩: ∃z,xs[j']? =some z:=⟨_,aQ (by omega)⟩
  have rx:=bq hb hx
  have rz:=bq hb hz
  simp[E'.f0,E'.f1,E'.f4,q11,q12,hij,han,hjn',rx,rz,aB,-ag]
  refine aP.cut (fun h1=>ab aG h' h1) ?_ ?_
  ·exact(ab.refl g.ok).tick
  intro h1 g1
  refine aP.cm (V:=fun v h''=>(∃c:Int,v= .int .i64 c)∧ab aG h1 h'') (by simpa [E'.f4] using Y h1 z x g1.ok) ?_
  rintro _ h2 ⟨⟨cv,rfl⟩,g2⟩
  have w2:=(w'.aW g1).aW g2
  by_cases hc:cv<0
  ·simp[hc]
   exact K _ _ j' ⟨by simp[E'.f0],by simp[E'.f1],by simp[E'.f4]⟩ hj1 hj2 (by simp[q11]) (by simp[q12]) w2
  ·simp[hc,q12,wk]
   exact⟨k,by omega,k,rfl,by omega,by omega,⟨by simp[E'.f0],by simp[E'.f1],by simp[E'.f4]⟩,by simp[q11],by simp,w2⟩
 ·simp[q11,q12,hij]
  exact K _ _ j' ⟨by simp[E'.f0],by simp[E'.f1],by simp[E'.f4]⟩ hj1 hj2 (by simp[q11]) (by simp[q12]) (w'.aW ((ab.refl g.ok).tick))
def Pg (P:Int×(Bool×Int)→Prop) (d n o c a b:Nat) (h0:ae) (y:Value) (m:Nat) (e:Env) (h':ae):Prop:=
 ∃i j:Nat,m=j+1-i∧a<i∧i≤b∧a≤j∧j<b∧PE d n c a y e∧Env.get e 12= .int .i64 i∧Env.get e 13= .int .i64 j∧SA P d n o h0 h'
def Q1 (P:Int×(Bool×Int)→Prop) (d n o a b:Nat) (h0:ae) (v:Value) (h':ae):Prop:=SA P d n o h0 h'∧ ∃(j:Nat) (t:Bool),v= .tuple #[.int .i64 j,.bool t]∧a≤j∧j<b
theorem Hq (Y:gH y) {h:ae} {b pv:Nat} (hbn:b≤n) (hn:n<1000000) (hap:a≤pv) (hpb:pv<b) (w:SA P d n o h0 h):
  aE FF ec [.slice (some ⟨d,0,none⟩) n c,.int .i64 a,.int .i64 b,.int .i64 pv,y] h (Q1 P d n o a b h0):=by
 obtain⟨g,xs,s,hb,hl,hP⟩:=id w
 have han:a<n:=by omega
 have hpn:pv<n:=by omega
 obtain⟨x,hx⟩: ∃x,xs[a]? =some x:=⟨_,aQ (by omega)⟩
 obtain⟨z,hz⟩: ∃z,xs[pv]? =some z:=⟨_,aQ (by omega)⟩
 have rx:=bq hb hx
 have rz:=bq hb hz
 have l1:a*3+3≤xs.length*3:=by omega
 have l2:pv*3+3≤xs.length*3:=by omega
 have sp:=eW xs a z (by omega)
 have wa:=wrap_i64 ((a:Int)+1) (by omega) (by omega)
 obtain⟨k,hk⟩: ∃k,k=b-1:=⟨_,rfl⟩
 have wb:IntKind.i64.wrap ((b:Int)-1)=(k:Int):=by rw[wrap_i64 _ (by omega) (by omega)];omega
 refine aE.of jc ?_
 unfold ed
 simp[han,hpn,rx,rz,aB,hb,l1,l2,sp,wa,wb,-ag]
 have w1:=SA.swap (h:=tick h) g.tick hb hl hP hx hz
 refine MB (c:=c) (i:=a+1) Y hn han (j:=k) (by omega) (by omega) w1 ⟨by simp,by simp,by simp⟩ (by simp) (by simp) ?_
 intro e1 h1 i1 E1 hi1 hi1' k12 k13 w1
 simp
 refine I3 Y hn (by omega) (by omega) (by omega) w1 E1 k12 k13 ?_
 intro e2 h2 j2 E2 hj2 hj2' m12 m13 w2
 obtain⟨g2,xs2,s2,hb2,hl2,hP2⟩:=id w2
 have hj2n:j2<n:=by omega
 obtain⟨x2,hx2⟩: ∃x2,xs2[a]? =some x2:=⟨_,aQ (by omega)⟩
 obtain⟨z2,hz2⟩: ∃z2,xs2[j2]? =some z2:=⟨_,aQ (by omega)⟩
 have rx2:=bq hb2 hx2
 have rz2:=bq hb2 hz2
 have l4:j2*3+3≤xs2.length*3:=by omega
 have l5:a*3+3≤xs2.length*3:=by omega
 by_cases hij:j2<i1
 ·have sp2:=eW xs2 j2 x2 (by omega)
  simp[E2.f0,E2.f1,m12,m13,hij,han,hj2n,rx2,rz2,aB,hb2,l4,l5,sp2,-ag]
  exact⟨SA.swap (h:=tick h2) g2.tick hb2 hl2 hP2 hz2 hx2,j2,true,rfl,by omega,by omega⟩
 have hi1n:i1<n:=by omega
 obtain⟨y2,hy2⟩: ∃y2,xs2[i1]? =some y2:=⟨_,aQ (by omega)⟩
 have ry2:=bq hb2 hy2
 have l3:i1*3+3≤xs2.length*3:=by omega
 have sp2:=eW xs2 i1 z2 (by omega)
 have wi:=wrap_i64 ((i1:Int)+1) (by omega) (by omega)
 obtain⟨k2,hk2⟩: ∃k2,k2=j2-1:=⟨_,rfl⟩
 have wk:IntKind.i64.wrap ((j2:Int)-1)=(k2:Int):=by rw[wrap_i64 _ (by omega) (by omega)];omega
 simp[E2.f0,m12,m13,hij,hi1n,hj2n,ry2,rz2,aB,hb2,l3,l4,sp2,wi,wk,-ag]
 have w3:=SA.swap (h:=tick h2) g2.tick hb2 hl2 hP2 hy2 hz2
 refine az.loop (Pg P d n o c a b h0 y) ?_ (n:=k2+1-(i1+1)) ⟨i1+1,k2,rfl,by omega,by omega,by omega,by omega,⟨by simp[E2.f0],by simp[E2.f1],by simp[E2.f4]⟩,by simp,by simp,w3⟩
 rintro m e' h' ⟨i,j,rfl,hai,hib,haj,hjb,E',q12,q13,w'⟩
 unfold dN
 simp
 refine Nf Y hn han (by omega) (by omega) w' E' q12 q13 ?_
 intro e1 h1 i1 E1 hi1 hi1' k12 k13 w1
 simp
 refine Jv Y hn (by omega) (by omega) haj w1 E1 k12 k13 ?_
 intro e2 h2 j2 E2 hj2 hj2' m12 m13 w2
 obtain⟨g2,xs2,s2,hb2,hl2,hP2⟩:=id w2
 have hj2n:j2<n:=by omega
 obtain⟨x2,hx2⟩: ∃x2,xs2[a]? =some x2:=⟨_,aQ (by omega)⟩
 obtain⟨z2,hz2⟩: ∃z2,xs2[j2]? =some z2:=⟨_,aQ (by omega)⟩
 have rx2:=bq hb2 hx2
 have rz2:=bq hb2 hz2
 have l4:j2*3+3≤xs2.length*3:=by omega
 have l5:a*3+3≤xs2.length*3:=by omega
 by_cases hij:j2<i1
 ·have sp2:=eW xs2 j2 x2 (by omega)
  simp[m12,m13,hij]
  rw[nA _ _ _ _ _ (by decide)]
  simp[E2.f0,E2.f1,m12,m13,hij,han,hj2n,rx2,rz2,aB,hb2,l4,l5,sp2,-ag]
  exact⟨SA.swap (h:=tick h2) g2.tick hb2 hl2 hP2 hz2 hx2,j2,false,rfl,by omega,by omega⟩
 ·have hi1n:i1<n:=by omega
  obtain⟨y2,hy2⟩: ∃y2,xs2[i1]? =some y2:=⟨_,aQ (by omega)⟩
  have ry2:=bq hb2 hy2
  have l3:i1*3+3≤xs2.length*3:=by omega
  have sp2:=eW xs2 i1 z2 (by omega)
  have wi:=wrap_i64 ((i1:Int)+1) (by omega) (by omega)
  obtain⟨k2,hk2⟩: ∃k2,k2=j2-1:=⟨_,rfl⟩
  have wk:IntKind.i64.wrap ((j2:Int)-1)=(k2:Int):=by rw[wrap_i64 _ (by omega) (by omega)];omega
  simp[E2.f0,m12,m13,hij,hi1n,hj2n,ry2,rz2,aB,hb2,l3,l4,sp2,wi,wk,-ag]
  exact⟨k2+1-(i1+1),by omega,i1+1,k2,rfl,by omega,by omega,by omega,by omega,⟨by simp[E2.f0],by simp[E2.f1],by simp[E2.f4]⟩,by simp,by simp,SA.swap (h:=tick h2) g2.tick hb2 hl2 hP2 hy2 hz2⟩
end
def KE:aj:=(.seq (.draw [D_ (m_ 19 11),D_ (C_ 20 .add 19 1),D_ (m_ 21 2),D_ (B_ 22 .lss 20 21),D_ (m_ 23 22),(q_ 24 23 true (.mv (t_ 4)),[]),(q_ 25 23 true (.mv (t_ 0)),[]),(q_ 26 23 true (.mv (t_ 3)),[]),(q_ 27 23 true (.mv (t_ 11)),[]),(q_ 28 23 true (.bin .add [] (t_ 26) (t_ 27)),[]),(q_ 29 23 true (.cw none 3 (t_ 25) (t_ 28)),[]),(q_ 30 23 true (.load (some 3) (t_ 29)),[]),(q_ 31 23 true (.mv (t_ 0)),[]),(q_ 32 23 true (.mv (t_ 3)),[]),(q_ 33 23 true (.mv (t_ 11)),[]),(q_ 34 23 true (.bin .add [] (t_ 32) (t_ 33)),[]),(q_ 35 23 true (.bin .add [] (t_ 34) (i_ 1)),[]),(q_ 36 23 true (.cw none 3 (t_ 31) (t_ 35)),[]),(q_ 37 23 true (.load (some 3) (t_ 36)),[]),(q_ 38 23 true (.call (t_ 24) [t_ 30,t_ 37]),[]),(q_ 39 23 true (.bin .lss [] (t_ 38) (i_ 0)),[]),(o_ 40 (.pick (t_ 23) (t_ 39) (.const (.bool false))),[])]) (.cond (t_ 40) (.ops [m_ 41 11,C_ 42 .add 41 1,m_ 11 42]) .skip))
def Bp:aj:=(.seq (.seq (.draw [D_ (m_ 43 4),D_ (m_ 44 0),D_ (m_ 45 3),D_ (m_ 46 10),D_ (B_ 47 .add 45 46),D_ (a_ 48 3 44 47),D_ (L_ 49 3 48),D_ (m_ 50 0),D_ (m_ 51 3),D_ (m_ 52 11),D_ (B_ 53 .add 51 52),D_ (a_ 54 3 50 53),D_ (L_ 55 3 54),(o_ 56 (.call (t_ 43) [t_ 49,t_ 55]),[]),D_ (C_ 57 .lss 56 0),(o_ 58 (.un .not (t_ 57)),[])]) (.cond (t_ 58) .ret .skip)) (.seq (.draw [D_ (m_ 59 0),D_ (m_ 60 3),D_ (m_ 61 10),D_ (B_ 62 .add 60 61),D_ (m_ 63 0),D_ (m_ 64 3),D_ (m_ 65 11),D_ (B_ 66 .add 64 65),D_ (m_ 67 0),D_ (m_ 68 3),D_ (m_ 69 11),D_ (B_ 70 .add 68 69),D_ (a_ 71 3 67 70),D_ (L_ 72 3 71),D_ (m_ 73 0),D_ (m_ 74 3),D_ (m_ 75 10),D_ (B_ 76 .add 74 75),D_ (a_ 77 3 73 76),D_ (L_ 78 3 77),D_ (a_ 79 3 59 62),D_ (s_ 3 79 72),D_ (a_ 80 3 63 66),D_ (s_ 3 80 78)]) (.ops [m_ 81 11,m_ 10 81])))
theorem JX:cM= .block 1 (.seq (.ops [m_ 13 10,o_ 14 (.bin .mul [] (i_ 2) (t_ 13)),C_ 15 .add 14 1,m_ 11 15]) (.seq (.seq (.ops [m_ 16 11,m_ 17 2,B_ 18 .geq 16 17]) (.cond (t_ 18) (.exit 0) .skip)) (.seq KE Bp))):=rfl
section
variable {P:Int×(Bool×Int)→Prop} {d n o c:Nat} {h0:ae} {y:Value}
def QP (P:Int×(Bool×Int)→Prop) (d n o c:Nat) (h0:ae) (y:Value) (hi first:Nat) (m:Nat) (e:Env) (h':ae):Prop:=
 ∃r:Nat,m=hi+1-r∧Env.get e 0= .slice (some ⟨d,0,none⟩) n c∧Env.get e 2= .int .i64 hi∧Env.get e 3= .int .i64 first∧Env.get e 4=y∧Env.get e 10= .int .i64 r∧r<1000000∧SA P d n o h0 h'
theorem LY (Y:gH y) {h:ae} {hi first r cc:Nat} (hf:first+hi≤n) (hn:n<1000000) (hrc:r<cc) (hcc:cc<hi) (w:SA P d n o h0 h) {e:Env} {Q:aO→Env→ae→Prop} (f0:Env.get e 0= .slice (some ⟨d,0,none⟩) n c) (f2:Env.get e 2= .int .i64 hi) (f3:Env.get e 3= .int .i64 first) (f4:Env.get e 4=y) (f10:Env.get e 10= .int .i64 r) (f11:Env.get e 11= .int .i64 cc)
  (K1: ∀e' h',SA P d n o h0 h'→Q .ret e' h') (K2: ∀e' h',SA P d n o h0 h'→Env.get e' 0= .slice (some ⟨d,0,none⟩) n c→Env.get e' 2= .int .i64 hi→Env.get e' 3= .int .i64 first→Env.get e' 4=y→Env.get e' 10= .int .i64 cc→Q .normal e' h'):az FF Bp e h Q:=by
 obtain⟨g,xs,s,hb,hl,hP⟩:=id w
 obtain⟨i,hi1⟩: ∃i,i=first+r:=⟨_,rfl⟩
 obtain⟨j,hj1⟩: ∃j,j=first+cc:=⟨_,rfl⟩
 have wi:IntKind.i64.wrap ((first:Int)+(r:Int))=(i:Int):=by rw[wrap_i64 _ (by omega) (by omega)];omega
 have wj:IntKind.i64.wrap ((first:Int)+(cc:Int))=(j:Int):=by rw[wrap_i64 _ (by omega) (by omega)];omega
 have hin:i<n:=by omega
 have hjn:j<n:=by omega
 obtain⟨x,hx⟩: ∃x,xs[i]? =some x:=⟨_,aQ (by omega)⟩
 obtain⟨z,hz⟩: ∃z,xs[j]? =some z:=⟨_,aQ (by omega)⟩
 have rx:=bq hb hx
 have rz:=bq hb hz
 unfold Bp
 simp[f0,f2,f3,f4,f10,f11,wi,wj,hin,hjn,rx,rz,aB,-ag]
 refine aP.cut (fun h1=>ab aG h h1) ?_ ?_
 ·exact(ab.refl g.ok).tick
 intro h1 g1
 refine aP.cm (V:=fun v h''=>(∃c:Int,v= .int .i64 c)∧ab aG h1 h'') (by simpa [f4] using Y h1 x z g1.ok) ?_
 rintro _ h2 ⟨⟨cv,rfl⟩,g2⟩
 have w2:=(w.aW g1).aW g2
 by_cases hc:cv<0
 ·obtain⟨gg,xs2,s2,hb2,hl2,hP2⟩:=id w2
  obtain⟨x2,hx2⟩: ∃x2,xs2[i]? =some x2:=⟨_,aQ (by omega)⟩
  obtain⟨z2,hz2⟩: ∃z2,xs2[j]? =some z2:=⟨_,aQ (by omega)⟩
  have rx2:=bq hb2 hx2
  have rz2:=bq hb2 hz2
  have l1:i*3+3≤xs2.length*3:=by omega
  have l2:j*3+3≤xs2.length*3:=by omega
  have sp:=eW xs2 i z2 (by omega)
  simp[hc,f0,f3,f10,f11,wi,wj,hin,hjn,rx2,rz2,aB,hb2,l1,l2,sp,-ag]
  exact K2 _ _ (SA.swap (h:=tick h2) gg.tick hb2 hl2 hP2 hx2 hz2) (by simp[f0]) (by simp[f2]) (by simp[f3]) (by simp[f4]) (by simp)
 ·simp[hc]
  exact K1 _ _ w2
theorem Aa (Y:gH y) {h:ae} {lo hi first:Nat} (hf:first+hi≤n) (hn:n<1000000) (hlo:lo<1000000) (w:SA P d n o h0 h):
  aE FF eB [.slice (some ⟨d,0,none⟩) n c,.int .i64 lo,.int .i64 hi,.int .i64 first,y] h (fun _ h'=>SA P d n o h0 h'):=by
 refine aE.of jo ?_
 unfold ep
 simp
 refine az.loop (QP P d n o c h0 y hi first) ?_ (n:=hi+1-lo) ⟨lo,rfl,by simp,by simp,by simp,by simp,by simp,hlo,w⟩
 rintro m e h' ⟨r,rfl,q0,q2,q3,q4,q10,hr,w'⟩
 obtain⟨ch,hch⟩: ∃ch,ch=2*r+1:=⟨_,rfl⟩
 have w1:IntKind.i64.wrap (2*(r:Int))=2*(r:Int):=wrap_i64 _ (by omega) (by omega)
 have w2:IntKind.i64.wrap (2*(r:Int)+1)=(ch:Int):=by rw[wrap_i64 _ (by omega) (by omega)];omega
 by_cases hch2:hi≤ch
 ·unfold cM
  simp[q2,q10,w1,w2,hch2]
  rw[nA _ _ _ _ _ (by decide)]
  simp
  exact w'
 obtain⟨g,xs,s,hb,hl,hP⟩:=id w'
 have hcl:ch<hi:=by omega
 rw[JX]
 simp[q2,q10,w1,w2,hch2]
 obtain⟨ch2,hch3⟩: ∃ch2,ch2=ch+1:=⟨_,rfl⟩
 have w3:IntKind.i64.wrap ((ch:Int)+1)=(ch2:Int):=by rw[wrap_i64 _ (by omega) (by omega)];omega
 have fin: ∀(cc:Nat) (e2:Env) (h2:ae),r<cc→cc<hi→SA P d n o h0 h2→Env.get e2 0= .slice (some ⟨d,0,none⟩) n c→Env.get e2 2= .int .i64 hi→Env.get e2 3= .int .i64 first→Env.get e2 4=y→Env.get e2 10= .int .i64 r→Env.get e2 11= .int .i64 cc→
   az FF Bp e2 h2 (zZ 1 (yJ (fun e h=> ∃m,m<hi+1-r∧QP P d n o c h0 y hi first m e h) (zZ 0 (tQ [] fun _ h'=>SA P d n o h0 h')))):=by
  intro cc e2 h2 a1 a2 w2 b0 b2 b3 b4 b10 b11
  refine LY Y hf hn a1 a2 w2 b0 b2 b3 b4 b10 b11 (fun e' h' w'=>by simpa using w') (fun e' h' w' c0 c2 c3 c4 c10=> ?_)
  simp
  exact⟨hi+1-cc,by omega,cc,rfl,c0,c2,c3,c4,c10,by omega,w'⟩
 unfold KE
 by_cases h2:ch2<hi
 ·obtain⟨i,hi1⟩: ∃i,i=first+ch:=⟨_,rfl⟩
  obtain⟨j,hj1⟩: ∃j,j=i+1:=⟨_,rfl⟩
  have wi:IntKind.i64.wrap ((first:Int)+(ch:Int))=(i:Int):=by rw[wrap_i64 _ (by omega) (by omega)];omega
  have wj:IntKind.i64.wrap ((i:Int)+1)=(j:Int):=by rw[wrap_i64 _ (by omega) (by omega)];omega
  have hin:i<n:=by omega
  have hjn:j<n:=by omega
  obtain⟨x,hx⟩: ∃x,xs[i]? =some x:=⟨_,aQ (by omega)⟩
  obtain⟨z,hz⟩: ∃z,xs[j]? =some z:=⟨_,aQ (by omega)⟩
  have rx:=bq hb hx
  have rz:=bq hb hz
  simp[q0,q2,q3,q4,w3,h2,wi,wj,hin,hjn,rx,rz,aB,-ag]
  refine aP.cut (fun h1=>ab aG h' h1) ?_ ?_
  ·exact(ab.refl g.ok).tick
  intro h1 g1
  refine aP.cm (V:=fun v h''=>(∃c:Int,v= .int .i64 c)∧ab aG h1 h'') (by simpa [q4] using Y h1 x z g1.ok) ?_
  rintro _ h3 ⟨⟨cv,rfl⟩,g2⟩
  have w4:=(w'.aW g1).aW g2
  by_cases hc:cv<0
  ·simp[hc,w3]
   exact fin ch2 _ _ (by omega) h2 w4 (by simp[q0]) (by simp[q2]) (by simp[q3]) (by simp[q4]) (by simp[q10]) (by simp)
  ·simp[hc]
   exact fin ch _ _ (by omega) hcl w4 (by simp[q0]) (by simp[q2]) (by simp[q3]) (by simp[q4]) (by simp[q10]) (by simp)
 ·simp[q2,w3,h2]
  exact fin ch _ _ (by omega) hcl (w'.aW ((ab.refl g.ok).tick)) (by simp[q0]) (by simp[q2]) (by simp[q3]) (by simp[q4]) (by simp[q10]) (by simp)
def Qt (P:Int×(Bool×Int)→Prop) (d n o c:Nat) (h0:ae) (y:Value) (a k:Nat) (m:Nat) (e:Env) (h':ae):Prop:=
 ∃i:Int,m=(i+1).toNat∧ -1≤i∧i<1000000∧Env.get e 0= .slice (some ⟨d,0,none⟩) n c∧Env.get e 3=y∧Env.get e 8= .int .i64 a∧Env.get e 9= .int .i64 0∧Env.get e 10= .int .i64 k∧Env.get e 11= .int .i64 i∧SA P d n o h0 h'
def Qo (P:Int×(Bool×Int)→Prop) (d n o c:Nat) (h0:ae) (y:Value) (a k:Nat) (m:Nat) (e:Env) (h':ae):Prop:=
 ∃i:Int,m=(i+1).toNat∧ -1≤i∧i<k∧Env.get e 0= .slice (some ⟨d,0,none⟩) n c∧Env.get e 3=y∧Env.get e 8= .int .i64 a∧Env.get e 9= .int .i64 0∧Env.get e 12= .int .i64 i∧SA P d n o h0 h'
theorem H6 (Y:gH y) {h:ae} {a b:Nat} (hab:a<b) (hbn:b≤n) (hn:n<1000000) (w:SA P d n o h0 h):
  aE FF eE [.slice (some ⟨d,0,none⟩) n c,.int .i64 a,.int .i64 b,y] h (fun _ h'=>SA P d n o h0 h'):=by
 obtain⟨k,hk⟩: ∃k,k=b-a:=⟨_,rfl⟩
 have w1:IntKind.i64.wrap ((b:Int)-(a:Int))=(k:Int):=by rw[wrap_i64 _ (by omega) (by omega)];omega
 obtain⟨k1,hk1⟩: ∃k1,k1=k-1:=⟨_,rfl⟩
 have w2:IntKind.i64.wrap ((k:Int)-1)=(k1:Int):=by rw[wrap_i64 _ (by omega) (by omega)];omega
 have w3:IntKind.i64.wrap ((k1:Int)/2)=(k1:Int)/2:=wrap_i64 _ (by omega) (by omega)
 refine aE.of jr ?_
 unfold eD
 simp[w1,w2,w3]
 refine az.loop (Qt P d n o c h0 y a k) ?_ (n:=k1/2+1) ⟨((k1/2:Nat):Int),by omega,by omega,by omega,by simp,by simp,by simp,by simp,by simp,by simp,w⟩
 rintro m e' h' ⟨i,rfl,hi1,hi2,q0,q3,q8,q9,q10,q11,w'⟩
 unfold dS
 by_cases hi:0≤i
 ·obtain⟨i,rfl⟩: ∃i':Nat,i=i':=⟨i.toNat,by omega⟩
  have wi:=wrap_i64 ((i:Int)-1) (by omega) (by omega)
  simp[q0,q3,q8,q10,q11,hi]
  refine aD.call (V:=fun _ h'=>SA P d n o h0 h') (by simpa using Aa (c:=c) Y (lo:=i) (hi:=k) (first:=a) (by omega) hn (by omega) w') ?_
  rintro v h2 w2
  simp[q11,wi]
  exact⟨((i:Int)-1+1).toNat,by omega,(i:Int)-1,rfl,by omega,by omega,by simp[q0],by simp[q3],by simp[q8],by simp[q9],by simp[q10],by simp,w2⟩
 ·have hi':i= -1:=by omega
  subst hi'
  simp[q10,q11,w2]
  refine az.loop (Qo P d n o c h0 y a k) ?_ (n:=k1+1) ⟨(k1:Int),by omega,by omega,by omega,by simp[q0],by simp[q3],by simp[q8],by simp[q9],by simp,w'⟩
  rintro m e2 h2 ⟨i,rfl,hi1,hi2,q0,q3,q8,q9,q12,w2⟩
  unfold dX
  by_cases hi:0≤i
  ·obtain⟨i,rfl⟩: ∃i':Nat,i=i':=⟨i.toNat,by omega⟩
   have wi:=wrap_i64 ((i:Int)-1) (by omega) (by omega)
   obtain⟨j,hj⟩: ∃j,j=a+i:=⟨_,rfl⟩
   have wj:IntKind.i64.wrap ((a:Int)+(i:Int))=(j:Int):=by rw[wrap_i64 _ (by omega) (by omega)];omega
   have han:a<n:=by omega
   have hjn:j<n:=by omega
   obtain⟨g,xs,s,hb,hl,hP⟩:=id w2
   obtain⟨x,hx⟩: ∃x,xs[a]? =some x:=⟨_,aQ (by omega)⟩
   obtain⟨z,hz⟩: ∃z,xs[j]? =some z:=⟨_,aQ (by omega)⟩
   have rx:=bq hb hx
   have rz:=bq hb hz
   have l1:a*3+3≤xs.length*3:=by omega
   have l2:j*3+3≤xs.length*3:=by omega
   have sp:=eW xs a z (by omega)
   simp[q0,q3,q8,q9,q12,wj,han,hjn,rx,rz,aB,hb,l1,l2,sp,-ag]
   have w3:=SA.swap (h:=tick h2) g.tick hb hl hP hx hz
   refine aD.call (V:=fun _ h'=>SA P d n o h0 h') (by simpa using Aa (c:=c) Y (lo:=0) (hi:=i) (first:=a) (by omega) hn (by omega) w3) ?_
   rintro v h4 w4
   simp[q12,wi]
   exact⟨((i:Int)-1+1).toNat,by omega,(i:Int)-1,rfl,by omega,by omega,by simp[q0],by simp[q3],by simp[q8],by simp[q9],by simp,w4⟩
  ·have hi':i= -1:=by omega
   subst hi'
   simp[q12]
   exact w2
end
section
variable {P:Int×(Bool×Int)→Prop} {d n o c:Nat} {h0:ae} {y:Value}
structure SW (P:Int×(Bool×Int)→Prop) (d n o:Nat) (h0:ae) (S:Nat) (h:ae):Prop where
 sa:SA P d n o h0 h
 hS: ∃(k:Int) (s:Nat),h.tr.get S=some (.aA [.int .i64 k] false 0 s)
 n0:h0.next≤S
 ne:S≠d
theorem SW.aW {h h':ae} {S:Nat} (w:SW P d n o h0 S h) (g:ab aG h h'):SW P d n o h0 S h':=by
 obtain⟨k,s,hS⟩:=w.hS
 exact⟨w.sa.aW g,⟨k,s,g.get w.sa.1.ok hS (fun h=>h)⟩,w.n0,w.ne⟩
def Mh (P:Int×(Bool×Int)→Prop) (d n o:Nat) (h0:ae) (S a b:Nat) (v:Value) (h':ae):Prop:=SW P d n o h0 S h'∧((v= .tuple #[.int .i64 a,.int .i64 b])∨v= .tuple #[.int .i64 b,.int .i64 a])
theorem iv (Y:gH y) {h:ae} {a b S:Nat} (ha:a<n) (hb:b<n) (w:SW P d n o h0 S h):
  aE FF fm [.slice (some ⟨d,0,none⟩) n c,.int .i64 a,.int .i64 b,.pointer (some ⟨S,0,none⟩),y] h (Mh P d n o h0 S a b):=by
 obtain⟨g,xs,s,hbk,hl,hP⟩:=id w.sa
 obtain⟨x,hx⟩: ∃x,xs[b]? =some x:=⟨_,aQ (by omega)⟩
 obtain⟨z,hz⟩: ∃z,xs[a]? =some z:=⟨_,aQ (by omega)⟩
 have rx:=bq hbk hx
 have rz:=bq hbk hz
 refine aE.of jY ?_
 unfold fh
 simp[ha,hb,rx,rz,aB,-ag]
 refine aP.cut (fun h1=>ab aG h h1) ?_ ?_
 ·exact(ab.refl g.ok).tick
 intro h1 g1
 refine aP.cm (V:=fun v h''=>(∃c:Int,v= .int .i64 c)∧ab aG h1 h'') (by simpa using Y h1 x z g1.ok) ?_
 rintro _ h2 ⟨⟨cv,rfl⟩,g2⟩
 have w2:=(w.aW g1).aW g2
 by_cases hc:cv<0
 ·obtain⟨k,sk,hS⟩:=w2.hS
  simp[hc,hS]
  have gw:=aJ w2.sa.1.ok hS (off:=0) (vs:=[.int .i64 (IntKind.i64.wrap (k+1))])
  obtain⟨gg,xs2,s2,hb2,hl2,hP2⟩:=id w2.sa
  refine⟨⟨⟨gg.trans' gw (fun _ _ h=>h) (fun x hx e=>by have:=w2.n0;omega),xs2,s2,gw.get gg.ok hb2 (fun e=>w2.ne e.symm),hl2,hP2⟩,⟨_,_,by rw[ax];rfl⟩,w2.n0,w2.ne⟩,.inr rfl⟩
 ·simp[hc]
  exact⟨w2,.inl rfl⟩
def NX (P:Int×(Bool×Int)→Prop) (d n o:Nat) (h0:ae) (S a b k:Nat) (v:Value) (h':ae):Prop:=SW P d n o h0 S h'∧ ∃r:Nat,v= .int .i64 r∧(r=a∨r=b∨r=k)
theorem C3 (Y:gH y) {h:ae} {a b k S:Nat} (ha:a<n) (hb:b<n) (hk:k<n) (w:SW P d n o h0 S h):
  aE FF fg [.slice (some ⟨d,0,none⟩) n c,.int .i64 a,.int .i64 b,.int .i64 k,.pointer (some ⟨S,0,none⟩),y] h (NX P d n o h0 S a b k):=by
 refine aE.of jR ?_
 unfold eU
 simp
 have third: ∀(a b:Nat) (e:Env) (h:ae),a<n→b<n→SW P d n o h0 S h→True:=fun _ _ _ _ _ _ _=>trivial
 refine aD.call (V:=Mh P d n o h0 S a b) (by simpa using iv Y ha hb w) ?_
 rintro _ h1 ⟨w1,rfl|rfl⟩
 ·simp
  refine aD.call (V:=Mh P d n o h0 S b k) (by simpa using iv Y hb hk w1) ?_
  rintro _ h2 ⟨w2,rfl|rfl⟩
  ·simp
   refine aD.call (V:=Mh P d n o h0 S a b) (by simpa using iv Y ha hb w2) ?_
   rintro _ h3 ⟨w3,rfl|rfl⟩
   ·simp;exact⟨w3,b,rfl,by simp⟩
   ·simp;exact⟨w3,a,rfl,by simp⟩
  ·simp
   refine aD.call (V:=Mh P d n o h0 S a k) (by simpa using iv Y ha hk w2) ?_
   rintro _ h3 ⟨w3,rfl|rfl⟩
   ·simp;exact⟨w3,k,rfl,by simp⟩
   ·simp;exact⟨w3,a,rfl,by simp⟩
 ·simp
  refine aD.call (V:=Mh P d n o h0 S a k) (by simpa using iv Y ha hk w1) ?_
  rintro _ h2 ⟨w2,rfl|rfl⟩
  ·simp
   refine aD.call (V:=Mh P d n o h0 S b a) (by simpa using iv Y hb ha w2) ?_
   rintro _ h3 ⟨w3,rfl|rfl⟩
   ·simp;exact⟨w3,a,rfl,by simp⟩
   ·simp;exact⟨w3,b,rfl,by simp⟩
  ·simp
   refine aD.call (V:=Mh P d n o h0 S b k) (by simpa using iv Y hb hk w2) ?_
   rintro _ h3 ⟨w3,rfl|rfl⟩
   ·simp;exact⟨w3,k,rfl,by simp⟩
   ·simp;exact⟨w3,b,rfl,by simp⟩
def QM (P:Int×(Bool×Int)→Prop) (d n o a b:Nat) (h0:ae) (v:Value) (h':ae):Prop:=SA P d n o h0 h'∧ ∃(j:Nat) (t:Int),v= .tuple #[.int .i64 j,.int .i64 t]∧a≤j∧j<b
theorem Hr {a b n:Nat} (hab:a+8≤b) (hbn:b≤n) (hn:n<50): ∃l q q2 q3 i j k:Nat,IntKind.i64.wrap ((b:Int)-(a:Int))=(l:Int)∧IntKind.i64.wrap ((l:Int)/4)=(q:Int)∧IntKind.i64.wrap (q:Int)=(q:Int)∧IntKind.i64.wrap ((q:Int)*2)=(q2:Int)∧IntKind.i64.wrap ((q:Int)*3)=(q3:Int)∧
  IntKind.i64.wrap ((a:Int)+(q:Int))=(i:Int)∧IntKind.i64.wrap ((a:Int)+(q2:Int))=(j:Int)∧IntKind.i64.wrap ((a:Int)+(q3:Int))=(k:Int)∧(8:Int)≤l∧ ¬(50:Int)≤l∧(a≤i∧i<b)∧(a≤j∧j<b)∧(a≤k∧k<b):=by
 obtain⟨l,hl⟩: ∃l,l=b-a:=⟨_,rfl⟩
 have w1:IntKind.i64.wrap ((b:Int)-(a:Int))=(l:Int):=by rw[wrap_i64 _ (by omega) (by omega)];omega
 obtain⟨q,hq⟩: ∃q,q=l/4:=⟨_,rfl⟩
 have w2:IntKind.i64.wrap ((l:Int)/4)=(q:Int):=by rw[wrap_i64 _ (by omega) (by omega)];omega
 have w3:IntKind.i64.wrap (q:Int)=(q:Int):=wrap_i64 _ (by omega) (by omega)
 obtain⟨q2,hq2⟩: ∃q2,q2=q*2:=⟨_,rfl⟩
 obtain⟨q3,hq3⟩: ∃q3,q3=q*3:=⟨_,rfl⟩
 have w4:IntKind.i64.wrap ((q:Int)*2)=(q2:Int):=by rw[wrap_i64 _ (by omega) (by omega)];omega
 have w5:IntKind.i64.wrap ((q:Int)*3)=(q3:Int):=by rw[wrap_i64 _ (by omega) (by omega)];omega
 obtain⟨i,hi⟩: ∃i,i=a+q:=⟨_,rfl⟩
 obtain⟨j,hj⟩: ∃j,j=a+q2:=⟨_,rfl⟩
 obtain⟨k,hk⟩: ∃k,k=a+q3:=⟨_,rfl⟩
 have w6:IntKind.i64.wrap ((a:Int)+(q:Int))=(i:Int):=by rw[wrap_i64 _ (by omega) (by omega)];omega
 have w7:IntKind.i64.wrap ((a:Int)+(q2:Int))=(j:Int):=by rw[wrap_i64 _ (by omega) (by omega)];omega
 have w8:IntKind.i64.wrap ((a:Int)+(q3:Int))=(k:Int):=by rw[wrap_i64 _ (by omega) (by omega)];omega
 have h8:(8:Int)≤l:=by omega
 have h50: ¬(50:Int)≤l:=by omega
 exact⟨l,q,q2,q3,i,j,k,w1,w2,w3,w4,w5,w6,w7,w8,h8,h50,⟨by omega,by omega⟩,⟨by omega,by omega⟩,⟨by omega,by omega⟩⟩
theorem Fv (Y:gH y) {h:ae} (hdh:h0.next≤h.next) {a b:Nat} (hab:a+8≤b) (hbn:b≤n) (hn:n<50) (w:SA P d n o h0 h):
  aE FF dK [.slice (some ⟨d,0,none⟩) n c,.int .i64 a,.int .i64 b,y] h (QM P d n o a b h0):=by
 obtain⟨l,q,q2,q3,i,j,k,w1,w2,w3,w4,w5,w6,w7,w8,h8,h50,⟨i1,i2⟩,⟨j1,j2⟩,k1,k2⟩:=Hr hab hbn hn
 obtain⟨g,xs,s,hbk,hxl,hP⟩:=id w
 have ld:=(g.ok.bl hbk).lt
 refine aE.of iA ?_
 unfold dI
 simp[w1,w2,w3,w4,w5,w6,w7,w8,h8,h50]
 refine aD.cut (fun h1=>SW P d n o h0 h.next h1) ?_ ?_
 ·have gn:ab aG h (aH h [.int .i64 0] 0):=(ab.refl g.ok).new _ _
  exact⟨w.aW gn,⟨0,0,by simp⟩,hdh,by omega⟩
 intro h1 w1
 refine aD.call (V:=NX P d n o h0 h.next i j k) (by simpa using C3 (c:=c) Y (Nat.lt_of_lt_of_le i2 hbn) (Nat.lt_of_lt_of_le j2 hbn) (Nat.lt_of_lt_of_le k2 hbn) w1) ?_
 rintro _ h2 ⟨w2,r,rfl,hr⟩
 have hr1:a≤r:=by rcases hr with rfl|rfl|rfl<;>assumption
 have hr2:r<b:=by rcases hr with rfl|rfl|rfl<;>assumption
 clear w3 w4 w5 w6 w7 w8 h8 h50
 obtain⟨sw,ss,hS⟩:=w2.hS
 by_cases e0:sw=0
 ·subst e0
  simp[hS]
  exact⟨w2.sa,r,1,rfl,hr1,hr2⟩
 ·have e0':(sw==0)=false:=by simpa using e0
  by_cases e12:sw=12
  ·subst e12
   simp[hS]
   exact⟨w2.sa,r,2,rfl,hr1,hr2⟩
  ·have e12':(sw==12)=false:=by simpa using e12
   simp[hS,e0',e12',e0,e12]
   exact⟨w2.sa,r,(0:Int),rfl,hr1,hr2⟩
def PiI (P:Int×(Bool×Int)→Prop) (d n o c:Nat) (h0:ae) (y:Value) (a b:Nat) (m:Nat) (e:Env) (h':ae):Prop:=
 ∃i:Nat,m=b-i∧a<i∧i≤b∧Env.get e 0= .slice (some ⟨d,0,none⟩) n c∧Env.get e 1= .int .i64 a∧Env.get e 2= .int .i64 b∧Env.get e 3=y∧Env.get e 9= .int .i64 i∧SA P d n o h0 h'
def Oi (P:Int×(Bool×Int)→Prop) (d n o:Nat) (h0:ae) (v:Value) (h':ae):Prop:=SA P d n o h0 h'∧ ∃t:Bool,v= .bool t
theorem BP (Y:gH y) {h:ae} {a b:Nat} (hab:a<b) (hbn:b≤n) (hn:n<50) (w:SA P d n o h0 h):
  aE FF cS [.slice (some ⟨d,0,none⟩) n c,.int .i64 a,.int .i64 b,y] h (Oi P d n o h0):=by
 have w0:=wrap_i64 ((a:Int)+1) (by omega) (by omega)
 have w1:=wrap_i64 ((b:Int)-(a:Int)) (by omega) (by omega)
 refine aE.of fp ?_
 unfold cP
 simp[w0]
 rw[kG]
 unfold cJ
 simp
 refine az.loop (PiI P d n o c h0 y a b) ?_ (n:=b-(a+1)) ⟨a+1,rfl,by omega,by omega,by simp,by simp,by simp,by simp,by simp,w⟩
 rintro m e' h' ⟨i,rfl,hai,hib,q0,q1,q2,q3,q9,w'⟩
 obtain⟨g,xs,s,hb,hl,hP⟩:=id w'
 unfold cK
 have hlt:(b:Int)-(a:Int)<50:=by omega
 by_cases hi:i<b
 ·obtain⟨k,hk⟩: ∃k,k=i-1:=⟨_,rfl⟩
  have wk:IntKind.i64.wrap ((i:Int)-1)=(k:Int):=by rw[wrap_i64 _ (by omega) (by omega)];omega
  have wi:=wrap_i64 ((i:Int)+1) (by omega) (by omega)
  have hin:i<n:=by omega
  have hkn:k<n:=by omega
  obtain⟨x,hx⟩: ∃x,xs[i]? =some x:=⟨_,aQ (by omega)⟩
  obtain⟨z,hz⟩: ∃z,xs[k]? =some z:=⟨_,aQ (by omega)⟩
  have rx:=bq hb hx
  have rz:=bq hb hz
  simp[q0,q2,q3,q9,hi,hin,hkn,wk,rx,rz,aB,-ag]
  refine aP.cut (fun h1=>ab aG h' h1) ?_ ?_
  ·exact(ab.refl g.ok).tick
  intro h1 g1
  refine aP.cm (V:=fun v h''=>(∃c:Int,v= .int .i64 c)∧ab aG h1 h'') (by simpa [q3] using Y h1 x z g1.ok) ?_
  rintro _ h2 ⟨⟨cv,rfl⟩,g2⟩
  have w2:=(w'.aW g1).aW g2
  by_cases hc:cv<0
  ·have hne:((i:Int)==(b:Int))=false:=by simp;omega
   simp[hc,q1,q2,q9,hne,w1,hlt]
   exact⟨w2,_,rfl⟩
  ·simp[hc,q9,wi]
   exact⟨b-(i+1),by omega,i+1,rfl,by omega,by omega,by simp[q0],by simp[q1],by simp[q2],by simp[q3],by simp,w2⟩
 ·have hib:i=b:=by omega
  subst hib
  simp[q2,q9]
  exact⟨w'.aW ((ab.refl g.ok).tick),_,rfl⟩
end
def Cv:ByteArray:=⟨⟨[0,1,2,2,3,3,3,3,4,4,4,4,4,4,4,4,5,5,5,5,5,5,5,5,5,5,5,5,5,5,5,5,6,6,6,6,6,6,6,6,6,6,6,6,6,6,6,6,6,6,6,6,6,6,6,6,6,6,6,6,6,6,6,6,7,7,7,7,7,7,7,7,7,7,7,7,7,7,7,7,7,7,7,7,7,7,7,7,7,7,7,7,7,7,7,7,7,7,7,7,7,7,7,7,7,7,7,7,7,7,7,7,7,7,7,7,7,7,7,7,7,7,7,7,7,7,7,7,8,8,8,8,8,8,8,8,8,8,8,8,8,8,8,8,8,8,8,8,8,8,8,8,8,8,8,8,8,8,8,8,8,8,8,8,8,8,8,8,8,8,8,8,8,8,8,8,8,8,8,8,8,8,8,8,8,8,8,8,8,8,8,8,8,8,8,8,8,8,8,8,8,8,8,8,8,8,8,8,8,8,8,8,8,8,8,8,8,8,8,8,8,8,8,8,8,8,8,8,8,8,8,8,8,8,8,8,8,8,8,8,8,8,8,8,8,8,8,8,8,8,8,8,8,8,8,8]⟩⟩
def lenOf (n:Nat):Nat:=if n=0 then 0 else if n<2 then 1 else if n<4 then 2 else if n<8 then 3 else if n<16 then 4 else if n<32 then 5 else 6
def Md (n:Nat):Bool:=match Cv[n]? with
 |some u=>u.toNat==lenOf n
 |none=>false
theorem Eo:(List.range 64).all Md=true:=by kernel_rfl
theorem Ip {n:Nat} (h:n<64): ∃u,Cv[n]? =some u∧u.toNat=lenOf n:=by
 have:=List.all_eq_true.1 Eo n (List.mem_range.2 h)
 unfold Md at this
 split at this
 ·rename_i u hu
  exact⟨u,hu,by simpa using this⟩
 ·cases this
def Km (t:ByteArray):aj:=(.seq (.ops [k_ 2 0]) (.seq (.seq (.ops [m_ 3 0,o_ 4 (.bin .geq [] (t_ 3) (.const (.int .u64 4294967296)))]) (.cond (t_ 4) (.seq (.ops [m_ 5 0,o_ 6 (.bin .shr [] (t_ 5) (.const (.int .u64 32))),m_ 0 6]) (.ops [k_ 2 32])) .skip)) (.seq (.seq (.ops [m_ 7 0,o_ 8 (.bin .geq [] (t_ 7) (.const (.int .u64 65536)))]) (.cond (t_ 8) (.seq (.ops [m_ 9 0,o_ 10 (.bin .shr [] (t_ 9) (.const (.int .u64 16))),m_ 0 10]) (.ops [m_ 11 2,C_ 12 .add 11 16,m_ 2 12])) .skip)) (.seq (.seq (.ops [m_ 13 0,o_ 14 (.bin .geq [] (t_ 13) (.const (.int .u64 256)))]) (.cond (t_ 14) (.seq (.ops [m_ 15 0,o_ 16 (.bin .shr [] (t_ 15) (.const (.int .u64 8))),m_ 0 16]) (.ops [m_ 17 2,C_ 18 .add 17 8,m_ 2 18])) .skip)) (.seq (.ops [m_ 19 2,m_ 20 0,o_ 21 (.conv .u8 (t_ 20)),o_ 22 (.index none (.const (.string t)) (t_ 21)),o_ 23 (.conv .i64 (t_ 22)),B_ 24 .add 19 23,m_ 2 24]) .ret)))))
theorem Ly:FF j9=some ⟨[.tmp 2],Km Cv,.no⟩:=vD
theorem wrap_u8 (n:Int) (h:0≤n) (h':n<256):IntKind.u8.wrap n=n:=by
 simp only[IntKind.wrap,IntKind.signed,IntKind.bits]
 simp
 omega
theorem vF (n:Nat):lenOf n≤6:=by
 unfold lenOf
 repeat (split;omega)
 omega
theorem Ff (h:ae) (n:Nat) (hn:n<64):aE FF j9 [.int .u64 (n:Nat)] h (fun v h'=>v= .int .i64 (lenOf n)∧h'=h):=by
 obtain⟨u,hu,hu2⟩:=Ip hn
 have hl:=vF n
 have w1:=wrap_u8 (n:Int) (by omega) (by omega)
 have w2:=wrap_i64 (lenOf n:Int) (by omega) (by omega)
 have c1: ¬(4294967296:Int)≤n:=by omega
 have c2: ¬(65536:Int)≤n:=by omega
 have c3: ¬(256:Int)≤n:=by omega
 refine aE.of Ly ?_
 generalize Cv=t at hu
 unfold Km
 simp[c1,c2,c3,w1,w2,hu,hu2]
theorem yQ (h:ae) (n:Nat) (hn:n<64):aE FF qT [.int .u64 (n:Nat)] h (fun v h'=>v= .int .i64 (lenOf n)∧h'=h):=by
 refine aE.of xz ?_
 unfold qP
 simp
 rw[sQ (t:=false) rfl]
 simp
 refine aD.call (V:=fun v h'=>v= .int .i64 (lenOf n)∧h'=h) (by simpa using Ff h n hn) ?_
 rintro _ h' ⟨rfl,rfl⟩
 simp
theorem Je (h:ae) (n:Nat) (hn:n<64):aE FF jF [.int .i64 (n:Nat)] h (fun v h'=>v= .int .u64 ((2^lenOf n:Nat):Int)∧h'=h):=by
 have w:=fG (n:Int) (by omega) (by omega)
 have hl:=vF n
 refine aE.of p8 ?_
 unfold jG
 simp[w]
 refine aD.call (V:=fun v h'=>v= .int .i64 (lenOf n)∧h'=h) (by simpa using yQ h n hn) ?_
 rintro _ h' ⟨rfl,rfl⟩
 generalize lenOf n=k at*
 have s0: ∀k:Nat,k≤6→gQ .shl .u64 1 (k:Int)=some (.int .u64 (2^k)):=by
  intro k hk
  rcases(show k=0∨k=1∨k=2∨k=3∨k=4∨k=5∨k=6 by omega) with rfl|rfl|rfl|rfl|rfl|rfl|rfl<;>rfl
 have s1:=s0 k hl
 simp[s1]
def QZ (h:ae) (R:Nat) (v:Value) (h':ae):Prop:=(∃x:Int,v= .int .u64 x)∧ab (· =R) h h'∧ ∃(x:Int) (s:Nat),h'.tr.get R=some (.aA [.int .u64 x] false 0 s)
theorem Il {h:ae} (ok:bh h) {R s:Nat} {x:Int} (hR:h.tr.get R=some (.aA [.int .u64 x] false 0 s)):aE FF jQ [.pointer (some ⟨R,0,none⟩)] h (QZ h R):=by
 refine aE.of qu ?_
 unfold jO
 have sh: ∀x:Int,∃z,gQ .shl .u64 x 13=some (.int .u64 z):=fun x=>⟨_,rfl⟩
 have sr: ∀x:Int,∃z,gQ .shr .u64 x 7=some (.int .u64 z):=fun x=>⟨_,rfl⟩
 have sl: ∀x:Int,∃z,gQ .shl .u64 x 17=some (.int .u64 z):=fun x=>⟨_,rfl⟩
 have xo: ∀x z:Int,∃w,ew .xor .u64 x z=some (.int .u64 w):=fun x z=>⟨_,rfl⟩
 obtain⟨a1,e1⟩:=sh x
 obtain⟨a2,e2⟩:=xo x a1
 obtain⟨a3,e3⟩:=sr a2
 obtain⟨a4,e4⟩:=xo a2 a3
 obtain⟨a5,e5⟩:=sl a4
 obtain⟨a6,e6⟩:=xo a4 a5
 simp[hR,e1,e2,e3,e4,e5,e6,-ew]
 have gt:ab aG h (tick h):=(ab.refl ok).tick
 have g1:ab (· =R) h (put (tick h) R 0 [.int .u64 x] [.int .u64 a2] 0):=gt.aW.trans (aJ gt.ok hR)
 have h1:(put (tick h) R 0 [.int .u64 x] [.int .u64 a2] 0).tr.get R=some (.aA [.int .u64 a2] false 0 (tick h).clock):=ax _ _ _ _ _ _
 have g2:=(g1.tick).trans (aJ g1.tick.ok h1 (off:=0) (vs:=[.int .u64 a4]))
 have h2:(put (tick (put (tick h) R 0 [.int .u64 x] [.int .u64 a2] 0)) R 0 [.int .u64 a2] [.int .u64 a4] 0).tr.get R=some (.aA [.int .u64 a4] false 0 (tick (put (tick h) R 0 [.int .u64 x] [.int .u64 a2] 0)).clock):=ax _ _ _ _ _ _
 have g3:=(g2.tick).trans (aJ g2.tick.ok h2 (off:=0) (vs:=[.int .u64 a6]))
 exact⟨⟨a6,rfl⟩,g3,a6,_,ax _ _ _ _ _ _⟩
section
variable {P:Int×(Bool×Int)→Prop} {d n o c:Nat} {h0:ae} {y:Value}
theorem ML (x:Int) (k:Nat) (hk:k≤6): ∃r:Nat,ew .and .u64 x ((2^k:Nat)-1:Int)=some (.int .u64 r)∧r<2^k:=by
 have e:(BitVec.ofInt 64 ((2^k:Nat)-1:Int)).toNat=2^k-1:=by
  rcases(show k=0∨k=1∨k=2∨k=3∨k=4∨k=5∨k=6 by omega) with rfl|rfl|rfl|rfl|rfl|rfl|rfl<;>decide
 have hle:2^k≤64:=by
  rcases(show k=0∨k=1∨k=2∨k=3∨k=4∨k=5∨k=6 by omega) with rfl|rfl|rfl|rfl|rfl|rfl|rfl<;>decide
 have hp:0<2^k:=Nat.two_pow_pos k
 have ha:(BitVec.ofInt 64 x &&& BitVec.ofInt 64 ((2^k:Nat)-1:Int)).toNat<2^k:=by
  rw[BitVec.toNat_and,e]
  have:=Nat.and_le_right (n:=(BitVec.ofInt 64 x).toNat) (m:=2^k-1)
  omega
 refine⟨(BitVec.ofInt 64 x &&& BitVec.ofInt 64 ((2^k:Nat)-1:Int)).toNat,?_,ha⟩
 show some (Value.int .u64 (IntKind.u64.wrap ((BitVec.ofInt 64 x &&& BitVec.ofInt 64 ((2^k:Nat)-1:Int)).toNat:Int)))=_
 rw[fG _ (by omega) (by omega)]
structure SR (P:Int×(Bool×Int)→Prop) (d n o:Nat) (h0:ae) (R:Nat) (h:ae):Prop where
 sa:SA P d n o h0 h
 hR: ∃(x:Int) (s:Nat),h.tr.get R=some (.aA [.int .u64 x] false 0 s)
 n0:h0.next≤R
 ne:R≠d
def BpI (P:Int×(Bool×Int)→Prop) (d n o c:Nat) (h0:ae) (R a l M q:Nat) (m:Nat) (e:Env) (h':ae):Prop:=
 ∃i:Nat,m=a+q+2-i∧a+q≤i+1∧i≤a+q+2∧Env.get e 0= .slice (some ⟨d,0,none⟩) n c∧Env.get e 1= .int .i64 a∧Env.get e 8= .int .i64 l∧Env.get e 9= .pointer (some ⟨R,0,none⟩)∧Env.get e 10= .int .u64 (M:Int)∧Env.get e 11= .int .i64 i∧SR P d n o h0 R h'
def Fp:aj:=(.seq (.seq (.ops [m_ 43 12,m_ 44 8,B_ 45 .geq 43 44]) (.cond (t_ 45) (.ops [m_ 46 12,m_ 47 8,B_ 48 .sub 46 47,m_ 12 48]) .skip)) (.draw [D_ (m_ 49 0),D_ (m_ 50 11),D_ (m_ 51 0),D_ (m_ 52 1),D_ (m_ 53 12),D_ (B_ 54 .add 52 53),D_ (m_ 55 0),D_ (m_ 56 1),D_ (m_ 57 12),D_ (B_ 58 .add 56 57),D_ (a_ 59 3 55 58),D_ (L_ 60 3 59),D_ (m_ 61 0),D_ (m_ 62 11),D_ (a_ 63 3 61 62),D_ (L_ 64 3 63),D_ (a_ 65 3 49 50),D_ (s_ 3 65 60),D_ (a_ 66 3 51 54),D_ (s_ 3 66 64)]))
theorem Jh:dg= .seq (.seq (.ops [m_ 28 11,m_ 29 1,m_ 30 8,C_ 31 .quo 30 4,C_ 32 .mul 31 2,B_ 33 .add 29 32,C_ 34 .add 33 1,B_ 35 .leq 28 34]) (.cond (t_ 35) .skip (.exit 0))) (.seq (.block 1 (.seq (.ops [F_ 38 111 [t_ 9],m_ 39 10,o_ 40 (.bin .sub [] (t_ 39) (.const (.int .u64 1))),B_ 41 .and 38 40,o_ 42 (.conv .i64 (t_ 41)),m_ 12 42]) Fp)) (.ops [m_ 36 11,C_ 37 .add 36 1,m_ 11 37])):=rfl
theorem Lu {h:ae} {R a l r i:Nat} (hl:a+l≤n) (hn:n<50) (hr:r<2*l) (hi:i<n) (w:SR P d n o h0 R h) {e:Env} {Q:aO→Env→ae→Prop} (q0:Env.get e 0= .slice (some ⟨d,0,none⟩) n c) (q1:Env.get e 1= .int .i64 a) (q8:Env.get e 8= .int .i64 l) (q11:Env.get e 11= .int .i64 i) (q12:Env.get e 12= .int .i64 r)
  (C: ∀e' h',SR P d n o h0 R h'→aC [12,43,44,45,46,47,48,49,50,51,52,53,54,55,56,57,58,59,60,61,62,63,64,65,66] e e'→Q .normal e' h'):az FF Fp e h Q:=by
 obtain⟨x3,s3,hR3⟩:=w.hR
 obtain⟨r2,hr2,hr2l⟩: ∃r2:Nat,(if l≤r then(r2:Int)=(r:Int)-(l:Int) else r2=r)∧r2<l:=by
  by_cases h:l≤r
  ·exact⟨r-l,by rw[if_pos h];omega,by omega⟩
  ·exact⟨r,by rw[if_neg h],by omega⟩
 obtain⟨j,hj⟩: ∃j,j=a+r2:=⟨_,rfl⟩
 have wj:IntKind.i64.wrap ((a:Int)+(r2:Int))=(j:Int):=by rw[wrap_i64 _ (by omega) (by omega)];omega
 have hjn:j<n:=by omega
 obtain⟨g2,xs2,s2,hb2,hl2,hP2⟩:=id w.sa
 obtain⟨x,hx⟩: ∃x,xs2[i]? =some x:=⟨_,aQ (by omega)⟩
 obtain⟨z,hz⟩: ∃z,xs2[j]? =some z:=⟨_,aQ (by omega)⟩
 have rdx:=bq hb2 hx
 have rdz:=bq hb2 hz
 have l1:i*3+3≤xs2.length*3:=by omega
 have l2:j*3+3≤xs2.length*3:=by omega
 have sp:=eW xs2 i z (by omega)
 have sw:=SA.swap (h:=tick h) g2.tick hb2 hl2 hP2 hx hz
 have gsw:ab (· =d) h (put (put (tick h) d (i*3) (jN.flat xs2) [.int .i64 z.1,.bool z.2.1,.int .i64 z.2.2] o) d (j*3) (jN.flat (xs2.set i z)) [.int .i64 x.1,.bool x.2.1,.int .i64 x.2.2] o):=by
  have gt:ab aG h (tick h):=(ab.refl g2.ok).tick
  have g4:=gt.aW.trans (aJ gt.ok (b:=d) hb2 (off:=i*3) (vs:=[.int .i64 z.1,.bool z.2.1,.int .i64 z.2.2]))
  exact g4.trans (aJ g4.ok (by rw[ax,sp]))
 have SRf:SR P d n o h0 R (put (put (tick h) d (i*3) (jN.flat xs2) [.int .i64 z.1,.bool z.2.1,.int .i64 z.2.2] o) d (j*3) (jN.flat (xs2.set i z)) [.int .i64 x.1,.bool x.2.1,.int .i64 x.2.2] o):=⟨sw,⟨x3,s3,gsw.get g2.ok hR3 w.ne⟩,w.n0,w.ne⟩
 unfold Fp
 by_cases hrl:l≤r
 ·rw[if_pos hrl] at hr2
  have w10:IntKind.i64.wrap ((r:Int)-(l:Int))=(r2:Int):=by rw[wrap_i64 _ (by omega) (by omega)];omega
  simp[q0,q1,q8,q11,q12,hrl,w10,wj,hi,hjn,rdx,rdz,aB,hb2,l1,l2,sp,-ag]
  refine C _ _ SRf ?_
  repeat (refine aC.set (by decide) ?_)
  exact aC.refl _ _
 ·rw[if_neg hrl] at hr2
  subst hr2
  simp[q0,q1,q8,q11,q12,hrl,wj,hi,hjn,rdx,rdz,aB,hb2,l1,l2,sp,-ag]
  refine C _ _ SRf ?_
  repeat (refine aC.set (by decide) ?_)
  exact aC.refl _ _
theorem Ev {h:ae} (hdh:h0.next≤h.next) {a b:Nat} (hab:a+13≤b) (hbn:b≤n) (hn:n<50) (w:SA P d n o h0 h):
  aE FF dy [.slice (some ⟨d,0,none⟩) n c,.int .i64 a,.int .i64 b,y] h (fun _ h'=>SA P d n o h0 h'):=by
 obtain⟨l,hl⟩: ∃l,l=b-a:=⟨_,rfl⟩
 have w1:IntKind.i64.wrap ((b:Int)-(a:Int))=(l:Int):=by rw[wrap_i64 _ (by omega) (by omega)];omega
 obtain⟨q4,hq4⟩: ∃q,q=l/4:=⟨_,rfl⟩
 have w2:IntKind.i64.wrap ((l:Int)/4)=(q4:Int):=by rw[wrap_i64 _ (by omega) (by omega)];omega
 obtain⟨q,hq⟩: ∃q,q=q4*2:=⟨_,rfl⟩
 have w3:IntKind.i64.wrap ((q4:Int)*2)=(q:Int):=by rw[wrap_i64 _ (by omega) (by omega)];omega
 have w4:IntKind.i64.wrap ((a:Int)+(q:Int))=((a+q:Nat):Int):=by rw[wrap_i64 _ (by omega) (by omega)];omega
 obtain⟨i0,hi0⟩: ∃i,i=a+q-1:=⟨_,rfl⟩
 have w5:IntKind.i64.wrap (((a+q:Nat):Int)-1)=(i0:Int):=by rw[wrap_i64 _ (by omega) (by omega)];omega
 have w6:=fG (l:Int) (by omega) (by omega)
 have h8:(8:Int)≤l:=by omega
 have hk6:=vF l
 have hpow:=fun h=>Je h l (by omega)
 have hk2:2^lenOf l≤2*l:=by
  unfold lenOf
  repeat (split;omega)
  omega
 have hq1:q+2≤l:=by omega
 have hq2:1≤a+q:=by omega
 clear hq4 hq
 generalize lenOf l=k at*
 have hand: ∀x:Int,∃r:Nat,ew .and .u64 x ((2^k:Nat)-1:Int)=some (.int .u64 r)∧r<2^k:=fun x=>ML x k hk6
 have hMp:=Nat.two_pow_pos k
 generalize 2^k=M at*
 obtain⟨g,xs,s,hbk,hxl,hP⟩:=id w
 have ld:=(g.ok.bl hbk).lt
 refine aE.of gK ?_
 unfold dv
 simp[w1,h8,w6]
 refine aD.cut (fun h1=>SR P d n o h0 h.next h1) ?_ ?_
 ·have gn:ab aG h (put (aH h [.int .u64 0] 0) h.next 0 [.int .u64 0] [.int .u64 l] 0):=(ab.refl g.ok).var _ _
  exact⟨w.aW gn,⟨_,_,ax _ _ _ _ _ _⟩,hdh,by omega⟩
 intro h1 w1'
 refine aD.call (V:=fun v h'=>v= .int .u64 (M:Int)∧h'=h1) (by simpa using hpow h1) ?_
 rintro _ h2 ⟨rfl,e2⟩
 rw[e2]
 have w4':IntKind.i64.wrap ((a:Int)+(q:Int))=(a:Int)+(q:Int):=by rw[w4];omega
 have w5':IntKind.i64.wrap ((a:Int)+(q:Int)-1)=(i0:Int):=by rw[←w5];congr 1
 simp[w2,w3,w4',w5']
 refine az.loop (BpI P d n o c h0 h.next a l M q) ?_ (n:=a+q+2-i0) ⟨i0,rfl,by omega,by omega,by simp,by simp,by simp,by simp,by simp,by simp,w1'⟩
 rintro m e' h' ⟨i,rfl,hi1,hi2,q0,q1,q8,q9,q10,q11,w'⟩
 have w7:IntKind.i64.wrap ((a:Int)+(q:Int)+1)=(a:Int)+(q:Int)+1:=wrap_i64 _ (by omega) (by omega)
 rw[Jh]
 by_cases hi:i≤a+q+1
 ·have hi':(i:Int)≤(a:Int)+(q:Int)+1:=by omega
  obtain⟨x,sx,hR⟩:=w'.hR
  simp[q1,q8,q9,q11,w2,w3,w4',w7,hi']
  refine aD.call (V:=QZ h' h.next) (by simpa [q9] using Il w'.sa.1.ok hR) ?_
  rintro _ h3 ⟨⟨rx,rfl⟩,g3,x3,s3,hR3⟩
  have sa3:SA P d n o h0 h3:=by
   obtain⟨gg,xs2,s2,hb2,hl2,hP2⟩:=w'.sa
   exact⟨gg.trans' g3 (fun _ _ h=>h) (fun x hx e=>by have:=w'.n0;omega),xs2,s2,g3.get gg.ok hb2 (fun e=>w'.ne e.symm),hl2,hP2⟩
  obtain⟨r,hr,hrk⟩:=hand rx
  have w8:IntKind.u64.wrap ((M:Int)-1)=(M:Int)-1:=fG _ (by omega) (by omega)
  have w9:IntKind.i64.wrap (r:Int)=(r:Int):=wrap_i64 _ (by omega) (by omega)
  have hs1:ew .sub .u64 (M:Int) 1=some (.int .u64 ((M:Int)-1)):=by simp[w8]
  have wi:=wrap_i64 ((i:Int)+1) (by omega) (by omega)
  simp[q10,hs1,hr,w9,-ew]
  refine Lu (a:=a) (l:=l) (r:=r) (i:=i) (R:=h.next) (c:=c) (by omega) hn (by omega) (by omega) ⟨sa3,⟨x3,s3,hR3⟩,w'.n0,w'.ne⟩ (by simp[q0]) (by simp[q1]) (by simp[q8]) (by simp[q11]) (by simp) ?_
  intro e4 h4 w4 K4
  have k0:=K4.at (t:=0) (by decide) (by simp;exact q0)
  have k1:=K4.at (t:=1) (by decide) (by simp;exact q1)
  have k8:=K4.at (t:=8) (by decide) (by simp;exact q8)
  have k9:=K4.at (t:=9) (by decide) (by simp;exact q9)
  have k10:=K4.at (t:=10) (by decide) (by simp;exact q10)
  have k11:=K4.at (t:=11) (by decide) (by simp;exact q11)
  simp[k11,wi]
  exact⟨a+q+2-(i+1),by omega,i+1,rfl,by omega,by omega,by simp[k0],by simp[k1],by simp[k8],by simp[k9],by simp[k10],by simp,w4⟩
 ·have hi': ¬(i:Int)≤(a:Int)+(q:Int)+1:=by omega
  simp[q1,q8,q11,w2,w3,w4',w7,hi']
  exact w'.sa
end
def PY:aj:=(.seq (.ops [m_ 38 10,o_ 39 (.un .not (t_ 38))]) (.cond (t_ 39) (.seq (.ops [m_ 40 0,m_ 41 1,m_ 42 2,m_ 43 4,F_ 44 100 [t_ 40,t_ 41,t_ 42,t_ 43]]) (.ops [m_ 45 3,C_ 46 .sub 45 1,m_ 3 46])) .skip))
def QG:aj:=(.ops [m_ 48 0,m_ 49 1,m_ 50 2,m_ 51 4,F_ 52 101 [t_ 48,t_ 49,t_ 50,t_ 51],m_ 47 52,o_ 53 (.ext 0 (t_ 47)),o_ 54 (.ext 1 (t_ 47)),m_ 13 53,m_ 14 54])
def Qk:aj:=(.seq (.ops [m_ 55 14,o_ 56 (.bin .eql [1] (t_ 55) (i_ 2))]) (.cond (t_ 56) (.seq (.ops [m_ 57 0,m_ 58 1,m_ 59 2,m_ 60 4,F_ 61 102 [t_ 57,t_ 58,t_ 59,t_ 60]]) (.seq (.ops [m_ 62 2,C_ 63 .sub 62 1,m_ 64 13,m_ 65 1,B_ 66 .sub 64 65,B_ 67 .sub 63 66,m_ 13 67]) (.ops [k_ 14 1]))) .skip))
def PZ:aj:=(.seq (.ops [m_ 68 10,m_ 69 68,q_ 70 69 true (.mv (t_ 11)),o_ 71 (.pick (t_ 69) (t_ 70) (.const (.bool false))),m_ 72 71,q_ 73 72 true (.mv (t_ 14)),q_ 74 72 true (.bin .eql [1] (t_ 73) (i_ 1)),o_ 75 (.pick (t_ 72) (t_ 74) (.const (.bool false)))]) (.cond (t_ 75) (.seq (.ops [m_ 76 0,m_ 77 1,m_ 78 2,m_ 79 4,F_ 80 103 [t_ 76,t_ 77,t_ 78,t_ 79]]) (.cond (t_ 80) .ret .skip)) .skip))
def Qv:aj:=(.seq (.draw [D_ (m_ 81 1),D_ (C_ 82 .gtr 81 0),D_ (m_ 83 82),(q_ 84 83 true (.mv (t_ 4)),[]),(q_ 85 83 true (.mv (t_ 0)),[]),(q_ 86 83 true (.mv (t_ 1)),[]),(q_ 87 83 true (.bin .sub [] (t_ 86) (i_ 1)),[]),(q_ 88 83 true (.cw none 3 (t_ 85) (t_ 87)),[]),(q_ 89 83 true (.load (some 3) (t_ 88)),[]),(q_ 90 83 true (.mv (t_ 0)),[]),(q_ 91 83 true (.mv (t_ 13)),[]),(q_ 92 83 true (.cw none 3 (t_ 90) (t_ 91)),[]),(q_ 93 83 true (.load (some 3) (t_ 92)),[]),(q_ 94 83 true (.call (t_ 84) [t_ 89,t_ 93]),[]),(q_ 95 83 true (.bin .lss [] (t_ 94) (i_ 0)),[]),(q_ 96 83 true (.un .not (t_ 95)),[]),(o_ 97 (.pick (t_ 83) (t_ 96) (.const (.bool false))),[])]) (.cond (t_ 97) (.seq (.ops [m_ 98 0,m_ 99 1,m_ 100 2,m_ 101 13,m_ 102 4,F_ 103 104 [t_ 98,t_ 99,t_ 100,t_ 101,t_ 102],m_ 15 103]) (.seq (.ops [m_ 104 15,m_ 1 104]) (.exit 1))) .skip))
def PG:aj:=(.seq (.ops [m_ 106 0,m_ 107 1,m_ 108 2,m_ 109 13,m_ 110 4,F_ 111 105 [t_ 106,t_ 107,t_ 108,t_ 109,t_ 110],m_ 105 111,o_ 112 (.ext 0 (t_ 105)),o_ 113 (.ext 1 (t_ 105)),m_ 16 112,m_ 17 113]) (.seq (.ops [m_ 114 17,m_ 11 114]) (.seq (.ops [m_ 115 16,m_ 116 1,B_ 117 .sub 115 116,m_ 118 2,m_ 119 16,B_ 120 .sub 118 119,m_ 18 117,m_ 19 120]) (.seq (.ops [m_ 121 12,C_ 122 .quo 121 8,m_ 20 122]) (.seq (.ops [m_ 123 18,m_ 124 19,B_ 125 .lss 123 124]) (.cond (t_ 125) (.seq (.ops [m_ 126 18,m_ 127 20,B_ 128 .geq 126 127,m_ 10 128]) (.seq (.ops [m_ 129 0,m_ 130 1,m_ 131 16,m_ 132 3,m_ 133 4,F_ 134 93 [t_ 129,t_ 130,t_ 131,t_ 132,t_ 133]]) (.ops [m_ 135 16,C_ 136 .add 135 1,m_ 1 136]))) (.seq (.ops [m_ 137 19,m_ 138 20,B_ 139 .geq 137 138,m_ 10 139]) (.seq (.ops [m_ 140 0,m_ 141 16,C_ 142 .add 141 1,m_ 143 2,m_ 144 3,m_ 145 4,F_ 146 93 [t_ 140,t_ 142,t_ 143,t_ 144,t_ 145]]) (.ops [m_ 147 16,m_ 2 147])))))))))
theorem Ks:cR= .block 1 (.seq (.ops [m_ 21 2,m_ 22 1,B_ 23 .sub 21 22,m_ 12 23]) (.seq (.seq (.ops [m_ 24 12,C_ 25 .leq 24 12]) (.cond (t_ 25) (.seq (.ops [m_ 26 0,m_ 27 1,m_ 28 2,m_ 29 4,F_ 30 98 [t_ 26,t_ 27,t_ 28,t_ 29]]) .ret) .skip)) (.seq (.seq (.ops [m_ 31 3,o_ 32 (.bin .eql [1] (t_ 31) (i_ 0))]) (.cond (t_ 32) (.seq (.ops [m_ 33 0,m_ 34 1,m_ 35 2,m_ 36 4,F_ 37 99 [t_ 33,t_ 34,t_ 35,t_ 36]]) .ret) .skip)) (.seq PY (.seq QG (.seq Qk (.seq PZ (.seq Qv PG)))))))):=rfl
section
variable {P:Int×(Bool×Int)→Prop} {d n o c:Nat} {h0:ae} {y:Value}
structure PQ (d n c:Nat) (y:Value) (a b lim:Nat) (e:Env):Prop where
 f0:Env.get e 0= .slice (some ⟨d,0,none⟩) n c
 f1:Env.get e 1= .int .i64 a
 f2:Env.get e 2= .int .i64 b
 f3:Env.get e 3= .int .i64 lim
 f4:Env.get e 4=y
 f10: ∃t:Bool,Env.get e 10= .bool t
 f11: ∃t:Bool,Env.get e 11= .bool t
 f12:Env.get e 12= .int .i64 ((b-a:Nat):Int)
theorem JQ {h:ae} {a b lim:Nat} (hab:a+13≤b) (hbn:b≤n) (hn:n<50) (hl:0<lim) (hl2:lim≤6) (w:SA P d n o h0 h) {e:Env} {Q:aO→Env→ae→Prop} (E:PQ d n c y a b lim e) (K: ∀e' h' lim',PQ d n c y a b lim' e'→lim'≤6→SA P d n o h0 h'→Q .normal e' h'):az FF PY e h Q:=by
 obtain⟨f0,f1,f2,f3,f4,⟨t,f10⟩,⟨u,f11⟩,f12⟩:=E
 unfold PY
 cases t with
 |true=>
  simp[f10]
  exact K _ _ lim ⟨by simp[f0],by simp[f1],by simp[f2],by simp[f3],by simp[f4],⟨true,by simp[f10]⟩,⟨u,by simp[f11]⟩,by simp[f12]⟩ hl2 w
 |false=>
  obtain⟨k,hk⟩: ∃k,k=lim-1:=⟨_,rfl⟩
  have wk:IntKind.i64.wrap ((lim:Int)-1)=(k:Int):=by rw[wrap_i64 _ (by omega) (by omega)];omega
  simp[f10,f0,f1,f2,f4]
  refine aD.call (V:=fun _ h'=>SA P d n o h0 h') (by simpa using Ev (c:=c) (y:=y) w.1.next hab hbn hn w) ?_
  rintro v h2 w2
  simp[f3,wk]
  exact K _ _ k ⟨by simp[f0],by simp[f1],by simp[f2],by simp,by simp[f4],⟨false,by simp[f10]⟩,⟨u,by simp[f11]⟩,by simp[f12]⟩ (by omega) w2
theorem I1 (Y:gH y) {h:ae} {a b lim:Nat} (hab:a+13≤b) (hbn:b≤n) (hn:n<50) (w:SA P d n o h0 h) {e:Env} {Q:aO→Env→ae→Prop} (E:PQ d n c y a b lim e) (K: ∀e' h' (j:Nat) (t:Int),PQ d n c y a b lim e'→Env.get e' 13= .int .i64 j→Env.get e' 14= .int .i64 t→a≤j→j<b→SA P d n o h0 h'→Q .normal e' h'):az FF QG e h Q:=by
 obtain⟨f0,f1,f2,f3,f4,⟨t,f10⟩,⟨u,f11⟩,f12⟩:=E
 unfold QG
 simp[f0,f1,f2,f4]
 refine aD.call (V:=QM P d n o a b h0) (by simpa using Fv (c:=c) Y w.1.next (by omega) hbn hn w) ?_
 rintro _ h2 ⟨w2,j,t2,rfl,hj1,hj2⟩
 simp
 exact K _ _ j t2 ⟨by simp[f0],by simp[f1],by simp[f2],by simp[f3],by simp[f4],⟨t,by simp[f10]⟩,⟨u,by simp[f11]⟩,by simp[f12]⟩ (by simp) (by simp) hj1 hj2 w2
theorem JA {h:ae} {a b lim j:Nat} {t:Int} (hab:a+13≤b) (hbn:b≤n) (hn:n<50) (hj1:a≤j) (hj2:j<b) (w:SA P d n o h0 h) {e:Env} {Q:aO→Env→ae→Prop} (E:PQ d n c y a b lim e) (f13:Env.get e 13= .int .i64 j) (f14:Env.get e 14= .int .i64 t)
  (K: ∀e' h' (j:Nat) (t:Int),PQ d n c y a b lim e'→Env.get e' 13= .int .i64 j→Env.get e' 14= .int .i64 t→a≤j→j<b→SA P d n o h0 h'→Q .normal e' h'):az FF Qk e h Q:=by
 have X10:=E.f10
 have X11:=E.f11
 obtain⟨f0,f1,f2,f3,f4,⟨tt,f10⟩,⟨u,f11⟩,f12⟩:=E
 unfold Qk
 by_cases ht:t=2
 ·subst ht
  obtain⟨k,hk⟩: ∃k,k=b-1-(j-a):=⟨_,rfl⟩
  have w1:=wrap_i64 ((b:Int)-1) (by omega) (by omega)
  have w2:=wrap_i64 ((j:Int)-(a:Int)) (by omega) (by omega)
  have w3:IntKind.i64.wrap ((b:Int)-1-((j:Int)-(a:Int)))=(k:Int):=by rw[wrap_i64 _ (by omega) (by omega)];omega
  simp[f0,f1,f2,f4,f14]
  refine aD.call (V:=fun _ h'=>SA P d n o h0 h') (by simpa using zO (c:=c) (y:=y) hbn (by omega) (by omega) w) ?_
  rintro v h2 w'
  simp[f1,f2,f13,w1,w2,w3]
  exact K _ _ k 1 ⟨by simp[f0],by simp[f1],by simp[f2],by simp[f3],by simp[f4],⟨tt,by simp[f10]⟩,⟨u,by simp[f11]⟩,by simp[f12]⟩ (by simp) (by simp) (by omega) (by omega) w'
 ·have ht':(t==2)=false:=by simpa using ht
  simp[f14,ht']
  exact K _ _ j t ⟨by simp[f0],by simp[f1],by simp[f2],by simp[f3],by simp[f4],⟨tt,by simp[f10]⟩,⟨u,by simp[f11]⟩,by simp[f12]⟩ (by simp[f13]) (by simp[f14]) hj1 hj2 w
theorem IQ (Y:gH y) {h:ae} {a b lim j:Nat} {t:Int} (hab:a+13≤b) (hbn:b≤n) (hn:n<50) (w:SA P d n o h0 h) {e:Env} {Q:aO→Env→ae→Prop} (E:PQ d n c y a b lim e) (f13:Env.get e 13= .int .i64 j) (f14:Env.get e 14= .int .i64 t)
  (K1: ∀e' h',SA P d n o h0 h'→Q .ret e' h') (K: ∀e' h',PQ d n c y a b lim e'→Env.get e' 13= .int .i64 j→SA P d n o h0 h'→Q .normal e' h'):az FF PZ e h Q:=by
 have X10:=E.f10
 have X11:=E.f11
 obtain⟨f0,f1,f2,f3,f4,⟨tt,f10⟩,⟨u,f11⟩,f12⟩:=E
 unfold PZ
 cases tt with
 |false=>
  simp[f10]
  exact K _ _ ⟨by simp[f0],by simp[f1],by simp[f2],by simp[f3],by simp[f4],(Exists.imp (fun _ h=>by simp[h]) X10),⟨u,by simp[f11]⟩,by simp[f12]⟩ (by simp[f13]) w
 |true=>
  cases u with
  |false=>
   simp[f10,f11]
   exact K _ _ ⟨by simp[f0],by simp[f1],by simp[f2],by simp[f3],by simp[f4],(Exists.imp (fun _ h=>by simp[h]) X10),(Exists.imp (fun _ h=>by simp[h]) X11),by simp[f12]⟩ (by simp[f13]) w
  |true=>
   by_cases ht:t=1
   ·subst ht
    simp[f0,f1,f2,f4,f10,f11,f14]
    refine aD.call (V:=Oi P d n o h0) (by simpa using BP (c:=c) Y (by omega) hbn hn w) ?_
    rintro _ h2 ⟨w2,q,rfl⟩
    cases q with
    |true=>
     simp
     exact K1 _ _ w2
    |false=>
     simp
     exact K _ _ ⟨by simp[f0],by simp[f1],by simp[f2],by simp[f3],by simp[f4],(Exists.imp (fun _ h=>by simp[h]) X10),(Exists.imp (fun _ h=>by simp[h]) X11),by simp[f12]⟩ (by simp[f13]) w2
   ·have ht':(t==1)=false:=by simpa using ht
    simp[f10,f11,f14,ht']
    exact K _ _ ⟨by simp[f0],by simp[f1],by simp[f2],by simp[f3],by simp[f4],(Exists.imp (fun _ h=>by simp[h]) X10),(Exists.imp (fun _ h=>by simp[h]) X11),by simp[f12]⟩ (by simp[f13]) w
theorem J9 (Y:gH y) {h:ae} {a b lim j:Nat} (hab:a+13≤b) (hbn:b≤n) (hn:n<50) (hj1:a≤j) (hj2:j<b) (w:SA P d n o h0 h) {e:Env} {Q:aO→Env→ae→Prop} (E:PQ d n c y a b lim e) (f13:Env.get e 13= .int .i64 j)
  (K1: ∀e' h' (a':Nat),a<a'→a'≤b→Env.get e' 0= .slice (some ⟨d,0,none⟩) n c→Env.get e' 1= .int .i64 a'→Env.get e' 2= .int .i64 b→Env.get e' 3= .int .i64 lim→Env.get e' 4=y→(∃t:Bool,Env.get e' 10= .bool t)→(∃t:Bool,Env.get e' 11= .bool t)→SA P d n o h0 h'→Q (.exit 1) e' h')
  (K: ∀e' h',PQ d n c y a b lim e'→Env.get e' 13= .int .i64 j→SA P d n o h0 h'→Q .normal e' h'):az FF Qv e h Q:=by
 have X10:=E.f10
 have X11:=E.f11
 obtain⟨f0,f1,f2,f3,f4,⟨tt,f10⟩,⟨u,f11⟩,f12⟩:=E
 unfold Qv
 obtain⟨g,xs,s,hb,hl,hP⟩:=id w
 by_cases ha:0<a
 ·obtain⟨k,hk⟩: ∃k,k=a-1:=⟨_,rfl⟩
  have wk:IntKind.i64.wrap ((a:Int)-1)=(k:Int):=by rw[wrap_i64 _ (by omega) (by omega)];omega
  have hkn:k<n:=by omega
  have hjn:j<n:=by omega
  obtain⟨x,hx⟩: ∃x,xs[k]? =some x:=⟨_,aQ (by omega)⟩
  obtain⟨z,hz⟩: ∃z,xs[j]? =some z:=⟨_,aQ (by omega)⟩
  have rx:=bq hb hx
  have rz:=bq hb hz
  simp[f0,f1,f4,f13,ha,wk,hkn,hjn,rx,rz,aB,-ag]
  refine aP.cut (fun h1=>ab aG h h1) ?_ ?_
  ·exact(ab.refl g.ok).tick
  intro h1 g1
  refine aP.cm (V:=fun v h''=>(∃c:Int,v= .int .i64 c)∧ab aG h1 h'') (by simpa [f4] using Y h1 x z g1.ok) ?_
  rintro _ h2 ⟨⟨cv,rfl⟩,g2⟩
  have w2:=(w.aW g1).aW g2
  by_cases hc:cv<0
  ·simp[hc]
   exact K _ _ ⟨by simp[f0],by simp[f1],by simp[f2],by simp[f3],by simp[f4],(Exists.imp (fun _ h=>by simp[h]) X10),(Exists.imp (fun _ h=>by simp[h]) X11),by simp[f12]⟩ (by simp[f13]) w2
  ·simp[hc,f0,f1,f2,f4,f13]
   refine aD.call (V:=OJ P d n o a b h0) (by simpa using DM (c:=c) Y hbn (by omega) hj1 hj2 w2) ?_
   rintro _ h3 ⟨w3,i,rfl,hi1,hi2⟩
   simp
   exact K1 _ _ i hi1 hi2 (by simp[f0]) (by simp) (by simp[f2]) (by simp[f3]) (by simp[f4]) (Exists.imp (fun _ h=>by simp[h]) X10) (Exists.imp (fun _ h=>by simp[h]) X11) w3
 ·have ha0:a=0:=by omega
  simp[f1,ha]
  exact K _ _ ⟨by simp[f0],by simp[f1],by simp[f2],by simp[f3],by simp[f4],(Exists.imp (fun _ h=>by simp[h]) X10),(Exists.imp (fun _ h=>by simp[h]) X11),by simp[f12]⟩ (by simp[f13]) (w.aW ((ab.refl g.ok).tick))
end
section
variable {P:Int×(Bool×Int)→Prop} {d n o c:Nat} {h0:ae} {y:Value}
def MY (P:Int×(Bool×Int)→Prop) (d n o c:Nat) (h0:ae) (y:Value) (k:Nat):Prop:= ∀(a b lim:Nat) (h:ae),b-a<k→a≤b→b≤n→lim≤6→SA P d n o h0 h→aE FF eO [.slice (some ⟨d,0,none⟩) n c,.int .i64 a,.int .i64 b,.int .i64 lim,y] h (fun _ h'=>SA P d n o h0 h')
structure QX (d n c:Nat) (y:Value) (a b lim:Nat) (e:Env):Prop where
 f0:Env.get e 0= .slice (some ⟨d,0,none⟩) n c
 f1:Env.get e 1= .int .i64 a
 f2:Env.get e 2= .int .i64 b
 f3:Env.get e 3= .int .i64 lim
 f4:Env.get e 4=y
 f10: ∃t:Bool,Env.get e 10= .bool t
 f11: ∃t:Bool,Env.get e 11= .bool t
theorem J1 (Y:gH y) {h:ae} {a b lim j:Nat} (hab:a+13≤b) (hbn:b≤n) (hn:n<50) (hl:lim≤6) (hj1:a≤j) (hj2:j<b) (IH:MY P d n o c h0 y (b-a)) (w:SA P d n o h0 h) {e:Env} {Q:aO→Env→ae→Prop} (E:PQ d n c y a b lim e) (f13:Env.get e 13= .int .i64 j)
  (K: ∀e' h' (a' b':Nat),QX d n c y a' b' lim e'→a'≤b'→b'≤n→b'-a'<b-a→SA P d n o h0 h'→Q .normal e' h'):az FF PG e h Q:=by
 obtain⟨f0,f1,f2,f3,f4,_,_,f12⟩:=E
 unfold PG
 simp[f0,f1,f2,f4,f13]
 refine aD.call (V:=Q1 P d n o a b h0) (by simpa using Hq (c:=c) Y hbn (by omega) hj1 hj2 w) ?_
 rintro _ h2 ⟨w2,m,t,rfl,hm1,hm2⟩
 obtain⟨l,hl1⟩: ∃l,l=m-a:=⟨_,rfl⟩
 obtain⟨r,hr1⟩: ∃r,r=b-m:=⟨_,rfl⟩
 have w3:IntKind.i64.wrap ((m:Int)-(a:Int))=(l:Int):=by rw[wrap_i64 _ (by omega) (by omega)];omega
 have w4:IntKind.i64.wrap ((b:Int)-(m:Int))=(r:Int):=by rw[wrap_i64 _ (by omega) (by omega)];omega
 have w5:=wrap_i64 ((m:Int)+1) (by omega) (by omega)
 obtain⟨q,hq⟩: ∃q,q=b-a:=⟨_,rfl⟩
 rw[←hq] at f12
 have w6:=wrap_i64 ((q:Int)/8) (by omega) (by omega)
 by_cases hlr:l<r
 ·simp[f0,f1,f2,f3,f4,f12,w3,w4,w6,hlr]
  refine aD.call (V:=fun _ h'=>SA P d n o h0 h') (by simpa using IH a m lim h2 (by omega) hm1 (by omega) hl w2) ?_
  rintro v h3 w7
  simp[w5]
  exact K _ _ (m+1) b ⟨by simp[f0],by simp,by simp[f2],by simp[f3],by simp[f4],⟨_,by simp;rfl⟩,⟨t,by simp⟩⟩ (by omega) hbn (by omega) w7
 ·simp[f0,f1,f2,f3,f4,f12,w3,w4,w5,w6,hlr]
  refine aD.call (V:=fun _ h'=>SA P d n o h0 h') (by simpa using IH (m+1) b lim h2 (by omega) (by omega) hbn hl w2) ?_
  rintro v h3 w7
  simp
  exact K _ _ a m ⟨by simp[f0],by simp[f1],by simp,by simp[f3],by simp[f4],⟨_,by simp;rfl⟩,⟨t,by simp⟩⟩ hm1 (by omega) (by omega) w7
def PdI (P:Int×(Bool×Int)→Prop) (d n o c:Nat) (h0:ae) (y:Value) (k:Nat) (m:Nat) (e:Env) (h':ae):Prop:=
 ∃a b lim:Nat,m=b-a∧b-a<k∧a≤b∧b≤n∧lim≤6∧QX d n c y a b lim e∧SA P d n o h0 h'
theorem JC (Y:gH y) (hn:n<50): ∀k,MY P d n o c h0 y k:=by
 intro k
 induction k with
 |zero=>intro a b lim h hk;omega
 |succ k ih=>
  intro a b lim h hk hab hbn hl w
  refine aE.of eN ?_
  unfold cZ
  simp
  refine az.loop (PdI P d n o c h0 y (k+1)) ?_ (n:=b-a) ⟨a,b,lim,rfl,hk,hab,hbn,hl,⟨by simp,by simp,by simp,by simp,by simp,⟨true,by simp⟩,⟨true,by simp⟩⟩,w⟩
  rintro m e h' ⟨a,b,lim,rfl,hk,hab,hbn,hl,⟨f0,f1,f2,f3,f4,f10,f11⟩,w⟩
  rw[Ks]
  obtain⟨q,hq⟩: ∃q,q=b-a:=⟨_,rfl⟩
  have w1:IntKind.i64.wrap ((b:Int)-(a:Int))=(q:Int):=by rw[wrap_i64 _ (by omega) (by omega)];omega
  by_cases h12:q≤12
  ·have h12':(q:Int)≤12:=by omega
   simp[f0,f1,f2,f4,w1,h12']
   refine aD.call (V:=fun _ h'=>SA P d n o h0 h') (by simpa using yX (c:=c) Y hbn hab (by omega) w) ?_
   rintro v h2 w2
   simp
   exact w2
  have h12': ¬(q:Int)≤12:=by omega
  by_cases hz:lim=0
  ·subst hz
   simp[f0,f1,f2,f3,f4,w1,h12']
   refine aD.call (V:=fun _ h'=>SA P d n o h0 h') (by simpa using H6 (c:=c) Y (by omega) hbn (by omega) w) ?_
   rintro v h2 w2
   simp
   exact w2
  have hz':((lim:Int)==0)=false:=by simp;omega
  simp[f1,f2,f3,w1,h12',hz']
  have IH:MY P d n o c h0 y (b-a):=by
   intro a' b' lim' h' hk' h1 h2 h3 w'
   exact ih a' b' lim' h' (by omega) h1 h2 h3 w'
  have h13:a+13≤b:=by omega
  refine JQ (c:=c) (y:=y) (a:=a) (b:=b) (lim:=lim) h13 hbn hn (by omega) hl w ⟨by simp[f0],by simp[f1],by simp[f2],by simp[f3],by simp[f4],Exists.imp (fun _ h=>by simp[h]) f10,Exists.imp (fun _ h=>by simp[h]) f11,by simp[hq]⟩ ?_
  intro e1 h1 lim1 E1 hl1 w1
  simp
  refine I1 Y h13 hbn hn w1 E1 ?_
  intro e2 h2 j2 t2 E2 k13 k14 hj1 hj2 w2
  simp
  refine JA h13 hbn hn hj1 hj2 w2 E2 k13 k14 ?_
  intro e3 h3 j3 t3 E3 l13 l14 hj31 hj32 w3
  simp
  refine IQ Y h13 hbn hn w3 E3 l13 l14 (fun e' h' w'=>by simpa using w') ?_
  intro e4 h4 E4 m13 w4
  simp
  refine J9 Y h13 hbn hn hj31 hj32 w4 E4 m13 ?_ ?_
  ·intro e5 h5 a5 ha1 ha2 p0 p1 p2 p3 p4 p10 p11 w5
   simp
   exact⟨b-a5,by omega,a5,b,lim1,rfl,by omega,ha2,hbn,hl1,⟨p0,p1,p2,p3,p4,p10,p11⟩,w5⟩
  intro e5 h5 E5 n13 w5
  simp
  refine J1 Y h13 hbn hn hl1 hj31 hj32 IH w5 E5 n13 ?_
  intro e6 h6 a6 b6 E6 hab6 hbn6 hlt w6
  simp
  exact⟨b6-a6,hlt,a6,b6,lim1,rfl,by omega,hab6,hbn6,hl1,E6,w6⟩
theorem IA (Y:gH y) (hn:n<50) {h:ae} (w:SA P d n o h0 h):aE FF cD [.slice (some ⟨d,0,none⟩) n c,y] h (fun _ h'=>SA P d n o h0 h'):=by
 have w1:=fG (n:Int) (by omega) (by omega)
 have hl:=vF n
 refine aE.of dJ ?_
 unfold cI
 simp[w1]
 refine aD.call (V:=fun v h'=>v= .int .i64 (lenOf n)∧h'=h) (by simpa using yQ h n (by omega)) ?_
 rintro _ h' ⟨rfl,e⟩
 rw[e]
 simp
 refine aD.call (V:=fun _ h'=>SA P d n o h0 h') (by simpa using JC (c:=c) Y hn (n+1) 0 n (lenOf n) h (by omega) (by omega) (Nat.le_refl _) hl w) ?_
 rintro v h2 w2
 simp
 exact w2
theorem Kn (h:ae) (y:Value):aE FF cD [.slice none 0 0,y] h (fun _ h'=>h'=h):=by
 have w1:IntKind.u64.wrap 0=0:=fG _ (by omega) (by omega)
 refine aE.of dJ ?_
 unfold cI
 simp[w1]
 refine aD.call (V:=fun v h'=>v= .int .i64 0∧h'=h) (by simpa [lenOf] using yQ h 0 (by omega)) ?_
 rintro _ h' ⟨rfl,e⟩
 rw[e]
 simp
 refine aD.call (V:=fun _ h'=>h'=h) ?_ ?_
 ·have w2:IntKind.i64.wrap (0-0)=0:=wrap_i64 _ (by omega) (by omega)
  have w2':IntKind.i64.wrap 0=0:=wrap_i64 _ (by omega) (by omega)
  have w3:IntKind.i64.wrap (0+1)=1:=wrap_i64 _ (by omega) (by omega)
  have w3':IntKind.i64.wrap 1=1:=wrap_i64 _ (by omega) (by omega)
  simp
  refine aE.of eN ?_
  unfold cZ
  simp
  rw[kG]
  unfold cR
  simp[w2,w2']
  refine aD.call (V:=fun _ h'=>h'=h) ?_ ?_
  ·simp
   refine aE.of du ?_
   unfold cq
   simp[w3,w3']
   rw[kG]
   unfold b_
   simp
  ·rintro v h2 rfl
   simp
 ·rintro v h2 rfl
  simp
end
end Go.Proofs.YtdkdbjecehcekaaGreatDoor
