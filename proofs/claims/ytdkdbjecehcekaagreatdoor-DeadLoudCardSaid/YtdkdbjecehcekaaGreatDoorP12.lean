/- Parts of the proof. -/
import Derived.Test.YtdkdbjecehcekaaGreatDoorP11
set_option linter.all false
set_option linter.unusedSimpArgs false
set_option linter.unusedVariables false
set_option linter.unnecessarySimpa false
namespace Go.Proofs.YtdkdbjecehcekaaGreatDoor
open Go.AI
def CyI (h0 h1:ae) (M0 ai F R:Nat) (name:ByteArray) (p r:Int) (B':SV) (bs:List GB) (m:Nat) (e:Env) (h':ae):Prop:=
 ∃(j:Nat) (ys rs:List XR) (κ cap:Nat→Nat),m=bs.length-j∧j≤bs.length∧Env.get e 1= .pointer (some ⟨F,0,none⟩)∧Env.get e 2= .pointer (some ⟨R,0,none⟩)∧Env.get e 14=B'.v∧Env.get e 15= .int .i64 bs.length∧Env.get e 16= .int .i64 j∧ab (av B'.v) h1 h'∧eJ fq h' B' ys∧ys.length=bs.length∧rs.length=j∧cy h' M0 ai κ cap rs∧
  (∀(i:Nat) (y:XR) (b:GB),ys[i]? =some y→bs[i]? =some b→(i<j→rs[i]? =some y∧RD y b)∧(j≤i→Gv h0 y b))
theorem DU {h0 h1:ae} (ok0:bh h0) (g1:ab aG h0 h1) {M0 ai F R s1 s2:Nat} {name:ByteArray} {p r:Int} {B':SV} {bs:List GB} {ys:List XR} (hB:eJ fq h1 B' ys) (hyl:ys.length=bs.length) (hy: ∀(i:Nat) (y:XR) (b:GB),ys[i]? =some y→bs[i]? =some b→Gv h0 y b)
  (hin: ∀b∈bs,Pf ai b) (hbl:bs.length<1000000) (hM:M0≤h1.next) (hBM: ∀b,av B'.v b→h0.next≤b∧b<M0∧b≠F∧b≠R) (h0M:h0.next≤M0) (hFM:F<M0) (hRM:R<M0) (hF:h1.tr.get F=some (.aA (ak name p r B') false 0 s1)) (hR:h1.tr.get R=some (.aA [.string ⟨⟨[]⟩⟩,.int .i64 0,.int .i64 0,.slice none 0 0] false 0 s2))
  {e:Env} {Q:aO→Env→ae→Prop} (f1:Env.get e 1= .pointer (some ⟨F,0,none⟩)) (f2:Env.get e 2= .pointer (some ⟨R,0,none⟩)) (f14:Env.get e 14=B'.v) (f15:Env.get e 15= .int .i64 bs.length) (f16:Env.get e 16= .int .i64 0)
  (C: ∀e' h' ys' κ cap,Env.get e' 1= .pointer (some ⟨F,0,none⟩)→Env.get e' 2= .pointer (some ⟨R,0,none⟩)→ab (av B'.v) h1 h'→eJ fq h' B' ys'→ys'.length=bs.length→cy h' M0 ai κ cap ys'→(∀(i:Nat) (y:XR) (b:GB),ys'[i]? =some y→bs[i]? =some b→RD y b)→Q (.exit 0) e' h'):
  az FF (.loop nO) e h1 Q:=by
 have hBl:=hB.len
 refine az.loop (CyI h0 h1 M0 ai F R name p r B' bs) ?_ (n:=bs.length) ⟨0,ys,[],_,_,rfl,by omega,f1,f2,f14,f15,f16,.refl g1.ok,hB,hyl,rfl,cy.nil h1 M0 ai,fun i y b h1 h2=>⟨fun h=>by omega,fun _=>hy i y b h1 h2⟩⟩
 rintro m e' h' ⟨j,ys,rs,κ,cap,rfl,hj,q1,q2,q14,q15,q16,g,hB,hyl,hrl,W,H⟩
 have okh:=g.ok
 have gg:ab aG h0 h':=g1.trans' g (fun _ _ h=>h) (fun x hx e=>by have:=(hBM x e).1;omega)
 have hF':=g.get g1.ok hF (fun e=>(hBM F e).2.2.1 rfl)
 have hR':=g.get g1.ok hR (fun e=>(hBM R e).2.2.2 rfl)
 unfold nO
 by_cases hjl:j<bs.length
 ·have wj:=wrap_i64 ((j:Int)+1) (by omega) (by omega)
  obtain⟨b,hb⟩: ∃b,bs[j]? =some b:=⟨_,aQ hjl⟩
  obtain⟨y,hyj⟩: ∃y,ys[j]? =some y:=⟨_,aQ (by omega)⟩
  have hT:=(H j y b hyj hb).2 (Nat.le_refl _)
  have I:=hin b (di hb)
  obtain⟨bB,cs,oB,sB,hBa,hBb,hjB,hfit,hrd,hset⟩:=hB.el hyj
  have hBl:=hB.len
  have r0:=hrd 0 6 (by decide)
  simp[-ag] at r0
  simp at q14
  rw[hBa,hBl,hyl] at q14
  have hPl:=SliceR.len hT.P
  have hLl:=SliceR.len hT.L
  have hTl:=SliceR.len hT.T
  simp[q14,q15,q16,hjl,r0,-ag,aq]
  refine aD.cut (fun h2=>ab aG h' h2∧(∃s,h2.tr.get h'.next=some (.aA [y.P.v,y.L.v,.int .i64 y.kind,.bool y.on.1,.int .i64 y.on.2,y.T.v] false 0 s))) ⟨(ab.refl okh).var _ _,_,ax _ _ _ _ _ _⟩ ?_
  rintro h2 ⟨g2,s3,hX2⟩
  have gg2:=gg.trans g2
  have lX:h'.next<h2.next:=gg2.ok.wf _ _ hX2
  obtain⟨qs0,hq0l,hq0s,hq0⟩:=N0 hT.P
  refine aD.call (V:=pF iK h2 qs0) (by simpa using iy iK (bytes:=32) kN rfl (by decide) gg2.ok (hq0s.aW ok0 gg2) (by have:=I.lp;omega)) ?_
  rintro _ h3 ⟨g3,P',rfl,hP3,hPn,_⟩
  have hX3:=g3.get gg2.ok hX2 (fun h=>h)
  have gg3:=gg2.trans g3
  have hP'l:=hP3.len
  simp at hX3
  simp[hX3,hP'l,hq0l]
  refine az.cut (fun h4=>ab (· =h'.next) h3 h4∧(∃s,h4.tr.get h'.next=some (.aA [P'.v,y.L.v,.int .i64 y.kind,.bool y.on.1,.int .i64 y.on.2,y.T.v] false 0 s))) ?_ ?_
  ·refine⟨aJ gg3.ok hX3,h3.clock,?_⟩
   rw[ax]
   simp[hP'l,hq0l,aK]
  rintro h4 ⟨g4,s4,hX4⟩
  have gg4:ab aG h0 h4:=gg3.trans' g4 (fun _ _ h=>h) (fun x hx e=>by have:=gg.next;omega)
  have hP4:eJ iK h4 P' qs0:=hP3.grow gg3.ok g4 (fun b hb e=>by have:=hPn b hb;omega)
  have lnX4:h'.next<h4.next:=by have:=g3.next;have:=g4.next;omega
  have V4:nC h4 h'.next ai (fun _=>0) (fun _=>0):=⟨fun b hb=>absurd hb (by decide),fun b hb=>absurd rfl hb⟩
  have ln4:h'.next≤h4.next:=by have:=g2.next;have:=g3.next;have:=g4.next;omega
  refine HR ok0 gg4 (ai:=ai) (M:=h'.next) hP4 hq0l hq0 (fun p hp=>⟨(I.ph p hp).2.1,(I.ph p hp).2.2⟩) I.lp gg.next ln4 (fun b hb=>⟨by have:=hPn b hb;omega,rfl,by have:=hPn b hb;omega⟩) hX4 V4 (by simp) (by simp[hP'l,hq0l]) (by simp) (by simp) ?_
  intro e5 h5 κ5 cap5 qs5 K5 g5 hX5 hP5 hq5l hq5 V5 hκ5 _
  have ok4:=gg4.ok
  have ln5:h4.next≤h5.next:=g5.next
  have gg5:ab aG h0 h5:=gg4.trans' g5 (fun _ _ h=>h) (fun x hx e=>by have:=hPn x e;have:=gg.next;omega)
  have k1:=K5.at (t:=1) (by decide) (by simp;exact q1)
  have k2:=K5.at (t:=2) (by decide) (by simp;exact q2)
  have k3:Env.get e5 3= .int .i64 j:=K5.at (t:=3) (by decide) (by simp)
  have k4:Env.get e5 4= .pointer (some ⟨h'.next,0,none⟩):=K5.at (t:=4) (by decide) (by simp)
  have k14:=K5.at (t:=14) (by decide) (by simp;exact q14)
  have k15:=K5.at (t:=15) (by decide) (by simp;exact q15)
  have k16:=K5.at (t:=16) (by decide) (by simp;exact q16)
  have lPh3: ∀x,av P'.v x→x<h4.next:=fun x hx=>hP4.bl ok4 hx
  simp at hX5
  simp[k4,hX5]
  obtain⟨xs0,hx0l,hx0s,hx0⟩:=Ot hT.L
  refine aD.call (V:=pF me h5 xs0) (by simpa using iy me (bytes:=80) kW rfl (by decide) gg5.ok (hx0s.aW ok0 gg5) (by have:=I.ll;omega)) ?_
  rintro _ h6 ⟨g6,L',rfl,hL6,hLn,_⟩
  have hX6:=g6.get gg5.ok hX5 (fun h=>h)
  have gg6:=gg5.trans g6
  have hL'l:=hL6.len
  have V6:=V5.grow gg5.ok g6 (fun _ h=>h.elim)
  simp[k4,hX6,hL'l,hx0l]
  refine az.cut (fun h7=>ab (· =h'.next) h6 h7∧(∃s,h7.tr.get h'.next=some (.aA [P'.v,L'.v,.int .i64 y.kind,.bool y.on.1,.int .i64 y.on.2,y.T.v] false 0 s))) ?_ ?_
  ·refine⟨aJ gg6.ok hX6,h6.clock,?_⟩
   rw[ax]
   simp[hL'l,hx0l,aK]
  rintro h7 ⟨g7,s7,hX7⟩
  have gg7:ab aG h0 h7:=gg6.trans' g7 (fun _ _ h=>h) (fun x hx e=>by have:=gg.next;omega)
  have hL7:eJ me h7 L' xs0:=hL6.grow gg6.ok g7 (fun b hb e=>by have:=hLn b hb;have:=g5.next;omega)
  have nX5:κ5 h'.next=0:=hκ5 _ (by have:=g3.next;have:=g4.next;omega)
  have V7:nC h7 h'.next ai κ5 cap5:=V6.grow gg6.ok g7 (fun b e=>by rw[e];exact nX5)
  have ln7:h5.next≤h7.next:=by have:=g6.next;have:=g7.next;omega
  refine HO ok0 gg7 (ai:=ai) (M:=h'.next) (kind:=y.kind) (on:=y.on) (P:=P') (T:=y.T) hL7 hx0l hx0 (fun p hp=>⟨(I.li p hp).2.2.2.1,(I.li p hp).2.2.2.2⟩) I.ll gg.next (by omega) (fun b hb=>⟨by have:=hLn b hb;omega,?_,by have:=hLn b hb;omega⟩) hX7 V7 (by simp[k4]) (by simp[hL'l,hx0l]) (by simp) (by simp) ?_
  ·rcases Nat.eq_zero_or_pos (κ5 b) with h|h
   ·exact h
   ·have:=hLn b hb
    have:=(V5.new b (by omega)).2.2
    omega
  intro e8 h8 κ8 cap8 xs8 K8 g8 hX8 hL8 hx8l hx8 V8 hκ8 hc8
  have ok7:=gg7.ok
  have gg8:ab aG h0 h8:=gg7.trans' g8 (fun _ _ h=>h) (fun x hx e=>by have:=hLn x e;have:=gg5.next;omega)
  have m1:=K8.at (t:=1) (by decide) (by simp;exact k1)
  have m2:=K8.at (t:=2) (by decide) (by simp;exact k2)
  have m3:Env.get e8 3= .int .i64 j:=K8.at (t:=3) (by decide) (by simp;exact k3)
  have m4:Env.get e8 4= .pointer (some ⟨h'.next,0,none⟩):=K8.at (t:=4) (by decide) (by simp;exact k4)
  have m14:=K8.at (t:=14) (by decide) (by simp;exact k14)
  have m15:=K8.at (t:=15) (by decide) (by simp;exact k15)
  have m16:=K8.at (t:=16) (by decide) (by simp;exact k16)
  simp at hX8
  simp[m4,hX8]
  refine aD.call (V:=pF aY h8 b.to) (by simpa using iy aY (bytes:=8) jX rfl (by decide) gg8.ok ((My hT.T).aW ok0 gg8) (by have:=I.lt;omega)) ?_
  rintro _ h9 ⟨g9,T',rfl,hT9,hTn,_⟩
  have hX9:=g9.get gg8.ok hX8 (fun h=>h)
  have gg9:=gg8.trans g9
  have ln8:h7.next≤h8.next:=g8.next
  
  have gB:ab (av B'.v) h' h9:=by
   have a1:ab aG h' h4:=(g2.trans g3).trans' g4 (fun _ _ h=>h) (fun x hx e=>by omega)
   have a2:ab aG h' h5:=a1.trans' g5 (fun _ _ h=>h) (fun x hx e=>by have:=hPn x e;omega)
   have a3:ab aG h' h7:=(a2.trans g6).trans' g7 (fun _ _ h=>h) (fun x hx e=>by omega)
   have a4:ab aG h' h8:=a3.trans' g8 (fun _ _ h=>h) (fun x hx e=>by have:=hLn x e;have:=a2.next;omega)
   exact(a4.trans g9).aW
  have gN:ab aG h' h9:=by
   have a1:ab aG h' h4:=(g2.trans g3).trans' g4 (fun _ _ h=>h) (fun x hx e=>by omega)
   have a2:ab aG h' h5:=a1.trans' g5 (fun _ _ h=>h) (fun x hx e=>by have:=hPn x e;omega)
   have a3:ab aG h' h7:=(a2.trans g6).trans' g7 (fun _ _ h=>h) (fun x hx e=>by omega)
   have a4:ab aG h' h8:=a3.trans' g8 (fun _ _ h=>h) (fun x hx e=>by have:=hLn x e;have:=a2.next;omega)
   exact a4.trans g9
  have hF9:=gN.get okh hF' (fun h=>h)
  have hR9:=gN.get okh hR' (fun h=>h)
  have hBb9:=gN.get okh hBb (fun h=>h)
  simp[ak] at hF9
  rw[hBa,hBl,hyl] at hF9
  have lB:=(okh.bl hBb).lt
  have lF:=(okh.bl hF').lt
  have nFX: ¬F=h'.next:=by omega
  have nBX: ¬bB=h'.next:=by omega
  have hf6:=hfit 0 6 (by decide)
  simp at hf6
  simp[m1,m3,m4,m16,hX9,hF9,nFX,nBX,hjl,hBb9,hf6,wj]
  have V9:=V8.grow gg8.ok g9 (fun _ h=>h.elim)
  have hP7:eJ iK h7 P' qs5:=(hP5.aW gg5.ok g6).grow gg6.ok g7 (fun b hb e=>by have:=hPn b hb;omega)
  have hP9:eJ iK h9 P' qs5:=(hP7.grow gg7.ok g8 (fun b hb e=>by have:=hLn b e;have:=lPh3 b hb;omega)).aW gg8.ok g9
  have hL9:=hL8.aW gg8.ok g9
  have lL7: ∀x,av L'.v x→x<h7.next:=fun x hx=>hL7.bl gg7.ok hx
  obtain⟨κn,R9,Vn9,new9,one9⟩:=PI V9 gg9.ok (kind:=y.kind) (on:=y.on) hP9 hL9 hT9
   (fun b hb=>⟨by have:=hPn b hb;omega,by rw[hκ8 b (by have:=lPh3 b hb;omega),hκ5 b (lPh3 b hb)],fun h=>by have:=hLn b h;have:=lPh3 b hb;omega,fun h=>by have:=hTn b h;have:=lPh3 b hb;omega⟩)
   (fun b hb=>⟨by have:=hLn b hb;omega,by
    rw[hκ8 b (lL7 b hb)]
    rcases Nat.eq_zero_or_pos (κ5 b) with h|h
    ·exact h
    ·have:=hLn b hb
     have:=(V5.new b (by omega)).2.2
     omega,fun h=>by have:=hTn b h;have:=lL7 b hb;omega⟩)
   (fun b hb=>⟨by have:=hTn b hb;omega,by
    rcases Nat.eq_zero_or_pos (κ8 b) with h|h
    ·exact h
    ·have:=hTn b hb
     have:=(V8.new b (by omega)).2.2
     omega⟩)
   (fun q hq=>by
    obtain⟨i,hi⟩:=pM hq
    have hil:=(bY.mp hi).1
    have hpi:b.dY[i]? =some (b.dY[i]'(by omega)):=aQ (by omega)
    have hpm:=di hpi
    obtain⟨a1,a2,_⟩:=hq5 i q _ hi hpi
    have:=(I.ph _ hpm).1
    refine⟨by rw[a1];exact this,a2.congr (fun b' hb'=> ?_)⟩
    obtain⟨c1,c2⟩:=hc8 b' (by omega)
    exact⟨by omega,c2⟩)
   (fun x hx=>by
    obtain⟨i,hi⟩:=pM hx
    have hil:=(bY.mp hi).1
    have hpi:b.list[i]? =some (b.list[i]'(by omega)):=aQ (by omega)
    have hpm:=di hpi
    obtain⟨⟨_,a1,a2,a3,_⟩,a4,_⟩:=hx8 i x _ hi hpi
    obtain⟨c1,c2,c3,_⟩:=I.li _ hpm
    exact⟨by rw[a1];exact c1,by rw[a2];exact c2,by rw[a3];exact c3,a4⟩)
   (by rw[hT.on];exact I.on)
  have hκX:κ8 h'.next=0:=by rw[hκ8 _ (by omega)];exact nX5
  obtain⟨h10,e10⟩: ∃h10,h10=put h9 h'.next 5 [.slice P'.a P'.l P'.c,.slice L'.a L'.l L'.c,.int .i64 y.kind,.bool y.on.1,.int .i64 y.on.2,.slice y.T.a y.T.l y.T.c] [.slice T'.a T'.l T'.c] 0:=⟨_,rfl⟩
  rw[←e10]
  have g10:ab (· =h'.next) h9 h10:=by rw[e10];exact aJ gg9.ok hX9
  have hBb10:=g10.get gg9.ok hBb9 nBX
  have g11:ab (· =bB) h10 (put h10 bB (j*6) cs [.slice P'.a P'.l P'.c,.slice L'.a L'.l L'.c,.int .i64 y.kind,.bool y.on.1,.int .i64 y.on.2,.slice T'.a T'.l T'.c] oB):=aJ g10.ok hBb10
  have gS:ab (fun x=>x=h'.next∨x=bB) h9 (put h10 bB (j*6) cs [.slice P'.a P'.l P'.c,.slice L'.a L'.l L'.c,.int .i64 y.kind,.bool y.on.1,.int .i64 y.on.2,.slice T'.a T'.l T'.c] oB):=g10.trans' g11 (fun _ _ h=> .inl h) (fun _ _ h=> .inr h)
  have n1: ∀x,(x=h'.next∨x=bB)→ ¬av P'.v x∧ ¬av L'.v x∧ ¬av T'.v x:=by
   intro x hx
   refine⟨fun h=> ?_,fun h=> ?_,fun h=> ?_⟩
   ·have:=hPn x h;omega
   ·have:=hLn x h;omega
   ·have:=hTn x h;omega
  have Rf:=R9.grow gg9.ok gS n1
  have Vf:=Vn9.grow gg9.ok gS (fun x hx h1=>by
   have h2:=one9 x h1
   have h3:=new9 x (by omega)
   rcases hx with rfl|rfl
   ·omega
   ·omega)
  have gF:ab (av B'.v) h' (put h10 bB (j*6) cs [.slice P'.a P'.l P'.c,.slice L'.a L'.l L'.c,.int .i64 y.kind,.bool y.on.1,.int .i64 y.on.2,.slice T'.a T'.l T'.c] oB):=
   gN.trans' gS (fun _ _ h=>h.elim) (fun x hx h=>by
    rcases h with rfl|rfl
    ·omega
    ·exact bN hBa)
  have hκB: ∀x,av B'.v x→κ x=0∨κ x=2:=by
   intro x hx
   rcases Nat.eq_zero_or_pos (κ x) with h|h
   ·exact .inl h
   ·have:=(W.new x (by omega)).1
    have:=(hBM x hx).2.1
    omega
  have Wf:=W.push okh gF hκB (by have:=g.next;omega) Rf Vf (fun x hx=>⟨(new9 x hx).1,by have:=(new9 x hx).2;have:=gS.next;omega⟩)
  have hset':=hset ⟨P',L',T',y.kind,y.on,qs5,xs8,b.to⟩ 0 [.slice P'.a P'.l P'.c,.slice L'.a L'.l L'.c,.int .i64 y.kind,.bool y.on.1,.int .i64 y.on.2,.slice T'.a T'.l T'.c] (by simp) rfl (put h10 bB (j*6) cs [.slice P'.a P'.l P'.c,.slice L'.a L'.l L'.c,.int .i64 y.kind,.bool y.on.1,.int .i64 y.on.2,.slice T'.a T'.l T'.c] oB) ⟨_,ax _ _ _ _ _ _⟩
  refine⟨bs.length-(j+1),by omega,j+1,ys.set j ⟨P',L',T',y.kind,y.on,qs5,xs8,b.to⟩,rs++[⟨P',L',T',y.kind,y.on,qs5,xs8,b.to⟩],_,_,rfl,hjl,by simp[m1],by simp[m2],by simp[m14,hBa,hBl,hyl],by simp[m15],by simp,g.trans gF,hset',by simp[hyl],by simp[hrl],Wf,fun i y' b' h1 h2=> ?_⟩
  rw[List.getElem?_set] at h1
  by_cases e:j=i
  ·subst e
   rw[if_pos rfl,if_pos (by omega)] at h1
   cases h1
   rw[hb] at h2;cases h2
   refine⟨fun _=>⟨by rw[List.getElem?_append_right (by omega),hrl];simp,⟨hT.kind,hT.on,rfl,hq5l,fun i q p a1 a2=> ?_,hx8l,fun i q p a1 a2=>⟨(hx8 i q p a1 a2).1,(hx8 i q p a1 a2).2.2⟩⟩⟩,fun h=>by omega⟩
   obtain⟨c1,_,c3⟩:=hq5 i q p a1 a2
   exact⟨c1,c3⟩
  ·rw[if_neg e] at h1
   obtain⟨a1,a2⟩:=H i y' b' h1 h2
   refine⟨fun h=> ?_,fun h=>a2 (by omega)⟩
   obtain⟨c1,c2⟩:=a1 (by omega)
   exact⟨by rw[List.getElem?_append_left (by omega)];exact c1,c2⟩
 ·have:j=bs.length:=by omega
  subst this
  have e:ys=rs:=List.ext_getElem? fun i=>by
   rcases Nat.lt_or_ge i bs.length with hi|hi
   ·have h1:ys[i]? =some (ys[i]'(by omega)):=aQ (by omega)
    have h2:bs[i]? =some bs[i]:=aQ hi
    rw[h1,((H i _ _ h1 h2).1 hi).1]
   ·rw[List.getElem?_eq_none (by omega),List.getElem?_eq_none (by omega)]
  subst e
  simp[q15,q16]
  exact C _ _ ys κ cap (by simp[q1]) (by simp[q2]) g hB hyl W (fun i y b h1 h2=>((H i y b h1 h2).1 (bY.mp h2).1).2)
structure ou (h:ae) (n0 ai:Nat) (κ cap:Nat→Nat) (B:SV) (rs:List XR):Prop where
 os:cy h n0 ai κ cap rs
 A:eJ fq h B rs
 kB: ∀b,av B.v b→κ b=2
theorem ou.aW {h h':ae} {n0 ai:Nat} {κ cap:Nat→Nat} {B:SV} {rs:List XR} (w:ou h n0 ai κ cap B rs) (ok:bh h) (g:ab aG h h'):ou h' n0 ai κ cap B rs:=⟨w.os.aW ok g,w.A.aW ok g,w.kB⟩
theorem ou.grow {S:Nat→Prop} {h h':ae} {n0 ai:Nat} {κ cap:Nat→Nat} {B:SV} {rs:List XR} (w:ou h n0 ai κ cap B rs) (ok:bh h) (g:ab S h h') (hS: ∀b,S b→κ b=0):ou h' n0 ai κ cap B rs:=
 ⟨w.os.grow ok g (fun b hb=> .inl (hS b hb)),w.A.grow ok g (fun b hb hs=>by have:=hS b hs;have:=w.kB b hb;omega),w.kB⟩
theorem cy.own {h:ae} {n0 n1 ai:Nat} {κ cap:Nat→Nat} {B:SV} {rs:List XR} (w:cy h n1 ai κ cap rs) (ok:bh h) (hB:eJ fq h B rs) (hn:n0≤n1) (hBn: ∀b,av B.v b→n0≤b∧κ b=0): ∃κ':Nat→Nat,ou h n0 ai κ' cap B rs∧ ∀b,¬av B.v b→κ' b=κ b:=by
 obtain⟨κ',p1,q1⟩: ∃κ':Nat→Nat,(∀b,av B.v b→κ' b=2)∧(∀b,¬av B.v b→κ' b=κ b):=by
  rcases hB.2 with⟨ha,_⟩|⟨b,_,_,_,ha,_⟩
  ·exact⟨κ,fun b hb=>(fz ha hb).elim,fun b _=>rfl⟩
  ·exact⟨xE κ B 2,fun b' hb=>by rw[pw ha hb];exact mJ ha,fun b' hb=>ji ha (fun e=>hb (e▸bN ha))⟩
 have e1: ∀b,κ b≠0→κ' b=κ b∧cap b=cap b:=fun b hb=>⟨q1 b (fun h=>hb (hBn b h).2),rfl⟩
 refine⟨κ',⟨⟨fun i r hr=>(w.r i r hr).congr e1,w.dP,w.dL,w.dT,fun b hb=> ?_,fun b hb=> ?_⟩,hB,p1⟩,q1⟩
 ·by_cases h1:av B.v b
  ·rw[p1 b h1] at hb;omega
  ·rw[q1 b h1] at hb;exact w.V b hb
 ·by_cases h1:av B.v b
  ·exact⟨(hBn b h1).1,hB.bl ok h1⟩
  ·rw[q1 b h1] at hb
   have:=w.new b hb
   omega
def Ju (rs:List XR) (bs:List GB):Prop:=rs.length=bs.length∧ ∀(i:Nat) (y:XR) (b:GB),rs[i]? =some y→bs[i]? =some b→RD y b
def Mn (name:ByteArray) (p r:Int) (ai:Nat) (bs:List GB) (h:ae) (v:Value) (h':ae):Prop:=
 ab aG h h'∧ ∃(B':SV) (rs:List XR) (κ cap:Nat→Nat),v= .agg ⟨ak name p r B'⟩∧ou h' h.next ai κ cap B' rs∧Ju rs bs
theorem G8 {h:ae} (ok:bh h) {name:ByteArray} {p r:Int} {B:SV} {bs:List GB} {ai:Nat} (hB:wB h B bs) (hin: ∀b∈bs,Pf ai b) (hbl:bs.length<1000000):
  aE FF vc [.agg ⟨ak name p r B⟩] h (Mn name p r ai bs h):=by
 refine aE.of Cl ?_
 unfold vw
 simp[ak]
 refine aD.cut (fun h1=>ab aG h h1∧h1.tr.get h.next=some (.aA (ak name p r B) false 0 0)∧h1.tr.get (h.next+1)=some (.aA [.string ⟨⟨[]⟩⟩,.int .i64 0,.int .i64 0,.slice none 0 0] false 0 0)) ?_ ?_
 ·exact⟨((ab.refl ok).new _ _).new _ _,by simp[ak],by simp⟩
 rintro h1 ⟨g1,hF1,hR1⟩
 obtain⟨ys0,hyl,hys,hy⟩:=OC hB
 refine aD.call (V:=pF fq h1 ys0) (by simpa using iy fq (bytes:=96) jm rfl (by decide) g1.ok (hys.aW ok g1) (by omega)) ?_
 rintro _ h2 ⟨g2,B',rfl,hB2,hBn,_⟩
 have gg2:=g1.trans g2
 have hF2:=g2.get g1.ok hF1 (fun h=>h)
 have hR2:=g2.get g1.ok hR1 (fun h=>h)
 have lR:=g1.ok.wf _ _ hR1
 have lR2:=gg2.ok.wf _ _ hR2
 have hB'l:=hB2.len
 simp[ak] at hF2
 simp[hF2]
 refine az.cut (fun h3=>ab (· =h.next) h2 h3∧(∃s,h3.tr.get h.next=some (.aA (ak name p r B') false 0 s))) ?_ ?_
 ·refine⟨aJ gg2.ok hF2,h2.clock,?_⟩
  rw[ax]
  simp[ak,aK]
 rintro h3 ⟨g3,s3,hF3⟩
 have gg3:ab aG h h3:=gg2.trans' g3 (fun _ _ h=>h) (fun x hx e=>by omega)
 have hB3:=hB2.grow gg2.ok g3 (fun b hb e=>by have:=hBn b hb;omega)
 have hR3:=g3.get gg2.ok hR2 (by omega)
 have hBo: ∀b,av B'.v b→b<h2.next:=fun b hb=>hB2.bl gg2.ok hb
 have ln3:=g3.next
 refine DU ok gg3 (M0:=h2.next) (ai:=ai) hB3 hyl hy hin hbl ln3 (fun b hb=>⟨by have:=hBn b hb;omega,hBo b hb,by have:=hBn b hb;omega,by have:=hBn b hb;omega⟩) (by omega) (by omega) (by omega) hF3 hR3 (by simp) (by simp) (by simp) (by simp[hB'l,hyl]) (by simp) ?_
 intro e4 h4 ys κ cap q1 q2 g4 hB4 hyl4 W4 H4
 have gg4:ab aG h h4:=gg3.trans' g4 (fun _ _ h=>h) (fun x hx e=>by have:=hBn x e;omega)
 have hF4:=g4.get gg3.ok hF3 (fun e=>by have:=hBn _ e;omega)
 have hR4:=g4.get gg3.ok hR3 (fun e=>by have:=hBn _ e;omega)
 simp[ak] at hF4
 simp[q1,q2,hF4,hR4]
 have κ0: ∀b,b<h2.next→κ b=0:=by
  intro b hb
  rcases Nat.eq_zero_or_pos (κ b) with h|h
  ·exact h
  ·have:=(W4.new b (by omega)).1;omega
 have gR:ab (· =h.next+1) h4 (put h4 (h.next+1) 0 [.string ⟨⟨[]⟩⟩,.int .i64 0,.int .i64 0,.slice none 0 0] [.string name,.int .i64 p,.int .i64 r,.slice B'.a B'.l B'.c] 0):=aJ gg4.ok hR4
 have W5:=W4.grow gg4.ok gR (fun b e=> .inl (κ0 b (by omega)))
 have hB5:=hB4.grow gg4.ok gR (fun b hb e=>by have:=hBn b hb;omega)
 obtain⟨κ',W6,_⟩:=W5.own (n0:=h.next) gR.ok hB5 (by omega) (fun b hb=>⟨by have:=hBn b hb;omega,κ0 b (hBo b hb)⟩)
 exact⟨gg4.trans' gR (fun _ _ h=>h) (fun x hx e=>by omega),B',ys,κ',cap,rfl,W6,hyl4,H4⟩
theorem nh {α β:Type} {Q:α→β→Prop} : ∀(xs:List α),(∀x∈xs,∃y,Q x y)→ ∃ys:List β,ys.length=xs.length∧ ∀(i:Nat) (x:α) (y:β),xs[i]? =some x→ys[i]? =some y→Q x y
 |[],_=>⟨[],rfl,fun i x y h=>by simp at h⟩
 |x::xs,H=>by
  obtain⟨y,h1⟩:=H x (List.mem_cons_self ..)
  obtain⟨ys,hl,h2⟩:=nh xs (fun x hx=>H x (List.mem_cons_of_mem _ hx))
  refine⟨y::ys,by simp[hl],fun i x' y' hx hy=> ?_⟩
  cases i with
  |zero=>simp at hx hy;subst hx;subst hy;exact h1
  |succ i=>exact h2 i x' y' hx hy
theorem eJ.view {α β:Type} {E:Enc α} {R:List Value→β→Prop} {h:ae} {A:SV} {xs:List α} {ys:List β} (w:eJ E h A xs) (hl:ys.length=xs.length) (H: ∀(i:Nat) (x:α) (y:β),xs[i]? =some x→ys[i]? =some y→R (E.enc x) y):SliceR R E.sz h A.v ys:=by
 obtain⟨hA,w⟩:=w
 refine⟨A.a,A.c,by simp[hA,hl],?_⟩
 rcases w with⟨ha,_,rfl⟩|⟨b,o,s,rest,ha,hc,hb,_⟩
 ·exact .inl ⟨List.eq_nil_of_length_eq_zero hl,.inl ha⟩
 ·refine .inr ⟨b,0,_,_,_,_,ha,hb,fun i y hy=> ?_⟩
  have hi:=(bY.mp hy).1
  have hx:xs[i]? =some (xs[i]'(by omega)):=aQ (by omega)
  have hx':(xs++rest)[i]? =some (xs[i]'(by omega)):=by rw[List.getElem?_append_left (by omega)];exact hx
  rw[Nat.zero_add,E.mN _ _ _ hx']
  exact⟨E.len _,H i _ y hx hy⟩
theorem VA.row {h:ae} {κ cap:Nat→Nat} {ai:Nat} {F:SV} (w:VA κ cap F) (V:xy h κ cap ai): ∃row,SliceR vR 2 h F.v row∧row.length=F.l∧ ∀v∈row,gO ai v:=by
 obtain⟨hl,h|⟨b,ha,hk,hc⟩⟩:=w
 ·refine⟨[],⟨F.a,F.c,by simp;omega,.inl ⟨rfl,.inl h.1⟩⟩,by simp;omega,fun v hv=>by simp at hv⟩
 ·obtain⟨vs,o,s,hb,_,hvl,hv⟩:=V b hk
  refine⟨vs.take F.l,⟨F.a,F.c,by simp;omega,.inr ⟨b,0,_,_,_,_,ha,hb,fun i y hy=> ?_⟩⟩,by simp;omega,fun v hm=>hv v (List.mem_of_mem_take hm)⟩
  have hy':vs[i]? =some y:=by
   rw[List.getElem?_take] at hy
   split at hy
   ·exact hy
   ·cases hy
  have:=bU.mN vs i y hy'
  rw[Nat.zero_add]
  simp only[eX] at this
  rw[this]
  exact⟨rfl,rfl⟩
structure BV (ai:Nat) (r:XR) (b:GB):Prop where
 kind:b.kind=r.kind
 on:b.on=r.on
 to:b.to=r.ts
 pl:b.dY.length=r.ps.length
 ps: ∀(i:Nat) (q:Int×SV) (p:GP),r.ps[i]? =some q→b.dY[i]? =some p→p.dst=q.1∧p.row.length=q.2.l∧ ∀v∈p.row,gO ai v
 ll:b.list.length=r.ls.length
 ls: ∀(i:Nat) (q:XI) (p:GI),r.ls[i]? =some q→b.list[i]? =some p→DG q p∧p.args.length=q.args.l∧ ∀v∈p.args,gO ai v
def Nq (ai:Nat) (rs:List XR) (bs:List GB):Prop:=bs.length=rs.length∧ ∀(i:Nat) (r:XR) (b:GB),rs[i]? =some r→bs[i]? =some b→BV ai r b
theorem Gq.view {h:ae} {κ cap:Nat→Nat} {ai:Nat} {r:XR} (w:Gq h κ cap ai r) (V:xy h κ cap ai): ∃b,bR h (fq.enc r) b∧BV ai r b:=by
 obtain⟨phs,hpl,hps⟩:=nh (Q:=fun(q:Int×SV) (p:GP)=>pR h (iK.enc q) p∧p.dst=q.1∧p.row.length=q.2.l∧ ∀v∈p.row,gO ai v) r.ps (fun q hq=>by
  obtain⟨row,a1,a2,a3⟩:=VA.row (w.ps q hq).2 V
  exact⟨⟨q.1,row⟩,⟨q.2,rfl,a1⟩,rfl,a2,a3⟩)
 obtain⟨xs,hxl,hxs⟩:=nh (Q:=fun(q:XI) (p:GI)=>iR h (me.enc q) p∧DG q p∧p.args.length=q.args.l∧ ∀v∈p.args,gO ai v) r.ls (fun q hq=>by
  obtain⟨row,a1,a2,a3⟩:=VA.row (w.ls q hq).2.2.2 V
  exact⟨⟨q.op,q.dst,q.a,q.b,q.fn,row⟩,⟨q.args,rfl,a1⟩,⟨rfl,rfl,rfl,rfl,rfl⟩,a2,a3⟩)
 refine⟨⟨phs,xs,r.kind,r.on,r.ts⟩,⟨r.P,r.L,r.T,rfl,?_,?_,?_⟩,rfl,rfl,rfl,hpl,fun i q p a b=>(hps i q p a b).2,hxl,fun i q p a b=>(hxs i q p a b).2⟩
 ·exact w.P.view hpl (fun i q p a b=>(hps i q p a b).1)
 ·exact w.L.view hxl (fun i q p a b=>(hxs i q p a b).1)
 ·exact w.T.view rfl (fun i x y a b=>by rw[a] at b;cases b;rfl)
theorem ou.view {h:ae} {n0 ai:Nat} {κ cap:Nat→Nat} {B:SV} {rs:List XR} (w:ou h n0 ai κ cap B rs): ∃bs,wB h B bs∧Nq ai rs bs:=by
 obtain⟨bs,hl,H⟩:=nh (Q:=fun(r:XR) (b:GB)=>bR h (fq.enc r) b∧BV ai r b) rs (fun r hr=>by
  obtain⟨i,hi⟩:=pM hr
  exact(w.os.r i r hi).view w.os.V)
 exact⟨bs,w.A.view hl (fun i r b a c=>(H i r b a c).1),hl,fun i r b a c=>(H i r b a c).2⟩
def bD (rs:List XR):List (List Int):=rs.map (·.ts)
theorem Nq.cT {ai:Nat} {rs:List XR} {bs:List GB} (w:Nq ai rs bs):aX bs=bD rs:=by
 refine List.ext_getElem? fun i=> ?_
 unfold aX bD
 rw[List.getElem?_map,List.getElem?_map]
 rcases Nat.lt_or_ge i rs.length with hi|hi
 ·have h1:rs[i]? =some rs[i]:=aQ hi
  have h2:bs[i]? =some (bs[i]'(by rw[w.1];exact hi)):=aQ (by rw[w.1];exact hi)
  rw[h1,h2]
  simp only[Option.map_some]
  rw[(w.2 i _ _ h1 h2).to]
 ·rw[List.getElem?_eq_none (by rw[w.1];exact hi),List.getElem?_eq_none hi]
  rfl
structure NA (tss:List (List Int)):Prop where
 len:tss.length≤1000
 two: ∀ts∈tss,ts.length≤2
 to: ∀ts∈tss,∀t∈ts,0≤t∧t<tss.length
theorem Nq.ends {ai:Nat} {rs:List XR} {bs:List GB} (w:Nq ai rs bs) (T:NA (bD rs)):iJ bs:=by
 have e:=w.cT
 have hl:(bD rs).length=bs.length:=by rw[←e];simp[aX]
 refine⟨by have:=T.len;omega,fun b hb=>T.two _ ?_,fun b hb t ht=> ?_⟩
 ·rw[←e];exact List.mem_map.2 ⟨b,hb,rfl⟩
 ·rw[←hl]
  exact T.to b.to (by rw[←e];exact List.mem_map.2 ⟨b,hb,rfl⟩) t ht
theorem JN {α:Type} {E:Enc α} {h:ae} (ok:bh h) {n0 bytes:Nat} {z:List Value} {v w:Value} {xs:List α} {y:α} (hz:z.length=E.sz) (a:cj E n0 h v xs) (hw:aS E h w [y])
  (hl:xs.length<2000000) (hby:bytes≤1000) (hn:n0≤h.next):
  ∃v' h',j6 h z bytes false v w=some (v',h')∧
   cj E n0 h' v' (xs++[y])∧ab (av v) h h'∧ ∀b,av v' b→b=h.next:=by
 unfold j6
 rw[xR hz hw]
 dsimp only
 have r1:roomy (xs.length+1)=true:=by simp[roomy];omega
 have r2:roomy ((xs.length+1)*bytes)=true:=by
  have:(xs.length+1)*bytes≤2000000*1000:=Nat.mul_le_mul (by omega) hby
  simp[roomy];omega
 have hp:=E.pos
 have hp':E.sz≠0:=by omega
 rcases a with⟨rfl,rfl⟩|⟨b,s,rfl,hb,hx,hb0⟩
 ·have r3:roomy bytes=true:=by simp[roomy];omega
  refine⟨.slice (some ⟨h.next,0,none⟩) 1 1,aH h (E.flat [y]) E.sz,?_,.inr ⟨h.next,0,rfl,by simp,by simp,hn⟩,(aI ok _ _).aW,?_⟩
  ·have r4:roomy 1=true:=rfl
   simp[ff,hz,hp,r3,r4]
  ·rintro b ⟨off,n,cap,e⟩;cases e;rfl
 ·refine⟨.slice (some ⟨h.next,0,none⟩) (xs.length+1) (xs.length+1),aH { h with tr:=h.tr.del b } (E.flat xs++E.flat [y]) E.sz,?_,.inr ⟨h.next,0,by simp,?_,by simp,hn⟩,?_,?_⟩
  ·have e1: ¬xs.length+1≤xs.length:=by omega
   have e2:(E.flat xs).take (xs.length*E.sz)=E.flat xs:=List.take_of_length_le (by simp)
   simp[ff,hz,hp,r1,r2,hb,e1,e2,hp']
  ·have:=bH { h with tr:=h.tr.del b } (E.flat xs++E.flat [y]) E.sz
   rw[Enc.cX]
   exact this
  ·refine((fZ ok b).bM ?_).trans (aI (fZ ok b).ok _ _).aW
   rintro x _ rfl
   exact⟨_,_,_,rfl⟩
  ·rintro b' ⟨off,n,cap,e⟩;cases e;rfl
theorem cj.low {α:Type} {E:Enc α} {n0 n1:Nat} {h:ae} {v:Value} {xs:List α} (a:cj E n1 h v xs) (hn:n0≤n1):cj E n0 h v xs:=by
 rcases a with a|⟨b,s,e,hb,hx,h1⟩
 ·exact .inl a
 ·exact .inr ⟨b,s,e,hb,hx,by omega⟩
def HG:aj:=(.ops [⟨(some 5),none,(.alloc [(.bool false),(.int .i64 0)])⟩,⟨none,none,(.store 2 (.tmp 5) (.tmp 7))⟩])
def AV:aj:=(.block 1 (.ops [l_ 8 2,L_ 9 2 5,o_ 10 (.ct 1 [(.bool false),(.int .i64 0)] [(0,(2,(t_ 9)))]),o_ 11 (.append [(.bool false),(.int .i64 0)] 16 false (t_ 8) (t_ 10)),s_ 1 2 11]))
theorem Av (x:GI):(c7 x).length≤x.args.length+2:=by
 unfold c7
 split<;>split<;>simp<;>omega
def Qf (h0:ae) (x:GI) (Sx l:Nat) (e:Env) (B j:Nat) (h2:ae):Prop:=(h0.next≤B∧l<B)∧ab aG h0 h2∧h2.tr.get l=some (.loop e [7] HG AV .ready)∧ ∃L:SV,(∃s,h2.tr.get Sx=some (.aA [L.v] false 0 s))∧cj bU B h2 L.v ((c7 x).take j)
def LK (h:ae) (xs:List (Bool×Int)) (v:Value) (h':ae):Prop:=ab aG h h'∧ ∃L:SV,v=L.v∧cj bU h.next h' L.v xs
theorem Cp {h0 hA:ae} (ok0:bh h0) (gA:ab aG h0 hA) {X Sx sX s1:Nat} {x:GI} {A:SV} (hX:h0.tr.get X=some (.aA (ez x A) false 0 sX)) (sA:SliceR vR 2 h0 A.v x.args) (hal:x.args.length<1900000) (hS:hA.tr.get Sx=some (.aA [eg.v] false 0 s1)) (hSx:h0.next≤Sx)
  {e:Env} {Q:aO→Env→ae→Prop} (f2:Env.get e 2= .pointer (some ⟨Sx,0,none⟩)) (f6:Env.get e 6= .func (.func cO) #[] #[.pointer (some ⟨X,0,none⟩)])
  (norm: ∀h' L,ab aG h0 h'→(∃s,h'.tr.get Sx=some (.aA [SV.v L] false 0 s))→cj bU h0.next h' (SV.v L) (c7 x)→Q .normal e h'):az FF (.AM (.tmp 6) [7] HG AV) e hA Q:=by
 have okA:=gA.ok
 have lX:=(ok0.bl hX).lt
 have lS:=(okA.bl hS).lt
 have lA:=gA.next
 obtain⟨g0,hl0⟩:=wq okA e [7] HG AV
 have hn0:(hA.new (.loop e [7] HG AV .ready)).next=hA.next+1:=rfl
 refine az.AM (first:= #[]) (caps:= #[.pointer (some ⟨X,0,none⟩)]) (by simpa using f6) ?_
 generalize hA.new (.loop e [7] HG AV .ready)=hL at*
 have gL:=gA.trans g0
 have H:=uF (h:=hL) ok0 sA (by omega) (X:=X) (y:= .func (.yield hA.next) #[] #[]) (Qf h0 x Sx hA.next e) (fun b=>b=Sx∨b=hA.next) (fun _=>False)
  (fun _ _ h2 hh=>⟨hh.2.1,sX,hh.2.1.get ok0 hX (fun h=>h)⟩)
  (fun _ _ h2 h3 hh g=>by
   obtain⟨q0,q1,q2,L,⟨s,q3⟩,q4⟩:=hh
   exact⟨q0,q1.trans g,g.get q1.ok q2 (fun h=>h),L,⟨s,g.get q1.ok q3 (fun h=>h)⟩,q4.grow q1.ok g (fun _ _ h=>h)⟩)
  (by rintro b (rfl|rfl)<;>omega) ?_ gL ⟨sX,gL.get ok0 hX (fun h=>h)⟩
  (fun h1 g=>⟨by have:=g.next;omega,gL.trans g,g.get gL.ok hl0 (fun h=>h),eg,⟨s1,g.get gL.ok (g0.get okA hS (fun h=>h)) (fun h=>h)⟩,.inl ⟨by simp,rfl⟩⟩)
 ·refine aE.mono (by simpa using H) ?_
  rintro v h' ⟨Bq,q0,q1,q2,L,⟨s,q3⟩,q4⟩
  unfold pS
  rw[q2]
  have gd:ab (· =hA.next) h' (ve h' hA.next):=fZ q1.ok hA.next
  rw[List.take_length] at q4
  exact norm _ L (q1.trans' gd (fun _ _ h=>h) (fun x hx e=>by omega)) ⟨s,gd.get q1.ok q3 (by omega)⟩ (cj.low (q4.grow q1.ok gd (fun b hb e=>by have:=q4.of hb;omega)) q0.1)
 ·rintro Bq k v h2 hk hB1 hB2 ⟨q0,q1,q2,L,⟨s,q3⟩,q4⟩
  have hkl:=(bY.mp hk).1
  have hvl:=Av x
  have lLb: ∀b,av L.v b→Bq≤b:=fun b hb=>q4.of hb
  refine(uS (S:=fun b=>b=Sx∨av L.v b) (K:=fun h'=>ab aG h0 h'∧ ∃L:SV,(∃s,h'.tr.get Sx=some (.aA [L.v] false 0 s))∧cj bU Bq h' L.v ((c7 x).take (k+1))) (Z:=fun _=>False) q1.ok (by rintro(h|h);omega;have:=lLb _ h;omega) q2 ?_ ?_ (fun _ _ h=>h.elim)).mono ?_
  ·unfold HG
   simp
   have gv:ab aG h2 (put (aH h2 [.bool false,.int .i64 0] 0) h2.next 0 [.bool false,.int .i64 0] [.bool v.1,.int .i64 v.2] 0):=(ab.refl q1.ok).var _ _
   have hV:(put (aH h2 [.bool false,.int .i64 0] 0) h2.next 0 [.bool false,.int .i64 0] [.bool v.1,.int .i64 v.2] 0).tr.get h2.next=some (.aA [.bool v.1,.int .i64 v.2] false 0 h2.clock):=by simp
   have lV:h2.next<(put (aH h2 [.bool false,.int .i64 0] 0) h2.next 0 [.bool false,.int .i64 0] [.bool v.1,.int .i64 v.2] 0).next:=by simp
   generalize put (aH h2 [.bool false,.int .i64 0] 0) h2.next 0 [.bool false,.int .i64 0] [.bool v.1,.int .i64 v.2] 0=h3 at*
   refine⟨gv,fun h4 g4=> ?_⟩
   have lL2:hA.next<h2.next:=q1.ok.wf _ _ q2
   have t3:ab aG h0 h4:=(q1.trans gv).trans' g4 (fun _ _ h=>h) (fun x hx e=>by omega)
   have hV4:=g4.get gv.ok hV (by omega)
   have hS4:=g4.get gv.ok (gv.get q1.ok q3 (fun h=>h)) (by omega)
   have hA4:=(q4.grow q1.ok gv (fun _ _ h=>h)).grow gv.ok g4 (fun b hb e=>by have:=lLb b hb;omega)
   simp at hS4
   unfold AV
   simp[f2,hS4,hV4]
   have oS4:=t3.ok.bl hS4
   have g5:=aI t3.ok (bU.enc v) 0
   simp only[rU] at g5
   have hA5:=hA4.grow t3.ok g5 (fun _ _ h=>h)
   have hw5:aS bU (aH h4 [.bool v.1,.int .i64 v.2] 0) (.slice (some ⟨h4.next,0,none⟩) 1 1) [v]:=⟨_,_,rfl,.inr ⟨h4.next,0,_,_,_,_,rfl,bH _ _ _,by simp,by simp⟩⟩
   have l4:=g4.next
   obtain⟨v',h6,ha,hA6,g6,hd6⟩:=JN (bytes:=16) g5.ok (z:=[.bool false,.int .i64 0]) rfl hA5 hw5 (by simp;omega) (by decide) (by simp;omega)
   refine jV ha ?_
   obtain⟨L',rfl⟩:=cj.MG hA6
   have hS6:=g6.get g5.ok (g5.get t3.ok hS4 (fun h=>h)) (fun hb=>by have:=lLb _ hb;omega)
   simp[hS6,f2]
   have t6:ab aG h0 h6:=(t3.trans g5).trans' g6 (fun _ _ h=>h) (fun x hx e=>by have:=lLb x e;omega)
   refine⟨(g5.aW.trans (g6.bM (fun x _ h=> .inr h))).trans ((aJ t6.ok hS6).bM (fun x _ h=> .inl h)),t6.put ⟨_,hS6⟩ (.inl hSx),L',⟨rfl,rfl,rfl⟩,?_⟩
   have ht:(c7 x).take (k+1)=(c7 x).take k++[v]:=by rw[List.take_add_one,hk];rfl
   rw[ht]
   refine hA6.grow t6.ok (aJ t6.ok hS6) (fun b hb e=> ?_)
   have:=hd6 b hb
   simp at this
   omega
  ·rintro h4 h5 ⟨z1,L,⟨s,z2⟩,z3⟩ _ g
   exact⟨z1.trans' g (fun _ _ h=>h) (fun x hx e=>by omega),L,⟨s,g.get z1.ok z2 (by omega)⟩,z3.grow z1.ok g (fun b hb e=>by have:=z3.of hb;omega)⟩
  ·rintro r h5 ⟨g5,⟨rfl,hl5,k1,L',k2,k3⟩|⟨_,_,z⟩⟩
   ·refine⟨g5.bM (fun b _ h=> ?_),.inl ⟨rfl,q0,k1,hl5,L',k2,k3⟩⟩
    rcases h with(h|h)|h
    ·exact .inl (.inl h)
    ·exact .inr (lLb b h)
    ·exact .inl (.inr h)
   ·exact z.elim
theorem x9 {h:ae} (ok:bh h) {X:Nat} {x:GI} {A:SV} (hX: ∃s,h.tr.get X=some (.aA (ez x A) false 0 s)) (sA:SliceR vR 2 h A.v x.args) (hal:x.args.length<1900000):
  aE FF eI [.slice none 0 0,.func (.func cO) #[] #[.pointer (some ⟨X,0,none⟩)]] h (LK h (c7 x)):=by
 obtain⟨sX,hX⟩:=hX
 have lX:=(ok.bl hX).lt
 refine aE.of jw ?_
 unfold eC
 simp
 refine az.cut (fun h1=>ab aG h h1∧h1.tr.get h.next=some (.aA [eg.v] false 0 0)∧h.next<h1.next) ?_ ?_
 ·exact⟨(ab.refl ok).new _ _,by simp[eg],by simp⟩
 rintro h1 ⟨g1,hS1,l1⟩
 refine Cp ok g1 hX sA hal hS1 (Nat.le_refl _) (by simp) (by simp) ?_
 rintro h2 L g2 ⟨s2,hS2⟩ hA
 simp at hS2
 simp[hS2]
 exact⟨g2,L,by simp,hA⟩
theorem Bh {h:ae} (ok:bh h) {X:Nat} {x:GI} {A:SV} (hX: ∃s,h.tr.get X=some (.aA (ez x A) false 0 s)) (sA:SliceR vR 2 h A.v x.args) (hal:x.args.length<1900000):
  aE FF jf [.func (.func cO) #[] #[.pointer (some ⟨X,0,none⟩)]] h (LK h (c7 x)):=by
 refine aE.of pO ?_
 unfold iU
 simp
 refine aD.call (V:=LK h (c7 x)) (by simpa using x9 ok hX sA hal) ?_
 rintro _ h2 ⟨g2,L,rfl,hA⟩
 simp
 exact⟨g2,L,by simp,hA⟩
def xv (ai:Nat) (h:ae) (d lo hi:Nat) (w:SV):Prop:= ∃row,aS bU h w.v row∧row.length<2000000∧(∀v∈row,gO ai v)∧(row≠[]→ ∀b,av w.v b→b≠d∧(b<lo∨hi≤b))
theorem xv.grow {ai d lo hi:Nat} {h h':ae} {w:SV} (k:xv ai h d lo hi w) (ok:bh h) (g:ab (· =d) h h'):xv ai h' d lo hi w:=by
 obtain⟨row,s,h1,h2,h3⟩:=k
 refine⟨row,?_,h1,h2,h3⟩
 by_cases e:row=[]
 ·subst e
  obtain⟨a,cap,e2,s⟩:=s
  refine⟨a,cap,e2,?_⟩
  rcases s with s|⟨b,off,_,_,_,_,e3,_⟩
  ·exact .inl s
  ·exact .inl ⟨rfl,.inr ⟨b,off,e3⟩⟩
 ·exact s.grow ok g (fun b hb=>(h3 e b hb).1)
structure ED (h0 h:ae) (ai d lo:Nat) (ws:List SV):Prop where
 g:ab aG h0 h
 n0:h0.next≤d
 hd: ∃s,h.tr.get d=some (.aA (mf.flat ws) false 0 s)
 len:ws.length=ai
 ot: ∀w∈ws,xv ai h d lo h0.next w
theorem ED.aW {h0 h h':ae} {ai d lo:Nat} {ws:List SV} (w:ED h0 h ai d lo ws) (g:ab aG h h'):ED h0 h' ai d lo ws:=by
 obtain⟨s,hd⟩:=w.hd
 exact⟨w.g.trans g,w.n0,⟨s,g.get w.g.ok hd (fun h=>h)⟩,w.len,fun x hx=>(w.ot x hx).grow w.g.ok g.aW⟩
theorem ED.put {h0 h:ae} {ai d lo k:Nat} {ws:List SV} {w:SV} (t:ED h0 h ai d lo ws) (hk:k<ai) (gw:xv ai h d lo h0.next w):ED h0 (put h d k (mf.flat ws) [w.v] 0) ai d lo (ws.set k w):=by
 obtain⟨s,hd⟩:=t.hd
 have g:ab (· =d) h (AI.put h d k (mf.flat ws) [w.v] 0):=aJ t.g.ok hd
 refine⟨t.g.put ⟨_,hd⟩ (.inl t.n0),t.n0,⟨h.clock,by rw[ax,DC ws k w (by rw[t.len];exact hk)]⟩,by simp[t.len],fun x hx=> ?_⟩
 rcases List.mem_or_eq_of_mem_set hx with h1|rfl
 ·exact(t.ot x h1).grow t.g.ok g
 ·exact gw.grow t.g.ok g
section
variable {hf h0:ae} {ai d:Nat}
def QI (h0 h:ae) (ai d lo k:Nat) (e:Env) (m:Nat) (e':Env) (h':ae):Prop:=
 ∃(j:Nat) (ws:List SV),m=k-j∧j≤k∧aC [7,23,24,25,26,27,28,29,30,31,32,33] e e'∧Env.get e' 23= .int .i64 j∧ED h0 h' ai d lo ws∧ab (· =d) h h'
theorem Ep {h:ae} {ws:List SV} (okf:bh hf) (gf:ab aG hf h0) (w:ED h0 h ai d hf.next ws) {P:SV} {ps:List GP} (hP:SliceR (pR hf) 2 hf P.v ps) (hps: ∀q∈ps,(0≤q.dst∧q.dst<ai)∧q.row.length<2000000∧ ∀v∈q.row,gO ai v) (hl:ps.length<1000000) {e:Env} {Q:aO→Env→ae→Prop}
  (f3:Env.get e 3= .slice (some ⟨d,0,none⟩) ai ai) (f21:Env.get e 21=P.v) (f22:Env.get e 22= .int .i64 ps.length) (f23:Env.get e 23= .int .i64 0)
  (K: ∀e' h' ws',ED h0 h' ai d hf.next ws'→ab (· =d) h h'→aC [7,23,24,25,26,27,28,29,30,31,32,33] e e'→Q (.exit 2) e' h'):az FF (.loop oe) e h Q:=by
 have hPl:=SliceR.len hP
 refine az.loop (QI h0 h ai d hf.next ps.length e) ?_ (n:=ps.length) ⟨0,ws,rfl,by omega,aC.refl _ _,f23,w,.refl w.g.ok⟩
 rintro m e' h' ⟨j,ws,rfl,hj,Kp,q23,w',gd⟩
 have q3:=Kp.at (by decide) f3
 have q21:=Kp.at (by decide) f21
 have q22:=Kp.at (by decide) f22
 unfold oe
 by_cases hjl:j<ps.length
 ·have wj:=wrap_i64 ((j:Int)+1) (by omega) (by omega)
  have hx:ps[j]? =some ps[j]:=aQ hjl
  have hm:=List.getElem_mem hjl
  generalize ps[j]=q at hx hm
  obtain⟨⟨hd0,hdn⟩,hrl,hrv⟩:=hps q hm
  obtain⟨k,hk⟩: ∃k:Nat,q.dst=k:=⟨q.dst.toNat,by omega⟩
  obtain⟨bb,off,c,hPa,_,_,⟨A,rfl,sA⟩,_,hrd⟩:=SliceR.later okf hP hx
  have r0:=hrd h' (gf.trans w'.g) 0 2 (by decide)
  simp[-ag] at r0
  rw[hk] at r0
  simp at q21
  rw[hPa,hPl] at q21
  have gv:ab aG h' (put (aH h' [.int .i64 0,.slice none 0 0] 0) h'.next 0 [.int .i64 0,.slice none 0 0] [.int .i64 k,.slice A.a A.l A.c] 0):=(ab.refl w'.g.ok).var _ _
  have w2:=w'.aW gv
  obtain⟨s,hd2⟩:=w'.hd
  have od:=w'.g.ok.bl hd2
  have hkn:k<ai:=by omega
  have hkl:k+1≤ws.length:=by rw[w'.len];omega
  have hAg:xv ai (put (aH h' [.int .i64 0,.slice none 0 0] 0) h'.next 0 [.int .i64 0,.slice none 0 0] [.int .i64 k,.slice A.a A.l A.c] 0) d hf.next h0.next A:=by
   refine⟨q.row,(FY sA).aW okf (gf.trans w2.g),hrl,hrv,fun hne b hb=> ?_⟩
   have sO:=FY sA
   obtain⟨off',n',cap',e⟩:=hb
   obtain⟨a,cap,e2,s⟩:=sO
   rcases s with s|⟨b2,off2,cs2,ro2,o2,st2,e3,hb2,_⟩
   ·exact absurd s.1 hne
   ·rw[e,e3] at e2
    injection e2 with e2
    cases e2
    have:=okf.wf _ _ hb2
    have:=w'.n0
    have:=gf.next
    exact⟨by omega,.inl (by omega)⟩
  simp[q3,q21,q22,q23,hjl,r0,-ag,aq,hd2,od,hkl,hkn,wj]
  refine⟨ps.length-(j+1),by omega,j+1,ws.set k A,rfl,by omega,?_,by simp,by simpa using w2.put hkn hAg,(gd.trans gv.aW).trans (aJ gv.ok (gv.get w'.g.ok hd2 (fun h=>h)))⟩
  repeat (refine aC.set (by decide) ?_)
  exact Kp
 ·have:j=ps.length:=by omega
  subst this
  simp[q22,q23]
  exact K _ _ ws w' gd (Kp.set (by decide))
def PT (h0 h:ae) (ai d lo k:Nat) (e:Env) (m:Nat) (e':Env) (h':ae):Prop:=
 ∃(j:Nat) (ws:List SV),m=k-j∧j≤k∧aC [9,37,38,39,40,41,42,43,44,45,46,47,48,49,50,51] e e'∧Env.get e' 37= .int .i64 j∧ED h0 h' ai d lo ws∧ab (· =d) h h'
theorem Fq {h:ae} {ws:List SV} (okf:bh hf) (gf:ab aG hf h0) (w:ED h0 h ai d hf.next ws) {L:SV} {xs:List GI} (hL:SliceR (iR hf) 8 hf L.v xs) (hxs: ∀x∈xs,x.dst<ai∧x.args.length<1900000∧ ∀v∈c7 x,gO ai v) (hl:xs.length<1000000) {e:Env} {Q:aO→Env→ae→Prop}
  (f3:Env.get e 3= .slice (some ⟨d,0,none⟩) ai ai) (f35:Env.get e 35=L.v) (f36:Env.get e 36= .int .i64 xs.length) (f37:Env.get e 37= .int .i64 0)
  (K: ∀e' h' ws',ED h0 h' ai d hf.next ws'→ab (· =d) h h'→aC [9,37,38,39,40,41,42,43,44,45,46,47,48,49,50,51] e e'→Q (.exit 4) e' h'):az FF (.loop oh) e h Q:=by
 have hLl:=SliceR.len hL
 refine az.loop (PT h0 h ai d hf.next xs.length e) ?_ (n:=xs.length) ⟨0,ws,rfl,by omega,aC.refl _ _,f37,w,.refl w.g.ok⟩
 rintro m e' h' ⟨j,ws,rfl,hj,Kp,q37,w',gd⟩
 have q3:=Kp.at (by decide) f3
 have q35:=Kp.at (by decide) f35
 have q36:=Kp.at (by decide) f36
 unfold oh
 by_cases hjl:j<xs.length
 ·have wj:=wrap_i64 ((j:Int)+1) (by omega) (by omega)
  have hx:xs[j]? =some xs[j]:=aQ hjl
  have hm:=List.getElem_mem hjl
  generalize xs[j]=x at hx hm
  obtain⟨hdn,hal,hv⟩:=hxs x hm
  obtain⟨bb,off,c,hLa,_,_,⟨A,rfl,sA⟩,_,hrd⟩:=SliceR.later okf hL hx
  have r0:=hrd h' (gf.trans w'.g) 0 8 (by decide)
  simp[ay,-ag] at r0
  simp at q35
  rw[hLa,hLl] at q35
  have gv:ab aG h' (put (aH h' [.int .i64 0,.int .i64 0,.bool false,.int .i64 0,.bool false,.int .i64 0,.int .i64 0,.slice none 0 0] 0) h'.next 0 [.int .i64 0,.int .i64 0,.bool false,.int .i64 0,.bool false,.int .i64 0,.int .i64 0,.slice none 0 0] [.int .i64 x.op,.int .i64 x.dst,.bool x.a.1,.int .i64 x.a.2,.bool x.b.1,.int .i64 x.b.2,.int .i64 x.fn,.slice A.a A.l A.c] 0):=(ab.refl w'.g.ok).var _ _
  by_cases hneg:x.dst<0
  ·have hn': ¬0≤x.dst:=by omega
   simp[q3,q35,q36,q37,hjl,r0,-ag,aq,hn',hneg,wj]
   refine⟨xs.length-(j+1),by omega,j+1,ws,rfl,by omega,?_,by simp,w'.aW gv,gd.trans gv.aW⟩
   repeat (refine aC.set (by decide) ?_)
   exact Kp
  ·obtain⟨k,hk⟩: ∃k:Nat,x.dst=k:=⟨x.dst.toNat,by omega⟩
   have hkn:k<ai:=by omega
   rw[hk] at r0 gv
   have hXv:(put (aH h' [.int .i64 0,.int .i64 0,.bool false,.int .i64 0,.bool false,.int .i64 0,.int .i64 0,.slice none 0 0] 0) h'.next 0 [.int .i64 0,.int .i64 0,.bool false,.int .i64 0,.bool false,.int .i64 0,.int .i64 0,.slice none 0 0] [.int .i64 x.op,.int .i64 k,.bool x.a.1,.int .i64 x.a.2,.bool x.b.1,.int .i64 x.b.2,.int .i64 x.fn,.slice A.a A.l A.c] 0).tr.get h'.next=some (.aA [.int .i64 x.op,.int .i64 k,.bool x.a.1,.int .i64 x.a.2,.bool x.b.1,.int .i64 x.b.2,.int .i64 x.fn,.slice A.a A.l A.c] false 0 h'.clock):=by simp
   simp[q3,q35,q36,q37,hjl,r0,-ag,aq,aB]
   refine aP.cut (fun h5=>ab aG h' h5∧h5.tr.get h'.next=some (.aA [.int .i64 x.op,.int .i64 k,.bool x.a.1,.int .i64 x.a.2,.bool x.b.1,.int .i64 x.b.2,.int .i64 x.fn,.slice A.a A.l A.c] false 0 h'.clock)) ⟨gv.tick,hXv⟩ ?_
   rintro h5 ⟨g5,hX5⟩
   have w5:=w'.aW g5
   refine aP.call (V:=fun v h'=>v= .func (.func cO) #[] #[.pointer (some ⟨h5.next,0,none⟩)]∧h'=aH h5 (ez x A) 0) (by simpa [ez,ay,hk] using wI h5 x A) ?_
   rintro _ h6 ⟨rfl,e6⟩
   have g6:ab aG h5 h6:=by rw[e6];exact aI w5.g.ok _ _
   have hX6: ∃s,h6.tr.get h5.next=some (.aA (ez x A) false 0 s):=⟨0,by rw[e6];exact bH _ _ _⟩
   clear e6
   have w6:=w5.aW g6
   simp
   refine aP.call (V:=LK h6 (c7 x)) (by simpa using Bh w6.g.ok hX6 (sA.mono okf (gf.trans w6.g) fun _ _ h=>h) hal) ?_
   rintro _ h7 ⟨g7,Lc,rfl,hLc⟩
   have w7:=w6.aW g7
   have hX7:=g7.get w6.g.ok (g6.get w5.g.ok hX5 (fun h=>h)) (fun h=>h)
   obtain⟨s,hd7⟩:=w7.hd
   have hkl:k+1≤ws.length:=by rw[w'.len];omega
   have l6:d<h6.next:=by obtain⟨_,h⟩:=w6.hd;exact w6.g.ok.wf _ _ h
   have hg7:xv ai h7 d hf.next h0.next Lc:=⟨c7 x,hLc.sl,by have:=Av x;omega,hv,fun _ b hb=>by have:=hLc.of hb;have:=w6.g.next;exact⟨by omega,.inr (by omega)⟩⟩
   simp[hX7,hkn,hd7,hkl,wj,q37]
   refine⟨xs.length-(j+1),by omega,j+1,ws.set k Lc,rfl,by omega,?_,by simp,by simpa using w7.put hkn hg7,(((gd.trans g5.aW).trans g6.aW).trans g7.aW).trans (aJ w7.g.ok hd7)⟩
   repeat (refine aC.set (by decide) ?_)
   exact Kp
 ·have:j=xs.length:=by omega
  subst this
  simp[q36,q37]
  exact K _ _ ws w' gd (Kp.set (by decide))
end
structure xM (ai:Nat) (bs:List GB):Prop where
 len:bs.length<1000000
 ph: ∀b∈bs,b.dY.length<1000000∧ ∀q∈b.dY,(0≤q.dst∧q.dst<ai)∧q.row.length<2000000∧ ∀v∈q.row,gO ai v
 li: ∀b∈bs,b.list.length<1000000∧ ∀x∈b.list,x.dst<ai∧x.args.length<1900000∧ ∀v∈c7 x,gO ai v
 on: ∀b∈bs,gO ai b.on
def Qp (h0:ae) (ai d lo k:Nat) (B:SV) (m:Nat) (e':Env) (h':ae):Prop:=
 ∃(j:Nat) (ws:List SV),m=k-j∧j≤k∧Env.get e' 3= .slice (some ⟨d,0,none⟩) ai ai∧Env.get e' 14=B.v∧Env.get e' 15= .int .i64 k∧Env.get e' 16= .int .i64 j∧ED h0 h' ai d lo ws
def Jn (ai lo:Nat) (h:ae) (v:Value) (h':ae):Prop:= ∃d ws,v= .slice (some ⟨d,0,none⟩) ai ai∧ED h h' ai d lo ws
theorem EB {hf h:ae} (okf:bh hf) (gf:ab aG hf h) {name:ByteArray} {p:Int} {ai:Nat} {B:SV} {bs:List GB} (hB:wB hf B bs) (T:xM ai bs) (hr:ai<1000000):
  aE FF u9 [.agg ⟨ak name p ai B⟩] h (Jn ai hf.next h):=by
 have ok:=gf.ok
 have hBl:=SliceR.len hB
 have hbl:=T.len
 have r1:roomy ai=true:=by simp[roomy];omega
 have r2:roomy (ai*24)=true:=by simp[roomy];omega
 refine aE.of Bl ?_
 unfold vK
 have hz:gI [Value.slice none 0 0] ai=mf.flat (List.replicate ai eg):=vg mf eg rfl ai
 simp[ak,r1,r2,hz]
 refine az.cut (fun h1=>ED h h1 ai (h.next+1) hf.next (List.replicate ai eg)) ?_ ?_
 ·refine⟨((ab.refl ok).new _ _).new _ _,by omega,⟨0,by simp⟩,by simp,fun w hw=> ?_⟩
  rw[List.mem_replicate] at hw
  rw[hw.2]
  exact⟨[],.nil bU _ 0,by simp,fun v hv=>by simp at hv,fun h=>absurd rfl h⟩
 intro h1 w1
 refine az.loop (Qp h ai (h.next+1) hf.next bs.length B) ?_ (n:=bs.length) ⟨0,_,rfl,by omega,by simp,by simp,by simp[hBl],by simp,w1⟩
 rintro m e' h' ⟨j,ws,rfl,hj,q3,q14,q15,q16,w'⟩
 unfold rO
 by_cases hjl:j<bs.length
 ·have wj:=wrap_i64 ((j:Int)+1) (by omega) (by omega)
  have hx:bs[j]? =some bs[j]:=aQ hjl
  have hm:=List.getElem_mem hjl
  generalize bs[j]=x at hx hm
  obtain⟨bb,off,c,hBa,_,_,⟨P,L,T',rfl,sP,sL,sT⟩,_,hrd⟩:=SliceR.later okf hB hx
  have r0:=hrd h' (gf.trans w'.g) 0 6 (by decide)
  have hPl:=SliceR.len sP
  have hLl:=SliceR.len sL
  simp[-ag] at r0
  simp at q14
  rw[hBa,hBl] at q14
  simp[q14,q15,q16,hjl,r0,-ag,aq]
  refine az.cut (fun h1=>ab aG h' h1∧ ∃s,h1.tr.get h'.next=some (.aA [P.v,L.v,.int .i64 x.kind,.bool x.on.1,.int .i64 x.on.2,T'.v] false 0 s)) ⟨(ab.refl w'.g.ok).var _ _,_,ax _ _ _ _ _ _⟩ ?_
  rintro h2 ⟨g2,s3,hX⟩
  have ld:h.next+1<h'.next:=by obtain⟨_,h⟩:=w'.hd;exact w'.g.ok.wf _ _ h
  have w2:=w'.aW g2
  refine Ep okf gf w2 sP (T.ph x hm).2 (T.ph x hm).1 (by simp[q3]) (by simp) (by simp[hPl]) (by simp) ?_
  intro e3 h3 ws3 w3 g3 K3
  have hX3:=g3.get g2.ok hX (by omega)
  simp at hX3
  have k3:=K3.at (t:=3) (by decide) (by simp;exact q3)
  have k5:Env.get e3 5= .pointer (some ⟨h'.next,0,none⟩):=K3.at (t:=5) (by decide) (by simp)
  have k14:=K3.at (t:=14) (by decide) (by simp;exact q14)
  have k15:=K3.at (t:=15) (by decide) (by simp;exact q15)
  have k16:=K3.at (t:=16) (by decide) (by simp;exact q16)
  simp[k5,hX3]
  refine Fq okf gf w3 sL (T.li x hm).2 (T.li x hm).1 (by simp[k3]) (by simp) (by simp[hLl]) (by simp) ?_
  intro e4 h4 ws4 w4 g4 K4
  have k43:=K4.at (t:=3) (by decide) (by simp;exact k3)
  have k414:=K4.at (t:=14) (by decide) (by simp;exact k14)
  have k415:=K4.at (t:=15) (by decide) (by simp;exact k15)
  have k416:=K4.at (t:=16) (by decide) (by simp;exact k16)
  simp[k416,wj]
  exact⟨bs.length-(j+1),by omega,j+1,ws4,rfl,hjl,by simp[k43],by simp[k414,hBa,hBl],by simp[k415],by simp,w4⟩
 ·have:j=bs.length:=by omega
  subst this
  simp[q3,q15,q16]
  exact⟨_,ws,rfl,w'⟩
theorem xS {α:Type} {E:Enc α} {S:Nat→Prop} {h h':ae} {v:Value} {row:List α} (s:aS E h v row) (ok:bh h) (g:ab S h h') (hS:row≠[]→ ∀b,av v b→ ¬S b):aS E h' v row:=by
 by_cases e:row=[]
 ·subst e
  obtain⟨a,cap,e2,s⟩:=s
  refine⟨a,cap,e2,?_⟩
  rcases s with s|⟨b,off,_,_,_,_,e3,_⟩
  ·exact .inl s
  ·exact .inl ⟨rfl,.inr ⟨b,off,e3⟩⟩
 ·exact s.grow ok g (hS e)
def oZ (l:List Bool):Nat:=l.countP (fun x=> !x)
theorem wR {l:List Bool} {k:Nat} (h:l[k]? =some false):oZ (l.set k true)+1=oZ l:=by
 unfold oZ
 induction l generalizing k with
 |nil=>simp at h
 |cons x l ih=>
  cases k with
  |zero=>simp at h;subst h;simp
  |succ k=>
   have:=ih (k:=k) (by simpa using h)
   rw[List.set_cons_succ,List.countP_cons,List.countP_cons]
   omega
structure MS (h0 h:ae) (ai N F M nb d:Nat) (need:List Bool) (ws:List SV):Prop where
 g:ab aG h0 h
 nn:h0.next≤nb
 hN: ∃s,h.tr.get N=some (.aA [.slice (some ⟨nb,0,none⟩) ai ai] false 0 s)
 hb: ∃s,h.tr.get nb=some (.aA (nf.flat need) false 0 s)
 nl:need.length=ai
 hF: ∃s,h.tr.get F=some (.aA [.slice (some ⟨d,0,none⟩) ai ai] false 0 s)
 hM: ∃s,h.tr.get M=some (.aA [.func (.func dO) #[] #[.pointer (some ⟨N,0,none⟩),.pointer (some ⟨F,0,none⟩),.pointer (some ⟨M,0,none⟩)]] false 0 s)
 hd: ∃s,h.tr.get d=some (.aA (mf.flat ws) false 0 s)
 wl:ws.length=ai
 ot: ∀w∈ws,xv ai h nb nb (nb+1) w
 ne:N≠nb∧F≠nb∧M≠nb∧d≠nb
section
variable {h0:ae} {ai N F M nb d:Nat} {ws:List SV}
theorem MS.grow {h h':ae} {need:List Bool} (w:MS h0 h ai N F M nb d need ws) (g:ab (· =nb) h h') {need':List Bool} (hb: ∃s,h'.tr.get nb=some (.aA (nf.flat need') false 0 s)) (hl:need'.length=ai):MS h0 h' ai N F M nb d need' ws:=by
 obtain⟨s1,h1⟩:=w.hN
 obtain⟨s3,h3⟩:=w.hF
 obtain⟨s4,h4⟩:=w.hM
 obtain⟨s5,h5⟩:=w.hd
 have ok:=w.g.ok
 obtain⟨n1,n2,n3,n4⟩:=w.ne
 exact⟨w.g.trans' g (fun _ _ h=>h) (fun x hx e=>by have:=w.nn;omega),w.nn,⟨s1,g.get ok h1 n1⟩,hb,hl,⟨s3,g.get ok h3 n2⟩,⟨s4,g.get ok h4 n3⟩,⟨s5,g.get ok h5 n4⟩,w.wl,fun x hx=>(w.ot x hx).grow ok g,w.ne⟩
theorem MS.aW {h h':ae} {need:List Bool} (w:MS h0 h ai N F M nb d need ws) (g:ab aG h h'):MS h0 h' ai N F M nb d need ws:=by
 obtain⟨s,hb⟩:=w.hb
 exact w.grow g.aW ⟨s,g.get w.g.ok hb (fun h=>h)⟩ w.nl
def yB (h0 h:ae) (ai N F M nb d:Nat) (need:List Bool) (ws:List SV) (h':ae):Prop:=ab (· =nb) h h'∧ ∃need',MS h0 h' ai N F M nb d need' ws∧oZ need'≤oZ need
def MkI (h0 h1:ae) (ai N F M nb d:Nat) (ws:List SV) (k:Nat) (w:SV) (n:Nat) (m:Nat) (e':Env) (h':ae):Prop:=
 ∃(j:Nat) (need:List Bool),m=n-j∧j≤n∧Env.get e' 3= .pointer (some ⟨M,0,none⟩)∧Env.get e' 25=w.v∧Env.get e' 26= .int .i64 n∧Env.get e' 27= .int .i64 j∧ab (· =nb) h1 h'∧MS h0 h' ai N F M nb d need ws∧oZ need≤k
theorem Ad (hr:ai<1000000): ∀(k:Nat) (h:ae) (need:List Bool) (v:Bool×Int),MS h0 h ai N F M nb d need ws→gO ai v→oZ need≤k→
  aE FF dO [.agg ⟨[.bool v.1,.int .i64 v.2]⟩,.pointer (some ⟨N,0,none⟩),.pointer (some ⟨F,0,none⟩),.pointer (some ⟨M,0,none⟩)] h (fun _ h'=>yB h0 h ai N F M nb d need ws h'):=by
 intro k
 induction k with
 |zero=>
  intro h need v w hv hk
  obtain⟨rg,n⟩:=v
  have ok:=w.g.ok
  refine aE.of qL ?_
  unfold mi
  cases rg with
  |false=>
   simp
   exact⟨(ab.refl ok).new _ _,need,w.aW ((ab.refl ok).new _ _),Nat.le_refl _⟩
  |true=>
   obtain⟨h0n,hnr⟩:=hv rfl
   dsimp only at h0n hnr
   obtain⟨n,rfl⟩: ∃n':Nat,n=n':=⟨n.toNat,by omega⟩
   have hn:n<ai:=by omega
   obtain⟨s1,hN⟩:=w.hN
   obtain⟨s2,hb⟩:=w.hb
   have oN:=ok.bl hN
   have ob:=ok.bl hb
   obtain⟨t,ht⟩: ∃t,need[n]? =some t:=⟨_,aQ (by rw[w.nl];exact hn)⟩
   have rt:=yl hb ht
   cases t with
   |true=>
    simp[hn,rt,aL,dt,oN,ob,aw hN,-ag]
    exact⟨(ab.refl ok).new _ _,need,w.aW ((ab.refl ok).new _ _),Nat.le_refl _⟩
   |false=>
    have:=wR ht
    omega
 |succ k ih=>
  intro h need v w hv hk
  obtain⟨rg,n⟩:=v
  have ok:=w.g.ok
  refine aE.of qL ?_
  unfold mi
  cases rg with
  |false=>
   simp
   exact⟨(ab.refl ok).new _ _,need,w.aW ((ab.refl ok).new _ _),Nat.le_refl _⟩
  |true=>
   obtain⟨h0n,hnr⟩:=hv rfl
   dsimp only at h0n hnr
   obtain⟨n,rfl⟩: ∃n':Nat,n=n':=⟨n.toNat,by omega⟩
   have hn:n<ai:=by omega
   obtain⟨s1,hN⟩:=w.hN
   obtain⟨s2,hb⟩:=w.hb
   have oN:=ok.bl hN
   have ob:=ok.bl hb
   obtain⟨t,ht⟩: ∃t,need[n]? =some t:=⟨_,aQ (by rw[w.nl];exact hn)⟩
   have rt:=yl hb ht
   cases t with
   |true=>
    simp[hn,rt,aL,dt,oN,ob,aw hN,-ag]
    exact⟨(ab.refl ok).new _ _,need,w.aW ((ab.refl ok).new _ _),Nat.le_refl _⟩
   |false=>
    obtain⟨s3,hF⟩:=w.hF
    have oF:=ok.bl hF
    obtain⟨s5,hd⟩:=w.hd
    have od:=ok.bl hd
    obtain⟨x,hx⟩: ∃x,ws[n]? =some x:=⟨_,aQ (by rw[w.wl];exact hn)⟩
    have hnl:n+1≤need.length:=by rw[w.nl];omega
    have rx:=uH hd hx
    simp[-ag] at rx
    have fl:=wR ht
    obtain⟨_,nF,_,nD⟩:=w.ne
    have nH: ¬h.next=nb:=by have:=ob.lt;omega
    simp[hn,rt,aL,dt,bg,oN,ob,oF,od,aw hN,aw hF,rx,hb,hnl,nF,nD,nH,-ag]
    obtain⟨row,hrs,hrl,hrv,hrb⟩:=w.ot x (di hx)
    have hxl:x.l=row.length:=by obtain⟨a,cap,e,_⟩:=hrs;simp at e;exact e.2.1
    have g1:ab aG h (aH h [.bool true,.int .i64 n] 0):=(ab.refl ok).new _ _
    have hb1:=g1.get ok hb (fun h=>h)
    have g2:ab (· =nb) (aH h [.bool true,.int .i64 n] 0) (put (aH h [.bool true,.int .i64 n] 0) nb n (nf.flat need) [.bool true] 0):=aJ g1.ok hb1
    have w2:=(w.aW g1).grow g2 (need':=need.set n true) ⟨(aH h [.bool true,.int .i64 n] 0).clock,by rw[ax,CW need n true (by omega)]⟩ (by simp[w.nl])
    have g12:ab (· =nb) h (put (aH h [.bool true,.int .i64 n] 0) nb n (nf.flat need) [.bool true] 0):=g1.aW.trans g2
    refine az.loop (MkI h0 h ai N F M nb d ws (oZ (need.set n true)) x row.length) ?_ (n:=row.length) ⟨0,_,rfl,by omega,by simp,by simp,by simp[hxl],by simp,g12,w2,Nat.le_refl _⟩
    rintro m e' h' ⟨j,need',rfl,hj,q3,q25,q26,q27,g',w',hk'⟩
    unfold o7
    by_cases hjl:j<row.length
    ·have wj:=wrap_i64 ((j:Int)+1) (by omega) (by omega)
     have hv':row[j]? =some row[j]:=aQ hjl
     have hvm:=List.getElem_mem hjl
     generalize row[j]=u at hv' hvm
     have hrs':aS bU h' x.v row:=xS hrs ok g' (fun hne b hb=>(hrb hne b hb).1)
     obtain⟨b2,off2,cap2,hxv,_,_,hrd⟩:=hrs'.read hv'
     have r0:=hrd 0 2 (by decide)
     simp[-ag] at r0 hxv
     simp at q25
     rw[hxv.1,hxl] at q25
     have ok':=w'.g.ok
     obtain⟨s4,hM⟩:=w'.hM
     have oM:=ok'.bl hM
     simp[q3,q25,q26,q27,hjl,r0,-ag,aq,bg,aL,aw hM,oM]
     refine aD.cut (fun h1=>ab aG h' h1) ((ab.refl ok').var _ _) ?_
     intro h3 g3
     have w3:=w'.aW g3
     refine aD.cm (V:=fun _ h'=>yB h0 h3 ai N F M nb d need' ws h') ?_ ?_
     ·have V1:bZ FF (.func (.func dO) #[] #[.pointer (some ⟨N,0,none⟩),.pointer (some ⟨F,0,none⟩),.pointer (some ⟨M,0,none⟩)]) [.agg ⟨[.bool u.1,.int .i64 u.2]⟩] h3 (fun _ h'=>yB h0 h3 ai N F M nb d need' ws h'):=bZ.func (by simpa using ih h3 need' u w3 (hrv u hvm) (by omega))
      simpa using V1
     rintro _ h4 ⟨g4,need4,w4,hf4⟩
     simp[q27,wj]
     exact⟨row.length-(j+1),by omega,j+1,need4,rfl,hjl,by simp[q3],by simp[q25,hxv.1,hxl],by simp[q26],by simp,(g'.trans g3.aW).trans g4,w4,by omega⟩
    ·have:j=row.length:=by omega
     subst this
     simp[q26,q27]
     exact⟨g',need',w',by omega⟩
end
def HK:aj:=(.ops [⟨(some 12),none,(.alloc [(.bool false),(.int .i64 0)])⟩,⟨none,none,(.store 2 (.tmp 12) (.tmp 38))⟩])
def AW:aj:=(.block 5 (.ops [⟨(some 39),none,(.load none (.tmp 7))⟩,⟨(some 40),none,(.load (some 2) (.tmp 12))⟩,⟨(some 41),none,(.call (.tmp 39) [(.tmp 40)])⟩]))
section
variable {h0:ae} {ai N F M nb d:Nat} {ws:List SV}
def Nd (ai nb:Nat) (h:ae):Prop:= ∃need:List Bool,(∃s,h.tr.get nb=some (.aA (nf.flat need) false 0 s))∧need.length=ai
theorem MS.nd {h:ae} {need:List Bool} (w:MS h0 h ai N F M nb d need ws):Nd ai nb h:=⟨need,w.hb,w.nl⟩
theorem MS.re {h h':ae} {need:List Bool} (w:MS h0 h ai N F M nb d need ws) (g:ab (· =nb) h h') (k:Nd ai nb h'): ∃need',MS h0 h' ai N F M nb d need' ws:=by
 obtain⟨need',h1,h2⟩:=k
 exact⟨need',w.grow g h1 h2⟩
def Q0 (hA:ae) (ai nb:Nat) (e:Env) (_B _j:Nat) (h2:ae):Prop:=ab (· =nb) hA h2∧h2.tr.get hA.next=some (.loop e [38] HK AW .ready)∧Nd ai nb h2
theorem Dn {hA:ae} {needA:List Bool} (ok0:bh h0) (hr:ai<1000000) (W:MS h0 hA ai N F M nb d needA ws) {X sX:Nat} {x:GI} {A:SV} (hX:hA.tr.get X=some (.aA (ez x A) false 0 sX)) (nX:X≠nb) (sA:SliceR vR 2 h0 A.v x.args) (hal:x.args.length<1900000) (hv: ∀v∈c7 x,gO ai v)
  {e:Env} {Q:aO→Env→ae→Prop} (f7:Env.get e 7= .pointer (some ⟨M,0,none⟩)) (f37:Env.get e 37= .func (.func cO) #[] #[.pointer (some ⟨X,0,none⟩)])
  (norm: ∀h',ab (· =nb) hA h'→Nd ai nb h'→Q .normal e h'):az FF (.AM (.tmp 37) [38] HK AW) e hA Q:=by
 have okA:=W.g.ok
 have lX:=(okA.bl hX).lt
 obtain⟨sB,hB⟩:=W.hb
 have lB:=(okA.bl hB).lt
 have ln:=W.nn
 obtain⟨g0,hl0⟩:=wq okA e [38] HK AW
 have hn0:(hA.new (.loop e [38] HK AW .ready)).next=hA.next+1:=rfl
 refine az.AM (first:= #[]) (caps:= #[.pointer (some ⟨X,0,none⟩)]) (by simpa using f37) ?_
 generalize hA.new (.loop e [38] HK AW .ready)=hL at*
 have up: ∀h2,ab (· =nb) hA h2→ab aG h0 h2:=fun h2 g=>W.g.trans' g (fun _ _ h=>h) (fun x hx e=>by omega)
 have H:=uF (h:=hL) ok0 sA (by omega) (X:=X) (y:= .func (.yield hA.next) #[] #[]) (Q0 hA ai nb e) (fun b=>b=nb∨b=hA.next) (fun _=>False)
  (fun _ _ h2 hh=>⟨up h2 hh.1,sX,hh.1.get okA hX nX⟩)
  (fun _ _ h2 h3 hh g=>by
   obtain⟨q1,q2,need,⟨s,q3⟩,q4⟩:=hh
   exact⟨q1.trans g.aW,g.get q1.ok q2 (fun h=>h),need,⟨s,g.get q1.ok q3 (fun h=>h)⟩,q4⟩)
  (by rintro b (rfl|rfl)<;>omega) ?_ (W.g.trans g0) ⟨sX,g0.get okA hX (fun h=>h)⟩
  (fun h1 g=>⟨(g0.trans g).aW,g.get g0.ok hl0 (fun h=>h),needA,⟨sB,(g0.trans g).get okA hB (fun h=>h)⟩,W.nl⟩)
 ·refine aE.mono (by simpa using H) ?_
  rintro v h' hh
  have hh': ∃B:Nat,Q0 hA ai nb e B (c7 x).length h':=by
   first|exact hh|exact⟨0,hh⟩
  obtain⟨_,q1,q2,need,⟨s,q3⟩,q4⟩:=hh'
  unfold pS
  rw[q2]
  have gd:ab (· =hA.next) h' (ve h' hA.next):=fZ q1.ok hA.next
  exact norm _ (q1.trans' gd (fun _ _ h=>h) (fun x hx e=>by omega)) ⟨need,⟨s,gd.get q1.ok q3 (by omega)⟩,q4⟩
 ·rintro Bq k v h2 hk hB1 hB2 ⟨q1,q2,q3⟩
  have hvv:=hv v (di hk)
  obtain⟨need2,W2⟩:=W.re q1 q3
  refine(uS (S:=fun b=>b=nb) (K:=fun h'=>ab (· =nb) hA h'∧Nd ai nb h') (Z:=fun _=>False) q1.ok (by omega) q2 ?_ ?_ (fun _ _ h=>h.elim)).mono ?_
  ·unfold HK
   simp
   have gv:ab aG h2 (put (aH h2 [.bool false,.int .i64 0] 0) h2.next 0 [.bool false,.int .i64 0] [.bool v.1,.int .i64 v.2] 0):=(ab.refl q1.ok).var _ _
   have hV:(put (aH h2 [.bool false,.int .i64 0] 0) h2.next 0 [.bool false,.int .i64 0] [.bool v.1,.int .i64 v.2] 0).tr.get h2.next=some (.aA [.bool v.1,.int .i64 v.2] false 0 h2.clock):=by simp
   generalize put (aH h2 [.bool false,.int .i64 0] 0) h2.next 0 [.bool false,.int .i64 0] [.bool v.1,.int .i64 v.2] 0=h3 at*
   refine⟨gv,fun h4 g4=> ?_⟩
   have lL2:hA.next<h2.next:=q1.ok.wf _ _ q2
   have t4:ab (· =nb) hA h4:=(q1.trans gv.aW).trans' g4 (fun _ _ h=>h) (fun x hx e=>by omega)
   have q4:Nd ai nb h4:=by
    obtain⟨need,⟨s,a⟩,b⟩:=q3
    exact⟨need,⟨s,g4.get gv.ok (gv.get q1.ok a (fun h=>h)) (by omega)⟩,b⟩
   obtain⟨need4,W4⟩:=W.re t4 q4
   have hV4:=g4.get gv.ok hV (by omega)
   obtain⟨sM,hM4⟩:=W4.hM
   unfold AW
   simp[f7,hM4,hV4]
   refine aD.cm (V:=fun _ h'=>yB h0 h4 ai N F M nb d need4 ws h') ?_ ?_
   ·have V1:bZ FF (.func (.func dO) #[] #[.pointer (some ⟨N,0,none⟩),.pointer (some ⟨F,0,none⟩),.pointer (some ⟨M,0,none⟩)]) [.agg ⟨[.bool v.1,.int .i64 v.2]⟩] h4 (fun _ h'=>yB h0 h4 ai N F M nb d need4 ws h'):=bZ.func (by simpa using Ad hr _ h4 need4 v W4 hvv (Nat.le_refl _))
    simpa using V1
   rintro _ h5 ⟨g5,need5,W5,_⟩
   simp
   exact⟨g5,t4.trans g5,W5.nd⟩
  ·rintro h4 h5 ⟨z1,need,⟨s,z2⟩,z3⟩ _ g
   exact⟨z1.trans' g (fun _ _ h=>h) (fun x hx e=>by omega),need,⟨s,g.get z1.ok z2 (by omega)⟩,z3⟩
  ·rintro r h5 ⟨g5,⟨rfl,hl5,k1,k2⟩|⟨_,_,z⟩⟩
   ·exact⟨g5.bM (fun b _ h=> .inl h),.inl ⟨rfl,k1,hl5,k2⟩⟩
   ·exact z.elim
end
section
variable {h0:ae} {ai N F M nb d:Nat} {ws:List SV}
def Qx (h:ae) (ai nb k:Nat) (e:Env) (m:Nat) (e':Env) (h':ae):Prop:=
 ∃j:Nat,m=k-j∧j≤k∧aC [11,12,29,30,31,32,33,34,35,36,37,38,42] e e'∧Env.get e' 29= .int .i64 j∧ab (· =nb) h h'∧Nd ai nb h'
theorem CB {h:ae} {need:List Bool} (ok0:bh h0) (hr:ai<1000000) (w:MS h0 h ai N F M nb d need ws) {words:Int} (hw:0≤words∧words<1000000000) {L:SV} {xs:List GI} (hL:SliceR (iR h0) 8 h0 L.v xs) (hxs: ∀x∈xs,x.args.length<1900000∧ ∀v∈c7 x,gO ai v) (hl:xs.length<1000000) {e:Env} {Q:aO→Env→ae→Prop}
  (f0:Env.get e 0= .int .i64 words) (f7:Env.get e 7= .pointer (some ⟨M,0,none⟩)) (f27:Env.get e 27=L.v) (f28:Env.get e 28= .int .i64 xs.length) (f29:Env.get e 29= .int .i64 0)
  (K: ∀e' h',ab (· =nb) h h'→Nd ai nb h'→aC [11,12,29,30,31,32,33,34,35,36,37,38,42] e e'→Q (.exit 2) e' h'):az FF (.loop mj) e h Q:=by
 have hLl:=SliceR.len hL
 have okh:=w.g.ok
 have ln:=w.nn
 refine az.loop (Qx h ai nb xs.length e) ?_ (n:=xs.length) ⟨0,rfl,by omega,aC.refl _ _,f29,.refl okh,w.nd⟩
 rintro m e' h' ⟨j,rfl,hj,Kp,q29,g,kn⟩
 have q0:=Kp.at (by decide) f0
 have q7:=Kp.at (by decide) f7
 have q27:=Kp.at (by decide) f27
 have q28:=Kp.at (by decide) f28
 obtain⟨need',w'⟩:=w.re g kn
 unfold mj
 by_cases hjl:j<xs.length
 ·have wj:=wrap_i64 ((j:Int)+1) (by omega) (by omega)
  have hx:xs[j]? =some xs[j]:=aQ hjl
  have hm:=List.getElem_mem hjl
  generalize xs[j]=x at hx hm
  obtain⟨hal,hv⟩:=hxs x hm
  obtain⟨bb,off,c,hLa,_,_,⟨A,rfl,sA⟩,_,hrd⟩:=SliceR.later ok0 hL hx
  have r0:=hrd h' w'.g 0 8 (by decide)
  simp[ay,-ag] at r0
  simp at q27
  rw[hLa,hLl] at q27
  simp[q0,q27,q28,q29,hjl,r0,-ag,aq]
  refine aD.cut (fun h5=>ab aG h' h5∧ ∃s,h5.tr.get h'.next=some (.aA (ez x A) false 0 s)) ?_ ?_
  ·exact⟨(ab.refl w'.g.ok).var _ _,_,ax _ _ _ _ _ _⟩
  rintro h5 ⟨g5,s5,hX5⟩
  have w5:=w'.aW g5
  refine aD.call (V:=fun v h'=>v= .bool (cY words x.op x.a.1 x.a.2 x.b.1 x.b.2)∧ab aG h5 h') (by simpa [ay] using yA h5 w5.g.ok words x.op x.dst x.a.2 x.b.2 x.fn x.a.1 x.b.1 A.a A.l A.c hw) ?_
  rintro _ h6 ⟨rfl,g6⟩
  have w6:=w5.aW g6
  have g06:=(g.trans g5.aW).trans g6.aW
  cases cY words x.op x.a.1 x.a.2 x.b.1 x.b.2 with
  |true=>
   simp[q29,wj]
   refine⟨xs.length-(j+1),by omega,j+1,rfl,hjl,?_,by simp,g06,w6.nd⟩
   repeat (refine aC.set (by decide) ?_)
   exact Kp
  |false=>
   have hX6:=g6.get w5.g.ok hX5 (fun h=>h)
   simp[ez,ay] at hX6
   simp[hX6]
   refine aD.call (V:=fun v h'=>v= .func (.func cO) #[] #[.pointer (some ⟨h6.next,0,none⟩)]∧h'=aH h6 (ez x A) 0) (by simpa [ez,ay] using wI h6 x A) ?_
   rintro _ h7 ⟨rfl,e7⟩
   have g7:ab aG h6 h7:=by rw[e7];exact aI w6.g.ok _ _
   have hX7:h7.tr.get h6.next=some (.aA (ez x A) false 0 0):=by rw[e7];exact bH _ _ _
   clear e7
   have w7:=w6.aW g7
   have lB:nb<h6.next:=by obtain⟨_,h⟩:=w6.hb;exact w6.g.ok.wf _ _ h
   simp
   refine Dn ok0 hr w7 hX7 (by omega) sA hal hv (by simp[q7]) (by simp) ?_
   intro h8 g8 k8
   simp[q29,wj]
   refine⟨xs.length-(j+1),by omega,j+1,rfl,hjl,?_,by simp,(g06.trans g7.aW).trans g8,k8⟩
   repeat (refine aC.set (by decide) ?_)
   exact Kp
 ·have:j=xs.length:=by omega
  subst this
  simp[q28,q29]
  exact K _ _ g kn (Kp.set (by decide))
def Pj (h:ae) (ai nb N M k:Nat) (words:Int) (B:SV) (m:Nat) (e':Env) (h':ae):Prop:=
 ∃j:Nat,m=k-j∧j≤k∧Env.get e' 0= .int .i64 words∧Env.get e' 5= .pointer (some ⟨N,0,none⟩)∧Env.get e' 7= .pointer (some ⟨M,0,none⟩)∧Env.get e' 20=B.v∧Env.get e' 21= .int .i64 k∧Env.get e' 22= .int .i64 j∧ab (· =nb) h h'∧Nd ai nb h'
def GV (ai:Nat) (h:ae) (v:Value) (h':ae):Prop:=ab aG h h'∧ ∃d,v= .slice (some ⟨d,0,none⟩) ai ai∧h.next≤d∧Nd ai d h'
theorem zQ {h:ae} {need:List Bool} (ok0:bh h0) (hr:ai<1000000) (w:MS h0 h ai N F M nb d need ws) {words:Int} (hw:0≤words∧words<1000000000) {B:SV} {bs:List GB} (hB:wB h0 B bs) (T:xM ai bs) {e:Env} {Q:aO→Env→ae→Prop}
  (f0:Env.get e 0= .int .i64 words) (f5:Env.get e 5= .pointer (some ⟨N,0,none⟩)) (f7:Env.get e 7= .pointer (some ⟨M,0,none⟩)) (f20:Env.get e 20=B.v) (f21:Env.get e 21= .int .i64 bs.length) (f22:Env.get e 22= .int .i64 0)
  (K: ∀e' h',ab (· =nb) h h'→Nd ai nb h'→Env.get e' 5= .pointer (some ⟨N,0,none⟩)→Q (.exit 0) e' h'):az FF (.loop mm) e h Q:=by
 have hBl:=SliceR.len hB
 have hbl:=T.len
 refine az.loop (Pj h ai nb N M bs.length words B) ?_ (n:=bs.length) ⟨0,rfl,by omega,f0,f5,f7,f20,f21,f22,.refl w.g.ok,w.nd⟩
 rintro m e' h' ⟨j,rfl,hj,q0,q5,q7,q20,q21,q22,g,kn⟩
 obtain⟨need',w'⟩:=w.re g kn
 unfold mm
 by_cases hjl:j<bs.length
 ·have wj:=wrap_i64 ((j:Int)+1) (by omega) (by omega)
  have hx:bs[j]? =some bs[j]:=aQ hjl
  have hm:=List.getElem_mem hjl
  generalize bs[j]=x at hx hm
  obtain⟨bb,off,c,hBa,_,_,⟨P,L,T',rfl,sP,sL,sT⟩,_,hrd⟩:=SliceR.later ok0 hB hx
  have r0:=hrd h' w'.g 0 6 (by decide)
  have hLl:=SliceR.len sL
  simp[-ag] at r0
  simp at q20
  rw[hBa,hBl] at q20
  simp[q20,q21,q22,hjl,r0,-ag,aq]
  refine az.cut (fun h1=>ab aG h' h1∧ ∃s,h1.tr.get h'.next=some (.aA [P.v,L.v,.int .i64 x.kind,.bool x.on.1,.int .i64 x.on.2,T'.v] false 0 s)) ⟨(ab.refl w'.g.ok).var _ _,_,ax _ _ _ _ _ _⟩ ?_
  rintro h2 ⟨g2,s3,hX⟩
  have w2:=w'.aW g2
  have lB:nb<h'.next:=by obtain⟨_,h⟩:=w'.hb;exact w'.g.ok.wf _ _ h
  refine CB ok0 hr w2 hw sL (fun y hy=>((T.li x hm).2 y hy).2) (T.li x hm).1 (by simp[q0]) (by simp[q7]) (by simp) (by simp[hLl]) (by simp) ?_
  intro e3 h3 g3 k3 K3
  obtain⟨need3,w3⟩:=w2.re g3 k3
  have hX3:=g3.get g2.ok hX (by omega)
  obtain⟨sM,hM3⟩:=w3.hM
  simp at hX3
  have k0:=K3.at (t:=0) (by decide) (by simp;exact q0)
  have k5:=K3.at (t:=5) (by decide) (by simp;exact q5)
  have k7:=K3.at (t:=7) (by decide) (by simp;exact q7)
  have k9:Env.get e3 9= .pointer (some ⟨h'.next,0,none⟩):=K3.at (t:=9) (by decide) (by simp)
  have k20:=K3.at (t:=20) (by decide) (by simp;exact q20)
  have k21:=K3.at (t:=21) (by decide) (by simp;exact q21)
  have k22:=K3.at (t:=22) (by decide) (by simp;exact q22)
  simp[k7,k9,hM3,hX3]
  refine aD.cm (V:=fun _ h'=>yB h0 h3 ai N F M nb d need3 ws h') ?_ ?_
  ·have V1:bZ FF (.func (.func dO) #[] #[.pointer (some ⟨N,0,none⟩),.pointer (some ⟨F,0,none⟩),.pointer (some ⟨M,0,none⟩)]) [.agg ⟨[.bool x.on.1,.int .i64 x.on.2]⟩] h3 (fun _ h'=>yB h0 h3 ai N F M nb d need3 ws h'):=bZ.func (by simpa using Ad hr _ h3 need3 x.on w3 (T.on x hm) (Nat.le_refl _))
   simpa using V1
  rintro _ h4 ⟨g4,need4,w4,_⟩
  simp[k22,wj]
  exact⟨bs.length-(j+1),by omega,j+1,rfl,hjl,by simp[k0],by simp[k5],by simp[k7],by simp[k20,hBa,hBl],by simp[k21],by simp,((g.trans g2.aW).trans g3).trans g4,w4.nd⟩
 ·have:j=bs.length:=by omega
  subst this
  simp[q21,q22]
  exact K _ _ g kn (by simp[q5])
end
theorem DN {h:ae} (ok:bh h) {words p:Int} (hw:0≤words∧words<1000000000) {name:ByteArray} {ai:Nat} {B:SV} {bs:List GB} (hB:wB h B bs) (T:xM ai bs) (hr:ai<1000000):
  aE FF tZ [.int .i64 words,.agg ⟨ak name p ai B⟩] h (GV ai h):=by
 have hBl:=SliceR.len hB
 have r1:roomy ai=true:=by simp[roomy];omega
 have hz:gI [Value.bool false] ai=nf.flat (List.replicate ai false):=vg nf false rfl ai
 refine aE.of zR ?_
 unfold tL
 have n2: ¬h.next=h.next+1+1:=by omega
 simp[ak,r1,hz,n2]
 refine aD.cut (fun h1=>ab aG h h1∧h1.tr.get h.next=some (.aA (ak name p ai B) false 0 0)∧(∃s,h1.tr.get (h.next+1)=some (.aA (nf.flat (List.replicate ai false)) false 0 s))∧(∃s,h1.tr.get (h.next+1+1)=some (.aA [.slice (some ⟨h.next+1,0,none⟩) ai ai] false 0 s))∧h1.next=h.next+3) ?_ ?_
 ·refine⟨?_,by simp[ak,n2],⟨0,by simp⟩,⟨h.clock,by simp[aK]⟩,by simp⟩
  exact((((ab.refl ok).new _ _).new _ _).new _ _).put ⟨0,by simp⟩ (.inl (by omega))
 rintro h1 ⟨g1,hF1,⟨s1,hb1⟩,⟨s2,hN1⟩,hn1⟩
 simp[ak] at hF1
 refine aD.call (V:=Jn ai h.next h1) (by simpa [ak] using EB ok g1 (name:=name) (p:=p) hB T hr) ?_
 rintro _ h2 ⟨d,ws,rfl,t2⟩
 have g2:=t2.g
 have hF2:=g2.get g1.ok hF1 (fun h=>h)
 have hb2:=g2.get g1.ok hb1 (fun h=>h)
 have hN2:=g2.get g1.ok hN1 (fun h=>h)
 have oF2:=g2.ok.bl hF2
 have lN2:=(g2.ok.bl hN2).lt
 simp[hF2,oF2]
 obtain⟨sd,hd2⟩:=t2.hd
 have od2:=(g2.ok.bl hd2).lt
 have ln:=g1.next
 refine az.cut (fun h3=>MS h h3 ai (h.next+1+1) h2.next (h2.next+1) (h.next+1) d (List.replicate ai false) ws) ?_ ?_
 ·have g3:ab aG h2 (aH (put (aH h2 [.slice none 0 0] 0) h2.next 0 [.slice none 0 0] [.slice (some ⟨d,0,none⟩) ai ai] 0) [.nilFunc] 0):=((ab.refl g2.ok).var _ _).new _ _
  have g4:=g3.put (b:=h2.next+1) (off:=0) (cs:=[.nilFunc]) (o:=0) (vs:=[.func (.func dO) #[] #[.pointer (some ⟨h.next+1+1,0,none⟩),.pointer (some ⟨h2.next,0,none⟩),.pointer (some ⟨h2.next+1,0,none⟩)]]) ⟨0,by simp⟩ (.inl (by omega))
  have n5:=t2.n0
  refine⟨(g1.trans g2).trans g4,by omega,⟨_,g4.get g2.ok hN2 (fun h=>h)⟩,⟨_,g4.get g2.ok hb2 (fun h=>h)⟩,by simp,⟨h2.clock,by simp[aK]⟩,⟨_,ax _ _ _ _ _ _⟩,⟨_,g4.get g2.ok hd2 (fun h=>h)⟩,t2.len,fun x hx=> ?_,by omega⟩
  obtain⟨row,q1,q2,q3,q4⟩:=t2.ot x hx
  refine⟨row,q1.aW g2.ok g4,q2,q3,fun hne b hb=> ?_⟩
  have:=(q4 hne b hb).2
  omega
 intro h3 w3
 refine zQ ok hr w3 hw hB T (by simp) (by simp) (by simp) (by simp) (by simp[hBl]) (by simp) ?_
 intro e4 h4 g4 k4 q5
 obtain⟨need4,w4⟩:=w3.re g4 k4
 obtain⟨s4,hN4⟩:=w4.hN
 simp[q5,hN4]
 exact⟨w4.g,h.next+1,rfl,by omega,k4⟩
def CZ (sz:Nat):aj:=(.seq (.ops [B_ 9 .lss 8 7]) (.seq (.cond (t_ 9) .skip (.exit 0)) (.seq (.block 1 (.seq (.ops [m_ 10 8,m_ 5 10]) (.seq (.ops [m_ 11 1,m_ 12 0,m_ 13 5,o_ 14 (.cw none sz (t_ 12) (t_ 13)),o_ 15 (.load (some sz) (t_ 14)),o_ 16 (.call (t_ 11) [t_ 15])]) (.cond (t_ 16) (.seq (.ops [m_ 17 5,m_ 4 17]) .ret) .skip)))) (.ops [C_ 18 .add 8 1,m_ 8 18]))))
def uX (sz:Nat):aj:=(.seq (.ops [⟨(some 4),none,(.mv (.const (.int .i64 0)))⟩]) (.seq (.seq (.ops [⟨(some 6),none,(.mv (.tmp 0))⟩,⟨(some 7),none,(.nx (.tmp 6))⟩,⟨(some 8),none,(.mv (.const (.int .i64 0)))⟩]) (.block 0 (.loop (CZ sz)))) (.seq (.ops [⟨(some 4),none,(.mv (.const (.int .i64 (Int.negSucc 0))))⟩]) .ret)))
def CY (z:List Value) (sz:Nat):aj:=(.seq (.seq (.ops [m_ 16 6,m_ 17 0,z_ 18 17,B_ 19 .lss 16 18]) (.cond (t_ 19) .skip (.exit 0))) (.seq (.block 1 (.seq (.ops [m_ 22 0,m_ 23 6,o_ 24 (.cw none sz (t_ 22) (t_ 23)),o_ 25 (.load (some sz) (t_ 24)),o_ 7 (.alloc z),u_ (.store sz (t_ 7) (t_ 25))]) (.seq (.ops [m_ 26 1,o_ 27 (.load (some sz) (t_ 7)),o_ 28 (.call (t_ 26) [t_ 27]),o_ 29 (.un .not (t_ 28))]) (.cond (t_ 29) (.seq (.ops [m_ 30 0,m_ 31 5,o_ 32 (.load (some sz) (t_ 7)),o_ 33 (.cw none sz (t_ 30) (t_ 31)),u_ (.store sz (t_ 33) (t_ 32))]) (.ops [m_ 34 5,C_ 35 .add 34 1,m_ 5 35])) .skip)))) (.ops [m_ 20 6,C_ 21 .add 20 1,m_ 6 21])))
def xT (z:List Value) (sz f:Nat):aj:=(.seq (.ops [o_ 4 (.mv (.const (.slice none 0 0)))]) (.seq (.ops [m_ 8 0,m_ 9 1,o_ 10 (.call (.func f) [t_ 8,t_ 9]),m_ 5 10]) (.seq (.seq (.ops [m_ 11 5,o_ 12 (.bin .eql [1] (t_ 11) (.const (.int .i64 (Int.negSucc 0))))]) (.cond (t_ 12) (.seq (.ops [m_ 13 0,m_ 4 13]) .ret) .skip)) (.seq (.seq (.ops [m_ 14 5,C_ 15 .add 14 1,m_ 6 15]) (.block 0 (.loop (CY z sz)))) (.seq (.ops [m_ 36 0,m_ 37 5,o_ 38 (.slice sz (t_ 36) (some (t_ 37)) none none),u_ (.clear z (t_ 38))]) (.seq (.ops [m_ 39 0,m_ 40 5,o_ 41 (.slice sz (t_ 39) none (some (t_ 40)) none),m_ 4 41]) .ret))))))
theorem Ns:FF cU=some ⟨[.tmp 4],uX 2,.no⟩:=jv
theorem M9:FF cV=some ⟨[.tmp 4],uX 8,.no⟩:=jA
theorem MX:FF ee=some ⟨[.tmp 4],xT [.int .i64 0,.slice none 0 0] 2 cU,.no⟩:=je
theorem Nn:FF d_=some ⟨[.tmp 4],xT [.int .i64 0,.int .i64 0,.bool false,.int .i64 0,.bool false,.int .i64 0,.int .i64 0,.slice none 0 0] 8 cV,.no⟩:=iW
section
variable {α:Type} {E:Enc α} {p:α→Bool} {y:Value}
def I9 (E:Enc α) (p:α→Bool) (y:Value) (A:SV) (xs:List α) (h:ae):Prop:= ∀x∈xs,∀h1,ab (av A.v) h h1→bZ FF y [.agg ⟨E.enc x⟩] h1 (fun v h'=>v= .bool (p x)∧ab aG h1 h')
def P_ (h:ae) (p:α→Bool) (y:Value) (A:SV) (xs:List α) (m:Nat) (e:Env) (h2:ae):Prop:=
 ∃j:Nat,m=xs.length-j∧j≤xs.length∧Env.get e 0=A.v∧Env.get e 1=y∧Env.get e 7= .int .i64 xs.length∧Env.get e 8= .int .i64 j∧ab aG h h2∧ ∀x∈xs.take j,p x=false
def Od (p:α→Bool) (xs:List α) (h:ae) (v:Value) (h':ae):Prop:=ab aG h h'∧((v= .int .i64 (-1)∧ ∀x∈xs,p x=false)∨ ∃(j:Nat) (x:α),v= .int .i64 j∧xs[j]? =some x∧p x=true∧ ∀x∈xs.take j,p x=false)
theorem Hm {f:Nat} (hf:FF f=some ⟨[.tmp 4],uX E.sz,.no⟩) {h:ae} (ok:bh h) {A:SV} {xs:List α} (w:eJ E h A xs) (hl:xs.length<2000000) (H:I9 E p y A xs h):
  aE FF f [A.v,y] h (Od p xs h):=by
 have hAl:=w.len
 refine aE.of hf ?_
 unfold uX
 simp[hAl]
 refine az.loop (P_ h p y A xs) ?_ (n:=xs.length) ⟨0,rfl,by omega,by simp[hAl],by simp,by simp,by simp,.refl ok,fun x hx=>by simp at hx⟩
 rintro m e h2 ⟨j,rfl,hj,f0,f1,f7,f8,g2,hn⟩
 unfold CZ
 by_cases hjl:j<xs.length
 ·have wj:=wrap_i64 ((j:Int)+1) (by omega) (by omega)
  obtain⟨x,hx⟩: ∃x,xs[j]? =some x:=⟨_,aQ hjl⟩
  obtain⟨b,cs,o,s,hAa,hb,_,_,hrd,_⟩:=(w.aW ok g2).el hx
  have r0:=hrd 0 E.sz (by omega)
  simp[-ag,E.len] at r0
  rw[List.take_of_length_le (by rw[E.len];exact Nat.le_refl _)] at r0
  simp at f0
  rw[hAa,hAl] at f0
  simp[f0,f1,f7,f8,hjl,r0,E.len,-ag]
  refine aD.cm (V:=fun v h'=>v= .bool (p x)∧ab aG h2 h') (by simpa [f1] using H x (di hx) h2 g2.aW) ?_
  rintro _ h3 ⟨rfl,g3⟩
  cases hp:p x with
  |true=>
   simp
   exact⟨g2.trans g3,.inr ⟨j,x,rfl,hx,hp,hn⟩⟩
  |false=>
   simp[f8,wj]
   refine⟨xs.length-(j+1),by omega,j+1,rfl,by omega,by simp[f0,hAa,hAl],by simp[f1],by simp[f7],by simp,g2.trans g3,fun x' hx'=> ?_⟩
   rw[List.take_add_one,hx] at hx'
   rcases List.mem_append.1 hx' with h|h
   ·exact hn x' h
   ·simp at h;subst h;exact hp
 ·have:j=xs.length:=by omega
  subst this
  rw[List.take_length] at hn
  simp[f7,f8]
  exact⟨g2,.inl ⟨rfl,hn⟩⟩
theorem take_set {xs:List α} {i:Nat} (h:i<xs.length) (v:α):(xs.set i v).take (i+1)=xs.take i++[v]:=by
 have h1:(xs.set i v).take i=xs.take i:=List.ext_getElem? fun k=>by
  rw[List.getElem?_take,List.getElem?_take,List.getElem?_set]
  by_cases hk:k<i
  ·rw[if_pos hk,if_pos hk,if_neg (by omega)]
  ·rw[if_neg hk,if_neg hk]
 have h2:(xs.set i v)[i]? =some v:=by simp[h]
 rw[List.take_add_one,h1,h2]
 rfl
def nk (p:α→Bool) (xs:List α):List α:=xs.filter (fun x=> !p x)
def PF (E:Enc α) (h:ae) (p:α→Bool) (y:Value) (A:SV) (xs:List α) (m:Nat) (e:Env) (h2:ae):Prop:=
 ∃(i j:Nat) (ys:List α),m=xs.length-j∧i<j∧j≤xs.length∧Env.get e 0=A.v∧Env.get e 1=y∧Env.get e 5= .int .i64 i∧Env.get e 6= .int .i64 j∧ab (av A.v) h h2∧eJ E h2 A ys∧ys.length=xs.length∧ys.take i=nk p (xs.take j)∧ys.drop j=xs.drop j
def MK (E:Enc α) (p:α→Bool) (A:SV) (xs:List α) (h:ae) (v:Value) (h':ae):Prop:=ab (av A.v) h h'∧ ∃A':SV,v=A'.v∧A'.a=A.a∧eJ E h' A' (nk p xs)
theorem xY {f fi:Nat} {z:List Value} {z0:α} (hz:z=E.enc z0) (hf:FF f=some ⟨[.tmp 4],xT z E.sz fi,.no⟩) (hfi:FF fi=some ⟨[.tmp 4],uX E.sz,.no⟩) {h:ae} (ok:bh h) {A:SV} {xs:List α} (w:eJ E h A xs) (hl:xs.length<1000000) (H:I9 E p y A xs h):
  aE FF f [A.v,y] h (MK E p A xs h):=by
 have hAl:=w.len
 refine aE.of hf ?_
 unfold xT
 simp[hAl]
 refine aD.call (V:=Od p xs h) (by simpa [hAl] using Hm hfi ok w (by omega) H) ?_
 rintro _ h1 ⟨g1,⟨rfl,hno⟩|⟨i0,x0,rfl,hx0,hp0,hn0⟩⟩
 ·simp
  refine⟨g1.aW,A,by simp[hAl],rfl,?_⟩
  have:nk p xs=xs:=List.filter_eq_self.2 (fun x hx=>by simp[hno x hx])
  rw[this]
  exact w.aW ok g1
 have hi0:=(bY.mp hx0).1
 have w0:=wrap_i64 ((i0:Int)+1) (by omega) (by omega)
 simp[w0]
 have hk0:xs.take i0=nk p (xs.take (i0+1)):=by
  unfold nk
  rw[List.take_add_one,hx0,List.filter_append]
  have:(xs.take i0).filter (fun x=> !p x)=xs.take i0:=List.filter_eq_self.2 (fun x hx=>by simp[hn0 x hx])
  rw[this]
  simp[hp0]
 refine az.loop (PF E h p y A xs) ?_ (n:=xs.length-(i0+1)) ⟨i0,i0+1,xs,rfl,by omega,by omega,by simp[hAl],by simp,by simp,by simp,g1.aW,w.aW ok g1,rfl,hk0,rfl⟩
 rintro m e h2 ⟨i,j,ys,rfl,hij,hj,f0,f1,f5,f6,g2,w2,hyl,ht,hd⟩
 have ok2:=g2.ok
 unfold CY
 by_cases hjl:j<xs.length
 ·have wj:=wrap_i64 ((j:Int)+1) (by omega) (by omega)
  have wi:=wrap_i64 ((i:Int)+1) (by omega) (by omega)
  obtain⟨x,hx⟩: ∃x,xs[j]? =some x:=⟨_,aQ hjl⟩
  have hyx:ys[j]? =some x:=by
   have:=congrArg (fun l=>l[0]?) hd
   simpa [hx] using this
  obtain⟨b,cs,o,s,hAa,hb,_,_,hrd,_⟩:=w2.el hyx
  have r0:=hrd 0 E.sz (by omega)
  simp[-ag,E.len] at r0
  rw[List.take_of_length_le (by rw[E.len];exact Nat.le_refl _)] at r0
  simp at f0
  rw[hAa,hAl] at f0
  have hzl:z.length=E.sz:=by rw[hz,E.len]
  have hsz: ¬E.sz=0:=by have:=E.pos;omega
  have htk:(E.enc x).take E.sz=E.enc x:=List.take_of_length_le (by rw[E.len];exact Nat.le_refl _)
  have hsp:aK z 0 (E.enc x)=E.enc x:=by unfold aK;simp[hzl,E.len]
  simp[f0,f1,f5,f6,hjl,r0,E.len,E.plain,hzl,hsp,htk,-ag,aq]
  refine aD.cut (fun h3=>ab aG h2 h3∧ ∃s,h3.tr.get h2.next=some (.aA (E.enc x) false 0 s)) ?_ ?_
  ·exact⟨(ab.refl ok2).var _ _,h2.clock,by rw[ax,hsp];rfl⟩
  rintro h3 ⟨g3,s3,hV3⟩
  refine aD.cm (V:=fun v h'=>v= .bool (p x)∧ab aG h3 h') (by simpa [f1] using H x (di hx) h3 (g2.trans g3.aW)) ?_
  rintro _ h4 ⟨rfl,g4⟩
  have g24:=g3.trans g4
  have w4:=w2.aW ok2 g24
  have hV4:=g4.get g3.ok hV3 (fun h=>h)
  have htj:nk p (xs.take (j+1))=nk p (xs.take j)++(if p x then [] else [x]):=by
   unfold nk
   rw[List.take_add_one,hx,List.filter_append]
   cases hpx:p x<;>simp[hpx]
  have hdj:ys.drop (j+1)=xs.drop (j+1):=by
   have:=congrArg (fun l=>l.drop 1) hd
   simpa [List.drop_drop] using this
  cases hp:p x with
  |true=>
   simp[f6,wj]
   refine⟨xs.length-(j+1),by omega,i,j+1,ys,rfl,by omega,by omega,by simp[f0,hAa,hAl],by simp[f1],by simp[f5],by simp,g2.trans g24.aW,w4,hyl,?_,hdj⟩
   rw[htj,hp,ht];simp
  |false=>
   obtain⟨yi,hyi⟩: ∃yi,ys[i]? =some yi:=⟨_,aQ (by omega)⟩
   obtain⟨b',cs',o',s',hAa',hb4,_,hfit,_,hset⟩:=w4.el hyi
   rw[hAa] at hAa'
   cases hAa'
   have hil:i<xs.length:=by omega
   have hf':=hfit 0 E.sz (by omega)
   simp only[Nat.add_zero] at hf'
   simp[f0,f1,f5,f6,hV4,E.len,E.plain,htk,hil,hb4,hf',wj,wi]
   have hset':=hset x 0 (E.enc x) (by rw[E.len];omega) (by unfold aK;simp[E.len]) (put h4 b (i*E.sz) cs' (E.enc x) o') ⟨_,ax _ _ _ _ _ _⟩
   refine⟨xs.length-(j+1),by omega,i+1,j+1,ys.set i x,rfl,by omega,by omega,by simp[f0,hAa,hAl],by simp[f1],by simp,by simp,(g2.trans g24.aW).trans ((aJ g24.ok hb4).bM (fun y _ e=>e▸bN hAa)),hset',by simp[hyl],?_,?_⟩
   ·rw[take_set (by omega),htj,hp,ht];simp
   ·rw[List.drop_set_of_lt (by omega),hdj]
 ·have hje:j=xs.length:=by omega
  subst hje
  rw[List.take_length] at ht
  obtain⟨hAl2,hw2⟩:=w2
  rcases hw2 with⟨_,_,rfl⟩|⟨b,o,s,rest,hAa,hc,hb,ho⟩
  ·simp at hyl;omega
  simp at f0
  rw[hAa,hAl] at f0
  have hsz: ¬E.sz=0:=by have:=E.pos;omega
  have hie:i≤xs.length:=by omega
  have hob:(o.beq 0||o.beq E.sz)=true:=by
   rcases ho with h|h
   ·rw[h];rfl
   ·rw[h];simp
  have hni: ¬xs.length-i=0:=by omega
  have hrl:(gI z (xs.length-i))=E.flat (List.replicate (xs.length-i) z0):=vg E z0 hz _
  have hfit:i*E.sz+(xs.length-i)*E.sz≤(ys.length+rest.length)*E.sz:=by
   rw[←Nat.add_mul];exact Nat.mul_le_mul_right _ (by omega)
  have hrl2:(E.flat (List.replicate (xs.length-i) z0)).length=(xs.length-i)*E.sz:=by rw[E.bt];simp
  obtain⟨cs,hcs⟩: ∃cs,cs=E.flat (ys++rest):=⟨_,rfl⟩
  have hcl:cs.length=(ys.length+rest.length)*E.sz:=by rw[hcs,E.bt,List.length_append]
  obtain⟨zs,hzs⟩: ∃zs,zs=E.flat (List.replicate (xs.length-i) z0):=⟨_,rfl⟩
  rw[←hcs] at hb
  rw[←hzs] at hrl hrl2
  rw[←hrl2,←hcl] at hfit
  have hiA:i≤A.c:=by omega
  simp[f0,f5,f6,hie,hb,hob,hni,hrl,hfit,hiA]
  refine⟨g2.trans ((aJ ok2 hb).bM (fun x _ e=>e▸bN hAa)),⟨A.a,i,A.c⟩,by simp[hAa],rfl,?_⟩
  have hki:(nk p xs).length=i:=by rw[←ht];simp;omega
  refine⟨hki.symm,.inr ⟨b,o,h2.clock,List.replicate (xs.length-i) z0++rest,hAa,by simp[hki];omega,?_,ho⟩⟩
  rw[ax,hcs,hzs]
  have:=yx E (ys.take i) (List.replicate (xs.length-i) z0) (ys.drop i++rest) (by simp;omega)
  have e1:(ys.take i).length=i:=by simp;omega
  rw[e1,←List.append_assoc,List.take_append_drop] at this
  rw[this,←ht]
  have e2:(ys.drop i++rest).drop (List.replicate (xs.length-i) z0).length=rest:=by
   rw[List.drop_append]
   simp[hyl]
   omega
  rw[e2,List.append_assoc]
end
section
variable {h h':ae} {n0 ai:Nat} {κ cap:Nat→Nat} {rs:List XR}
theorem CG {A A':SV} (e:A'.a=A.a) {b:Nat} (k:av A'.v b):av A.v b:=by
 obtain⟨off,n,c,e2⟩:=k
 simp at e2
 exact⟨off,A.l,A.c,by simp[←e,e2.1]⟩
theorem eM {f:XR→SV} {i:Nat} {r r':XR} (hr:rs[i]? =some r) (d: ∀(i j:Nat) (ri rj:XR) (b:Nat),rs[i]? =some ri→rs[j]? =some rj→i≠j→av (f ri).v b→ ¬av (f rj).v b) (e:(f r').a=(f r).a):
  ∀(i' j:Nat) (ri rj:XR) (b:Nat),(rs.set i r')[i']? =some ri→(rs.set i r')[j]? =some rj→i'≠j→av (f ri).v b→ ¬av (f rj).v b:=by
 have hi:=(bY.mp hr).1
 intro i' j ri rj b h1 h2 hn hb hb2
 rw[List.getElem?_set] at h1 h2
 by_cases e1:i=i'
 ·rw[if_pos e1,if_pos hi] at h1
  rw[if_neg (by omega)] at h2
  cases h1
  exact d i j r rj b hr h2 (by omega) (CG e hb) hb2
 ·rw[if_neg e1] at h1
  by_cases e2:i=j
  ·rw[if_pos e2,if_pos hi] at h2
   cases h2
   exact d i' i ri r b h1 hr (by omega) hb (CG e hb2)
  ·rw[if_neg e2] at h2
   exact d i' j ri rj b h1 h2 hn hb hb2
theorem cy.Kz (w:cy h n0 ai κ cap rs) (ok:bh h) {i:Nat} {r:XR} (hr:rs[i]? =some r) (g:ab (av r.P.v) h h') {P':SV} {ps':List (Int×SV)} (hP:eJ iK h' P' ps') (e:P'.a=r.P.a) (hps: ∀p∈ps',(0≤p.1∧p.1<ai)∧VA κ cap p.2):
  cy h' n0 ai κ cap (rs.set i { r with P:=P',ps:=ps' }):=by
 have hi:=(bY.mp hr).1
 have R:=w.r i r hr
 refine⟨fun j x hx=> ?_,eM (f:=(·.P)) hr w.dP e,eM (f:=(·.L)) hr w.dL rfl,eM (f:=(·.T)) hr w.dT rfl,w.V.grow ok g (fun b hb=>by have:=R.kP b hb;omega),fun b hb=>by have:=w.new b hb;have:=g.next;omega⟩
 rw[List.getElem?_set] at hx
 by_cases e1:i=j
 ·rw[if_pos e1,if_pos hi] at hx
  cases hx
  exact⟨hP,R.L.grow ok g (fun b hb hs=>by have:=R.kP b hs;have:=R.kL b hb;omega),R.T.grow ok g (fun b hb hs=>by have:=R.kP b hs;have:=R.kT b hb;omega),fun b hb=>R.kP b (CG e hb),R.kL,R.kT,hps,R.ls,R.on⟩
 ·rw[if_neg e1] at hx
  have Rx:=w.r j x hx
  exact Rx.grow ok g (fun b hb=>⟨w.dP i j r x b hr hx e1 hb,fun h=>by have:=R.kP b hb;have:=Rx.kL b h;omega,fun h=>by have:=R.kP b hb;have:=Rx.kT b h;omega⟩)
theorem cy.Lp (w:cy h n0 ai κ cap rs) (ok:bh h) {i:Nat} {r:XR} (hr:rs[i]? =some r) (g:ab (av r.L.v) h h') {L':SV} {ls':List XI} (hL:eJ me h' L' ls') (e:L'.a=r.L.a) (hls: ∀x∈ls',x.dst<ai∧gO ai x.a∧gO ai x.b∧VA κ cap x.args):
  cy h' n0 ai κ cap (rs.set i { r with L:=L',ls:=ls' }):=by
 have hi:=(bY.mp hr).1
 have R:=w.r i r hr
 refine⟨fun j x hx=> ?_,eM (f:=(·.P)) hr w.dP rfl,eM (f:=(·.L)) hr w.dL e,eM (f:=(·.T)) hr w.dT rfl,w.V.grow ok g (fun b hb=>by have:=R.kL b hb;omega),fun b hb=>by have:=w.new b hb;have:=g.next;omega⟩
 rw[List.getElem?_set] at hx
 by_cases e1:i=j
 ·rw[if_pos e1,if_pos hi] at hx
  cases hx
  exact⟨R.P.grow ok g (fun b hb hs=>by have:=R.kL b hs;have:=R.kP b hb;omega),hL,R.T.grow ok g (fun b hb hs=>by have:=R.kL b hs;have:=R.kT b hb;omega),R.kP,fun b hb=>R.kL b (CG e hb),R.kT,R.ps,hls,R.on⟩
 ·rw[if_neg e1] at hx
  have Rx:=w.r j x hx
  exact Rx.grow ok g (fun b hb=>⟨fun h=>by have:=R.kL b hb;have:=Rx.kP b h;omega,w.dL i j r x b hr hx e1 hb,fun h=>by have:=R.kL b hb;have:=Rx.kT b h;omega⟩)
theorem cy.Pz (w:cy h n0 ai κ cap rs) (ok:bh h) {i:Nat} {r:XR} (hr:rs[i]? =some r) (g:ab (av r.T.v) h h') {T':SV} {ts':List Int} (hT:eJ aY h' T' ts') (e:T'.a=r.T.a):
  cy h' n0 ai κ cap (rs.set i { r with T:=T',ts:=ts' }):=by
 have hi:=(bY.mp hr).1
 have R:=w.r i r hr
 refine⟨fun j x hx=> ?_,eM (f:=(·.P)) hr w.dP rfl,eM (f:=(·.L)) hr w.dL rfl,eM (f:=(·.T)) hr w.dT e,w.V.grow ok g (fun b hb=>by have:=R.kT b hb;omega),fun b hb=>by have:=w.new b hb;have:=g.next;omega⟩
 rw[List.getElem?_set] at hx
 by_cases e1:i=j
 ·rw[if_pos e1,if_pos hi] at hx
  cases hx
  exact⟨R.P.grow ok g (fun b hb hs=>by have:=R.kT b hs;have:=R.kP b hb;omega),R.L.grow ok g (fun b hb hs=>by have:=R.kT b hs;have:=R.kL b hb;omega),hT,R.kP,R.kL,fun b hb=>R.kT b (CG e hb),R.ps,R.ls,R.on⟩
 ·rw[if_neg e1] at hx
  have Rx:=w.r j x hx
  exact Rx.grow ok g (fun b hb=>⟨fun h=>by have:=R.kT b hb;have:=Rx.kP b h;omega,fun h=>by have:=R.kT b hb;have:=Rx.kL b h;omega,w.dT i j r x b hr hx e1 hb⟩)
theorem cy.N7 (w:cy h n0 ai κ cap rs) {i:Nat} {r:XR} (hr:rs[i]? =some r) (k:Int) (on:Bool×Int) (hon:gO ai on):
  cy h n0 ai κ cap (rs.set i { r with kind:=k,on:=on }):=by
 have hi:=(bY.mp hr).1
 have R:=w.r i r hr
 refine⟨fun j x hx=> ?_,eM (f:=(·.P)) hr w.dP rfl,eM (f:=(·.L)) hr w.dL rfl,eM (f:=(·.T)) hr w.dT rfl,w.V,w.new⟩
 rw[List.getElem?_set] at hx
 by_cases e1:i=j
 ·rw[if_pos e1,if_pos hi] at hx
  cases hx
  exact⟨R.P,R.L,R.T,R.kP,R.kL,R.kT,R.ps,R.ls,hon⟩
 ·rw[if_neg e1] at hx
  exact w.r j x hx
end
structure uk (h:ae) (W N nb ai:Nat) (words:Int) (need:List Bool):Prop where
 hW: ∃s,h.tr.get W=some (.aA [.int .i64 words] false 0 s)
 hN: ∃s,h.tr.get N=some (.aA [.slice (some ⟨nb,0,none⟩) ai ai] false 0 s)
 hb: ∃s,h.tr.get nb=some (.aA (nf.flat need) false 0 s)
 nl:need.length=ai
theorem uk.grow {S:Nat→Prop} {h h':ae} {W N nb ai:Nat} {words:Int} {need:List Bool} (k:uk h W N nb ai words need) (ok:bh h) (g:ab S h h') (h1: ¬S W) (h2: ¬S N) (h3: ¬S nb):uk h' W N nb ai words need:=by
 obtain⟨⟨a,hw⟩,⟨b,hn⟩,⟨c,hf⟩,d⟩:=k
 exact⟨⟨a,g.get ok hw h1⟩,⟨b,g.get ok hn h2⟩,⟨c,g.get ok hf h3⟩,d⟩
def Gd (need:List Bool) (n:Int):Bool:=(need[n.toNat]?).getD false
def Fz (need:List Bool) (q:Int×SV):Bool:= !Gd need q.1
def fO (words:Int) (x:XI):Bool:=cY words x.op x.a.1 x.a.2 x.b.1 x.b.2
def zo (words:Int) (need:List Bool) (x:XI):Bool:=fO words x&& !Gd need x.dst
theorem Kc {h:ae} (ok:bh h) {W N nb ai:Nat} {words:Int} {need:List Bool} (k:uk h W N nb ai words need) {q:Int×SV} (hq:0≤q.1∧q.1<ai):
  bZ FF (.func (.func pG) #[] #[.pointer (some ⟨N,0,none⟩)]) [.agg ⟨iK.enc q⟩] h (fun v h'=>v= .bool (Fz need q)∧ab aG h h'):=by
 obtain⟨⟨a,hw⟩,⟨b,hn⟩,⟨c,hf⟩,d⟩:=k
 obtain⟨n,A⟩:=q
 obtain⟨n,rfl⟩: ∃n':Nat,n=n':=⟨n.toNat,by omega⟩
 have hnr:n<ai:=by omega
 have oN:=ok.bl hn
 have oF:=ok.bl hf
 obtain⟨t,ht⟩: ∃t,need[n]? =some t:=⟨_,aQ (by omega)⟩
 have r:=yl hf ht
 refine bZ.func ?_
 refine aE.of zH ?_
 unfold tR
 have hd:Fz need ((n:Int),A)= !t:=by simp[Fz,Gd,ht]
 simp[aL,dt,aw hn,oN,oF,hnr,r,hd,-ag]
 exact aI ok _ _
theorem KF {h:ae} (ok:bh h) {W N nb ai:Nat} {words:Int} {need:List Bool} (k:uk h W N nb ai words need) (hw:0≤words∧words<1000000000) {x:XI} (hx:x.dst<ai) (hq:fO words x=true→0≤x.dst):
  bZ FF (.func (.func py) #[] #[.pointer (some ⟨W,0,none⟩),.pointer (some ⟨N,0,none⟩)]) [.agg ⟨me.enc x⟩] h (fun v h'=>v= .bool (zo words need x)∧ab aG h h'):=by
 obtain⟨⟨a,hW⟩,⟨b,hn⟩,⟨c,hf⟩,d⟩:=k
 have oW:=ok.bl hW
 refine bZ.func ?_
 refine aE.of zT ?_
 unfold ub
 simp[hW,oW]
 refine aD.cut (fun h1=>ab aG h h1∧ ∃s,h1.tr.get h.next=some (.aA [.int .i64 x.op,.int .i64 x.dst,.bool x.a.1,.int .i64 x.a.2,.bool x.b.1,.int .i64 x.b.2,.int .i64 x.fn,.slice x.args.a x.args.l x.args.c] false 0 s)) ?_ ?_
 ·exact⟨aI ok _ _,0,by simp⟩
 rintro h1 ⟨g1,s1,hX1⟩
 refine aD.call (V:=fun v h'=>v= .bool (fO words x)∧ab aG h1 h') (by simpa [ay,fO] using yA h1 g1.ok words x.op x.dst x.a.2 x.b.2 x.fn x.a.1 x.b.1 x.args.a x.args.l x.args.c hw) ?_
 rintro _ h2 ⟨rfl,g2⟩
 have gg:=g1.trans g2
 cases hqx:fO words x with
 |false=>
  have hd:zo words need x=false:=by simp[zo,hqx]
  simp[hd]
  exact gg
 |true=>
  obtain⟨n,hn0⟩: ∃n:Nat,x.dst=n:=⟨x.dst.toNat,by have:=hq hqx;omega⟩
  have hnr:n<ai:=by omega
  have hX2:=g2.get g1.ok hX1 (fun h=>h)
  have hn2:=gg.get ok hn (fun h=>h)
  have hf2:=gg.get ok hf (fun h=>h)
  obtain⟨t,ht⟩: ∃t,need[n]? =some t:=⟨_,aQ (by omega)⟩
  have r:=yl hf2 ht
  have hd:zo words need x= !t:=by simp[zo,hqx,Gd,hn0,ht]
  rw[hn0] at hX2
  simp[hX2,aw hn2,aw hX2,hnr,r,hd,-ag]
  exact gg
end Go.Proofs.YtdkdbjecehcekaaGreatDoor
