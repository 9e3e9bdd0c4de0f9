/- Parts of the proof. -/
import Derived.Test.YtdkdbjecehcekaaGreatDoorP08
import Derived.Test.YtdkdbjecehcekaaGreatDoorP00
set_option linter.all false
set_option linter.unusedSimpArgs false
set_option linter.unusedVariables false
set_option linter.unnecessarySimpa false
namespace Go.Proofs.YtdkdbjecehcekaaGreatDoor
open Go.AI
structure qF (b:GB):Prop where
 ph:b.dY.length≤140737488355328
 li:b.list.length≤140737488355328
 to:b.to.length≤140737488355328
 row: ∀p∈b.dY,p.row.length≤140737488355328
 args: ∀x∈b.list,x.args.length≤140737488355328
def se (n:Nat) (ai:Int) (bs:List GB):Prop:= ∀b∈bs,Dy n ai b
theorem se.take {n:Nat} {ai:Int} {bs:List GB} {j:Nat} {b:GB} (h:se n ai (bs.take j)) (hx:bs[j]? =some b) (hb:Dy n ai b):se n ai (bs.take (j+1)):=by
 intro x hx'
 rw[List.take_add_one,hx] at hx'
 rcases List.mem_append.1 hx' with h1|h1
 ·exact h x h1
 ·simp at h1;rw[h1];exact hb
theorem se.ends {ai:Int} {bs:List GB} (h:se bs.length ai bs) (hl:bs.length≤1000):iJ bs:=by
 refine⟨hl,fun b hb=> ?_,fun b hb t ht=> ?_⟩
 ·rcases(h b hb).kind with⟨_,e⟩|⟨_,t,e⟩|⟨_,t,u,e,_⟩<;>rw[e]<;>simp
 ·have:=(h b hb).to t ht
  unfold LM at this
  omega
section
variable {gs fs blocks ah:SV} {name:ByteArray} {params ai:Int}
def PU (h:ae) (gs fs B ah:SV) (name:ByteArray) (params ai:Int) (bs:List GB) (m:Nat) (e:Env) (h2:ae):Prop:=
 ∃j:Nat,m=bs.length-j∧j≤bs.length∧Env.get e 1= .pointer (some ⟨h.next,0,none⟩)∧Env.get e 16=B.v∧Env.get e 17= .int .i64 bs.length∧Env.get e 18= .int .i64 j∧ab aG h h2∧h2.tr.get h.next=some (.aA (aF gs fs name params ai B ah) false 0 0)∧se bs.length ai (bs.take j)
theorem Iv {h h1:ae} (ok:bh h) (hw:xx h) (hr:0≤ai∧ai<1000000) {B:SV} {bs:List GB} (hB:wB h B bs) (hl:bs.length≤1000) (sm: ∀b∈bs,qF b) (g1:ab aG h h1) (hC1:h1.tr.get h.next=some (.aA (aF gs fs name params ai B ah) false 0 0))
  {e:Env} {Q:aO→Env→ae→Prop} (f1:Env.get e 1= .pointer (some ⟨h.next,0,none⟩)) (f16:Env.get e 16=B.v) (f17:Env.get e 17= .int .i64 bs.length) (f18:Env.get e 18= .int .i64 0)
  (bad: ∀c e' h',c≠0→Env.get e' 2= .int .i64 c→ab aG h h'→Q .ret e' h')
  (ot: ∀e' h',Env.get e' 1= .pointer (some ⟨h.next,0,none⟩)→ab aG h h'→h'.tr.get h.next=some (.aA (aF gs fs name params ai B ah) false 0 0)→se bs.length ai bs→Q (.exit 0) e' h'):
  az FF (.loop gD) e h1 Q:=by
 have hBl:=SliceR.len hB
 refine az.loop (PU h gs fs B ah name params ai bs) ?_ (n:=bs.length) ⟨0,rfl,by omega,f1,f16,f17,f18,g1,hC1,fun b hb=>by simp at hb⟩
 rintro m e h2 ⟨j,rfl,hj,f1,f16,f17,f18,g2,hC2,hE⟩
 unfold gD
 by_cases hjl:j<bs.length
 ·have hx:bs[j]? =some bs[j]:=aQ hjl
  have hm:=List.getElem_mem hjl
  generalize bs[j]=x at hx hm
  obtain⟨bb,off,c,hBa,_,_,⟨P,L,T,rfl,sP,sL,sT⟩,_,hrd⟩:=SliceR.later ok hB hx
  have r0:=hrd h2 g2 0 6 (by decide)
  simp[-ag] at r0
  have wj:=wrap_i64 (j+1) (by omega) (by omega)
  have oC2:=g2.ok.bl hC2
  have hC2':=hC2
  simp only[aF] at hC2'
  have f16':=f16
  simp at f16'
  rw[hBa,hBl] at f16'
  simp[f1,f16',f17,f18,hjl,r0,-ag,aq,bg,aL,oC2,aw hC2']
  refine aD.cut (fun h3=>ab aG h2 h3) ?_ ?_
  ·exact(ab.refl g2.ok).var _ _
  rintro h3 g3
  have gg3:=g2.trans g3
  refine aD.call (V:=pX (fun c=>c=0→Dy bs.length ai x) h3) ?_ ?_
  ·have E:aE FF jt [.agg ⟨aF gs fs name params ai B ah⟩,.agg ⟨[.int .i64 x.kind,.bool x.on.1,.int .i64 x.on.2,T.v]⟩] h3 (pX (fun c=>c=0→Dy bs.length ai x) h3):=by
    rw[←hBl]
    exact KG gg3.ok (hw.grow ok gg3) hr (by omega) (b:=x) (by have:=(sm x hm).to;omega) (sT.mono ok gg3 fun _ _ h=>h)
   simpa [aF,hBl] using E
  rintro _ h4 ⟨g4,c,rfl,hc⟩
  have gg4:=gg3.trans g4
  by_cases he:c=0
  ·subst he
   simp[f18,wj]
   refine⟨bs.length-(j+1),by omega,j+1,rfl,by omega,by simp[f1],by simp[f16],by simp[f17],by simp,gg4,(g3.trans g4).get g2.ok hC2 (fun h=>h),hE.take hx (hc rfl)⟩
  ·have:=nq he
   simp[this]
   exact bad c _ _ he (by simp) gg4
 ·have:j=bs.length:=by omega
  subst this
  rw[List.take_length] at hE
  simp[f17,f18]
  exact ot _ _ (by simp[f1]) g2 hC2 hE
structure JU (ai:Int) (preds:List (List Int)) (i:Nat) (b:GB):Prop where
 dY: ∀p∈b.dY,i≠0∧ ∃l,preds[i]? =some l∧Ap ai l.length p
 list: ∀x∈b.list,tP ai x
def Fo (ai:Int) (preds:List (List Int)) (bs:List GB):Prop:= ∀(i:Nat) b,bs[i]? =some b→JU ai preds i b
def PK (h h1:ae) (e0:Env) (P:SV) (ai:Int) (n:Nat) (i:Nat) (ps:List GP) (C:Nat) (cc:List Value) (sC:Nat) (m:Nat) (e:Env) (h2:ae):Prop:=
 ∃j:Nat,m=ps.length-j∧j≤ps.length∧aC [47,48,49,9,50,51,52,53,10,54,55,56,57,46,2] e0 e∧Env.get e 46= .int .i64 j∧ab aG h1 h2∧ ∀p∈ps.take j,i≠0∧Ap ai n p
theorem Hl {h h1:ae} (ok:bh h) (hr:0≤ai∧ai<1000000) {B AH:SV} {xss:List (List Int)} {i:Nat} {l:List Int} (hi:xss[i]? =some l) (hA:SliceR (KO h1) 1 h1 AH.v xss) {P:SV} {ps:List GP} (hP:SliceR (pR h) 2 h P.v ps) (hpl:ps.length≤140737488355328) (sm: ∀p∈ps,p.row.length≤140737488355328) (g1:ab aG h h1) {C sC:Nat} (hC1:h1.tr.get C=some (.aA (aF gs fs name params ai B AH) false 0 sC))
  {e:Env} {Q:aO→Env→ae→Prop} (f1:Env.get e 1= .pointer (some ⟨C,0,none⟩)) (f6:Env.get e 6= .int .i64 i) (f44:Env.get e 44=P.v) (f45:Env.get e 45= .int .i64 ps.length) (f46:Env.get e 46= .int .i64 0)
  (bad: ∀c e' h',c≠0→Env.get e' 2= .int .i64 c→ab aG h1 h'→Q .ret e' h')
  (ot: ∀e' h',aC [47,48,49,9,50,51,52,53,10,54,55,56,57,46,2] e e'→ab aG h1 h'→(∀p∈ps,i≠0∧Ap ai l.length p)→Q (.exit 4) e' h'):
  az FF (.loop gz) e h1 Q:=by
 have hPl:=SliceR.len hP
 refine az.loop (PK h h1 e P ai l.length i ps C (aF gs fs name params ai B AH) sC) ?_ (n:=ps.length) ⟨0,rfl,by omega,aC.refl _ _,f46,.refl g1.ok,fun p hp=>by simp at hp⟩
 rintro m e' h2 ⟨j,rfl,hj,K,q46,g2,hE⟩
 have gg2:=g1.trans g2
 unfold gz
 have q1:=K.at (by decide) f1
 have q6:=K.at (by decide) f6
 have q44:=K.at (by decide) f44
 have q45:=K.at (by decide) f45
 by_cases hjl:j<ps.length
 ·have hx:ps[j]? =some ps[j]:=aQ hjl
  have hm:=List.getElem_mem hjl
  generalize ps[j]=x at hx hm
  obtain⟨bb,off,c,hPa,_,_,⟨W,rfl,sW⟩,_,hrd⟩:=SliceR.later ok hP hx
  have r0:=hrd h2 gg2 0 2 (by decide)
  simp[-ag] at r0
  have wj:=wrap_i64 (j+1) (by omega) (by omega)
  have hC2:=g2.get g1.ok hC1 (fun h=>h)
  have oC2:=g2.ok.bl hC2
  simp only[aF] at hC2
  simp at q44
  rw[hPa,hPl] at q44
  simp[q1,q6,q44,q45,q46,hjl,r0,-ag,aq,bg,aL,oC2,aw hC2]
  refine aD.cut (fun h3=>ab aG h2 h3) ?_ ?_
  ·exact(ab.refl g2.ok).var _ _
  rintro h3 g3
  have gg3:=gg2.trans g3
  have g13:=g2.trans g3
  refine aD.call (V:=pX (fun c=>c=0→i≠0∧Ap ai l.length x) h3) ?_ ?_
  ·have E:aE FF js [.agg ⟨aF gs fs name params ai B AH⟩,.int .i64 i,.agg ⟨[.int .i64 x.dst,W.v]⟩] h3 (pX (fun c=>c=0→i≠0∧Ap ai l.length x) h3):=
    JF gg3.ok hr (hA.mono g1.ok g13 fun _ _ r=>r.mono g1.ok g13) hi (by have:=sm x hm;omega) (sW.mono ok gg3 fun _ _ h=>h)
   simpa [aF] using E
  rintro _ h4 ⟨g4,c,rfl,hc⟩
  have g14:=g13.trans g4
  by_cases he:c=0
  ·subst he
   simp[q46,wj]
   refine⟨ps.length-(j+1),by omega,j+1,rfl,by omega,?_,by simp,g14,?_⟩
   ·repeat (refine aC.set (by decide) ?_)
    exact K
   ·intro p hp
    rw[List.take_add_one,hx] at hp
    rcases List.mem_append.1 hp with h|h
    ·exact hE p h
    ·simp at h;rw[h];exact hc rfl
  ·have:=nq he
   simp[this]
   exact bad c _ _ he (by simp) g14
 ·have:j=ps.length:=by omega
  subst this
  rw[List.take_length] at hE
  simp[q45,q46]
  exact ot _ _ (K.set (by decide)) g2 hE
def QD (h h1:ae) (e0:Env) (ai:Int) (xs:List GI) (m:Nat) (e:Env) (h2:ae):Prop:=
 ∃j:Nat,m=xs.length-j∧j≤xs.length∧aC [62,63,64,12,65,66,67,13,68,69,70,71,61,2] e0 e∧Env.get e 61= .int .i64 j∧ab aG h1 h2∧ ∀x∈xs.take j,tP ai x
theorem Ha {h h1:ae} (ok:bh h) (hr:0≤ai∧ai<1000000) {B AH:SV} {funcs:List GF} (hF:SliceR (fR h) 4 h fs.v funcs) (hfl:funcs.length<1000000∧ ∀f∈funcs,f.params≤6) {L:SV} {xs:List GI} (hL:SliceR (iR h) 8 h L.v xs) (hxl:xs.length≤140737488355328) (sm: ∀x∈xs,x.args.length≤140737488355328) (g1:ab aG h h1) {C sC:Nat} (hC1:h1.tr.get C=some (.aA (aF gs fs name params ai B AH) false 0 sC))
  {e:Env} {Q:aO→Env→ae→Prop} (f1:Env.get e 1= .pointer (some ⟨C,0,none⟩)) (f59:Env.get e 59=L.v) (f60:Env.get e 60= .int .i64 xs.length) (f61:Env.get e 61= .int .i64 0)
  (bad: ∀c e' h',c≠0→Env.get e' 2= .int .i64 c→ab aG h1 h'→Q .ret e' h')
  (ot: ∀e' h',aC [62,63,64,12,65,66,67,13,68,69,70,71,61,2] e e'→ab aG h1 h'→(∀x∈xs,tP ai x)→Q (.exit 6) e' h'):
  az FF (.loop gu) e h1 Q:=by
 have hLl:=SliceR.len hL
 refine az.loop (QD h h1 e ai xs) ?_ (n:=xs.length) ⟨0,rfl,by omega,aC.refl _ _,f61,.refl g1.ok,fun p hp=>by simp at hp⟩
 rintro m e' h2 ⟨j,rfl,hj,K,q61,g2,hE⟩
 have gg2:=g1.trans g2
 unfold gu
 have q1:=K.at (by decide) f1
 have q59:=K.at (by decide) f59
 have q60:=K.at (by decide) f60
 by_cases hjl:j<xs.length
 ·have hx:xs[j]? =some xs[j]:=aQ hjl
  have hm:=List.getElem_mem hjl
  generalize xs[j]=x at hx hm
  obtain⟨bb,off,c,hLa,_,_,⟨W,rfl,sW⟩,_,hrd⟩:=SliceR.later ok hL hx
  have r0:=hrd h2 gg2 0 8 (by decide)
  simp[ay,-ag] at r0
  have wj:=wrap_i64 (j+1) (by omega) (by omega)
  have hC2:=g2.get g1.ok hC1 (fun h=>h)
  have oC2:=g2.ok.bl hC2
  simp only[aF] at hC2
  simp at q59
  rw[hLa,hLl] at q59
  simp[q1,q59,q60,q61,hjl,r0,-ag,aq,bg,aL,oC2,aw hC2]
  refine aD.cut (fun h3=>ab aG h2 h3) ?_ ?_
  ·exact(ab.refl g2.ok).var _ _
  rintro h3 g3
  have gg3:=gg2.trans g3
  have g13:=g2.trans g3
  refine aD.call (V:=pX (fun c=>c=0→tP ai x) h3) ?_ ?_
  ·have E:=JW (gs:=gs) (fs:=fs) (name:=name) (params:=params) (ai:=ai) (blocks:=B) (ah:=AH) gg3.ok hr (hF.mono ok gg3 fun _ _ r=>r.mono ok gg3) hfl (x:=x) (sW.mono ok gg3 fun _ _ h=>h) (by have:=sm x hm;omega)
   simpa [aF,ay] using E
  rintro _ h4 ⟨g4,c,rfl,hc⟩
  have g14:=g13.trans g4
  by_cases he:c=0
  ·subst he
   simp[q61,wj]
   refine⟨xs.length-(j+1),by omega,j+1,rfl,by omega,?_,by simp,g14,?_⟩
   ·repeat (refine aC.set (by decide) ?_)
    exact K
   ·intro p hp
    rw[List.take_add_one,hx] at hp
    rcases List.mem_append.1 hp with h|h
    ·exact hE p h
    ·simp at h;rw[h];exact hc rfl
  ·have:=nq he
   simp[this]
   exact bad c _ _ he (by simp) g14
 ·have:j=xs.length:=by omega
  subst this
  rw[List.take_length] at hE
  simp[q60,q61]
  exact ot _ _ (K.set (by decide)) g2 hE
end
section
variable {gs fs blocks ah:SV} {name:ByteArray} {params ai:Int}
def BlI (h h1:ae) (C:Nat) (B:SV) (ai:Int) (bs:List GB) (xss:List (List Int)) (m:Nat) (e:Env) (h2:ae):Prop:=
 ∃j:Nat,m=bs.length-j∧j≤bs.length∧Env.get e 1= .pointer (some ⟨C,0,none⟩)∧Env.get e 36=B.v∧Env.get e 37= .int .i64 bs.length∧Env.get e 38= .int .i64 j∧ab aG h1 h2∧Fo ai xss (bs.take j)
theorem Dc {h h1:ae} (ok:bh h) (hr:0≤ai∧ai<1000000) {B AH:SV} {bs:List GB} {xss:List (List Int)} (hxl:xss.length=bs.length) (hA:SliceR (KO h1) 1 h1 AH.v xss) {funcs:List GF} (hF:SliceR (fR h) 4 h fs.v funcs) (hfl:funcs.length<1000000∧ ∀f∈funcs,f.params≤6) (hB:wB h B bs) (hl:bs.length≤1000) (sm: ∀b∈bs,qF b) (g1:ab aG h h1)
  {C sC:Nat} (hC1:h1.tr.get C=some (.aA (aF gs fs name params ai B AH) false 0 sC)) {e:Env} {Q:aO→Env→ae→Prop} (f1:Env.get e 1= .pointer (some ⟨C,0,none⟩)) (f36:Env.get e 36=B.v) (f37:Env.get e 37= .int .i64 bs.length) (f38:Env.get e 38= .int .i64 0)
  (bad: ∀c e' h',c≠0→Env.get e' 2= .int .i64 c→ab aG h1 h'→Q .ret e' h')
  (ot: ∀e' h',ab aG h1 h'→Fo ai xss bs→Q (.exit 2) e' h'):
  az FF (.loop gq) e h1 Q:=by
 have hBl:=SliceR.len hB
 refine az.loop (BlI h h1 C B ai bs xss) ?_ (n:=bs.length) ⟨0,rfl,by omega,f1,f36,f37,f38,.refl g1.ok,fun i b hb=>by simp at hb⟩
 rintro m e h2 ⟨j,rfl,hj,f1,f36,f37,f38,g2,hE⟩
 have gg2:=g1.trans g2
 unfold gq
 by_cases hjl:j<bs.length
 ·have hx:bs[j]? =some bs[j]:=aQ hjl
  have hm:=List.getElem_mem hjl
  generalize bs[j]=x at hx hm
  obtain⟨bb,off,c,hBa,_,_,⟨P,L,T,rfl,sP,sL,sT⟩,_,hrd⟩:=SliceR.later ok hB hx
  have r0:=hrd h2 gg2 0 6 (by decide)
  simp[-ag] at r0
  have wj:=wrap_i64 (j+1) (by omega) (by omega)
  have hPl:=SliceR.len sP
  have hLl:=SliceR.len sL
  have f36':=f36
  simp at f36'
  rw[hBa,hBl] at f36'
  obtain⟨l,hil⟩: ∃l,xss[j]? =some l:=⟨_,aQ (by omega)⟩
  simp[f36',f37,f38,hjl,r0,-ag,aq,bg,aL]
  refine az.cut (fun h3=>ab aG h2 h3∧ ∃s,h3.tr.get h2.next=some (.aA [P.v,L.v,.int .i64 x.kind,.bool x.on.1,.int .i64 x.on.2,T.v] false 0 s)) ?_ ?_
  ·exact⟨(ab.refl g2.ok).var _ _,h2.clock,by simp⟩
  rintro h3 ⟨g3,s3,hY3⟩
  have gg3:=gg2.trans g3
  have g13:=g2.trans g3
  refine Hl (C:=C) gg3.ok hr hil (hA.mono g1.ok g13 fun _ _ r=>r.mono g1.ok g13) (sP.mono ok gg3 fun _ _ r=>r.mono ok gg3) (sm x hm).ph (sm x hm).row (.refl gg3.ok) (g13.get g1.ok hC1 (fun h=>h)) (by simp[f1]) (by simp) (by simp) (by simp[hPl]) (by simp) ?_ ?_
  ·intro c e' h' hc q g'
   simp[q]
   exact bad c _ _ hc q (g13.trans g')
  ·intro e4 h4 K4 g4 hph
   have g14:=g13.trans g4
   have gg4:=g1.trans g14
   have q7:=K4.at (t:=7) (v:= .pointer (some ⟨h2.next,0,none⟩)) (by decide) (by simp)
   have q1:=K4.at (t:=1) (v:= .pointer (some ⟨C,0,none⟩)) (by decide) (by simp[f1])
   have q36:=K4.at (t:=36) (v:=B.v) (by decide) (by simp;exact f36)
   have q37:=K4.at (t:=37) (v:= .int .i64 bs.length) (by decide) (by simp[f37])
   have q38:=K4.at (t:=38) (v:= .int .i64 j) (by decide) (by simp[f38])
   have hY4:=g4.get gg3.ok hY3 (fun h=>h)
   simp at hY4
   simp[q7,hY4]
   refine Ha (C:=C) gg4.ok hr (hF.mono ok gg4 fun _ _ r=>r.mono ok gg4) hfl (sL.mono ok gg4 fun _ _ r=>r.mono ok gg4) (sm x hm).li (sm x hm).args (.refl gg4.ok) (g14.get g1.ok hC1 (fun h=>h)) (by simp[q1]) (by simp) (by simp[hLl]) (by simp) ?_ ?_
   ·intro c e' h' hc q g'
    simp[q]
    exact bad c _ _ hc q (g14.trans g')
   ·intro e5 h5 K5 g5 hli
    have u1:=K5.at (t:=1) (v:= .pointer (some ⟨C,0,none⟩)) (by decide) (by simp[q1])
    have u36:=K5.at (t:=36) (v:=B.v) (by decide) (by simp;simpa using q36)
    have u37:=K5.at (t:=37) (v:= .int .i64 bs.length) (by decide) (by simp[q37])
    have u38:=K5.at (t:=38) (v:= .int .i64 j) (by decide) (by simp[q38])
    simp[u38,wj]
    refine⟨bs.length-(j+1),by omega,j+1,rfl,by omega,by simp[u1],by simp;simpa using u36,by simp[u37],by simp,g14.trans g5,?_⟩
    intro i b hb
    rw[List.take_add_one,hx] at hb
    by_cases hi:i<j
    ·rw[List.getElem?_append_left (by simp;omega)] at hb
     exact hE i b hb
    ·rw[List.getElem?_append_right (by simp;omega)] at hb
     have hij:i=j:=by
      have:=(bY.mp hb).1
      simp at this
      omega
     subst hij
     simp at hb
     have:i-min i bs.length=0:=by omega
     rw[this] at hb
     simp at hb
     subst hb
     exact⟨fun p hp=>⟨(hph p hp).1,l,hil,(hph p hp).2⟩,hli⟩
 ·have:j=bs.length:=by omega
  subst this
  rw[List.take_length] at hE
  simp[f37,f38]
  exact ot _ _ g2 hE
structure wC (ai:Int) (bs:List GB):Prop where
 ends:se bs.length ai bs
 Bm:Fo ai (Edge.bm (aX bs)) bs
theorem Is {h:ae} (ok:bh h) (hw:xx h) (hr:0≤ai∧ai<1000000) {B:SV} {bs:List GB} {funcs:List GF} (hF:SliceR (fR h) 4 h fs.v funcs) (hfl:funcs.length<1000000∧ ∀f∈funcs,f.params≤6) (hB:wB h B bs) (hl:bs.length≤1000) (sm: ∀b∈bs,qF b):
  aE FF mw [.agg ⟨aF gs fs name params ai B ah⟩] h (pX (fun c=>c=0→wC ai bs) h):=by
 have hBl:=SliceR.len hB
 refine aE.of tD ?_
 unfold mz
 simp[aF,hBl]
 refine az.cut (fun h1=>ab aG h h1∧h1.tr.get h.next=some (.aA (aF gs fs name params ai B ah) false 0 0)) ?_ ?_
 ·exact⟨(ab.refl ok).new _ _,by simp[aF,hBl]⟩
 rintro h1 ⟨g1,hC1⟩
 refine Iv ok hw hr hB hl sm g1 hC1 (by simp) (by simp[hBl]) (by simp) (by simp) ?_ ?_
 ·intro c e' h' hc q g'
  simp[q]
  exact⟨g',c,rfl,fun h=>absurd h hc⟩
 ·intro e2 h2 q1 g2 hC2 hE
  have hC2':=hC2
  simp[aF] at hC2'
  simp[q1,hC2']
  have A:=CX g2.ok (name:=name) (p:=params) (r:=ai) (hB.mono ok g2) (hE.ends hl)
  refine aD.call (V:=fun v h'=>ab aG h2 h'∧ ∃d ws,v= .slice (some ⟨d,0,none⟩) bs.length bs.length∧jx aY h2.next h' d ws (Edge.bm (aX bs))) (by simpa [ak] using A) ?_
  rintro _ h3 ⟨g3,d,ws,rfl,w3⟩
  have gg3:=g2.trans g3
  have hC3:=g3.get g2.ok hC2 (fun h=>h)
  have hC3':=hC3
  simp[aF] at hC3'
  simp[q1,hC3']
  have hxl:(Edge.bm (aX bs)).length=bs.length:=by rw[Edge.eA];simp[aX]
  have oC3:=(g2.ok.bl hC2).lt
  refine az.cut (fun h4=>ab aG h h4∧SliceR (KO h4) 1 h4 (SV.v ⟨some ⟨d,0,none⟩,bs.length,bs.length⟩) (Edge.bm (aX bs))∧ ∃s,h4.tr.get h.next=some (.aA (aF gs fs name params ai B ⟨some ⟨d,0,none⟩,bs.length,bs.length⟩) false 0 s)) ?_ ?_
  ·have gp:ab (· =h.next) h3 (put h3 h.next 6 [.slice gs.a gs.l gs.c,.slice fs.a fs.l fs.c,.string name,.int .i64 params,.int .i64 ai,.slice B.a B.l B.c,.slice ah.a ah.l ah.c] [.slice (some ⟨d,0,none⟩) bs.length bs.length] 0):=aJ gg3.ok hC3'
   refine⟨gg3.put ⟨_,hC3'⟩ (.inl (Nat.le_refl _)),?_,h3.clock,by simp[aF]⟩
   have w4:=w3.grow gg3.ok gp (fun b hb e=>by omega)
   have:=Gz (c:=bs.length) w4
   rw[hxl] at this
   simpa using this
  rintro h4 ⟨g4,hA4,s4,hC4⟩
  refine Dc (AH:=⟨some ⟨d,0,none⟩,bs.length,bs.length⟩) ok hr hxl hA4 hF hfl hB hl sm g4 hC4 (by simp[q1]) (by simp) (by simp[hBl]) (by simp) ?_ ?_
  ·intro c e' h' hc q g'
   simp[q]
   exact⟨g4.trans g',c,rfl,fun h=>absurd h hc⟩
  ·intro e' h' g' hb
   simp
   exact⟨g4.trans g',0,rfl,fun _=>⟨hE,hb⟩⟩
end
def Ov (h:ae) (s:ByteArray) (m:Nat) (e:Env) (h2:ae):Prop:= ∃j:Nat,m=s.size-j∧Env.get e 0= .string s∧Env.get e 14= .int .i64 s.size∧Env.get e 15= .int .i64 j∧h2=h∧j≤s.size
theorem Bb (h:ae) (s:ByteArray):aE FF xh [.string s] h (fun v h'=>h'=h∧ ∃b:Bool,v= .bool b):=by
 refine aE.of Dm ?_
 unfold xp
 by_cases h1:s.size<1
 ·have h1':(s.size:Int)<1:=by omega
  simp[h1']
 have h1': ¬(s.size:Int)<1:=by omega
 by_cases h2:12<s.size
 ·have h2':(12:Int)<s.size:=by omega
  simp[h1',h2']
 have h2': ¬(12:Int)<s.size:=by omega
 simp[h1',h2']
 refine az.loop (Ov h s) ?_ (n:=s.size)
  ⟨0,rfl,by simp,by simp,by simp,rfl,by omega⟩
 rintro m e h3 ⟨j,rfl,f0,f14,f15,rfl,hj⟩
 unfold tY
 by_cases hjl:j<s.size
 ·have wj:=wrap_i64 (j+1) (by omega) (by omega)
  obtain⟨c,hc⟩: ∃c:Int,((s[j]'hjl).toNat:Int)=c:=⟨_,rfl⟩
  by_cases k1:97≤c
  ·by_cases k2:c≤122
   ·have k3: ¬122<c:=by omega
    have k4: ¬c<97:=by omega
    simp[f0,f14,f15,hjl,hc,k1,k2,k3,k4,wj]
    exact⟨s.size-(j+1),by omega,j+1,rfl,by simp[f0],by simp[f14],by simp,rfl,by omega⟩
   ·have k3:122<c:=by omega
    have k4: ¬c<97:=by omega
    by_cases q1:65≤c
    ·by_cases q2:c≤90
     ·have q3: ¬90<c:=by omega
      have q4: ¬c<65:=by omega
      simp[f0,f14,f15,hjl,hc,k1,k2,k3,k4,q1,q2,q3,q4,wj]
      exact⟨s.size-(j+1),by omega,j+1,rfl,by simp[f0],by simp[f14],by simp,rfl,by omega⟩
     ·have q3:90<c:=by omega
      have q4: ¬c<65:=by omega
      by_cases u1:c=95
      ·have u2:(c==95)=true:=by simpa using u1
       simp[f0,f14,f15,hjl,hc,k1,k2,k3,k4,q1,q2,q3,q4,u2,wj]
       exact⟨s.size-(j+1),by omega,j+1,rfl,by simp[f0],by simp[f14],by simp,rfl,by omega⟩
      ·have u2:(c==95)=false:=by simpa using u1
       by_cases d1:0<j
       ·have d2: ¬(j=0):=by omega
        by_cases p1:48≤c
        ·by_cases p2:c≤57
         ·have p3: ¬57<c:=by omega
          have p4: ¬c<48:=by omega
          simp[f0,f14,f15,hjl,hc,k1,k2,k3,k4,q1,q2,q3,q4,u2,d1,d2,p1,p2,p3,p4,wj]
          exact⟨s.size-(j+1),by omega,j+1,rfl,by simp[f0],by simp[f14],by simp,rfl,by omega⟩
         ·have p3:57<c:=by omega
          have p4: ¬c<48:=by omega
          simp[f0,f14,f15,hjl,hc,k1,k2,k3,k4,q1,q2,q3,q4,u2,d1,d2,p1,p2,p3,p4]
        ·have p2:c<48:=by omega
         simp[f0,f14,f15,hjl,hc,k1,k2,k3,k4,q1,q2,q3,q4,u2,d1,d2,p1,p2]
       ·have d2:j=0:=by omega
        subst d2
        simp[f0,f14,f15,hjl,hc,k1,k2,k3,k4,q1,q2,q3,q4,u2]
    ·have q2:c<65:=by omega
     by_cases u1:c=95
     ·have u2:(c==95)=true:=by simpa using u1
      simp[f0,f14,f15,hjl,hc,k1,k2,k3,k4,q1,q2,u2,wj]
      exact⟨s.size-(j+1),by omega,j+1,rfl,by simp[f0],by simp[f14],by simp,rfl,by omega⟩
     ·have u2:(c==95)=false:=by simpa using u1
      by_cases d1:0<j
      ·have d2: ¬(j=0):=by omega
       by_cases p1:48≤c
       ·by_cases p2:c≤57
        ·have p3: ¬57<c:=by omega
         have p4: ¬c<48:=by omega
         simp[f0,f14,f15,hjl,hc,k1,k2,k3,k4,q1,q2,u2,d1,d2,p1,p2,p3,p4,wj]
         exact⟨s.size-(j+1),by omega,j+1,rfl,by simp[f0],by simp[f14],by simp,rfl,by omega⟩
        ·have p3:57<c:=by omega
         have p4: ¬c<48:=by omega
         simp[f0,f14,f15,hjl,hc,k1,k2,k3,k4,q1,q2,u2,d1,d2,p1,p2,p3,p4]
       ·have p2:c<48:=by omega
        simp[f0,f14,f15,hjl,hc,k1,k2,k3,k4,q1,q2,u2,d1,d2,p1,p2]
      ·have d2:j=0:=by omega
       subst d2
       simp[f0,f14,f15,hjl,hc,k1,k2,k3,k4,q1,q2,u2]
  ·have k2:c<97:=by omega
   by_cases q1:65≤c
   ·by_cases q2:c≤90
    ·have q3: ¬90<c:=by omega
     have q4: ¬c<65:=by omega
     simp[f0,f14,f15,hjl,hc,k1,k2,q1,q2,q3,q4,wj]
     exact⟨s.size-(j+1),by omega,j+1,rfl,by simp[f0],by simp[f14],by simp,rfl,by omega⟩
    ·have q3:90<c:=by omega
     have q4: ¬c<65:=by omega
     by_cases u1:c=95
     ·have u2:(c==95)=true:=by simpa using u1
      simp[f0,f14,f15,hjl,hc,k1,k2,q1,q2,q3,q4,u2,wj]
      exact⟨s.size-(j+1),by omega,j+1,rfl,by simp[f0],by simp[f14],by simp,rfl,by omega⟩
     ·have u2:(c==95)=false:=by simpa using u1
      by_cases d1:0<j
      ·have d2: ¬(j=0):=by omega
       by_cases p1:48≤c
       ·by_cases p2:c≤57
        ·have p3: ¬57<c:=by omega
         have p4: ¬c<48:=by omega
         simp[f0,f14,f15,hjl,hc,k1,k2,q1,q2,q3,q4,u2,d1,d2,p1,p2,p3,p4,wj]
         exact⟨s.size-(j+1),by omega,j+1,rfl,by simp[f0],by simp[f14],by simp,rfl,by omega⟩
        ·have p3:57<c:=by omega
         have p4: ¬c<48:=by omega
         simp[f0,f14,f15,hjl,hc,k1,k2,q1,q2,q3,q4,u2,d1,d2,p1,p2,p3,p4]
       ·have p2:c<48:=by omega
        simp[f0,f14,f15,hjl,hc,k1,k2,q1,q2,q3,q4,u2,d1,d2,p1,p2]
      ·have d2:j=0:=by omega
       subst d2
       simp[f0,f14,f15,hjl,hc,k1,k2,q1,q2,q3,q4,u2]
   ·have q2:c<65:=by omega
    by_cases u1:c=95
    ·have u2:(c==95)=true:=by simpa using u1
     simp[f0,f14,f15,hjl,hc,k1,k2,q1,q2,u2,wj]
     exact⟨s.size-(j+1),by omega,j+1,rfl,by simp[f0],by simp[f14],by simp,rfl,by omega⟩
    ·have u2:(c==95)=false:=by simpa using u1
     by_cases d1:0<j
     ·have d2: ¬(j=0):=by omega
      by_cases p1:48≤c
      ·by_cases p2:c≤57
       ·have p3: ¬57<c:=by omega
        have p4: ¬c<48:=by omega
        simp[f0,f14,f15,hjl,hc,k1,k2,q1,q2,u2,d1,d2,p1,p2,p3,p4,wj]
        exact⟨s.size-(j+1),by omega,j+1,rfl,by simp[f0],by simp[f14],by simp,rfl,by omega⟩
       ·have p3:57<c:=by omega
        have p4: ¬c<48:=by omega
        simp[f0,f14,f15,hjl,hc,k1,k2,q1,q2,u2,d1,d2,p1,p2,p3,p4]
      ·have p2:c<48:=by omega
       simp[f0,f14,f15,hjl,hc,k1,k2,q1,q2,u2,d1,d2,p1,p2]
     ·have d2:j=0:=by omega
      subst d2
      simp[f0,f14,f15,hjl,hc,k1,k2,q1,q2,u2]
 ·have:j=s.size:=by omega
  subst this
  simp[f14,f15]
def px:Enc ByteArray:=⟨fun x=>[.string x],1,fun _=>rfl,by decide,fun _=>rfl⟩
@[simp] theorem NJ:px.sz=1:=rfl
@[simp] theorem MT (x:ByteArray):px.enc x=[.string x]:=rfl
theorem zW {h:ae} {v:Value} {xs:List ByteArray} (s:aS px h v xs) (hl:xs.length<1000000) (x:ByteArray):
  aE FF gi [v,.string x] h (fun v h'=>h'=h∧ ∃i:Int,v= .int .i64 i):=by
 obtain⟨a,cap,rfl,_⟩:=id s
 refine aE.of mg ?_
 unfold gk
 simp
 refine az.loop (fun m e h2=> ∃j:Nat,m=xs.length-j∧j≤xs.length∧Env.get e 0= .slice a xs.length cap∧Env.get e 1= .string x∧Env.get e 7= .int .i64 xs.length∧Env.get e 8= .int .i64 j∧h2=h) ?_ (n:=xs.length)
  ⟨0,rfl,by omega,by simp,by simp,by simp,by simp,rfl⟩
 rintro m e h2 ⟨j,rfl,hj,f0,f1,f7,f8,rfl⟩
 unfold fD
 by_cases hjl:j<xs.length
 ·have hx:xs[j]? =some xs[j]:=aQ hjl
  generalize xs[j]=y at hx
  obtain⟨b,off,c,hv,_,_,hrd⟩:=s.read hx
  have r0:=hrd 0 1 (by decide)
  cases hv
  simp[-ag] at r0
  obtain⟨j',hj'⟩: ∃j',j'=j+1:=⟨_,rfl⟩
  have wj:IntKind.i64.wrap ((j:Int)+1)=(j':Int):=by rw[wrap_i64 _ (by omega) (by omega)];omega
  cases hxy:(x==y) with
  |true=>simp[f0,f1,f7,f8,hjl,r0,hxy,-ag]
  |false=>
   simp[f0,f1,f7,f8,hjl,r0,hxy,wj,-ag]
   exact⟨xs.length-j',by omega,j',rfl,by omega,rfl⟩
 ·have:j=xs.length:=by omega
  subst this
  simp[f7,f8]
theorem qe {h:ae} {v:Value} {xs:List ByteArray} (s:aS px h v xs) (hl:xs.length<1000000) (x:ByteArray):
  aE FF fu [v,.string x] h (fun v h'=>h'=h∧ ∃b:Bool,v= .bool b):=by
 refine aE.of kl ?_
 unfold ft
 simp
 refine aD.call (by simpa using zW s hl x) ?_
 rintro _ h2 ⟨rfl,i,rfl⟩
 by_cases h0:0≤i
 ·simp[h0]
 ·have h0':i<0:=by omega
  simp[h0,h0']
structure ui (f:GF):Prop where
 params:0≤f.params∧f.params≤6
 ai:f.params≤f.ai∧f.ai≤100
 blocks:1≤f.blocks.length∧f.blocks.length≤40
 many:eQ f.blocks≤300
section
variable {gs fs ah:SV}
def N8 (h:ae) (gs fs B ah:SV) (f:GF) (v:Value) (m:Nat) (e:Env) (h2:ae):Prop:=
 ∃j:Nat,m=f.blocks.length-j∧j≤f.blocks.length∧Env.get e 1=v∧Env.get e 2= .pointer (some ⟨h.next,0,none⟩)∧Env.get e 5= .int .i64 (IntKind.i64.wrap (eQ (f.blocks.take j):Int))∧Env.get e 10=B.v∧Env.get e 11= .int .i64 f.blocks.length∧Env.get e 12= .int .i64 j∧ab aG h h2∧h2.tr.get h.next=some (.aA (aF gs fs f.name f.params f.ai B ah) false 0 0)
theorem H_ {h:ae} (ok:bh h) {f:GF} {B:SV} (hB:wB h B f.blocks) (hm:Fits f.blocks) {v:Value} {xs:List ByteArray} (s:aS px h v xs) (hl:xs.length<1000000):
  aE FF mD [.agg ⟨aF gs fs f.name f.params f.ai B ah⟩,v] h (pX (fun c=>c=0→ui f) h):=by
 have hBl:=SliceR.len hB
 refine aE.of tz ?_
 unfold mB
 simp[aF,hBl]
 refine az.cut (fun h1=>ab aG h h1∧h1.tr.get h.next=some (.aA (aF gs fs f.name f.params f.ai B ah) false 0 0)) ?_ ?_
 ·exact⟨(ab.refl ok).new _ _,by simp[aF,hBl]⟩
 rintro h1 ⟨g1,hC1⟩
 refine az.loop (N8 h gs fs B ah f v) ?_ (n:=f.blocks.length) ⟨0,rfl,by omega,by simp,by simp,by simp[eQ,wrap_i64],by simp[hBl],by simp,by simp,g1,hC1⟩
 rintro m e h2 ⟨j,rfl,hj,f1,f2,f5,f10,f11,f12,g2,hC2⟩
 unfold ku
 by_cases hjl:j<f.blocks.length
 ·have hx:f.blocks[j]? =some f.blocks[j]:=aQ hjl
  generalize f.blocks[j]=x at hx
  obtain⟨bb,off,c,hBa,_,_,⟨P,L,T,rfl,sP,sL,sT⟩,_,hrd⟩:=SliceR.later ok hB hx
  have r0:=hrd h2 g2 0 6 (by decide)
  simp[-ag] at r0
  have hPl:=SliceR.len sP
  have hLl:=SliceR.len sL
  have hle:=zm hx
  have hf:=hm.2 x (di hx)
  have hf1:=hm.1
  have wj:=wrap_i64 (j+1) (by omega) (by omega)
  have w1:IntKind.i64.wrap ((x.dY.length:Int)+(x.list.length:Int))=(x.dY.length:Int)+(x.list.length:Int):=wrap_i64 _ (by omega) (by omega)
  have w2:IntKind.i64.wrap (IntKind.i64.wrap (eQ (f.blocks.take j):Int)+((x.dY.length:Int)+(x.list.length:Int)))=IntKind.i64.wrap ((eQ (f.blocks.take (j+1)):Nat):Int):=by rw[wrap_add,hle];congr 1
  have f10':=f10
  simp at f10'
  rw[hBa,hBl] at f10'
  simp[f1,f2,f5,f10',f11,f12,hjl,r0,-ag,aq,hPl,hLl,w1,w2,wj]
  refine⟨f.blocks.length-(j+1),by omega,j+1,rfl,by omega,by simp[f1],by simp[f2],by simp,by simp;simpa using f10,by simp[f11],by simp,g2.var _ _,?_⟩
  have oC2:=g2.ok.bl hC2
  simpa [oC2] using hC2
 ·have:j=f.blocks.length:=by omega
  subst this
  rw[List.take_length] at f5
  have hC2':=hC2
  simp[aF] at hC2'
  simp[f11,f12,f2,hC2']
  refine aD.call (V:=fun v h'=>h'=h2∧ ∃b:Bool,v= .bool b) (by simpa using Bb h2 f.name) ?_
  rintro _ h2' ⟨eh,b,rfl⟩
  rw[eh]
  cases b with
  |false=>
   simp
   exact⟨g2,12,rfl,fun h=>by cases h⟩
  |true=>
   simp[f1,f2,hC2']
   refine aD.call (V:=fun v h'=>h'=h2∧ ∃b:Bool,v= .bool b) (by simpa [f1] using qe (s.aW ok g2) hl f.name) ?_
   rintro _ h2'' ⟨eh',b,rfl⟩
   rw[eh']
   cases b with
   |true=>
    simp
    exact⟨g2,7,rfl,fun h=>by cases h⟩
   |false=>
    simp[f2,hC2']
    refine aD.call (by simpa using df h2 f.params 0 6) ?_
    rintro _ h3 ⟨rfl,eh3⟩
    rw[eh3]
    by_cases hp:0≤f.params∧f.params≤6
    ·have hd:(decide (0≤f.params)&&decide (f.params≤6))=true:=by simpa using hp
     rw[hd]
     simp[f2,hC2']
     refine aD.call (by simpa using df h2 f.ai f.params 100) ?_
     rintro _ h4 ⟨rfl,eh4⟩
     rw[eh4]
     by_cases hr:f.params≤f.ai∧f.ai≤100
     ·have hd2:(decide (f.params≤f.ai)&&decide (f.ai≤100))=true:=by simpa using hr
      rw[hd2]
      simp[f2,hC2']
      refine aD.call (by simpa [hBl] using df h2 (f.blocks.length:Int) 1 40) ?_
      rintro _ h5 ⟨rfl,eh5⟩
      rw[eh5]
      by_cases hb:(1:Int)≤f.blocks.length∧(f.blocks.length:Int)≤40
      ·have hd3:(decide ((1:Int)≤f.blocks.length)&&decide ((f.blocks.length:Int)≤40))=true:=by simpa using hb
       rw[hd3]
       rw[Ag hm (by omega)] at f5
       by_cases hmm:(300:Int)<eQ f.blocks
       ·simp[f5,hmm]
        exact⟨g2,2,rfl,fun h=>by cases h⟩
       ·simp[f5,hmm]
        exact⟨g2,0,rfl,fun _=>⟨hp,hr,by omega,by omega⟩⟩
      ·have hd3:(decide ((1:Int)≤f.blocks.length)&&decide ((f.blocks.length:Int)≤40))=false:=by simpa using hb
       rw[hd3]
       simp
       exact⟨g2,2,rfl,fun h=>by cases h⟩
     ·have hd2:(decide (f.params≤f.ai)&&decide (f.ai≤100))=false:=by simpa using hr
      rw[hd2]
      simp
      exact⟨g2,3,rfl,fun h=>by cases h⟩
    ·have hd:(decide (0≤f.params)&&decide (f.params≤6))=false:=by simpa using hp
     rw[hd]
     simp
     exact⟨g2,3,rfl,fun h=>by cases h⟩
end
def yq:aj:=(.block 2 (.seq (.ops [f_ 37 0 6,l_ 38 37,F_ 39 30 [t_ 38],o_ 40 (.un .not (t_ 39)),m_ 36 40]) (.cond (t_ 36) (.ops [k_ 7 12]) (.seq (.ops [m_ 42 3,f_ 43 0 6,l_ 44 43,F_ 45 31 [t_ 42,t_ 44],m_ 41 45]) (.cond (t_ 41) (.ops [k_ 7 7]) (.seq (.ops [f_ 47 1 6,l_ 48 47,F_ 49 32 [t_ 48,(i_ 1),(i_ 200)],o_ 50 (.un .not (t_ 49)),m_ 46 50]) (.cond (t_ 46) (.ops [k_ 7 3]) (.seq (.ops [f_ 52 2 6,l_ 53 52,z_ 54 53,f_ 55 1 6,l_ 56 55,B_ 57 .gtr 54 56,m_ 51 57]) (.cond (t_ 51) (.ops [k_ 7 9]) (.seq (.ops [m_ 59 4,f_ 60 1 6,l_ 61 60,B_ 62 .add 59 61,C_ 63 .gtr 62 200,m_ 58 63]) (.cond (t_ 58) (.ops [k_ 7 10]) .skip)))))))))))
def IM:aj:=(.seq (.seq (.ops [m_ 64 7,o_ 65 (.bin .neq [1] (t_ 64) (i_ 0))]) (.cond (t_ 65) (.seq (.ops [m_ 66 7,m_ 67 5,F_ 68 17 [t_ 66,t_ 67],s_ 2 2 68]) .ret) .skip)) (.seq (.ops [m_ 69 3,f_ 70 0 6,l_ 71 70,⟨(some 72),none,(.ct 1 [(.string ⟨⟨[]⟩⟩)] [(0,(1,(t_ 71)))])⟩,⟨(some 73),none,(.append [(.string ⟨⟨[]⟩⟩)] 16 false (t_ 69) (t_ 72))⟩,m_ 3 73]) (.ops [m_ 74 4,f_ 75 1 6,l_ 76 75,B_ 77 .add 74 76,m_ 4 77])))
theorem JP:n6=(.seq (.ops [B_ 32 .lss 31 30]) (.seq (.cond (t_ 32) .skip (.exit 0)) (.seq (.block 1 (.seq (.ops [m_ 33 31,a_ 34 3 29 31,L_ 35 3 34,⟨(some 6),none,(.alloc [(.string ⟨⟨[]⟩⟩),(.int .i64 0),(.slice none 0 0)])⟩,m_ 5 33,s_ 3 6 35]) (.seq (.ops [k_ 7 0]) (.seq yq IM)))) (.ops [C_ 78 .add 31 1,m_ 31 78])))):=rfl
theorem HY {h:ae} (ok:bh h) {X sX:Nat} {g:GG} {I:SV} (hX:h.tr.get X=some (.aA [.string g.name,.int .i64 g.size,I.v] false 0 sX)) (hI:I.l=g.init.length) (hil:g.init.length≤140737488355328) {v:Value} {xs:List ByteArray} (s:aS px h v xs) (hl:xs.length<1000000) {W:Int} (hW:0≤W∧W≤200)
  {e:Env} {Q:aO→Env→ae→Prop} (f3:Env.get e 3=v) (f4:Env.get e 4= .int .i64 W) (f6:Env.get e 6= .pointer (some ⟨X,0,none⟩)) (f7:Env.get e 7= .int .i64 0)
  (H: ∀c e',aC [37,38,39,40,36,7,42,43,44,45,41,47,48,49,50,46,52,53,54,55,56,57,51,59,60,61,62,63,58] e e'→Env.get e' 7= .int .i64 c→(c=0→1≤g.size∧(g.size≤200∧(g.init.length:Int)≤g.size)∧W+g.size≤200)→Q .normal e' h):az FF yq e h Q:=by
 unfold yq
 simp at hX
 simp[f6,hX]
 refine aD.call (V:=fun v h'=>h'=h∧ ∃b:Bool,v= .bool b) (by simpa using Bb h g.name) ?_
 rintro _ h2 ⟨eh,b,rfl⟩
 rw[eh]
 cases b with
 |false=>
  simp
  exact H 12 _ (by(repeat refine aC.set (by decide) ?_);exact aC.refl _ _) (by simp) (fun h=>by cases h)
 |true=>
  simp[f3,f6,hX]
  refine aD.call (V:=fun v h'=>h'=h∧ ∃b:Bool,v= .bool b) (by simpa [f3] using qe s hl g.name) ?_
  rintro _ h3 ⟨eh3,b,rfl⟩
  rw[eh3]
  cases b with
  |true=>
   simp
   exact H 7 _ (by(repeat refine aC.set (by decide) ?_);exact aC.refl _ _) (by simp) (fun h=>by cases h)
  |false=>
   simp[f6,hX]
   refine aD.call (by simpa using df h g.size 1 200) ?_
   rintro _ h4 ⟨rfl,eh4⟩
   rw[eh4]
   by_cases hp:1≤g.size∧g.size≤200
   ·have hd:(decide (1≤g.size)&&decide (g.size≤200))=true:=by simpa using hp
    rw[hd]
    by_cases hi:g.size<(I.l:Int)
    ·simp[f6,hX,hi]
     exact H 9 _ (by(repeat refine aC.set (by decide) ?_);exact aC.refl _ _) (by simp) (fun h=>by cases h)
    ·have ww:=wrap_i64 (W+g.size) (by omega) (by omega)
     by_cases hw:200<W+g.size
     ·simp[f4,f6,hX,hi,ww,hw]
      exact H 10 _ (by(repeat refine aC.set (by decide) ?_);exact aC.refl _ _) (by simp) (fun h=>by cases h)
     ·simp[f4,f6,hX,hi,ww,hw]
      exact H 0 _ (by(repeat refine aC.set (by decide) ?_);exact aC.refl _ _) (by simp[f7]) (fun _=>⟨hp.1,⟨hp.2,by omega⟩,by omega⟩)
   ·have hd:(decide (1≤g.size)&&decide (g.size≤200))=false:=by simpa using hp
    rw[hd]
    simp
    exact H 3 _ (by(repeat refine aC.set (by decide) ?_);exact aC.refl _ _) (by simp) (fun h=>by cases h)
structure Ek (h h2:ae) (G F:SV) (e:Env) (v:Value) (names:List ByteArray):Prop where
 f1:Env.get e 1= .pointer (some ⟨h.next,0,none⟩)
 f2:Env.get e 2= .pointer (some ⟨h.next+1,0,none⟩)
 f3:Env.get e 3=v
 g:ab aG h h2
 U:h2.tr.get h.next=some (.aA [G.v,F.v] false 0 0)
 R: ∃s,h2.tr.get (h.next+1)=some (.aA [.int .i64 0,.int .i64 0] false 0 s)
 names:cj px (h.next+2) h2 v names
theorem Ek.grow {h h2 h3:ae} {G F:SV} {e e':Env} {v:Value} {names:List ByteArray} (c:Ek h h2 G F e v names) (g:ab aG h2 h3) (k1:Env.get e' 1=Env.get e 1) (k2:Env.get e' 2=Env.get e 2) (k3:Env.get e' 3=Env.get e 3):Ek h h3 G F e' v names:=by
 obtain⟨s,hR⟩:=c.R
 exact⟨k1.trans c.f1,k2.trans c.f2,k3.trans c.f3,c.g.trans g,g.get c.g.ok c.U (fun h=>h),⟨s,g.get c.g.ok hR (fun h=>h)⟩,c.names.grow c.g.ok g (fun _ _ h=>h)⟩
def KX (h:ae) (Q:aO→Env→ae→Prop):Prop:= ∀(c a:Int) (e':Env) (h':ae),c≠0→ab aG h h'→(∃s,h'.tr.get (h.next+1)=some (.aA [.int .i64 c,.int .i64 a] false 0 s))→Env.get e' 2= .pointer (some ⟨h.next+1,0,none⟩)→Q .ret e' h'
theorem AB {h h2:ae} {G F:SV} {e:Env} {v:Value} {names:List ByteArray} (c:Ek h h2 G F e v names) (hl:names.length<1000000) (x:ByteArray):
  ∃v' h5,j6 (aH h2 [.string x] 0) [.string ⟨⟨[]⟩⟩] 16 false v (.slice (some ⟨h2.next,0,none⟩) 1 1)=some (v',h5)∧ab (av v) h2 h5∧ ∀e',Env.get e' 1=Env.get e 1→Env.get e' 2=Env.get e 2→Env.get e' 3=v'→Ek h h5 G F e' v' (names++[x]):=by
 have g4:=aI c.g.ok (px.enc x) 0
 have hA4:=c.names.grow c.g.ok g4 (fun _ _ h=>h)
 have hw4:aS px (aH h2 (px.enc x) 0) (.slice (some ⟨h2.next,0,none⟩) 1 1) [x]:=⟨_,_,rfl,.inr ⟨h2.next,0,_,_,_,_,rfl,bH _ _ _,by simp,by simp⟩⟩
 obtain⟨s,hR⟩:=c.R
 have hlt:=c.g.ok.wf _ _ hR
 obtain⟨v',h5,ha,hA5,g5,hd5⟩:=qn (bytes:=16) g4.ok (z:=[.string ⟨⟨[]⟩⟩]) rfl hA4 hw4 hl (by decide) (by show h.next+2≤h2.next+1;omega)
 have lo: ∀b,av v b→h.next+2≤b:=fun b hb=>c.names.of hb
 have ex:ab (av v) h2 h5:=g4.aW.trans g5
 have go:ab aG h h5:=c.g.trans' ex (fun _ _ h=>h) (fun b hb e=>by have:=lo b e;omega)
 refine⟨v',h5,ha,ex,fun e' k1 k2 k3=>⟨k1.trans c.f1,k2.trans c.f2,k3,go,ex.get c.g.ok c.U (fun e=>by have:=lo _ e;omega),⟨s,ex.get c.g.ok hR (fun e=>by have:=lo _ e;omega)⟩,hA5⟩⟩
theorem KH {h h2:ae} {G F:SV} {e:Env} {v:Value} {names:List ByteArray} {Q:aO→Env→ae→Prop} (c:Ek h h2 G F e v names) (bad:KX h Q) {cc:Int} (hc:cc≠0) (a:Int) {h3:ae} (g3:ab aG h2 h3) {e':Env} (k2:Env.get e' 2=Env.get e 2):
  (∃s,h3.tr.get (h.next+1)=some (.aA [.int .i64 0,.int .i64 0] false 0 s))∧ ∀h4,h4=put h3 (h.next+1) 0 [.int .i64 0,.int .i64 0] [.int .i64 cc,.int .i64 a] 0→Q .ret e' h4:=by
 obtain⟨s,hR⟩:=c.R
 have hR3:=g3.get c.g.ok hR (fun h=>h)
 refine⟨⟨s,hR3⟩,fun h4 e4=> ?_⟩
 subst e4
 refine bad cc a e' _ hc ((c.g.trans g3).put ⟨s,hR3⟩ (.inl (by omega))) ⟨h3.clock,by simp⟩ (k2.trans c.f2)
def GlI (h:ae) (G F:SV) (gl:List GG) (m:Nat) (e:Env) (h2:ae):Prop:=
 ∃(j:Nat) (v:Value) (W:Int),m=gl.length-j∧j≤gl.length∧Ek h h2 G F e v ((gl.take j).map (·.name))∧Env.get e 4= .int .i64 W∧0≤W∧W≤200∧Env.get e 29=G.v∧Env.get e 30= .int .i64 gl.length∧Env.get e 31= .int .i64 j∧ ∀g∈gl.take j,1≤g.size∧g.size≤200∧(g.init.length:Int)≤g.size
theorem zN {h h1:ae} (ok:bh h) {G F:SV} {gl:List GG} (hG:SliceR (gR h) 3 h G.v gl) (hl:gl.length≤10) (sm: ∀g∈gl,g.init.length≤140737488355328) {e:Env} {Q:aO→Env→ae→Prop} (c:Ek h h1 G F e (.slice none 0 0) []) (f4:Env.get e 4= .int .i64 0) (f29:Env.get e 29=G.v) (f30:Env.get e 30= .int .i64 gl.length) (f31:Env.get e 31= .int .i64 0)
  (bad:KX h Q) (ot: ∀e' h' v,Ek h h' G F e' v (gl.map (·.name))→(∀g∈gl,1≤g.size∧g.size≤200∧(g.init.length:Int)≤g.size)→Q (.exit 0) e' h'):az FF (.loop n6) e h1 Q:=by
 have hGl:=SliceR.len hG
 refine az.loop (GlI h G F gl) ?_ (n:=gl.length) ⟨0,_,0,rfl,by omega,by simpa using c,f4,by omega,by omega,f29,f30,f31,fun g hg=>by simp at hg⟩
 rintro m e h2 ⟨j,v,W,rfl,hj,c,f4,hW0,hW1,f29,f30,f31,hs⟩
 rw[JP]
 by_cases hjl:j<gl.length
 ·have hx:gl[j]? =some gl[j]:=aQ hjl
  have hm:=List.getElem_mem hjl
  generalize gl[j]=x at hx hm
  obtain⟨bb,off,cc,hGa,_,_,⟨I,rfl,sI⟩,_,hrd⟩:=SliceR.later ok hG hx
  have r0:=hrd h2 c.g 0 3 (by decide)
  simp[-ag] at r0
  have wj:=wrap_i64 (j+1) (by omega) (by omega)
  have f29':=f29
  simp at f29'
  rw[hGa,hGl] at f29'
  have hnl:((gl.take j).map (·.name)).length<1000000:=by simp;omega
  simp[f29',f30,f31,hjl,r0,-ag]
  refine az.cut (fun h3=>ab aG h2 h3∧ ∃s,h3.tr.get h2.next=some (.aA [.string x.name,.int .i64 x.size,I.v] false 0 s)) ?_ ?_
  ·exact⟨(ab.refl c.g.ok).var _ _,h2.clock,by simp⟩
  rintro h3 ⟨g3,s3,hX3⟩
  have gg3:=c.g.trans g3
  have hA3:=c.names.grow c.g.ok g3 (fun _ _ h=>h)
  refine HY gg3.ok hX3 (SliceR.len sI) (sm x hm) hA3.sl hnl ⟨hW0,hW1⟩ (by simp[c.f3]) (by simp[f4]) (by simp) (by simp) ?_
  intro cd e4 K q7 hcd
  have k1:=K.at (t:=1) (v:=Env.get e 1) (by decide) (by simp)
  have k2:=K.at (t:=2) (v:=Env.get e 2) (by decide) (by simp)
  have k3:=K.at (t:=3) (v:=Env.get e 3) (by decide) (by simp)
  have k4:=K.at (t:=4) (v:=Env.get e 4) (by decide) (by simp)
  have k5:=K.at (t:=5) (v:= .int .i64 j) (by decide) (by simp)
  have k6:=K.at (t:=6) (v:= .pointer (some ⟨h2.next,0,none⟩)) (by decide) (by simp)
  have k29:=K.at (t:=29) (v:=Env.get e 29) (by decide) (by simp[f29',f29])
  have k30:=K.at (t:=30) (v:=Env.get e 30) (by decide) (by simp)
  have k31:=K.at (t:=31) (v:=Env.get e 31) (by decide) (by simp)
  have c3:=c.grow (e':=e4) g3 k1 k2 k3
  unfold IM
  by_cases he:cd=0
  ·subst he
   obtain⟨w1,w2,w3⟩:=hcd rfl
   simp at hX3
   have ww:=wrap_i64 (W+x.size) (by omega) (by omega)
   simp[q7,k3,c.f3,k6,hX3]
   obtain⟨v',h5,ha,ex,mk⟩:=AB c3 hnl x.name
   refine jV ha ?_
   have lt3:=(g3.ok.bl hX3).lt
   have hX5:h5.tr.get h2.next=some (.aA [.string x.name,.int .i64 x.size,.slice I.a I.l I.c] false 0 s3):=by
    refine ex.get c3.g.ok hX3 (fun e=> ?_)
    obtain⟨o,n,cp,e⟩:=e
    rcases c.names with⟨_,e2⟩|⟨b2,s2,e2,hb2,_⟩
    ·rw[e2] at e;cases e
    ·rw[e2] at e;cases e;have:=c.g.ok.wf _ _ hb2;omega
   simp[k4,f4,k6,hX5,ww,k31,f31,wj]
   refine⟨gl.length-(j+1),by omega,j+1,v',W+x.size,rfl,by omega,?_,by simp,by omega,by omega,by simp[k29,f29],by simp[k30,f30],by simp,?_⟩
   ·have e1:(gl.take (j+1)).map (·.name)=(gl.take j).map (·.name)++[x.name]:=by rw[List.take_add_one,hx];simp
    rw[e1]
    exact mk _ (by simp) (by simp) (by simp)
   ·intro g hg
    rw[List.take_add_one,hx] at hg
    rcases List.mem_append.1 hg with h|h
    ·exact hs g h
    ·simp at h;rw[h];exact⟨w1,w2⟩
  ·have hne:=nq he
   simp[q7,hne,k5]
   refine aD.call (by simpa using ie h3 gg3.ok cd (j:Int)) ?_
   rintro _ h4 ⟨rfl,g4⟩
   obtain⟨⟨s4,hR4⟩,tb⟩:=KH (Q:=Q) c3 bad he (j:Int) g4 (e':=Tr.set (Tr.set (Tr.set (Tr.set (Tr.set e4 64 (.int .i64 cd)) 65 (.bool true)) 66 (.int .i64 cd)) 67 (.int .i64 j)) 68 (.agg #[.int .i64 cd,.int .i64 j])) (by simp)
   simp[k2,c.f2,hR4]
   exact tb _ rfl
 ·have:j=gl.length:=by omega
  subst this
  rw[List.take_length] at c hs
  simp[f30,f31]
  exact ot _ _ v (c.grow (.refl c.g.ok) (by simp) (by simp) (by simp)) hs
def HdI (h:ae) (G F:SV) (fl:List GF) (ns:List ByteArray) (m:Nat) (e:Env) (h2:ae):Prop:=
 ∃(j:Nat) (v:Value),m=fl.length-j∧j≤fl.length∧Ek h h2 G F e v (ns++(fl.take j).map (·.name))∧Env.get e 80=F.v∧Env.get e 81= .int .i64 fl.length∧Env.get e 82= .int .i64 j∧ ∀f∈fl.take j,ui f
theorem DP {h h1:ae} (ok:bh h) {G F:SV} {fl:List GF} (hF:SliceR (fR h) 4 h F.v fl) (hl:fl.length≤10) (sm: ∀f∈fl,Fits f.blocks) {ns:List ByteArray} (hns:ns.length≤10) {v0:Value} {e:Env} {Q:aO→Env→ae→Prop} (c:Ek h h1 G F e v0 ns) (f80:Env.get e 80=F.v) (f81:Env.get e 81= .int .i64 fl.length) (f82:Env.get e 82= .int .i64 0)
  (bad:KX h Q) (ot: ∀e' h' v,Ek h h' G F e' v (ns++fl.map (·.name))→(∀f∈fl,ui f)→Q (.exit 3) e' h'):az FF (.loop nZ) e h1 Q:=by
 have hFl:=SliceR.len hF
 refine az.loop (HdI h G F fl ns) ?_ (n:=fl.length) ⟨0,_,rfl,by omega,by simpa using c,f80,f81,f82,fun g hg=>by simp at hg⟩
 rintro m e h2 ⟨j,v,rfl,hj,c,f80,f81,f82,hs⟩
 unfold nZ
 by_cases hjl:j<fl.length
 ·have hx:fl[j]? =some fl[j]:=aQ hjl
  have hm:=List.getElem_mem hjl
  generalize fl[j]=x at hx hm
  obtain⟨bb,off,cc,hFa,_,_,⟨B,rfl,sB⟩,_,hrd⟩:=SliceR.later ok hF hx
  have r0:=hrd h2 c.g 0 4 (by decide)
  simp[-ag] at r0
  have wj:=wrap_i64 (j+1) (by omega) (by omega)
  have f80':=f80
  simp at f80'
  rw[hFa,hFl] at f80'
  have hnl:(ns++(fl.take j).map (·.name)).length<1000000:=by simp;omega
  have hU:=c.U
  simp at hU
  have oU:=c.g.ok.bl hU
  simp[f80',f81,f82,c.f1,hjl,r0,-ag,aq,bg,aL,oU,aw hU]
  refine aD.cut (fun h3=>ab aG h2 h3∧ ∃s,h3.tr.get h2.next=some (.aA [.string x.name,.int .i64 x.params,.int .i64 x.ai,B.v] false 0 s)) ?_ ?_
  ·exact⟨((ab.refl c.g.ok).var _ _).trans (((ab.refl ((ab.refl (S:=aG) c.g.ok).var _ _).ok)).var _ _),h2.clock,by simp⟩
  rintro h3 ⟨g3,s3,hX3⟩
  have gg3:=c.g.trans g3
  have hA3:=c.names.grow c.g.ok g3 (fun _ _ h=>h)
  refine aD.call (V:=pX (fun c=>c=0→ui x) h3) ?_ ?_
  ·have E:=H_ (gs:=G) (fs:=F) (ah:=eg) gg3.ok (f:=x) (sB.mono ok gg3 fun _ _ r=>r.mono ok gg3) (sm x hm) hA3.sl hnl
   simpa [aF,eg,c.f3,hFa,hFl] using E
  rintro _ h4 ⟨g4,cd,rfl,hcd⟩
  have g24:=g3.trans g4
  have hX4:=g4.get gg3.ok hX3 (fun h=>h)
  simp at hX4
  have lt2:=(g3.ok.bl hX3).lt
  by_cases he:cd=0
  ·subst he
   have c4:=c.grow (e':=e) g24 rfl rfl rfl
   obtain⟨v',h5,ha,ex,mk⟩:=AB c4 hnl x.name
   simp[c.f3,hX4]
   refine jV ha ?_
   simp[f82,wj]
   refine⟨fl.length-(j+1),by omega,j+1,v',rfl,by omega,?_,by simp;exact f80,by simp[f81],by simp,?_⟩
   ·have e1:ns++(fl.take (j+1)).map (·.name)=ns++(fl.take j).map (·.name)++[x.name]:=by rw[List.take_add_one,hx];simp
    rw[e1]
    exact mk _ (by simp) (by simp) (by simp)
   ·intro g hg
    rw[List.take_add_one,hx] at hg
    rcases List.mem_append.1 hg with h|h
    ·exact hs g h
    ·simp at h;rw[h];exact hcd rfl
  ·have hne:=nq he
   simp[hne]
   refine aD.call (by simpa using ie h4 (gg3.trans g4).ok cd (j:Int)) ?_
   rintro _ h5 ⟨rfl,g5⟩
   obtain⟨s,hR⟩:=c.R
   have hR5:=(g24.trans g5).get c.g.ok hR (fun h=>h)
   simp[c.f2,hR5]
   exact bad cd j _ _ he (((c.g.trans g24).trans g5).put ⟨s,hR5⟩ (.inl (by omega))) ⟨h5.clock,by simp⟩ (by simp[c.f2])
 ·have:j=fl.length:=by omega
  subst this
  rw[List.take_length] at c hs
  simp[f81,f82]
  exact ot _ _ v (c.grow (.refl c.g.ok) (by simp) (by simp) (by simp)) hs
def BdI (h:ae) (G F:SV) (fl:List GF) (v:Value) (ns:List ByteArray) (m:Nat) (e:Env) (h2:ae):Prop:=
 ∃j:Nat,m=fl.length-j∧j≤fl.length∧Ek h h2 G F e v ns∧Env.get e 105=F.v∧Env.get e 106= .int .i64 fl.length∧Env.get e 107= .int .i64 j∧ ∀f∈fl.take j,wC f.ai f.blocks
theorem Bv {h h1:ae} (ok:bh h) (hw:xx h) {G F:SV} {fl:List GF} (hF:SliceR (fR h) 4 h F.v fl) (hl:fl.length≤10) (sm: ∀f∈fl,∀b∈f.blocks,qF b) (hd: ∀f∈fl,ui f) {ns:List ByteArray} {v:Value} {e:Env} {Q:aO→Env→ae→Prop} (c:Ek h h1 G F e v ns) (f105:Env.get e 105=F.v) (f106:Env.get e 106= .int .i64 fl.length) (f107:Env.get e 107= .int .i64 0)
  (bad:KX h Q) (ot: ∀e' h',Ek h h' G F e' v ns→(∀f∈fl,wC f.ai f.blocks)→Q (.exit 5) e' h'):az FF (.loop nQ) e h1 Q:=by
 have hFl:=SliceR.len hF
 refine az.loop (BdI h G F fl v ns) ?_ (n:=fl.length) ⟨0,rfl,by omega,c,f105,f106,f107,fun g hg=>by simp at hg⟩
 rintro m e h2 ⟨j,rfl,hj,c,f105,f106,f107,hs⟩
 unfold nQ
 by_cases hjl:j<fl.length
 ·have hx:fl[j]? =some fl[j]:=aQ hjl
  have hm:=List.getElem_mem hjl
  generalize fl[j]=x at hx hm
  obtain⟨bb,off,cc,hFa,_,_,⟨B,rfl,sB⟩,_,hrd⟩:=SliceR.later ok hF hx
  have r0:=hrd h2 c.g 0 4 (by decide)
  simp[-ag] at r0
  have wj:=wrap_i64 (j+1) (by omega) (by omega)
  have f105':=f105
  simp at f105'
  rw[hFa,hFl] at f105'
  have hU:=c.U
  simp at hU
  have oU:=c.g.ok.bl hU
  obtain⟨hp,hr,hb,_⟩:=hd x hm
  simp[f105',f106,f107,c.f1,hjl,r0,-ag,aq,bg,aL,oU,aw hU]
  refine aD.cut (fun h3=>ab aG h2 h3) ?_ ?_
  ·exact((ab.refl c.g.ok).var _ _).trans (((ab.refl ((ab.refl (S:=aG) c.g.ok).var _ _).ok)).var _ _)
  rintro h3 g3
  have gg3:=c.g.trans g3
  refine aD.call (V:=pX (fun c=>c=0→wC x.ai x.blocks) h3) ?_ ?_
  ·have E:=Is (gs:=G) (fs:=F) (name:=x.name) (params:=x.params) (ai:=x.ai) (ah:=eg) gg3.ok (hw.grow ok gg3) (by omega) (hF.mono ok gg3 fun _ _ r=>r.mono ok gg3) ⟨by omega,fun f hf=>(hd f hf).params.2⟩ (sB.mono ok gg3 fun _ _ r=>r.mono ok gg3) (by omega) (sm x hm)
   simpa [aF,eg,hFa,hFl] using E
  rintro _ h4 ⟨g4,cd,rfl,hcd⟩
  have g24:=g3.trans g4
  by_cases he:cd=0
  ·subst he
   simp[f107,wj]
   refine⟨fl.length-(j+1),by omega,j+1,rfl,by omega,c.grow g24 (by simp) (by simp) (by simp),by simp;exact f105,by simp[f106],by simp,?_⟩
   intro g hg
   rw[List.take_add_one,hx] at hg
   rcases List.mem_append.1 hg with h|h
   ·exact hs g h
   ·simp at h;rw[h];exact hcd rfl
  ·have hne:=nq he
   simp[hne]
   refine aD.call (by simpa using ie h4 (gg3.trans g4).ok cd (j:Int)) ?_
   rintro _ h5 ⟨rfl,g5⟩
   obtain⟨s,hR⟩:=c.R
   have hR5:=(g24.trans g5).get c.g.ok hR (fun h=>h)
   simp[c.f2,hR5]
   exact bad cd j _ _ he (((c.g.trans g24).trans g5).put ⟨s,hR5⟩ (.inl (by omega))) ⟨h5.clock,by simp⟩ (by simp[c.f2])
 ·have:j=fl.length:=by omega
  subst this
  rw[List.take_length] at hs
  simp[f106,f107]
  exact ot _ _ (c.grow (.refl c.g.ok) (by simp) (by simp) (by simp)) hs
def DQ:ByteArray:=⟨⟨[109,97,105,110]⟩⟩
theorem DK (h:ae) (ok:bh h) (name:ByteArray) (a b:Int) (s:SV):aE FF iu [.agg ⟨[.string name,.int .i64 a,.int .i64 b,s.v]⟩] h (fun v h'=>v= .bool (name==DQ)∧ab aG h h'):=by
 refine aE.of yw ?_
 unfold rK
 simp[DQ]
 exact(ab.refl ok).new _ _
theorem x4 {h:ae} (ok:bh h) {F:SV} {fl:List GF} (hF:SliceR (fR h) 4 h F.v fl) (hl:fl.length<1000000):
  aE FF dU [F.v,.func (.func iu) #[] #[]] h (fun v h'=>ab aG h h'∧ ∃i:Int,v= .int .i64 i∧(i= -1∨ ∃j:Nat,i=j∧j<fl.length)):=by
 have hFl:=SliceR.len hF
 refine aE.of iS ?_
 unfold dV
 simp
 refine az.loop (fun m e h2=> ∃j:Nat,m=fl.length-j∧j≤fl.length∧Env.get e 0=F.v∧Env.get e 1= .func (.func iu) #[] #[]∧Env.get e 7= .int .i64 fl.length∧Env.get e 8= .int .i64 j∧ab aG h h2) ?_ (n:=fl.length)
  ⟨0,rfl,by omega,by simp,by simp,by simp[hFl],by simp,.refl ok⟩
 rintro m e h2 ⟨j,rfl,hj,f0,f1,f7,f8,g2⟩
 unfold dF
 by_cases hjl:j<fl.length
 ·have hx:fl[j]? =some fl[j]:=aQ hjl
  generalize fl[j]=x at hx
  obtain⟨bb,off,cc,hFa,_,_,⟨B,rfl,sB⟩,_,hrd⟩:=SliceR.later ok hF hx
  have r0:=hrd h2 g2 0 4 (by decide)
  simp[-ag] at r0
  have wj:=wrap_i64 (j+1) (by omega) (by omega)
  have f0':=f0
  simp at f0'
  rw[hFa,hFl] at f0'
  simp[f0',f1,f7,f8,hjl,r0,-ag]
  refine aD.cm (V:=fun v h'=>v= .bool (x.name==DQ)∧ab aG h2 h') ?_ ?_
  ·have I:bZ FF (.func (.func iu) #[] #[]) [.agg ⟨[.string x.name,.int .i64 x.params,.int .i64 x.ai,B.v]⟩] h2 (fun v h'=>v= .bool (x.name==DQ)∧ab aG h2 h'):=bZ.func (by simpa using DK h2 g2.ok x.name x.params x.ai B)
   simpa [f1] using I
  rintro _ h3 ⟨rfl,g3⟩
  cases hmn:(x.name==DQ) with
  |true=>
   simp
   exact⟨g2.trans g3,j,rfl,hjl⟩
  |false=>
   simp[f8,wj]
   exact⟨fl.length-(j+1),by omega,j+1,rfl,by omega,by simpa [hFa,hFl] using f0,by simp[f1],by simp[f7],by simp,g2.trans g3⟩
 ·have:j=fl.length:=by omega
  subst this
  simp[f7,f8]
  exact g2
structure yy (u:GU):Prop where
 gn:u.globals.length≤10
 fn:u.funcs.length≤10
 gs: ∀g∈u.globals,1≤g.size∧g.size≤200∧(g.init.length:Int)≤g.size
 head: ∀f∈u.funcs,ui f
 body: ∀f∈u.funcs,wC f.ai f.blocks
 one:0<u.funcs.length
structure v_ (u:GU):Prop where
 init: ∀g∈u.globals,g.init.length≤140737488355328
 fs: ∀f∈u.funcs,Fits f.blocks
 bs: ∀f∈u.funcs,∀b∈f.blocks,qF b
def zk (P:Prop) (h:ae) (v:Value) (h':ae):Prop:=ab aG h h'∧ ∃c a:Int,v= .agg ⟨[.int .i64 c,.int .i64 a]⟩∧(c≠0∨(c=0∧a=0∧P))
theorem Fa {h:ae} (ok:bh h) (hw:xx h) {G F:SV} {u:GU} (hu:uR h G F u) (sm:v_ u):
  aE FF vA [.agg ⟨[G.v,F.v]⟩] h (zk (yy u) h):=by
 have hGl:=SliceR.len hu.1
 have hFl:=SliceR.len hu.2
 refine aE.of BK ?_
 unfold u5
 simp
 have fin: ∀(c a:Int) (e':Env) (h':ae),c≠0→ab aG h h'→(∃s,h'.tr.get (h.next+1)=some (.aA [.int .i64 c,.int .i64 a] false 0 s))→Env.get e' 2= .pointer (some ⟨h.next+1,0,none⟩)→tQ [.cell 2 (some 2)] (zk (yy u) h) .ret e' h':=by
  intro c a e' h' hc g ⟨s,hR⟩ q2
  simp[q2,hR]
  exact⟨g,c,a,rfl,.inl hc⟩
 refine aD.cut (fun h1=>ab aG h h1∧h1.tr.get h.next=some (.aA [G.v,F.v] false 0 0)∧h1.tr.get (h.next+1)=some (.aA [.int .i64 0,.int .i64 0] false 0 0)) ?_ ?_
 ·exact⟨((ab.refl ok).new _ _).new _ _,by simp,by simp⟩
 rintro h1 ⟨g1,hU1,hR1⟩
 have hU1':=hU1
 simp at hU1'
 have early: ∀e l R,Env.get e 2= .pointer (some ⟨h.next+1,0,none⟩)→(∀e' h',Env.get e' 2= .pointer (some ⟨h.next+1,0,none⟩)→ab aG h h'→(∃s,h'.tr.get (h.next+1)=some (.aA [.int .i64 0,.int .i64 0] false 0 s))→Env.get e' 27= .agg #[.int .i64 2,.int .i64 0]→aD FF l e' h' R)→aD FF (⟨(some 27),none,(.call (.func 17) [(.const (.int .i64 2)),(.const (.int .i64 0))])⟩::l) e h1 R:=by
  intro e l R q2 K
  refine aD.call (by simpa using ie h1 g1.ok 2 0) ?_
  rintro _ h2 ⟨rfl,g2⟩
  exact K _ _ (by simp[q2]) (g1.trans g2) ⟨_,g2.get g1.ok hR1 (fun h=>h)⟩ (by simp)
 by_cases hg:(10:Int)<G.l
 ·simp[hg]
  refine early _ _ _ (by simp) ?_
  intro e' h' q2 g' ⟨s,hR⟩ q27
  simp[q2,q27,hR]
  exact⟨g'.put ⟨s,hR⟩ (.inl (by omega)),2,0,rfl,.inl (by decide)⟩
 by_cases hf:(10:Int)<F.l
 ·simp[hg,hf,hU1']
  refine early _ _ _ (by simp) ?_
  intro e' h' q2 g' ⟨s,hR⟩ q27
  simp[q2,q27,hR]
  exact⟨g'.put ⟨s,hR⟩ (.inl (by omega)),2,0,rfl,.inl (by decide)⟩
 simp[hg,hf,hU1']
 have gl10:u.globals.length≤10:=by omega
 have fl10:u.funcs.length≤10:=by omega
 refine zN (F:=F) ok hu.1 gl10 sm.init ⟨by simp,by simp,by simp,g1,hU1,⟨0,hR1⟩,.inl ⟨rfl,rfl⟩⟩ (by simp) (by simp) (by simp[hGl]) (by simp) ?_ ?_
 ·intro c a e' h' hc g hR q2
  simpa using fin c a e' h' hc g hR q2
 intro e2 h2 v2 c2 hgs
 have hU2:=c2.U
 simp at hU2
 simp[c2.f1,hU2]
 refine DP ok hu.2 fl10 sm.fs (by simp;omega) (c2.grow (.refl c2.g.ok) (by simp) (by simp) (by simp)) (by simp) (by simp[hFl]) (by simp) ?_ ?_
 ·intro c a e' h' hc g hR q2
  simpa using fin c a e' h' hc g hR q2
 intro e3 h3 v3 c3 hhd
 have hU3:=c3.U
 simp at hU3
 simp[c3.f1,hU3]
 refine Bv ok hw hu.2 fl10 sm.bs hhd (c3.grow (.refl c3.g.ok) (by simp) (by simp) (by simp)) (by simp) (by simp[hFl]) (by simp) ?_ ?_
 ·intro c a e' h' hc g hR q2
  simpa using fin c a e' h' hc g hR q2
 intro e4 h4 c4 hbd
 have hU4:=c4.U
 simp at hU4
 simp[c4.f1,hU4]
 refine aD.call (V:=fun v h'=>ab aG h4 h'∧ ∃i:Int,v= .int .i64 i∧(i= -1∨ ∃j:Nat,i=j∧j<u.funcs.length)) (by simpa using x4 c4.g.ok (hu.2.mono ok c4.g fun _ _ r=>r.mono ok c4.g) (by omega)) ?_
 rintro _ h5 ⟨g5,i,rfl,hi⟩
 have c5:=c4.grow (e':=e4) g5 rfl rfl rfl
 have hU5:=c5.U
 simp at hU5
 obtain⟨s5,hR5⟩:=c5.R
 rcases hi with rfl|⟨j,rfl,hj⟩
 ·simp
  refine aD.call (by simpa using ie h5 c5.g.ok 6 0) ?_
  rintro _ h6 ⟨rfl,g6⟩
  have hR6:=g6.get c5.g.ok hR5 (fun h=>h)
  simp[c5.f2,hR6]
  exact⟨(c5.g.trans g6).put ⟨_,hR6⟩ (.inl (by omega)),6,0,rfl,.inl (by decide)⟩
 ·have hx:u.funcs[j]? =some u.funcs[j]:=aQ hj
  generalize u.funcs[j]=x at hx
  obtain⟨bb,off,cc,hFa,_,_,⟨B,rfl,sB⟩,_,hrd⟩:=SliceR.later ok hu.2 hx
  have r0:=hrd h5 c5.g 1 1 (by decide)
  simp[-ag] at r0
  have hjn: ¬(j:Int)<0:=by omega
  by_cases hp:0<x.params
  ·simp[c5.f1,aw hU5,hFa,hFl,hj,r0,hp,hjn,-ag]
   refine aD.call (by simpa using ie h5 c5.g.ok 5 (j:Int)) ?_
   rintro _ h6 ⟨rfl,g6⟩
   have hR6:=g6.get c5.g.ok hR5 (fun h=>h)
   simp[c5.f2,hR6]
   exact⟨(c5.g.trans g6).put ⟨_,hR6⟩ (.inl (by omega)),5,j,rfl,.inl (by decide)⟩
  ·simp[c5.f1,c5.f2,aw hU5,hFa,hFl,hj,r0,hp,hjn,-ag,hR5,aq]
   exact⟨c5.g.put ⟨_,hR5⟩ (.inl (by omega)),0,0,rfl,.inr ⟨rfl,rfl,gl10,fl10,hgs,hhd,hbd,by omega⟩⟩
theorem fG (n:Int) (h:0≤n) (h':n<18446744073709551616):IntKind.u64.wrap n=n:=by
 simp only[IntKind.wrap,IntKind.signed,IntKind.bits]
 simp
 omega
theorem ET (n:Nat) (h:n<4294967296):(BitVec.ofInt 64 (n:Int) &&& BitVec.ofInt 64 4294967295).toNat=n:=by
 have e1:(BitVec.ofInt 64 (n:Int)).toNat=n:=by rw[BitVec.toNat_ofInt];omega
 have e2:(BitVec.ofInt 64 4294967295).toNat=2^32-1:=by decide
 rw[BitVec.toNat_and,e1,e2,Nat.and_two_pow_sub_one_eq_mod]
 omega
theorem Eh (h:ae) (n:Nat) (hn:n<1000000):aE FF pa [.int .u64 1,.int .u64 (n:Nat)] h (fun v h'=>v= .tuple #[.int .u64 0,.int .u64 (n:Nat)]∧h'=h):=by
 refine aE.of vi ?_
 unfold oE
 have w0:IntKind.u64.wrap 0=0:=fG _ (by omega) (by omega)
 have w1:IntKind.u64.wrap 1=1:=fG _ (by omega) (by omega)
 have wn:IntKind.u64.wrap (n:Int)=n:=fG _ (by omega) (by omega)
 have a1:ew .and .u64 1 4294967295=some (.int .u64 1):=by
  have:=ET 1 (by omega)
  show some (Value.int .u64 (IntKind.u64.wrap ((BitVec.ofInt 64 ((1:Nat):Int) &&& BitVec.ofInt 64 4294967295).toNat:Int)))=_
  rw[this];simp[w1]
 have a2:ew .and .u64 (n:Int) 4294967295=some (.int .u64 n):=by
  have:=ET n (by omega)
  show some (Value.int .u64 (IntKind.u64.wrap ((BitVec.ofInt 64 (n:Int) &&& BitVec.ofInt 64 4294967295).toNat:Int)))=_
  rw[this,wn]
 have a3:ew .and .u64 0 4294967295=some (.int .u64 0):=by
  have:=ET 0 (by omega)
  show some (Value.int .u64 (IntKind.u64.wrap ((BitVec.ofInt 64 ((0:Nat):Int) &&& BitVec.ofInt 64 4294967295).toNat:Int)))=_
  rw[this];simp[w0]
 have s0:gQ .shr .u64 0 32=some (.int .u64 0):=by rfl
 have s1:gQ .shr .u64 1 32=some (.int .u64 0):=by rfl
 have sn:gQ .shr .u64 (n:Int) 32=some (.int .u64 0):=by
  have dn:(n:Int).fdiv (2^32)=0:=by
   rw[Int.fdiv_eq_ediv_of_nonneg _ (by decide)]
   exact Int.ediv_eq_zero_of_lt (by omega) (by omega)
  show(if(32:Int)<0 then none else some (Value.int .u64 ((n:Int).fdiv (2^(min (32:Int).toNat 64)))))=_
  rw[if_neg (by decide),show min (32:Int).toNat 64=32 by decide,dn]
 have p0:ew .mul .u64 0 (n:Int)=some (.int .u64 0):=by simp[w0]
 have p1:ew .mul .u64 1 (n:Int)=some (.int .u64 n):=by simp[wn]
 have p2:ew .mul .u64 1 0=some (.int .u64 0):=by simp[w0]
 have p3:ew .mul .u64 0 0=some (.int .u64 0):=by simp[w0]
 have q0:ew .add .u64 0 0=some (.int .u64 0):=by simp[w0]
 simp[-ew,a1,a2,a3,s0,s1,sn,p0,p1,p2,p3,q0]
theorem Dj (h:ae) (n:Nat) (hn:n<1000000):aE FF jj [.int .u64 1,.int .u64 (n:Nat)] h (fun v h'=>v= .tuple #[.int .u64 0,.int .u64 (n:Nat)]∧h'=h):=by
 refine aE.of xG ?_
 unfold qN
 simp
 rw[sQ (t:=false) rfl]
 simp
 refine aD.call (V:=fun v h'=>v= .tuple #[.int .u64 0,.int .u64 (n:Nat)]∧h'=h) (by simpa using Eh h n hn) ?_
 rintro _ h' ⟨rfl,rfl⟩
 simp
theorem vg {α:Type} (E:Enc α) {z:List Value} (z0:α) (hz:z=E.enc z0) (n:Nat):gI z n=E.flat (List.replicate n z0):=by
 induction n with
 |zero=>rfl
 |succ n ih=>rw[gI,ih,hz,List.replicate_succ,E.dM]
def filled {α:Type} (x z:α) (k n:Nat):List α:=List.replicate k x++List.replicate (n-k) z
theorem Ai {α:Type} (E:Enc α) (x z:α) {k m n:Nat} (hk:k+m≤n):aK (E.flat (filled x z k n)) (k*E.sz) (E.flat (List.replicate m x))=E.flat (filled x z (k+m) n):=by
 have h1:(E.flat (filled x z k n)).take (k*E.sz)=E.flat (List.replicate k x):=by
  rw[E.fF];congr 1;simp[filled]
 have h2:(E.flat (filled x z k n)).drop (k*E.sz+m*E.sz)=E.flat (List.replicate (n-(k+m)) z):=by
  rw[←Nat.add_mul,E.jE];congr 1;simp[filled,List.drop_append]
  omega
 unfold aK
 rw[E.bt,List.length_replicate,h1,h2,←E.cX,←E.cX,List.replicate_append_replicate]
 rfl
def yH (o:Nat):aj:=(.seq (.seq (.ops [m_ 34 8,m_ 35 7,z_ 36 35,B_ 37 .lss 34 36]) (.cond (t_ 37) .skip (.exit 0))) (.block 1 (.draw [D_ (m_ 38 8),D_ (m_ 39 7),D_ (m_ 40 8),(o_ 41 (.slice o (t_ 39) (some (t_ 40)) none none),[]),D_ (m_ 42 7),D_ (m_ 43 8),(o_ 44 (.slice o (t_ 42) none (some (t_ 43)) none),[]),(o_ 45 (.copy o (t_ 41) (t_ 44)),[]),D_ (B_ 46 .add 38 45),D_ (m_ 8 46)])))
def xU (z:List Value) (o bytes:Nat):aj:=(.seq (.ops [o_ 4 (.mv (.const (.slice none 0 0)))]) (.seq (.seq (.ops [m_ 9 1,C_ 10 .lss 9 0]) (.cond (t_ 10) (.ops [⟨(some 11),none,.bad⟩,⟨none,none,.bad⟩]) .skip)) (.seq (.ops [m_ 13 0,z_ 14 13,o_ 15 (.conv .u64 (t_ 14)),m_ 16 1,o_ 17 (.conv .u64 (t_ 16)),o_ 18 (.call (.func jj) [t_ 15,t_ 17]),m_ 12 18,o_ 19 (.ext 0 (t_ 12)),o_ 20 (.ext 1 (t_ 12)),m_ 5 19,m_ 6 20]) (.seq (.seq (.ops [m_ 21 5,o_ 22 (.bin .gtr [] (t_ 21) (.const (.int .u64 0))),m_ 23 22,q_ 24 23 false (.mv (t_ 6)),q_ 25 23 false (.bin .gtr [] (t_ 24) (.const (.int .u64 9223372036854775807))),o_ 26 (.pick (t_ 23) (.const (.bool true)) (t_ 25))]) (.cond (t_ 26) (.ops [⟨(some 27),none,.bad⟩,⟨none,none,.bad⟩]) .skip)) (.seq (.ops [m_ 28 6,o_ 29 (.conv .i64 (t_ 28)),o_ 30 (.fB z bytes (t_ 29) (t_ 29)),m_ 7 30]) (.seq (.ops [m_ 31 7,m_ 32 0,o_ 33 (.copy o (t_ 31) (t_ 32)),m_ 8 33]) (.seq (.block 0 (.loop (yH o))) (.seq (.ops [m_ 47 7,m_ 4 47]) .ret))))))))
theorem wX {α:Type} (E:Enc α) {f bytes:Nat} {z:List Value} (hf:FF f=some ⟨[.tmp 4],xU z E.sz bytes,.no⟩) (hby:bytes≤1000) (z0 x:α) (hz:z=E.enc z0) {h:ae} (ok:bh h) (n:Nat) (hn:0<n∧n<1000000) {b off c:Nat} (hs:aS E h (.slice (some ⟨b,off,none⟩) 1 c) [x]):
  aE FF f [.slice (some ⟨b,off,none⟩) 1 c,.int .i64 n] h (fun v h'=>ab aG h h'∧ ∃d s,v= .slice (some ⟨d,0,none⟩) n n∧h.next≤d∧h'.tr.get d=some (.aA (E.flat (List.replicate n x)) false 0 s)):=by
 have hzl:z.length=E.sz:=by rw[hz,E.len]
 have hp:=E.pos
 have w1:IntKind.u64.wrap 1=1:=fG _ (by omega) (by omega)
 have wn:IntKind.u64.wrap (n:Int)=n:=fG _ (by omega) (by omega)
 have wn':IntKind.i64.wrap (n:Int)=n:=wrap_i64 _ (by omega) (by omega)
 have n0: ¬(n:Int)<0:=by omega
 have n1: ¬(9223372036854775807:Int)<n:=by omega
 have r1:roomy n=true:=by simp[roomy];omega
 have r2:roomy (n*bytes)=true:=by
  have:n*bytes≤1000000*1000:=Nat.mul_le_mul (by omega) hby
  simp[roomy];omega
 obtain⟨b',off',c',e',hl',⟨_,_,_,_,hbb⟩,hrd⟩:=hs.read (i:=0) (x:=x) rfl
 injection e' with e1 e2 e3
 cases e1
 have hr0:=hrd 0 E.sz (by omega)
 simp only[Nat.zero_mul,Nat.add_zero,List.drop_zero] at hr0
 have hr1:aT h b off E.sz=some (E.enc x):=by rw[hr0,List.take_of_length_le (by rw[E.len];exact Nat.le_refl _)]
 have oB:=ok.bl hbb
 have m1:Nat.min 1 n=1:=by show min 1 n=1;omega
 have m2:E.sz≤n*E.sz:=Nat.le_mul_of_pos_left _ hn.1
 refine aE.of hf ?_
 unfold xU
 simp[n0,w1,wn]
 refine aD.call (V:=fun v h'=>v= .tuple #[.int .u64 0,.int .u64 (n:Nat)]∧h'=h) (by simpa using Dj h n hn.2) ?_
 rintro _ h' ⟨rfl,e⟩
 subst e
 simp[n1,wn',r1,r2,hzl,hp,m1,aL,oB,hr1,E.len,vg E z0 hz,m2,-ag]
 have g0:ab aG h' (put (aH h' (E.flat (List.replicate n z0)) 0) h'.next 0 (E.flat (List.replicate n z0)) (E.enc x) 0):=(ab.refl ok).var _ _
 have hd0:(put (aH h' (E.flat (List.replicate n z0)) 0) h'.next 0 (E.flat (List.replicate n z0)) (E.enc x) 0).tr.get h'.next=some (.aA (E.flat (filled x z0 1 n)) false 0 h'.clock):=by
  rw[ax,By]
  have:=Ai E x z0 (k:=0) (m:=1) (n:=n) (by omega)
  simp only[filled,List.replicate_zero,List.nil_append,Nat.sub_zero,Nat.zero_mul,Nat.zero_add,List.replicate_one,E.dM,E.IP,List.append_nil] at this ⊢
  rw[this]
 refine az.cut (fun h1=>ab aG h' h1∧ ∃s,h1.tr.get h'.next=some (.aA (E.flat (filled x z0 1 n)) false 0 s)) ⟨g0,_,hd0⟩ ?_
 rintro h1 ⟨g1,s1,hd1⟩
 refine az.loop (fun m e h2=> ∃k:Nat,m=n-k∧1≤k∧k≤n∧Env.get e 7= .slice (some ⟨h'.next,0,none⟩) n n∧Env.get e 8= .int .i64 k∧ab aG h' h2∧ ∃s,h2.tr.get h'.next=some (.aA (E.flat (filled x z0 k n)) false 0 s)) ?_ (n:=n-1)
  ⟨1,rfl,Nat.le_refl _,hn.1,by simp,by simp,g1,s1,hd1⟩
 rintro m e h2 ⟨k,rfl,hk1,hkn,f7,f8,g2,s2,hd2⟩
 unfold yH
 by_cases hlt:k<n
 ·have q1:Nat.min k (n-k)=min k (n-k):=rfl
  obtain⟨j,hj⟩: ∃j,j=min k (n-k):=⟨_,rfl⟩
  rw[←hj] at q1
  have q2: ¬j=0:=by omega
  have q3:k≤n:=by omega
  have hrd2:aT h2 h'.next 0 (j*E.sz)=some (E.flat (List.replicate j x)):=by
   have hjn:j*E.sz≤(filled x z0 k n).length*E.sz:=Nat.mul_le_mul_right _ (by simp[filled];omega)
   rw[cN hd2 (by simpa using hjn),List.drop_zero,E.fF]
   congr 2
   rw[filled,List.take_append_of_le_length (by simp;omega),List.take_replicate,Nat.min_eq_left (by omega)]
  have hlen:k*E.sz+j*E.sz≤(filled x z0 k n).length*E.sz:=by
   rw[←Nat.add_mul]
   exact Nat.mul_le_mul_right _ (by simp[filled];omega)
  obtain⟨k',hk'⟩: ∃k',k'=k+j:=⟨_,rfl⟩
  have wk:IntKind.i64.wrap ((k:Int)+(j:Int))=(k':Int):=by rw[wrap_i64 _ (by omega) (by omega)];omega
  have hq:(k:Int)<(n:Int):=by omega
  simp[f7,f8,hlt,hq,q1,q2,q3,hd2,aB,hrd2,hlen,wk,-ag]
  refine⟨n-k',by omega,k',rfl,by omega,by omega,by simp,?_,?_⟩
  ·exact ab.put g2.tick ⟨_,hd2⟩ (.inl (Nat.le_refl _))
  ·rw[hk',←Ai E x z0 (by omega)]
 ·have:k=n:=by omega
  subst this
  simp[f7,f8]
  refine⟨g2,s2,?_⟩
  rw[hd2]
  simp[filled]
def pQ:Enc (Int×Int):=⟨fun x=>[.int .i64 x.1,.int .i64 x.2],2,fun _=>rfl,by decide,fun _=>rfl⟩
@[simp] theorem LL:pQ.sz=2:=rfl
@[simp] theorem Ob (x:Int×Int):pQ.enc x=[.int .i64 x.1,.int .i64 x.2]:=rfl
theorem Aj {α:Type} {E:Enc α} {h:ae} {b:Nat} {ro:Bool} {o s c:Nat} {x:α} (hb:h.tr.get b=some (.aA (E.enc x) ro o s)):aS E h (.slice (some ⟨b,0,none⟩) 1 c) [x]:=
 ⟨_,c,rfl,.inr ⟨b,0,_,ro,o,s,rfl,hb,by simp[E.len],by simp[List.take_of_length_le,E.len]⟩⟩
theorem C4 {h:ae} (ok:bh h) (n:Nat) (hn:0<n∧n<1000000) {b ro o s c:Nat} {rb:Bool} {x:Int} (hb:h.tr.get b=some (.aA [.int .i64 x] rb o s)):
  aE FF fE [.slice (some ⟨b,0,none⟩) 1 c,.int .i64 n] h (fun v h'=>ab aG h h'∧ ∃d s,v= .slice (some ⟨d,0,none⟩) n n∧h.next≤d∧h'.tr.get d=some (.aA (aY.flat (List.replicate n x)) false 0 s)):=
 wX aY (z:=[.int .i64 0]) (bytes:=8) jJ (by decide) 0 x rfl ok n hn (Aj hb)
theorem yD {h:ae} (ok:bh h) (n:Nat) (hn:0<n∧n<1000000) {b ro o s c:Nat} {rb:Bool} {x:Int×Int} (hb:h.tr.get b=some (.aA [.int .i64 x.1,.int .i64 x.2] rb o s)):
  aE FF cr [.slice (some ⟨b,0,none⟩) 1 c,.int .i64 n] h (fun v h'=>ab aG h h'∧ ∃d s,v= .slice (some ⟨d,0,none⟩) n n∧h.next≤d∧h'.tr.get d=some (.aA (pQ.flat (List.replicate n x)) false 0 s)):=
 wX pQ (z:=[.int .i64 0,.int .i64 0]) (bytes:=16) dw (by decide) (0,0) x rfl ok n hn (Aj hb)
theorem HS (h:ae):aE FF jj [.int .u64 1,.int .u64 0] h (fun v h'=>v= .tuple #[.int .u64 0,.int .u64 0]∧h'=h):=by
 simpa using Dj h 0 (by omega)
theorem wV {α:Type} (E:Enc α) {f bytes:Nat} {z:List Value} (hf:FF f=some ⟨[.tmp 4],xU z E.sz bytes,.no⟩) (hz:z.length=E.sz) {h:ae} (ok:bh h) {b off c:Nat} :
  aE FF f [.slice (some ⟨b,off,none⟩) 1 c,.int .i64 0] h (fun v h'=>ab aG h h'∧ ∃d s,v= .slice (some ⟨d,0,none⟩) 0 0∧h.next≤d∧h'.tr.get d=some (.aA [] false 0 s)):=by
 have hp:=E.pos
 have w1:IntKind.u64.wrap 1=1:=fG _ (by omega) (by omega)
 have w0:IntKind.u64.wrap 0=0:=fG _ (by omega) (by omega)
 have w0':IntKind.i64.wrap 0=0:=wrap_i64 _ (by omega) (by omega)
 have m1:Nat.min 1 0=0:=rfl
 refine aE.of hf ?_
 unfold xU
 simp[w1,w0]
 refine aD.call (V:=fun v h'=>v= .tuple #[.int .u64 0,.int .u64 0]∧h'=h) (by simpa using HS h) ?_
 rintro _ h' ⟨rfl,e⟩
 subst e
 simp[w0',roomy,hz,hp,gI,m1]
 rw[kG]
 unfold yH
 simp
 exact aI ok _ _
theorem JS {h:ae} (ok:bh h) (n:Nat) (hn:n<1000000) {b o s c:Nat} {rb:Bool} {x:Int×Int} (hb:h.tr.get b=some (.aA [.int .i64 x.1,.int .i64 x.2] rb o s)):
  aE FF cr [.slice (some ⟨b,0,none⟩) 1 c,.int .i64 n] h (fun v h'=>ab aG h h'∧ ∃d s,v= .slice (some ⟨d,0,none⟩) n n∧h.next≤d∧h'.tr.get d=some (.aA (pQ.flat (List.replicate n x)) false 0 s)):=by
 cases n with
 |zero=>exact wV pQ (z:=[.int .i64 0,.int .i64 0]) (bytes:=16) dw rfl ok
 |succ n=>exact yD ok (n+1) ⟨by omega,hn⟩ (ro:=0) hb
theorem yY {h:ae} (ok:bh h) (n:Nat) (hn:n<1000000) {b o s c:Nat} {rb:Bool} {x:Int} (hb:h.tr.get b=some (.aA [.int .i64 x] rb o s)):
  aE FF fE [.slice (some ⟨b,0,none⟩) 1 c,.int .i64 n] h (fun v h'=>ab aG h h'∧ ∃d s,v= .slice (some ⟨d,0,none⟩) n n∧h.next≤d∧h'.tr.get d=some (.aA (aY.flat (List.replicate n x)) false 0 s)):=by
 cases n with
 |zero=>exact wV aY (z:=[.int .i64 0]) (bytes:=8) jJ rfl ok
 |succ n=>exact C4 ok (n+1) ⟨by omega,hn⟩ (ro:=0) hb
theorem iE {h:ae} (ok:bh h) {l:Nat} {ob:nr} (hl:h.tr.get l=some ob) (env:Env) (ps:List Nat) (asg body:aj) (st:IG):ab (· =l) h (eL h l env ps asg body st):=by
 refine⟨Nat.le_refl _,Nat.le_refl _,fun x hx hn=> ?_,⟨fun x o hx=> ?_,fun x cs ro o s hx=> ?_⟩⟩
 ·simp only[eL,Tr.aN];rw[if_neg hn]
 ·simp only[eL,Tr.aN] at hx ⊢
  by_cases e:x=l
  ·subst e;exact ok.wf _ _ hl
  ·rw[if_neg e] at hx;exact ok.wf x o hx
 ·simp only[eL,Tr.aN] at hx ⊢
  by_cases e:x=l
  ·rw[if_pos e] at hx;cases hx
  ·rw[if_neg e] at hx;exact ok.st x cs ro o s hx
theorem lH (h:ae) (l:Nat) (env:Env) (ps:List Nat) (asg body:aj) (st:IG):(eL h l env ps asg body st).tr.get l=some (.loop env ps asg body st):=by
 simp[eL,Tr.aN]
theorem Es {S:Nat→Prop} {h1:ae} (ok:bh h1) {l p1 p2:Nat} {e:Env} {asg body:aj} {v1 v2:Value} {K:ae→Prop} (hS: ¬S l) (hl:h1.tr.get l=some (.loop e [p1,p2] asg body .ready))
  (H:az FF asg (Tr.set (Tr.set e p1 v1) p2 v2) h1 (fun x e2 h2=>x= .normal∧ab aG h1 h2∧ ∀h3,ab (· =l) h2 h3→az FF body e2 h3 (fun x _ h4=>x= .normal∧ab S h3 h4∧K h4)))
  (hK: ∀h4 h5,K h4→bh h4→ab (· =l) h4 h5→K h5):
  bZ FF (.func (.yield l) #[] #[]) [v1,v2] h1 (fun r h5=>r= .bool true∧ab (fun x=>S x∨x=l) h1 h5∧h5.tr.get l=some (.loop e [p1,p2] asg body .ready)∧K h5):=by
 refine bZ.yield hl (by simp[fH];rfl) ?_
 refine H.mono ?_
 rintro x e2 h2 ⟨rfl,g2,H2⟩
 have hl2:=g2.get ok hl (fun h=>h)
 refine⟨rfl,hl2,?_⟩
 have gs:=iE g2.ok hl2 e [p1,p2] asg body .busy
 refine(H2 _ gs).mono ?_
 rintro x e3 h4 ⟨rfl,g4,k4⟩
 have hl4:=g4.get gs.ok (lH h2 l e [p1,p2] asg body .busy) hS
 have gt:=iE g4.ok hl4 e [p1,p2] asg body .ready
 refine⟨⟨_,_,_,_,hl4,rfl,rfl,rfl,rfl⟩,rfl,?_,lH _ _ _ _ _ _ _,hK _ _ k4 g4.ok gt⟩
 exact((g2.aW.trans' gs (fun _ _ h=>h) (fun _ _ h=> .inr h)).trans' g4 (fun _ _ h=>h) (fun _ _ h=> .inl h)).trans' gt (fun _ _ h=>h) (fun _ _ h=> .inr h)
theorem zK (h:ae) (to:SV):aE FF eT [to.v] h (fun v h'=>v= .func (.func bk) #[] #[.pointer (some ⟨h.next,0,none⟩)]∧h'=aH h [to.v] 0):=by
 refine aE.of oq ?_
 unfold iG
 simp
def BwI (ns:List Int) (y:Value) (b:Nat) (I:Nat→ae→Prop) (m:Nat) (e:Env) (h2:ae):Prop:=m≤ns.length∧Env.get e 0=y∧Env.get e 1= .pointer (some ⟨b,0,none⟩)∧Env.get e 3= .int .i64 ((m:Int)-1)∧I m h2
theorem zc {h0 h:ae} (ok0:bh h0) {b:Nat} {T:SV} {ns:List Int} (hT:SliceR nR 1 h0 T.v ns) (hl:ns.length<1000000) {y:Value} (I:Nat→ae→Prop) (hI: ∀j h2,I j h2→ab aG h0 h2∧ ∃s,h2.tr.get b=some (.aA [T.v] false 0 s))
  (H: ∀j x h2,ns[j]? =some x→I (j+1) h2→bZ FF y [.int .i64 j,.int .i64 x] h2 (fun v h'=>v= .bool true∧I j h')) (hi:I ns.length h):
  aE FF bk [y,.pointer (some ⟨b,0,none⟩)] h (fun _ h'=>I 0 h'):=by
 have hTl:=SliceR.len hT
 obtain⟨_,s0,hb0⟩:=hI _ _ hi
 simp at hb0
 have w:=wrap_i64 ((ns.length:Int)-1) (by omega) (by omega)
 refine aE.of mM ?_
 unfold gG
 simp[hb0,hTl,w]
 refine az.loop (BwI ns y b I) ?_ (n:=ns.length) ⟨Nat.le_refl _,by simp,by simp,by simp,hi⟩
 rintro m e h2 ⟨hj,f0,f1,f3,hi⟩
 unfold fL
 cases m with
 |zero=>
  have: ¬(0:Int)≤ -1:=by omega
  simp[f3]
  exact hi
 |succ j=>
  have hx:ns[j]? =some ns[j]:=aQ (by omega)
  generalize ns[j]=x at hx
  obtain⟨g2,s,hb⟩:=hI _ _ hi
  simp at hb
  obtain⟨bT,off,c,hTa,_,_,rfl,_,hrd⟩:=SliceR.later ok0 hT hx
  have r0:=hrd h2 g2 0 1 (by decide)
  simp[-ag] at r0
  have e3:(((j+1:Nat):Int)-1)=(j:Int):=by omega
  rw[e3] at f3
  have hjl:j<ns.length:=by omega
  have wj:=wrap_i64 ((j:Int)-1) (by omega) (by omega)
  rw[hTa,hTl] at hb
  simp[f0,f1,f3,aw hb,hjl,r0,-ag]
  refine aD.cm (V:=fun v h'=>v= .bool true∧I j h') (by simpa [f0] using H j x h2 hx hi) ?_
  rintro _ h3 ⟨rfl,hi3⟩
  simp[f3,wj]
  exact⟨j,by omega,by omega,by simp[f0],by simp[f1],by simp,hi3⟩
end Go.Proofs.YtdkdbjecehcekaaGreatDoor
namespace Go.AI.Dfs
structure DS where
 seen:List Bool
 left:List Nat
def row (cT:List (List Nat)) (b:Nat):List Nat:=(cT[b]?).getD []
def visitM (cT:List (List Nat)):Nat→Nat→DS→DS
 |0,_,s=>s
 |k+1,b,s=>
  let s1:=(row cT b).reverse.foldl (fun s t=>if s.seen[t]? =some true then s else visitM cT k t s) ⟨s.seen.set b true,s.left⟩
  ⟨s1.seen,s1.left++[b]⟩
def foldM (cT:List (List Nat)) (k:Nat) (l:List Nat) (s:DS):DS:=l.foldl (fun s t=>if s.seen[t]? =some true then s else visitM cT k t s) s
theorem lz (cT:List (List Nat)) (k b:Nat) (s:DS):visitM cT (k+1) b s=⟨(foldM cT k (row cT b).reverse ⟨s.seen.set b true,s.left⟩).seen,(foldM cT k (row cT b).reverse ⟨s.seen.set b true,s.left⟩).left++[b]⟩:=rfl
theorem A9 (cT:List (List Nat)) (k:Nat) (s:DS):foldM cT k [] s=s:=rfl
theorem qE (cT:List (List Nat)) (k t:Nat) (l:List Nat) (s:DS):foldM cT k (t::l) s=foldM cT k l (if s.seen[t]? =some true then s else visitM cT k t s):=rfl
structure NH (n:Nat) (s s':DS) (new:List Nat):Prop where
 left:s'.left=s.left++new
 len:s'.seen.length=n
 seen: ∀x,s'.seen[x]? =some true↔(s.seen[x]? =some true∨x∈new)
 fresh: ∀x∈new,¬s.seen[x]? =some true∧x<n
 nodup:new.Nodup
def qv (l:List Nat) (x p:Nat):Prop:= ∃l1 l2,l=l1++x::l2∧p∈l2
theorem qv.app {l:List Nat} {x p:Nat} (h:qv l x p) (a b:List Nat):qv (a++l++b) x p:=by
 obtain⟨l1,l2,rfl,hp⟩:=h
 exact⟨a++l1,l2++b,by simp,List.mem_append_left _ hp⟩
theorem qv.last {l:List Nat} {x b:Nat} (h:x∈l):qv (l++[b]) x b:=by
 obtain⟨l1,l2,rfl⟩:=List.append_of_mem h
 exact⟨l1,l2++[b],by simp,by simp⟩
def cz (s:DS):Nat:=s.seen.countP (fun x=> !x)
theorem NH.trans {n:Nat} {s s1 s2:DS} {l1 l2:List Nat} (h1:NH n s s1 l1) (h2:NH n s1 s2 l2):NH n s s2 (l1++l2):=by
 refine⟨by rw[h2.left,h1.left,List.append_assoc],h2.len,fun x=> ?_,fun x hx=> ?_,?_⟩
 ·rw[h2.seen,h1.seen,List.mem_append,or_assoc]
 ·rcases List.mem_append.1 hx with hx|hx
  ·exact h1.fresh x hx
  ·have:=h2.fresh x hx
   exact⟨fun e=>this.1 ((h1.seen x).2 (.inl e)),this.2⟩
 ·refine List.nodup_append.2 ⟨h1.nodup,h2.nodup,fun a ha b hb e=> ?_⟩
  subst e
  exact(h2.fresh a hb).1 ((h1.seen a).2 (.inr ha))
theorem countP_set {l:List Bool} {b:Nat} (h:l[b]? =some false):(l.set b true).countP (fun x=> !x)+1=l.countP (fun x=> !x):=by
 induction l generalizing b with
 |nil=>simp at h
 |cons a l ih=>
  cases b with
  |zero=>simp at h;subst h;simp[List.set_cons_zero]
  |succ b=>
   simp at h
   have:=ih h
   rw[List.set_cons_succ,List.countP_cons,List.countP_cons]
   omega
theorem countP_le {l m:List Bool} (hl:l.length=m.length) (h: ∀x:Nat,l[x]? =some true→m[x]? =some true):m.countP (fun x=> !x)≤l.countP (fun x=> !x):=by
 induction l generalizing m with
 |nil=>cases m with
  |nil=>simp
  |cons b m=>simp at hl
 |cons a l ih=>
  cases m with
  |nil=>simp at hl
  |cons b m=>
   simp at hl
   have:=ih hl (fun x hx=>by have:=h (x+1) (by simpa using hx);simpa using this)
   have h0:=h 0
   simp at h0
   rw[List.countP_cons,List.countP_cons]
   cases a<;>cases b<;>simp_all<;>omega
section
variable {cT:List (List Nat)} {n:Nat}
def Gf (cT:List (List Nat)) (n b:Nat) (s s':DS):Prop:=
 ∃new,NH n s s' (new++[b])∧(∀x∈new++[b],∀t∈row cT x,s'.seen[t]? =some true)∧ ∀x∈new,∃p,x∈row cT p∧qv (new++[b]) x p
def MR (cT:List (List Nat)) (n:Nat) (l:List Nat) (s s':DS):Prop:=
 ∃new,NH n s s' new∧(∀x∈new,∀t∈row cT x,s'.seen[t]? =some true)∧(∀t∈l,s'.seen[t]? =some true)∧ ∀x∈new,x∈l∨ ∃p,x∈row cT p∧qv new x p
theorem BA (ht: ∀b t,t∈row cT b→t<n) {k:Nat} (ih: ∀b s,s.seen.length=n→b<n→ ¬s.seen[b]? =some true→cz s≤k→Gf cT n b s (visitM cT k b s)):
  ∀(l:List Nat) (s:DS),s.seen.length=n→(∀t∈l,t<n)→cz s≤k→MR cT n l s (foldM cT k l s)
 |[],s,hn,_,_=>⟨[],⟨by simp[A9],hn,by simp[A9],by simp,.nil⟩,by simp,by simp,by simp⟩
 |t::l,s,hn,hl,hk=>by
  rw[qE]
  by_cases hs:s.seen[t]? =some true
  ·rw[if_pos hs]
   obtain⟨new,h1,h2,h3,h4⟩:=BA ht ih l s hn (fun x hx=>hl x (List.mem_cons_of_mem _ hx)) hk
   refine⟨new,h1,h2,fun x hx=> ?_,fun x hx=> ?_⟩
   ·rcases List.mem_cons.1 hx with rfl|hx
    ·exact(h1.seen x).2 (.inl hs)
    ·exact h3 x hx
   ·rcases h4 x hx with h|h
    ·exact .inl (List.mem_cons_of_mem _ h)
    ·exact .inr h
  ·rw[if_neg hs]
   obtain⟨n1,v1,c1,p1⟩:=ih t s hn (hl t (List.mem_cons_self ..)) hs hk
   have hle:cz (visitM cT k t s)≤k:=Nat.le_trans (countP_le (by rw[hn,v1.len]) (fun x hx=>(v1.seen x).2 (.inl hx))) hk
   obtain⟨n2,v2,c2,t2,p2⟩:=BA ht ih l _ v1.len (fun x hx=>hl x (List.mem_cons_of_mem _ hx)) hle
   refine⟨n1++[t]++n2,v1.trans v2,fun x hx u hu=> ?_,fun x hx=> ?_,fun x hx=> ?_⟩
   ·rcases List.mem_append.1 hx with hx|hx
    ·exact(v2.seen u).2 (.inl (c1 x hx u hu))
    ·exact c2 x hx u hu
   ·rcases List.mem_cons.1 hx with rfl|hx
    ·exact(v2.seen x).2 (.inl ((v1.seen x).2 (.inr (by simp))))
    ·exact t2 x hx
   ·rcases List.mem_append.1 hx with hx|hx
    ·rcases List.mem_append.1 hx with hx|hx
     ·obtain⟨p,h1,h2⟩:=p1 x hx
      exact .inr ⟨p,h1,by simpa using h2.app [] n2⟩
     ·simp at hx;subst hx;exact .inl (List.mem_cons_self ..)
    ·rcases p2 x hx with h|⟨p,h1,h2⟩
     ·exact .inl (List.mem_cons_of_mem _ h)
     ·exact .inr ⟨p,h1,by simpa using h2.app (n1++[t]) []⟩
theorem Dp (ht: ∀b t,t∈row cT b→t<n): ∀(k b:Nat) (s:DS),s.seen.length=n→b<n→ ¬s.seen[b]? =some true→cz s≤k→Gf cT n b s (visitM cT k b s)
 |0,b,s,hn,hb,hs,hk=>by
  exfalso
  have hf:s.seen[b]? =some false:=by
   rw[aQ (by omega)] at hs ⊢
   cases h:s.seen[b] with
   |true=>rw[h] at hs;exact absurd rfl hs
   |false=>rfl
  have:=countP_set hf
  unfold cz at hk
  omega
 |k+1,b,s,hn,hb,hs,hk=>by
  have hf:s.seen[b]? =some false:=by
   rw[aQ (by omega)] at hs ⊢
   cases h:s.seen[b] with
   |true=>rw[h] at hs;exact absurd rfl hs
   |false=>rfl
  have hc:=countP_set hf
  obtain⟨new,v,c,t,p⟩:=BA ht (Dp ht k) (row cT b).reverse ⟨s.seen.set b true,s.left⟩ (by simpa using hn) (fun x hx=>ht b x (List.mem_reverse.1 hx)) (by unfold cz at hk ⊢;dsimp only;omega)
  rw[lz]
  have hset: ∀x,(s.seen.set b true)[x]? =some true↔(s.seen[x]? =some true∨x=b):=by
   intro x
   rw[List.getElem?_set]
   by_cases e:b=x
   ·subst e;simp;omega
   ·rw[if_neg e];simp[Ne.symm e]
  refine⟨new,⟨by rw[v.left];simp,v.len,fun x=> ?_,fun x hx=> ?_,?_⟩,fun x hx u hu=> ?_,fun x hx=> ?_⟩
  ·have:=v.seen x
   dsimp only at this ⊢
   rw[this,hset,List.mem_append]
   simp
   constructor
   ·rintro((h|h)|h)
    ·exact .inl h
    ·exact .inr (.inr h)
    ·exact .inr (.inl h)
   ·rintro(h|h|h)
    ·exact .inl (.inl h)
    ·exact .inr h
    ·exact .inl (.inr h)
  ·rcases List.mem_append.1 hx with hx|hx
   ·have:=v.fresh x hx
    exact⟨fun e=>this.1 ((hset x).2 (.inl e)),this.2⟩
   ·simp at hx;subst hx;exact⟨hs,hb⟩
  ·refine List.nodup_append.2 ⟨v.nodup,by simp,fun a ha c hc e=> ?_⟩
   simp at hc
   subst e;subst hc
   exact(v.fresh a ha).1 ((hset a).2 (.inr rfl))
  ·rcases List.mem_append.1 hx with hx|hx
   ·exact c x hx u hu
   ·simp at hx;subst hx
    exact t u (List.mem_reverse.2 hu)
  ·rcases p x hx with h|⟨q,h1,h2⟩
   ·exact⟨b,List.mem_reverse.1 h,qv.last hx⟩
   ·exact⟨q,h1,by simpa using h2.app [] [b]⟩
end
theorem uC {s:DS} {b:Nat} (hb:b<s.seen.length) (hs: ¬s.seen[b]? =some true):cz ⟨s.seen.set b true,s.left⟩+1=cz s:=by
 have hf:s.seen[b]? =some false:=by
  rw[aQ hb] at hs ⊢
  cases h:s.seen[b] with
  |true=>rw[h] at hs;exact absurd rfl hs
  |false=>rfl
 exact countP_set hf
theorem CE {cT:List (List Nat)} {k:Nat} (ih: ∀b s,(visitM cT k b s).seen.length=s.seen.length): ∀(l:List Nat) (s:DS),(foldM cT k l s).seen.length=s.seen.length
 |[],s=>rfl
 |t::l,s=>by
  rw[qE,CE ih l]
  split
  ·rfl
  ·exact ih t s
theorem Ax (cT:List (List Nat)): ∀(k b:Nat) (s:DS),(visitM cT k b s).seen.length=s.seen.length
 |0,_,_=>rfl
 |k+1,b,s=>by
  rw[lz]
  dsimp only
  rw[CE (Ax cT k)]
  simp
theorem qh {cT:List (List Nat)} {k n:Nat} (ih: ∀b s,s.seen.length=n→b<n→ ¬s.seen[b]? =some true→(visitM cT k b s).left.length+cz (visitM cT k b s)≤s.left.length+cz s):
  ∀(l:List Nat) (s:DS),s.seen.length=n→(∀t∈l,t<n)→(foldM cT k l s).left.length+cz (foldM cT k l s)≤s.left.length+cz s
 |[],s,_,_=>Nat.le_refl _
 |t::l,s,hn,hl=>by
  rw[qE]
  split
  ·exact qh ih l s hn (fun x hx=>hl x (List.mem_cons_of_mem _ hx))
  ·rename_i h
   have h1:=ih t s hn (hl t (List.mem_cons_self ..)) h
   have h2:=qh ih l (visitM cT k t s) (by rw[Ax];exact hn) (fun x hx=>hl x (List.mem_cons_of_mem _ hx))
   omega
theorem wZ {cT:List (List Nat)} {n:Nat} (ht: ∀b t,t∈row cT b→t<n): ∀(k b:Nat) (s:DS),s.seen.length=n→b<n→ ¬s.seen[b]? =some true→(visitM cT k b s).left.length+cz (visitM cT k b s)≤s.left.length+cz s
 |0,_,_,_,_,_=>Nat.le_refl _
 |k+1,b,s,hn,hb,hs=>by
  have h1:=uC (s:=s) (b:=b) (by omega) hs
  have h2:=qh (wZ ht k) (row cT b).reverse ⟨s.seen.set b true,s.left⟩ (by simpa using hn) (fun t ht'=>ht b t (List.mem_reverse.1 ht'))
  rw[lz]
  dsimp only at h2 ⊢
  rw[List.length_append]
  have:cz ⟨(foldM cT k (row cT b).reverse ⟨s.seen.set b true,s.left⟩).seen,(foldM cT k (row cT b).reverse ⟨s.seen.set b true,s.left⟩).left++[b]⟩=cz (foldM cT k (row cT b).reverse ⟨s.seen.set b true,s.left⟩):=rfl
  rw[this]
  simp only[List.length_singleton]
  omega
theorem zY (l:List Bool) (b:Nat):(l.set b true).countP (fun x=> !x)≤l.countP (fun x=> !x):=by
 induction l generalizing b with
 |nil=>simp
 |cons a l ih=>
  cases b with
  |zero=>rw[List.set_cons_zero,List.countP_cons,List.countP_cons];simp
  |succ b=>rw[List.set_cons_succ,List.countP_cons,List.countP_cons];have:=ih b;omega
theorem rN {cT:List (List Nat)} {k:Nat} (ih: ∀b s,cz (visitM cT k b s)≤cz s): ∀(l:List Nat) (s:DS),cz (foldM cT k l s)≤cz s
 |[],s=>Nat.le_refl _
 |t::l,s=>by
  rw[qE]
  refine Nat.le_trans (rN ih l _) ?_
  split
  ·exact Nat.le_refl _
  ·exact ih t s
theorem vT (cT:List (List Nat)): ∀(k b:Nat) (s:DS),cz (visitM cT k b s)≤cz s
 |0,_,_=>Nat.le_refl _
 |k+1,b,s=>by
  rw[lz]
  have h1:=rN (vT cT k) (row cT b).reverse ⟨s.seen.set b true,s.left⟩
  have h2:cz ⟨s.seen.set b true,s.left⟩≤cz s:=zY _ _
  exact Nat.le_trans h1 h2
def jM (cT:List (List Nat)) (n:Nat):List Nat:=(visitM cT n 0 ⟨List.replicate n false,[]⟩).left
theorem sy {cT:List (List Nat)} {n:Nat} (h0:0<n) (ht: ∀b t,t∈row cT b→t<n):
  (jM cT n).Nodup∧(∀x∈jM cT n,x<n)∧(∃new,jM cT n=new++[0])∧(∀x∈jM cT n,∀t∈row cT x,t∈jM cT n)∧ ∀x∈jM cT n,x≠0→ ∃p,x∈row cT p∧qv (jM cT n) x p:=by
 obtain⟨new,v,c,p⟩:=Dp ht n 0 ⟨List.replicate n false,[]⟩ (by simp) h0 (by simp[List.getElem?_replicate]) (by
  unfold cz
  exact Nat.le_trans (List.countP_le_length) (by simp))
 have hl:jM cT n=new++[0]:=by unfold jM;rw[v.left];simp
 rw[hl]
 refine⟨v.nodup,fun x hx=>(v.fresh x hx).2,⟨new,rfl⟩,fun x hx t ht=> ?_,fun x hx h=> ?_⟩
 ·have:=(v.seen t).1 (c x hx t ht)
  rcases this with h|h
  ·simp[List.getElem?_replicate] at h
  ·exact h
 ·rcases List.mem_append.1 hx with hx|hx
  ·exact p x hx
  ·simp at hx;exact absurd hx h
end Go.AI.Dfs
namespace Go.Proofs.YtdkdbjecehcekaaGreatDoor
open Go.AI
def nf:Enc Bool:=⟨fun x=>[.bool x],1,fun _=>rfl,by decide,fun _=>rfl⟩
@[simp] theorem OQ:nf.sz=1:=rfl
@[simp] theorem OK (x:Bool):nf.enc x=[.bool x]:=rfl
theorem yl {h:ae} {W:Nat} {ws:List Bool} {o s:Nat} {ro:Bool} (hW:h.tr.get W=some (.aA (nf.flat ws) ro o s)) {k:Nat} {x:Bool} (hk:ws[k]? =some x):aT h W k 1=some [.bool x]:=by
 have hl:=(bY.mp hk).1
 rw[cN hW (by rw[nf.bt];show k+1≤ws.length*1;omega)]
 have:=nf.kD ws k 0 1 x hk (by decide)
 simp only[Nat.add_zero] at this
 rw[show k=k*nf.sz from(Nat.mul_one k).symm,this]
 rfl
theorem CW (ws:List Bool) (i:Nat) (x:Bool) (h:i<ws.length):aK (nf.flat ws) i [.bool x]=nf.flat (ws.set i x):=by
 have:=nf.fK ws i x h
 simpa using this
def mh (bs:List GB):List (List Nat):=bs.map fun b=>b.to.map Int.toNat
structure G7 (h0 h:ae) (n S sb Fb V Lf:Nat) (name:ByteArray) (p r:Int) (B L:SV) (s:Dfs.DS):Prop where
 g:ab aG h0 h
 n1:h0.next≤sb
 n2:h0.next≤Lf
 hS: ∃t,h.tr.get S=some (.aA [.slice (some ⟨sb,0,none⟩) n n] false 0 t)
 rD: ∃t,h.tr.get sb=some (.aA (nf.flat s.seen) false 0 t)
 hF: ∃t,h.tr.get Fb=some (.aA (ak name p r B) false 0 t)
 hV: ∃t,h.tr.get V=some (.aA [.func (.func gX) #[] #[.pointer (some ⟨S,0,none⟩),.pointer (some ⟨Fb,0,none⟩),.pointer (some ⟨V,0,none⟩),.pointer (some ⟨Lf,0,none⟩)]] false 0 t)
 hL: ∃t,h.tr.get Lf=some (.aA [L.v] false 0 t)
 acc:cj aY h0.next h L.v (s.left.map fun x:Nat=>(x:Int))
 len:s.seen.length=n
 ll:s.left.length+Dfs.cz s≤n
 ne:S≠sb∧S≠Lf∧sb≠Fb∧sb≠V∧sb≠Lf∧Fb≠Lf∧V≠Lf
 rP: ∀b,av L.v b→b≠S∧b≠sb∧b≠Fb∧b≠V∧b≠Lf
def PW (sb Lf:Nat) (L:SV) (x:Nat):Prop:=x=sb∨x=Lf∨av L.v x
def Jo (S sb Fb V Lf:Nat) (L:SV) (x:Nat):Prop:=x=S∨x=sb∨x=Fb∨x=V∨x=Lf∨av L.v x
theorem G7.pK {h0 h h':ae} {n S sb Fb V Lf:Nat} {name:ByteArray} {p r:Int} {B L:SV} {s:Dfs.DS} (w:G7 h0 h n S sb Fb V Lf name p r B L s) {Q:Nat→Prop} (g:ab Q h h') (hq: ∀x,Jo S sb Fb V Lf L x→ ¬Q x) (g0:ab aG h0 h'):G7 h0 h' n S sb Fb V Lf name p r B L s:=by
 obtain⟨t1,h1⟩:=w.hS
 obtain⟨t2,h2⟩:=w.rD
 obtain⟨t3,h3⟩:=w.hF
 obtain⟨t4,h4⟩:=w.hV
 obtain⟨t5,h5⟩:=w.hL
 have ok:=w.g.ok
 exact⟨g0,w.n1,w.n2,⟨t1,g.get ok h1 (hq _ (.inl rfl))⟩,⟨t2,g.get ok h2 (hq _ (.inr (.inl rfl)))⟩,⟨t3,g.get ok h3 (hq _ (.inr (.inr (.inl rfl))))⟩,⟨t4,g.get ok h4 (hq _ (.inr (.inr (.inr (.inl rfl)))))⟩,⟨t5,g.get ok h5 (hq _ (.inr (.inr (.inr (.inr (.inl rfl))))))⟩,
  w.acc.grow ok g (fun b hb=>hq _ (.inr (.inr (.inr (.inr (.inr hb)))))),w.len,w.ll,w.ne,w.rP⟩
theorem G7.bl {h0 h:ae} {n S sb Fb V Lf:Nat} {name:ByteArray} {p r:Int} {B L:SV} {s:Dfs.DS} (w:G7 h0 h n S sb Fb V Lf name p r B L s): ∀x,Jo S sb Fb V Lf L x→x<h.next:=by
 obtain⟨t1,h1⟩:=w.hS
 obtain⟨t2,h2⟩:=w.rD
 obtain⟨t3,h3⟩:=w.hF
 obtain⟨t4,h4⟩:=w.hV
 obtain⟨t5,h5⟩:=w.hL
 have ok:=w.g.ok
 rintro x (rfl|rfl|rfl|rfl|rfl|⟨off,m,cap,e⟩)
 ·exact ok.wf _ _ h1
 ·exact ok.wf _ _ h2
 ·exact ok.wf _ _ h3
 ·exact ok.wf _ _ h4
 ·exact ok.wf _ _ h5
 ·rcases w.acc with⟨_,e2⟩|⟨b2,s2,e2,hb2,_⟩
  ·rw[e2] at e;cases e
  ·rw[e2] at e;cases e;exact ok.wf _ _ hb2
def oy:aj:=(.block 1 (.seq (.ops [l_ 21 1,m_ 22 7,a_ 23 1 21 22,l_ 24 23,o_ 25 (.un .not (t_ 24))]) (.cond (t_ 25) (.ops [l_ 26 3,m_ 27 7,o_ 28 (.call (t_ 26) [t_ 27])]) .skip)))
def sf:aj:=(.ops [⟨(some 7),none,(.mv (.tmp 20))⟩])
def Bc:aj:=(.ops [⟨(some 8),none,(.load none (.tmp 1))⟩,⟨(some 9),none,(.mv (.tmp 0))⟩,⟨(some 10),none,(.cw none 1 (.tmp 8) (.tmp 9))⟩,⟨none,none,(.store 1 (.tmp 10) (.const (.bool true)))⟩])
def Mm:aj:=(.ops [f_ 11 3 2,l_ 12 11,m_ 13 0,a_ 14 6 12 13,f_ 15 2 14,f_ 16 3 15,l_ 17 16,o_ 18 (.call (.func eT) [t_ 17])])
def FK:aj:=(.ops [l_ 29 4,m_ 30 0,o_ 31 (.ct 1 [(.int .i64 0)] [(0,(1,(t_ 30)))]),o_ 32 (.append [(.int .i64 0)] 8 false (t_ 29) (t_ 31)),s_ 1 4 32])
theorem Jk:rQ= .seq Bc (.seq (.seq Mm (.block 0 (.AM (.tmp 18) [19,20] sf oy))) FK):=rfl
def JE (h0 h:ae) (n S sb Fb V Lf:Nat) (name:ByteArray) (p r:Int) (B L:SV) (s':Dfs.DS) (h':ae):Prop:=
 ∃L':SV,G7 h0 h' n S sb Fb V Lf name p r B L' s'∧ab (PW sb Lf L) h h'∧ ∀x,av L'.v x→av L.v x∨h.next≤x
theorem K0 {h0 h:ae} {n S sb Fb V Lf b:Nat} {name:ByteArray} {p r:Int} {B L:SV} {s:Dfs.DS} (hn:n≤1000) (w:G7 h0 h n S sb Fb V Lf name p r B L s) (hll:s.left.length+1+Dfs.cz s≤n) {e:Env} (f0:Env.get e 0= .int .i64 b) (f4:Env.get e 4= .pointer (some ⟨Lf,0,none⟩)) {Q:aO→Env→ae→Prop}
  (H: ∀e' h',JE h0 h n S sb Fb V Lf name p r B L ⟨s.seen,s.left++[b]⟩ h'→Q .normal e' h'):az FF FK e h Q:=by
 obtain⟨t5,hL⟩:=w.hL
 have ok:=w.g.ok
 simp at hL
 unfold FK
 simp[f0,f4,hL]
 have g4:=aI ok (aY.enc (b:Int)) 0
 have hA4:=w.acc.grow ok g4 (fun _ _ h=>h)
 have hw4:aS aY (aH h (aY.enc (b:Int)) 0) (.slice (some ⟨h.next,0,none⟩) 1 1) [(b:Int)]:=⟨_,_,rfl,.inr ⟨h.next,0,_,_,_,_,rfl,bH _ _ _,by simp,by simp⟩⟩
 have h0n:=w.g.next
 obtain⟨v',h5,ha,hA5,g5,hd5⟩:=qn (bytes:=8) g4.ok (z:=[.int .i64 0]) rfl hA4 hw4 (by simp;omega) (by decide) (by show h0.next≤h.next+1;omega)
 refine jV ha ?_
 obtain⟨W,rfl⟩:=cj.MG hA5
 have ow:=w.bl
 have ex:ab (av L.v) h h5:=g4.aW.trans g5
 have hL5:=ex.get ok hL (fun e=>(w.rP _ e).2.2.2.2 rfl)
 have lo: ∀x,av L.v x→h0.next≤x:=fun x hx=>w.acc.of hx
 have g05:ab aG h0 h5:=w.g.trans' ex (fun _ _ h=>h) (fun x hx e=>by have:=lo x e;omega)
 simp[hL5,f4]
 obtain⟨t1,h1⟩:=w.hS
 obtain⟨t2,h2⟩:=w.rD
 obtain⟨t3,h3⟩:=w.hF
 obtain⟨t4,h4⟩:=w.hV
 obtain⟨m1,m2,m3,m4,m5,m6,m7⟩:=w.ne
 have gp:ab (· =Lf) h5 (put h5 Lf 0 [.slice L.a L.l L.c] [.slice W.a W.l W.c] 0):=aJ g05.ok hL5
 have kp: ∀x (ob:nr),h.tr.get x=some ob→ ¬av L.v x→x≠Lf→(put h5 Lf 0 [.slice L.a L.l L.c] [.slice W.a W.l W.c] 0).tr.get x=some ob:=fun x ob hx n1 n2=>gp.get g05.ok (ex.get ok hx n1) n2
 have lW: ∀x,av W.v x→h.next+1≤x:=fun x hx=>by have:=hd5 x hx;simp at this;omega
 refine H _ _ ⟨W,⟨g05.put ⟨_,hL5⟩ (.inl w.n2),w.n1,w.n2,⟨t1,kp _ _ h1 (fun e=>(w.rP _ e).1 rfl) m2⟩,⟨t2,kp _ _ h2 (fun e=>(w.rP _ e).2.1 rfl) m5⟩,⟨t3,kp _ _ h3 (fun e=>(w.rP _ e).2.2.1 rfl) m6⟩,⟨t4,kp _ _ h4 (fun e=>(w.rP _ e).2.2.2.1 rfl) m7⟩,⟨h5.clock,by simp⟩,?_,w.len,?_,w.ne,fun x hx=> ?_⟩,?_,fun x hx=> .inr (by have:=lW x hx;omega)⟩
 ·have:=hA5.grow g05.ok gp (fun x hx e=>by have:=lW x hx;have:=ow Lf (.inr (.inr (.inr (.inr (.inl rfl)))));omega)
  simpa using this
 ·have:Dfs.cz ⟨s.seen,s.left++[b]⟩=Dfs.cz s:=rfl
  rw[this];simp;omega
 ·have:=lW x hx
  have o1:=ow S (.inl rfl)
  have o2:=ow sb (.inr (.inl rfl))
  have o3:=ow Fb (.inr (.inr (.inl rfl)))
  have o4:=ow V (.inr (.inr (.inr (.inl rfl))))
  have o5:=ow Lf (.inr (.inr (.inr (.inr (.inl rfl)))))
  exact⟨by omega,by omega,by omega,by omega,by omega⟩
 ·exact ex.trans' gp (fun x _ h=> .inr (.inr h)) (fun x _ e=> .inr (.inl e)) |>.bM (fun _ _ h=>h)
end Go.Proofs.YtdkdbjecehcekaaGreatDoor
