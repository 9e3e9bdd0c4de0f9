/- Parts of the proof. -/
import Derived.Test.YtdkdbjecehcekaaGreatDoorP16
import Derived.KernelRfl
import Derived.Test.YtdkdbjecehcekaaGreatDoorP07
import Derived.Test.YtdkdbjecehcekaaGreatDoorP09
set_option linter.all false
set_option linter.unusedSimpArgs false
set_option linter.unusedVariables false
set_option linter.unnecessarySimpa false
namespace Go.Proofs.YtdkdbjecehcekaaGreatDoor
open Go.AI
theorem Kg {h:ae} (ok:bh h) {words:Int} (hw:0≤words∧words<1000000000) {W sW:Nat} (hW:h.tr.get W=some (.aA [.int .i64 words] false 0 sW)) {name:ByteArray} {p n0 ai:Nat} {κ0 cap0:Nat→Nat} {B:SV} {rs:List XR} (hn0:n0≤h.next) (O:ou h n0 ai κ0 cap0 B rs) (T:TF rs) (hq: ∀r∈rs,∀x∈r.ls,fO words x=true→0≤x.dst) (hp:p≤ai) (hreg:ai<1000000):
  bZ FF (.func (.func jK) #[] #[.pointer (some ⟨W,0,none⟩)]) [.agg ⟨ak name p ai B⟩] h (Gc words name p n0 ai κ0 rs h):=by
 have κnew: ∀x,h.next≤x→κ0 x=0:=fun x hx=>by
  have hw:=O.os.new x
  rcases Nat.eq_zero_or_pos (κ0 x) with h1|h1
  ·exact h1
  ·have:=(hw (by omega)).2;omega
 refine bZ.func ?_
 refine aE.of DY ?_
 unfold xf
 have n1: ¬h.next=h.next+1:=by omega
 have lW:=ok.wf _ _ hW
 have oW:=ok.bl hW
 have nW1: ¬W=h.next:=by omega
 have nW2: ¬W=h.next+1:=by omega
 simp[ak,n1,hW,nW1,nW2]
 refine aD.cut (fun h1=>ab aG h h1∧(∃s,h1.tr.get (h.next+1)=some (.aA [.string ⟨⟨[]⟩⟩,.int .i64 0,.int .i64 0,.slice none 0 0] false 0 s))) ?_ ?_
 ·exact⟨((ab.refl ok).new _ _).new _ _,⟨0,by simp⟩⟩
 rintro h1 ⟨g1,⟨sR,hR1⟩⟩
 have l1:=g1.next
 have lR:=g1.ok.wf _ _ hR1
 refine aD.call (V:=Gc words name p n0 ai κ0 rs h1) (by simpa [ak] using HZ g1.ok hw (name:=name) (p:=p) (by omega) (O.aW ok g1) T hq hp hreg) ?_
 rintro _ h2 ⟨g2,B2,rs2,κ2,cap2,many,rfl,hm,hlow,O2,hl2,hs2,hlo2⟩
 have hR2:=g2.get g1.ok hR1 (fun e=>e (κnew _ (by omega)))
 simp[ak,hR2]
 have gw:=(ab.refl g2.ok).put (S:=(· =h.next+1)) (off:=0) (vs:=[Value.string name,Value.int .i64 p,Value.int .i64 many,Value.slice B2.a B2.l B2.c]) ⟨_,hR2⟩ (.inr rfl)
 generalize put h2 _ _ _ _ _=h3 at gw ⊢
 have κR2:κ2 (h.next+1)=0:=by rw[hlow _ (by omega)];exact κnew _ (by omega)
 exact⟨(g1.aW.trans g2).trans' gw (fun _ _ e=>e) (fun x hx e=>by omega),B2,rs2,κ2,cap2,many,by simp[ak],hm,fun x hx=>hlow x (by omega),O2.grow g2.ok gw (fun b e=>by rw[e];exact κR2),hl2,hs2,hlo2⟩
structure XG where
 name:ByteArray
 size:Int
 I:SV
def xX:Enc XG:=⟨fun x=>[.string x.name,.int .i64 x.size,x.I.v],3,fun _=>rfl,by decide,fun _=>rfl⟩
@[simp] theorem OO:xX.sz=3:=rfl
@[simp] theorem I7 (x:XG):xX.enc x=[.string x.name,.int .i64 x.size,x.I.v]:=rfl
structure XF where
 name:ByteArray
 params:Int
 ai:Int
 B:SV
def vf:Enc XF:=⟨fun x=>ak x.name x.params x.ai x.B,4,fun _=>rfl,by decide,fun _=>rfl⟩
@[simp] theorem Pc:vf.sz=4:=rfl
@[simp] theorem N_ (x:XF):vf.enc x=[.string x.name,.int .i64 x.params,.int .i64 x.ai,x.B.v]:=rfl
def Mv (h:ae) (y:XG) (g:GG):Prop:=y.name=g.name∧y.size=g.size∧SliceR nR 1 h y.I.v g.init
theorem OI {h:ae} {v:Value} {gs:List GG} (s:SliceR (gR h) 3 h v gs): ∃ys:List XG,ys.length=gs.length∧aS xX h v ys∧ ∀(i:Nat) (y:XG) (g:GG),ys[i]? =some y→gs[i]? =some g→Mv h y g:=
 SliceR.pick (E:=xX) (Q:=Mv h) s (fun c x ⟨I,e,hI⟩=>⟨⟨x.name,x.size,I⟩,e,rfl,rfl,hI⟩)
def FZ (h:ae) (y:XF) (f:GF):Prop:=y.name=f.name∧y.params=f.params∧y.ai=f.ai∧wB h y.B f.blocks
theorem Ow {h:ae} {v:Value} {fs:List GF} (s:SliceR (fR h) 4 h v fs): ∃ys:List XF,ys.length=fs.length∧aS vf h v ys∧ ∀(i:Nat) (y:XF) (f:GF),ys[i]? =some y→fs[i]? =some f→FZ h y f:=
 SliceR.pick (E:=vf) (Q:=FZ h) s (fun c x ⟨B,e,hB⟩=>⟨⟨x.name,x.params,x.ai,B⟩,e,rfl,rfl,rfl,hB⟩)
def D0 (ys:List XG) (gs:List GG):Prop:=ys.length=gs.length∧ ∀(i:Nat) (y:XG) (g:GG),ys[i]? =some y→gs[i]? =some g→y.name=g.name∧y.size=g.size
def Qe (h0 h:ae) (G F f:SV) (U R1 R2:Nat) (fv:Value) (gs:List GG) (m:Nat) (e:Env) (h':ae):Prop:=
 ∃(j:Nat) (ys:List XG),m=gs.length-j∧j≤gs.length∧Env.get e 1=fv∧Env.get e 2= .pointer (some ⟨U,0,none⟩)∧Env.get e 4= .pointer (some ⟨R1,0,none⟩)∧Env.get e 5= .pointer (some ⟨R2,0,none⟩)∧Env.get e 15=G.v∧Env.get e 16= .int .i64 gs.length∧Env.get e 17= .int .i64 j∧
  ab (av G.v) h h'∧eJ xX h' G ys∧D0 ys gs∧ ∀(i:Nat) (y:XG) (g:GG),j≤i→ys[i]? =some y→gs[i]? =some g→SliceR nR 1 h0 y.I.v g.init
theorem Bi {h0 h:ae} (ok0:bh h0) (g0:ab aG h0 h) {G F f:SV} {U R1 R2 sU:Nat} {fv:Value} {gs:List GG} {ys:List XG} (hU:h.tr.get U=some (.aA [G.v,F.v] false 0 sU)) (nU: ¬av G.v U) (hG:eJ xX h G ys) (hGn: ∀b,av G.v b→h0.next≤b) (hys:D0 ys gs) (hI: ∀(i:Nat) (y:XG) (g:GG),ys[i]? =some y→gs[i]? =some g→SliceR nR 1 h0 y.I.v g.init) (hgl:gs.length≤10) (hin: ∀g∈gs,g.init.length≤1048576)
  {e:Env} {Q:aO→Env→ae→Prop} (f1:Env.get e 1=fv) (f2:Env.get e 2= .pointer (some ⟨U,0,none⟩)) (f4:Env.get e 4= .pointer (some ⟨R1,0,none⟩)) (f5:Env.get e 5= .pointer (some ⟨R2,0,none⟩)) (f15:Env.get e 15=G.v) (f16:Env.get e 16= .int .i64 gs.length) (f17:Env.get e 17= .int .i64 0)
  (C: ∀e' h' ys',Env.get e' 1=fv→Env.get e' 2= .pointer (some ⟨U,0,none⟩)→Env.get e' 4= .pointer (some ⟨R1,0,none⟩)→Env.get e' 5= .pointer (some ⟨R2,0,none⟩)→ab (av G.v) h h'→eJ xX h' G ys'→D0 ys' gs→Q (.exit 0) e' h'):az FF (.loop np) e h Q:=by
 have hGl:=hG.len
 refine az.loop (Qe h0 h G F f U R1 R2 fv gs) ?_ (n:=gs.length) ⟨0,ys,rfl,by omega,f1,f2,f4,f5,f15,f16,f17,.refl g0.ok,hG,hys,fun i y g _ a b=>hI i y g a b⟩
 rintro m e' h' ⟨j,zs,rfl,hj,q1,q2,q4,q5,q15,q16,q17,g,hG',hzs,hI'⟩
 have ok':=g.ok
 have gg:ab aG h0 h':=g0.trans' g (fun _ _ h=>h) (fun x hx e=>by have:=hGn x e;omega)
 have hU':=g.get g0.ok hU nU
 have hU2:=hU'
 simp at hU2
 have hst:=ok'.st _ _ _ _ _ hU'
 have oU:=ok'.bl hU'
 unfold np
 by_cases hjl:j<gs.length
 ·have wj:=wrap_i64 ((j:Int)+1) (by omega) (by omega)
  obtain⟨y,hy⟩: ∃y,zs[j]? =some y:=⟨_,aQ (by rw[hzs.1];exact hjl)⟩
  obtain⟨gj,hgj⟩: ∃y,gs[j]? =some y:=⟨_,aQ hjl⟩
  have sI:=hI' j y gj (Nat.le_refl _) hy hgj
  obtain⟨b,cs,o,s,ha,hb,hjA,hfit,hrd,hset⟩:=hG'.el hy
  have hGl':=hG'.len
  have rd:=hrd 0 3 (by decide)
  simp[-ag] at rd
  rw[ha,hGl',hzs.1] at hU2
  simp at q15
  rw[ha,hGl',hzs.1] at q15
  have nUb: ¬U=b:=fun e=>nU (e▸bN ha)
  simp[q2,q15,q16,q17,hjl,rd,-ag,aq,bg,aL,aw hU2,oU,aB]
  refine aP.cut (fun h2=>ab aG h' h2) (((ab.refl ok').var _ _).tick) ?_
  intro h2 g2
  have hU3:=g2.get ok' hU2 (fun h=>h)
  have hb3:=g2.get ok' hb (fun h=>h)
  refine aP.call (V:=pF aY h2 gj.init) (by simpa using iy aY (bytes:=8) jX rfl (by decide) g2.ok ((My sI).aW ok0 (gg.trans g2)) (by have:=hin gj (di hgj);omega)) ?_
  rintro _ h3 ⟨g3,I',rfl,_,_,_⟩
  have hU4:=g3.get g2.ok hU3 (fun h=>h)
  have hb4:=g3.get g2.ok hb3 (fun h=>h)
  have hst2:sU≤h'.clock+1:=by omega
  have hf:=hfit 2 1 (by decide)
  simp at hf
  simp[q2,hU4,hst2,hjl,hb4,hf,q17,wj]
  have g4:=aJ (off:=j*3+2) (vs:=[Value.slice I'.a I'.l I'.c]) g3.ok hb4
  have A4:=hset { y with I:=I' } 2 [Value.slice I'.a I'.l I'.c] (by simp) rfl (put h3 b (j*3+2) cs [Value.slice I'.a I'.l I'.c] o) ⟨h3.clock,by simp⟩
  refine⟨gs.length-(j+1),by omega,j+1,zs.set j { y with I:=I' },rfl,hjl,by simp[q1],by simp[q2],by simp[q4],by simp[q5],by simp[q15,ha,hGl',hzs.1],by simp[q16],by simp,((g.trans g2.aW).trans g3.aW).trans (g4.bM (fun x _ e=>e▸bN ha)),A4,⟨by simp[hzs.1],fun i a c h1 h2=> ?_⟩,fun i a c hi h1 h2=> ?_⟩
  ·rw[List.getElem?_set] at h1
   by_cases e1:j=i
   ·subst e1
    rw[if_pos rfl,if_pos (by rw[hzs.1];exact hjl)] at h1
    cases h1
    exact hzs.2 j y c hy h2
   ·rw[if_neg e1] at h1
    exact hzs.2 i a c h1 h2
  ·rw[List.getElem?_set,if_neg (by omega)] at h1
   exact hI' i a c (by omega) h1 h2
 ·have:j=gs.length:=by omega
  subst this
  simp[q16,q17]
  exact C _ _ zs (by simp[q1]) (by simp[q2]) (by simp[q4]) (by simp[q5]) g hG' hzs
def vh (M:Nat) (words:Int) (h:ae) (z:XF) (f:GF):Prop:=
 ∃(n0 ai:Nat) (κ cap:Nat→Nat) (rs:List XR),ou h n0 ai κ cap z.B rs∧(∀x,x<M→κ x=0)∧rs.length≤24∧(∀r∈rs,r.ps.length≤300∧r.ls.length≤300)∧fC words rs=iX words f.blocks
theorem vh.grow {S:Nat→Prop} {M:Nat} {words:Int} {h h':ae} {z:XF} {f:GF} (d:vh M words h z f) (ok:bh h) (g:ab S h h') (hS: ∀b,S b→b<M∨h.next≤b):vh M words h' z f:=by
 obtain⟨n0,ai,κ,cap,rs,O,hlo,a,b,c⟩:=d
 refine⟨n0,ai,κ,cap,rs,O.grow ok g (fun x hx=> ?_),hlo,a,b,c⟩
 rcases hS x hx with h1|h1
 ·exact hlo x h1
 ·have hw:=O.os.new x
  rcases Nat.eq_zero_or_pos (κ x) with h2|h2
  ·exact h2
  ·have:=(hw (by omega)).2;omega
structure Ma (f:GF):Prop where
 F:ml f
 L:yk f
 S:oJ f.blocks
def Pr (h0 hL:ae) (words:Int) (F:SV) (U R1 R2:Nat) (fv:Value) (fs:List GF) (m:Nat) (e:Env) (h':ae):Prop:=
 ∃(k:Nat) (zs:List XF),m=fs.length-k∧k≤fs.length∧Env.get e 1=fv∧Env.get e 2= .pointer (some ⟨U,0,none⟩)∧Env.get e 4= .pointer (some ⟨R1,0,none⟩)∧Env.get e 5= .pointer (some ⟨R2,0,none⟩)∧Env.get e 36=F.v∧Env.get e 37= .int .i64 fs.length∧Env.get e 38= .int .i64 k∧
  ab (av F.v) hL h'∧eJ vf h' F zs∧zs.length=fs.length∧(∀(i:Nat) (z:XF) (f:GF),i<k→zs[i]? =some z→fs[i]? =some f→vh hL.next words h' z f)∧ ∀(i:Nat) (z:XF) (f:GF),k≤i→zs[i]? =some z→fs[i]? =some f→FZ h0 z f
theorem ES {h0 hL:ae} (ok0:bh h0) (g0:ab aG h0 hL) {words:Int} (hw:0≤words∧words<1000000000) {W sW:Nat} {G F:SV} {U R1 R2 sU s1 s2:Nat} {fs:List GF} {zs0:List XF} (hW:hL.tr.get W=some (.aA [.int .i64 words] false 0 sW)) (hU:hL.tr.get U=some (.aA [G.v,F.v] false 0 sU)) (hR1:hL.tr.get R1=some (.aA [.slice none 0 0,.slice none 0 0] false 0 s1)) (hR2:hL.tr.get R2=some (.aA [.int .i64 0,.int .i64 0] false 0 s2)) (n12: ¬R1=R2) (nW: ¬av F.v W) (nU: ¬av F.v U) (nR1: ¬av F.v R1) (nR2: ¬av F.v R2)
  (hF:eJ vf hL F zs0) (hFn: ∀b,av F.v b→h0.next≤b) (hzl:zs0.length=fs.length) (hz: ∀(i:Nat) (z:XF) (f:GF),zs0[i]? =some z→fs[i]? =some f→FZ h0 z f) (hfl:fs.length≤10) (hok: ∀f∈fs,Ma f)
  {e:Env} {Q:aO→Env→ae→Prop} (f1:Env.get e 1= .func (.func jK) #[] #[.pointer (some ⟨W,0,none⟩)]) (f2:Env.get e 2= .pointer (some ⟨U,0,none⟩)) (f4:Env.get e 4= .pointer (some ⟨R1,0,none⟩)) (f5:Env.get e 5= .pointer (some ⟨R2,0,none⟩)) (f36:Env.get e 36=F.v) (f37:Env.get e 37= .int .i64 fs.length) (f38:Env.get e 38= .int .i64 0)
  (bad: ∀e' h' a,Env.get e' 4= .pointer (some ⟨R1,0,none⟩)→Env.get e' 5= .pointer (some ⟨R2,0,none⟩)→ab (fun b=>av F.v b∨b=R1∨b=R2) hL h'→(∃s,h'.tr.get R1=some (.aA [.slice none 0 0,.slice none 0 0] false 0 s))→(∃s,h'.tr.get R2=some (.aA [.int .i64 10,.int .i64 a] false 0 s))→Q .ret e' h')
  (ot: ∀e' h' zs,Env.get e' 2= .pointer (some ⟨U,0,none⟩)→Env.get e' 4= .pointer (some ⟨R1,0,none⟩)→Env.get e' 5= .pointer (some ⟨R2,0,none⟩)→ab (av F.v) hL h'→eJ vf h' F zs→zs.length=fs.length→(∀(i:Nat) (z:XF) (f:GF),zs[i]? =some z→fs[i]? =some f→vh hL.next words h' z f)→Q (.exit 2) e' h'):az FF (.loop nu) e hL Q:=by
 have okL:=g0.ok
 refine az.loop (Pr h0 hL words F U R1 R2 (.func (.func jK) #[] #[.pointer (some ⟨W,0,none⟩)]) fs) ?_ (n:=fs.length) ⟨0,zs0,rfl,by omega,f1,f2,f4,f5,f36,f37,f38,.refl okL,hF,hzl,fun i z f h=>by omega,fun i z f _ a b=>hz i z f a b⟩
 rintro m e' h' ⟨k,zs,rfl,hk,q1,q2,q4,q5,q36,q37,q38,g,hF',hzl',hD,hT⟩
 have ok':=g.ok
 have ln:=g.next
 have gg:ab aG h0 h':=g0.trans' g (fun _ _ h=>h) (fun x hx e=>by have:=hFn x e;omega)
 have hW':=g.get okL hW nW
 have hU':=g.get okL hU nU
 have hR1':=g.get okL hR1 nR1
 have hR2':=g.get okL hR2 nR2
 have hFl:=hF'.len
 unfold nu
 by_cases hkl:k<fs.length
 ·have wk:=wrap_i64 ((k:Int)+1) (by omega) (by omega)
  obtain⟨z,hzk⟩: ∃z,zs[k]? =some z:=⟨_,aQ (by omega)⟩
  obtain⟨f,hfk⟩: ∃z,fs[k]? =some z:=⟨_,aQ hkl⟩
  obtain⟨e1,e2,e3,hBs⟩:=hT k z f (Nat.le_refl _) hzk hfk
  have K:=hok f (di hfk)
  have hr:=K.F.head.ai
  have hp:=K.F.head.params
  obtain⟨pn,hpn⟩: ∃n:Nat,f.params=n:=⟨f.params.toNat,by omega⟩
  obtain⟨rn,hrn⟩: ∃n:Nat,f.ai=n:=⟨f.ai.toNat,by omega⟩
  obtain⟨b,cs,o,s,ha,hb,hjA,hfit,hrd,hset⟩:=hF'.el hzk
  have rd:=hrd 0 4 (by decide)
  simp[-ag] at rd
  rw[e1,e2,e3,hpn,hrn] at rd
  simp at q36
  rw[ha,hFl,hzl'] at q36
  simp[q36,q37,q38,q1,hkl,rd,-ag,aq]
  refine aD.cut (fun h2=>ab aG h' h2∧ ∃s,h2.tr.get h'.next=some (.aA (ak f.name pn rn z.B) false 0 s)) ?_ ?_
  ·exact⟨(ab.refl ok').var _ _,h'.clock,by simp[aK,ak]⟩
  rintro h2 ⟨g2,sX,hX2⟩
  have gg2:=gg.trans g2
  have hB2:wB h2 z.B f.blocks:=hBs.mono ok0 gg2
  have l2:=g2.next
  have lX:=g2.ok.wf _ _ hX2
  refine aD.call (V:=Mn f.name pn rn rn f.blocks h2) (by simpa [ak] using G8 g2.ok (name:=f.name) (p:=pn) (r:=rn) (ai:=rn) hB2 (fun b hb=>by have:=Jg K.F b hb;rw[hrn] at this;simpa using this) (by have:=K.F.head.blocks;omega)) ?_
  rintro _ h3 ⟨g3,B3,rs,κ,cap,rfl,O3,R3⟩
  have TF3:=KT K.F K.L K.S R3
  have hX3:=g3.get g2.ok hX2 (fun h=>h)
  have hW3:=g3.get g2.ok (g2.get ok' hW' (fun h=>h)) (fun h=>h)
  have κlo: ∀x,x<h2.next→κ x=0:=fun x hx=>by
   have hw:=O3.os.new x
   rcases Nat.eq_zero_or_pos (κ x) with h1|h1
   ·exact h1
   ·have:=(hw (by omega)).1;omega
  have hq3: ∀r∈rs,∀x∈r.ls,fO words x=true→0≤x.dst:=by
   intro r hrm x hx hq
   obtain⟨i,hi⟩:=pM hrm
   obtain⟨bb,hbb,rd⟩:=R3.at hi
   obtain⟨j,hj⟩:=pM hx
   obtain⟨q,hq2⟩: ∃q,bb.list[j]? =some q:=⟨_,aQ (by rw[←rd.ll];exact(bY.mp hj).1)⟩
   obtain⟨⟨c1,c2,c3,c4,c5⟩,_⟩:=rd.ls j x q hj hq2
   have I:=(K.F.body.Bm i bb hbb).list q (di hq2)
   rw[c2]
   refine G0 I (words:=words) ?_
   unfold fO at hq
   unfold kE
   rw[c1,c3,c4] at hq
   exact hq
  have l3:=g3.next
  simp[q1]
  refine aD.cm (V:=Gc words f.name pn h2.next rn κ rs h3) (by simpa [q1,ak] using Kg g3.ok hw hW3 (name:=f.name) (p:=pn) (by omega) O3 TF3 hq3 (by omega) (by omega)) ?_
  rintro _ h4 ⟨g4,B4,rs4,κ4,cap4,many,rfl,hm,hlow4,O4,hl4,hs4,hlo4⟩
  have G4:ab aG h' h4:=(g2.trans g3).trans' g4 (fun _ _ h=>h) (fun x hx e=>e (κlo x (by omega)))
  have hX4:=g4.get g3.ok hX3 (fun e=>e (κlo _ lX))
  have hX4':=hX4
  simp[ak] at hX4'
  simp[ak,hX4']
  refine aD.cut (fun h5=>ab (· =h'.next) h4 h5∧ ∃s,h5.tr.get h'.next=some (.aA [.string f.name,.int .i64 pn,.int .i64 many,.slice B4.a B4.l B4.c] false 0 s)) ?_ ?_
  ·exact⟨(ab.refl g4.ok).put ⟨_,hX4'⟩ (.inr rfl),h4.clock,by simp⟩
  rintro h5 ⟨g5,s5,hX5⟩
  have κX4:κ4 h'.next=0:=by rw[hlow4 _ (by omega)];exact κlo _ lX
  have O5:=O4.grow g4.ok g5 (fun x e=>by rw[e];exact κX4)
  have G5:ab aG h' h5:=G4.trans' g5 (fun _ _ h=>h) (fun x hx e=>by omega)
  obtain⟨bs5,hbs5,hV5⟩:=O5.view
  have C5:N4 bs5:=by
   refine⟨by rw[hV5.1];omega,fun b hb=> ?_⟩
   obtain⟨i,hi⟩:=pM hb
   obtain⟨r,hr⟩: ∃r,rs4[i]? =some r:=⟨_,aQ (by rw[←hV5.1];exact(bY.mp hi).1)⟩
   have v:=hV5.2 i r b hr hi
   have:=hs4 r (di hr)
   rw[v.pl,v.ll]
   omega
  refine aD.call (V:=vu h5) (by simpa [ak] using FD g5.ok (name:=f.name) (p:=pn) (r:=many) hbs5 C5) ?_
  rintro _ h6 ⟨g6,big,rfl⟩
  have G6:=G5.trans g6
  have GL6:ab (av F.v) hL h6:=g.trans G6.aW
  have hU6:=GL6.get okL hU nU
  have hR16:=GL6.get okL hR1 nR1
  have hR26:=GL6.get okL hR2 nR2
  have hX6:=g6.get g5.ok hX5 (fun h=>h)
  cases big with
  |true=>
   simp
   refine aD.call (by simpa using ie h6 g6.ok 10 (k:Int)) ?_
   rintro _ h7 ⟨rfl,g7⟩
   have hR17:=g7.get g6.ok hR16 (fun h=>h)
   have hR27:=g7.get g6.ok hR26 (fun h=>h)
   have n21: ¬R2=R1:=fun e=>n12 e.symm
   simp[q4,q5,hR17,hR27,n21]
   have GL7:ab (fun b=>av F.v b∨b=R1∨b=R2) hL h7:=(GL6.bM (fun x _ h=> .inl h)).trans g7.aW
   refine bad _ _ k (by simp[q4]) (by simp[q5]) ?_ ⟨h7.clock,by simp[n12]⟩ ⟨h7.clock+1,by simp⟩
   exact(GL7.put ⟨_,hR17⟩ (.inr (.inr (.inl rfl)))).put ⟨s2,by simp[n21,hR27]⟩ (.inr (.inr (.inr rfl)))
  |false=>
   have A6:=hF'.grow ok' G6 (fun _ _ h=>h)
   obtain⟨b6,cs6,o6,s6,ha6,hb6,hjA6,hfit6,hrd6,hset6⟩:=A6.el hzk
   rw[ha] at ha6;cases ha6
   have hU6':=hU6
   simp at hU6'
   rw[ha,hFl,hzl'] at hU6'
   have hf6:=hfit6 0 4 (by decide)
   simp at hf6
   simp[q2,hU6',hX6,hkl,hb6,hf6,q38,wk]
   have lb:b<hL.next:=hF.bl okL (bN ha)
   have g7:=aJ (off:=k*4) (vs:=[Value.string f.name,Value.int .i64 pn,Value.int .i64 many,Value.slice B4.a B4.l B4.c]) g6.ok hb6
   have A7:=hset6 ⟨f.name,pn,many,B4⟩ 0 [Value.string f.name,Value.int .i64 pn,Value.int .i64 many,Value.slice B4.a B4.l B4.c] (by simp) rfl (put h6 b (k*4) cs6 [Value.string f.name,Value.int .i64 pn,Value.int .i64 many,Value.slice B4.a B4.l B4.c] o6) ⟨h6.clock,by simp⟩
   have GL7:=GL6.trans (g7.bM (fun x _ e=>e▸bN ha))
   generalize put h6 b (k*4) cs6 _ o6=h7 at*
   have hkz:k<zs.length:=by omega
   refine⟨fs.length-(k+1),by omega,k+1,zs.set k ⟨f.name,pn,many,B4⟩,rfl,hkl,by simp[q1],by simp[q2],by simp[q4],by simp[q5],by simp[q36,ha,hFl,hzl'],by simp[q37],by simp,GL7,A7,by simp[hzl'],fun i z2 f2 hi h1 h2=> ?_,fun i z2 f2 hi h1 h2=> ?_⟩
   ·rw[List.getElem?_set] at h1
    by_cases e1:k=i
    ·subst e1
     rw[if_pos rfl,if_pos hkz] at h1
     cases h1
     rw[hfk] at h2;cases h2
     have D5:vh hL.next words h5 ⟨f.name,pn,many,B4⟩ f:=⟨_,rn,κ4,cap4,rs4,O5,fun x hx=>by rw[hlow4 x (by omega)];exact κlo x (by omega),hl4.2,hs4,hlo4.trans (Ih R3 words)⟩
     exact(D5.grow g5.ok g6 (fun _ h=>h.elim)).grow g6.ok g7 (fun x e=> .inl (by omega))
    ·rw[if_neg e1] at h1
     exact((hD i z2 f2 (by omega) h1 h2).grow ok' G6 (fun _ h=>h.elim)).grow g6.ok g7 (fun x e=> .inl (by omega))
   ·rw[List.getElem?_set,if_neg (by omega)] at h1
    exact hT i z2 f2 (by omega) h1 h2
 ·have:k=fs.length:=by omega
  subst this
  simp[q37,q38]
  exact ot _ _ zs (by simp[q2]) (by simp[q4]) (by simp[q5]) g hF' hzl' (fun i z f a b=>hD i z f (by have:=(bY.mp b).1;omega) a b)
def Mw (words:Int) (gs:List GG) (fs:List GF) (h:ae) (v:Value) (h':ae):Prop:=
 ab aG h h'∧ ∃(G' F':SV) (c a:Int),v= .tuple #[.agg ⟨[G'.v,F'.v]⟩,.agg ⟨[.int .i64 c,.int .i64 a]⟩]∧
  ((c≠0∧G'=eg∧F'=eg)∨(c=0∧(∀b,av G'.v b∨av F'.v b→h.next≤b)∧ ∃M ys zs,h.next≤M∧eJ xX h' G' ys∧D0 ys gs∧eJ vf h' F' zs∧zs.length=fs.length∧ ∀(i:Nat) (z:XF) (f:GF),zs[i]? =some z→fs[i]? =some f→vh M words h' z f))
theorem Hz {h:ae} (ok:bh h) {words:Int} (hw:0≤words∧words<1000000000) {W sW:Nat} (hW:h.tr.get W=some (.aA [.int .i64 words] false 0 sW)) {G F:SV} {u:GU} (hu:uR h G F u) (hgl:u.globals.length≤10) (hin: ∀g∈u.globals,g.init.length≤1048576) (hfl:u.funcs.length≤10) (hok: ∀f∈u.funcs,Ma f):
  aE FF vH [.agg ⟨[G.v,F.v]⟩,.func (.func jK) #[] #[.pointer (some ⟨W,0,none⟩)]] h (Mw words u.globals u.funcs h):=by
 have lW:=ok.wf _ _ hW
 obtain⟨ys,hyl,hys,hY⟩:=OI hu.1
 obtain⟨zs,hzl,hzs,hZ⟩:=Ow hu.2
 refine aE.of Cj ?_
 unfold vq
 have n1: ¬h.next=h.next+1:=by omega
 have n2: ¬h.next=h.next+1+1:=by omega
 simp[n1,n2]
 refine aD.cut (fun h1=>ab aG h h1∧(∃s,h1.tr.get h.next=some (.aA [G.v,F.v] false 0 s))∧(∃s,h1.tr.get (h.next+1)=some (.aA [.slice none 0 0,.slice none 0 0] false 0 s))∧(∃s,h1.tr.get (h.next+1+1)=some (.aA [.int .i64 0,.int .i64 0] false 0 s))) ?_ ?_
 ·exact⟨(((ab.refl ok).new _ _).new _ _).new _ _,⟨0,by simp[n1,n2]⟩,⟨0,by simp⟩,⟨0,by simp⟩⟩
 rintro h1 ⟨g1,⟨sU,hU1⟩,⟨s1,hR11⟩,⟨s2,hR21⟩⟩
 have lR:=g1.ok.wf _ _ hR21
 refine aD.call (V:=pF xX h1 ys) (by simpa using iy xX (bytes:=48) iO rfl (by decide) g1.ok (hys.aW ok g1) (by omega)) ?_
 rintro _ h2 ⟨g2,G',rfl,hG2,hGn,_⟩
 have hU2:=g2.get g1.ok hU1 (fun h=>h)
 have hU2':=hU2
 simp at hU2'
 have hR12:=g2.get g1.ok hR11 (fun h=>h)
 have hR22:=g2.get g1.ok hR21 (fun h=>h)
 have hW2:=g2.get g1.ok (g1.get ok hW (fun h=>h)) (fun h=>h)
 have hGl:=hG2.len
 simp[hU2']
 refine az.cut (fun h3=>ab (· =h.next) h2 h3∧ ∃s,h3.tr.get h.next=some (.aA [G'.v,F.v] false 0 s)) ?_ ?_
 ·exact⟨(ab.refl g2.ok).put ⟨_,hU2'⟩ (.inr rfl),h2.clock,by simp⟩
 rintro h3 ⟨g3,sU3,hU3⟩
 have l2:=g2.next
 have gg2:=g1.trans g2
 have gg3:ab aG h h3:=gg2.trans' g3 (fun _ _ h=>h) (fun x hx e=>by omega)
 have nG: ∀x,x<h1.next→ ¬av G'.v x:=fun x hx e=>by have:=hGn x e;omega
 have hG3:=hG2.grow g2.ok g3 (fun b hb e=>by have:=hGn b hb;omega)
 have hR13:=g3.get g2.ok hR12 (by omega)
 have hR23:=g3.get g2.ok hR22 (by omega)
 have hW3:=g3.get g2.ok hW2 (by omega)
 refine Bi (fv:= .func (.func jK) #[] #[.pointer (some ⟨W,0,none⟩)]) (R1:=h.next+1) (R2:=h.next+1+1) (f:=eg) ok gg3 hU3 (nG _ (by omega)) hG3 (fun b hb=>by have:=hGn b hb;have:=g1.next;omega) ⟨hyl,fun i y g a b=>⟨(hY i y g a b).1,(hY i y g a b).2.1⟩⟩ (fun i y g a b=>(hY i y g a b).2.2) hgl hin (by simp) (by simp) (by simp) (by simp) (by simp) (by simp[hGl,hyl]) (by simp) ?_
 intro e4 h4 ys4 q1 q2 q4 q5 g4 hG4 hS4
 have gg4:ab aG h h4:=gg3.trans' g4 (fun _ _ h=>h) (fun x hx e=>by have:=hGn x e;have:=g1.next;omega)
 have hU4:=g4.get g3.ok hU3 (nG _ (by omega))
 have hR14:=g4.get g3.ok hR13 (nG _ (by omega))
 have hR24:=g4.get g3.ok hR23 (nG _ (by omega))
 have hW4:=g4.get g3.ok hW3 (nG _ (by have:=g1.next;omega))
 have hU4':=hU4
 simp at hU4'
 simp[q2,hU4']
 refine aD.call (V:=pF vf h4 zs) (by simpa using iy vf (bytes:=56) kh rfl (by decide) g4.ok (hzs.aW ok gg4) (by omega)) ?_
 rintro _ h5 ⟨g5,F',rfl,hF5,hFn,_⟩
 have hU5:=g5.get g4.ok hU4 (fun h=>h)
 have hU5':=hU5
 simp at hU5'
 have l34:h2.next≤h4.next:=Nat.le_trans g3.next g4.next
 have hFl:=hF5.len
 have hG5:=hG4.aW g4.ok g5
 simp[q2,hU5']
 refine az.cut (fun h6=>ab (· =h.next) h5 h6∧ ∃s,h6.tr.get h.next=some (.aA [G'.v,F'.v] false 0 s)) ?_ ?_
 ·exact⟨(ab.refl g5.ok).put ⟨_,hU5'⟩ (.inr rfl),h5.clock,by simp⟩
 rintro h6 ⟨g6,sU6,hU6⟩
 have l5:=g5.next
 have gg6:ab aG h h6:=(gg4.trans g5).trans' g6 (fun _ _ h=>h) (fun x hx e=>by omega)
 have g46:ab (· =h.next) h4 h6:=g5.aW.trans g6
 have nF: ∀x,x<h4.next→ ¬av F'.v x:=fun x hx e=>by have:=hFn x e;omega
 have hF6:=hF5.grow g5.ok g6 (fun b hb e=>by have:=hFn b hb;omega)
 have hG6:=hG5.grow g5.ok g6 (fun b hb e=>by have:=hGn b hb;omega)
 have hR16:=g46.get g4.ok hR14 (by omega)
 have hR26:=g46.get g4.ok hR24 (by omega)
 have hW6:=g46.get g4.ok hW4 (by omega)
 have l1:=g1.next
 refine ES (R1:=h.next+1) (R2:=h.next+1+1) (U:=h.next) (zs0:=zs) (fs:=u.funcs) ok gg6 hw hW6 hU6 hR16 hR26 (by omega) (nF _ (by omega)) (nF _ (by omega)) (nF _ (by omega)) (nF _ (by omega)) hF6 (fun b hb=>by have:=hFn b hb;omega) hzl hZ hfl hok (by simp[q1]) (by simp[q2]) (by simp[q4]) (by simp[q5]) (by simp) (by simp[hFl,hzl]) (by simp) ?_ ?_
 ·rintro e7 h7 a k4 k5 g7 ⟨t1,hA⟩ ⟨t2,hB⟩
  simp[k4,k5,hA,hB]
  exact⟨gg6.trans' g7 (fun _ _ h=>h) (fun x hx e=>by
   rcases e with e|e|e
   ·have:=hFn x e;omega
   ·omega
   ·omega),eg,eg,10,a,rfl,.inl ⟨by decide,rfl,rfl⟩⟩
 ·intro e7 h7 zs7 k2 k4 k5 g7 hF7 hl7 hD7
  have hU7:=g7.get g6.ok hU6 (nF _ (by omega))
  have hR17:=g7.get g6.ok hR16 (nF _ (by omega))
  have hR27:=g7.get g6.ok hR26 (nF _ (by omega))
  have hU7':=hU7
  simp at hU7'
  have hFG: ∀b,av G'.v b→ ¬av F'.v b:=fun b hb h=>by
   have:=hG4.bl g4.ok hb
   have:=hFn b h;omega
  have hG7:=hG6.grow g6.ok g7 hFG
  simp[k2,k4,k5,hU7',hR17,hR27]
  have gw:=((ab.refl g7.ok).put (S:=fun x=>x=h.next+1∨x=h.next+1+1) (off:=0) (vs:=[Value.slice G'.a G'.l G'.c,Value.slice F'.a F'.l F'.c]) ⟨_,hR17⟩ (.inr (.inl rfl))).put (b:=h.next+1+1) (off:=0) (cs:=[.int .i64 0,.int .i64 0]) (o:=0) (vs:=[.int .i64 0,.int .i64 0]) ⟨s2,by simp[hR27]⟩ (.inr (.inr rfl))
  have l6:=g6.next
  generalize put (put h7 _ _ _ _ _) _ _ _ _ _=h8 at gw ⊢
  refine⟨(gg6.trans' g7 (fun _ _ h=>h) (fun x hx e=>by have:=hFn x e;omega)).trans' gw (fun _ _ h=>h) (fun x hx e=>by omega),G',F',0,0,by simp,.inr ⟨rfl,fun b hb=>by
   rcases hb with hb|hb
   ·have:=hGn b hb;omega
   ·have:=hFn b hb;omega,h6.next,ys4,zs7,by omega,hG7.grow g7.ok gw (fun b hb e=>by have:=hGn b hb;omega),hS4,hF7.grow g7.ok gw (fun b hb e=>by have:=hFn b hb;omega),hl7,fun i z f a b=>(hD7 i z f a b).grow g7.ok gw (fun x e=> .inl (by omega))⟩⟩
def Q4 (u:GU) (h:ae) (v:Value) (h':ae):Prop:=
 ab aG h h'∧ ∃(G' F':SV) (c a:Int),v= .tuple #[.agg ⟨[G'.v,F'.v]⟩,.agg ⟨[.int .i64 c,.int .i64 a]⟩]∧
  ((c≠0∧G'=eg∧F'=eg)∨(c=0∧zi u∧ ∃M ys zs,eJ xX h' G' ys∧D0 ys u.globals∧eJ vf h' F' zs∧zs.length=u.funcs.length∧ ∀(i:Nat) (z:XF) (f:GF),zs[i]? =some z→u.funcs[i]? =some f→vh M (dQ u.globals) h' z f))
theorem Ls {h:ae} (ok:bh h) (hw:xx h) {G F:SV} {u:GU} (hu:uR h G F u) (sm:v_ u) (hL: ∀f∈u.funcs,yk f):
  aE FF AZ [.agg ⟨[G.v,F.v]⟩] h (Q4 u h):=by
 refine aE.of HP ?_
 unfold AK
 have e1: ¬h.next=h.next+1:=by omega
 have e2: ¬h.next=h.next+1+1:=by omega
 simp[e1,e2]
 refine aD.cut (fun h1=>ab aG h h1∧(∃s,h1.tr.get h.next=some (.aA [G.v,F.v] false 0 s))∧(∃s,h1.tr.get (h.next+1)=some (.aA [.slice none 0 0,.slice none 0 0] false 0 s))∧(∃s,h1.tr.get (h.next+1+1)=some (.aA [.int .i64 0,.int .i64 0] false 0 s))) ?_ ?_
 ·exact⟨(((ab.refl ok).new _ _).new _ _).new _ _,⟨0,by simp[e1,e2]⟩,⟨0,by simp⟩,⟨0,by simp⟩⟩
 rintro h1 ⟨g1,⟨sU,hU1⟩,⟨s1,hA1⟩,⟨s2,hB1⟩⟩
 refine aD.call (V:=zk (zi u) h1) (by simpa using Dd g1.ok (hw.grow ok g1) (hu.mono ok g1) sm) ?_
 rintro _ h2 ⟨g2,c,a,rfl,hc⟩
 have gg2:=g1.trans g2
 have hU2:=g2.get g1.ok hU1 (fun h=>h)
 have hA2:=g2.get g1.ok hA1 (fun h=>h)
 have hB2:=g2.get g1.ok hB1 (fun h=>h)
 have lB:=g1.ok.wf _ _ hB1
 have l2:=g2.next
 have nAB: ¬h.next+1+1=h.next+1:=by omega
 have nBA: ¬h.next+1=h.next+1+1:=by omega
 rcases hc with hc|⟨rfl,rfl,hS⟩
 ·have hcb:(c==0)=false:=by simp[hc]
  have nA2: ¬h.next+1=h2.next:=by omega
  have nB2: ¬h.next+1+1=h2.next:=by omega
  have nA2': ¬h2.next=h.next+1:=by omega
  have nB2': ¬h2.next=h.next+1+1:=by omega
  simp[hcb,hA2,hB2,nA2,nB2,nA2',nB2',nAB,nBA,aq,aB]
  have g3:ab aG h (tick (put (aH h2 [.int .i64 0,.int .i64 0] 0) h2.next 0 [.int .i64 0,.int .i64 0] [.int .i64 c,.int .i64 a] 0)):=(gg2.var _ _).tick
  exact⟨(g3.put ⟨s1,by simp[hA2,nA2]⟩ (.inl (by omega))).put ⟨s2,by simp[hB2,nB2,nAB]⟩ (.inl (by omega)),eg,eg,c,a,rfl,.inl ⟨hc,rfl,rfl⟩⟩
 ·have hU2':=hU2
  simp at hU2'
  have nU: ¬h.next=h2.next:=by omega
  simp[hU2',nU]
  refine aD.cut (fun h3=>ab aG h2 h3) ((ab.refl g2.ok).var _ _) ?_
  intro h3 g3
  have gg3:=gg2.trans g3
  have C:JH u.globals:=⟨hS.unit.gn,fun g hg=>⟨(hS.unit.gs g hg).1,(hS.unit.gs g hg).2.1⟩⟩
  refine aD.call (V:=BN u.globals h3) (by simpa using CP (F:=F) gg3.ok (Ml (hu.1.mono ok gg3 fun _ _ r=>r)) C) ?_
  rintro _ h4 ⟨g4,rfl⟩
  have g24:=g3.trans g4
  have hU4:=g24.get g2.ok hU2 (fun h=>h)
  have hA4:=g24.get g2.ok hA2 (fun h=>h)
  have hB4:=g24.get g2.ok hB2 (fun h=>h)
  have hU4':=hU4
  simp at hU4'
  have lB4:=g4.ok.wf _ _ hB4
  have nU4: ¬h.next=h4.next:=by omega
  simp[hU4',nU4]
  refine aD.cut (fun h5=>ab aG h4 h5∧ ∃s,h5.tr.get h4.next=some (.aA [.int .i64 (dQ u.globals)] false 0 s)) ⟨(ab.refl g4.ok).var _ _,h4.clock,by simp[aK]⟩ ?_
  rintro h5 ⟨g5,sW,hW5⟩
  have gg5:=(gg3.trans g4).trans g5
  have hA5:=g5.get g4.ok hA4 (fun h=>h)
  have hB5:=g5.get g4.ok hB4 (fun h=>h)
  have hwd:=v8 C.2
  have hgl:=C.1
  refine aD.call (V:=Mw (dQ u.globals) u.globals u.funcs h5) (by simpa using Hz gg5.ok (by omega) hW5 (hu.mono ok gg5) C.1 (fun g hg=>by have:=(hS.unit.gs g hg).2;omega) hS.unit.fn (fun f hf=>⟨hS.form f hf,hL f hf,hS.seen f hf⟩)) ?_
  rintro _ h6 ⟨g6,G',F',c,a,rfl,hc⟩
  have hA6:=g6.get g5.ok hA5 (fun h=>h)
  have hB6:=g6.get g5.ok hB5 (fun h=>h)
  simp[hA6,hB6,nAB,nBA]
  have gw:=((ab.refl g6.ok).put (S:=fun x=>x=h.next+1∨x=h.next+1+1) (off:=0) (vs:=[Value.slice G'.a G'.l G'.c,Value.slice F'.a F'.l F'.c]) ⟨_,hA6⟩ (.inr (.inl rfl))).put (b:=h.next+1+1) (off:=0) (cs:=[.int .i64 0,.int .i64 0]) (o:=0) (vs:=[.int .i64 c,.int .i64 a]) ⟨s2,by simp[hB6]⟩ (.inr (.inr rfl))
  generalize put (put h6 _ _ _ _ _) _ _ _ _ _=h7 at gw ⊢
  have l6:h.next+1+1<h5.next:=g5.ok.wf _ _ hB5
  refine⟨(gg5.trans g6).trans' gw (fun _ _ h=>h) (fun x hx e=>by omega),G',F',c,a,by simp,?_⟩
  rcases hc with hc|⟨hc,N,M,ys,zs,hM,A1,A2,A3,A4,A5⟩
  ·exact .inl hc
  ·exact .inr ⟨hc,hS,M,ys,zs,A1.grow g6.ok gw (fun b hb e=>by have:=N b (.inl hb);omega),A2,A3.grow g6.ok gw (fun b hb e=>by have:=N b (.inr hb);omega),A4,fun i z f a b=>(A5 i z f a b).grow g6.ok gw (fun x e=> .inl (by omega))⟩
theorem HN {ai:Nat} {rs:List XR} {bs:List GB} (V:Nq ai rs bs) (words:Int):iX words bs=fC words rs:=by
 unfold fC iX
 congr 1
 refine List.ext_getElem? fun i=> ?_
 rw[List.getElem?_map,List.getElem?_map]
 rcases Nat.lt_or_ge i rs.length with hi|hi
 ·obtain⟨r,hr⟩: ∃r,rs[i]? =some r:=⟨_,aQ hi⟩
  obtain⟨b,hb⟩: ∃b,bs[i]? =some b:=⟨_,aQ (by rw[V.1];exact hi)⟩
  have v:=V.2 i r b hr hb
  rw[hr,hb]
  simp only[Option.map_some]
  rw[sD]
  unfold pf
  have:r.ls.map (fO words)=b.list.map (kE words):=by
   refine List.ext_getElem? fun j=> ?_
   rw[List.getElem?_map,List.getElem?_map]
   rcases Nat.lt_or_ge j r.ls.length with hj|hj
   ·obtain⟨q,hq⟩: ∃q,r.ls[j]? =some q:=⟨_,aQ hj⟩
    obtain⟨p,hp⟩: ∃p,b.list[j]? =some p:=⟨_,aQ (by rw[v.ll];exact hj)⟩
    obtain⟨⟨c1,c2,c3,c4,c5⟩,_⟩:=v.ls j q p hq hp
    rw[hq,hp]
    simp only[Option.map_some]
    unfold fO kE
    rw[c1,c3,c4]
   ·rw[List.getElem?_eq_none hj,List.getElem?_eq_none (by rw[v.ll];exact hj)];rfl
  rw[this,List.filter_map,List.length_map]
  rfl
 ·rw[List.getElem?_eq_none hi,List.getElem?_eq_none (by rw[V.1];exact hi)];rfl
theorem Iz {M:Nat} {words:Int} {h:ae} {F':SV} {zs:List XF} {fs:List GF} (hF:eJ vf h F' zs) (hl:zs.length=fs.length) (D: ∀(i:Nat) (z:XF) (f:GF),zs[i]? =some z→fs[i]? =some f→vh M words h z f) (h10:fs.length≤10):
  ∃fs':List GF,fs'.length=fs.length∧SliceR (fR h) 4 h F'.v fs'∧pc words fs'=pc words fs∧Le fs':=by
 obtain⟨fs',hl',H⟩:=nh (Q:=fun(i:Nat) (g:GF)=> ∀z f,zs[i]? =some z→fs[i]? =some f→fR h (vf.enc z) g∧iX words g.blocks=iX words f.blocks∧g.blocks.length≤24∧ ∀b∈g.blocks,b.list.length≤300) (List.range fs.length) (fun i hi=>by
  have hil:i<fs.length:=List.mem_range.1 hi
  obtain⟨z,hz⟩: ∃z,zs[i]? =some z:=⟨_,aQ (by omega)⟩
  obtain⟨f,hf⟩: ∃z,fs[i]? =some z:=⟨_,aQ hil⟩
  obtain⟨n0,ai,κ,cap,rs,O,_,h24,hsz,hlo⟩:=D i z f hz hf
  obtain⟨bs,hbs,hV⟩:=O.view
  refine⟨⟨z.name,z.params,z.ai,bs⟩,fun z2 f2 h1 h2=> ?_⟩
  rw[hz] at h1;cases h1
  rw[hf] at h2;cases h2
  refine⟨⟨z.B,rfl,hbs⟩,(HN hV words).trans hlo,by show bs.length≤24;rw[hV.1];exact h24,fun b hb=> ?_⟩
  obtain⟨j,hj⟩:=pM hb
  obtain⟨r,hr⟩: ∃r,rs[j]? =some r:=⟨_,aQ (by rw[←hV.1];exact(bY.mp hj).1)⟩
  have v:=hV.2 j r b hr hj
  rw[v.ll]
  exact(hsz r (di hr)).2)
 rw[List.length_range] at hl'
 have at': ∀(i:Nat) (g:GF),fs'[i]? =some g→ ∃z f,zs[i]? =some z∧fs[i]? =some f∧fR h (vf.enc z) g∧iX words g.blocks=iX words f.blocks∧g.blocks.length≤24∧ ∀b∈g.blocks,b.list.length≤300:=by
  intro i g hg
  have hil:i<fs.length:=by rw[←hl'];exact(bY.mp hg).1
  obtain⟨z,hz⟩: ∃z,zs[i]? =some z:=⟨_,aQ (by omega)⟩
  obtain⟨f,hf⟩: ∃z,fs[i]? =some z:=⟨_,aQ hil⟩
  exact⟨z,f,hz,hf,H i i g (List.getElem?_range hil) hg z f hz hf⟩
 refine⟨fs',hl',hF.view (by omega) (fun i z g h1 h2=> ?_),?_,⟨by omega,fun g hg=> ?_,fun g hg b hb=> ?_⟩⟩
 ·obtain⟨z2,f,a,b,c,_⟩:=at' i g h2
  rw[h1] at a;cases a
  exact c
 ·unfold pc
  congr 1
  refine List.ext_getElem? fun i=> ?_
  rw[List.getElem?_map,List.getElem?_map]
  rcases Nat.lt_or_ge i fs'.length with hi|hi
  ·obtain⟨g,hg⟩: ∃g,fs'[i]? =some g:=⟨_,aQ hi⟩
   obtain⟨z,f,a,b,c,d,_⟩:=at' i g hg
   rw[hg,b]
   simp only[Option.map_some]
   rw[d]
  ·rw[List.getElem?_eq_none hi,List.getElem?_eq_none (by omega)]
 ·obtain⟨i,hi⟩:=pM hg
  obtain⟨z,f,a,b,c,d,e,_⟩:=at' i g hi
  omega
 ·obtain⟨i,hi⟩:=pM hg
  obtain⟨z,f,a,b2,c,d,e,k⟩:=at' i g hi
  have:=k b hb
  omega
theorem Ka {u:GU} (S:zi u):Le u.funcs:=by
 refine⟨by have:=S.unit.fn;omega,fun f hf=>by have:=(S.form f hf).head.blocks;omega,fun f hf b hb=> ?_⟩
 have:=kF hb
 have:=(S.form f hf).head.many
 omega
theorem zU {h:ae} (ok:bh h) (hw:xx h) {G F:SV} {u:GU} (hu:uR h G F u) (s1:Small u) (sm:v_ u):
  aE FF jS [.agg ⟨[G.v,F.v]⟩] h (fun v _=>v= .bool true):=by
 refine aE.of qo ?_
 unfold ka
 simp
 refine aD.cut (fun h1=>ab aG h h1∧h1.tr.get h.next=some (.aA [G.v,F.v] false 0 0)) ⟨(ab.refl ok).new _ _,by simp⟩ ?_
 rintro h1 ⟨g1,hU1⟩
 refine aD.call (V:=fun v h'=>ab aG h1 h'∧ ∃hv:Bool,v= .bool hv∧(hv=false→u.funcs.length≤10∧ ∀f∈u.funcs,yk f)) (by simpa using Fj g1.ok (hu.mono ok g1) s1) ?_
 rintro _ h2 ⟨g2,hv,rfl,hL⟩
 have gg2:=g1.trans g2
 have hU2:=g2.get g1.ok hU1 (fun h=>h)
 have hU2':=hU2
 simp at hU2'
 cases hv with
 |true=>simp
 |false=>
 obtain⟨h10,hL⟩:=hL rfl
 simp[hU2']
 refine aD.call (V:=Q4 u h2) (by simpa using Ls g2.ok (hw.grow ok gg2) (hu.mono ok gg2) sm hL) ?_
 rintro _ h3 ⟨g3,G',F',c,a,rfl,hc⟩
 have hU3:=g3.get g2.ok hU2 (fun h=>h)
 have lU:=g3.ok.wf _ _ hU3
 have gg3:=gg2.trans g3
 have n1: ¬h3.next=h3.next+1:=by omega
 simp
 rcases hc with⟨hc,eG,eF⟩|⟨rfl,hS,M,ys,zs,A1,A2,A3,A4,A5⟩
 ·have hcb:(c !=0)=true:=by simp[hc]
  have lG:G'.l=0:=by rw[eG];rfl
  have lF:F'.l=0:=by rw[eF];rfl
  refine az.cut (fun h4=>ab aG h3 h4∧ ∃s,h4.tr.get h3.next=some (.aA [.slice G'.a G'.l G'.c,.slice F'.a F'.l F'.c] false 0 s)) ?_ ?_
  ·exact⟨((((ab.refl g3.ok).new _ _).new _ _).put ⟨0,by simp[n1]⟩ (.inl (by omega))).put ⟨0,by simp⟩ (.inl (by omega)),h3.clock,by simp[n1,aK]⟩
  rintro h4 ⟨g4,sV,hV4⟩
  simp[hcb,hV4]
  refine aD.call (V:=fun v h'=>v= .bool (decide (G'.l=0)&&decide (F'.l=0))∧ab aG h4 h') (by simpa using AN g4.ok G' F') ?_
  rintro _ h5 ⟨rfl,g5⟩
  simp[lG,lF]
 ·refine az.cut (fun h4=>ab aG h3 h4∧ ∃s,h4.tr.get h3.next=some (.aA [.slice G'.a G'.l G'.c,.slice F'.a F'.l F'.c] false 0 s)) ?_ ?_
  ·exact⟨((((ab.refl g3.ok).new _ _).new _ _).put ⟨0,by simp[n1]⟩ (.inl (by omega))).put ⟨0,by simp⟩ (.inl (by omega)),h3.clock,by simp[n1,aK]⟩
  rintro h4 ⟨g4,sV,hV4⟩
  have hU4:=g4.get g3.ok hU3 (fun h=>h)
  have hU4':=hU4
  simp at hU4'
  have gg4:=gg3.trans g4
  have oV:=g4.ok.bl hV4
  have oU:=g4.ok.bl hU4
  have hFl:=A3.len
  have hone:=hS.unit.one
  have hF0: ¬F'.l=0:=by omega
  have hsV:=g4.ok.st _ _ _ _ _ hV4
  simp[hV4,hU4',aw hV4,aw hU4',oV,oU]
  refine aP.cut (fun h5=>ab aG h4 h5) (bc g4.ok) ?_
  intro h5 g5
  refine aP.call (V:=fun v h'=>v= .bool (decide (G'.l=0)&&decide (F'.l=0))∧ab aG h5 h') (by simpa using AN g5.ok G' F') ?_
  rintro _ h6 ⟨rfl,g6⟩
  have g46:=g5.trans g6
  have hV6:=g46.get g4.ok hV4 (fun h=>h)
  have hU6:=g46.get g4.ok hU4' (fun h=>h)
  have oV6:=g6.ok.bl hV6
  have oU6:=g6.ok.bl hU6
  have g36:=g4.trans g46
  obtain⟨fs',hl',hF',hlo,hC'⟩:=Iz (A3.aW g3.ok g36) A4 (fun i z f a b=>(A5 i z f a b).grow g3.ok g36 (fun _ h=>h.elim)) h10
  have hG':SliceR gS 3 h6 G'.v u.globals:=(A1.aW g3.ok g36).view A2.1.symm (fun i y g a b=>by
   obtain⟨e1,e2⟩:=A2.2 i y g a b
   exact⟨y.I,by rw[I7,e1,e2]⟩)
  have Cg:JH u.globals:=⟨hS.unit.gn,fun g hg=>⟨(hS.unit.gs g hg).1,(hS.unit.gs g hg).2.1⟩⟩
  simp[hF0,hV6,hU6,aw hV6,aw hU6,oV6,oU6]
  refine aP.call (V:=fun v h'=>ab aG h6 h'∧v= .int .i64 ((pc (dQ u.globals) fs':Nat):Int)) (by simpa using As g6.ok hG' hF' Cg hC') ?_
  rintro _ h7 ⟨g7,rfl⟩
  have hU7:=g7.get g6.ok hU6 (fun h=>h)
  have gg7:=(gg4.trans g46).trans g7
  simp[hU7]
  refine aP.call (V:=fun v h'=>ab aG h7 h'∧v= .int .i64 ((pc (dQ u.globals) u.funcs:Nat):Int)) (by simpa using As g7.ok (Ml (hu.1.mono ok gg7 fun _ _ r=>r)) (hu.mono ok gg7).2 Cg (Ka hS)) ?_
  rintro _ h8 ⟨g8,rfl⟩
  simp[hlo]
set_option maxRecDepth 100000
theorem Np:Gn Tryz.prog (nV Tryz.prog) 96:=by
 obtain⟨ei,hei⟩:=Option.isSome_iff_exists.mp (show(nV Tryz.prog 38).isSome=true by kernel_rfl)
 exact⟨Tryz.f96,49,38,{ u:= .slice 38,size:=1,bytes:=24,zero:=[.slice none 0 0],agg:=false },ei,Tryz.func96,by kernel_rfl,by kernel_rfl,by kernel_rfl,by kernel_rfl,by kernel_rfl,by kernel_rfl,rfl,hei⟩
theorem MV:zD Tryz.prog (nV Tryz.prog) 1 (dq (nV Tryz.prog) 1) Pw:=Fs (Fu G1) Np
theorem Lw:Pw 91=some ⟨[.tmp 6],oH [.bool false,.int .i64 0] 2 16 96 97,.no⟩:=by kernel_rfl
theorem NK:zD Tryz.prog (nV Tryz.prog) 1 (dq (nV Tryz.prog) 1) FF:=
 D1 MV (CQ _) Lw (fov:=⟨[],.bad,.FN⟩) rfl rfl rfl (by decide) (by decide)
end Go.Proofs.YtdkdbjecehcekaaGreatDoor
namespace Go.AI
open Go.ChangeShapes Go.WideShapes Go.ChangeAt
def zd (agg:Bool) (acs:List Value):Value:=bif agg then .agg ⟨acs⟩ else acs.headD (.tuple #[])
def aggT (P:Program) (t:TypeId):Bool:=match P.underlying t with
 |some (.struct _)=>true
 |some (.array _ _)=>true
 |_=>false
section
variable {H:Type} {enc:TypeId×Value→H} {P:Program} {w:World} {held:Bool} {CC:bI}
def LaidV (k:Option Nat) (CC:bI) (w:World) (agg:Bool) (T:Ty) (ρ:dp) (h:ae) (v:Value):Prop:=
 ∃ρ' h' acs y,ρ.le ρ'∧ab aG h h'∧uE CC ρ' h' w∧VR ρ' (zd agg acs) v∧rep T h' acs y∧Bd k T y
theorem laidV_of {k:Option Nat} {d:Nat} {t:TypeId} {T:Ty} {base:Nat} {v:Value} {dd:DataW H} {ps:List MemPlace} {ρ:dp} {h:ae} (hT:tyOf P d t=some T) (hval:Value.okWide P w .any base t v) (hx:DataW.Trod enc P w 0 (fun _=>true) held t v dd ps) (hW:WB k P t dd)
  (L:uE CC ρ h w) (hne: ∃(k:Nat) (ccs:Array Value) (el:TypeId) (fr:Nat×Nat),w.heap[k]? =some (.cells ccs el fr)):LaidV k CC w (aggT P t) T ρ h v:=by
 obtain⟨n,hx⟩:=hx
 obtain⟨ρ',h',acs,y,l,g,L',kk,r⟩:=BG hT hx hW L hne
 refine⟨ρ',h',acs,y,l,g,L',?_,r⟩
 unfold zd
 have plain1:aggT P t=false→(∀cs,v≠ .agg cs)→VR ρ' (bif aggT P t then .agg ⟨acs⟩ else acs.headD (.tuple #[])) v:=by
  intro ha hv
  have hc:v.cells.toList=[v]:=by
   cases v<;>first|rfl|exact absurd rfl (hv _)
  rw[hc] at kk
  rw[ha]
  cases kk with
  |cons hk hs=>exact hk.vr
 cases d with
 |zero=>simp[tyOf] at hT
 |succ d=>
  unfold tyOf at hT
  split at hT
  ·rename_i hu
   obtain⟨b,rfl⟩:=okWide_bool hu hval
   exact plain1 (by simp[aggT,hu]) (fun _ e=>by cases e)
  ·rename_i k' hu
   obtain⟨b,rfl⟩:=okWide_int hu hval
   exact plain1 (by simp[aggT,hu]) (fun _ e=>by cases e)
  ·rename_i hu
   obtain⟨b,rfl⟩:=okWide_string hu hval
   exact plain1 (by simp[aggT,hu]) (fun _ e=>by cases e)
  ·rename_i e hu
   obtain⟨a,len,cap,rfl⟩:=okWide_slice hu hval
   exact plain1 (by simp[aggT,hu]) (fun _ e=>by cases e)
  ·rename_i fs hu
   simp only[Value.okWide,hu] at hval
   obtain⟨cs,rfl,_⟩:=hval
   have ha:aggT P t=true:=by simp[aggT,hu]
   rw[ha]
   obtain⟨cl⟩:=cs
   exact .val (.agg kk)
  ·rename_i m e hu
   simp only[Value.okWide,hu] at hval
   obtain⟨cs,rfl,_⟩:=hval
   have ha:aggT P t=true:=by simp[aggT,hu]
   rw[ha]
   obtain⟨cl⟩:=cs
   exact .val (.agg kk)
  ·cases hT
theorem lain_heap1 {cs:List Value} (hcs: ∀v∈cs,bx v=true) {w:World} (hw: ∃el fr,w.heap[0]? =some (.cells ⟨cs⟩ el fr)):
  uE CC (fun b=>if b=0 then some ⟨0,0,cs.length,0,cs.length⟩ else none) (AS cs) w:=by
 obtain⟨el,fr,hw⟩:=hw
 have hget: ∀b o,(AS cs).tr.get b=some o→b=0∧o= .aA cs true 0 0:=by
  intro b o h
  cases b with
  |zero=>simp only[AS,Tr.get,Option.some.injEq] at h;exact⟨rfl,h.symm⟩
  |succ b=>
   simp only[AS,Tr.get] at h
   cases hb:Nat.beq (b%2) 0<;>rw[hb] at h<;>simp at h
 have hro: ∀b,¬dm (AS cs) b:=by
  rintro b ⟨o,ho,hr⟩
  rw[(hget b o ho).2] at hr;cases hr
 refine⟨⟨fun b o h=> ?_,fun b c ro o s h=> ?_⟩,hro,⟨fun b r h=> ?_,fun b r o h ho=> ?_,fun b b' r r' o _ _ hw=>absurd hw (hro b),fun b o h=> ?_⟩⟩
 ·rw[(hget b o h).1];exact Nat.zero_lt_one
 ·have:=(hget b _ h).2;cases this;exact Nat.le_refl _
 ·by_cases e:b=0
  ·simp only[e,if_true,Option.some.injEq] at h
   subst h;subst e
   exact⟨Nat.zero_lt_one,(Array.getElem?_eq_some_iff.mp hw).1⟩
  ·simp[e] at h
 ·obtain⟨rfl,rfl⟩:=hget b o ho
  simp only[if_true,Option.some.injEq] at h
  subst h
  exact⟨⟨cs⟩,el,fr,hw,rfl,rfl,by simp,(fun h=>by cases h),fun j v hv=>⟨v,by simpa using hv,.cell (gm (hcs v (di hv)))⟩⟩
 ·rw[(hget b o h).1];exact Nat.zero_lt_one
end
end Go.AI
namespace Go.Proofs.YtdkdbjecehcekaaGreatDoor
open Go Go.AI
def rh:Ty:= .pair .bool (.pair (.int .i64) .unit)
def Gb:Ty:= .pair (.int .i64) (.pair (.int .i64) (.pair rh (.pair rh (.pair (.int .i64) (.pair (.sl rh) .unit)))))
def Gr:Ty:= .pair (.int .i64) (.pair (.sl rh) .unit)
def Ox:Ty:= .pair (.int .i64) (.pair rh (.pair (.sl (.int .i64)) .unit))
def sK:Ty:= .pair (.sl Gr) (.pair (.sl Gb) (.pair Ox .unit))
def Cm:Ty:= .pair .str (.pair (.int .i64) (.pair (.int .i64) (.pair (.sl sK) .unit)))
def vx:Ty:= .pair .str (.pair (.int .i64) (.pair (.sl (.int .i64)) .unit))
def v5:Ty:= .pair (.sl vx) (.pair (.sl Cm) .unit)
theorem kX {α β:Type} {R:List Value→α→Prop} {R':List Value→β→Prop} {sz:Nat} {h:ae} {v:Value} {xs:List α} (f:α→β) (s:SliceR R sz h v xs) (H: ∀c x,R c x→R' c (f x)):SliceR R' sz h v (xs.map f):=by
 obtain⟨a,cap,rfl,s⟩:=s
 refine⟨a,cap,by rw[List.length_map],?_⟩
 rcases s with⟨rfl,s⟩|⟨b,off,cs,ro,o,st,rfl,hb,he⟩
 ·exact .inl ⟨rfl,s⟩
 ·refine .inr ⟨b,off,cs,ro,o,st,rfl,hb,fun i y hy=> ?_⟩
  rw[List.getElem?_map,Option.map_eq_some_iff] at hy
  obtain⟨x,hx,rfl⟩:=hy
  exact⟨(he i x hx).1,H _ _ (he i x hx).2⟩
theorem j8 {α:Type} {R:List Value→α→Prop} {sz:Nat} {h:ae} {v:Value} {xs:List α} (s:SliceR R sz h v xs): ∃S:SV,v=S.v:=by
 obtain⟨a,cap,rfl,_⟩:=s
 exact⟨⟨a,xs.length,cap⟩,rfl⟩
def Mx (x:rh.den):Bool×Int:=(x.1,x.2.1)
def Ps (x:Gb.den):GI:=⟨x.1,x.2.1,Mx x.2.2.1,Mx x.2.2.2.1,x.2.2.2.2.1,List.map Mx x.2.2.2.2.2.1⟩
def PR (x:Gr.den):GP:=⟨x.1,List.map Mx x.2.1⟩
def OS (x:sK.den):GB:=⟨List.map PR x.1,List.map Ps x.2.1,x.2.2.1.1,Mx x.2.2.1.2.1,List.map id x.2.2.1.2.2.1⟩
def OY (x:Cm.den):GF:=⟨x.1,x.2.1,x.2.2.1,List.map OS x.2.2.2.1⟩
def Ql (x:vx.den):GG:=⟨x.1,x.2.1,List.map id x.2.2.1⟩
def Pa (x:v5.den):GU:=⟨List.map Ql x.1,List.map OY x.2.1⟩
theorem xJ {h:ae} {cs:List Value} {x:rh.den} (r:rep rh h cs x):vR cs (Mx x):=by
 obtain⟨a,b,_⟩:=x
 obtain⟨c1,_,rfl,e1,c2,_,rfl,e2,e3⟩:=r
 simp only[rep] at e1 e2 e3
 subst e1 e2 e3
 rfl
theorem Ee {h:ae} {v:Value} {xs:List Int} (s:SliceR (rep (.int .i64) h) (Ty.sz (.int .i64)) h v xs):SliceR nR 1 h v (List.map id xs):=
 kX id s fun c x r=>by simpa [rep,nR] using r
theorem DJ {h:ae} {v:Value} {xs:List rh.den} (s:SliceR (rep rh h) rh.sz h v xs):SliceR vR 2 h v (List.map Mx xs):=
 kX Mx s fun _ _ r=>xJ r
theorem K_ {h:ae} {cs:List Value} {x:Gb.den} (r:rep Gb h cs x):iR h cs (Ps x):=by
 obtain⟨op,dst,a,b,fn,vs,_⟩:=x
 obtain⟨c1,_,rfl,e1,c2,_,rfl,e2,c3,_,rfl,ea,c4,_,rfl,eb,c5,_,rfl,e5,c6,_,rfl,⟨v,rfl,s⟩,e7⟩:=r
 have ea:=xJ ea
 have eb:=xJ eb
 simp only[rep,vR] at e1 e2 ea eb e5 e7
 subst e1 e2 ea eb e5 e7
 obtain⟨S,rfl⟩:=j8 s
 exact⟨S,rfl,DJ s⟩
theorem KW {h:ae} {cs:List Value} {x:Gr.den} (r:rep Gr h cs x):pR h cs (PR x):=by
 obtain⟨dst,vs,_⟩:=x
 obtain⟨c1,_,rfl,e1,c6,_,rfl,⟨v,rfl,s⟩,e7⟩:=r
 simp only[rep] at e1 e7
 subst e1 e7
 obtain⟨S,rfl⟩:=j8 s
 exact⟨S,rfl,DJ s⟩
theorem H7 {h:ae} {cs:List Value} {x:sK.den} (r:rep sK h cs x):bR h cs (OS x):=by
 obtain⟨ps,ls,⟨k,on,ts,_⟩,_⟩:=x
 obtain⟨c1,_,rfl,⟨v1,rfl,s1⟩,c2,_,rfl,⟨v2,rfl,s2⟩,c3,_,rfl,⟨c4,_,rfl,e4,c5,_,rfl,e5,c6,_,rfl,⟨v3,rfl,s3⟩,e6⟩,e7⟩:=r
 have e5:=xJ e5
 simp only[rep,vR] at e4 e5 e6 e7
 subst e4 e5 e6 e7
 obtain⟨S1,rfl⟩:=j8 s1
 obtain⟨S2,rfl⟩:=j8 s2
 obtain⟨S3,rfl⟩:=j8 s3
 exact⟨S1,S2,S3,rfl,kX PR s1 fun _ _ r=>KW r,kX Ps s2 fun _ _ r=>K_ r,Ee s3⟩
theorem JZ {h:ae} {cs:List Value} {x:Cm.den} (r:rep Cm h cs x):fR h cs (OY x):=by
 obtain⟨n,p,q,bs,_⟩:=x
 obtain⟨c1,_,rfl,e1,c2,_,rfl,e2,c3,_,rfl,e3,c4,_,rfl,⟨v,rfl,s⟩,e7⟩:=r
 simp only[rep] at e1 e2 e3 e7
 subst e1 e2 e3 e7
 obtain⟨S,rfl⟩:=j8 s
 exact⟨S,rfl,kX OS s fun _ _ r=>H7 r⟩
theorem Ez {h:ae} {cs:List Value} {x:vx.den} (r:rep vx h cs x):gR h cs (Ql x):=by
 obtain⟨n,p,bs,_⟩:=x
 obtain⟨c1,_,rfl,e1,c2,_,rfl,e2,c4,_,rfl,⟨v,rfl,s⟩,e7⟩:=r
 simp only[rep] at e1 e2 e7
 subst e1 e2 e7
 obtain⟨S,rfl⟩:=j8 s
 exact⟨S,rfl,Ee s⟩
theorem J2 {h:ae} {cs:List Value} {x:v5.den} (r:rep v5 h cs x): ∃G F:SV,cs=[G.v,F.v]∧uR h G F (Pa x):=by
 obtain⟨gs,fs,_⟩:=x
 obtain⟨c1,_,rfl,⟨v1,rfl,s1⟩,c2,_,rfl,⟨v2,rfl,s2⟩,e7⟩:=r
 simp only[rep] at e7
 subst e7
 obtain⟨S1,rfl⟩:=j8 s1
 obtain⟨S2,rfl⟩:=j8 s2
 exact⟨S1,S2,rfl,kX Ql s1 fun _ _ r=>Ez r,kX OY s2 fun _ _ r=>JZ r⟩
theorem map_le {α β:Type} (f:α→β) (l:List α) (h:l.length≤140737488351232):(List.map f l).length≤140737488355328:=by rw[List.length_map];omega
theorem JO {x:v5.den} (b:Bd (some 140737488351232) v5 x):Small (Pa x)∧v_ (Pa x):=by
 obtain⟨gs,fs,_⟩:=x
 obtain⟨⟨g1,g2⟩,⟨f1,f2⟩,_⟩:=b
 have g1:=g1 _ rfl
 have f1:=f1 _ rfl
 have hb: ∀b:sK.den,Bd (some 140737488351232) sK b→qF (OS b):=by
  rintro⟨ps,ls,⟨k,on,ts,_⟩,_⟩ ⟨⟨p1,p2⟩,⟨l1,l2⟩,⟨_,_,⟨t1,_⟩,_⟩,_⟩
  have p1:=p1 _ rfl
  have l1:=l1 _ rfl
  have t1:=t1 _ rfl
  refine⟨?_,?_,?_,fun p hp=> ?_,fun x hx=> ?_⟩
  ·exact map_le _ _ p1
  ·exact map_le _ _ l1
  ·exact map_le _ _ t1
  ·obtain⟨y,hy,rfl⟩:=List.mem_map.1 hp
   obtain⟨_,⟨h1,_⟩,_⟩:=p2 y hy
   have h1:=h1 _ rfl
   exact map_le _ _ h1
  ·obtain⟨y,hy,rfl⟩:=List.mem_map.1 hx
   obtain⟨_,_,_,_,_,⟨h1,_⟩,_⟩:=l2 y hy
   have h1:=h1 _ rfl
   exact map_le _ _ h1
 have hf: ∀f∈(Pa ⟨gs,fs,()⟩).funcs,Fits f.blocks∧ ∀b∈f.blocks,qF b:=by
  intro f hf
  obtain⟨y,hy,rfl⟩:=List.mem_map.1 hf
  obtain⟨_,_,_,⟨h1,h2⟩,_⟩:=f2 y hy
  have h1:=h1 _ rfl
  have hbs: ∀b∈(OY y).blocks,qF b:=by
   intro b hb2
   obtain⟨z,hz,rfl⟩:=List.mem_map.1 hb2
   exact hb z (h2 z hz)
  exact⟨⟨map_le _ _ h1,fun b hb=>⟨(hbs b hb).ph,(hbs b hb).li⟩⟩,hbs⟩
 refine⟨⟨?_,fun f h=>(hf f h).1⟩,fun g hg=> ?_,fun f h=>(hf f h).1,fun f h=>(hf f h).2⟩
 ·exact map_le _ _ f1
 ·obtain⟨y,hy,rfl⟩:=List.mem_map.1 hg
  obtain⟨_,_,⟨h1,_⟩,_⟩:=g2 y hy
  have h1:=h1 _ rfl
  exact map_le _ _ h1
end Go.Proofs.YtdkdbjecehcekaaGreatDoor
