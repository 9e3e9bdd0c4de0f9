/- Parts of the proof. -/
import Derived.Test.YtdkdbjecehcekaaGreatDoorP07
import Derived.Test.YtdkdbjecehcekaaGreatDoorP00
set_option linter.all false
set_option linter.unusedSimpArgs false
set_option linter.unusedVariables false
set_option linter.unnecessarySimpa false
namespace Go.Proofs.YtdkdbjecehcekaaGreatDoor
open Go.AI
def eQ:List GB→Nat
 |[]=>0
 |b::bs=>b.dY.length+b.list.length+eQ bs
theorem zm {bs:List GB} {j:Nat} {b:GB} (h:bs[j]? =some b):eQ (bs.take (j+1))=eQ (bs.take j)+(b.dY.length+b.list.length):=by
 induction bs generalizing j with
 |nil=>simp at h
 |cons x bs ih=>
  cases j with
  |zero=>simp at h;subst h;simp[eQ]
  |succ j=>
   simp at h
   have:=ih h
   simp only[List.take_succ_cons,eQ]
   omega
def Fits (bs:List GB):Prop:=bs.length≤140737488355328∧ ∀b∈bs,b.dY.length≤140737488355328∧b.list.length≤140737488355328
theorem wrap_add (a b:Int):IntKind.i64.wrap (IntKind.i64.wrap a+b)=IntKind.i64.wrap (a+b):=by
 simp only[IntKind.wrap,IntKind.signed,IntKind.bits]
 simp
 omega
theorem yP: ∀ {bs:List GB},Fits bs→eQ bs≤bs.length*281474976710656
 |[],_=>by simp[eQ]
 |b::bs,h=>by
  have:=yP (bs:=bs) ⟨by have:=h.1;simp at this;omega,fun b hb=>h.2 b (.tail _ hb)⟩
  have:=h.2 b (.head _)
  simp only[eQ,List.length_cons]
  omega
theorem Ag {bs:List GB} (h:Fits bs) (hl:bs.length≤40):IntKind.i64.wrap (eQ bs:Int)=(eQ bs:Int):=by
 have:=yP h
 exact wrap_i64 _ (by omega) (by omega)
structure Small (u:GU):Prop where
 fs:u.funcs.length≤140737488355328
 bs: ∀f∈u.funcs,Fits f.blocks
def yk (f:GF):Prop:=f.blocks.length≤24∧eQ f.blocks≤120
theorem SliceR.later {α:Type} {R:List Value→α→Prop} {sz:Nat} {h:ae} (ok:bh h) {L:SV} {xs:List α} (s:SliceR R sz h L.v xs) {i:Nat} {x:α} (hi:xs[i]? =some x):
  ∃b off c,L.a=some ⟨b,off,none⟩∧i<xs.length∧c.length=sz∧R c x∧Old b h∧ ∀h':ae,ab aG h h'→ ∀k m,k+m≤sz→aT h' b (off+i*sz+k) m=some ((c.drop k).take m):=by
 obtain⟨b,off,c,w⟩:=SliceR.at ok s hi
 exact⟨b,off,c,w.a,(bY.mp hi).1,w.len,w.r,w.bl,fun h' g=>w.rd h' (g.got w.bl)⟩
theorem HL {h h2:ae} (ok:bh h) {G F:SV} {u:GU} {B:SV} {f:GF} {i:Nat} (hi:u.funcs[i]? =some f) (hF: ∃b off,F.a=some ⟨b,off,none⟩∧F.l=u.funcs.length∧ ∀h',ab aG h h'→aT h' b (off+i*4+3) 1=some [B.v]) (hB:wB h B f.blocks) (hm:Fits f.blocks)
  {U:Nat} (hU:h2.tr.get U=some (.aA [G.v,F.v] false 0 0)) (g2:ab aG h h2) {e:Env} {Q:aO→Env→ae→Prop} (f1:Env.get e 1= .pointer (some ⟨U,0,none⟩)) (f3:Env.get e 3= .int .i64 i) (f4:Env.get e 4= .int .i64 0) (f5:Env.get e 5= .int .i64 0)
  (C: ∀e' h',ab aG h2 h'→Env.get e' 1= .pointer (some ⟨U,0,none⟩)→Env.get e' 3= .int .i64 i→Env.get e' 4= .int .i64 (IntKind.i64.wrap (eQ f.blocks:Int))→Q (.exit 2) e' h'):
  az FF (.loop fT) e h2 Q:=by
 obtain⟨b,off,hFa,hFl,hrd⟩:=hF
 have hBl:=SliceR.len hB
 refine az.loop (fun m e h3=> ∃j:Nat,m=f.blocks.length-j∧j≤f.blocks.length∧Env.get e 1= .pointer (some ⟨U,0,none⟩)∧Env.get e 3= .int .i64 i∧Env.get e 4= .int .i64 (IntKind.i64.wrap (eQ (f.blocks.take j):Int))∧Env.get e 5= .int .i64 j∧ab aG h2 h3) ?_ (n:=f.blocks.length)
  ⟨0,rfl,by omega,f1,f3,by rw[f4];simp[eQ,wrap_i64],f5,.refl g2.ok⟩
 rintro m e h3 ⟨j,rfl,hj,f1,f3,f4,f5,g3⟩
 have gg:=g2.trans g3
 have hU3:=g3.get g2.ok hU (fun h=>h)
 have hr:=hrd h3 gg
 have hil:=(bY.mp hi).1
 unfold fT
 by_cases hjl:j<f.blocks.length
 ·have hx:f.blocks[j]? =some f.blocks[j]:=aQ hjl
  generalize f.blocks[j]=x at hx
  obtain⟨b2,off2,c,hBa,_,hcl,hc,oB2,hrd2⟩:=SliceR.later ok hB hx
  obtain⟨P,L,T,rfl,sP,sL,sT⟩:=hc
  have r0:=hrd2 h3 gg 0 1 (by decide)
  have r1:=hrd2 h3 gg 1 1 (by decide)
  have hPl:=SliceR.len sP
  have hLl:=SliceR.len sL
  have hle:=zm hx
  have hf:=hm.2 x (di hx)
  have hf1:=hm.1
  simp[-ag] at r0 r1 hr
  obtain⟨j',hj'⟩: ∃j',j'=j+1:=⟨_,rfl⟩
  have wj:IntKind.i64.wrap ((j:Int)+1)=(j':Int):=by rw[wrap_i64 _ (by omega) (by omega)];omega
  have oU:=g3.ok.bl hU3
  have hst:=g3.ok.st _ _ _ _ _ hU3
  have w2:IntKind.i64.wrap ((eQ (f.blocks.take j):Int)+(x.dY.length:Int)+(x.list.length:Int))=IntKind.i64.wrap ((eQ (f.blocks.take j'):Nat):Int):=by rw[hj',hle];congr 1;omega
  simp[f1,f3,f4,f5,aw hU3,aB,hFa,hFl,hil,hr,hBl,hBa,hjl,r0,r1,-ag,hPl,hLl,wrap_add,w2,wj]
  exact⟨f.blocks.length-j',by omega,j',rfl,by omega,rfl,rfl,g3.tick⟩
 ·have:j=f.blocks.length:=by omega
  subst this
  rw[List.take_length] at f4
  simp[-ag] at hr
  simp[f1,f3,f4,f5,aw hU3,hFa,hFl,hil,hr,hBl,-ag]
  exact C _ _ g3 (by simp[f1]) (by simp[f3]) (by simp[f4])
theorem Fj {h:ae} (ok:bh h) {G F:SV} {u:GU} (hu:uR h G F u) (sm:Small u):
  aE FF lD [.agg ⟨[G.v,F.v]⟩] h (fun v h'=>ab aG h h'∧ ∃hv:Bool,v= .bool hv∧(hv=false→u.funcs.length≤10∧ ∀f∈u.funcs,yk f)):=by
 have hFl:=SliceR.len hu.2
 refine aE.of su ?_
 unfold lq
 simp
 have g0:=aI ok [G.v,F.v] 0
 refine az.loop (fun m e h2=> ∃i:Nat,m=u.funcs.length-i∧i≤u.funcs.length∧Env.get e 1= .pointer (some ⟨h.next,0,none⟩)∧Env.get e 3= .int .i64 i∧ab aG h h2∧h2.tr.get h.next=some (.aA [G.v,F.v] false 0 0)∧ ∀f∈u.funcs.take i,yk f) ?_ (n:=u.funcs.length)
  ⟨0,rfl,by omega,by simp,by simp,by simpa using g0,by simp,by simp⟩
 rintro m e h2 ⟨i,rfl,hi,f1,f3,g2,hU,hL⟩
 unfold jU
 have hU':=hU
 simp at hU'
 by_cases hil:i<u.funcs.length
 ·have hx:u.funcs[i]? =some u.funcs[i]:=aQ hil
  have hm:=List.getElem_mem hil
  generalize u.funcs[i]=f at hx hm
  have hb:=sm.bs f hm
  obtain⟨b,off,c,hFa,_,_,⟨B,rfl,hB⟩,_,hrd⟩:=SliceR.later ok hu.2 hx
  simp[f1,f3,hU',hFl,hil]
  refine HL ok hx ⟨b,off,hFa,hFl,fun h' g=>hrd h' g 3 1 (by decide)⟩ hB hb (G:=G) (U:=h.next) hU g2 (by simp[f1]) (by simp[f3]) (by simp) (by simp) ?_
  intro e3 h3 g3 q1 q3 q4
  have gg:=g2.trans g3
  have hU3:=g3.get g2.ok hU' (fun h=>h)
  have hr:=hrd h3 gg 3 1 (by decide)
  have hBl:=SliceR.len hB
  simp[-ag] at hr
  have hs:=hU3
  have hfs:=sm.fs
  have wi:=wrap_i64 (i+1) (by omega) (by omega)
  have pK: ¬24<f.blocks.length→ ¬120<eQ f.blocks→ ∀f∈u.funcs.take (i+1),yk f:=by
   intro h1 h2 f' hf'
   rw[List.take_add_one,hx] at hf'
   rcases List.mem_append.1 hf' with h|h
   ·exact hL f' h
   ·simp at h;subst h;exact⟨by omega,by omega⟩
  by_cases k1:24<f.blocks.length
  ·have k1':(24:Int)<f.blocks.length:=by omega
   simp[q1,q3,q4,aw hU3,hFa,hFl,hil,hr,hBl,k1',-ag]
   exact gg
  ·have k1': ¬(24:Int)<f.blocks.length:=by omega
   rw[Ag hb (by omega)] at q4
   by_cases k2:120<eQ f.blocks
   ·have k2':(120:Int)<eQ f.blocks:=by omega
    simp[q1,q3,q4,aw hU3,hFa,hFl,hil,hr,hBl,k1',k2',-ag]
    exact gg
   ·have k2': ¬(120:Int)<eQ f.blocks:=by omega
    simp[q1,q3,q4,aw hU3,hFa,hFl,hil,hr,hBl,k1',k2',wi,-ag]
    exact⟨u.funcs.length-(i+1),by omega,i+1,rfl,by omega,by simp,gg,by rw[hU3,hFa,hFl],pK k1 k2⟩
 ·have:i=u.funcs.length:=by omega
  subst this
  rw[List.take_length] at hL
  by_cases k:10<u.funcs.length
  ·have k':(10:Int)<u.funcs.length:=by omega
   simp[f1,f3,hU',hFl,k']
   exact g2
  ·have k': ¬(10:Int)<u.funcs.length:=by omega
   simp[f1,f3,hU',hFl,k']
   exact⟨g2,by omega,hL⟩
theorem AN {h:ae} (ok:bh h) (G F:SV):aE FF ni [.agg ⟨[G.v,F.v]⟩] h (fun v h'=>v= .bool (decide (G.l=0)&&decide (F.l=0))∧ab aG h h'):=by
 refine aE.of uN ?_
 unfold om
 have g0:=aI ok [G.v,F.v] 0
 simp at g0
 by_cases hG:G.l=0
 ·by_cases hF:F.l=0
  ·simp[hG,hF];simpa [hG,hF] using g0
  ·have hF':((F.l:Int)==0)=false:=by simp;omega
   simp[hG,hF,hF'];simpa [hG] using g0
 ·have hG':((G.l:Int)==0)=false:=by simp;omega
  simp[hG,hG'];exact g0
def aF (gs fs:SV) (name:ByteArray) (params ai:Int) (blocks ah:SV):List Value:=[gs.v,fs.v,.string name,.int .i64 params,.int .i64 ai,blocks.v,ah.v]
def xB (ai:Int) (r:Bool) (n:Int):Int:=if r=true∧ ¬(0≤n∧n≤ai-1) then 3 else 0
def Bo (ai n:Int):Int:=if ¬(0≤n∧n≤ai-1) then 3 else 0
section
variable {gs fs blocks ah:SV} {name:ByteArray} {params ai:Int}
theorem rH (h:ae) (ok:bh h) (hr:0≤ai∧ai<1000000) (r:Bool) (n:Int):
  aE FF jz [.agg ⟨aF gs fs name params ai blocks ah⟩,.agg ⟨[.bool r,.int .i64 n]⟩] h (fun v h'=>v= .int .i64 (xB ai r n)∧ab aG h h'):=by
 refine aE.of uA ?_
 unfold nt
 have hw:=wrap_i64 (ai-1) (by omega) (by omega)
 have g1:=(aI ok (aF gs fs name params ai blocks ah) 0)
 have g2:=g1.new [.bool r,.int .i64 n] 0
 cases r with
 |false=>simp[aF,xB];simpa [aF] using g2
 |true=>
  simp[aF,hw]
  refine aD.call (by simpa using df _ n 0 (ai-1)) ?_
  rintro _ h' ⟨rfl,he⟩
  subst he
  by_cases h1:0≤n
  ·by_cases h2:n≤ai-1
   ·simp[h1,h2,xB];simpa [aF] using g2
   ·have h2':ai-1<n:=by omega
    simp[h1,h2,h2',xB];simpa [aF] using g2
  ·have h1':n<0:=by omega
   simp[h1,h1',xB];simpa [aF] using g2
theorem zy (h:ae) (ok:bh h) (hr:0≤ai∧ai<1000000) (n:Int):
  aE FF ny [.agg ⟨aF gs fs name params ai blocks ah⟩,.int .i64 n] h (fun v h'=>v= .int .i64 (Bo ai n)∧ab aG h h'):=by
 refine aE.of uw ?_
 unfold nv
 have hw:=wrap_i64 (ai-1) (by omega) (by omega)
 have g1:=(aI ok (aF gs fs name params ai blocks ah) 0)
 simp[aF,hw]
 refine aD.call (by simpa using df _ n 0 (ai-1)) ?_
 rintro _ h' ⟨rfl,he⟩
 subst he
 by_cases h1:0≤n
 ·by_cases h2:n≤ai-1
  ·simp[h1,h2,Bo];simpa [aF] using g1
  ·have h2':ai-1<n:=by omega
   simp[h1,h2,h2',Bo];simpa [aF] using g1
 ·have h1':n<0:=by omega
  simp[h1,h1',Bo];simpa [aF] using g1
theorem Ht {h:ae} (ok:bh h) (hr:0≤ai∧ai<1000000) {C X:Nat} {op dst an bn fn:Int} {ar br:Bool} {args:SV} {s1 s2:Nat} (hC:h.tr.get C=some (.aA (aF gs fs name params ai blocks ah) false 0 s1))
  (hX:h.tr.get X=some (.aA (ay op dst ar an br bn fn args.v) false 0 s2)):
  aE FF e_ [.pointer (some ⟨C,0,none⟩),.pointer (some ⟨X,0,none⟩)] h (fun v h'=>v= .int .i64 (xB ai ar an)∧ab aG h h'):=by
 refine aE.of rJ ?_
 unfold l0
 simp[hC,hX,aF,ay]
 refine aD.call (by simpa [aF] using rH (gs:=gs) (fs:=fs) (name:=name) (params:=params) (blocks:=blocks) (ah:=ah) h ok hr ar an) ?_
 rintro _ h' ⟨rfl,g⟩
 simp
 exact g
theorem Hp {h:ae} (ok:bh h) (hr:0≤ai∧ai<1000000) {C X:Nat} {op dst an bn fn:Int} {ar br:Bool} {args:SV} {s1 s2:Nat} (hC:h.tr.get C=some (.aA (aF gs fs name params ai blocks ah) false 0 s1))
  (hX:h.tr.get X=some (.aA (ay op dst ar an br bn fn args.v) false 0 s2)):
  aE FF eZ [.pointer (some ⟨C,0,none⟩),.pointer (some ⟨X,0,none⟩)] h (fun v h'=>v= .int .i64 (xB ai br bn)∧ab aG h h'):=by
 refine aE.of sq ?_
 unfold lI
 simp[hC,hX,aF,ay]
 refine aD.call (by simpa [aF] using rH (gs:=gs) (fs:=fs) (name:=name) (params:=params) (blocks:=blocks) (ah:=ah) h ok hr br bn) ?_
 rintro _ h' ⟨rfl,g⟩
 simp
 exact g
end
def ways:List Value:=[.int .i64 0,.int .i64 0,.int .i64 1,.int .i64 2]
def xx (h:ae):Prop:= ∃ro o s,h.tr.get 0=some (.aA ways ro o s)
theorem xx.grow {h h':ae} (w:xx h) (ok:bh h) (g:ab aG h h'):xx h':=by
 obtain⟨ro,o,s,hw⟩:=w
 exact⟨ro,o,s,g.get ok hw (fun h=>h)⟩
theorem yZ {h:ae} (ok:bh h) {T:SV} {ns:List Int} (hT:SliceR nR 1 h T.v ns) (hl:ns.length<140737488355329) {f:Value} (p:Int→Bool) (H: ∀h1 n,ab aG h h1→bZ FF f [.int .i64 n] h1 (fun v h'=>v= .bool (p n)∧ab aG h1 h')):
  aE FF ib [T.v,f] h (fun v h'=>ab aG h h'∧ ∃i:Int,v= .int .i64 i∧(0≤i↔ ∃n∈ns,p n=true)):=by
 have hTl:=SliceR.len hT
 refine aE.of mW ?_
 unfold il
 simp
 refine az.loop (fun m e h2=> ∃j:Nat,m=ns.length-j∧j≤ns.length∧Env.get e 0=T.v∧Env.get e 1=f∧Env.get e 7= .int .i64 ns.length∧Env.get e 8= .int .i64 j∧ab aG h h2∧ ∀n∈ns.take j,p n=false) ?_ (n:=ns.length)
  ⟨0,rfl,by omega,by simp,by simp,by simp[hTl],by simp,.refl ok,by simp⟩
 rintro m e h2 ⟨j,rfl,hj,f0,f1,f7,f8,g2,hp⟩
 unfold fY
 by_cases hjl:j<ns.length
 ·have hx:ns[j]? =some ns[j]:=aQ hjl
  have hm:=List.getElem_mem hjl
  generalize ns[j]=n at hx hm
  obtain⟨b,off,c,hTa,_,_,rfl,_,hrd⟩:=SliceR.later ok hT hx
  have r0:=hrd h2 g2 0 1 (by decide)
  simp[-ag] at r0
  have wj:=wrap_i64 (j+1) (by omega) (by omega)
  simp at f0
  simp[f0,f1,f7,f8,hTa,hTl,hjl,r0,-ag]
  refine aD.cm (by simpa [f1] using H h2 n g2) ?_
  rintro _ h3 ⟨rfl,g3⟩
  cases hpn:p n with
  |true=>
   simp
   exact⟨g2.trans g3,n,hm,hpn⟩
  |false=>
   simp[f0,f1,f7,f8,wj]
   refine⟨ns.length-(j+1),by omega,j+1,rfl,by omega,⟨hTa,hTl⟩,by simp,g2.trans g3,?_⟩
   intro n' hn'
   rw[List.take_add_one,hx] at hn'
   rcases List.mem_append.1 hn' with h|h
   ·exact hp n' h
   ·simp at h;rw[h];exact hpn
 ·have:j=ns.length:=by omega
  subst this
  rw[List.take_length] at hp
  simp[f7,f8]
  exact⟨g2,fun n hn=>hp n hn⟩
theorem vV {h:ae} (ok:bh h) {T:SV} {ns:List Int} (hT:SliceR nR 1 h T.v ns) (hl:ns.length<140737488355329) {f:Value} (p:Int→Bool) (H: ∀h1 n,ab aG h h1→bZ FF f [.int .i64 n] h1 (fun v h'=>v= .bool (p n)∧ab aG h1 h')):
  aE FF dz [T.v,f] h (fun v h'=>v= .bool (ns.any p)∧ab aG h h'):=by
 refine aE.of lC ?_
 unfold fM
 simp
 refine aD.call (V:=fun v h'=>ab aG h h'∧ ∃i:Int,v= .int .i64 i∧(0≤i↔ ∃n∈ns,p n=true)) (by simpa using yZ ok hT hl p H) ?_
 rintro _ h2 ⟨g2,i,rfl,hi⟩
 have e:ns.any p=decide (0≤i):=by
  rw[Bool.eq_iff_iff];simp[hi]
 by_cases h0:0≤i
 ·simp[h0,e];exact g2
 ·have h0':i<0:=by omega
  simp[h0,h0',e];exact g2
section
variable {gs fs blocks ah:SV} {name:ByteArray} {params ai:Int}
def LM (n:Nat) (t:Int):Prop:=1≤t∧t≤(n:Int)-1
theorem H9 {h:ae} (ok:bh h) (hbl:blocks.l<1000000) {C s1:Nat} (hC:h.tr.get C=some (.aA (aF gs fs name params ai blocks ah) false 0 s1)) (t:Int):
  aE FF ig [.int .i64 t,.pointer (some ⟨C,0,none⟩)] h (fun v h'=>v= .bool (!(decide (1≤t)&&decide (t≤(blocks.l:Int)-1)))∧ab aG h h'):=by
 have w1:=wrap_i64 ((blocks.l:Int)-1) (by omega) (by omega)
 refine aE.of r6 ?_
 unfold lE
 simp[hC,aF,w1]
 refine aD.call (by simpa using df h t 1 ((blocks.l:Int)-1)) ?_
 rintro _ h2 ⟨rfl,rfl⟩
 simp
 exact .refl ok
structure Dy (n:Nat) (ai:Int) (b:GB):Prop where
 kind:(b.kind=1∧b.to=[])∨(b.kind=2∧ ∃t,b.to=[t])∨(b.kind=3∧ ∃t u,b.to=[t,u]∧t≠u)
 to: ∀t∈b.to,LM n t
 on:b.on.1=true→0≤b.on.2∧b.on.2≤ai-1
def wg (n:Nat) (ts:List Int):Bool:=ts.any fun t=> !(decide (1≤t)&&decide (t≤(n:Int)-1))
theorem Aq {n:Nat} {ts:List Int} (h:wg n ts=false): ∀t∈ts,LM n t:=by
 intro t ht
 unfold wg at h
 rw[List.any_eq_false] at h
 have:=h t ht
 simp at this
 exact this
theorem sJ {ai:Int} {r:Bool} {n:Int} (h:xB ai r n=0):r=true→0≤n∧n≤ai-1:=by
 intro hr
 unfold xB at h
 split at h
 ·cases h
 ·rename_i hn
  by_cases hh:0≤n∧n≤ai-1
  ·exact hh
  ·exact absurd ⟨hr,hh⟩ hn
theorem KG {h:ae} (ok:bh h) (hw:xx h) (hr:0≤ai∧ai<1000000) (hbl:blocks.l<1000000) {b:GB} (hlen:b.to.length<140737488355329) {T:SV} (hT:SliceR nR 1 h T.v b.to):
  aE FF jt [.agg ⟨aF gs fs name params ai blocks ah⟩,.agg ⟨[.int .i64 b.kind,.bool b.on.1,.int .i64 b.on.2,T.v]⟩] h (fun v h'=>ab aG h h'∧ ∃c:Int,v= .int .i64 c∧(c=0→Dy blocks.l ai b)):=by
 obtain⟨ph,li,kind,⟨r,n⟩,to⟩:=b
 simp only at hT hlen ⊢
 obtain⟨ro,o,s,hw0⟩:=hw
 have h0:0<h.next:=ok.wf _ _ hw0
 have hTl:=SliceR.len hT
 refine aE.of uG ?_
 unfold na
 simp[aF]
 refine aD.cut (fun h2=>ab aG h h2∧h2.tr.get h.next=some (.aA (aF gs fs name params ai blocks ah) false 0 0)∧h2.tr.get (h.next+1)=some (.aA [.int .i64 kind,.bool r,.int .i64 n,T.v] false 0 0)) ?_ ?_
 ·exact⟨((ab.refl ok).new _ _).new _ _,by simp[aF],by simp⟩
 rintro h2 ⟨g2,hC2,hX2⟩
 have hW2:=g2.get ok hw0 (fun h=>h)
 simp[ways] at hW2
 refine aD.call (by simpa using df h2 kind 1 3) ?_
 rintro _ h2' ⟨rfl,he⟩
 rw[he]
 have hC2':=hC2
 simp[aF] at hC2'
 simp at hX2
 by_cases hk:1≤kind∧kind≤3
 ·have hk':(decide (1≤kind)&&decide (kind≤3))=true:=by simpa using hk
  have hall: ∀h1,ab aG h2 h1→aE FF dz [T.v,.func (.func ig) #[] #[.pointer (some ⟨h.next,0,none⟩)]] h1 (fun v h'=>v= .bool (wg blocks.l to)∧ab aG h1 h'):=by
   intro h1 g1
   refine vV g1.ok (hT.mono ok (g2.trans g1) fun _ _ h=>h) hlen _ fun h3 n g3=> ?_
   refine bZ.func ?_
   have:=H9 g3.ok hbl (g3.get g1.ok (g1.get g2.ok hC2 (fun h=>h)) (fun h=>h)) n
   simpa using this
  have hend: ∀h1,ab aG h2 h1→aE FF jz [.agg ⟨aF gs fs name params ai blocks ah⟩,.agg ⟨[.bool r,.int .i64 n]⟩] h1 (fun v h'=>v= .int .i64 (xB ai r n)∧ab aG h1 h'):=fun h1 g1=>rH h1 g1.ok hr r n
  have hkk:kind=1∨kind=2∨kind=3:=by omega
  rcases hkk with rfl|rfl|rfl
  ·by_cases hl:to.length=0
   ·have hnil:to=[]:=List.length_eq_zero_iff.1 hl
    subst hnil
    have hTl':T.l=0:=hTl
    rw[hTl'] at hX2
    simp[hX2,hW2]
    refine aD.call (by simpa [hTl'] using hall (tick h2) (bc g2.ok)) ?_
    rintro _ h3 ⟨rfl,g3⟩
    have gg3:=(bc g2.ok).trans g3
    have hX3:=gg3.get g2.ok hX2 (fun h=>h)
    have hC3:=gg3.get g2.ok hC2' (fun h=>h)
    simp[wg,hX3,hC3]
    refine aD.call (by simpa [aF] using hend (tick h3) (gg3.trans (bc gg3.ok))) ?_
    rintro _ h4 ⟨rfl,g4⟩
    simp
    exact⟨((g2.trans gg3).trans (bc gg3.ok)).trans g4,fun h=>⟨.inl ⟨rfl,rfl⟩,by simp,sJ h⟩⟩
   ·have hl':((T.l:Int) !=0)=true:=by simp;omega
    simp[hX2,hW2,hl']
    exact g2.tick
  ·by_cases hl:to.length=1
   ·obtain⟨t,rfl⟩: ∃t,to=[t]:=List.length_eq_one_iff.1 hl
    have hTl':T.l=1:=hTl
    rw[hTl'] at hX2
    simp[hX2,hW2]
    refine aD.call (by simpa [hTl'] using hall (tick h2) (bc g2.ok)) ?_
    rintro _ h3 ⟨rfl,g3⟩
    have gg3:=(bc g2.ok).trans g3
    have hX3:=gg3.get g2.ok hX2 (fun h=>h)
    have hC3:=gg3.get g2.ok hC2' (fun h=>h)
    cases hany:wg blocks.l [t] with
    |true=>
     simp
     exact g2.trans gg3
    |false=>
     by_cases hz:r=false∧n=0
     ·obtain⟨rfl,rfl⟩:=hz
      simp[hX3,hC3]
      refine aD.call (by simpa [aF] using hend (tick h3) (gg3.trans (bc gg3.ok))) ?_
      rintro _ h4 ⟨rfl,g4⟩
      simp
      exact⟨((g2.trans gg3).trans (bc gg3.ok)).trans g4,fun _=>⟨.inr (.inl ⟨rfl,t,rfl⟩),Aq hany,fun h=>by cases h⟩⟩
     ·have hz':(r|| !(n==0))=true:=by
       cases r
       ·simp at hz ⊢;exact hz
       ·rfl
      simp[hX3,hC3,hz']
      exact(g2.trans gg3).tick
   ·have hl':((T.l:Int) !=1)=true:=by simp;omega
    simp[hX2,hW2,hl']
    exact g2.tick
  ·by_cases hl:to.length=2
   ·obtain⟨t,u,rfl⟩: ∃t u,to=[t,u]:=by
     match to,hl with
     |[t,u],_=>exact⟨t,u,rfl⟩
    have hTl':T.l=2:=hTl
    rw[hTl'] at hX2
    obtain⟨b0,off0,c0,hTa,_,_,rfl,_,hrd0⟩:=SliceR.later ok hT (i:=0) (x:=t) rfl
    obtain⟨b1,off1,c1,hTa1,_,_,rfl,_,hrd1⟩:=SliceR.later ok hT (i:=1) (x:=u) rfl
    rw[hTa] at hTa1 hX2
    cases hTa1
    simp[hX2,hW2]
    refine aD.call (by simpa [hTl',hTa] using hall (tick h2) (bc g2.ok)) ?_
    rintro _ h3 ⟨rfl,g3⟩
    have gg3:=(bc g2.ok).trans g3
    have hX3:=gg3.get g2.ok hX2 (fun h=>h)
    have hC3:=gg3.get g2.ok hC2' (fun h=>h)
    have r0:=hrd0 h3 (g2.trans gg3) 0 1 (by decide)
    have r1:=hrd1 h3 (g2.trans gg3) 0 1 (by decide)
    simp[-ag] at r0 r1
    cases hany:wg blocks.l [t,u] with
    |true=>
     simp
     exact g2.trans gg3
    |false=>
     by_cases htu:t=u
     ·subst htu
      simp[aB,aw hX3,r0,r1,-ag]
      exact(g2.trans gg3).tick
     ·have htu':(t==u)=false:=by simpa using htu
      simp[aB,aw hX3,aw hC3,r0,r1,htu',-ag]
      refine aD.call (by simpa [aF] using hend (tick h3) (gg3.trans (bc gg3.ok))) ?_
      rintro _ h4 ⟨rfl,g4⟩
      simp
      exact⟨((g2.trans gg3).trans (bc gg3.ok)).trans g4,fun h=>⟨.inr (.inr ⟨rfl,t,u,rfl,htu⟩),Aq hany,sJ h⟩⟩
   ·have hl':((T.l:Int) !=2)=true:=by simp;omega
    simp[hX2,hW2,hl']
    exact g2.tick
 ·have hk':(decide (1≤kind)&&decide (kind≤3))=false:=by simpa using hk
  simp[hk']
  exact g2
end
def KO (h:ae) (c:List Value) (l:List Int):Prop:= ∃S:SV,c=[S.v]∧SliceR nR 1 h S.v l
theorem KO.mono {h h':ae} (ok:bh h) (g:ab aG h h') {c:List Value} {x:List Int} (r:KO h c x):KO h' c x:=by
 obtain⟨A,e,s⟩:=r;exact⟨A,e,s.mono ok g fun _ _ h=>h⟩
def o9 (ai:Int) (v:Bool×Int):Prop:=v.1=true→0≤v.2∧v.2≤ai-1
def qJ (ai:Int) (n:Int):Prop:=0≤n∧n≤ai-1
theorem Ce {ai n:Int} (h:Bo ai n=0):qJ ai n:=by
 unfold Bo at h
 split at h
 ·cases h
 ·rename_i hn
  unfold qJ
  omega
def lx (ai:Int) (l:List (Bool×Int)):Prop:= ∀v∈l,o9 ai v
theorem lx.nil (ai:Int):lx ai []:=fun _ h=>by simp at h
theorem lx.take {ai:Int} {l:List (Bool×Int)} {j:Nat} {v:Bool×Int} (h:lx ai (l.take j)) (hx:l[j]? =some v) (hv:o9 ai v):lx ai (l.take (j+1)):=by
 intro n hn
 rw[List.take_add_one,hx] at hn
 rcases List.mem_append.1 hn with h1|h1
 ·exact h n h1
 ·simp at h1;rw[h1];exact hv
theorem nq {a b:Int} (h: ¬a=b):(a !=b)=true:=by simpa using h
structure Ap (ai:Int) (n:Nat) (p:GP):Prop where
 dst:qJ ai p.dst
 len:p.row.length=n
 row:lx ai p.row
section
variable {gs fs blocks ah:SV} {name:ByteArray} {params ai:Int}
theorem JF {h:ae} (ok:bh h) (hr:0≤ai∧ai<1000000) {xss:List (List Int)} (hA:SliceR (KO h) 1 h ah.v xss) {i:Nat} {l:List Int} (hi:xss[i]? =some l) {p:GP} (hlen:p.row.length<140737488355329) {W:SV} (hW:SliceR vR 2 h W.v p.row):
  aE FF js [.agg ⟨aF gs fs name params ai blocks ah⟩,.int .i64 i,.agg ⟨[.int .i64 p.dst,W.v]⟩] h (fun v h'=>ab aG h h'∧ ∃c:Int,v= .int .i64 c∧(c=0→i≠0∧Ap ai l.length p)):=by
 have hWl:=SliceR.len hW
 have hAl:=SliceR.len hA
 refine aE.of uu ?_
 unfold mY
 by_cases h0:i=0
 ·subst h0
  simp[aF]
  exact((ab.refl ok).new _ _).new _ _
 have h0':((i:Int)==0)=false:=by simp;omega
 obtain⟨ba,offa,ca,hAa,hil,_,⟨S,rfl,hS⟩,oA,hrdA⟩:=SliceR.later ok hA hi
 have hSl:=SliceR.len hS
 simp[aF,h0',h0]
 refine aD.cut (fun h2=>ab aG h h2∧h2.tr.get h.next=some (.aA (aF gs fs name params ai blocks ah) false 0 0)∧h2.tr.get (h.next+1)=some (.aA [.int .i64 p.dst,W.v] false 0 0)) ?_ ?_
 ·exact⟨((ab.refl ok).new _ _).new _ _,by simp[aF],by simp⟩
 rintro h2 ⟨g2,hC2,hX2⟩
 refine aD.call (by simpa [aF] using zy (gs:=gs) (fs:=fs) (name:=name) (params:=params) (blocks:=blocks) (ah:=ah) h2 g2.ok hr p.dst) ?_
 rintro _ h3 ⟨rfl,g3⟩
 have gg3:=g2.trans g3
 have hC3:=g3.get g2.ok hC2 (fun h=>h)
 have hX3:=g3.get g2.ok hX2 (fun h=>h)
 by_cases hd:Bo ai p.dst=0
 ·have rA:=hrdA h3 gg3 0 1 (by decide)
  simp[-ag] at rA
  simp[aF] at hC3
  simp at hX3
  by_cases hll:p.row.length=l.length
  ·have e1:((W.l:Int) !=(S.l:Int))=false:=by simp;omega
   simp[hd,aB,aw hX3,aw hC3,hAa,hAl,hil,rA,e1,-ag]
   refine az.loop (fun m e h4=> ∃j:Nat,m=p.row.length-j∧j≤p.row.length∧Env.get e 3= .pointer (some ⟨h.next,0,none⟩)∧Env.get e 31=W.v∧Env.get e 32= .int .i64 p.row.length∧Env.get e 33= .int .i64 j∧ab aG h3 h4∧lx ai (p.row.take j)) ?_ (n:=p.row.length)
    ⟨0,rfl,by omega,by simp,by simp,by simp[hWl],by simp,bc gg3.ok,.nil _⟩
   rintro m e h4 ⟨j,rfl,hj,f3,f31,f32,f33,g4,hv⟩
   have gg4:=gg3.trans g4
   have hC4:=g4.get gg3.ok hC3 (fun h=>h)
   unfold lh
   by_cases hjl:j<p.row.length
   ·have hx:p.row[j]? =some p.row[j]:=aQ hjl
    generalize p.row[j]=v at hx
    obtain⟨b,off,c,hWa,_,_,rfl,oW,hrd⟩:=SliceR.later ok hW hx
    have r0:=hrd h4 gg4 0 2 (by decide)
    simp[-ag] at r0
    have wj:=wrap_i64 (j+1) (by omega) (by omega)
    have oC4:=gg4.ok.bl hC4
    simp at f31
    simp[f3,f31,f32,f33,hWa,hWl,hjl,r0,aw hC4,aq,bg,aL,oC4,-ag]
    refine aD.cut (fun h5=>ab aG h4 h5) ?_ ?_
    ·exact((ab.refl gg4.ok).new _ _).put ⟨0,by simp⟩ (.inl (Nat.le_refl _))
    rintro h5 g5
    have gg5:=gg4.trans g5
    refine aD.call (by simpa [aF] using rH (gs:=gs) (fs:=fs) (name:=name) (params:=params) (blocks:=blocks) (ah:=ah) h5 gg5.ok hr v.1 v.2) ?_
    rintro _ h6 ⟨rfl,g6⟩
    by_cases hvv:xB ai v.1 v.2=0
    ·simp[f3,f31,f32,f33,hvv,wj]
     refine⟨p.row.length-(j+1),by omega,j+1,rfl,by omega,⟨hWa,hWl⟩,by simp,(g4.trans g5).trans g6,hv.take hx (sJ hvv)⟩
    ·have:=nq hvv
     simp[this]
     exact⟨gg5.trans g6,fun h=>absurd h hvv⟩
   ·have:j=p.row.length:=by omega
    subst this
    rw[List.take_length] at hv
    simp[f32,f33]
    exact⟨gg4,⟨Ce hd,hll,hv⟩⟩
  ·have e1:((W.l:Int) !=(S.l:Int))=true:=by simp;omega
   simp[hd,aB,aw hX3,aw hC3,hAa,hAl,hil,rA,e1,-ag]
   exact gg3.tick
 ·have:=nq hd
  simp[this]
  exact⟨gg3,fun h=>absurd h hd⟩
end
def Et:List aV:=[⟨(some 18),none,(.bw 0 (.tmp 5))⟩,⟨(some 19),none,(.load none (.tmp 18))⟩,⟨(some 20),none,(.un .not (.tmp 19))⟩,⟨(some 21),none,(.mv (.tmp 20))⟩,⟨(some 22),(some (21,true)),(.bw 1 (.tmp 3))⟩,⟨(some 23),(some (21,true)),(.load none (.tmp 22))⟩,⟨(some 24),(some (21,true)),(.bin .neq [1] (.tmp 23) (.const (.int .i64 (Int.negSucc 0))))⟩,⟨(some 25),none,(.pick (.tmp 21) (.tmp 24) (.const (.bool false)))⟩,⟨(some 26),none,(.mv (.tmp 25))⟩,⟨(some 27),(some (26,false)),(.bw 1 (.tmp 5))⟩,⟨(some 28),(some (26,false)),(.load none (.tmp 27))⟩,⟨(some 29),(some (26,false)),(.un .not (.tmp 28))⟩,⟨(some 30),(some (26,false)),(.mv (.tmp 29))⟩,⟨(some 31),(some (30,true)),(.bw 2 (.tmp 3))⟩,⟨(some 32),(some (30,true)),(.load (some 2) (.tmp 31))⟩,⟨(some 33),(some (30,true)),(.build [(.bool false),(.int .i64 0)] [])⟩,⟨(some 34),(some (30,true)),(.bin .neq [9,0,1] (.tmp 32) (.tmp 33))⟩,⟨(some 35),(some (26,false)),(.pick (.tmp 30) (.tmp 34) (.const (.bool false)))⟩,⟨(some 36),none,(.pick (.tmp 26) (.const (.bool true)) (.tmp 35))⟩,⟨(some 37),none,(.mv (.tmp 36))⟩,⟨(some 38),(some (37,false)),(.bw 2 (.tmp 5))⟩,⟨(some 39),(some (37,false)),(.load none (.tmp 38))⟩,⟨(some 40),(some (37,false)),(.un .not (.tmp 39))⟩,⟨(some 41),(some (37,false)),(.mv (.tmp 40))⟩,⟨(some 42),(some (41,true)),(.bw 4 (.tmp 3))⟩,⟨(some 43),(some (41,true)),(.load (some 2) (.tmp 42))⟩,⟨(some 44),(some (41,true)),(.build [(.bool false),(.int .i64 0)] [])⟩,⟨(some 45),(some (41,true)),(.bin .neq [9,0,1] (.tmp 43) (.tmp 44))⟩,⟨(some 46),(some (37,false)),(.pick (.tmp 41) (.tmp 45) (.const (.bool false)))⟩,⟨(some 47),none,(.pick (.tmp 37) (.const (.bool true)) (.tmp 46))⟩,⟨(some 48),none,(.mv (.tmp 47))⟩,⟨(some 49),(some (48,false)),(.load none (.tmp 6))⟩,⟨(some 50),(some (48,false)),(.un .not (.tmp 49))⟩,⟨(some 51),(some (48,false)),(.mv (.tmp 50))⟩,⟨(some 52),(some (51,true)),(.bw 6 (.tmp 3))⟩,⟨(some 53),(some (51,true)),(.load none (.tmp 52))⟩,⟨(some 54),(some (51,true)),(.bin .neq [1] (.tmp 53) (.const (.int .i64 0)))⟩,⟨(some 55),(some (51,true)),(.mv (.tmp 54))⟩,⟨(some 56),(some (55,false)),(.bw 7 (.tmp 3))⟩,⟨(some 57),(some (55,false)),(.load none (.tmp 56))⟩,⟨(some 58),(some (55,false)),(.nx (.tmp 57))⟩,⟨(some 59),(some (55,false)),(.bin .gtr [] (.tmp 58) (.const (.int .i64 0)))⟩,⟨(some 60),(some (51,true)),(.pick (.tmp 55) (.const (.bool true)) (.tmp 59))⟩,⟨(some 61),(some (48,false)),(.pick (.tmp 51) (.tmp 60) (.const (.bool false)))⟩,⟨(some 62),none,(.pick (.tmp 48) (.const (.bool true)) (.tmp 61))⟩]
def Cb:aj:=(.seq (.seq (.ops [f_ 63 0 5,l_ 64 63,m_ 65 64,q_ 66 65 true (.load none (t_ 6)),q_ 67 65 true (.mv (t_ 66)),q_ 68 67 true (.bw 1 (t_ 3)),q_ 69 67 true (.load none (t_ 68)),q_ 70 67 true (.bin .eql [1] (t_ 69) (.const (.int .i64 (Int.negSucc 0)))),q_ 71 65 true (.pick (t_ 67) (t_ 70) (.const (.bool false))),q_ 72 65 true (.un .not (t_ 71)),o_ 73 (.pick (t_ 65) (t_ 72) (.const (.bool false)))]) (.cond (t_ 73) (.seq (.ops [L_ 74 7 2,f_ 75 1 3,l_ 76 75,F_ 77 80 [t_ 74,t_ 76],m_ 7 77]) (.seq (.ops [m_ 78 7,o_ 79 (.bin .neq [1] (t_ 78) (i_ 0))]) (.cond (t_ 79) (.seq (.ops [m_ 80 7,m_ 4 80]) .ret) .skip))) .skip)) (.seq (.ops [o_ 81 (.mH 82 [t_ 2,t_ 3]),o_ 82 (.mH 83 [t_ 2,t_ 3]),o_ 83 (.mH 84 [t_ 6,t_ 3,t_ 2]),o_ 84 (.ct 3 [.nilFunc,.nilFunc,.nilFunc] [(0,(1,(t_ 81))),(1,(1,(t_ 82))),(2,(1,(t_ 83)))]),F_ 85 81 [t_ 84],m_ 4 85]) .ret))
theorem KC:n_=(.seq (.ops [x_ 2 0,x_ 3 1,k_ 4 0]) (.seq (.seq (.ops [f_ 8 0 3,l_ 9 8,F_ 10 32 [t_ 9,(i_ 1),(i_ 22)],o_ 11 (.un .not (t_ 10))]) (.cond (t_ 11) (.seq (.ops [k_ 4 4]) .ret) .skip)) (.seq (.ops [f_ 12 0 3,l_ 13 12,F_ 14 70 [t_ 13],o_ 5 (.alloc [(.bool false),(.bool false),(.bool false)]),s_ 3 5 14]) (.seq (.ops [f_ 15 0 3,l_ 16 15,o_ 17 (.bin .eql [1] (t_ 16) (i_ 20)),o_ 6 (.alloc [(.bool false)]),s_ 1 6 17]) (.seq (.seq (.ops Et) (.cond (t_ 62) (.seq (.ops [k_ 4 5]) .ret) .skip)) Cb))))):=rfl
def aU (s:Bool×Bool×Bool) (x:GI) (n:Nat):Bool:=
 (!s.1&&x.dst != -1)||((!s.2.1&& !(!x.a.1&&x.a.2==0))||((!s.2.2&& !(!x.b.1&&x.b.2==0))||(!(x.op==20)&&(x.fn !=0||decide (0<n)))))
theorem LW {h:ae} {e:Env} {X S K s1 s2 s3:Nat} {s:Bool×Bool×Bool} {x:GI} {A:SV} {R:Env→ae→Prop}
  (hX:h.tr.get X=some (.aA (ay x.op x.dst x.a.1 x.a.2 x.b.1 x.b.2 x.fn A.v) false 0 s1)) (hS:h.tr.get S=some (.aA [.bool s.1,.bool s.2.1,.bool s.2.2] false 0 s2)) (hK:h.tr.get K=some (.aA [.bool (x.op==20)] false 0 s3))
  (f3:Env.get e 3= .pointer (some ⟨X,0,none⟩)) (f5:Env.get e 5= .pointer (some ⟨S,0,none⟩)) (f6:Env.get e 6= .pointer (some ⟨K,0,none⟩))
  (H: ∀e',Env.get e' 2=Env.get e 2→Env.get e' 3=Env.get e 3→Env.get e' 5=Env.get e 5→Env.get e' 6=Env.get e 6→Env.get e' 62= .bool (aU s x A.l)→R e' h):aD FF Et e h R:=by
 obtain⟨op,dst,⟨ar,an⟩,⟨br,bn⟩,fn,args⟩:=x
 obtain⟨sd,sa,sb⟩:=s
 simp[ay] at hX hS hK
 unfold Et
 cases sd with
 |true=>
  cases sa with
  |true=>
   cases sb with
   |true=>
    cases hc:(op==20) with
    |true=>
     simp[f3,f5,f6,hX,hS,hK,bne,hc]
     refine H _ ?_ ?_ ?_ ?_ ?_<;>simp[aU,f3,f5,f6,bne,hc]
    |false=>
     cases hf:(fn==0) with
     |true=>
      simp[f3,f5,f6,hX,hS,hK,bne,hc,hf]
      refine H _ ?_ ?_ ?_ ?_ ?_<;>simp[aU,f3,f5,f6,bne,hc,hf]
     |false=>
      simp[f3,f5,f6,hX,hS,hK,bne,hc,hf]
      refine H _ ?_ ?_ ?_ ?_ ?_<;>simp[aU,f3,f5,f6,bne,hc,hf]
   |false=>
    cases br with
    |true=>
     simp[f3,f5,f6,hX,hS,hK,bne]
     refine H _ ?_ ?_ ?_ ?_ ?_<;>simp[aU,f3,f5,f6,bne]
    |false=>
     cases hb:(bn==0) with
     |false=>
      simp[f3,f5,f6,hX,hS,hK,bne,hb]
      refine H _ ?_ ?_ ?_ ?_ ?_<;>simp[aU,f3,f5,f6,bne,hb]
     |true=>
      cases hc:(op==20) with
      |true=>
       simp[f3,f5,f6,hX,hS,hK,bne,hb,hc]
       refine H _ ?_ ?_ ?_ ?_ ?_<;>simp[aU,f3,f5,f6,bne,hb,hc]
      |false=>
       cases hf:(fn==0) with
       |true=>
        simp[f3,f5,f6,hX,hS,hK,bne,hb,hc,hf]
        refine H _ ?_ ?_ ?_ ?_ ?_<;>simp[aU,f3,f5,f6,bne,hb,hc,hf]
       |false=>
        simp[f3,f5,f6,hX,hS,hK,bne,hb,hc,hf]
        refine H _ ?_ ?_ ?_ ?_ ?_<;>simp[aU,f3,f5,f6,bne,hb,hc,hf]
  |false=>
   cases sb with
   |true=>
    cases ar with
    |true=>
     simp[f3,f5,f6,hX,hS,hK,bne]
     refine H _ ?_ ?_ ?_ ?_ ?_<;>simp[aU,f3,f5,f6,bne]
    |false=>
     cases ha:(an==0) with
     |false=>
      simp[f3,f5,f6,hX,hS,hK,bne,ha]
      refine H _ ?_ ?_ ?_ ?_ ?_<;>simp[aU,f3,f5,f6,bne,ha]
     |true=>
      cases hc:(op==20) with
      |true=>
       simp[f3,f5,f6,hX,hS,hK,bne,ha,hc]
       refine H _ ?_ ?_ ?_ ?_ ?_<;>simp[aU,f3,f5,f6,bne,ha,hc]
      |false=>
       cases hf:(fn==0) with
       |true=>
        simp[f3,f5,f6,hX,hS,hK,bne,ha,hc,hf]
        refine H _ ?_ ?_ ?_ ?_ ?_<;>simp[aU,f3,f5,f6,bne,ha,hc,hf]
       |false=>
        simp[f3,f5,f6,hX,hS,hK,bne,ha,hc,hf]
        refine H _ ?_ ?_ ?_ ?_ ?_<;>simp[aU,f3,f5,f6,bne,ha,hc,hf]
   |false=>
    cases ar with
    |true=>
     simp[f3,f5,f6,hX,hS,hK,bne]
     refine H _ ?_ ?_ ?_ ?_ ?_<;>simp[aU,f3,f5,f6,bne]
    |false=>
     cases ha:(an==0) with
     |false=>
      simp[f3,f5,f6,hX,hS,hK,bne,ha]
      refine H _ ?_ ?_ ?_ ?_ ?_<;>simp[aU,f3,f5,f6,bne,ha]
     |true=>
      cases br with
      |true=>
       simp[f3,f5,f6,hX,hS,hK,bne,ha]
       refine H _ ?_ ?_ ?_ ?_ ?_<;>simp[aU,f3,f5,f6,bne,ha]
      |false=>
       cases hb:(bn==0) with
       |false=>
        simp[f3,f5,f6,hX,hS,hK,bne,ha,hb]
        refine H _ ?_ ?_ ?_ ?_ ?_<;>simp[aU,f3,f5,f6,bne,ha,hb]
       |true=>
        cases hc:(op==20) with
        |true=>
         simp[f3,f5,f6,hX,hS,hK,bne,ha,hb,hc]
         refine H _ ?_ ?_ ?_ ?_ ?_<;>simp[aU,f3,f5,f6,bne,ha,hb,hc]
        |false=>
         cases hf:(fn==0) with
         |true=>
          simp[f3,f5,f6,hX,hS,hK,bne,ha,hb,hc,hf]
          refine H _ ?_ ?_ ?_ ?_ ?_<;>simp[aU,f3,f5,f6,bne,ha,hb,hc,hf]
         |false=>
          simp[f3,f5,f6,hX,hS,hK,bne,ha,hb,hc,hf]
          refine H _ ?_ ?_ ?_ ?_ ?_<;>simp[aU,f3,f5,f6,bne,ha,hb,hc,hf]
 |false=>
  cases sa with
  |true=>
   cases sb with
   |true=>
    cases hd:(dst== -1) with
    |false=>
     simp[f3,f5,f6,hX,hS,hK,bne,hd]
     refine H _ ?_ ?_ ?_ ?_ ?_<;>simp[aU,f3,f5,f6,bne,hd]
    |true=>
     cases hc:(op==20) with
     |true=>
      simp[f3,f5,f6,hX,hS,hK,bne,hd,hc]
      refine H _ ?_ ?_ ?_ ?_ ?_<;>simp[aU,f3,f5,f6,bne,hd,hc]
     |false=>
      cases hf:(fn==0) with
      |true=>
       simp[f3,f5,f6,hX,hS,hK,bne,hd,hc,hf]
       refine H _ ?_ ?_ ?_ ?_ ?_<;>simp[aU,f3,f5,f6,bne,hd,hc,hf]
      |false=>
       simp[f3,f5,f6,hX,hS,hK,bne,hd,hc,hf]
       refine H _ ?_ ?_ ?_ ?_ ?_<;>simp[aU,f3,f5,f6,bne,hd,hc,hf]
   |false=>
    cases hd:(dst== -1) with
    |false=>
     simp[f3,f5,f6,hX,hS,hK,bne,hd]
     refine H _ ?_ ?_ ?_ ?_ ?_<;>simp[aU,f3,f5,f6,bne,hd]
    |true=>
     cases br with
     |true=>
      simp[f3,f5,f6,hX,hS,hK,bne,hd]
      refine H _ ?_ ?_ ?_ ?_ ?_<;>simp[aU,f3,f5,f6,bne,hd]
     |false=>
      cases hb:(bn==0) with
      |false=>
       simp[f3,f5,f6,hX,hS,hK,bne,hd,hb]
       refine H _ ?_ ?_ ?_ ?_ ?_<;>simp[aU,f3,f5,f6,bne,hd,hb]
      |true=>
       cases hc:(op==20) with
       |true=>
        simp[f3,f5,f6,hX,hS,hK,bne,hd,hb,hc]
        refine H _ ?_ ?_ ?_ ?_ ?_<;>simp[aU,f3,f5,f6,bne,hd,hb,hc]
       |false=>
        cases hf:(fn==0) with
        |true=>
         simp[f3,f5,f6,hX,hS,hK,bne,hd,hb,hc,hf]
         refine H _ ?_ ?_ ?_ ?_ ?_<;>simp[aU,f3,f5,f6,bne,hd,hb,hc,hf]
        |false=>
         simp[f3,f5,f6,hX,hS,hK,bne,hd,hb,hc,hf]
         refine H _ ?_ ?_ ?_ ?_ ?_<;>simp[aU,f3,f5,f6,bne,hd,hb,hc,hf]
  |false=>
   cases sb with
   |true=>
    cases hd:(dst== -1) with
    |false=>
     simp[f3,f5,f6,hX,hS,hK,bne,hd]
     refine H _ ?_ ?_ ?_ ?_ ?_<;>simp[aU,f3,f5,f6,bne,hd]
    |true=>
     cases ar with
     |true=>
      simp[f3,f5,f6,hX,hS,hK,bne,hd]
      refine H _ ?_ ?_ ?_ ?_ ?_<;>simp[aU,f3,f5,f6,bne,hd]
     |false=>
      cases ha:(an==0) with
      |false=>
       simp[f3,f5,f6,hX,hS,hK,bne,hd,ha]
       refine H _ ?_ ?_ ?_ ?_ ?_<;>simp[aU,f3,f5,f6,bne,hd,ha]
      |true=>
       cases hc:(op==20) with
       |true=>
        simp[f3,f5,f6,hX,hS,hK,bne,hd,ha,hc]
        refine H _ ?_ ?_ ?_ ?_ ?_<;>simp[aU,f3,f5,f6,bne,hd,ha,hc]
       |false=>
        cases hf:(fn==0) with
        |true=>
         simp[f3,f5,f6,hX,hS,hK,bne,hd,ha,hc,hf]
         refine H _ ?_ ?_ ?_ ?_ ?_<;>simp[aU,f3,f5,f6,bne,hd,ha,hc,hf]
        |false=>
         simp[f3,f5,f6,hX,hS,hK,bne,hd,ha,hc,hf]
         refine H _ ?_ ?_ ?_ ?_ ?_<;>simp[aU,f3,f5,f6,bne,hd,ha,hc,hf]
   |false=>
    cases hd:(dst== -1) with
    |false=>
     simp[f3,f5,f6,hX,hS,hK,bne,hd]
     refine H _ ?_ ?_ ?_ ?_ ?_<;>simp[aU,f3,f5,f6,bne,hd]
    |true=>
     cases ar with
     |true=>
      simp[f3,f5,f6,hX,hS,hK,bne,hd]
      refine H _ ?_ ?_ ?_ ?_ ?_<;>simp[aU,f3,f5,f6,bne,hd]
     |false=>
      cases ha:(an==0) with
      |false=>
       simp[f3,f5,f6,hX,hS,hK,bne,hd,ha]
       refine H _ ?_ ?_ ?_ ?_ ?_<;>simp[aU,f3,f5,f6,bne,hd,ha]
      |true=>
       cases br with
       |true=>
        simp[f3,f5,f6,hX,hS,hK,bne,hd,ha]
        refine H _ ?_ ?_ ?_ ?_ ?_<;>simp[aU,f3,f5,f6,bne,hd,ha]
       |false=>
        cases hb:(bn==0) with
        |false=>
         simp[f3,f5,f6,hX,hS,hK,bne,hd,ha,hb]
         refine H _ ?_ ?_ ?_ ?_ ?_<;>simp[aU,f3,f5,f6,bne,hd,ha,hb]
        |true=>
         cases hc:(op==20) with
         |true=>
          simp[f3,f5,f6,hX,hS,hK,bne,hd,ha,hb,hc]
          refine H _ ?_ ?_ ?_ ?_ ?_<;>simp[aU,f3,f5,f6,bne,hd,ha,hb,hc]
         |false=>
          cases hf:(fn==0) with
          |true=>
           simp[f3,f5,f6,hX,hS,hK,bne,hd,ha,hb,hc,hf]
           refine H _ ?_ ?_ ?_ ?_ ?_<;>simp[aU,f3,f5,f6,bne,hd,ha,hb,hc,hf]
          |false=>
           simp[f3,f5,f6,hX,hS,hK,bne,hd,ha,hb,hc,hf]
           refine H _ ?_ ?_ ?_ ?_ ?_<;>simp[aU,f3,f5,f6,bne,hd,ha,hb,hc,hf]
section
variable {gs fs blocks ah:SV} {name:ByteArray} {params ai:Int}
def pX (P:Int→Prop) (h:ae) (v:Value) (h':ae):Prop:=ab aG h h'∧ ∃c:Int,v= .int .i64 c∧P c
theorem LB {h:ae} (ok:bh h) {b s:Nat} {f1 f2 f3:Value} {P1 P2 P3:Int→Prop} (hb:h.tr.get b=some (.aA [f1,f2,f3] false 0 s))
  (H1: ∀h1,ab aG h h1→bZ FF f1 [] h1 (pX P1 h1)) (H2: ∀h1,ab aG h h1→bZ FF f2 [] h1 (pX P2 h1)) (H3: ∀h1,ab aG h h1→bZ FF f3 [] h1 (pX P3 h1)):
  aE FF qg [.slice (some ⟨b,0,none⟩) 3 3] h (pX (fun c=>c=0→P1 0∧P2 0∧P3 0) h):=by
 refine aE.of Bw ?_
 unfold vW
 simp
 have w1:IntKind.i64.wrap (0+1)=1:=wrap_i64 _ (by omega) (by omega)
 have w1':IntKind.i64.wrap 1=1:=wrap_i64 _ (by omega) (by omega)
 have w2:IntKind.i64.wrap (1+1)=2:=wrap_i64 _ (by omega) (by omega)
 have w2':IntKind.i64.wrap 2=2:=wrap_i64 _ (by omega) (by omega)
 have w3:IntKind.i64.wrap (2+1)=3:=wrap_i64 _ (by omega) (by omega)
 have w3':IntKind.i64.wrap 3=3:=wrap_i64 _ (by omega) (by omega)
 refine az.loop (fun n e h1=> ∃i:Nat,n=3-i∧i≤3∧Env.get e 8= .int .i64 (i:Nat)∧Env.get e 7= .int .i64 3∧Env.get e 6= .slice (some ⟨b,0,none⟩) 3 3∧(0<i→P1 0)∧(1<i→P2 0)∧(2<i→P3 0)∧ab aG h h1) ?_ (n:=3)
  ⟨0,rfl,by omega,by simp,by simp,by simp,by simp,by simp,by simp,.refl ok⟩
 rintro n e h1 ⟨i,rfl,hi,f8,f7,f6,p1,p2,p3,g⟩
 have hb1:=g.get ok hb (fun h=>h)
 unfold rT
 rcases(show i=0∨i=1∨i=2∨i=3 by omega) with rfl|rfl|rfl|rfl
 ·simp[f8,f7,f6,hb1]
  refine aD.cm (V:=pX P1 h1) (by simpa using H1 h1 g) ?_
  rintro _ h2 ⟨g2,c,rfl,hc⟩
  by_cases he:c=0
  ·subst he
   simp[f8,f7,f6,w1,w1']
   exact⟨2,by omega,1,rfl,by omega,rfl,fun _=>hc,by omega,by omega,g.trans g2⟩
  ·have:=nq he
   simp[this]
   exact⟨g.trans g2,c,rfl,fun h=>absurd h he⟩
 ·simp[f8,f7,f6,hb1]
  refine aD.cm (V:=pX P2 h1) (by simpa using H2 h1 g) ?_
  rintro _ h2 ⟨g2,c,rfl,hc⟩
  by_cases he:c=0
  ·subst he
   simp[f8,f7,f6,w2,w2']
   exact⟨1,by omega,2,rfl,by omega,rfl,fun _=>p1 (by omega),fun _=>hc,by omega,g.trans g2⟩
  ·have:=nq he
   simp[this]
   exact⟨g.trans g2,c,rfl,fun h=>absurd h he⟩
 ·simp[f8,f7,f6,hb1]
  refine aD.cm (V:=pX P3 h1) (by simpa using H3 h1 g) ?_
  rintro _ h2 ⟨g2,c,rfl,hc⟩
  by_cases he:c=0
  ·subst he
   simp[f8,f7,f6,w3,w3']
   exact⟨3,by omega,by omega,rfl,fun _=>p1 (by omega),fun _=>p2 (by omega),fun _=>hc,g.trans g2⟩
  ·have:=nq he
   simp[this]
   exact⟨g.trans g2,c,rfl,fun h=>absurd h he⟩
 ·simp[f8,f7]
  exact⟨g,0,rfl,fun _=>⟨p1 (by omega),p2 (by omega),p3 (by omega)⟩⟩
theorem HV {h:ae} (ok:bh h) (hr:0≤ai∧ai<1000000) {C X K s1 s2 s3:Nat} {cl:Bool} {x:GI} {A:SV} (hK:h.tr.get K=some (.aA [.bool cl] false 0 s3)) (hX:h.tr.get X=some (.aA (ay x.op x.dst x.a.1 x.a.2 x.b.1 x.b.2 x.fn A.v) false 0 s2))
  (hC:h.tr.get C=some (.aA (aF gs fs name params ai blocks ah) false 0 s1)) {funcs:List GF} (hF:SliceR (fR h) 4 h fs.v funcs) (hfl:funcs.length<1000000∧ ∀f∈funcs,f.params≤6) (hA:SliceR vR 2 h A.v x.args) (hlen:x.args.length<140737488355329):
  aE FF fk [.pointer (some ⟨K,0,none⟩),.pointer (some ⟨X,0,none⟩),.pointer (some ⟨C,0,none⟩)] h (pX (fun c=>c=0→cl=true→lx ai x.args∧x.args.length≤6) h):=by
 have hAl:=SliceR.len hA
 have hFl:=SliceR.len hF
 obtain⟨hfl,hpar⟩:=hfl
 have wf:=wrap_i64 ((fs.l:Int)-1) (by omega) (by omega)
 refine aE.of qW ?_
 unfold lO
 simp[ay] at hX
 have hC':=hC
 simp[aF] at hC'
 cases cl with
 |false=>
  simp[hK]
  exact⟨.refl ok,0,rfl,trivial⟩
 |true=>
  simp[hK,hX,hC',wf]
  refine aD.call (by simpa using df h x.fn 0 ((fs.l:Int)-1)) ?_
  rintro _ h2 ⟨rfl,eh⟩
  rw[eh]
  by_cases hfn:0≤x.fn∧x.fn≤(fs.l:Int)-1
  ·obtain⟨k,hk⟩: ∃k:Nat,x.fn=k:=⟨x.fn.toNat,by omega⟩
   have hkl:k<funcs.length:=by omega
   have hx:funcs[k]? =some funcs[k]:=aQ hkl
   generalize funcs[k]=f at hx
   have hp6:=hpar f (di hx)
   obtain⟨bf,offf,cf,hFa,_,_,⟨B,rfl,_⟩,_,hrdf⟩:=SliceR.later ok hF hx
   have rf:=hrdf (tick h) (bc ok) 1 1 (by decide)
   simp[-ag,aB] at rf
   have hd:(decide (0≤x.fn)&&decide (x.fn≤(fs.l:Int)-1))=true:=by simpa using hfn
   rw[hd]
   rw[hk] at hX
   rw[hFa,hFl] at hC'
   by_cases hpl:(A.l:Int)=f.params
   ·have e1:((A.l:Int) !=f.params)=false:=by simp[hpl]
    simp[hk,hX,hC',hFl,aB,aw hX,aw hC',hkl,rf,e1,-ag]
    refine az.loop (fun m e h4=> ∃j:Nat,m=x.args.length-j∧j≤x.args.length∧Env.get e 2= .pointer (some ⟨C,0,none⟩)∧Env.get e 34=A.v∧Env.get e 35= .int .i64 x.args.length∧Env.get e 36= .int .i64 j∧ab aG h h4∧lx ai (x.args.take j)) ?_ (n:=x.args.length)
     ⟨0,rfl,by omega,by simp,by simp,by simp[hAl],by simp,bc ok,.nil _⟩
    rintro m e h4 ⟨j,rfl,hj,f2,f34,f35,f36,g4,hv⟩
    have hC4:=g4.get ok hC' (fun h=>h)
    unfold jW
    by_cases hjl:j<x.args.length
    ·have hx:x.args[j]? =some x.args[j]:=aQ hjl
     generalize x.args[j]=v at hx
     obtain⟨b,off,c,hAa,_,_,rfl,oW,hrd⟩:=SliceR.later ok hA hx
     have r0:=hrd h4 g4 0 2 (by decide)
     simp[-ag] at r0
     have wj:=wrap_i64 (j+1) (by omega) (by omega)
     have oC4:=g4.ok.bl hC4
     simp at f34
     simp[f2,f34,f35,f36,hAa,hAl,hjl,r0,aw hC4,aq,bg,aL,oC4,-ag]
     refine aD.cut (fun h5=>ab aG h4 h5) ?_ ?_
     ·exact((ab.refl g4.ok).new _ _).put ⟨0,by simp⟩ (.inl (Nat.le_refl _))
     rintro h5 g5
     have gg5:=g4.trans g5
     refine aD.call (by simpa [aF,hFa,hFl] using rH (gs:=gs) (fs:=fs) (name:=name) (params:=params) (blocks:=blocks) (ah:=ah) h5 gg5.ok hr v.1 v.2) ?_
     rintro _ h6 ⟨rfl,g6⟩
     by_cases hvv:xB ai v.1 v.2=0
     ·simp[f2,f34,f35,f36,hvv,wj]
      exact⟨x.args.length-(j+1),by omega,j+1,rfl,by omega,⟨hAa,hAl⟩,by simp,gg5.trans g6,hv.take hx (sJ hvv)⟩
     ·have:=nq hvv
      simp[this]
      exact⟨gg5.trans g6,_,rfl,fun h=>absurd h hvv⟩
    ·have:j=x.args.length:=by omega
     subst this
     rw[List.take_length] at hv
     simp[f35,f36]
     exact⟨g4,0,rfl,fun _=>⟨hv,by omega⟩⟩
   ·have e1:((A.l:Int) !=f.params)=true:=nq hpl
    simp[hk,hX,hC',hFl,aB,aw hX,aw hC',hkl,rf,e1,-ag]
    exact⟨bc ok,9,rfl,fun h=>by cases h⟩
  ·have hd:(decide (0≤x.fn)&&decide (x.fn≤(fs.l:Int)-1))=false:=by simpa using hfn
   simp[hd]
   exact⟨.refl ok,3,rfl,fun h=>by cases h⟩
end
def FM:aj:=(.seq (.ops [o_ 81 (.mH 82 [t_ 2,t_ 3]),o_ 82 (.mH 83 [t_ 2,t_ 3]),o_ 83 (.mH 84 [t_ 6,t_ 3,t_ 2]),o_ 84 (.ct 3 [.nilFunc,.nilFunc,.nilFunc] [(0,(1,(t_ 81))),(1,(1,(t_ 82))),(2,(1,(t_ 83)))]),F_ 85 81 [t_ 84],m_ 4 85]) .ret)
theorem Ln:Cb= .seq (.seq (.ops [f_ 63 0 5,l_ 64 63,m_ 65 64,q_ 66 65 true (.load none (t_ 6)),q_ 67 65 true (.mv (t_ 66)),q_ 68 67 true (.bw 1 (t_ 3)),q_ 69 67 true (.load none (t_ 68)),q_ 70 67 true (.bin .eql [1] (t_ 69) (.const (.int .i64 (Int.negSucc 0)))),q_ 71 65 true (.pick (t_ 67) (t_ 70) (.const (.bool false))),q_ 72 65 true (.un .not (t_ 71)),o_ 73 (.pick (t_ 65) (t_ 72) (.const (.bool false)))]) (.cond (t_ 73) (.seq (.ops [L_ 74 7 2,f_ 75 1 3,l_ 76 75,F_ 77 80 [t_ 74,t_ 76],m_ 7 77]) (.seq (.ops [m_ 78 7,o_ 79 (.bin .neq [1] (t_ 78) (i_ 0))]) (.cond (t_ 79) (.seq (.ops [m_ 80 7,m_ 4 80]) .ret) .skip))) .skip)) FM:=rfl
structure tP (ai:Int) (x:GI):Prop where
 op:1≤x.op∧x.op≤22
 form:aU (bS x.op) x x.args.length=false
 dst:(bS x.op).1=true→ ¬(x.op=20∧x.dst= -1)→qJ ai x.dst
 a:o9 ai x.a
 b:o9 ai x.b
 args:x.op=20→lx ai x.args∧x.args.length≤6
section
variable {gs fs blocks ah:SV} {name:ByteArray} {params ai:Int}
def NU (ai:Int) (x:GI) (c:Int):Prop:=c=0→((bS x.op).1=true→ ¬(x.op=20∧x.dst= -1)→qJ ai x.dst)∧o9 ai x.a∧o9 ai x.b∧(x.op=20→lx ai x.args∧x.args.length≤6)
theorem KD {h:ae} (ok:bh h) (hr:0≤ai∧ai<1000000) {C X K s1 s2 s3:Nat} {x:GI} {A:SV} (hK:h.tr.get K=some (.aA [.bool (x.op==20)] false 0 s3)) (hX:h.tr.get X=some (.aA (ay x.op x.dst x.a.1 x.a.2 x.b.1 x.b.2 x.fn A.v) false 0 s2))
  (hC:h.tr.get C=some (.aA (aF gs fs name params ai blocks ah) false 0 s1)) {funcs:List GF} (hF:SliceR (fR h) 4 h fs.v funcs) (hfl:funcs.length<1000000∧ ∀f∈funcs,f.params≤6) (hA:SliceR vR 2 h A.v x.args) (hlen:x.args.length<140737488355329) {b s:Nat}
  (hb:h.tr.get b=some (.aA [.func (.func e_) #[] #[.pointer (some ⟨C,0,none⟩),.pointer (some ⟨X,0,none⟩)],.func (.func eZ) #[] #[.pointer (some ⟨C,0,none⟩),.pointer (some ⟨X,0,none⟩)],.func (.func fk) #[] #[.pointer (some ⟨K,0,none⟩),.pointer (some ⟨X,0,none⟩),.pointer (some ⟨C,0,none⟩)]] false 0 s)):
  aE FF qg [.slice (some ⟨b,0,none⟩) 3 3] h (pX (fun c=>c=0→o9 ai x.a∧o9 ai x.b∧(x.op=20→lx ai x.args∧x.args.length≤6)) h):=by
 have F:=LB (P1:=fun c=>c=0→o9 ai x.a) (P2:=fun c=>c=0→o9 ai x.b) (P3:=fun c=>c=0→(x.op==20)=true→lx ai x.args∧x.args.length≤6) ok hb (fun h1 g=>by
  refine bZ.func ?_
  have:=Ht g.ok hr (g.get ok hC (fun h=>h)) (g.get ok hX (fun h=>h))
  refine aE.mono (by simpa using this) ?_
  rintro v h' ⟨rfl,g'⟩
  exact⟨g',_,rfl,fun h=>sJ h⟩) (fun h1 g=>by
  refine bZ.func ?_
  have:=Hp g.ok hr (g.get ok hC (fun h=>h)) (g.get ok hX (fun h=>h))
  refine aE.mono (by simpa using this) ?_
  rintro v h' ⟨rfl,g'⟩
  exact⟨g',_,rfl,fun h=>sJ h⟩) (fun h1 g=>by
  refine bZ.func ?_
  have:=HV g.ok hr (g.get ok hK (fun h=>h)) (g.get ok hX (fun h=>h)) (g.get ok hC (fun h=>h)) (hF.mono ok g fun _ _ r=>r.mono ok g) hfl (hA.mono ok g fun _ _ h=>h) hlen
  simpa using this)
 refine F.mono ?_
 rintro v h' ⟨g,c,rfl,hc⟩
 exact⟨g,c,rfl,fun h=>⟨(hc h).1 rfl,(hc h).2.1 rfl,fun e=>(hc h).2.2 rfl (by simp[e])⟩⟩
theorem Kd {h:ae} (ok:bh h) (hr:0≤ai∧ai<1000000) {C X K S s1 s2 s3 s4:Nat} {x:GI} {A:SV} (hK:h.tr.get K=some (.aA [.bool (x.op==20)] false 0 s3)) (hX:h.tr.get X=some (.aA (ay x.op x.dst x.a.1 x.a.2 x.b.1 x.b.2 x.fn A.v) false 0 s2))
  (hC:h.tr.get C=some (.aA (aF gs fs name params ai blocks ah) false 0 s1)) (hS:h.tr.get S=some (.aA [.bool (bS x.op).1,.bool (bS x.op).2.1,.bool (bS x.op).2.2] false 0 s4)) {funcs:List GF} (hF:SliceR (fR h) 4 h fs.v funcs) (hfl:funcs.length<1000000∧ ∀f∈funcs,f.params≤6) (hA:SliceR vR 2 h A.v x.args) (hlen:x.args.length<140737488355329)
  {e:Env} (f2:Env.get e 2= .pointer (some ⟨C,0,none⟩)) (f3:Env.get e 3= .pointer (some ⟨X,0,none⟩)) (f5:Env.get e 5= .pointer (some ⟨S,0,none⟩)) (f6:Env.get e 6= .pointer (some ⟨K,0,none⟩)) {Q:aO→Env→ae→Prop} (H: ∀c e' h',ab aG h h'→Env.get e' 4= .int .i64 c→NU ai x c→Q .ret e' h'):
  az FF Cb e h Q:=by
 have fin: ∀(h5:ae) (e5:Env),ab aG h h5→Env.get e5 2= .pointer (some ⟨C,0,none⟩)→Env.get e5 3= .pointer (some ⟨X,0,none⟩)→Env.get e5 6= .pointer (some ⟨K,0,none⟩)→((bS x.op).1=true→ ¬(x.op=20∧x.dst= -1)→qJ ai x.dst)→
   az FF FM e5 h5 Q:=by
  intro h5 e5 g5 q2 q3 q6 hd
  unfold FM
  simp[q2,q3,q6]
  refine aD.cut (fun h7=>ab aG h5 h7∧h7.tr.get h5.next=some (.aA [.func (.func e_) #[] #[.pointer (some ⟨C,0,none⟩),.pointer (some ⟨X,0,none⟩)],.func (.func eZ) #[] #[.pointer (some ⟨C,0,none⟩),.pointer (some ⟨X,0,none⟩)],.func (.func fk) #[] #[.pointer (some ⟨K,0,none⟩),.pointer (some ⟨X,0,none⟩),.pointer (some ⟨C,0,none⟩)]] false 0 0)) ?_ ?_
  ·exact⟨(ab.refl g5.ok).new _ _,by simp⟩
  rintro h7 ⟨g7,hB7⟩
  have gg:=g5.trans g7
  refine aD.call (V:=pX (fun c=>c=0→o9 ai x.a∧o9 ai x.b∧(x.op=20→lx ai x.args∧x.args.length≤6)) h7) (by simpa using KD gg.ok hr (gg.get ok hK (fun h=>h)) (gg.get ok hX (fun h=>h)) (gg.get ok hC (fun h=>h)) (hF.mono ok gg fun _ _ r=>r.mono ok gg) hfl (hA.mono ok gg fun _ _ h=>h) hlen hB7) ?_
  rintro _ h8 ⟨g8,c,rfl,hc⟩
  simp
  exact H c _ _ (gg.trans g8) (by simp) (fun h=>⟨hd,hc h⟩)
 rw[Ln]
 have hX':=hX
 simp[ay] at hX'
 cases hsd:(bS x.op).1 with
 |false=>
  rw[hsd] at hS
  simp[f5,hS]
  refine fin h _ (.refl ok) (by simp[f2]) (by simp[f3]) (by simp[f6]) (fun h=>by rw[hsd] at h;cases h)
 |true=>
  rw[hsd] at hS
  have after: ∀e5,Env.get e5 2= .pointer (some ⟨C,0,none⟩)→Env.get e5 3= .pointer (some ⟨X,0,none⟩)→Env.get e5 6= .pointer (some ⟨K,0,none⟩)→Env.get e5 76= .int .i64 x.dst→Env.get e5 74= .agg ⟨aF gs fs name params ai blocks ah⟩→True:=fun _ _ _ _ _ _=>trivial
  cases hc:(x.op==20) with
  |true=>
   rw[hc] at hK
   cases hd:(x.dst== -1) with
   |true=>
    simp[f5,f6,f3,hS,hK,hX',hd]
    refine fin h _ (.refl ok) (by simp[f2]) (by simp[f3]) (by simp[f6]) (fun _ h=>absurd ⟨by simpa using hc,by simpa using hd⟩ h)
   |false=>
    simp[f5,f6,f3,f2,hS,hK,hX',hd,hC,aF]
    refine aD.call (by simpa [aF] using zy (gs:=gs) (fs:=fs) (name:=name) (params:=params) (blocks:=blocks) (ah:=ah) h ok hr x.dst) ?_
    rintro _ h3 ⟨rfl,g3⟩
    by_cases hdd:Bo ai x.dst=0
    ·simp[hdd]
     exact fin h3 _ g3 (by simp[f2]) (by simp[f3]) (by simp[f6]) (fun _ _=>Ce hdd)
    ·have:=nq hdd
     simp[this]
     exact H _ _ _ g3 (by simp) (fun h=>absurd h hdd)
  |false=>
   rw[hc] at hK
   simp[f5,f6,f3,f2,hS,hK,hX',hC,aF]
   refine aD.call (by simpa [aF] using zy (gs:=gs) (fs:=fs) (name:=name) (params:=params) (blocks:=blocks) (ah:=ah) h ok hr x.dst) ?_
   rintro _ h3 ⟨rfl,g3⟩
   by_cases hdd:Bo ai x.dst=0
   ·simp[hdd]
    exact fin h3 _ g3 (by simp[f2]) (by simp[f3]) (by simp[f6]) (fun _ _=>Ce hdd)
   ·have:=nq hdd
    simp[this]
    exact H _ _ _ g3 (by simp) (fun h=>absurd h hdd)
theorem JW {h:ae} (ok:bh h) (hr:0≤ai∧ai<1000000) {x:GI} {A:SV} {funcs:List GF} (hF:SliceR (fR h) 4 h fs.v funcs) (hfl:funcs.length<1000000∧ ∀f∈funcs,f.params≤6) (hA:SliceR vR 2 h A.v x.args) (hlen:x.args.length<140737488355329):
  aE FF nj [.agg ⟨aF gs fs name params ai blocks ah⟩,.agg ⟨ay x.op x.dst x.a.1 x.a.2 x.b.1 x.b.2 x.fn A.v⟩] h (pX (fun c=>c=0→tP ai x) h):=by
 have hAl:=SliceR.len hA
 refine aE.of uM ?_
 rw[KC]
 simp[aF,ay]
 refine aD.cut (fun h2=>ab aG h h2∧h2.tr.get h.next=some (.aA (aF gs fs name params ai blocks ah) false 0 0)∧h2.tr.get (h.next+1)=some (.aA (ay x.op x.dst x.a.1 x.a.2 x.b.1 x.b.2 x.fn A.v) false 0 0)) ?_ ?_
 ·exact⟨((ab.refl ok).new _ _).new _ _,by simp[aF],by simp[ay]⟩
 rintro h2 ⟨g2,hC2,hX2⟩
 refine aD.call (by simpa using df h2 x.op 1 22) ?_
 rintro _ h2' ⟨rfl,he⟩
 rw[he]
 by_cases hop:1≤x.op∧x.op≤22
 ·have hd:(decide (1≤x.op)&&decide (x.op≤22))=true:=by simpa using hop
  have hX2':=hX2
  simp[ay] at hX2'
  rw[hd]
  simp[hX2']
  refine aD.call (by simpa using w_ h2 g2.ok x.op) ?_
  rintro _ h3 ⟨rfl,g3⟩
  have gg3:=g2.trans g3
  have hC3:=g3.get g2.ok hC2 (fun h=>h)
  have hX3:=g3.get g2.ok hX2 (fun h=>h)
  have oX3:=gg3.ok.bl hX3
  have oC3:=gg3.ok.bl hC3
  have hX3':=hX3
  simp[ay] at hX3'
  simp[hX3',oX3]
  refine aD.cut (fun h4=>ab aG h3 h4∧(∃s,h4.tr.get h3.next=some (.aA [.bool (bS x.op).1,.bool (bS x.op).2.1,.bool (bS x.op).2.2] false 0 s))∧ ∃s,h4.tr.get (h3.next+1)=some (.aA [.bool (x.op==20)] false 0 s)) ?_ ?_
  ·exact⟨((((ab.refl gg3.ok).new _ _).put ⟨0,by simp⟩ (.inl (by omega))).new _ _).put ⟨0,by simp⟩ (.inl (by omega)),⟨h3.clock,by simp⟩,⟨h3.clock+1,by simp⟩⟩
  rintro h4 ⟨g4,⟨s4,hS4⟩,⟨s5,hK4⟩⟩
  have gg4:=gg3.trans g4
  have hC4:=g4.get gg3.ok hC3 (fun h=>h)
  have hX4:=g4.get gg3.ok hX3 (fun h=>h)
  refine LW (x:=x) (s:=bS x.op) hX4 hS4 hK4 (by simp) (by simp) (by simp) ?_
  intro e5 q2 q3 q5 q6 q62
  simp at q2 q3 q5 q6
  cases hfb:aU (bS x.op) x A.l with
  |true=>
   rw[hfb] at q62
   simp[q62]
   exact⟨gg4,5,rfl,fun h=>by cases h⟩
  |false=>
   rw[hfb] at q62
   simp[q62]
   refine Kd gg4.ok hr hK4 hX4 hC4 hS4 (hF.mono ok gg4 fun _ _ r=>r.mono ok gg4) hfl (hA.mono ok gg4 fun _ _ h=>h) hlen q2 q3 q5 q6 ?_
   intro c e' h' g' q4 hT
   simp[q4]
   refine⟨gg4.trans g',c,rfl,fun h=> ?_⟩
   obtain⟨t1,t2,t3,t4⟩:=hT h
   exact⟨hop,by rw[←hAl];exact hfb,t1,t2,t3,t4⟩
 ·have hd:(decide (1≤x.op)&&decide (x.op≤22))=false:=by simpa using hop
  rw[hd]
  simp
  exact⟨g2,4,rfl,fun h=>by cases h⟩
end
end Go.Proofs.YtdkdbjecehcekaaGreatDoor
namespace Go.AI.Edge
def po (out:List (List Int)) (i:Nat) (t:Int):List (List Int):=out.set t.toNat (((out[t.toNat]?).getD [])++[(i:Int)])
def gC (out:List (List Int)) (i:Nat) (ts:List Int):List (List Int):=ts.foldl (fun o t=>po o i t) out
def upto (n:Nat) (cT:List (List Int)):Nat→List (List Int)
 |0=>List.replicate n []
 |k+1=>match cT[k]? with
  |some ts=>gC (upto n cT k) k ts
  |none=>upto n cT k
def bm (cT:List (List Int)):List (List Int):=upto cT.length cT cT.length
theorem yC (out:List (List Int)) (i:Nat) (t:Int):(po out i t).length=out.length:=by simp[po]
theorem vX (i:Nat): ∀(ts:List Int) (out:List (List Int)),(gC out i ts).length=out.length
 |[],_=>rfl
 |t::ts,out=>by
  show(gC (po out i t) i ts).length=_
  rw[vX i ts,yC]
theorem n7 (n:Nat) (cT:List (List Int)): ∀k,(upto n cT k).length=n
 |0=>by simp[upto]
 |k+1=>by
  unfold upto
  cases cT[k]? with
  |none=>exact n7 n cT k
  |some ts=>exact(vX k ts _).trans (n7 n cT k)
theorem eA (cT:List (List Int)):(bm cT).length=cT.length:=n7 _ _ _
theorem AJ {i:Nat} {ts:List Int} {out:List (List Int)} {j:Nat} {t:Int} (h:ts[j]? =some t):gC out i (ts.take (j+1))=po (gC out i (ts.take j)) i t:=by
 unfold gC
 rw[List.take_add_one,h,List.foldl_append]
 rfl
theorem JG {out:List (List Int)} {i:Nat} {t:Int} {u:Nat} {x:Int} (ht:t.toNat<out.length):x∈((po out i t)[u]?).getD []↔(x∈(out[u]?).getD []∨(u=t.toNat∧x=i)):=by
 unfold po
 rw[List.getElem?_set]
 by_cases e:t.toNat=u
 ·subst e
  rw[if_pos rfl,if_pos ht]
  simp
 ·rw[if_neg e]
  constructor
  ·exact .inl
  ·rintro(h|⟨h,_⟩)
   ·exact h
   ·exact absurd h.symm e
theorem Ef {i:Nat} {u:Nat} {x:Int} : ∀ {ts:List Int} {out:List (List Int)},(∀t∈ts,t.toNat<out.length)→(x∈((gC out i ts)[u]?).getD []↔(x∈(out[u]?).getD []∨(x=i∧ ∃t∈ts,u=t.toNat)))
 |[],out,_=>by simp[gC]
 |t::ts,out,h=>by
  show x∈((gC (po out i t) i ts)[u]?).getD []↔_
  rw[Ef (ts:=ts) (out:=po out i t) (fun u hu=>by rw[yC];exact h u (List.mem_cons_of_mem _ hu)),JG (h t (List.mem_cons_self ..))]
  constructor
  ·rintro((h|⟨h,k⟩)|⟨k,t',ht',h⟩)
   ·exact .inl h
   ·exact .inr ⟨k,t,List.mem_cons_self ..,h⟩
   ·exact .inr ⟨k,t',List.mem_cons_of_mem _ ht',h⟩
  ·rintro(h1|⟨k,t',ht',h1⟩)
   ·exact .inl (.inl h1)
   ·rcases List.mem_cons.1 ht' with e|ht'
    ·exact .inl (.inr ⟨by rw[h1,e],k⟩)
    ·exact .inr ⟨k,t',ht',h1⟩
theorem yg {n:Nat} {cT:List (List Int)} (h: ∀ts∈cT,∀t∈ts,t.toNat<n) {u:Nat} {x:Int} : ∀k,x∈((upto n cT k)[u]?).getD []↔ ∃i:Nat,i<k∧x=i∧ ∃ts,cT[i]? =some ts∧ ∃t∈ts,u=t.toNat
 |0=>by
  constructor
  ·intro hx
   unfold upto at hx
   rw[List.getElem?_replicate] at hx
   split at hx<;>simp at hx
  ·rintro⟨i,hi,_⟩;omega
 |k+1=>by
  unfold upto
  cases hk:cT[k]? with
  |none=>
   dsimp only
   rw[yg h k]
   constructor
   ·rintro⟨i,hi,r⟩;exact⟨i,by omega,r⟩
   ·rintro⟨i,hi,hx,ts,ht,r⟩
    by_cases e:i=k
    ·subst e;rw[hk] at ht;cases ht
    ·exact⟨i,by omega,hx,ts,ht,r⟩
  |some ts=>
   dsimp only
   rw[Ef (fun t ht=>by rw[n7];exact h ts (di hk) t ht),yg h k]
   constructor
   ·rintro(⟨i,hi,r⟩|⟨hx,t,ht,hu⟩)
    ·exact⟨i,by omega,r⟩
    ·exact⟨k,by omega,hx,ts,hk,t,ht,hu⟩
   ·rintro⟨i,hi,hx,ts',ht',r⟩
    by_cases e:i=k
    ·subst e;rw[hk] at ht';cases ht';exact .inr ⟨hx,r⟩
    ·exact .inl ⟨i,by omega,hx,ts',ht',r⟩
theorem tk {cT:List (List Int)} (h: ∀ts∈cT,∀t∈ts,t.toNat<cT.length) {u:Nat} {x:Int} :x∈((bm cT)[u]?).getD []↔ ∃i:Nat,x=i∧ ∃ts,cT[i]? =some ts∧ ∃t∈ts,u=t.toNat:=by
 unfold bm
 rw[yg h]
 constructor
 ·rintro⟨i,_,r⟩;exact⟨i,r⟩
 ·rintro⟨i,hx,ts,ht,r⟩
  exact⟨i,(bY.mp ht).1,hx,ts,ht,r⟩
theorem J4 (out:List (List Int)) (i:Nat) (t:Int) (u:Nat):(((po out i t)[u]?).getD []).length≤((out[u]?).getD []).length+1:=by
 unfold po
 rw[List.getElem?_set]
 by_cases e:t.toNat=u
 ·subst e
  rw[if_pos rfl]
  split
  ·simp
  ·simp
 ·rw[if_neg e];omega
theorem vn (i u:Nat): ∀(ts:List Int) (out:List (List Int)),(((gC out i ts)[u]?).getD []).length≤((out[u]?).getD []).length+ts.length
 |[],out=>by simp[gC]
 |t::ts,out=>by
  have h1:=vn i u ts (po out i t)
  have h2:=J4 out i t u
  show(((gC (po out i t) i ts)[u]?).getD []).length≤_
  simp only[List.length_cons];omega
theorem lL {n:Nat} {cT:List (List Int)} (h: ∀ts∈cT,ts.length≤2) (u:Nat): ∀k,(((upto n cT k)[u]?).getD []).length≤2*k
 |0=>by
  unfold upto
  rw[List.getElem?_replicate]
  split<;>simp
 |k+1=>by
  have ih:=lL (n:=n) h u k
  unfold upto
  cases hk:cT[k]? with
  |none=>dsimp only;omega
  |some ts=>
   dsimp only
   have:=vn k u ts (upto n cT k)
   have:=h ts (di hk)
   omega
end Go.AI.Edge
namespace Go.Proofs.YtdkdbjecehcekaaGreatDoor
open Go.AI
def aY:Enc Int:=⟨fun x=>[.int .i64 x],1,fun _=>rfl,by decide,fun _=>rfl⟩
@[simp] theorem GQ:aY.sz=1:=rfl
@[simp] theorem Oo (x:Int):aY.enc x=[.int .i64 x]:=rfl
def mf:Enc SV:=⟨fun w=>[w.v],1,fun _=>rfl,by decide,fun w=>rfl⟩
@[simp] theorem LZ:mf.sz=1:=rfl
@[simp] theorem Oq (w:SV):mf.enc w=[w.v]:=rfl
theorem cj.MG {α:Type} {E:Enc α} {n0:Nat} {h:ae} {v:Value} {xs:List α} (a:cj E n0 h v xs): ∃L:SV,v=L.v:=by
 rcases a with⟨_,rfl⟩|⟨b,s,rfl,_⟩
 ·exact⟨⟨none,0,0⟩,rfl⟩
 ·exact⟨⟨some ⟨b,0,none⟩,xs.length,xs.length⟩,rfl⟩
structure jx {α:Type} (E:Enc α) (n0:Nat) (h:ae) (d:Nat) (ws:List SV) (xss:List (List α)):Prop where
 aA: ∃s,h.tr.get d=some (.aA (mf.flat ws) false 0 s)
 len:ws.length=xss.length
 acc: ∀(i:Nat) (w:SV) (xs:List α),ws[i]? =some w→xss[i]? =some xs→cj E n0 h w.v xs
 QE: ∀(i j:Nat) (wi wj:SV) (b:Nat),ws[i]? =some wi→ws[j]? =some wj→i≠j→av wi.v b→ ¬av wj.v b
 new:n0≤d
 rP: ∀(i:Nat) (w:SV),ws[i]? =some w→ ¬av w.v d
theorem jx.grow {α:Type} {E:Enc α} {n0:Nat} {S:Nat→Prop} {h h':ae} {d:Nat} {ws:List SV} {xss:List (List α)} (w:jx E n0 h d ws xss) (ok:bh h) (g:ab S h h') (hS: ∀b,n0≤b→ ¬S b):jx E n0 h' d ws xss:=by
 obtain⟨s,hb⟩:=w.aA
 refine⟨⟨s,g.get ok hb (hS _ w.new)⟩,w.len,fun i w' xs h1 h2=> ?_,w.QE,w.new,w.rP⟩
 have a:=w.acc i w' xs h1 h2
 exact a.grow ok g (fun b hb=>hS b (a.of hb))
theorem jx.aW {α:Type} {E:Enc α} {n0:Nat} {h h':ae} {d:Nat} {ws:List SV} {xss:List (List α)} (w:jx E n0 h d ws xss) (ok:bh h) (g:ab aG h h'):jx E n0 h' d ws xss:=w.grow ok g (fun _ _ h=>h)
theorem DC (ws:List SV) (i:Nat) (x:SV) (h:i<ws.length):aK (mf.flat ws) i [x.v]=mf.flat (ws.set i x):=by
 have:=mf.fK ws i x h
 simpa using this
theorem uH {h:ae} {d:Nat} {ws:List SV} {o s:Nat} {ro:Bool} (hd:h.tr.get d=some (.aA (mf.flat ws) ro o s)) {k:Nat} {x:SV} (hk:ws[k]? =some x):aT h d k 1=some [x.v]:=by
 have hl:=(bY.mp hk).1
 rw[cN hd (by rw[mf.bt];show k+1≤ws.length*1;omega)]
 have:=mf.kD ws k 0 1 x hk (by decide)
 simp only[Nat.add_zero] at this
 rw[show k=k*mf.sz from(Nat.mul_one k).symm,this]
 rfl
theorem jx.set {α:Type} {E:Enc α} {n0:Nat} {h h2:ae} (ok:bh h) {d:Nat} {ws:List SV} {xss:List (List α)} (w:jx E n0 h d ws xss) {i:Nat} {wi W:SV} {xs ys:List α} (hi:ws[i]? =some wi) (hx:xss[i]? =some xs) (g:ab (av wi.v) h h2) (a:cj E n0 h2 W.v ys) (hf: ∀b,av W.v b→h.next≤b):
  ∃s,h2.tr.get d=some (.aA (mf.flat ws) false 0 s)∧jx E n0 (put h2 d i (mf.flat ws) [W.v] 0) d (ws.set i W) (xss.set i ys):=by
 obtain⟨s,hb⟩:=w.aA
 have hdl:=(ok.bl hb).lt
 have hil:=(bY.mp hi).1
 have hb2:=g.get ok hb (w.rP i wi hi)
 refine⟨s,hb2,?_⟩
 have gp:ab (· =d) h2 (put h2 d i (mf.flat ws) [W.v] 0):=aJ g.ok hb2
 refine⟨⟨h2.clock,by rw[ax,DC ws i W hil]⟩,by simp[w.len],fun j w' zs h1 h3=> ?_,fun j k wj wk b h1 h3 hjk hbj hbk=> ?_,w.new,fun j w' h1=> ?_⟩
 ·rw[List.getElem?_set] at h1 h3
  by_cases e:i=j
  ·subst e
   rw[if_pos rfl,if_pos hil] at h1
   rw[if_pos rfl,if_pos (by rw[←w.len];exact hil)] at h3
   cases h1;cases h3
   exact a.grow g.ok gp (fun b hb e=>by have:=hf b hb;omega)
  ·rw[if_neg e] at h1 h3
   have a':=w.acc j w' zs h1 h3
   exact(a'.grow ok g (fun b hb hb2=>w.QE i j wi w' b hi h1 e hb2 hb)).grow g.ok gp (fun b hb e2=>w.rP j w' h1 (e2▸hb))
 ·rw[List.getElem?_set] at h1 h3
  have bl: ∀(k:Nat) (w':SV),ws[k]? =some w'→ ∀b,av w'.v b→b<h.next:=by
   intro k w' hk b hb
   have hkl:=(bY.mp hk).1
   obtain⟨off,n,cap,e⟩:=hb
   rcases w.acc k w' _ hk (aQ (by rw[←w.len];exact hkl)) with⟨_,e2⟩|⟨b',s',e2,hb',_⟩
   ·rw[e2] at e;cases e
   ·rw[e2] at e;cases e;exact ok.wf _ _ hb'
  by_cases e:i=j
  ·subst e
   rw[if_pos rfl,if_pos hil] at h1
   rw[if_neg hjk] at h3
   cases h1
   have h4:=hf b hbj
   have h5:=bl k wk h3 b hbk
   omega
  ·rw[if_neg e] at h1
   by_cases e':i=k
   ·subst e'
    rw[if_pos rfl,if_pos hil] at h3
    cases h3
    have:=hf b hbk
    have:=bl j wj h1 b hbj
    omega
   ·rw[if_neg e'] at h3
    exact w.QE j k wj wk b h1 h3 hjk hbj hbk
 ·rw[List.getElem?_set] at h1
  by_cases e:i=j
  ·subst e
   rw[if_pos rfl,if_pos hil] at h1
   cases h1
   exact fun hb=>by have:=hf d hb;omega
  ·rw[if_neg e] at h1
   exact w.rP j w' h1
theorem qn {α:Type} {E:Enc α} {h:ae} (ok:bh h) {n0 bytes:Nat} {z:List Value} {v w:Value} {xs:List α} {y:α} (hz:z.length=E.sz) (a:cj E n0 h v xs) (hw:aS E h w [y])
  (hl:xs.length<1000000) (hby:bytes≤1000) (hn:n0≤h.next):
  ∃v' h',j6 h z bytes false v w=some (v',h')∧
   cj E n0 h' v' (xs++[y])∧ab (av v) h h'∧ ∀b,av v' b→b=h.next:=by
 unfold j6
 rw[xR hz hw]
 dsimp only
 have r1:roomy (xs.length+1)=true:=by simp[roomy];omega
 have r2:roomy ((xs.length+1)*bytes)=true:=by
  have:(xs.length+1)*bytes≤1000000*1000:=Nat.mul_le_mul (by omega) hby
  simp[roomy];omega
 have hp:=E.pos
 have hp':E.sz≠0:=by omega
 rcases a with⟨rfl,rfl⟩|⟨b,s,rfl,hb,hx,hb0⟩
 ·have r3:roomy bytes=true:=by simp[roomy];omega
  refine⟨.slice (some ⟨h.next,0,none⟩) 1 1,aH h (E.flat [y]) E.sz,?_,.inr ⟨h.next,0,rfl,by simp,by simp,hn⟩,(aI ok _ _).aW,?_⟩
  ·have r4:roomy 1=true:=rfl
   simp[ff,hz,hp,r3,r4]
  ·rintro b ⟨off,n,cap,e⟩;cases e;rfl
 ·refine⟨.slice (some ⟨h.next,0,none⟩) (xs.length+1) (xs.length+1),aH { h with tr:=h.tr.del b } (E.flat xs++E.flat [y]) E.sz,?_,.inr ⟨h.next,0,by simp,?_,by simp,hn⟩,?_,?_⟩
  ·have e1: ¬xs.length+1≤xs.length:=by omega
   have e2:(E.flat xs).take (xs.length*E.sz)=E.flat xs:=List.take_of_length_le (by simp)
   simp[ff,hz,hp,r1,r2,hb,e1,e2,hp']
  ·have:=bH { h with tr:=h.tr.del b } (E.flat xs++E.flat [y]) E.sz
   rw[Enc.cX]
   exact this
  ·refine((fZ ok b).bM ?_).trans (aI (fZ ok b).ok _ _).aW
   rintro x _ rfl
   exact⟨_,_,_,rfl⟩
  ·rintro b' ⟨off,n,cap,e⟩;cases e;rfl
def aC (l:List Nat) (e e':Env):Prop:= ∀t,t∉l→Env.get e' t=Env.get e t
theorem aC.refl (l:List Nat) (e:Env):aC l e e:=fun _ _=>rfl
theorem aC.set {l:List Nat} {e e':Env} {k:Nat} {v:Value} (hk:k∈l) (K:aC l e e'):aC l e (Tr.set e' k v):=fun t ht=>by
 rw[Env.aN,if_neg (by rintro rfl;exact ht hk)];exact K t ht
theorem aC.at {l:List Nat} {e e':Env} {t:Nat} {v:Value} (K:aC l e e') (ht:t∉l) (f:Env.get e t=v):Env.get e' t=v:=(K t ht).trans f
theorem aC.trans {l:List Nat} {e e1 e2:Env} (a:aC l e e1) (b:aC l e1 e2):aC l e e2:=fun t ht=>(b t ht).trans (a t ht)
theorem jV {F:Nat→Option bA} {d:Option Nat} {l:List aV} {e:Env} {R:Env→ae→Prop} {o:Option (Value×ae)} {v:Value} {h:ae} (ho:o=some (v,h)) (H:aD F l (dW e d v) h R):Gu F d l e R o:=by
 rw[ho];exact H
theorem yV {F:Nat→Option bA} {k:Nat} {chk:List Nat} {d:Option Nat} {m:List (aV×List Nat)} {e:Env} {R:Env→ae→Prop} {o:Option (Value×ae)} {v:Value} {h:ae} (ho:o=some (v,h)) (H:still (dW e d v) h k chk=true∧aP F k m (dW e d v) h R):GD F k chk d m e R o:=by
 rw[ho];exact H
def ak (name:ByteArray) (params ai:Int) (blocks:SV):List Value:=[.string name,.int .i64 params,.int .i64 ai,blocks.v]
theorem Gz {n0:Nat} {h:ae} {d c:Nat} {ws:List SV} {xss:List (List Int)} (w:jx aY n0 h d ws xss):SliceR (KO h) 1 h (SV.v ⟨some ⟨d,0,none⟩,xss.length,c⟩) xss:=by
 obtain⟨s,hb⟩:=w.aA
 refine⟨_,c,rfl,.inr ⟨d,0,_,_,_,_,rfl,hb,fun i xs hx=> ?_⟩⟩
 have hil:=(bY.mp hx).1
 obtain⟨wi,hw⟩: ∃wi,ws[i]? =some wi:=⟨_,aQ (show i<ws.length by rw[w.len];exact hil)⟩
 have:=mf.mN ws i wi hw
 simp only[LZ,Nat.mul_one] at this
 rw[Nat.zero_add,Nat.mul_one,this]
 refine⟨rfl,wi,rfl,?_⟩
 have a:=w.acc i wi xs hw hx
 rcases a with⟨rfl,e⟩|⟨b,s',e,hb',hx',_⟩
 ·rw[e];exact⟨none,0,rfl,.inl ⟨rfl,.inl rfl⟩⟩
 ·rw[e]
  refine⟨_,_,rfl,.inr ⟨b,0,_,_,_,_,rfl,hb',fun k x hk=> ?_⟩⟩
  have:=aY.mN xs k x hk
  simp only[GQ,Nat.mul_one] at this
  rw[Nat.zero_add,Nat.mul_one,this]
  exact⟨rfl,rfl⟩
theorem CN (h:ae) (ok:bh h) {α:Type} (E:Enc α) (n n0:Nat) (hn:n0≤h.next):jx E n0 (aH h (gI [.slice none 0 0] n) 0) h.next (List.replicate n eg) (List.replicate n []):=by
 have hr:gI [Value.slice none 0 0] n=mf.flat (List.replicate n eg):=by
  have: ∀n,gI [Value.slice none 0 0] n=mf.flat (List.replicate n eg):=by
   intro n
   induction n with
   |zero=>rfl
   |succ n ih=>rw[List.replicate_succ,Enc.dM,←ih];rfl
  exact this n
 refine⟨⟨0,by rw[←hr];exact bH _ _ _⟩,by simp,fun i w xs h1 h2=> ?_,fun i j wi wj b h1 _ _ hb=> ?_,hn,fun i w h1 hb=> ?_⟩
 ·rw[List.getElem?_replicate] at h1 h2
  split at h1
  ·rename_i hi
   rw[if_pos hi] at h2
   cases h1;cases h2
   exact .inl ⟨rfl,rfl⟩
  ·cases h1
 ·rw[List.getElem?_replicate] at h1
  split at h1<;>cases h1
  obtain⟨_,_,_,e⟩:=hb
  cases e
 ·rw[List.getElem?_replicate] at h1
  split at h1<;>cases h1
  obtain⟨_,_,_,e⟩:=hb
  cases e
def Oj (h h2:ae) (b:GB) (xss:List (List Int)) (n0 d k:Nat) (e:Env) (m:Nat) (e':Env) (h3:ae):Prop:=
 ∃(j:Nat) (ws':List SV),m=b.to.length-j∧j≤b.to.length∧Env.get e' 24= .int .i64 j∧aC [25,26,27,7,28,29,30,31,32,33,34,35,36,37,38,24] e e'∧ab aG h h3∧h2.next≤h3.next∧jx aY n0 h3 d ws' (Edge.gC xss k (b.to.take j))
theorem FR {h h2:ae} (ok:bh h) {b:GB} {T:SV} (hT:SliceR nR 1 h T.v b.to) (h2l:b.to.length≤2) {n:Nat} (hn:n≤1000) (ht: ∀t∈b.to,0≤t∧t<n) {n0 d:Nat} {ws:List SV} {xss:List (List Int)} {k:Nat} (w:jx aY n0 h2 d ws xss) (hxl:xss.length=n) (hlen: ∀u:Nat,((xss[u]?).getD []).length≤2*k) (hk:k≤1000)
  (g2:ab aG h h2) (hn0:n0≤h2.next) (hn0':h.next≤n0) {e:Env} {Q:aO→Env→ae→Prop} (f3:Env.get e 3= .slice (some ⟨d,0,none⟩) n n) (f4:Env.get e 4= .int .i64 k) (f22:Env.get e 22=T.v) (f23:Env.get e 23= .int .i64 b.to.length) (f24:Env.get e 24= .int .i64 0)
  (C: ∀e' h' ws',ab aG h h'→h2.next≤h'.next→aC [25,26,27,7,28,29,30,31,32,33,34,35,36,37,38,24] e e'→jx aY n0 h' d ws' (Edge.gC xss k b.to)→Q (.exit 2) e' h'):
  az FF (.loop mc) e h2 Q:=by
 have hTl:=SliceR.len hT
 refine az.loop (Oj h h2 b xss n0 d k e) ?_ (n:=b.to.length)
  ⟨0,ws,rfl,by omega,f24,aC.refl _ _,g2,Nat.le_refl _,by simpa [Edge.gC] using w⟩
 rintro m e' h3 ⟨j,ws',rfl,hj,q24,K,g3,hnx,w3⟩
 unfold mc
 have q3:=K.at (by decide) f3
 have q4:=K.at (by decide) f4
 have q22:=K.at (by decide) f22
 have q23:=K.at (by decide) f23
 by_cases hjl:j<b.to.length
 ·have hx:b.to[j]? =some b.to[j]:=aQ hjl
  have hm:=List.getElem_mem hjl
  generalize b.to[j]=t at hx hm
  obtain⟨ht0,htn⟩:=ht t hm
  obtain⟨u,rfl⟩: ∃u:Nat,t=u:=⟨t.toNat,by omega⟩
  have hul:u<n:=by omega
  obtain⟨bT,off,c,hTa,_,_,rfl,_,hrd⟩:=SliceR.later ok hT hx
  have r0:=hrd h3 g3 0 1 (by decide)
  simp[-ag] at r0
  have wj:=wrap_i64 (j+1) (by omega) (by omega)
  obtain⟨s3,hd3⟩:=w3.aA
  have hxs3:(Edge.gC xss k (b.to.take j)).length=n:=by rw[Edge.vX,hxl]
  have hwl3:ws'.length=n:=by rw[w3.len,hxs3]
  have hw:ws'[u]? =some ws'[u]:=aQ (by omega)
  have hxs:(Edge.gC xss k (b.to.take j))[u]? =some (Edge.gC xss k (b.to.take j))[u]:=aQ (by omega)
  generalize ws'[u]=wu at hw
  generalize hxe:(Edge.gC xss k (b.to.take j))[u]=xs at hxs
  have hrs:=uH hd3 hw
  have hxl':xs.length<1000000:=by
   have h1:=Edge.vn k u (b.to.take j) xss
   rw[hxs] at h1
   have h2':=hlen u
   simp at h1
   have:(b.to.take j).length≤2:=by simp;omega
   simp at this
   omega
  simp at q22
  simp[-ag] at hrs
  have od3:=g3.ok.bl hd3
  simp[q3,q4,q22,q23,q24,hTa,hTl,hjl,r0,hul,hrs,-ag,od3]
  have g4:=aI g3.ok (aY.enc (k:Int)) 0
  have w4:=w3.aW g3.ok g4
  have hw4:aS aY (aH h3 (aY.enc (k:Int)) 0) (.slice (some ⟨h3.next,0,none⟩) 1 1) [(k:Int)]:=⟨_,_,rfl,.inr ⟨h3.next,0,_,_,_,_,rfl,bH _ _ _,by simp,by simp⟩⟩
  obtain⟨v',h5,ha,hA5,g5,hd5⟩:=qn (bytes:=8) g4.ok (z:=[.int .i64 0]) rfl (w4.acc u wu xs hw hxs) hw4 hxl' (by decide) (by show n0≤h3.next+1;omega)
  refine jV ha ?_
  obtain⟨V,rfl⟩:=cj.MG hA5
  obtain⟨s5,hd5',w5⟩:=w4.set g4.ok hw hxs g5 hA5 (fun b hb=>by rw[hd5 b hb];exact Nat.le_refl _)
  have hbo: ∀b,av wu.v b→n0≤b:=fun b hb=>(w3.acc u wu xs hw hxs).of hb
  have hdl:u≤(mf.flat ws').length-1:=by simp;omega
  have hdl2:u+1≤ws'.length:=by omega
  simp[hul,hd5',hdl2,wj,q24]
  refine⟨b.to.length-(j+1),by omega,j+1,ws'.set u V,rfl,by omega,by simp,?_,?_,?_,?_⟩
  ·repeat (refine aC.set (by decide) ?_)
   exact K
  ·have gg5:ab aG h h5:=(g3.trans g4).trans' g5 (fun _ _ h=>h) (fun b hb h=>by have:=hbo b h;omega)
   exact gg5.put ⟨s5,hd5'⟩ (.inl (by have:=w3.new;omega))
  ·have:=g5.next
   simp at this ⊢
   omega
  ·rw[Edge.AJ hx]
   have:(Edge.po (Edge.gC xss k (b.to.take j)) k (u:Int))=(Edge.gC xss k (b.to.take j)).set u (xs++[(k:Int)]):=by
    unfold Edge.po
    rw[Int.toNat_natCast,hxs];rfl
   rw[this]
   simpa using w5
 ·have:j=b.to.length:=by omega
  subst this
  rw[List.take_length] at w3
  simp[q23,q24]
  exact C _ _ ws' g3 hnx (K.set (by decide)) w3
def aX (bs:List GB):List (List Int):=bs.map (·.to)
structure iJ (bs:List GB):Prop where
 len:bs.length≤1000
 two: ∀b∈bs,b.to.length≤2
 to: ∀b∈bs,∀t∈b.to,0≤t∧t<bs.length
def Q6 (h:ae) (B:SV) (bs:List GB) (d:Nat) (n0:Nat) (m:Nat) (e:Env) (h2:ae):Prop:=
 ∃(j:Nat) (ws:List SV),m=bs.length-j∧j≤bs.length∧Env.get e 3= .slice (some ⟨d,0,none⟩) bs.length bs.length∧Env.get e 13=B.v∧Env.get e 14= .int .i64 bs.length∧Env.get e 15= .int .i64 j∧ab aG h h2∧n0≤h2.next∧jx aY n0 h2 d ws (Edge.upto bs.length (aX bs) j)
theorem ma {h:ae} (ok:bh h) {name:ByteArray} {p r:Int} {B:SV} {bs:List GB} (hB:wB h B bs) (E:iJ bs):
  aE FF tX [.agg ⟨ak name p r B⟩] h (fun v h'=>ab aG h h'∧ ∃d ws,v= .slice (some ⟨d,0,none⟩) bs.length bs.length∧jx aY h.next h' d ws (Edge.bm (aX bs))):=by
 have hBl:=SliceR.len hB
 have hl:=E.len
 have r1:roomy bs.length=true:=by simp[roomy];omega
 have r2:roomy (bs.length*24)=true:=by simp[roomy];omega
 refine aE.of z8 ?_
 unfold tJ
 simp[ak,hBl,r1,r2]
 refine az.cut (fun h1=>ab aG h h1∧jx aY h.next h1 (h.next+1) (List.replicate bs.length eg) (List.replicate bs.length [])) ?_ ?_
 ·have g1:=aI ok (ak name p r B) 0
  have:=CN (aH h (ak name p r B) 0) g1.ok aY bs.length h.next (Nat.le_succ _)
  refine⟨?_,by simpa [ak,hBl] using this⟩
  have g2:=g1.new (gI [.slice none 0 0] bs.length) 0
  simpa [ak,hBl] using g2
 rintro h1 ⟨g1,w1⟩
 have hn1:h.next+1<h1.next:=by obtain⟨s,hb⟩:=w1.aA;exact g1.ok.bl hb
 refine az.loop (Q6 h B bs (h.next+1) h.next) ?_ (n:=bs.length) ⟨0,_,rfl,by omega,by simp,by simp[hBl],by simp[hBl],by simp,g1,by omega,by simpa [Edge.upto] using w1⟩
 rintro m e h2 ⟨j,ws,rfl,hj,f3,f13,f14,f15,g2,hn2,w2⟩
 unfold qM
 by_cases hjl:j<bs.length
 ·have hx:bs[j]? =some bs[j]:=aQ hjl
  have hm:=List.getElem_mem hjl
  generalize bs[j]=x at hx hm
  obtain⟨bb,off,c,hBa,_,_,⟨P,L,T,rfl,sP,sL,sT⟩,_,hrd⟩:=SliceR.later ok hB hx
  have r0:=hrd h2 g2 0 6 (by decide)
  simp[-ag] at r0
  have wj:=wrap_i64 (j+1) (by omega) (by omega)
  have hTl:=SliceR.len sT
  simp at f13
  have f13':=f13
  rw[hBa,hBl] at f13'
  simp[f3,f13',f14,f15,hjl,r0,-ag,aq]
  refine az.cut (fun h3=>ab aG h2 h3) ?_ ?_
  ·exact(ab.refl g2.ok).var _ _
  rintro h3 g3
  have gg3:=g2.trans g3
  refine FR ok sT (E.two x hm) E.len (E.to x hm) (k:=j) (w2.aW g2.ok g3) (Edge.n7 _ _ _) (fun u=>Edge.lL (fun ts hts=> ?_) u j) (by omega) gg3 (Nat.le_trans hn2 g3.next) (Nat.le_refl _) (by simp[f3]) (by simp) (by simp) (by simp[hTl]) (by simp) ?_
  ·unfold aX at hts
   obtain⟨y,hy,rfl⟩:=List.mem_map.1 hts
   exact E.two y hy
  ·intro e' h' ws' g' hn' K w'
   have q15:=K.at (t:=15) (by decide) (by simp;exact f15)
   have q3:=K.at (t:=3) (by decide) (by simp;exact f3)
   have q13:=K.at (t:=13) (by decide) (by simp;exact f13)
   have q14:=K.at (t:=14) (by decide) (by simp;exact f14)
   simp[q15,wj]
   refine⟨bs.length-(j+1),by omega,j+1,ws',rfl,by omega,by simp[q3],by simp[q13],by simp[q14],by simp,g',Nat.le_trans hn2 (Nat.le_trans g3.next hn'),?_⟩
   have hj':(aX bs)[j]? =some x.to:=by simp[aX,hx]
   have:Edge.upto bs.length (aX bs) (j+1)=Edge.gC (Edge.upto bs.length (aX bs) j) j x.to:=by
    show(match(aX bs)[j]? with|some ts=>Edge.gC (Edge.upto bs.length (aX bs) j) j ts|none=>Edge.upto bs.length (aX bs) j)=_
    rw[hj']
   rw[this]
   exact w'
 ·have:j=bs.length:=by omega
  subst this
  simp[f3,f14,f15]
  refine⟨g2,ws,?_⟩
  have:Edge.bm (aX bs)=Edge.upto bs.length (aX bs) bs.length:=by simp[Edge.bm,aX]
  rw[this]
  exact w2
def Oc (h h2:ae) (b:GB) (xss:List (List Int)) (n0 d k:Nat) (e:Env) (m:Nat) (e':Env) (h3:ae):Prop:=
 ∃(j:Nat) (ws':List SV),m=b.to.length-j∧j≤b.to.length∧Env.get e' 24= .int .i64 j∧aC [25,26,27,7,28,29,30,31,32,33,34,35,36,37,38,24] e e'∧ab aG h h3∧h2.next≤h3.next∧jx aY n0 h3 d ws' (Edge.gC xss k (b.to.take j))
theorem EN {h h2:ae} (ok:bh h) {b:GB} {T:SV} (hT:SliceR nR 1 h T.v b.to) (h2l:b.to.length≤2) {n:Nat} (hn:n≤1000) (ht: ∀t∈b.to,0≤t∧t<n) {n0 d:Nat} {ws:List SV} {xss:List (List Int)} {k:Nat} (w:jx aY n0 h2 d ws xss) (hxl:xss.length=n) (hlen: ∀u:Nat,((xss[u]?).getD []).length≤2*k) (hk:k≤1000)
  (g2:ab aG h h2) (hn0:n0≤h2.next) (hn0':h.next≤n0) {e:Env} {Q:aO→Env→ae→Prop} (f3:Env.get e 3= .slice (some ⟨d,0,none⟩) n n) (f4:Env.get e 4= .int .i64 k) (f22:Env.get e 22=T.v) (f23:Env.get e 23= .int .i64 b.to.length) (f24:Env.get e 24= .int .i64 0)
  (C: ∀e' h' ws',ab aG h h'→h2.next≤h'.next→aC [25,26,27,7,28,29,30,31,32,33,34,35,36,37,38,24] e e'→jx aY n0 h' d ws' (Edge.gC xss k b.to)→Q (.exit 2) e' h'):
  az FF (.loop nw) e h2 Q:=by
 have hTl:=SliceR.len hT
 refine az.loop (Oc h h2 b xss n0 d k e) ?_ (n:=b.to.length)
  ⟨0,ws,rfl,by omega,f24,aC.refl _ _,g2,Nat.le_refl _,by simpa [Edge.gC] using w⟩
 rintro m e' h3 ⟨j,ws',rfl,hj,q24,K,g3,hnx,w3⟩
 unfold nw
 have q3:=K.at (by decide) f3
 have q4:=K.at (by decide) f4
 have q22:=K.at (by decide) f22
 have q23:=K.at (by decide) f23
 by_cases hjl:j<b.to.length
 ·have hx:b.to[j]? =some b.to[j]:=aQ hjl
  have hm:=List.getElem_mem hjl
  generalize b.to[j]=t at hx hm
  obtain⟨ht0,htn⟩:=ht t hm
  obtain⟨u,rfl⟩: ∃u:Nat,t=u:=⟨t.toNat,by omega⟩
  have hul:u<n:=by omega
  obtain⟨bT,off,c,hTa,_,_,rfl,_,hrd⟩:=SliceR.later ok hT hx
  have r0:=hrd h3 g3 0 1 (by decide)
  simp[-ag] at r0
  have wj:=wrap_i64 (j+1) (by omega) (by omega)
  obtain⟨s3,hd3⟩:=w3.aA
  have hxs3:(Edge.gC xss k (b.to.take j)).length=n:=by rw[Edge.vX,hxl]
  have hwl3:ws'.length=n:=by rw[w3.len,hxs3]
  have hw:ws'[u]? =some ws'[u]:=aQ (by omega)
  have hxs:(Edge.gC xss k (b.to.take j))[u]? =some (Edge.gC xss k (b.to.take j))[u]:=aQ (by omega)
  generalize ws'[u]=wu at hw
  generalize hxe:(Edge.gC xss k (b.to.take j))[u]=xs at hxs
  have hrs:=uH hd3 hw
  have hxl':xs.length<1000000:=by
   have h1:=Edge.vn k u (b.to.take j) xss
   rw[hxs] at h1
   have h2':=hlen u
   simp at h1
   have:(b.to.take j).length≤2:=by simp;omega
   simp at this
   omega
  simp at q22
  simp[-ag] at hrs
  have od3:=g3.ok.bl hd3
  simp[q3,q4,q22,q23,q24,hTa,hTl,hjl,r0,hul,hrs,-ag,od3]
  have g4:=aI g3.ok (aY.enc (k:Int)) 0
  have w4:=w3.aW g3.ok g4
  have hw4:aS aY (aH h3 (aY.enc (k:Int)) 0) (.slice (some ⟨h3.next,0,none⟩) 1 1) [(k:Int)]:=⟨_,_,rfl,.inr ⟨h3.next,0,_,_,_,_,rfl,bH _ _ _,by simp,by simp⟩⟩
  obtain⟨v',h5,ha,hA5,g5,hd5⟩:=qn (bytes:=8) g4.ok (z:=[.int .i64 0]) rfl (w4.acc u wu xs hw hxs) hw4 hxl' (by decide) (by show n0≤h3.next+1;omega)
  refine jV ha ?_
  obtain⟨V,rfl⟩:=cj.MG hA5
  obtain⟨s5,hd5',w5⟩:=w4.set g4.ok hw hxs g5 hA5 (fun b hb=>by rw[hd5 b hb];exact Nat.le_refl _)
  have hbo: ∀b,av wu.v b→n0≤b:=fun b hb=>(w3.acc u wu xs hw hxs).of hb
  have hdl:u≤(mf.flat ws').length-1:=by simp;omega
  have hdl2:u+1≤ws'.length:=by omega
  simp[hul,hd5',hdl2,wj,q24]
  refine⟨b.to.length-(j+1),by omega,j+1,ws'.set u V,rfl,by omega,by simp,?_,?_,?_,?_⟩
  ·repeat (refine aC.set (by decide) ?_)
   exact K
  ·have gg5:ab aG h h5:=(g3.trans g4).trans' g5 (fun _ _ h=>h) (fun b hb h=>by have:=hbo b h;omega)
   exact gg5.put ⟨s5,hd5'⟩ (.inl (by have:=w3.new;omega))
  ·have:=g5.next
   simp at this ⊢
   omega
  ·rw[Edge.AJ hx]
   have:(Edge.po (Edge.gC xss k (b.to.take j)) k (u:Int))=(Edge.gC xss k (b.to.take j)).set u (xs++[(k:Int)]):=by
    unfold Edge.po
    rw[Int.toNat_natCast,hxs];rfl
   rw[this]
   simpa using w5
 ·have:j=b.to.length:=by omega
  subst this
  rw[List.take_length] at w3
  simp[q23,q24]
  exact C _ _ ws' g3 hnx (K.set (by decide)) w3
theorem CX {h:ae} (ok:bh h) {name:ByteArray} {p r:Int} {B:SV} {bs:List GB} (hB:wB h B bs) (E:iJ bs):
  aE FF vS [.agg ⟨ak name p r B⟩] h (fun v h'=>ab aG h h'∧ ∃d ws,v= .slice (some ⟨d,0,none⟩) bs.length bs.length∧jx aY h.next h' d ws (Edge.bm (aX bs))):=by
 have hBl:=SliceR.len hB
 have hl:=E.len
 have r1:roomy bs.length=true:=by simp[roomy];omega
 have r2:roomy (bs.length*24)=true:=by simp[roomy];omega
 refine aE.of B1 ?_
 unfold vb
 simp[ak,hBl,r1,r2]
 refine az.cut (fun h1=>ab aG h h1∧jx aY h.next h1 (h.next+1) (List.replicate bs.length eg) (List.replicate bs.length [])) ?_ ?_
 ·have g1:=aI ok (ak name p r B) 0
  have:=CN (aH h (ak name p r B) 0) g1.ok aY bs.length h.next (Nat.le_succ _)
  refine⟨?_,by simpa [ak,hBl] using this⟩
  have g2:=g1.new (gI [.slice none 0 0] bs.length) 0
  simpa [ak,hBl] using g2
 rintro h1 ⟨g1,w1⟩
 have hn1:h.next+1<h1.next:=by obtain⟨s,hb⟩:=w1.aA;exact g1.ok.bl hb
 refine az.loop (Q6 h B bs (h.next+1) h.next) ?_ (n:=bs.length) ⟨0,_,rfl,by omega,by simp,by simp[hBl],by simp[hBl],by simp,g1,by omega,by simpa [Edge.upto] using w1⟩
 rintro m e h2 ⟨j,ws,rfl,hj,f3,f13,f14,f15,g2,hn2,w2⟩
 unfold rV
 by_cases hjl:j<bs.length
 ·have hx:bs[j]? =some bs[j]:=aQ hjl
  have hm:=List.getElem_mem hjl
  generalize bs[j]=x at hx hm
  obtain⟨bb,off,c,hBa,_,_,⟨P,L,T,rfl,sP,sL,sT⟩,_,hrd⟩:=SliceR.later ok hB hx
  have r0:=hrd h2 g2 0 6 (by decide)
  simp[-ag] at r0
  have wj:=wrap_i64 (j+1) (by omega) (by omega)
  have hTl:=SliceR.len sT
  simp at f13
  have f13':=f13
  rw[hBa,hBl] at f13'
  simp[f3,f13',f14,f15,hjl,r0,-ag,aq]
  refine az.cut (fun h3=>ab aG h2 h3) ?_ ?_
  ·exact(ab.refl g2.ok).var _ _
  rintro h3 g3
  have gg3:=g2.trans g3
  refine EN ok sT (E.two x hm) E.len (E.to x hm) (k:=j) (w2.aW g2.ok g3) (Edge.n7 _ _ _) (fun u=>Edge.lL (fun ts hts=> ?_) u j) (by omega) gg3 (Nat.le_trans hn2 g3.next) (Nat.le_refl _) (by simp[f3]) (by simp) (by simp) (by simp[hTl]) (by simp) ?_
  ·unfold aX at hts
   obtain⟨y,hy,rfl⟩:=List.mem_map.1 hts
   exact E.two y hy
  ·intro e' h' ws' g' hn' K w'
   have q15:=K.at (t:=15) (by decide) (by simp;exact f15)
   have q3:=K.at (t:=3) (by decide) (by simp;exact f3)
   have q13:=K.at (t:=13) (by decide) (by simp;exact f13)
   have q14:=K.at (t:=14) (by decide) (by simp;exact f14)
   simp[q15,wj]
   refine⟨bs.length-(j+1),by omega,j+1,ws',rfl,by omega,by simp[q3],by simp[q13],by simp[q14],by simp,g',Nat.le_trans hn2 (Nat.le_trans g3.next hn'),?_⟩
   have hj':(aX bs)[j]? =some x.to:=by simp[aX,hx]
   have:Edge.upto bs.length (aX bs) (j+1)=Edge.gC (Edge.upto bs.length (aX bs) j) j x.to:=by
    show(match(aX bs)[j]? with|some ts=>Edge.gC (Edge.upto bs.length (aX bs) j) j ts|none=>Edge.upto bs.length (aX bs) j)=_
    rw[hj']
   rw[this]
   exact w'
 ·have:j=bs.length:=by omega
  subst this
  simp[f3,f14,f15]
  refine⟨g2,ws,?_⟩
  have:Edge.bm (aX bs)=Edge.upto bs.length (aX bs) bs.length:=by simp[Edge.bm,aX]
  rw[this]
  exact w2
end Go.Proofs.YtdkdbjecehcekaaGreatDoor
