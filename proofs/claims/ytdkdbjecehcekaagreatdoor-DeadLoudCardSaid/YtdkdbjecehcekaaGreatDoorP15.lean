/- Parts of the proof. -/
import Derived.Test.YtdkdbjecehcekaaGreatDoorP14
import Derived.Test.YtdkdbjecehcekaaGreatDoorP09
set_option linter.all false
set_option linter.unusedSimpArgs false
set_option linter.unusedVariables false
set_option linter.unnecessarySimpa false
namespace Go.AI.Edge
def xI (tss:List (List Int)) (x:Nat):Prop:= ∀S:Nat→Prop,S 0→(∀a ts,S a→tss[a]? =some ts→ ∀t∈ts,S t.toNat)→S x
theorem xI.zero (tss:List (List Int)):xI tss 0:=fun _ h _=>h
theorem xI.step {tss:List (List Int)} {a:Nat} {ts:List Int} (h:xI tss a) (ha:tss[a]? =some ts) {t:Int} (ht:t∈ts):xI tss t.toNat:=fun S h0 hs=>hs a ts (h S h0 hs) ha t ht
def qm (tss:List (List Int)):List (List Nat):=tss.map (·.map Int.toNat)
theorem vt {tss:List (List Int)} {p x:Nat} (h:x∈Dfs.row (qm tss) p): ∃ts t,tss[p]? =some ts∧t∈ts∧x=t.toNat:=by
 unfold Dfs.row qm at h
 rw[List.getElem?_map] at h
 cases hp:tss[p]? with
 |none=>rw[hp] at h;simp at h
 |some ts=>
  rw[hp] at h
  simp at h
  obtain⟨t,ht,e⟩:=h
  exact⟨ts,t,rfl,ht,e.symm⟩
theorem Ig {tss:List (List Int)} {p:Nat} {ts:List Int} {t:Int} (hp:tss[p]? =some ts) (ht:t∈ts):t.toNat∈Dfs.row (qm tss) p:=by
 unfold Dfs.row qm
 rw[List.getElem?_map,hp]
 simp
 exact⟨t,ht,rfl⟩
theorem Dv {tss:List (List Int)} (h0:0<tss.length) (hto: ∀ts∈tss,∀t∈ts,t.toNat<tss.length) (x:Nat):x∈Dfs.jM (qm tss) tss.length↔xI tss x:=by
 obtain⟨nd,lt,⟨new,e0⟩,cl,up⟩:=Dfs.sy (cT:=qm tss) h0 (fun b t ht=>by
  obtain⟨ts,u,h1,h2,rfl⟩:=vt ht
  exact hto ts (di h1) u h2)
 constructor
 ·
  intro hx
  obtain⟨l1,l2,e⟩:=List.append_of_mem hx
  have key: ∀(n:Nat) (l1 l2:List Nat) (x:Nat),l2.length≤n→Dfs.jM (qm tss) tss.length=l1++x::l2→xI tss x:=by
   intro n
   induction n with
   |zero=>
    intro l1 l2 x hl e
    have:l2=[]:=List.eq_nil_of_length_eq_zero (by omega)
    subst this
    rw[e0] at e
    have:=(List.append_inj' e rfl).2
    cases this
    exact xI.zero _
   |succ n ih=>
    intro l1 l2 x hl e
    by_cases hx0:x=0
    ·subst hx0;exact xI.zero _
    ·obtain⟨p,hp,m1,m2,em,hpm⟩:=up x (by rw[e];simp) hx0
     have e2:l1++x::l2=m1++x::m2:=by rw[←e,←em]
     have nd':(l1++x::l2).Nodup:=by rw[←e];exact nd
     have hlen:l1.length=m1.length:=by
      have i1:(l1++x::l2)[l1.length]? =some x:=by simp
      have i2:(l1++x::l2)[m1.length]? =some x:=by rw[e2];simp
      have h1:=(bY.mp i1)
      have h2:=(bY.mp i2)
      obtain⟨a1,a2⟩:=h1
      obtain⟨b1,b2⟩:=h2
      exact(List.getElem_inj nd').1 (a2.trans b2.symm)
     have e3:=(List.append_inj e2 hlen).2
     cases e3
     obtain⟨k1,k2,ek⟩:=List.append_of_mem hpm
     have hr:=ih (l1++x::k1) k2 p (by rw[ek] at hl;simp at hl;omega) (by rw[e,ek];simp)
     obtain⟨ts,t,h1,h2,rfl⟩:=vt hp
     exact hr.step h1 h2
  exact key l2.length l1 l2 x (Nat.le_refl _) e
 ·intro h
  refine h (fun y=>y∈Dfs.jM (qm tss) tss.length) (by rw[e0];simp) (fun a ts ha hts t ht=>cl a ha _ (Ig hts ht))
theorem xI.pK {tss tss':List (List Int)} {ord:List Nat} (nd:ord.Nodup) (Ok:ord[0]? =some 0) (cl: ∀x∈ord,∀ts,tss[x]? =some ts→ ∀t∈ts,t.toNat∈ord)
  (hts: ∀(i k:Nat),ord[i]? =some k→ ∃ts ts',tss[k]? =some ts∧tss'[i]? =some ts'∧ts'.length=ts.length∧ ∀(j:Nat) (t t':Int),ts[j]? =some t→ts'[j]? =some t'→0≤t'∧ord[t'.toNat]? =some t.toNat)
  {i k:Nat} (hk:ord[i]? =some k) (h:xI tss k):xI tss' i:=by
 intro S h0 hs
 have:=h (fun x=> ∃j,ord[j]? =some x∧S j) ⟨0,Ok,h0⟩ (by
  rintro a ts ⟨j,hj,hS⟩ ha t ht
  obtain⟨ts1,ts',e1,e2,e3,e4⟩:=hts j a hj
  rw[ha] at e1;cases e1
  obtain⟨m,hm⟩:=pM ht
  have hml:=(bY.mp hm).1
  obtain⟨t',ht'⟩: ∃t',ts'[m]? =some t':=⟨_,aQ (by omega)⟩
  obtain⟨_,h6⟩:=e4 m t t' hm ht'
  exact⟨t'.toNat,h6,hs j ts' hS e2 t' (di ht')⟩)
 obtain⟨j,hj,hS⟩:=this
 have a1:=bY.mp hk
 have a2:=bY.mp hj
 obtain⟨b1,b2⟩:=a1
 obtain⟨c1,c2⟩:=a2
 have:i=j:=(List.getElem_inj nd).1 (b2.trans c2.symm)
 subst this
 exact hS
section
variable {tss:List (List Int)} {b to:Nat} {t:Int} {ts2:List Int}
def pH (tss:List (List Int)) (b to:Nat) (ts2:List Int):List (List Int):=(tss.set b ts2).set to []
theorem wE (hb:tss[b]? =some [(to:Int)]) (ht:tss[to]? =some ts2) (hne:to≠b) (u i:Nat):tC (pH tss b to ts2) u i=if i=to then 0 else if i=b then tC tss u to else tC tss u i:=by
 have hbl:=(bY.mp hb).1
 have htl:=(bY.mp ht).1
 unfold tC pH
 by_cases h1:i=to
 ·subst h1
  rw[if_pos rfl,List.getElem?_set,if_pos rfl,if_pos (by simpa using htl)]
  rfl
 ·rw[if_neg h1,List.getElem?_set,if_neg (Ne.symm h1),List.getElem?_set]
  by_cases h2:i=b
  ·subst h2
   rw[if_pos rfl,if_pos rfl,if_pos hbl,ht]
  ·rw[if_neg (Ne.symm h2),if_neg h2]
theorem GH (n:Nat) (f g:Nat→Nat) (x y:Nat) (hx:x<n) (hy:y<n) (hne:x≠y) (h: ∀i,i≠x→i≠y→f i=g i) (he:f x+f y=g x+g y):((List.range n).map f).sum=((List.range n).map g).sum:=by
 have key: ∀n,((List.range n).map f).sum+(if x<n then g x else 0)+(if y<n then g y else 0)=((List.range n).map g).sum+(if x<n then f x else 0)+(if y<n then f y else 0):=by
  intro n
  induction n with
  |zero=>simp
  |succ n ih=>
   rw[List.range_succ,List.map_append,List.map_append,List.sum_append_nat,List.sum_append_nat]
   simp only[List.map_cons,List.map_nil,List.sum_cons,List.sum_nil,Nat.add_zero]
   have st: ∀(v z:Nat),(if z<n+1 then v else 0)=(if z<n then v else 0)+(if n=z then v else 0):=by
    intro v z
    by_cases h1:z<n
    ·rw[if_pos h1,if_pos (by omega),if_neg (by omega)];rfl
    ·by_cases h2:n=z
     ·rw[if_neg h1,if_pos (by omega),if_pos h2];omega
     ·rw[if_neg h1,if_neg (by omega),if_neg h2]
   rw[st,st,st,st]
   by_cases h1:n=x
   ·have h2: ¬n=y:=by omega
    simp only[if_pos h1,if_neg h2]
    subst h1
    omega
   ·by_cases h2:n=y
    ·simp only[if_neg h1,if_pos h2]
     subst h2
     omega
    ·have:=h n h1 h2
     simp only[if_neg h1,if_neg h2]
     omega
 have:=key n
 rw[if_pos hx,if_pos hy,if_pos hx,if_pos hy] at this
 omega
theorem Ho (hb:tss[b]? =some [(to:Int)]) (ht:tss[to]? =some ts2) (hne:to≠b) {u:Nat} (hu:u≠to):(rowOf (pH tss b to ts2) u tss.length).length=(rowOf tss u tss.length).length:=by
 have hbl:=(bY.mp hb).1
 have htl:=(bY.mp ht).1
 rw[td,td]
 refine GH _ _ _ to b htl hbl hne (fun i h1 h2=>by rw[wE hb ht hne,if_neg h1,if_neg h2]) ?_
 rw[wE hb ht hne,wE hb ht hne,if_pos rfl,if_neg (Ne.symm hne),if_pos rfl]
 have:tC tss u b=0:=by
  unfold tC
  rw[hb]
  show [((to:Int)).toNat].count u=0
  rw[Int.toNat_natCast,List.count_eq_zero]
  simpa using hu
 omega
theorem Az (hb:tss[b]? =some [(to:Int)]) (h1:(rowOf tss to tss.length).length≤1) {a:Nat} {ts:List Int} (ha:tss[a]? =some ts) {t:Int} (h:t∈ts) (he:t.toNat=to):a=b:=by
 have hbl:=(bY.mp hb).1
 have hal:=(bY.mp ha).1
 rcases Nat.lt_or_ge 0 (if a=b then 0 else 1) with hc|hc
 ·have hne:a≠b:=by intro e;rw[if_pos e] at hc;omega
  rw[td] at h1
  have c1:1≤tC tss to b:=by
   unfold tC;rw[hb];simp
  have c2:1≤tC tss to a:=by
   unfold tC;rw[ha]
   show 1≤(ts.map Int.toNat).count to
   exact List.count_pos_iff.2 (List.mem_map.2 ⟨t,h,he⟩)
  have:2≤((List.range tss.length).map fun i=>tC tss to i).sum:=by
   have e1:((List.range tss.length).map fun i=>if i=a then tC tss to a else if i=b then tC tss to b else 0).sum≤((List.range tss.length).map fun i=>tC tss to i).sum:=by
    generalize tss.length=n
    induction n with
    |zero=>exact Nat.le_refl _
    |succ n ih=>
     rw[List.range_succ,List.map_append,List.map_append,List.sum_append_nat,List.sum_append_nat]
     refine Nat.add_le_add ih ?_
     simp only[List.map_cons,List.map_nil,List.sum_cons,List.sum_nil,Nat.add_zero]
     split
     ·rename_i e;subst e;exact Nat.le_refl _
     ·split
      ·rename_i e;subst e;exact Nat.le_refl _
      ·exact Nat.zero_le _
   have e2:=GH tss.length (fun i=>if i=a then tC tss to a else if i=b then tC tss to b else 0) (fun i=>if i=a then tC tss to a+tC tss to b else 0) a b hal hbl hne (fun i h1 h2=>by simp only[if_neg h1,if_neg h2]) (by simp only[if_true,if_neg (Ne.symm hne)];omega)
   have e3: ∀n,a<n→tC tss to a+tC tss to b≤((List.range n).map fun i=>if i=a then tC tss to a+tC tss to b else 0).sum:=by
    intro n hn
    induction n with
    |zero=>omega
    |succ n ih=>
     rw[List.range_succ,List.map_append,List.sum_append_nat]
     simp only[List.map_cons,List.map_nil,List.sum_cons,List.sum_nil,Nat.add_zero]
     by_cases e:n=a
     ·rw[if_pos e];omega
     ·have:=ih (by omega);omega
   have:=e3 _ hal
   rw[←e2] at this
   omega
  omega
 ·by_cases e:a=b
  ·exact e
  ·rw[if_neg e] at hc;omega
theorem xI.chain (hb:tss[b]? =some [(to:Int)]) (ht:tss[to]? =some ts2) (hne:to≠b) (h0:to≠0) (h1:(rowOf tss to tss.length).length≤1) {x:Nat} (hx:xI tss x) (hxt:x≠to):xI (pH tss b to ts2) x:=by
 have hbl:=(bY.mp hb).1
 have htl:=(bY.mp ht).1
 intro S s0 hs
 have:=hx (fun y=>if y=to then S b else S y) (by simp only[if_neg (Ne.symm h0)];exact s0) (by
  intro a ts ha hts t htm
  by_cases ea:a=to
  ·subst ea
   rw[if_pos rfl] at ha
   rw[ht] at hts;cases hts
   have hn:t.toNat≠a:=fun e=>hne (Az hb h1 ht htm e)
   rw[if_neg hn]
   exact hs b ts2 ha (by unfold pH;rw[List.getElem?_set,if_neg hne,List.getElem?_set,if_pos rfl,if_pos hbl]) t htm
  ·rw[if_neg ea] at ha
   by_cases eb:a=b
   ·subst eb
    rw[hb] at hts;cases hts
    simp at htm
    subst htm
    simp only[Int.toNat_natCast,if_true]
    exact ha
   ·have hn:t.toNat≠to:=fun e=>eb (Az hb h1 hts htm e)
    rw[if_neg hn]
    exact hs a ts ha (by unfold pH;rw[List.getElem?_set,if_neg (Ne.symm ea),List.getElem?_set,if_neg (Ne.symm eb)];exact hts) t htm)
 rw[if_neg hxt] at this
 exact this
end
end Go.AI.Edge
namespace Go.Proofs.YtdkdbjecehcekaaGreatDoor
open Go.AI
def P0:List Nat:=[10,12,45,46,47,48,49,50,51,52,53,54,55,56,57,58,59]
def BU (bl:Int) (l:List Int):Nat:=(l.filter fun x=> !(x==bl)).length
def NS (h:ae) (ps:List Int) (bl:Int) (e:Env) (m:Nat) (e':Env) (h':ae):Prop:=
 ∃t j:Nat,m=ps.length-t∧t≤ps.length∧aC P0 e e'∧Env.get e' 45= .int .i64 t∧Env.get e' 10= .int .i64 j∧h'=h∧j≤BU bl (ps.take t)
theorem Nc {bl:Int} {ps:List Int} (h:bl∈ps):BU bl ps<ps.length:=by
 obtain⟨l1,l2,rfl⟩:=List.append_of_mem h
 unfold BU
 have h1:=List.length_filter_le (fun x:Int=> !(x==bl)) l1
 have h2:=List.length_filter_le (fun x:Int=> !(x==bl)) l2
 have h3:(!(bl==bl))=false:=by simp
 rw[List.filter_append,List.filter_cons,h3]
 simp only[List.length_append,List.length_cons,Bool.false_eq_true,if_false]
 omega
theorem HE {h:ae} {W:SV} {ps:List Int} (hW:aS aY h W.v ps) (hl:ps.length<1000000) {bl now:Nat}
  {e:Env} {Q:aO→Env→ae→Prop} (f1:Env.get e 1= .int .i64 bl) (f2:Env.get e 2= .int .i64 now) (f10:Env.get e 10= .int .i64 0) (f43:Env.get e 43=W.v) (f44:Env.get e 44= .int .i64 ps.length) (f45:Env.get e 45= .int .i64 0)
  (C: ∀e' j,aC P0 e e'→Env.get e' 10= .int .i64 (j:Nat)→j≤BU bl ps→Q (.exit 2) e' h):az FF (.loop mq) e h Q:=by
 have hWl:W.l=ps.length:=by obtain⟨a,cap,e,_⟩:=hW;simp at e;exact e.2.1
 refine az.loop (NS h ps bl e) ?_ (n:=ps.length) ⟨0,0,rfl,by omega,aC.refl _ _,f45,f10,rfl,Nat.zero_le _⟩
 rintro m e' h' ⟨t,j,rfl,ht,K,q45,q10,rfl,hj⟩
 have q1:=K.at (by decide) f1
 have q2:=K.at (by decide) f2
 have q43:=K.at (by decide) f43
 have q44:=K.at (by decide) f44
 unfold mq
 by_cases htl:t<ps.length
 ·have wt:=wrap_i64 ((t:Int)+1) (by omega) (by omega)
  have hjt:BU bl (ps.take t)≤t:=Nat.le_trans (List.length_filter_le _ _) (by simp;omega)
  have wj:=wrap_i64 ((j:Int)+1) (by omega) (by omega)
  have hx:ps[t]? =some ps[t]:=aQ htl
  generalize ps[t]=x at hx
  obtain⟨bW,offW,capW,hWv,_,_,hrd⟩:=hW.read hx
  have r1:=hrd 0 1 (by decide)
  simp[-ag] at r1 hWv q43
  rw[hWv.1,hWl] at q43
  have htk:ps.take (t+1)=ps.take t++[x]:=by rw[List.take_add_one,hx];rfl
  have oth1:BU bl (ps.take (t+1))=BU bl (ps.take t)+(if x==(bl:Int) then 0 else 1):=by
   unfold BU
   rw[htk,List.filter_append,List.length_append]
   by_cases e:x=(bl:Int)<;>simp[e]
  have fin: ∀(e2:Env) (j':Nat),aC P0 e e2→Env.get e2 45= .int .i64 ((t:Int)+1)→Env.get e2 10= .int .i64 (j':Nat)→j'≤BU bl (ps.take (t+1))→ ∃m,m<ps.length-t∧NS h' ps bl e m e2 h':=by
   intro e2 j' K2 k45 k10 hj'
   exact⟨ps.length-(t+1),by omega,t+1,j',rfl,htl,K2,by rw[k45];rfl,k10,rfl,hj'⟩
  by_cases c1:x<(now:Int)
  ·by_cases c2:x=(bl:Int)
   ·have c3:(x !=(bl:Int))=false:=by simp[c2]
    simp[q1,q2,q43,q44,q45,q10,htl,r1,c1,c3,wt,-ag]
    refine fin _ j ?_ (by simp) (by simp[q10]) (by rw[oth1];omega)
    repeat (refine aC.set (by decide) ?_)
    exact K
   ·have c3:(x !=(bl:Int))=true:=by simp[c2]
    have c4:(x==(bl:Int))=false:=by simp[c2]
    rw[c4] at oth1
    simp at oth1
    simp[q1,q2,q43,q44,q45,q10,htl,r1,c1,c3,wt,wj,-ag]
    refine fin _ (j+1) ?_ (by simp) (by simp) (by rw[oth1];omega)
    repeat (refine aC.set (by decide) ?_)
    exact K
  ·simp[q1,q2,q43,q44,q45,q10,htl,r1,c1,wt,-ag]
   refine fin _ j ?_ (by simp) (by simp[q10]) (by rw[oth1];omega)
   repeat (refine aC.set (by decide) ?_)
   exact K
 ·have:t=ps.length:=by omega
  subst this
  simp[q44,q45]
  exact C _ j (aC.set (by decide) K) (by simp[q10]) (by rw[List.take_length] at hj;exact hj)
def kH (rs' rs:List XR):Prop:=rs'.length=rs.length∧ ∀(i:Nat) (r' r:XR),rs'[i]? =some r'→rs[i]? =some r→r'= { r with ps:=r'.ps } ∧ko r'.ps r.ps
theorem kH.refl (rs:List XR):kH rs rs:=⟨rfl,fun i a b h1 h2=>by rw[h1] at h2;cases h2;exact⟨rfl,ko.refl _⟩⟩
theorem kH.set {rs' rs:List XR} (h:kH rs' rs) {y:Nat} {r:XR} (hr:rs'[y]? =some r) {qs:List (Int×SV)} (hq:ko qs r.ps):kH (rs'.set y { r with ps:=qs }) rs:=by
 refine⟨by simp[h.1],fun i a b h1 h2=> ?_⟩
 rw[List.getElem?_set] at h1
 by_cases e:y=i
 ·subst e
  rw[if_pos rfl,if_pos (bY.mp hr).1] at h1
  cases h1
  obtain⟨a1,a2⟩:=h.2 y r b hr h2
  exact⟨by rw[a1],hq.trans a2⟩
 ·rw[if_neg e] at h1
  exact h.2 i a b h1 h2
def OE (n0 ai:Nat) (κ cap:Nat→Nat) (B:SV) (rs:List XR) (h:ae) (_:Value) (h':ae):Prop:=
 ab (fun b=>κ b=1∨κ b=3) h h'∧ ∃rs',ou h' n0 ai κ cap B rs'∧kH rs' rs
def Qa (h:ae) (n0 ai:Nat) (κ cap:Nat→Nat) (B:SV) (rs:List XR) (c6:Value) (F:Nat) (bl now:Nat) (T:SV) (l:Nat) (m:Nat) (e:Env) (h':ae):Prop:=
 ∃(i:Nat) (rs':List XR),m=l-i∧i≤l∧Env.get e 0= .pointer (some ⟨F,0,none⟩)∧Env.get e 1= .int .i64 bl∧Env.get e 2= .int .i64 now∧Env.get e 6=c6∧Env.get e 28=T.v∧Env.get e 29= .int .i64 l∧Env.get e 30= .int .i64 i∧ab (fun b=>κ b=1∨κ b=3) h h'∧ou h' n0 ai κ cap B rs'∧kH rs' rs
def RowsIn (rs:List XR):Prop:= ∀(k:Nat) (r:XR) (pk:List Int),rs[k]? =some r→(Edge.bm (bD rs))[k]? =some pk→ ∀q∈r.ps,q.2.l=pk.length
theorem DR {h:ae} (ok:bh h) {n0 ai:Nat} {κ cap:Nat→Nat} {B:SV} {rs:List XR} (O:ou h n0 ai κ cap B rs) (hn0:n0≤h.next) {F sF:Nat} {name:ByteArray} {p rg:Int} (hF:h.tr.get F=some (.aA (ak name p rg B) false 0 sF)) (κF:κ F=0) {bl now:Nat} {ro:XR} (hro:rs[bl]? =some ro) (T:NA (bD rs)) (rows:RowsIn rs) (pl: ∀r∈rs,r.ps.length<1000000):
  aE FF tG [.pointer (some ⟨F,0,none⟩),.int .i64 bl,.int .i64 now] h (OE n0 ai κ cap B rs h):=by
 have htl:(bD rs).length=rs.length:=by simp[bD]
 have hn:=T.len
 obtain⟨bs,hbs,hV⟩:=O.view
 have E:=hV.ends T
 have htos:=hV.cT
 have hbl:bs.length=rs.length:=hV.1
 have hol:=(bY.mp hro).1
 have Ro:=O.os.r bl ro hro
 have hTl:=Ro.T.len
 have κlow: ∀b,κ b≠0→b<h.next:=fun b hb=>(O.os.new b hb).2
 have hF2:=hF
 simp[ak] at hF2
 refine aE.of zS ?_
 unfold tI
 simp[hF2]
 refine aD.call (V:=fun v h'=>ab aG h h'∧ ∃d ws,v= .slice (some ⟨d,0,none⟩) bs.length bs.length∧jx aY h.next h' d ws (Edge.bm (aX bs))) (by simpa [ak] using ma ok (name:=name) (p:=p) (r:=rg) hbs E) ?_
 rintro _ h1 ⟨g1,d,ws,rfl,w1⟩
 rw[htos] at w1
 have O1:=O.aW ok g1
 have hF1:=g1.get ok hF2 (fun h=>h)
 have hF1':=g1.get ok hF (fun h=>h)
 obtain⟨bB,cs,oB,sB,hBa,hBb,hjB,hfit,hrd,hset⟩:=O1.A.el hro
 have rd0:=hrd 5 1 (by decide)
 simp[-ag] at rd0
 have hBl':=O1.A.len
 rw[hBa,hBl'] at hF1
 simp[hF1,hol,rd0,hTl,-ag,aw hF1]
 refine az.loop (Qa h1 n0 ai κ cap B rs (.slice (some ⟨d,0,none⟩) bs.length bs.length) F bl now ro.T ro.ts.length) ?_ (n:=ro.ts.length)
  ⟨0,rs,rfl,by omega,by simp,by simp,by simp,by simp,by simp[hTl],by simp,by simp,.refl g1.ok,O1,kH.refl _⟩
 rintro m e' h' ⟨i,rs',rfl,hi,q0,q1,q2,q6,q28,q29,q30,g,O',S⟩
 have ok':=g.ok
 unfold qK
 by_cases hil:i<ro.ts.length
 ·have wi:=wrap_i64 ((i:Int)+1) (by have:=T.two ro.ts (List.mem_map.2 ⟨ro,di hro,rfl⟩);omega) (by have:=T.two ro.ts (List.mem_map.2 ⟨ro,di hro,rfl⟩);omega)
  obtain⟨t,ht⟩: ∃t,ro.ts[i]? =some t:=⟨_,aQ hil⟩
  obtain⟨ht0,htn⟩:=T.to ro.ts (List.mem_map.2 ⟨ro,di hro,rfl⟩) t (di ht)
  obtain⟨u,rfl⟩: ∃u:Nat,t=u:=⟨t.toNat,by omega⟩
  have hun:u<rs.length:=by omega
  obtain⟨r0,hr0⟩: ∃r0,rs[u]? =some r0:=⟨_,aQ hun⟩
  obtain⟨r1,hr1⟩: ∃r1,rs'[u]? =some r1:=⟨_,aQ (by rw[S.1];exact hun)⟩
  obtain⟨er,sl⟩:=S.2 u r1 r0 hr1 hr0
  obtain⟨pk,hpk⟩: ∃pk,(Edge.bm (bD rs))[u]? =some pk:=⟨_,aQ (by rw[Edge.eA,htl];exact hun)⟩
  obtain⟨wk,hwk⟩: ∃wk,ws[u]? =some wk:=⟨_,aQ (by rw[w1.len,Edge.eA,htl];exact hun)⟩
  have hto: ∀ts∈bD rs,∀t∈ts,t.toNat<(bD rs).length:=fun ts h t h2=>by have:=T.to ts h t h2;omega
  have hmem:(bl:Int)∈pk:=by
   have:=(Edge.tk hto (u:=u) (x:=(bl:Int))).2 ⟨bl,rfl,ro.ts,by simp[bD,hro],(u:Int),di ht,by simp⟩
   rw[hpk] at this
   exact this
  have hpkl:pk.length≤2000:=by
   have h1:=Edge.lL (n:=(bD rs).length) (cT:=bD rs) T.two u (bD rs).length
   have h2:((Edge.upto (bD rs).length (bD rs) (bD rs).length)[u]?).getD []=pk:=by
    show((Edge.bm (bD rs))[u]?).getD []=pk
    rw[hpk];rfl
   rw[h2] at h1
   omega
  have hlo:=Nc hmem
  have w':=w1.grow g1.ok g (fun b hb h=>by have:=κlow b (by omega);omega)
  obtain⟨sd,hd⟩:=w'.aA
  have rw6:=uH hd hwk
  have hTs:=xS Ro.T.sl ok (g1.aW.trans g) (fun _ b hb h=>by have:=Ro.kT b hb;omega)
  obtain⟨bT,offT,capT,hTv,_,_,hrdT⟩:=hTs.read ht
  have rt:=hrdT 0 1 (by decide)
  simp[-ag] at rt hTv rw6
  simp at q28
  rw[hTv.1,hTl] at q28
  have hub:u<bs.length:=by omega
  simp[q6,q1,q28,q29,q30,hil,rt,rw6,hub,-ag]
  have hWs:aS aY h' wk.v pk:=(w'.acc u wk pk hwk hpk).sl
  refine aD.call (V:=fun v h2=>h2=h'∧ ∃k:Nat,v= .int .i64 k∧pk[k]? =some (bl:Int)) (by simpa using C1 hWs (by omega) hmem) ?_
  rintro _ h2 ⟨rfl,k,rfl,hk⟩
  have hkl:=(bY.mp hk).1
  have hwl:wk.l=pk.length:=by obtain⟨a,cap,e,_⟩:=hWs;simp at e;exact e.2.1
  simp[q6,q1,q28,q29,q30,rw6,hub,-ag]
  refine HE (bl:=bl) (now:=now) hWs (by omega) (by simp[q1]) (by simp[q2]) (by simp) (by simp) (by simp[hwl]) (by simp) ?_
  intro e3 j K3 k10 hj
  have k0:=K3.at (t:=0) (by decide) (by simp;exact q0)
  have k1:=K3.at (t:=1) (by decide) (by simp;exact q1)
  have k2:=K3.at (t:=2) (by decide) (by simp;exact q2)
  have k6:=K3.at (t:=6) (by decide) (by simp;exact q6)
  have k8:Env.get e3 8= .int .i64 u:=K3.at (t:=8) (by decide) (by simp)
  have k9:Env.get e3 9= .int .i64 k:=K3.at (t:=9) (by decide) (by simp)
  have k28:=K3.at (t:=28) (by decide) (by simp;exact q28)
  have k29:=K3.at (t:=29) (by decide) (by simp;exact q29)
  have k30:=K3.at (t:=30) (by decide) (by simp;exact q30)
  have hF':=g.get g1.ok hF1 (by omega)
  have hF3:=g.get g1.ok hF1' (by omega)
  obtain⟨bB',cs',oB',sB',hBa',hBb',hjB',hfit',hrd',hset'⟩:=O'.A.el hr1
  rw[hBa] at hBa';cases hBa'
  have rd1:=hrd' 0 1 (by decide)
  simp[-ag] at rd1
  have R1:=O'.os.r u r1 hr1
  have hPl:=R1.P.len
  have hul:u<rs.length:=hun
  simp[k0,k8,hF',hul,rd1,hPl,-ag,aw hF']
  refine Ja ok' O' (by have:=g1.next;have:=g.next;omega) (F:=F) (y:=u) (k:=k) (j:=j) (l:=pk.length) hF3 κF hr1 (fun q hq=> ?_) hkl (by omega) (by omega) (by rw[sl.1];exact pl r0 (di hr0)) (by simp[k0]) (by simp[k8]) (by simp[k9]) (by simp[k10]) (by simp[hPl]) (by simp) (by simp) ?_
  ·obtain⟨m,hm⟩:=pM hq
   obtain⟨p0,hp0⟩: ∃p0,r0.ps[m]? =some p0:=⟨_,aQ (by rw[←sl.1];exact(bY.mp hm).1)⟩
   rw[(sl.2 m q p0 hm hp0).2]
   exact rows u r0 pk hr0 hpk p0 (di hp0)
  intro e4 h4 qs K4 g4 O4 S4
  have m0:=K4.at (t:=0) (by decide) (by simp;exact k0)
  have m1:=K4.at (t:=1) (by decide) (by simp;exact k1)
  have m2:=K4.at (t:=2) (by decide) (by simp;exact k2)
  have m6:=K4.at (t:=6) (by decide) (by simp;exact k6)
  have m28:=K4.at (t:=28) (by decide) (by simp;exact k28)
  have m29:=K4.at (t:=29) (by decide) (by simp;exact k29)
  have m30:=K4.at (t:=30) (by decide) (by simp;exact k30)
  simp[m30,wi]
  exact⟨ro.ts.length-(i+1),by omega,i+1,rs'.set u { r1 with ps:=qs },rfl,hil,by simp[m0],by simp[m1],by simp[m2],by simp[m6],by simp[m28,hTv.1,hTl],by simp[m29],by simp,g.trans g4,O4,S.set hr1 S4⟩
 ·have:i=ro.ts.length:=by omega
  subst this
  simp[q29,q30]
  exact⟨(g1.aW.trans g),rs',O',S⟩
def ov (r:XR):Nat:=r.ps.length+r.ls.length
def jD (words:Int) (ls:List XI):Nat:=(ls.filter fun x=> !fO words x).length
def fC (words:Int) (rs:List XR):Nat:=(rs.map fun r=>jD words r.ls).sum
def LA (r:XR):Prop:=(r.kind=1∧r.ts=[])∨(r.kind=2∧ ∃t,r.ts=[t])∨(r.kind=3∧ ∃t u,r.ts=[t,u])
structure TF (rs:List XR):Prop where
 n1:0<rs.length
 zE:rs.length≤24
 kind: ∀r∈rs,LA r
 to: ∀r∈rs,∀t∈r.ts,1≤t∧t<rs.length
 rows: ∀(k:Nat) (r:XR),rs[k]? =some r→ ∀q∈r.ps,q.2.l=(Edge.rowOf (bD rs) k rs.length).length
 sum:(rs.map ov).sum≤300
 al: ∀r∈rs,∀x∈r.ls,x.args.l≤1048576
 seen: ∀(k:Nat) (r:XR),rs[k]? =some r→Edge.xI (bD rs) k∨(r.kind=1∧r.ps=[]∧r.ls=[])
theorem dD (rs:List XR):(bD rs).length=rs.length:=by simp[bD]
theorem qx {rs:List XR} {k:Nat} {r:XR} (h:rs[k]? =some r):(bD rs)[k]? =some r.ts:=by simp[bD,h]
theorem TF.two {rs:List XR} (w:TF rs): ∀r∈rs,r.ts.length≤2:=fun r hr=>by
 rcases w.kind r hr with⟨_,h⟩|⟨_,t,h⟩|⟨_,t,u,h⟩<;>rw[h]<;>simp
theorem TF.tok {rs:List XR} (w:TF rs):NA (bD rs):=by
 refine⟨by rw[dD];have:=w.zE;omega,fun ts h=> ?_,fun ts h t ht=> ?_⟩
 ·obtain⟨r,hr,rfl⟩:=List.mem_map.1 h
  exact w.two r hr
 ·obtain⟨r,hr,rfl⟩:=List.mem_map.1 h
  have:=w.to r hr t ht
  rw[dD]
  omega
theorem TF.nat {rs:List XR} (w:TF rs): ∀ts∈bD rs,∀t∈ts,t.toNat<(bD rs).length:=fun ts h t ht=>by have:=w.tok.to ts h t ht;omega
theorem TF.BY {rs:List XR} (w:TF rs):RowsIn rs:=by
 intro k r pk hr hpk q hq
 rw[w.rows k r hr q hq,Edge.sG w.nat hpk,dD]
theorem F9 {α:Type} {f:α→Nat} : ∀ {l:List α} {x:α},x∈l→f x≤(l.map f).sum
 |y::l,x,h=>by
  rw[List.map_cons,List.sum_cons]
  rcases List.mem_cons.1 h with rfl|h
  ·omega
  ·have:=F9 (f:=f) h;omega
theorem TF.size {rs:List XR} (w:TF rs): ∀r∈rs,r.ps.length≤300∧r.ls.length≤300:=fun r hr=>by
 have h1:=F9 (f:=ov) hr
 have h2:=w.sum
 have h3:ov r=r.ps.length+r.ls.length:=rfl
 omega
theorem sv {α:Type} (f:α→Nat): ∀(l:List α) (i:Nat) (x y:α),l[i]? =some x→((l.set i y).map f).sum+f x=(l.map f).sum+f y
 |a::l,0,x,y,h=>by
  simp at h;subst h
  simp only[List.set_cons_zero,List.map_cons,List.sum_cons];omega
 |a::l,i+1,x,y,h=>by
  have:=sv f l i x y (by simpa using h)
  simp only[List.set_cons_succ,List.map_cons,List.sum_cons];omega
theorem D4 {α:Type} (f:α→Nat) {l:List α} {i j:Nat} {x y x' y':α} (hi:l[i]? =some x) (hj:l[j]? =some y) (hne:i≠j) (he:f x'+f y'=f x+f y):(((l.set i x').set j y').map f).sum=(l.map f).sum:=by
 have h1:=sv f l i x x' hi
 have h2:=sv f (l.set i x') j y y' (by rw[List.getElem?_set,if_neg hne];exact hj)
 omega
theorem vU {rs' rs:List XR} (S:kH rs' rs) {β:Type} (f:XR→β) (hf: ∀(r:XR) (qs:List (Int×SV)),qs.length=r.ps.length→f { r with ps:=qs } =f r):rs'.map f=rs.map f:=by
 refine List.ext_getElem? fun i=> ?_
 rw[List.getElem?_map,List.getElem?_map]
 rcases Nat.lt_or_ge i rs.length with hi|hi
 ·obtain⟨r,hr⟩: ∃r,rs[i]? =some r:=⟨_,aQ hi⟩
  obtain⟨r',hr'⟩: ∃r,rs'[i]? =some r:=⟨_,aQ (by rw[S.1];exact hi)⟩
  obtain⟨e,sl⟩:=S.2 i r' r hr' hr
  rw[hr,hr',e]
  simp only[Option.map_some]
  rw[hf r r'.ps sl.1]
 ·rw[List.getElem?_eq_none hi,List.getElem?_eq_none (by rw[S.1];exact hi)]
def dR:XR:=⟨eg,eg,eg,1,(false,0),[],[],[]⟩
def jH (rb rt:XR) (L:SV):XR:= { rb with L:=L,ls:=rb.ls++rt.ls,kind:=rt.kind,on:=rt.on,T:=rt.T,ts:=rt.ts }
structure vL (rs:List XR) (b to:Nat) (rb rt:XR):Prop where
 w:TF rs
 hb:rs[b]? =some rb
 ht:rs[to]? =some rt
 ne:to≠b
 h0:to≠0
 kind:rb.kind=2
 ts:rb.ts=[(to:Int)]
 LQ:rt.ps=[]
 one:(Edge.rowOf (bD rs) to rs.length).length≤1
def jumps (rs:List XR):Nat:=(rs.map fun r=>if r.kind=2 then 1 else 0).sum
section
variable {rs rs':List XR} {b to:Nat} {rb rt rb':XR} {L:SV}
theorem EU (rs:List XR) (b to:Nat) (x:XR) (t:List Int) (hx:x.ts=t):bD ((rs.set b x).set to dR)=Edge.pH (bD rs) b to t:=by
 unfold bD Edge.pH
 rw[List.map_set,List.map_set,hx]
 rfl
theorem I5 (c:vL rs b to rb rt) (S:kH rs' rs) (hb':rs'[b]? =some rb'):TF ((rs'.set b (jH rb' rt L)).set to dR):=by
 have w:=c.w
 have hbl:=(bY.mp c.hb).1
 have htl:=(bY.mp c.ht).1
 have hts:bD rs'=bD rs:=vU S (·.ts) (fun _ _ _=>rfl)
 obtain⟨eb,sb⟩:=S.2 b rb' rb hb' c.hb
 obtain⟨rt',ht'⟩: ∃r,rs'[to]? =some r:=⟨_,aQ (by rw[S.1];exact htl)⟩
 obtain⟨et,st⟩:=S.2 to rt' rt ht' c.ht
 have hT:bD ((rs'.set b (jH rb' rt L)).set to dR)=Edge.pH (bD rs) b to rt.ts:=by rw[EU rs' b to (jH rb' rt L) rt.ts rfl,hts]
 have hlen:((rs'.set b (jH rb' rt L)).set to dR).length=rs.length:=by simp[S.1]
 have hbT:(bD rs)[b]? =some [(to:Int)]:=by rw[qx c.hb,c.ts]
 have htT:=qx c.ht
 have hone:(Edge.rowOf (bD rs) to (bD rs).length).length≤1:=by rw[dD];exact c.one
 have ro: ∀k,k≠to→(Edge.rowOf (Edge.pH (bD rs) b to rt.ts) k rs.length).length=(Edge.rowOf (bD rs) k rs.length).length:=fun k hk=>by
  have:=Edge.Ho hbT htT c.ne hk
  rw[dD] at this
  exact this
 
 have at': ∀(k:Nat) (x:XR),((rs'.set b (jH rb' rt L)).set to dR)[k]? =some x→(k=to∧x=dR)∨(k≠to∧k=b∧x=jH rb' rt L)∨(k≠to∧k≠b∧ ∃r,rs[k]? =some r∧x= { r with ps:=x.ps } ∧ko x.ps r.ps):=by
  intro k x hx
  rw[List.getElem?_set] at hx
  by_cases e1:to=k
  ·subst e1
   rw[if_pos rfl,if_pos (by simp[S.1];exact htl)] at hx
   exact .inl ⟨rfl,(Option.some.inj hx).symm⟩
  ·rw[if_neg e1,List.getElem?_set] at hx
   by_cases e2:b=k
   ·subst e2
    rw[if_pos rfl,if_pos (by rw[S.1];exact hbl)] at hx
    exact .inr (.inl ⟨Ne.symm e1,rfl,(Option.some.inj hx).symm⟩)
   ·rw[if_neg e2] at hx
    have hk:k<rs.length:=by rw[←S.1];exact(bY.mp hx).1
    obtain⟨r,hr⟩: ∃r,rs[k]? =some r:=⟨_,aQ hk⟩
    obtain⟨e,s⟩:=S.2 k x r hx hr
    exact .inr (.inr ⟨Ne.symm e1,Ne.symm e2,r,hr,e,s⟩)
 have mem': ∀x,x∈((rs'.set b (jH rb' rt L)).set to dR)→x=dR∨x=jH rb' rt L∨ ∃r∈rs,x= { r with ps:=x.ps } ∧ko x.ps r.ps:=by
  intro x hx
  obtain⟨k,hk⟩:=pM hx
  rcases at' k x hk with⟨_,e⟩|⟨_,_,e⟩|⟨_,_,r,hr,e,s⟩
  ·exact .inl e
  ·exact .inr (.inl e)
  ·exact .inr (.inr ⟨r,di hr,e,s⟩)
 have mt:=di c.ht
 have mb:=di c.hb
 refine⟨by rw[hlen];exact w.n1,by rw[hlen];exact w.zE,fun x hx=> ?_,fun x hx t ht=> ?_,fun k x hx q hq=> ?_,?_,fun x hx y hy=> ?_,fun k x hx=> ?_⟩
 ·rcases mem' x hx with rfl|rfl|⟨r,hr,e,_⟩
  ·exact .inl ⟨rfl,rfl⟩
  ·exact w.kind rt mt
  ·rw[e];exact w.kind r hr
 ·rw[hlen]
  rcases mem' x hx with rfl|rfl|⟨r,hr,e,_⟩
  ·exact absurd ht (List.not_mem_nil)
  ·exact w.to rt mt t ht
  ·rw[e] at ht;exact w.to r hr t ht
 ·rw[hT,hlen]
  rcases at' k x hx with⟨_,rfl⟩|⟨hk,rfl,rfl⟩|⟨hk,_,r,hr,_,s⟩
  ·exact absurd hq (List.not_mem_nil)
  ·rw[ro _ hk]
   have hq':q∈rb'.ps:=hq
   obtain⟨m,hm⟩:=pM hq'
   obtain⟨p,hp⟩: ∃p,rb.ps[m]? =some p:=⟨_,aQ (by rw[←sb.1];exact(bY.mp hm).1)⟩
   rw[(sb.2 m q p hm hp).2]
   exact w.rows _ rb c.hb p (di hp)
  ·rw[ro _ hk]
   obtain⟨m,hm⟩:=pM hq
   obtain⟨p,hp⟩: ∃p,r.ps[m]? =some p:=⟨_,aQ (by rw[←s.1];exact(bY.mp hm).1)⟩
   rw[(s.2 m q p hm hp).2]
   exact w.rows _ r hr p (di hp)
 ·have e1:=D4 ov (x':=jH rb' rt L) (y':=dR) hb' ht' (Ne.symm c.ne) (by
   rw[et]
   simp only[ov,jH,dR,List.length_append,List.length_nil]
   rw[st.1,c.LQ,eb]
   simp only[List.length_nil]
   omega)
  rw[e1,vU S ov (fun r qs h=>by simp only[ov,h])]
  exact w.sum
 ·rcases mem' x hx with rfl|rfl|⟨r,hr,e,_⟩
  ·exact absurd hy (List.not_mem_nil)
  ·simp only[jH,List.mem_append] at hy
   rcases hy with h|h
   ·rw[eb] at h;exact w.al rb mb y h
   ·exact w.al rt mt y h
  ·rw[e] at hy;exact w.al r hr y hy
 ·rw[hT]
  rcases at' k x hx with⟨_,rfl⟩|⟨hk,rfl,rfl⟩|⟨hk,_,r,hr,e,s⟩
  ·exact .inr ⟨rfl,rfl,rfl⟩
  ·rcases w.seen _ rb c.hb with h|⟨h,_⟩
   ·exact .inl (Edge.xI.chain hbT htT c.ne c.h0 hone h hk)
   ·rw[c.kind] at h;cases h
  ·rcases w.seen k r hr with h|⟨h1,h2,h3⟩
   ·exact .inl (Edge.xI.chain hbT htT c.ne c.h0 hone h hk)
   ·refine .inr ⟨by rw[e];exact h1,?_,by rw[e];exact h3⟩
    refine List.eq_nil_of_length_eq_zero ?_
    rw[s.1,h2];rfl
theorem EM (c:vL rs b to rb rt) (S:kH rs' rs) (hb':rs'[b]? =some rb') (words:Int):fC words ((rs'.set b (jH rb' rt L)).set to dR)=fC words rs:=by
 have htl:=(bY.mp c.ht).1
 obtain⟨eb,sb⟩:=S.2 b rb' rb hb' c.hb
 obtain⟨rt',ht'⟩: ∃r,rs'[to]? =some r:=⟨_,aQ (by rw[S.1];exact htl)⟩
 obtain⟨et,st⟩:=S.2 to rt' rt ht' c.ht
 unfold fC
 rw[D4 (fun r=>jD words r.ls) (x':=jH rb' rt L) (y':=dR) hb' ht' (Ne.symm c.ne) ?_,vU S (fun r=>jD words r.ls) (fun _ _ _=>rfl)]
 rw[et]
 simp only[jH,dR,jD,List.filter_append,List.length_append,List.filter_nil,List.length_nil]
 omega
theorem Du (c:vL rs b to rb rt) (S:kH rs' rs) (hb':rs'[b]? =some rb'):jumps ((rs'.set b (jH rb' rt L)).set to dR)<jumps rs:=by
 have htl:=(bY.mp c.ht).1
 have hbl:=(bY.mp c.hb).1
 obtain⟨eb,sb⟩:=S.2 b rb' rb hb' c.hb
 obtain⟨rt',ht'⟩: ∃r,rs'[to]? =some r:=⟨_,aQ (by rw[S.1];exact htl)⟩
 obtain⟨et,st⟩:=S.2 to rt' rt ht' c.ht
 have e0:jumps rs'=jumps rs:=by unfold jumps;rw[vU S (fun r=>if r.kind=2 then 1 else 0) (fun _ _ _=>rfl)]
 have h1:=sv (fun r:XR=>if r.kind=2 then 1 else 0) rs' b rb' (jH rb' rt L) hb'
 have h2:=sv (fun r:XR=>if r.kind=2 then 1 else 0) (rs'.set b (jH rb' rt L)) to rt' dR (by rw[List.getElem?_set,if_neg (Ne.symm c.ne)];exact ht')
 have k1:rb'.kind=2:=by rw[eb];exact c.kind
 have k2:(jH rb' rt L).kind=rt'.kind:=by rw[et];rfl
 have k3:dR.kind=1:=rfl
 simp only[k1,k2,k3] at h1 h2
 unfold jumps at e0 ⊢
 simp only[if_true,show ¬((1:Int)=2) by decide,if_false] at h1 h2
 omega
end
section
variable {h h':ae} {n0 ai:Nat} {κ κ' cap:Nat→Nat} {rs:List XR}
theorem FI {f:XR→SV} {xs:List XR} (d: ∀(i j:Nat) (ri rj:XR) (b:Nat),rs[i]? =some ri→rs[j]? =some rj→i≠j→av (f ri).v b→ ¬av (f rj).v b) (g:Nat→Nat)
  (hg: ∀(i:Nat) (x:XR),xs[i]? =some x→(f x).a=none∨ ∃r,rs[g i]? =some r∧f r=f x) (inj: ∀(i j:Nat) (x y:XR),xs[i]? =some x→xs[j]? =some y→i≠j→g i=g j→(f x).a=none∨(f y).a=none):
  ∀(i j:Nat) (ri rj:XR) (b:Nat),xs[i]? =some ri→xs[j]? =some rj→i≠j→av (f ri).v b→ ¬av (f rj).v b:=by
 intro i j x y b hx hy hn hbx hby
 rcases hg i x hx with h1|⟨r1,h1,e1⟩
 ·exact fz h1 hbx
 rcases hg j y hy with h2|⟨r2,h2,e2⟩
 ·exact fz h2 hby
 by_cases e:g i=g j
 ·rcases inj i j x y hx hy hn e with h|h
  ·exact fz h hbx
  ·exact fz h hby
 ·exact d (g i) (g j) r1 r2 b h1 h2 e (by rw[e1];exact hbx) (by rw[e2];exact hby)
theorem cy.OH (w:cy h n0 ai κ cap rs) (ok:bh h) {i:Nat} {r:XR} (hr:rs[i]? =some r) (g:ab (av r.L.v) h h') {L':SV} {ls':List XI} (hL:eJ me h' L' ls') (ext: ∀b,κ b≠0→κ' b=κ b) (e1: ∀b,κ' b=1→κ b=1) (hk: ∀b,av L'.v b→κ' b=4)
  (hd: ∀(j:Nat) (x:XR),rs[j]? =some x→i≠j→ ∀b,av L'.v b→ ¬av x.L.v b) (new: ∀b,κ' b≠0→n0≤b∧b<h'.next) (hls: ∀x∈ls',x.dst<ai∧gO ai x.a∧gO ai x.b∧VA κ cap x.args):
  cy h' n0 ai κ' cap (rs.set i { r with L:=L',ls:=ls' }):=by
 have hi:=(bY.mp hr).1
 have R:=w.r i r hr
 have ext2: ∀b,κ b≠0→κ' b=κ b∧cap b=cap b:=fun b hb=>⟨ext b hb,rfl⟩
 have ext1: ∀b,κ b=1→κ' b=1∧cap b=cap b:=fun b hb=>⟨by rw[ext b (by omega),hb],rfl⟩
 refine⟨fun j x hx=> ?_,eM (f:=(·.P)) hr w.dP rfl,?_,eM (f:=(·.T)) hr w.dT rfl,fun b hb=>(w.V.grow ok g (fun b hb=>by have:=R.kL b hb;omega)) b (e1 b hb),new⟩
 ·rw[List.getElem?_set] at hx
  by_cases e1:i=j
  ·rw[if_pos e1,if_pos hi] at hx
   cases hx
   have R':=R.congr ext2
   exact⟨R.P.grow ok g (fun b hb hs=>by have:=R.kL b hs;have:=R.kP b hb;omega),hL,R.T.grow ok g (fun b hb hs=>by have:=R.kL b hs;have:=R.kT b hb;omega),R'.kP,hk,R'.kT,R'.ps,fun x hx=>⟨(hls x hx).1,(hls x hx).2.1,(hls x hx).2.2.1,(hls x hx).2.2.2.congr ext1⟩,R.on⟩
  ·rw[if_neg e1] at hx
   have Rx:=w.r j x hx
   exact(Rx.grow ok g (fun b hb=>⟨fun h=>by have:=R.kL b hb;have:=Rx.kP b h;omega,w.dL i j r x b hr hx e1 hb,fun h=>by have:=R.kL b hb;have:=Rx.kT b h;omega⟩)).congr ext2
 ·intro i' j ri rj b h1 h2 hn hb hb2
  rw[List.getElem?_set] at h1 h2
  by_cases e1:i=i'
  ·rw[if_pos e1,if_pos hi] at h1;cases h1
   rw[if_neg (by omega)] at h2
   exact hd j rj h2 (by omega) b hb hb2
  ·rw[if_neg e1] at h1
   by_cases e2:i=j
   ·rw[if_pos e2,if_pos hi] at h2;cases h2
    exact hd i' ri h1 e1 b hb2 hb
   ·rw[if_neg e2] at h2
    exact w.dL i' j ri rj b h1 h2 hn hb hb2
theorem cy.Qq (w:cy h n0 ai κ cap rs) (ok:bh h) (hn0:n0≤h.next) {i:Nat} {r:XR} (hr:rs[i]? =some r) (g:ab (av r.L.v) h h') {L':SV} {ls':List XI} (hL:eJ me h' L' ls') (hb: ∀b,av L'.v b→av r.L.v b∨b=h.next) (hls: ∀x∈ls',x.dst<ai∧gO ai x.a∧gO ai x.b∧VA κ cap x.args):
  ∃κ':Nat→Nat,cy h' n0 ai κ' cap (rs.set i { r with L:=L',ls:=ls' })∧(∀b,b<h.next→κ' b=κ b)∧(∀b,κ' b=2→κ b=2):=by
 have R:=w.r i r hr
 have κn:κ h.next=0:=by
  have hw:=w.new h.next
  rcases Nat.eq_zero_or_pos (κ h.next) with h1|h1
  ·exact h1
  ·have:=(hw (by omega)).2;omega
 by_cases e:av L'.v h.next
 ·obtain⟨κ',hκ1,hκ2⟩: ∃κ':Nat→Nat,κ' h.next=4∧ ∀b,b≠h.next→κ' b=κ b:=⟨fun b=>if b=h.next then 4 else κ b,if_pos rfl,fun b hb=>if_neg hb⟩
  have only: ∀b,av L'.v b→b=h.next:=by
   intro b hb
   obtain⟨_,_,_,e1⟩:=hb
   obtain⟨_,_,_,e2⟩:=e
   rw[e1] at e2
   simp at e2
   exact e2.1.1
  have hlt:=hL.bl g.ok e
  refine⟨κ',w.OH ok hr g hL (fun b hb=>hκ2 b (fun e=>hb (by rw[e];exact κn))) (fun b hb=> ?_) (fun b hb=>by rw[only b hb];exact hκ1) (fun j x hx _ b hb hb2=>by
   have:=(w.r j x hx).kL b hb2
   rw[only b hb] at this
   omega) (fun b hb=> ?_) hls,fun b hb=>hκ2 b (by omega),fun b hb=> ?_⟩
  ·by_cases e1:b=h.next
   ·rw[e1,hκ1] at hb;omega
   ·rw[hκ2 b e1] at hb;exact hb
  ·by_cases e1:b=h.next
   ·rw[e1];exact⟨hn0,hlt⟩
   ·rw[hκ2 b e1] at hb
    have:=w.new b hb;have:=g.next;omega
  ·by_cases e1:b=h.next
   ·rw[e1,hκ1] at hb;omega
   ·rw[hκ2 b e1] at hb;exact hb
 ·have sub: ∀b,av L'.v b→av r.L.v b:=fun b h1=>(hb b h1).resolve_right (fun e1=>e (e1▸h1))
  exact⟨κ,w.OH ok hr g hL (fun _ _=>rfl) (fun _ h=>h) (fun b hb=>R.kL b (sub b hb)) (fun j x hx hn b hb=>w.dL i j r x b hr hx hn (sub b hb)) (fun b hb=>by have:=w.new b hb;have:=g.next;omega) hls,fun _ _=>rfl,fun _ h=>h⟩
theorem cy.Oa (w:cy h n0 ai κ cap rs) {b to:Nat} {rb rt:XR} (hb:rs[b]? =some rb) (ht:rs[to]? =some rt) (hne:b≠to) (k:Int):cy h n0 ai κ cap ((rs.set b { rb with kind:=k,on:=rt.on,T:=rt.T,ts:=rt.ts }).set to dR):=by
 have hbl:=(bY.mp hb).1
 have htl:=(bY.mp ht).1
 have Rb:=w.r b rb hb
 have Rt:=w.r to rt ht
 have at': ∀(i:Nat) (x:XR),((rs.set b { rb with kind:=k,on:=rt.on,T:=rt.T,ts:=rt.ts }).set to dR)[i]? =some x→(i=to∧x=dR)∨(i≠to∧i=b∧x= { rb with kind:=k,on:=rt.on,T:=rt.T,ts:=rt.ts })∨(i≠to∧i≠b∧rs[i]? =some x):=by
  intro i x hx
  rw[List.getElem?_set] at hx
  by_cases e1:to=i
  ·subst e1
   rw[if_pos rfl,if_pos (by simpa using htl)] at hx
   exact .inl ⟨rfl,(Option.some.inj hx).symm⟩
  ·rw[if_neg e1,List.getElem?_set] at hx
   by_cases e2:b=i
   ·subst e2
    rw[if_pos rfl,if_pos hbl] at hx
    exact .inr (.inl ⟨Ne.symm e1,rfl,(Option.some.inj hx).symm⟩)
   ·rw[if_neg e2] at hx
    exact .inr (.inr ⟨Ne.symm e1,Ne.symm e2,hx⟩)
 have idg: ∀(f:XR→SV),f dR=eg→f { rb with kind:=k,on:=rt.on,T:=rt.T,ts:=rt.ts } =f rb→ ∀(i:Nat) (x:XR),((rs.set b { rb with kind:=k,on:=rt.on,T:=rt.T,ts:=rt.ts }).set to dR)[i]? =some x→(f x).a=none∨ ∃r,rs[id i]? =some r∧f r=f x:=by
  intro f e1 e2 i x hx
  rcases at' i x hx with⟨_,rfl⟩|⟨_,rfl,rfl⟩|⟨_,_,h⟩
  ·rw[e1];exact .inl rfl
  ·exact .inr ⟨rb,hb,e2.symm⟩
  ·exact .inr ⟨x,h,rfl⟩
 refine⟨fun i x hx=> ?_,FI (f:=(·.P)) w.dP id (idg (·.P) rfl rfl) (fun i j x y _ _ h1 h2=>absurd h2 h1),FI (f:=(·.L)) w.dL id (idg (·.L) rfl rfl) (fun i j x y _ _ h1 h2=>absurd h2 h1),
  FI (f:=(·.T)) w.dT (fun i=>if i=b then to else i) (fun i x hx=> ?_) (fun i j x y hx hy hn he=> ?_),w.V,w.new⟩
 ·rcases at' i x hx with⟨_,rfl⟩|⟨_,rfl,rfl⟩|⟨_,_,h⟩
  ·exact⟨eJ.nil _ _,eJ.nil _ _,eJ.nil _ _,fun b hb=>(fz rfl hb).elim,fun b hb=>(fz rfl hb).elim,fun b hb=>(fz rfl hb).elim,fun p hp=>(List.not_mem_nil hp).elim,fun p hp=>(List.not_mem_nil hp).elim,fun h=>by cases h⟩
  ·exact⟨Rb.P,Rb.L,Rt.T,Rb.kP,Rb.kL,Rt.kT,Rb.ps,Rb.ls,Rt.on⟩
  ·exact w.r i x h
 ·rcases at' i x hx with⟨_,rfl⟩|⟨_,rfl,rfl⟩|⟨_,hn,h⟩
  ·exact .inl rfl
  ·exact .inr ⟨rt,by simp only[if_true];exact ht,rfl⟩
  ·exact .inr ⟨x,by simp only[if_neg hn];exact h,rfl⟩
 ·rcases at' i x hx with⟨_,rfl⟩|⟨h1,h2,h3⟩|⟨h1,h2,h3⟩
  ·exact .inl rfl
  ·rcases at' j y hy with⟨_,rfl⟩|⟨k1,k2,k3⟩|⟨k1,k2,k3⟩
   ·exact .inr rfl
   ·exact absurd (h2.trans k2.symm) hn
   ·rw[if_pos h2,if_neg k2] at he
    exact absurd he.symm k1
  ·rcases at' j y hy with⟨_,rfl⟩|⟨k1,k2,k3⟩|⟨k1,k2,k3⟩
   ·exact .inr rfl
   ·rw[if_neg h2,if_pos k2] at he
    exact absurd he h1
   ·rw[if_neg h2,if_neg k2] at he
    exact absurd he hn
end
def Fc:aj:=(.draw [D_ (m_ 54 4),D_ (m_ 55 4),(o_ 56 (.bj (t_ 55)),[]),D_ (f_ 57 1 56),D_ (l_ 58 57),D_ (f_ 59 1 6),D_ (l_ 60 59),(o_ 61 (.append [(.int .i64 0),(.int .i64 0),(.bool false),(.int .i64 0),(.bool false),(.int .i64 0),(.int .i64 0),(.slice none 0 0)] 80 false (t_ 58) (t_ 60)),[]),(o_ 62 (.bj (t_ 54)),[]),D_ (f_ 63 1 62),D_ (s_ 1 63 61)])
def B0:aj:=(.seq (.ops [m_ 64 5,m_ 65 3,F_ 66 73 [t_ 1,t_ 64,t_ 65]]) (.seq (.ops [m_ 67 4,f_ 68 2 6,L_ 69 4 68,o_ 70 (.bj (t_ 67)),f_ 71 2 70,s_ 4 71 69]) (.ops [f_ 72 3 1,l_ 73 72,m_ 74 5,o_ 75 (.build [(.int .i64 0),(.bool false),(.int .i64 0),(.slice none 0 0)] [(0,(1,(i_ 1)))]),o_ 76 (.build [(.slice none 0 0),(.slice none 0 0),(.int .i64 0),(.bool false),(.int .i64 0),(.slice none 0 0)] [(2,(4,(t_ 75)))]),a_ 77 6 73 74,s_ 6 77 76])))
theorem G_:jZ=(.seq (.seq (.ops [m_ 18 4,o_ 19 (.bj (t_ 18)),f_ 20 2 19,f_ 21 0 20,l_ 22 21,o_ 23 (.bin .eql [1] (t_ 22) (i_ 2))]) (.cond (t_ 23) .skip (.exit 2))) (.block 3 (.seq (.ops [m_ 24 4,o_ 25 (.bj (t_ 24)),f_ 26 2 25,f_ 27 3 26,l_ 28 27,o_ 29 (.cw none 1 (t_ 28) (i_ 0)),l_ 30 29,m_ 5 30]) (.seq (.ops [f_ 31 3 1,l_ 32 31,m_ 33 5,a_ 34 6 32 33,L_ 35 6 34,o_ 6 (.alloc [(.slice none 0 0),(.slice none 0 0),(.int .i64 0),(.bool false),(.int .i64 0),(.slice none 0 0)]),s_ 6 6 35]) (.seq (.seq (.ops [m_ 36 5,m_ 37 3,o_ 38 (.bin .eql [1] (t_ 36) (t_ 37)),m_ 39 38,q_ 40 39 false (.bw 0 (t_ 6)),q_ 41 39 false (.load none (t_ 40)),q_ 42 39 false (.nx (t_ 41)),q_ 43 39 false (.bin .gtr [] (t_ 42) (i_ 0)),o_ 44 (.pick (t_ 39) (.const (.bool true)) (t_ 43)),m_ 45 44,q_ 46 45 false (.load (some 4) (t_ 1)),q_ 47 45 false (.call (.func 61) [t_ 46]),q_ 48 45 false (.mv (t_ 5)),q_ 49 45 false (.cw none 1 (t_ 47) (t_ 48)),q_ 50 45 false (.load none (t_ 49)),q_ 51 45 false (.nx (t_ 50)),q_ 52 45 false (.bin .gtr [] (t_ 51) (i_ 1)),o_ 53 (.pick (t_ 45) (.const (.bool true)) (t_ 52))]) (.cond (t_ 53) (.exit 2) .skip)) (.seq Fc B0)))))):=rfl
def ChD:List Nat:=[54,55,56,57,58,59,60,61,62,63]
theorem EG {h:ae} (ok:bh h) {n0 ai:Nat} {κ cap:Nat→Nat} {B:SV} {rs:List XR} (O:ou h n0 ai κ cap B rs) (hn0:n0≤h.next) {X b bB sX:Nat} {rb rt:XR} {to:Nat} (hb:rs[b]? =some rb) (ht:rs[to]? =some rt) (hne:b≠to) (hBa:B.a=some ⟨bB,0,none⟩) (hX:h.tr.get X=some (.aA (fq.enc rt) false 0 sX)) (κX:κ X=0) (hll:rb.ls.length+rt.ls.length<2000000)
  {e:Env} {Q:aO→Env→ae→Prop} (f4:Env.get e 4= .pointer (some ⟨bB,b*6,none⟩)) (f6:Env.get e 6= .pointer (some ⟨X,0,none⟩))
  (C: ∀e' h' κ' L',aC ChD e e'→ab (fun x=>κ x≠0) h h'→(∀x,x<h.next→κ' x=κ x)→ou h' n0 ai κ' cap B (rs.set b { rb with L:=L',ls:=rb.ls++rt.ls })→Q .normal e' h'):az FF Fc e h Q:=by
 have Rb:=O.os.r b rb hb
 have Rt:=O.os.r to rt ht
 obtain⟨bB',cs,oB,sB,hBa',hBb,hjB,hfit,hrd,hset⟩:=O.A.el hb
 rw[hBa] at hBa';cases hBa'
 have κB:κ bB=2:=O.kB bB (bN hBa)
 have rd0:=hrd 1 1 (by decide)
 simp[-ag] at rd0
 have hX2:=hX
 simp only[nB] at hX2
 simp at hX2
 have oX:=ok.bl hX
 unfold Fc
 simp[f4,f6,hX2,rd0,-ag,aB,aw hX2,oX]
 have ok1:=(bc ok).ok
 have O1:=O.aW ok (bc ok)
 have gt:ab aG h (tick h):=bc ok
 generalize tick h=h1 at ok1 O1 gt
 have Rb1:=O1.os.r b rb hb
 have Rt1:=O1.os.r to rt ht
 obtain⟨L',h3,ea,hL3,g3,hb3,_⟩:=yr (E:=me) (bytes:=80) (z:=[.int .i64 0,.int .i64 0,.bool false,.int .i64 0,.bool false,.int .i64 0,.int .i64 0,.slice none 0 0]) ok1 rfl Rb1.L Rt1.L.sl hll (by decide)
 obtain⟨κ',O3,hlow,h2⟩:=O1.os.Qq ok1 (by have:=gt.next;omega) hb g3 hL3 hb3 (fun x hx=>by
  rcases List.mem_append.1 hx with h|h
  ·exact Rb1.ls x h
  ·exact Rt1.ls x h)
 have A3:=O1.A.grow ok1 g3 (fun x hx hs=>by have:=O1.kB x hx;have:=Rb1.kL x hs;omega)
 obtain⟨bB',cs3,oB3,sB3,hBa',hBb3,hjB3,hfit3,hrd3,hset3⟩:=A3.el hb
 rw[hBa] at hBa';cases hBa'
 have hf1:=hfit3 1 1 (by decide)
 simp at hf1
 refine yV ea ?_
 simp[f4,hBb3,hf1]
 have gw:ab (· =bB) h3 (put h3 bB (b*6+1) cs3 [.slice L'.a L'.l L'.c] oB3):=aJ g3.ok hBb3
 have A4:=hset3 { rb with L:=L',ls:=rb.ls++rt.ls } 1 [.slice L'.a L'.l L'.c] (by simp) rfl (put h3 bB (b*6+1) cs3 [.slice L'.a L'.l L'.c] oB3) ⟨_,ax _ _ _ _ _ _⟩
 have hlB:bB<h1.next:=ok1.wf _ _ (gt.get ok hBb (fun h=>h))
 have κB':κ' bB=2:=by rw[hlow bB hlB];exact κB
 refine C _ _ κ' L' ?_ ?_ (fun x hx=>hlow x (by have:=gt.next;omega)) ⟨O3.grow g3.ok gw (fun x e=> .inr (by rw[e];exact κB')),A4,fun x hx=>by rw[pw hBa hx];exact κB'⟩
 ·repeat (refine aC.set (by decide) ?_)
  exact aC.refl _ _
 ·exact(gt.aW.trans (g3.bM (fun x _ hs=>by have:=Rb1.kL x hs;omega))).trans (gw.bM (fun x _ e=>by rw[e];omega))
def ChA:List Nat:=[64,65,66,67,68,69,70,71,72,73,74,75,76,77]
structure M5 (n0 ai:Nat) (cap:Nat→Nat) (B:SV) (rs:List XR) (κ':Nat→Nat) (rs':List XR) (h':ae):Prop where
 O:ou h' n0 ai κ' cap B rs'
 tf:TF rs'
 len:rs'.length=rs.length
 vG: ∀words,fC words rs'=fC words rs
theorem DE {h:ae} (ok:bh h) {n0 ai:Nat} {κ cap:Nat→Nat} {B L:SV} {rs:List XR} (hn0:n0≤h.next) {X b bB sX F sF:Nat} {rb rt:XR} {to:Nat} (c:vL rs b to rb rt) (O:ou h n0 ai κ cap B (rs.set b { rb with L:=L,ls:=rb.ls++rt.ls })) (hBa:B.a=some ⟨bB,0,none⟩) (hX:h.tr.get X=some (.aA (fq.enc rt) false 0 sX)) (κX:κ X=0)
  {name:ByteArray} {p rg:Int} (hF:h.tr.get F=some (.aA (ak name p rg B) false 0 sF)) (κF:κ F=0)
  {e:Env} {Q:aO→Env→ae→Prop} (f1:Env.get e 1= .pointer (some ⟨F,0,none⟩)) (f3:Env.get e 3= .int .i64 b) (f4:Env.get e 4= .pointer (some ⟨bB,b*6,none⟩)) (f5:Env.get e 5= .int .i64 to) (f6:Env.get e 6= .pointer (some ⟨X,0,none⟩))
  (C: ∀e' h' rs',aC ChA e e'→ab (fun x=>κ x≠0) h h'→M5 n0 ai cap B rs κ rs' h'→jumps rs'<jumps rs→Q .normal e' h'):az FF B0 e h Q:=by
 have hbl:=(bY.mp c.hb).1
 have htl:=(bY.mp c.ht).1
 obtain⟨rs1,er1⟩: ∃rs1,rs1=rs.set b { rb with L:=L,ls:=rb.ls++rt.ls } :=⟨_,rfl⟩
 rw[←er1] at O
 have ht1:rs1[to]? =some rt:=by rw[er1,List.getElem?_set,if_neg (Ne.symm c.ne)];exact c.ht
 have hb1:rs1[b]? =some { rb with L:=L,ls:=rb.ls++rt.ls } :=by rw[er1,List.getElem?_set,if_pos rfl,if_pos hbl]
 have hT1:bD rs1=bD rs:=by
  rw[er1]
  unfold bD
  rw[List.map_set]
  refine List.ext_getElem? fun m=> ?_
  rw[List.getElem?_set]
  by_cases e:b=m
  ·subst e;rw[if_pos rfl,if_pos (by simpa using hbl),List.getElem?_map,c.hb];rfl
  ·rw[if_neg e]
 have cases1: ∀(k:Nat) (x:XR),rs1[k]? =some x→ ∃y,rs[k]? =some y∧x.ps=y.ps:=by
  intro k x hx
  rw[er1,List.getElem?_set] at hx
  by_cases e:b=k
  ·subst e;rw[if_pos rfl,if_pos hbl] at hx;cases hx;exact⟨rb,c.hb,rfl⟩
  ·rw[if_neg e] at hx;exact⟨x,hx,rfl⟩
 unfold B0
 simp[f1,f3,f5]
 have rows1:RowsIn rs1:=by
  intro k r pk hr hpk q hq
  obtain⟨y,hy,e⟩:=cases1 k r hr
  rw[hT1] at hpk
  rw[e] at hq
  exact c.w.BY k y pk hy hpk q hq
 have pl1: ∀r∈rs1,r.ps.length<1000000:=by
  intro r hr
  obtain⟨k,hk⟩:=pM hr
  obtain⟨y,hy,e⟩:=cases1 k r hk
  rw[e]
  have:=(c.w.size y (di hy)).1
  omega
 have Rn:=DR ok O hn0 hF κF (bl:=to) (now:=b) ht1 (by rw[hT1];exact c.w.tok) rows1 pl1
 refine aD.call (V:=OE n0 ai κ cap B rs1 h) (by simpa [f1] using Rn) ?_
 rintro _ h2 ⟨g2,rs2,O2,S2⟩
 have k1: ∀x,(κ x=1∨κ x=3)→κ x≠0:=fun x h=>by omega
 have hX2:=g2.get ok hX (by omega)
 have hF2:=g2.get ok hF (by omega)
 obtain⟨rb2,hrb2⟩: ∃r,rs2[b]? =some r:=⟨_,aQ (by rw[S2.1,er1];simpa using hbl)⟩
 obtain⟨rt2,hrt2⟩: ∃r,rs2[to]? =some r:=⟨_,aQ (by rw[S2.1,er1];simpa using htl)⟩
 obtain⟨eb2,sb2⟩:=S2.2 b rb2 _ hrb2 hb1
 obtain⟨et2,st2⟩:=S2.2 to rt2 _ hrt2 ht1
 obtain⟨bB',cs,oB,sB,hBa',hBb,hjB,hfit,hrd,hset⟩:=O2.A.el hrb2
 rw[hBa] at hBa';cases hBa'
 have κB:κ bB=2:=O2.kB bB (bN hBa)
 have hf2:=hfit 2 4 (by decide)
 simp at hf2
 have hX3:=hX2
 simp only[nB] at hX3
 simp at hX3
 have hF3:=hF2
 have hBl:=O2.A.len
 have hl2:rs2.length=rs.length:=by rw[S2.1,er1];simp
 simp[ak] at hF3
 rw[hBa,hBl,hl2] at hF3
 have nFB: ¬F=bB:=fun e=>by rw[e] at κF;omega
 obtain⟨rb3,erb3⟩: ∃r:XR,r= { rb2 with kind:=rt.kind,on:=rt.on,T:=rt.T,ts:=rt.ts } :=⟨_,rfl⟩
 have A3:=hset rb3 2 [.int .i64 rt.kind,.bool rt.on.1,.int .i64 rt.on.2,.slice rt.T.a rt.T.l rt.T.c] (by simp) (by rw[erb3];rfl) (put h2 bB (b*6+2) cs [.int .i64 rt.kind,.bool rt.on.1,.int .i64 rt.on.2,.slice rt.T.a rt.T.l rt.T.c] oB) ⟨_,ax _ _ _ _ _ _⟩
 have ht3:(rs2.set b rb3)[to]? =some rt2:=by rw[List.getElem?_set,if_neg (Ne.symm c.ne)];exact hrt2
 obtain⟨bB',cs3,oB3,sB3,hBa',hBb3,hjB3,hfit3,hrd3,hset3⟩:=A3.el ht3
 rw[hBa] at hBa';cases hBa'
 have hf3:=hfit3 0 6 (by decide)
 simp at hf3
 have gw:ab (· =bB) h2 (put h2 bB (b*6+2) cs [.int .i64 rt.kind,.bool rt.on.1,.int .i64 rt.on.2,.slice rt.T.a rt.T.l rt.T.c] oB):=aJ g2.ok hBb
 have hF4:=gw.get g2.ok hF3 nFB
 simp[f4,f6,hX3,hBb,hf2]
 generalize put h2 bB (b*6+2) cs _ oB=h3 at*
 simp[f1,f5,hF4,hBb3,hf3,htl]
 have gw2:ab (· =bB) h3 (put h3 bB (to*6) cs3 [.slice none 0 0,.slice none 0 0,.int .i64 1,.bool false,.int .i64 0,.slice none 0 0] oB3):=aJ gw.ok hBb3
 have A5:=hset3 dR 0 [.slice none 0 0,.slice none 0 0,.int .i64 1,.bool false,.int .i64 0,.slice none 0 0] (by simp) rfl (put h3 bB (to*6) cs3 [.slice none 0 0,.slice none 0 0,.int .i64 1,.bool false,.int .i64 0,.slice none 0 0] oB3) ⟨h3.clock,by simp⟩
 have O5:=((O2.os.Oa hrb2 hrt2 (Ne.symm c.ne) rt.kind).grow g2.ok gw (fun x e=> .inr (by rw[e];exact κB))).grow gw.ok gw2 (fun x e=> .inr (by rw[e];exact κB))
 have e3:({ rb2 with kind:=rt.kind,on:=rt2.on,T:=rt2.T,ts:=rt2.ts } :XR)=rb3:=by rw[erb3,et2]
 rw[e3] at O5
 obtain⟨rb4,erb4⟩: ∃r:XR,r= { rb2 with L:=rb.L,ls:=rb.ls } :=⟨_,rfl⟩
 have hbl2:b<rs2.length:=by omega
 have S4:kH (rs2.set b rb4) rs:=by
  refine⟨by simp[hl2],fun i x y hx hy=> ?_⟩
  rw[List.getElem?_set] at hx
  by_cases e1:b=i
  ·subst e1
   rw[if_pos rfl,if_pos hbl2] at hx
   cases hx
   rw[c.hb] at hy;cases hy
   refine⟨by rw[erb4,eb2],?_⟩
   have:rb4.ps=rb2.ps:=by rw[erb4]
   rw[this]
   exact sb2
  ·rw[if_neg e1] at hx
   exact S2.2 i x y hx (by rw[er1,List.getElem?_set,if_neg e1];exact hy)
 have hb4:(rs2.set b rb4)[b]? =some rb4:=by rw[List.getElem?_set,if_pos rfl,if_pos hbl2]
 have e4:jH rb4 rt L=rb3:=by
  rw[erb3,erb4,eb2]
  rfl
 have e5:((rs2.set b rb4).set b (jH rb4 rt L)).set to dR=(rs2.set b rb3).set to dR:=by rw[List.set_set,e4]
 have T5:=I5 (L:=L) c S4 hb4
 have L5:=EM (L:=L) c S4 hb4
 have J5:=Du (L:=L) c S4 hb4
 rw[e5] at T5 J5
 refine C _ _ ((rs2.set b rb3).set to dR) ?_ ?_ ⟨⟨O5,A5,O2.kB⟩,T5,by simp[hl2],fun words=>by rw[←e5];exact L5 words⟩ J5
 ·repeat (refine aC.set (by decide) ?_)
  exact aC.refl _ _
 ·exact((g2.bM (fun x _ e=>k1 x e)).trans (gw.bM (fun x _ e=>by rw[e];omega))).trans (gw2.bM (fun x _ e=>by rw[e];omega))
def Pq (h0:ae) (κ0:Nat→Nat) (n0 ai:Nat) (cap:Nat→Nat) (B:SV) (rs0:List XR) (b F R bB:Nat) (m:Nat) (e:Env) (h':ae):Prop:=
 ∃(rs:List XR) (κ:Nat→Nat),m=jumps rs∧Env.get e 1= .pointer (some ⟨F,0,none⟩)∧Env.get e 2= .pointer (some ⟨R,0,none⟩)∧Env.get e 3= .int .i64 b∧Env.get e 4= .pointer (some ⟨bB,b*6,none⟩)∧ab (fun x=>κ0 x≠0) h0 h'∧(∀x,x<h0.next→κ x=κ0 x)∧M5 n0 ai cap B rs0 κ rs h'
theorem FE {h0:ae} (ok0:bh h0) {n0 ai:Nat} {κ0 cap:Nat→Nat} {B:SV} {rs0:List XR} (hn0:n0≤h0.next) (O0:ou h0 n0 ai κ0 cap B rs0) (T0:TF rs0) {F R b bB sF:Nat} (hBa:B.a=some ⟨bB,0,none⟩) {name:ByteArray} {p rg:Int} (hF:h0.tr.get F=some (.aA (ak name p rg B) false 0 sF)) (κF:κ0 F=0) (hb:b<rs0.length)
  {e:Env} {Q:aO→Env→ae→Prop} (f1:Env.get e 1= .pointer (some ⟨F,0,none⟩)) (f2:Env.get e 2= .pointer (some ⟨R,0,none⟩)) (f3:Env.get e 3= .int .i64 b) (f4:Env.get e 4= .pointer (some ⟨bB,b*6,none⟩))
  (C: ∀e' h' rs κ,Env.get e' 1= .pointer (some ⟨F,0,none⟩)→Env.get e' 2= .pointer (some ⟨R,0,none⟩)→Env.get e' 3= .int .i64 b→ab (fun x=>κ0 x≠0) h0 h'→(∀x,x<h0.next→κ x=κ0 x)→M5 n0 ai cap B rs0 κ rs h'→Q (.exit 2) e' h'):az FF (.loop jZ) e h0 Q:=by
 refine az.loop (Pq h0 κ0 n0 ai cap B rs0 b F R bB) ?_ (n:=jumps rs0) ⟨rs0,κ0,rfl,f1,f2,f3,f4,.refl ok0,fun _ _=>rfl,⟨O0,T0,rfl,fun _=>rfl⟩⟩
 rintro m e' h' ⟨rs,κ,rfl,q1,q2,q3,q4,g,hlow,P⟩
 have ok':=g.ok
 have O:=P.O
 have w:=P.tf
 have hn:rs.length=rs0.length:=P.len
 obtain⟨rb,hrb⟩: ∃r,rs[b]? =some r:=⟨_,aQ (by omega)⟩
 have hmb:=di hrb
 have Rb:=O.os.r b rb hrb
 obtain⟨bB',cs,oB,sB,hBa',hBb,hjB,hfit,hrd,hset⟩:=O.A.el hrb
 rw[hBa] at hBa';cases hBa'
 have rdk:=hrd 2 1 (by decide)
 have rdT:=hrd 5 1 (by decide)
 simp[-ag] at rdk rdT
 have hF':=g.get ok0 hF (by omega)
 have hF2:=hF'
 have hBl:=O.A.len
 simp[ak] at hF2
 rw[hBa,hBl] at hF2
 have κF':κ F=0:=by rw[hlow F (ok0.wf _ _ hF)];exact κF
 have oF:=ok'.bl hF'
 rw[G_]
 by_cases hk:rb.kind=2
 ·obtain⟨t,hts⟩: ∃t,rb.ts=[t]:=by
   rcases w.kind rb hmb with⟨h,_⟩|⟨_,h⟩|⟨h,_⟩
   ·omega
   ·exact h
   ·omega
  obtain⟨ht1,ht2⟩:=w.to rb hmb t (by rw[hts];simp)
  obtain⟨to,rfl⟩: ∃u:Nat,t=u:=⟨t.toNat,by omega⟩
  have hton:to<rs.length:=by omega
  obtain⟨rt,hrt⟩: ∃r,rs[to]? =some r:=⟨_,aQ hton⟩
  have Rt:=O.os.r to rt hrt
  have hTb:=Rb.T
  rw[hts] at hTb
  obtain⟨bT,csT,oT,sT,hTa,hTb',hjT,_,hrdT,_⟩:=hTb.el (i:=0) (x:=(to:Int)) rfl
  have rt0:=hrdT 0 1 (by decide)
  simp[-ag] at rt0
  have hTl:=hTb.len
  simp at hTl
  obtain⟨_,_,_,_,hBa2,hBb2,_,_,hrd2,_⟩:=O.A.el hrt
  rw[hBa] at hBa2;cases hBa2
  have rd6:=hrd2 0 6 (by decide)
  simp[-ag] at rd6
  have hkb:(rb.kind==2)=true:=by simp[hk]
  rw[hTa,hTl] at rdT
  simp[q1,q3,q4,rdk,hkb,rdT,rt0,hF2,aw hF2,hton,rd6,-ag]
  refine aD.cut (fun h2=>ab aG h' h2∧ ∃s,h2.tr.get h'.next=some (.aA (fq.enc rt) false 0 s)) ?_ ?_
  ·exact⟨(ab.refl ok').var _ _,h'.clock,by simp[aK]⟩
  rintro h2 ⟨g2,sX,hX⟩
  have O2:=O.aW ok' g2
  have hF3:=g2.get ok' hF2 (fun h=>h)
  have hFn:=g2.get ok' hF' (fun h=>h)
  have κX:κ h'.next=0:=by
   have hw:=O.os.new h'.next
   rcases Nat.eq_zero_or_pos (κ h'.next) with h1|h1
   ·exact h1
   ·have:=(hw (by omega)).2;omega
  have hX2:=hX
  simp only[nB] at hX2
  simp at hX2
  have hPl:=Rt.P.len
  have G2:ab (fun x=>κ0 x≠0) h0 h2:=g.trans g2.aW
  have P2:M5 n0 ai cap B rs0 κ rs h2:=⟨O2,w,hn,P.vG⟩
  by_cases e1:to=b
  ·have e2:((to:Int)==(b:Int))=true:=by simp[e1]
   simp[e2]
   exact C _ _ rs κ (by simp[q1]) (by simp[q2]) (by simp[q3]) G2 hlow P2
  have e2:((to:Int)==(b:Int))=false:=by simp;omega
  by_cases e3:0<rt.ps.length
  ·simp[e2,hX2,hPl,e3]
   exact C _ _ rs κ (by simp[q1]) (by simp[q2]) (by simp[q3]) G2 hlow P2
  have hps:rt.ps=[]:=List.eq_nil_of_length_eq_zero (by omega)
  obtain⟨bs,hbs,hV⟩:=O2.view
  have E:=hV.ends w.tok
  have htos:=hV.cT
  have hbl:bs.length=rs.length:=hV.1
  simp[e2,hX2,hPl,hps,q1,hF3]
  have Ah:=ma g2.ok (name:=name) (p:=p) (r:=rg) hbs E
  refine aD.call (V:=fun v h'=>ab aG h2 h'∧ ∃d ws,v= .slice (some ⟨d,0,none⟩) bs.length bs.length∧jx aY h2.next h' d ws (Edge.bm (aX bs))) (by simpa [ak,hBa,hBl] using Ah) ?_
  rintro _ h3 ⟨g3,d,ws,rfl,w3⟩
  rw[htos] at w3
  have htl:(bD rs).length=rs.length:=dD rs
  obtain⟨pk,hpk⟩: ∃pk,(Edge.bm (bD rs))[to]? =some pk:=⟨_,aQ (by rw[Edge.eA,htl];exact hton)⟩
  obtain⟨wk,hwk⟩: ∃wk,ws[to]? =some wk:=⟨_,aQ (by rw[w3.len,Edge.eA,htl];exact hton)⟩
  obtain⟨sd,hd⟩:=w3.aA
  have rw6:=uH hd hwk
  simp[-ag] at rw6
  have hWs:aS aY h3 wk.v pk:=(w3.acc to wk pk hwk hpk).sl
  have hwl:wk.l=pk.length:=by obtain⟨a,cap,e,_⟩:=hWs;simp at e;exact e.2.1
  have hpr:=Edge.sG w.nat hpk
  rw[htl] at hpr
  have hub:to<bs.length:=by omega
  have P3:M5 n0 ai cap B rs0 κ rs h3:=⟨O2.aW g2.ok g3,w,hn,P.vG⟩
  have hX3:=g3.get g2.ok hX (fun h=>h)
  have hF4:=g3.get g2.ok hFn (fun h=>h)
  have G3:=G2.trans g3.aW
  by_cases e4:1<pk.length
  ·have e5:(1:Int)<(pk.length:Int):=by omega
   simp[rw6,hub,hwl,e5,-ag]
   exact C _ _ rs κ (by simp[q1]) (by simp[q2]) (by simp[q3]) G3 hlow P3
  have c:vL rs b to rb rt:=⟨w,hrb,hrt,e1,by omega,hk,hts,hps,by rw[←hpr];omega⟩
  have e5: ¬(1:Int)<(pk.length:Int):=by omega
  simp[rw6,hub,hwl,e5,-ag]
  have s1:=(w.size rb hmb).2
  have s2:=(w.size rt (di hrt)).2
  refine EG g3.ok P3.O (by have:=G3.next;omega) hrb hrt (Ne.symm e1) hBa hX3 κX (by omega) (by simp[q4]) (by simp) ?_
  intro e5 h5 κ5 L5 K5 g5 hlow5 O5
  have lX:h'.next<h3.next:=g3.ok.wf _ _ hX3
  have lF:F<h3.next:=g3.ok.wf _ _ hF4
  have hX5:=g5.get g3.ok hX3 (by omega)
  have hF5:=g5.get g3.ok hF4 (by omega)
  have m1:=K5.at (t:=1) (by decide) (by simp;exact q1)
  have m2:=K5.at (t:=2) (by decide) (by simp;exact q2)
  have m3:=K5.at (t:=3) (by decide) (by simp;exact q3)
  have m4:=K5.at (t:=4) (by decide) (by simp;exact q4)
  have m5:Env.get e5 5= .int .i64 to:=K5.at (t:=5) (by decide) (by simp)
  have m6:Env.get e5 6= .pointer (some ⟨h'.next,0,none⟩):=K5.at (t:=6) (by decide) (by simp)
  simp
  refine DE g5.ok (by have:=G3.next;have:=g5.next;omega) c O5 hBa hX5 (by rw[hlow5 _ lX];exact κX) hF5 (by rw[hlow5 _ lF];exact κF') m1 m3 m4 m5 m6 ?_
  intro e6 h6 rs6 K6 g6 P6 hj
  have G5:ab (fun x=>κ0 x≠0) h0 h5:=G3.trans' g5 (fun _ _ h=>h) (fun x hx h=>by rw[hlow x hx] at h;exact h)
  have G6:ab (fun x=>κ0 x≠0) h0 h6:=G5.trans' g6 (fun _ _ h=>h) (fun x hx h=>by
   have:=G3.next
   rw[hlow5 x (by omega),hlow x hx] at h;exact h)
  simp
  exact⟨jumps rs6,hj,rs6,κ5,rfl,K6.at (by decide) m1,K6.at (by decide) m2,K6.at (by decide) m3,K6.at (by decide) m4,G6,fun x hx=>by
   have:=G3.next
   rw[hlow5 x (by omega),hlow x hx],⟨P6.O,P6.tf,P6.len.trans hn,fun words=>(P6.vG words).trans (P.vG words)⟩⟩
 ·have hkb:(rb.kind==2)=false:=by simp[hk]
  simp[q4,rdk,hkb,-ag]
  exact C _ _ rs κ (by simp[q1]) (by simp[q2]) (by simp[q3]) g hlow P
def Ki (name:ByteArray) (p rg:Int) (n0 ai:Nat) (κ0 cap:Nat→Nat) (B:SV) (rs0:List XR) (h:ae) (v:Value) (h':ae):Prop:=
 ab (fun x=>κ0 x≠0) h h'∧v= .agg ⟨ak name p rg B⟩∧ ∃rs κ,(∀x,x<h.next→κ x=κ0 x)∧M5 n0 ai cap B rs0 κ rs h'
def P5 (h0:ae) (κ0:Nat→Nat) (n0 ai:Nat) (cap:Nat→Nat) (B:SV) (rs0:List XR) (F R:Nat) (m:Nat) (e:Env) (h':ae):Prop:=
 ∃(b:Nat) (rs:List XR) (κ:Nat→Nat),m=rs0.length-b∧b≤rs0.length∧Env.get e 1= .pointer (some ⟨F,0,none⟩)∧Env.get e 2= .pointer (some ⟨R,0,none⟩)∧Env.get e 3= .int .i64 b∧ab (fun x=>κ0 x≠0) h0 h'∧(∀x,x<h0.next→κ x=κ0 x)∧M5 n0 ai cap B rs0 κ rs h'
theorem D6 {h:ae} (ok:bh h) {name:ByteArray} {p rg:Int} {n0 ai:Nat} {κ0 cap:Nat→Nat} {B:SV} {rs0:List XR} (hn0:n0≤h.next) (O0:ou h n0 ai κ0 cap B rs0) (T0:TF rs0):
  aE FF qS [.agg ⟨ak name p rg B⟩] h (Ki name p rg n0 ai κ0 cap B rs0 h):=by
 have zE:=T0.zE
 have hBl:=O0.A.len
 obtain⟨r0,hr0⟩: ∃r,rs0[0]? =some r:=⟨_,aQ T0.n1⟩
 obtain⟨bB,_,_,_,hBa,hBb0,_⟩:=O0.A.el hr0
 have κnew: ∀x,h.next≤x→κ0 x=0:=fun x hx=>by
  have hw:=O0.os.new x
  rcases Nat.eq_zero_or_pos (κ0 x) with h1|h1
  ·exact h1
  ·have:=(hw (by omega)).2;omega
 refine aE.of xA ?_
 unfold qO
 have n2: ¬h.next=h.next+1:=by omega
 simp[ak]
 refine az.cut (fun h1=>ab aG h h1∧(∃s,h1.tr.get h.next=some (.aA (ak name p rg B) false 0 s))∧(∃s,h1.tr.get (h.next+1)=some (.aA [.string ⟨⟨[]⟩⟩,.int .i64 0,.int .i64 0,.slice none 0 0] false 0 s))) ?_ ?_
 ·exact⟨((ab.refl ok).new _ _).new _ _,⟨0,by simp[ak,n2]⟩,⟨0,by simp⟩⟩
 rintro h1 ⟨g1,⟨sF,hF1⟩,⟨sR,hR1⟩⟩
 have ln1:=g1.next
 have lF:=g1.ok.wf _ _ hF1
 have lR:=g1.ok.wf _ _ hR1
 refine az.loop (P5 h1 κ0 n0 ai cap B rs0 h.next (h.next+1)) ?_ (n:=rs0.length) ⟨0,rs0,κ0,rfl,by omega,by simp,by simp,by simp,.refl g1.ok,fun _ _=>rfl,⟨O0.aW ok g1,T0,rfl,fun _=>rfl⟩⟩
 rintro m e' h' ⟨b,rs,κ,rfl,hb,q1,q2,q3,g,hlow,P⟩
 have ok':=g.ok
 have hF':=g.get g1.ok hF1 (fun h1=>h1 (κnew _ (by omega)))
 have hR':=g.get g1.ok hR1 (fun h1=>h1 (κnew _ (by omega)))
 have hF2:=hF'
 have hBl':=P.O.A.len
 have hn:=P.len
 simp[ak] at hF2
 rw[hBa,hBl',hn] at hF2
 unfold oO
 by_cases hbl:b<rs0.length
 ·have wb:=wrap_i64 ((b:Int)+1) (by omega) (by omega)
  simp[q1,q3,hF2,hbl]
  refine FE ok' (κ0:=κ) (by have:=g.next;omega) P.O P.tf (F:=h.next) (R:=h.next+1) (b:=b) hBa hF' (by rw[hlow _ lF];exact κnew _ (by omega)) (by omega) (by simp[q1]) (by simp[q2]) (by simp[q3]) (by simp) ?_
  intro e3 h3 rs3 κ3 k1 k2 k3 g3 hlow3 P3
  simp[k3,wb]
  exact⟨rs0.length-(b+1),by omega,b+1,rs3,κ3,rfl,hbl,by simp[k1],by simp[k2],by simp,g.trans' g3 (fun _ _ h=>h) (fun x hx h=>by rw[hlow x hx] at h;exact h),fun x hx=>by have:=g.next;rw[hlow3 x (by omega),hlow x hx],⟨P3.O,P3.tf,P3.len.trans hn,fun words=>(P3.vG words).trans (P.vG words)⟩⟩
 ·have:b=rs0.length:=by omega
  subst this
  have nR: ¬h.next+1=h.next:=by omega
  simp[q1,q2,q3,hF2,hR',nR]
  have gw:=(ab.refl ok').put (S:=fun x=>x=h.next+1) (off:=0) (vs:=[Value.string name,Value.int IntKind.i64 p,Value.int IntKind.i64 rg,Value.slice (some ⟨bB,0,none⟩) rs0.length B.c]) ⟨_,hR'⟩ (.inr rfl)
  generalize put h' _ _ _ _ _=h6 at gw ⊢
  refine⟨(g1.aW.trans g).trans' gw (fun _ _ h=>h) (fun x hx e=>by omega),?_,rs,κ,fun x hx=>hlow x (by omega),⟨P.O.grow ok' gw (fun x e=>by rw[e,hlow _ lR];exact κnew _ (by omega)),P.tf,P.len,P.vG⟩⟩
  simp[ak,hBa,hBl]
structure KM (rs:List XR) (ord:List Nat):Prop where
 nd:ord.Nodup
 lt: ∀x∈ord,x<rs.length
 Ok:ord[0]? =some 0
 mem: ∀k,k∈ord↔Edge.xI (bD rs) k
theorem Pu {rs:List XR} (w:TF rs):KM rs (Dfs.jM (Edge.qm (bD rs)) rs.length).reverse:=by
 have h0:0<(bD rs).length:=by rw[dD];exact w.n1
 obtain⟨nd,lt,⟨new,e0⟩,_,_⟩:=Dfs.sy (cT:=Edge.qm (bD rs)) h0 (fun b t ht=>by
  obtain⟨ts,u,h1,h2,rfl⟩:=Edge.vt ht
  exact w.nat ts (di h1) u h2)
 have pr:=Edge.Dv h0 w.nat
 rw[dD] at nd lt e0 pr
 refine⟨?_,fun x hx=>lt x (List.mem_reverse.1 hx),by rw[e0];simp,fun k=>by rw[List.mem_reverse];exact pr k⟩
 show List.Pairwise (· ≠ ·) _
 rw[List.pairwise_reverse]
 exact List.Pairwise.imp (fun h=>Ne.symm h) nd
theorem Lh {n:Nat} {ord:List Nat} (nd:ord.Nodup) (lt: ∀x∈ord,x<n) (f:Nat→Nat):(ord.map f).sum=((List.range n).map fun i=>if decide (i∈ord) then f i else 0).sum:=by
 rw[Edge.uv (fun i=>decide (i∈ord))]
 refine Edge.CM ((List.perm_ext_iff_of_nodup nd (List.Pairwise.filter _ List.nodup_range)).2 fun x=> ?_) f
 rw[List.mem_filter,List.mem_range]
 simp only[decide_eq_true_eq]
 exact⟨fun h=>⟨lt x h,h⟩,fun h=>h.2⟩
theorem tq {α:Type} (f:α→Nat) (d:Nat) (l:List α):(List.range l.length).map (fun i=>((l[i]?).map f).getD d)=l.map f:=by
 refine List.ext_getElem? fun i=> ?_
 rw[List.getElem?_map,List.getElem?_map]
 rcases Nat.lt_or_ge i l.length with h|h
 ·rw[List.getElem?_range h,aQ h]
  simp[aQ h]
 ·rw[List.getElem?_eq_none (by simpa using h),List.getElem?_eq_none h];rfl
theorem De {l:List Nat} {f g:Nat→Nat} (h: ∀x∈l,f x≤g x):(l.map f).sum≤(l.map g).sum:=by
 induction l with
 |nil=>exact Nat.le_refl _
 |cons x l ih=>
  rw[List.map_cons,List.map_cons,List.sum_cons,List.sum_cons]
  exact Nat.add_le_add (h x (by simp)) (ih fun y hy=>h y (by simp[hy]))
section
variable {rs rs':List XR} {ord:List Nat} {ats:List Int}
structure vJ (rs:List XR) (ord:List Nat) (ats:List Int) (rs':List XR):Prop where
 len:rs'.length=ord.length
 al:ats.length=rs.length
 at_: ∀i x:Nat,ord[i]? =some x→ats[x]? =some (i:Int)
 no: ∀x,x<rs.length→x∉ord→ats[x]? =some (-1)
 r: ∀(i k:Nat) (a b:XR),ord[i]? =some k→rs[k]? =some a→rs'[i]? =some b→ ∃pk,(Edge.bm (bD rs))[k]? =some pk∧KR ats pk a b
theorem vJ.ts (K:vJ rs ord ats rs') (w:TF rs) (o:KM rs ord) (i k:Nat) (hk:ord[i]? =some k): ∃ts ts',(bD rs)[k]? =some ts∧(bD rs')[i]? =some ts'∧ts'.length=ts.length∧ ∀(j:Nat) (t t':Int),ts[j]? =some t→ts'[j]? =some t'→0≤t'∧ord[t'.toNat]? =some t.toNat:=by
 have hkl:=o.lt k (di hk)
 have hil:=(bY.mp hk).1
 obtain⟨a,ha⟩: ∃a,rs[k]? =some a:=⟨_,aQ hkl⟩
 obtain⟨b,hb⟩: ∃b,rs'[i]? =some b:=⟨_,aQ (by rw[K.len];exact hil)⟩
 obtain⟨pk,_,kr⟩:=K.r i k a b hk ha hb
 refine⟨a.ts,b.ts,qx ha,qx hb,by rw[kr.ts];simp,fun j t t' h1 h2=> ?_⟩
 rw[kr.ts,List.getElem?_map,h1] at h2
 simp only[Option.map_some,Option.some.injEq] at h2
 have hR:Edge.xI (bD rs) k:=(o.mem k).1 (di hk)
 have hm:t.toNat∈ord:=(o.mem _).2 (hR.step (qx ha) (di h1))
 obtain⟨m,hm⟩:=pM hm
 have hat:=K.at_ m _ hm
 unfold DO at h2
 rw[hat] at h2
 simp only[Option.getD_some] at h2
 rw[←h2]
 exact⟨by omega,by simpa using hm⟩
theorem vJ.map (K:vJ rs ord ats rs') (o:KM rs ord) (f:XR→Nat) (hf: ∀(pk:List Int) (a b:XR),KR ats pk a b→f b=f a):(rs'.map f).sum=((List.range rs.length).map fun i=>if decide (i∈ord) then((rs[i]?).map f).getD 0 else 0).sum:=by
 rw[←Lh o.nd o.lt (fun i=>((rs[i]?).map f).getD 0)]
 congr 1
 refine List.ext_getElem? fun i=> ?_
 rw[List.getElem?_map,List.getElem?_map]
 rcases Nat.lt_or_ge i ord.length with h|h
 ·obtain⟨k,hk⟩: ∃k,ord[i]? =some k:=⟨_,aQ h⟩
  have hkl:=o.lt k (di hk)
  obtain⟨a,ha⟩: ∃a,rs[k]? =some a:=⟨_,aQ hkl⟩
  obtain⟨b,hb⟩: ∃b,rs'[i]? =some b:=⟨_,aQ (by rw[K.len];exact h)⟩
  obtain⟨pk,_,kr⟩:=K.r i k a b hk ha hb
  rw[hk,hb]
  simp only[Option.map_some]
  rw[ha,hf pk a b kr]
  rfl
 ·rw[List.getElem?_eq_none (by rw[K.len];exact h),List.getElem?_eq_none h];rfl
theorem vJ.vG (K:vJ rs ord ats rs') (w:TF rs) (o:KM rs ord) (words:Int):fC words rs'=fC words rs:=by
 unfold fC
 rw[K.map o (fun r=>jD words r.ls) (fun pk a b kr=>by rw[kr.ls]),←tq (fun r=>jD words r.ls) 0 rs]
 congr 1
 refine List.map_congr_left fun i hi=> ?_
 by_cases hm:i∈ord
 ·simp[hm]
 ·have hil:i<rs.length:=by simpa using hi
  obtain⟨a,ha⟩: ∃a,rs[i]? =some a:=⟨_,aQ hil⟩
  rcases w.seen i a ha with h|⟨_,_,h⟩
  ·exact absurd ((o.mem i).2 h) hm
  ·simp[hm,ha,h,jD]
theorem vJ.tf (K:vJ rs ord ats rs') (w:TF rs) (o:KM rs ord):TF rs'∧ ∀k,k<rs'.length→Edge.xI (bD rs') k:=by
 have back: ∀(i:Nat) (b:XR),rs'[i]? =some b→ ∃k a pk,ord[i]? =some k∧rs[k]? =some a∧(Edge.bm (bD rs))[k]? =some pk∧KR ats pk a b:=by
  intro i b hb
  have hil:i<ord.length:=by rw[←K.len];exact(bY.mp hb).1
  obtain⟨k,hk⟩: ∃k,ord[i]? =some k:=⟨_,aQ hil⟩
  have hkl:=o.lt k (di hk)
  obtain⟨a,ha⟩: ∃a,rs[k]? =some a:=⟨_,aQ hkl⟩
  obtain⟨pk,h1,h2⟩:=K.r i k a b hk ha hb
  exact⟨k,a,pk,hk,ha,h1,h2⟩
 have all: ∀k,k<rs'.length→Edge.xI (bD rs') k:=by
  intro i hi
  obtain⟨k,hk⟩: ∃k,ord[i]? =some k:=⟨_,aQ (by rw[←K.len];exact hi)⟩
  have hR:=(o.mem k).1 (di hk)
  exact Edge.xI.pK o.nd o.Ok (fun x hx ts hts t ht=>(o.mem _).2 (((o.mem x).1 hx).step hts ht)) (K.ts w o) hk hR
 have hordn:ord.length≤rs.length:=by
  have:=List.Nodup.length_le_of_subset o.nd (l₂:=List.range rs.length) (fun x hx=>List.mem_range.2 (o.lt x hx))
  simpa using this
 have h0:=(bY.mp o.Ok).1
 have zE:=w.zE
 have hl:=K.len
 refine⟨⟨by omega,by omega,fun b hb=> ?_,fun b hb t ht=> ?_,fun i b hb q hq=> ?_,?_,fun b hb x hx=> ?_,fun i b hb=> .inl (all i (bY.mp hb).1)⟩,all⟩
 ·obtain⟨i,hi⟩:=pM hb
  obtain⟨k,a,pk,hk,ha,h1,kr⟩:=back i b hi
  unfold LA
  rw[kr.kind,kr.ts]
  rcases w.kind a (di ha) with⟨h,e⟩|⟨h,t,e⟩|⟨h,t,u,e⟩
  ·exact .inl ⟨h,by rw[e];rfl⟩
  ·exact .inr (.inl ⟨h,_,by rw[e];rfl⟩)
  ·exact .inr (.inr ⟨h,_,_,by rw[e];rfl⟩)
 ·obtain⟨i,hi⟩:=pM hb
  obtain⟨k,a,pk,hk,ha,h1,kr⟩:=back i b hi
  obtain⟨ts,ts',e1,e2,e3,e4⟩:=K.ts w o i k hk
  rw[qx ha] at e1;cases e1
  rw[qx hi] at e2;cases e2
  obtain⟨j,hj⟩:=pM ht
  obtain⟨t0,ht0⟩: ∃t,a.ts[j]? =some t:=⟨_,aQ (by rw[←e3];exact(bY.mp hj).1)⟩
  obtain⟨p0,p1⟩:=e4 j t0 t ht0 hj
  have p2:=(bY.mp p1).1
  refine⟨?_,by omega⟩
  rcases Nat.eq_zero_or_pos t.toNat with h|h
  ·rw[h,o.Ok] at p1
   have:=w.to a (di ha) t0 (di ht0)
   have p3:=Option.some.inj p1
   omega
  ·omega
 ·obtain⟨k,a,pk,hk,ha,h1,kr⟩:=back i b hb
  obtain⟨j,hj⟩:=pM hq
  obtain⟨p,hp⟩: ∃p,a.ps[j]? =some p:=⟨_,aQ (by rw[←kr.pl];exact(bY.mp hj).1)⟩
  rw[(kr.ps j q p hj hp).2]
  have hpk:=Edge.sG w.nat h1
  have:=Edge.x1 o.nd (fun x hx=>by rw[dD];exact o.lt x hx) (by rw[dD];exact K.len) (K.ts w o) hk (kv ats) (fun x hx=>by
   rw[dD] at hx
   unfold kv
   simp only[decide_eq_true_eq,Int.toNat_natCast]
   by_cases hm:x∈ord
   ·obtain⟨m,hm'⟩:=pM hm
    rw[K.at_ m x hm']
    simp only[Option.getD_some]
    exact⟨fun _=>hm,fun _=>by omega⟩
   ·rw[K.no x hx hm]
    simp only[Option.getD_some]
    exact⟨fun h=>by omega,fun h=>absurd h hm⟩)
  rw[dD rs'] at this
  rw[this,←hpk]
 ·rw[K.map o ov (fun pk a b kr=>by simp only[ov];rw[kr.ls,kr.pl])]
  refine Nat.le_trans (De (g:=fun i=>((rs[i]?).map ov).getD 0) (fun i _=> ?_)) ?_
  ·split
   ·exact Nat.le_refl _
   ·exact Nat.zero_le _
  ·rw[tq];exact w.sum
 ·obtain⟨i,hi⟩:=pM hb
  obtain⟨k,a,pk,hk,ha,h1,kr⟩:=back i b hi
  rw[kr.ls] at hx
  exact w.al a (di ha) x hx
end
def Hj (rs:List XR):List Nat:=(Dfs.jM (Edge.qm (bD rs)) rs.length).reverse
def Nh (rs:List XR) (h:ae) (v:Value) (h':ae):Prop:=ab aG h h'∧ ∃L:SV,v=L.v∧cj aY h.next h' L.v (nI (Hj rs))
theorem CD {h:ae} (ok:bh h) {name:ByteArray} {p r:Int} {n0 ai:Nat} {κ cap:Nat→Nat} {B:SV} {rs:List XR} (O:ou h n0 ai κ cap B rs) (w:TF rs):
  aE FF mo [.agg ⟨ak name p r B⟩] h (Nh rs h):=by
 obtain⟨bs,hbs,hV⟩:=O.view
 have E:=hV.ends w.tok
 have htos:=hV.cT
 have hbl:bs.length=rs.length:=hV.1
 have h0:0<bs.length:=by rw[hbl];exact w.n1
 refine(zj ok (name:=name) (p:=p) (r:=r) hbs E h0).mono ?_
 rintro v h' ⟨g,L,rfl,hL⟩
 refine⟨g,L,rfl,?_⟩
 have e1:mh bs=Edge.qm (bD rs):=by rw[←htos];simp[mh,aX,Edge.qm]
 have e2:(mA bs).reverse=nI (Hj rs):=by
  unfold mA nI Hj
  rw[e1,hbl,List.map_reverse]
 rw[←e2]
 exact hL
def MJ (name:ByteArray) (p r:Int) (n0 ai:Nat) (κ0:Nat→Nat) (rs:List XR) (h:ae) (v:Value) (h':ae):Prop:=
 ab (fun b=>κ0 b=3∨κ0 b=5) h h'∧ ∃(B':SV) (rs':List XR) (κ cap:Nat→Nat),v= .agg ⟨ak name p r B'⟩∧(∀x,x<h.next→κ x=κ0 x)∧ou h' n0 ai κ cap B' rs'∧TF rs'∧(∀k,k<rs'.length→Edge.xI (bD rs') k)∧ ∀words,fC words rs'=fC words rs
theorem GR {h:ae} (ok:bh h) {name:ByteArray} {p r:Int} {n0 ai:Nat} {κ0 cap0:Nat→Nat} {B O:SV} {rs:List XR} (W:ou h n0 ai κ0 cap0 B rs) (hn0:n0≤h.next) (w:TF rs) {m:Nat} (hO:cj aY m h O.v (nI (Hj rs))) (κO: ∀x,m≤x→κ0 x=0):
  aE FF rS [.agg ⟨ak name p r B⟩,O.v] h (MJ name p r n0 ai κ0 rs h):=by
 have o:=Pu w
 refine(Ir ok W hn0 (ord:=Hj rs) ⟨w.tok,w.zE,o.nd,o.lt,fun r hr=>by have:=(w.size r hr).1;omega,w.BY⟩ hO.sl (fun _ b hb=>κO b (hO.of hb))).mono ?_
 rintro v h' ⟨g,B',rs',κ,cap,ats,e,hlow,O',hl,hal,hat,hno,hr⟩
 have K:vJ rs (Hj rs) ats rs':=⟨hl,hal,hat,hno,hr⟩
 obtain⟨T',R'⟩:=K.tf w o
 exact⟨g,B',rs',κ,cap,e,hlow,O',T',R',K.vG w o⟩
structure J_ (now:List Int) (many ai:Nat):Prop where
 len:now.length=ai
 lt: ∀v∈now,v= -1∨(0≤v∧v<many)
 tC:many+now.countP (fun v=>decide (v<0))=ai
def Nm (h:ae) (N nb ai:Nat):Prop:= ∃(now:List Int) (many s s':Nat),h.tr.get N=some (.aA [.slice (some ⟨nb,0,none⟩) ai ai,.int .i64 many] false 0 s)∧h.tr.get nb=some (.aA (aY.flat now) false 0 s')∧N≠nb∧J_ now many ai
def tg (N nb:Nat) (x:Nat):Prop:=x=N∨x=nb
theorem Nm.grow {S:Nat→Prop} {h h':ae} {N nb ai:Nat} (w:Nm h N nb ai) (ok:bh h) (g:ab S h h') (h1: ¬S N) (h2: ¬S nb):Nm h' N nb ai:=by
 obtain⟨now,many,s,s',a,b,c,d⟩:=w
 exact⟨now,many,s,s',g.get ok a h1,g.get ok b h2,c,d⟩
theorem yM {now:List Int} {r:Nat} {x:Int} (hr:now[r]? =some x) (hx:x<0) {y:Int} (hy: ¬y<0):(now.set r y).countP (fun v=>decide (v<0))+1=now.countP (fun v=>decide (v<0)):=by
 induction now generalizing r with
 |nil=>simp at hr
 |cons a l ih=>
  cases r with
  |zero=>
   simp at hr;subst hr
   simp[List.countP_cons,hx,hy]
  |succ r=>
   have:=ih (r:=r) (by simpa using hr)
   simp only[List.set_cons_succ,List.countP_cons]
   omega
theorem J_.put {now:List Int} {many ai r:Nat} {x:Int} (w:J_ now many ai) (hr:now[r]? =some x) (hx:x<0):J_ (now.set r (many:Int)) (many+1) ai:=by
 refine⟨by simp[w.len],fun v hv=> ?_,?_⟩
 ·rcases List.mem_or_eq_of_mem_set hv with h|h
  ·rcases w.lt v h with h|h
   ·exact .inl h
   ·exact .inr (by omega)
  ·exact .inr (by omega)
 ·have:=yM hr hx (y:=(many:Int)) (by omega)
  have:=w.tC
  omega
def MN (N nb ai:Nat) (h:ae) (v:Value) (h':ae):Prop:=ab (tg N nb) h h'∧Nm h' N nb ai∧ ∃x:Nat,v= .int .i64 x∧x<ai
theorem tl {h:ae} (ok:bh h) {N nb ai r:Nat} (w:Nm h N nb ai) (hr:r<ai) (hreg:ai<1000000):
  aE FF oz [.pointer (some ⟨N,0,none⟩),.int .i64 r] h (MN N nb ai h):=by
 obtain⟨now,many,s,s',hN,hb,hne,w⟩:=w
 have hl:=w.len
 obtain⟨x,hx⟩: ∃x,now[r]? =some x:=⟨_,aQ (by omega)⟩
 have rx:=iN hb hx
 have hcnt:=w.tC
 refine aE.of vM ?_
 unfold pd
 by_cases hx0:x<0
 ·have hm:many<ai:=by
   have:0<now.countP (fun v=>decide (v<0)):=List.countP_pos_iff.2 ⟨x,di hx,by simpa using hx0⟩
   omega
  have wm:=wrap_i64 ((many:Int)+1) (by omega) (by omega)
  have hst:=ok.st _ _ _ _ _ hN
  have hrl:r<now.length:=by omega
  have ne2: ¬N=nb:=hne
  have N2: ¬nb=N:=Ne.symm hne
  have hr1:r+1≤now.length:=by omega
  simp[hN,hb,hr,hrl,hr1,rx,hx0,-ag,aw hN,aB]
  have e1:=lJ now r (many:Int) hrl
  have g1:=aJ (off:=r) (vs:=[Value.int .i64 (many:Int)]) (bc ok).ok (b:=nb) (by simpa using hb)
  have hb1:(put (tick h) nb r (aY.flat now) [Value.int .i64 (many:Int)] 0).tr.get nb=some (.aA (aY.flat (now.set r (many:Int))) false 0 (h.clock+1)):=by
   rw[ax,e1];rfl
  have hN1:=g1.get (bc ok).ok (b:=N) (by simpa using hN) hne
  have gg1:=(bc ok).aW.trans g1
  generalize put (tick h) nb r (aY.flat now) [Value.int .i64 (many:Int)] 0=h1 at*
  simp[hN1,wm]
  have g2:=aJ (off:=1) (vs:=[Value.int .i64 ((many:Int)+1)]) g1.ok hN1
  have hN2:(put h1 N 1 [Value.slice (some ⟨nb,0,none⟩) ai ai,Value.int .i64 many] [Value.int .i64 ((many:Int)+1)] 0).tr.get N=some (.aA [.slice (some ⟨nb,0,none⟩) ai ai,.int .i64 ((many:Int)+1)] false 0 h1.clock):=by
   rw[ax];rfl
  have hb2:=g2.get g1.ok hb1 N2
  generalize put h1 N 1 _ _ 0=h2 at*
  have rx2:=iN hb2 (k:=r) (x:=(many:Int)) (by rw[List.getElem?_set,if_pos rfl,if_pos hrl])
  simp[hN2,hr,rx2,-ag,aw hN2]
  refine⟨(gg1.bM (fun x _ e=> .inr e)).trans (g2.bM (fun x _ e=> .inl e)),⟨now.set r (many:Int),many+1,_,_,hN2,hb2,hne,w.put hx hx0⟩,many,rfl,by omega⟩
 ·have:0≤x∧x<many:=by
   rcases w.lt x (di hx) with h|h
   ·omega
   ·exact h
  obtain⟨y,rfl⟩: ∃y:Nat,x=y:=⟨x.toNat,by omega⟩
  simp[hN,hr,rx,hx0,-ag,aw hN]
  exact⟨.refl ok,⟨now,many,s,s',hN,hb,hne,w⟩,y,rfl,by omega⟩
def KN (N nb ai:Nat) (u:Bool×Int) (h:ae) (v:Value) (h':ae):Prop:=ab (tg N nb) h h'∧Nm h' N nb ai∧ ∃w:Bool×Int,v= .agg ⟨[.bool w.1,.int .i64 w.2]⟩∧w.1=u.1∧gO ai w∧(u.1=false→w=u)
theorem qz {h:ae} (ok:bh h) {N nb ai:Nat} (w:Nm h N nb ai) {u:Bool×Int} (hu:gO ai u) (hreg:ai<1000000):
  aE FF qa [.pointer (some ⟨N,0,none⟩),.agg ⟨[.bool u.1,.int .i64 u.2]⟩] h (KN N nb ai u h):=by
 obtain⟨ur,un⟩:=u
 have lN:N<h.next:=by obtain⟨_,_,_,_,hN,_⟩:=w;exact ok.wf _ _ hN
 have lb:nb<h.next:=by obtain⟨_,_,_,_,_,hb,_⟩:=w;exact ok.wf _ _ hb
 refine aE.of v9 ?_
 unfold p7
 have n2: ¬h.next=h.next+1:=by omega
 have n3: ¬h.next+1=h.next:=by omega
 simp
 refine az.cut (fun h1=>ab aG h h1∧(∃s,h1.tr.get h.next=some (.aA [.bool ur,.int .i64 un] false 0 s))∧(∃s,h1.tr.get (h.next+1)=some (.aA [.bool false,.int .i64 0] false 0 s))) ?_ ?_
 ·exact⟨((ab.refl ok).new _ _).new _ _,⟨0,by simp[n2]⟩,⟨0,by simp⟩⟩
 rintro h1 ⟨g1,⟨sV,hV1⟩,⟨sR,hR1⟩⟩
 have w1:=w.grow ok g1 (fun h=>h) (fun h=>h)
 cases ur with
 |false=>
  simp[hV1,hR1]
  refine⟨g1.aW.put ⟨_,hR1⟩ (.inl (by omega)),?_,(false,un),rfl,rfl,hu,fun _=>rfl⟩
  exact w1.grow g1.ok (aJ g1.ok hR1) (by omega) (by omega)
 |true=>
  obtain⟨h0,h2⟩:=hu rfl
  obtain⟨r,hr⟩: ∃r:Nat,un=r:=⟨un.toNat,by simp at h0;omega⟩
  subst hr
  simp[hV1]
  refine aD.call (V:=MN N nb ai h1) (by simpa using tl g1.ok w1 (r:=r) (by simpa using h2) hreg) ?_
  rintro _ h2 ⟨g2,w2,x,rfl,hx⟩
  have hV2:=g2.get g1.ok hV1 (fun e=>by rcases e with e|e<;>omega)
  have hR2:=g2.get g1.ok hR1 (fun e=>by rcases e with e|e<;>omega)
  have g3:=aJ (off:=1) (vs:=[Value.int .i64 (x:Int)]) g2.ok hV2
  have hV3:(put h2 h.next 1 [Value.bool true,Value.int .i64 r] [Value.int .i64 (x:Int)] 0).tr.get h.next=some (.aA [.bool true,.int .i64 x] false 0 h2.clock):=by
   rw[ax];rfl
  have hR3:=g3.get g2.ok hR2 n3
  simp[hV2,hR2,n2,n3]
  generalize put h2 h.next 1 _ _ 0=h3 at*
  have w3:=w2.grow g2.ok g3 (by omega) (by omega)
  have g4:=aJ (off:=0) (vs:=[Value.bool true,Value.int .i64 (x:Int)]) g3.ok hR3
  have w4:=w3.grow g3.ok g4 (by omega) (by omega)
  exact⟨((g1.aW.trans g2).trans' g3 (fun _ _ h=>h) (fun y hy e=>by omega)).trans' g4 (fun _ _ h=>h) (fun y hy e=>by omega),w4,(true,(x:Int)),rfl,rfl,fun _=>⟨by show(0:Int)≤x;omega,by show(x:Int)<ai;omega⟩,fun h=>by cases h⟩
section
variable {n0 ai:Nat} {κ cap:Nat→Nat} {B:SV} {rs:List XR} {N nb:Nat}
structure NR (h:ae) (n0 ai:Nat) (κ cap:Nat→Nat) (B:SV) (rs:List XR) (N nb:Nat):Prop where
 O:ou h n0 ai κ cap B rs
 w:Nm h N nb ai
 κN:κ N=0
 κb:κ nb=0
 zC:ai<1000000
theorem NR.step {h h2 h3:ae} (k:NR h n0 ai κ cap B rs N nb) (ok:bh h) (g2:ab aG h h2) (g3:ab (tg N nb) h2 h3) (w3:Nm h3 N nb ai):NR h3 n0 ai κ cap B rs N nb:=
 ⟨(k.O.aW ok g2).grow g2.ok g3 (fun b hb=>by rcases hb with e|e<;>(rw[e];first|exact k.κN|exact k.κb)),w3,k.κN,k.κb,k.zC⟩
theorem NR.aW {h h2:ae} (k:NR h n0 ai κ cap B rs N nb) (ok:bh h) (g2:ab aG h h2):NR h2 n0 ai κ cap B rs N nb:=
 ⟨k.O.aW ok g2,k.w.grow ok g2 (fun h=>h) (fun h=>h),k.κN,k.κb,k.zC⟩
theorem NR.lt {h:ae} (k:NR h n0 ai κ cap B rs N nb) (ok:bh h):N<h.next∧nb<h.next:=by
 obtain⟨_,_,_,_,a,b,_⟩:=k.w
 exact⟨ok.wf _ _ a,ok.wf _ _ b⟩
theorem VA.val {h:ae} {A:SV} (w:VA κ cap A) (V:xy h κ cap ai) {j:Nat} (hj:j<A.l): ∃b vs o s v,A.a=some ⟨b,0,none⟩∧κ b=1∧A.c=cap b∧h.tr.get b=some (.aA (bU.flat vs) false o s)∧(o=0∨o=2)∧vs.length=cap b∧(∀v∈vs,gO ai v)∧vs[j]? =some v∧gO ai v∧aT h b (j*2) 2=some [.bool v.1,.int .i64 v.2]:=by
 obtain⟨hl,h0|⟨b,ha,hk,hc⟩⟩:=w
 ·omega
 obtain⟨vs,o,s,hb,ho,hvl,hv⟩:=V b hk
 obtain⟨v,hx⟩: ∃v,vs[j]? =some v:=⟨_,aQ (by omega)⟩
 refine⟨b,vs,o,s,v,ha,hk,hc,hb,ho,hvl,hv,hx,hv v (di hx),?_⟩
 rw[cN hb (by rw[bU.bt,eX];have:=(bY.mp hx).1;omega)]
 have:=bU.mN vs j v hx
 simp only[eX] at this
 rw[this];rfl
def QS:List Nat:=[12,79,80,81,82,83,84,85,86]
def NaI (h:ae) (n0 ai:Nat) (κ cap:Nat→Nat) (B:SV) (rs:List XR) (N nb:Nat) (A:SV) (e:Env) (m:Nat) (e':Env) (h':ae):Prop:=
 ∃j:Nat,m=A.l-j∧j≤A.l∧aC QS e e'∧Env.get e' 79= .int .i64 j∧ab (tg N nb) h h'∧NR h' n0 ai κ cap B rs N nb
theorem Lm {h:ae} (ok:bh h) (k:NR h n0 ai κ cap B rs N nb) {A:SV} (hA:VA κ cap A) (hl:A.l≤1048576)
  {e:Env} {Q:aO→Env→ae→Prop} (f3:Env.get e 3= .pointer (some ⟨N,0,none⟩)) (f77:Env.get e 77=A.v) (f78:Env.get e 78= .int .i64 A.l) (f79:Env.get e 79= .int .i64 0)
  (C: ∀e' h',aC QS e e'→ab (tg N nb) h h'→NR h' n0 ai κ cap B rs N nb→Q (.exit 8) e' h'):az FF (.loop kR) e h Q:=by
 refine az.loop (NaI h n0 ai κ cap B rs N nb A e) ?_ (n:=A.l) ⟨0,rfl,by omega,aC.refl _ _,f79,.refl ok,k⟩
 rintro m e' h' ⟨j,rfl,hj,K,q79,g,k'⟩
 have ok':=g.ok
 have q3:=K.at (by decide) f3
 have q77:=K.at (by decide) f77
 have q78:=K.at (by decide) f78
 unfold kR
 by_cases hjl:j<A.l
 ·have wj:=wrap_i64 ((j:Int)+1) (by omega) (by omega)
  obtain⟨b,vs,o,s,v,ha,hkb,hc,hb,ho,hvl,hvv,hx,hv,rd⟩:=hA.val k'.O.os.V hjl
  simp at q77
  rw[ha] at q77
  simp[q3,q77,q78,q79,hjl,rd,-ag,aq]
  have g2:ab aG h' (put (aH h' [.bool false,.int .i64 0] 0) h'.next 0 [.bool false,.int .i64 0] [.bool v.1,.int .i64 v.2] 0):=(ab.refl ok').var _ _
  generalize put (aH h' [.bool false,.int .i64 0] 0) h'.next 0 _ _ 0=h2 at*
  refine aD.call (V:=KN N nb ai v h2) (by simpa using qz g2.ok (k'.aW ok' g2).w hv k.zC) ?_
  rintro _ h3 ⟨g3,w3,u,rfl,_,_,_⟩
  simp[q79,wj]
  refine⟨A.l-(j+1),by omega,j+1,rfl,hjl,?_,by simp,g.trans (g2.aW.trans g3),k'.step ok' g2 g3 w3⟩
  repeat (refine aC.set (by decide) ?_)
  exact K
 ·have:j=A.l:=by omega
  subst this
  simp[q78,q79]
  exact C _ _ (aC.set (by decide) K) g k'
def QU:List Nat:=[8,52,53,54,55,56,57,58,59,60]
def NpI (h:ae) (n0 ai:Nat) (κ cap:Nat→Nat) (B:SV) (rs:List XR) (N nb:Nat) (r:XR) (e:Env) (m:Nat) (e':Env) (h':ae):Prop:=
 ∃j:Nat,m=r.ps.length-j∧j≤r.ps.length∧aC QU e e'∧Env.get e' 52= .int .i64 j∧ab (tg N nb) h h'∧NR h' n0 ai κ cap B rs N nb
theorem Lx {h:ae} (ok:bh h) (k:NR h n0 ai κ cap B rs N nb) {i:Nat} {r:XR} (hr:rs[i]? =some r) (hl:r.ps.length≤1048576)
  {e:Env} {Q:aO→Env→ae→Prop} (f3:Env.get e 3= .pointer (some ⟨N,0,none⟩)) (f50:Env.get e 50=r.P.v) (f51:Env.get e 51= .int .i64 r.ps.length) (f52:Env.get e 52= .int .i64 0)
  (C: ∀e' h',aC QU e e'→ab (tg N nb) h h'→NR h' n0 ai κ cap B rs N nb→Q (.exit 4) e' h'):az FF (.loop kQ) e h Q:=by
 refine az.loop (NpI h n0 ai κ cap B rs N nb r e) ?_ (n:=r.ps.length) ⟨0,rfl,by omega,aC.refl _ _,f52,.refl ok,k⟩
 rintro m e' h' ⟨j,rfl,hj,K,q52,g,k'⟩
 have ok':=g.ok
 have q3:=K.at (by decide) f3
 have q50:=K.at (by decide) f50
 have q51:=K.at (by decide) f51
 unfold kQ
 by_cases hjl:j<r.ps.length
 ·have wj:=wrap_i64 ((j:Int)+1) (by omega) (by omega)
  obtain⟨q,hq⟩: ∃q,r.ps[j]? =some q:=⟨_,aQ hjl⟩
  have R:=k'.O.os.r i r hr
  obtain⟨b,cs,o,s,ha,hb,_,_,hrd,_⟩:=R.P.el hq
  have rd:=hrd 0 2 (by decide)
  simp[-ag] at rd
  have hPl:=R.P.len
  obtain⟨h0,h1⟩:=(R.ps q (di hq)).1
  obtain⟨u,hu⟩: ∃u:Nat,q.1=u:=⟨q.1.toNat,by omega⟩
  rw[hu] at rd
  simp at q50
  rw[ha,hPl] at q50
  simp[q3,q50,q51,q52,hjl,rd,-ag,aq]
  have g2:ab aG h' (put (aH h' [.int .i64 0,.slice none 0 0] 0) h'.next 0 [.int .i64 0,.slice none 0 0] [.int .i64 u,.slice q.2.a q.2.l q.2.c] 0):=(ab.refl ok').var _ _
  generalize put (aH h' [.int .i64 0,.slice none 0 0] 0) h'.next 0 _ _ 0=h2 at*
  refine aD.call (V:=MN N nb ai h2) (by simpa using tl g2.ok (k'.aW ok' g2).w (r:=u) (by omega) k.zC) ?_
  rintro _ h3 ⟨g3,w3,x,rfl,_⟩
  simp[q52,wj]
  refine⟨r.ps.length-(j+1),by omega,j+1,rfl,hjl,?_,by simp,g.trans (g2.aW.trans g3),k'.step ok' g2 g3 w3⟩
  repeat (refine aC.set (by decide) ?_)
  exact K
 ·have:j=r.ps.length:=by omega
  subst this
  simp[q51,q52]
  exact C _ _ (aC.set (by decide) K) g k'
end
section
variable {n0 ai:Nat} {κ cap:Nat→Nat} {B:SV} {rs:List XR} {N nb:Nat}
def Pv:List Nat:=[10,12,64,65,66,67,68,69,70,71,72,73,74,75,76,77,78,79,80,81,82,83,84,85,86,87,88,89,90,91,92,93,94]
def NlI (h:ae) (n0 ai:Nat) (κ cap:Nat→Nat) (B:SV) (rs:List XR) (N nb:Nat) (r:XR) (e:Env) (m:Nat) (e':Env) (h':ae):Prop:=
 ∃j:Nat,m=r.ls.length-j∧j≤r.ls.length∧aC Pv e e'∧Env.get e' 64= .int .i64 j∧ab (tg N nb) h h'∧NR h' n0 ai κ cap B rs N nb
theorem Lk {h:ae} (ok:bh h) (k:NR h n0 ai κ cap B rs N nb) {i:Nat} {r:XR} (hr:rs[i]? =some r) (hl:r.ls.length≤1048576) (al: ∀x∈r.ls,x.args.l≤1048576)
  {e:Env} {Q:aO→Env→ae→Prop} (f3:Env.get e 3= .pointer (some ⟨N,0,none⟩)) (f62:Env.get e 62=r.L.v) (f63:Env.get e 63= .int .i64 r.ls.length) (f64:Env.get e 64= .int .i64 0)
  (C: ∀e' h',aC Pv e e'→ab (tg N nb) h h'→NR h' n0 ai κ cap B rs N nb→Q (.exit 6) e' h'):az FF (.loop kI) e h Q:=by
 refine az.loop (NlI h n0 ai κ cap B rs N nb r e) ?_ (n:=r.ls.length) ⟨0,rfl,by omega,aC.refl _ _,f64,.refl ok,k⟩
 rintro m e' h' ⟨j,rfl,hj,K,q64,g,k'⟩
 have ok':=g.ok
 have q3:=K.at (by decide) f3
 have q62:=K.at (by decide) f62
 have q63:=K.at (by decide) f63
 unfold kI
 by_cases hjl:j<r.ls.length
 ·have wj:=wrap_i64 ((j:Int)+1) (by omega) (by omega)
  obtain⟨x,hx⟩: ∃x,r.ls[j]? =some x:=⟨_,aQ hjl⟩
  have hxm:=di hx
  have R:=k'.O.os.r i r hr
  obtain⟨b,cs,o,s,ha,hb,_,_,hrd,_⟩:=R.L.el hx
  have rd:=hrd 0 8 (by decide)
  simp[-ag] at rd
  have hLl:=R.L.len
  obtain⟨hd,hxa,hxb,hxv⟩:=R.ls x hxm
  simp at q62
  rw[ha,hLl] at q62
  simp[q3,q62,q63,q64,hjl,rd,-ag,aq]
  refine aD.cut (fun h2=>ab aG h' h2∧ ∃s,h2.tr.get h'.next=some (.aA [.int .i64 x.op,.int .i64 x.dst,.bool x.a.1,.int .i64 x.a.2,.bool x.b.1,.int .i64 x.b.2,.int .i64 x.fn,.slice x.args.a x.args.l x.args.c] false 0 s)) ?_ ?_
  ·exact⟨(ab.refl ok').var _ _,h'.clock,by simp[aK]⟩
  rintro h2 ⟨g2,sX,hX2⟩
  have k2:=k'.aW ok' g2
  obtain⟨lN,lnb⟩:=k'.lt ok'
  have nX: ¬tg N nb h'.next:=fun e=>by rcases e with e|e<;>omega
  refine aD.call (V:=KN N nb ai x.a h2) (by simpa using qz g2.ok k2.w hxa k.zC) ?_
  rintro _ h3 ⟨g3,w3,u,rfl,_,_,_⟩
  have k3:=k2.step g2.ok (.refl g2.ok) g3 w3
  have hX3:=g3.get g2.ok hX2 nX
  simp[q3,hX3]
  refine aD.call (V:=KN N nb ai x.b h3) (by simpa using qz g3.ok k3.w hxb k.zC) ?_
  rintro _ h4 ⟨g4,w4,u2,rfl,_,_,_⟩
  have k4:=k3.step g3.ok (.refl g3.ok) g4 w4
  have hX4:=g4.get g3.ok hX3 nX
  simp[hX4]
  refine Lm g4.ok k4 hxv (al x hxm) (by simp[q3]) (by simp) (by simp) (by simp) ?_
  intro e5 h5 K5 g5 k5
  have hX5:=g5.get g4.ok hX4 nX
  have m3:=K5.at (t:=3) (by decide) (by simp;exact q3)
  have m10:Env.get e5 10= .pointer (some ⟨h'.next,0,none⟩):=K5.at (t:=10) (by decide) (by simp)
  have m64:=K5.at (t:=64) (by decide) (by simp;exact q64)
  have G5:=g.trans (g2.aW.trans (g3.trans (g4.trans g5)))
  have KK:aC Pv e e5:=by
   refine aC.trans ?_ (K5.bM (by decide))
   repeat (refine aC.set (by decide) ?_)
   exact K
  by_cases hd0:0≤x.dst
  ·obtain⟨dn,hdn⟩: ∃u:Nat,x.dst=u:=⟨x.dst.toNat,by omega⟩
   rw[hdn] at hX5 hd
   have hd0':(0:Int)≤(dn:Int):=by omega
   simp[m3,m10,hX5,hd0']
   refine aD.call (V:=MN N nb ai h5) (by simpa using tl g5.ok k5.w (r:=dn) (by omega) k.zC) ?_
   rintro _ h6 ⟨g6,w6,y,rfl,_⟩
   simp[m64,wj]
   refine⟨r.ls.length-(j+1),by omega,j+1,rfl,hjl,?_,by simp,G5.trans g6,k5.step g5.ok (.refl g5.ok) g6 w6⟩
   repeat (refine aC.set (by decide) ?_)
   exact KK
  ·simp[m3,m10,hX5,hd0,m64,wj]
   refine⟨r.ls.length-(j+1),by omega,j+1,rfl,hjl,?_,by simp,G5,k5⟩
   repeat (refine aC.set (by decide) ?_)
   exact KK
 ·have:j=r.ls.length:=by omega
  subst this
  simp[q63,q64]
  exact C _ _ (aC.set (by decide) K) g k'
def NbI (h:ae) (n0 ai:Nat) (κ cap:Nat→Nat) (B:SV) (rs:List XR) (N nb:Nat) (v1 v2:Value) (m:Nat) (e':Env) (h':ae):Prop:=
 ∃j:Nat,m=rs.length-j∧j≤rs.length∧Env.get e' 1=v1∧Env.get e' 2=v2∧Env.get e' 3= .pointer (some ⟨N,0,none⟩)∧Env.get e' 43=B.v∧Env.get e' 44= .int .i64 rs.length∧Env.get e' 45= .int .i64 j∧ab (tg N nb) h h'∧NR h' n0 ai κ cap B rs N nb
theorem HH {h:ae} (ok:bh h) (k:NR h n0 ai κ cap B rs N nb) (T:TF rs)
  {e:Env} {Q:aO→Env→ae→Prop} {v1 v2:Value} (f1:Env.get e 1=v1) (f2:Env.get e 2=v2) (f3:Env.get e 3= .pointer (some ⟨N,0,none⟩)) (f43:Env.get e 43=B.v) (f44:Env.get e 44= .int .i64 rs.length) (f45:Env.get e 45= .int .i64 0)
  (C: ∀e' h',Env.get e' 1=v1→Env.get e' 2=v2→Env.get e' 3= .pointer (some ⟨N,0,none⟩)→ab (tg N nb) h h'→NR h' n0 ai κ cap B rs N nb→Q (.exit 2) e' h'):az FF (.loop lf) e h Q:=by
 have zE:=T.zE
 refine az.loop (NbI h n0 ai κ cap B rs N nb v1 v2) ?_ (n:=rs.length) ⟨0,rfl,by omega,f1,f2,f3,f43,f44,f45,.refl ok,k⟩
 rintro m e' h' ⟨j,rfl,hj,q1,q2,q3,q43,q44,q45,g,k'⟩
 have ok':=g.ok
 unfold lf
 by_cases hjl:j<rs.length
 ·have wj:=wrap_i64 ((j:Int)+1) (by omega) (by omega)
  obtain⟨r,hr⟩: ∃r,rs[j]? =some r:=⟨_,aQ hjl⟩
  have hm:=di hr
  obtain⟨sp,sl⟩:=T.size r hm
  have R:=k'.O.os.r j r hr
  obtain⟨b,cs,o,s,ha,hb,_,_,hrd,_⟩:=k'.O.A.el hr
  have rd:=hrd 0 6 (by decide)
  simp[-ag] at rd
  have hBl:=k'.O.A.len
  have hPl:=R.P.len
  have hLl:=R.L.len
  simp at q43
  rw[ha,hBl] at q43
  simp[q3,q43,q44,q45,hjl,rd,-ag,aq,hPl]
  refine az.cut (fun h2=>ab aG h' h2∧ ∃s,h2.tr.get h'.next=some (.aA [.slice r.P.a r.ps.length r.P.c,.slice r.L.a r.ls.length r.L.c,.int .i64 r.kind,.bool r.on.1,.int .i64 r.on.2,.slice r.T.a r.T.l r.T.c] false 0 s)) ?_ ?_
  ·exact⟨(ab.refl ok').var _ _,h'.clock,by simp[aK,hPl,hLl]⟩
  rintro h2 ⟨g2,sX,hX2⟩
  have k2:=k'.aW ok' g2
  obtain⟨lN,lnb⟩:=k'.lt ok'
  have nX: ¬tg N nb h'.next:=fun e=>by rcases e with e|e<;>omega
  refine Lx g2.ok k2 hr (by omega) (by simp[q3]) (by simp[hPl]) (by simp) (by simp) ?_
  intro e3 h3 K3 g3 k3
  have hX3:=g3.get g2.ok hX2 nX
  have a1:=K3.at (t:=1) (by decide) (by simp;exact q1)
  have a2:=K3.at (t:=2) (by decide) (by simp;exact q2)
  have a3:=K3.at (t:=3) (by decide) (by simp;exact q3)
  have a6:Env.get e3 6= .pointer (some ⟨h'.next,0,none⟩):=K3.at (t:=6) (by decide) (by simp)
  have a43:=K3.at (t:=43) (by decide) (by simp;exact q43)
  have a44:=K3.at (t:=44) (by decide) (by simp;exact q44)
  have a45:=K3.at (t:=45) (by decide) (by simp;exact q45)
  simp[a6,hX3]
  refine Lk g3.ok k3 hr (by omega) (T.al r hm) (by simp[a3]) (by simp[hLl]) (by simp) (by simp) ?_
  intro e4 h4 K4 g4 k4
  have hX4:=g4.get g3.ok hX3 nX
  have b1:=K4.at (t:=1) (by decide) (by simp;exact a1)
  have b2:=K4.at (t:=2) (by decide) (by simp;exact a2)
  have b3:=K4.at (t:=3) (by decide) (by simp;exact a3)
  have b6:=K4.at (t:=6) (by decide) (by simp;exact a6)
  have b43:=K4.at (t:=43) (by decide) (by simp;exact a43)
  have b44:=K4.at (t:=44) (by decide) (by simp;exact a44)
  have b45:=K4.at (t:=45) (by decide) (by simp;exact a45)
  simp[b3,b6,hX4]
  refine aD.call (V:=KN N nb ai r.on h4) (by simpa using qz g4.ok k4.w R.on k.zC) ?_
  rintro _ h5 ⟨g5,w5,u,rfl,_,_,_⟩
  simp[b45,wj]
  exact⟨rs.length-(j+1),by omega,j+1,rfl,hjl,by simp[b1],by simp[b2],by simp[b3],by simp[b43,ha,hBl],by simp[b44],by simp,g.trans (g2.aW.trans (g3.trans (g4.trans g5))),k4.step g4.ok (.refl g4.ok) g5 w5⟩
 ·have:j=rs.length:=by omega
  subst this
  simp[q44,q45]
  exact C _ _ (by simp[q1]) (by simp[q2]) (by simp[q3]) g k'
def NqI (h:ae) (n0 ai:Nat) (κ cap:Nat→Nat) (B:SV) (rs:List XR) (N nb:Nat) (p:Nat) (v1 v2:Value) (m:Nat) (e':Env) (h':ae):Prop:=
 ∃j:Nat,m=p-j∧j≤p∧Env.get e' 1=v1∧Env.get e' 2=v2∧Env.get e' 3= .pointer (some ⟨N,0,none⟩)∧Env.get e' 34= .int .i64 p∧Env.get e' 35= .int .i64 j∧ab (tg N nb) h h'∧NR h' n0 ai κ cap B rs N nb
theorem Iw {h:ae} (ok:bh h) (k:NR h n0 ai κ cap B rs N nb) {p:Nat} (hp:p≤ai)
  {e:Env} {Q:aO→Env→ae→Prop} {v1 v2:Value} (f1:Env.get e 1=v1) (f2:Env.get e 2=v2) (f3:Env.get e 3= .pointer (some ⟨N,0,none⟩)) (f34:Env.get e 34= .int .i64 p) (f35:Env.get e 35= .int .i64 0)
  (C: ∀e' h',Env.get e' 1=v1→Env.get e' 2=v2→Env.get e' 3= .pointer (some ⟨N,0,none⟩)→ab (tg N nb) h h'→NR h' n0 ai κ cap B rs N nb→Q (.exit 0) e' h'):az FF (.loop kV) e h Q:=by
 have hreg:=k.zC
 refine az.loop (NqI h n0 ai κ cap B rs N nb p v1 v2) ?_ (n:=p) ⟨0,rfl,by omega,f1,f2,f3,f34,f35,.refl ok,k⟩
 rintro m e' h' ⟨j,rfl,hj,q1,q2,q3,q34,q35,g,k'⟩
 unfold kV
 by_cases hjl:j<p
 ·have wj:=wrap_i64 ((j:Int)+1) (by omega) (by omega)
  simp[q3,q34,q35,hjl]
  refine aD.call (V:=MN N nb ai h') (by simpa using tl g.ok k'.w (r:=j) (by omega) k.zC) ?_
  rintro _ h3 ⟨g3,w3,x,rfl,_⟩
  simp[q35,wj]
  exact⟨p-(j+1),by omega,j+1,rfl,hjl,by simp[q1],by simp[q2],by simp[q3],by simp[q34],by simp,g.trans g3,k'.step g.ok (.refl g.ok) g3 w3⟩
 ·have:j=p:=by omega
  subst this
  simp[q34,q35]
  exact C _ _ (by simp[q1]) (by simp[q2]) (by simp[q3]) g k'
end
end Go.Proofs.YtdkdbjecehcekaaGreatDoor
