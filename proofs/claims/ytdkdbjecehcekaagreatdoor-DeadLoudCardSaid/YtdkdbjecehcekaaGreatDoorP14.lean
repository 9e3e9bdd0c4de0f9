/- Parts of the proof. -/
import Derived.Test.YtdkdbjecehcekaaGreatDoorP08
import Derived.Test.YtdkdbjecehcekaaGreatDoorP13
set_option linter.all false
set_option linter.unusedSimpArgs false
set_option linter.unusedVariables false
set_option linter.unnecessarySimpa false
namespace Go.AI.Edge
def rowOf (tss:List (List Int)) (u:Nat):Nat→List Int
 |0=>[]
 |k+1=>rowOf tss u k++List.replicate ((((tss[k]?).getD []).map Int.toNat).count u) (k:Int)
theorem DV (i u:Nat): ∀(ts:List Int) (out:List (List Int)),(∀t∈ts,t.toNat<out.length)→((gC out i ts)[u]?).getD []=((out[u]?).getD [])++List.replicate ((ts.map Int.toNat).count u) (i:Int)
 |[],out,_=>by simp[gC]
 |t::ts,out,h=>by
  show((gC (po out i t) i ts)[u]?).getD []=_
  rw[DV i u ts (po out i t) (fun x hx=>by rw[yC];exact h x (List.mem_cons_of_mem _ hx))]
  have ht:=h t (List.mem_cons_self ..)
  have e:((po out i t)[u]?).getD []=((out[u]?).getD [])++(if t.toNat=u then [(i:Int)] else []):=by
   unfold po
   rw[List.getElem?_set]
   by_cases e:t.toNat=u
   ·subst e
    rw[if_pos rfl,if_pos ht,if_pos rfl]
    rfl
   ·rw[if_neg e,if_neg e,List.append_nil]
  rw[e,List.map_cons,List.count_cons,List.append_assoc]
  congr 1
  by_cases e:t.toNat=u
  ·rw[if_pos e]
   simp[e,List.replicate_succ]
  ·rw[if_neg e]
   simp[e]
theorem yj {tss:List (List Int)} {n:Nat} (h: ∀ts∈tss,∀t∈ts,t.toNat<n) (u:Nat): ∀k,((upto n tss k)[u]?).getD []=rowOf tss u k
 |0=>by
  unfold upto rowOf
  rw[List.getElem?_replicate]
  split<;>rfl
 |k+1=>by
  unfold upto rowOf
  cases hk:tss[k]? with
  |none=>
   dsimp only
   rw[yj h u k]
   simp
  |some ts=>
   dsimp only
   rw[DV k u ts _ (fun t ht=>by rw[n7];exact h ts (di hk) t ht),yj h u k]
   rfl
theorem sG {tss:List (List Int)} (h: ∀ts∈tss,∀t∈ts,t.toNat<tss.length) {u:Nat} {ps:List Int} (hp:(bm tss)[u]? =some ps):ps=rowOf tss u tss.length:=by
 have:=yj h u tss.length
 unfold bm at hp
 rw[hp] at this
 exact this
def tC (tss:List (List Int)) (u k:Nat):Nat:=(((tss[k]?).getD []).map Int.toNat).count u
theorem qG (tss:List (List Int)) (u:Nat) (f:Int→Bool): ∀k,((rowOf tss u k).filter f).length=((List.range k).map fun i:Nat=>if f (i:Int) then tC tss u i else 0).sum
 |0=>rfl
 |k+1=>by
  unfold rowOf
  rw[List.filter_append,List.length_append,qG tss u f k,List.range_succ,List.map_append,List.sum_append_nat]
  congr 1
  simp only[List.map_cons,List.map_nil,List.sum_cons,List.sum_nil,Nat.add_zero]
  rw[List.filter_replicate]
  unfold tC
  split<;>simp
theorem td (tss:List (List Int)) (u k:Nat):(rowOf tss u k).length=((List.range k).map fun i=>tC tss u i).sum:=by
 have:=qG tss u (fun _=>true) k
 rw[List.filter_eq_self.2 (fun _ _=>rfl)] at this
 simpa using this
theorem uv (f:Nat→Bool) (g:Nat→Nat): ∀l:List Nat,(l.map fun i=>if f i then g i else 0).sum=((l.filter f).map g).sum
 |[]=>rfl
 |x::l=>by
  rw[List.map_cons,List.sum_cons,uv f g l,List.filter_cons]
  cases f x<;>simp
theorem CM {l m:List Nat} (h:l.Perm m) (g:Nat→Nat):(l.map g).sum=(m.map g).sum:=by
 induction h with
 |nil=>rfl
 |cons x _ ih=>simp[ih]
 |swap x y l=>simp;omega
 |trans _ _ a b=>exact a.trans b
theorem x1 {tss tss':List (List Int)} {ord:List Nat} (nd:ord.Nodup) (hlt: ∀x∈ord,x<tss.length) (hl:tss'.length=ord.length)
  (hts: ∀(i k:Nat),ord[i]? =some k→ ∃ts ts',tss[k]? =some ts∧tss'[i]? =some ts'∧ts'.length=ts.length∧ ∀(j:Nat) (t t':Int),ts[j]? =some t→ts'[j]? =some t'→0≤t'∧ord[t'.toNat]? =some t.toNat)
  {i k:Nat} (hk:ord[i]? =some k) (f:Int→Bool) (hf: ∀x:Nat,x<tss.length→(f (x:Int)=true↔x∈ord)):(rowOf tss' i tss'.length).length=((rowOf tss k tss.length).filter f).length:=by
 rw[td,qG,uv (fun i=>f (i:Int))]
 have e1:(List.range tss'.length).map (fun j=>tC tss' i j)=ord.map (fun j=>tC tss k j):=by
  refine List.ext_getElem? fun j=> ?_
  rw[List.getElem?_map,List.getElem?_map]
  rcases Nat.lt_or_ge j ord.length with hj|hj
  ·have ho:ord[j]? =some ord[j]:=aQ hj
   rw[List.getElem?_range (by omega),ho]
   simp only[Option.map_some]
   congr 1
   obtain⟨ts,ts',h1,h2,h3,h4⟩:=hts j _ ho
   unfold tC
   rw[h1,h2]
   simp only[Option.getD_some]
   have:ts'.map (fun t=>decide (t.toNat=i))=ts.map (fun t=>decide (t.toNat=k)):=by
    refine List.ext_getElem? fun q=> ?_
    rw[List.getElem?_map,List.getElem?_map]
    rcases Nat.lt_or_ge q ts.length with hq|hq
    ·have a1:ts[q]? =some ts[q]:=aQ hq
     have a2:ts'[q]? =some (ts'[q]'(by omega)):=aQ (by omega)
     obtain⟨_,b2⟩:=h4 q _ _ a1 a2
     rw[a1,a2]
     simp only[Option.map_some]
     congr 1
     refine decide_eq_decide.2 ⟨fun h=> ?_,fun h=> ?_⟩
     ·rw[h,hk] at b2;cases b2;rfl
     ·rw[h] at b2
      have l1:=(bY.mp b2).1
      have l2:=(bY.mp hk).1
      have m1:=(bY.mp b2).2
      have m2:=(bY.mp hk).2
      exact(List.getElem_inj nd).1 (m1.trans m2.symm)
    ·rw[List.getElem?_eq_none (by omega),List.getElem?_eq_none (by omega)]
     rfl
   have c1: ∀(l:List Int) (u:Nat),(l.map Int.toNat).count u=(l.map (fun t=>decide (t.toNat=u))).count true:=by
    intro l u
    induction l with
    |nil=>rfl
    |cons x l ih=>simp[List.count_cons,ih]
   rw[c1,c1,this]
  ·rw[List.getElem?_eq_none (by simp;omega),List.getElem?_eq_none (by omega)]
   rfl
 rw[e1]
 refine CM ?_ _
 refine(List.perm_ext_iff_of_nodup nd (List.Pairwise.filter _ List.nodup_range)).2 fun x=> ?_
 rw[List.mem_filter,List.mem_range]
 constructor
 ·intro h
  exact⟨hlt x h,(hf x (hlt x h)).2 h⟩
 ·rintro⟨h1,h2⟩
  exact(hf x h1).1 h2
end Go.AI.Edge
namespace Go.Proofs.YtdkdbjecehcekaaGreatDoor
open Go.AI
theorem Lv {n0:Nat} {h:ae} {v:Value} {xs:List (Int×(Bool×Int))} (a:cj jN n0 h v xs):v= .slice none 0 0∧xs=[]∨ ∃b s,v= .slice (some ⟨b,0,none⟩) xs.length xs.length∧h.tr.get b=some (.aA (jN.flat xs) false 3 s)∧n0≤b:=by
 rcases a with⟨h1,h2⟩|⟨b,s,h1,h2,_,h3⟩
 ·exact .inl ⟨h2,h1⟩
 ·exact .inr ⟨b,s,h1,h2,h3⟩
def kv (ats:List Int) (a:Int):Bool:=decide (0≤(ats[a.toNat]?).getD (-1))
def Pk (h:ae) (ats:List Int) (ps:List Int) (row:List (Bool×Int)) (ai:Nat) (e:Env) (m:Nat) (e':Env) (h':ae):Prop:=
 ∃(j:Nat) (L:SV) (rl:List (Int×(Bool×Int))),m=row.length-j∧j≤row.length∧aC [15,16,17,18,64,65,66,67,68,69,70,71,72,73,74,75,76,77,78,79,80,81,82,83,84,85,86,87] e e'∧Env.get e' 64= .int .i64 j∧Env.get e' 15=L.v∧ab aG h h'∧cj jN h.next h' L.v rl∧(∀x∈rl,gO ai x.2)∧rl.length=((ps.take j).filter (kv ats)).length
theorem x1 {h:ae} (ok:bh h) {n dA d8 c8 k ai sA s8 o8:Nat} {ats:List Int} {ws:List SV} {wk A:SV} {ps:List Int} {row:List (Bool×Int)} (hn:n≤1000) (hA:h.tr.get dA=some (.aA (aY.flat ats) false 0 sA)) (hal:ats.length=n) (h8:h.tr.get d8=some (.aA (mf.flat ws) false o8 s8)) (hws:ws[k]? =some wk) (hkn:k<n)
  (hps:SliceR nR 1 h wk.v ps) (hpr: ∀p∈ps,0≤p∧p<n) (hrow:SliceR vR 2 h A.v row) (hv: ∀v∈row,gO ai v) (hl:row.length=ps.length) (hpl:ps.length<1000000)
  {e:Env} {Q:aO→Env→ae→Prop} (f5:Env.get e 5= .slice (some ⟨dA,0,none⟩) n n) (f8:Env.get e 8= .slice (some ⟨d8,0,none⟩) n c8) (f11:Env.get e 11= .int .i64 k) (f15:Env.get e 15=eg.v) (f62:Env.get e 62=A.v) (f63:Env.get e 63= .int .i64 row.length) (f64:Env.get e 64= .int .i64 0)
  (C: ∀e' h' L rl,ab aG h h'→aC [15,16,17,18,64,65,66,67,68,69,70,71,72,73,74,75,76,77,78,79,80,81,82,83,84,85,86,87] e e'→Env.get e' 15=SV.v L→cj jN h.next h' (SV.v L) rl→(∀x∈rl,gO ai x.2)→rl.length=(ps.filter (kv ats)).length→Q (.exit 6) e' h'):
  az FF (.loop lg) e h Q:=by
 have hAl:=SliceR.len hrow
 have hwl:=SliceR.len hps
 refine az.loop (Pk h ats ps row ai e) ?_ (n:=row.length) ⟨0,eg,[],rfl,by omega,aC.refl _ _,f64,f15,.refl ok,.inl ⟨rfl,rfl⟩,fun x hx=>by simp at hx,by simp⟩
 rintro m e' h' ⟨j,L,rl,rfl,hj,K,q64,q15,g,hacc,hrv,hrl⟩
 have q5:=K.at (by decide) f5
 have q8:=K.at (by decide) f8
 have q11:=K.at (by decide) f11
 have q62:=K.at (by decide) f62
 have q63:=K.at (by decide) f63
 unfold lg
 by_cases hjl:j<row.length
 ·have wj:=wrap_i64 ((j:Int)+1) (by omega) (by omega)
  have hx:row[j]? =some row[j]:=aQ hjl
  have hm:=List.getElem_mem hjl
  generalize row[j]=v at hx hm
  have hp:ps[j]? =some (ps[j]'(by omega)):=aQ (by omega)
  have hpm:=List.getElem_mem (l:=ps) (n:=j) (by omega)
  generalize ps[j]'(by omega)=a at hp hpm
  obtain⟨ha0,han⟩:=hpr a hpm
  obtain⟨u,rfl⟩: ∃u:Nat,a=u:=⟨a.toNat,by omega⟩
  have hun:u<n:=by omega
  obtain⟨b1,off1,c1,hAa,_,_,rfl,o1,hrd1⟩:=SliceR.later ok hrow hx
  obtain⟨b2,off2,c2,hwa,_,_,rfl,o2,hrd2⟩:=SliceR.later ok hps hp
  have r1:=hrd1 h' g 0 2 (by decide)
  have r2:=hrd2 h' g 0 1 (by decide)
  have hA':=g.get ok hA (fun h=>h)
  have h8':=g.get ok h8 (fun h=>h)
  obtain⟨t,ht⟩: ∃t,ats[u]? =some t:=⟨_,aQ (by omega)⟩
  have rt:=iN hA' ht
  have rw8:=uH h8' hws
  have hjp:j<ps.length:=by omega
  have ob1:=g.bl o1
  have ob2:=g.bl o2
  have oA:=g.ok.bl hA'
  have o8:=g.ok.bl h8'
  simp[-ag] at r1 r2 rw8
  rw[hwa,hwl] at rw8
  simp at q62 q15
  rw[hAa,hAl] at q62
  have htk:(ps.take (j+1)).filter (kv ats)=(ps.take j).filter (kv ats)++(if kv ats u then [(u:Int)] else []):=by
   rw[List.take_add_one,hp,List.filter_append]
   cases hq:kv ats u<;>simp[hq]
  have hkt:kv ats u=decide (0≤t):=by simp[kv,ht]
  by_cases ht0:0≤t
  ·simp[q5,q8,q11,q15,q62,q63,q64,hjl,r1,r2,rw8,rt,hkn,hun,hjp,ht0,-ag,aq,bg,aL,ob1,ob2,oA,o8]
   have gv:ab aG h' (put (aH h' [.bool false,.int .i64 0] 0) h'.next 0 [.bool false,.int .i64 0] [.bool v.1,.int .i64 v.2] 0):=(ab.refl g.ok).var _ _
   obtain⟨h2,e2⟩: ∃h2,h2=put (aH h' [.bool false,.int .i64 0] 0) h'.next 0 [.bool false,.int .i64 0] [.bool v.1,.int .i64 v.2] 0:=⟨_,rfl⟩
   have hn2:h2.next=h'.next+1:=by rw[e2];rfl
   rw[←e2] at gv ⊢
   have g2:=g.trans gv
   have g3:=aI g2.ok (jN.enc (t,v)) 0
   simp only[Kr] at g3
   have hA3:=(hacc.grow g.ok gv (fun _ _ h=>h)).grow g2.ok g3 (fun _ _ h=>h)
   have hw3:aS jN (aH h2 [.int .i64 t,.bool v.1,.int .i64 v.2] 0) (.slice (some ⟨h2.next,0,none⟩) 1 1) [(t,v)]:=⟨_,_,rfl,.inr ⟨h2.next,0,_,_,_,_,rfl,bH _ _ _,by simp,by simp⟩⟩
   have hrl2:rl.length≤j:=by
    rw[hrl]
    exact Nat.le_trans (List.length_filter_le _ _) (by simp;omega)
   have ln:=g2.next
   obtain⟨v',h5,ha5,hA5,g5,hd5⟩:=qn (bytes:=24) g3.ok (z:=[.int .i64 0,.bool false,.int .i64 0]) rfl hA3 hw3 (by omega) (by decide) (by simp;omega)
   rw[hn2] at ha5
   refine jV ha5 ?_
   obtain⟨V,rfl⟩:=cj.MG hA5
   have lo: ∀b,av L.v b→h.next≤b:=fun b hb=>hacc.of hb
   simp[q64,wj]
   refine⟨row.length-(j+1),by omega,j+1,V,rl++[(t,v)],rfl,by omega,?_,by simp,by simp,(g2.trans g3).trans' g5 (fun _ _ h=>h) (fun x hx e=>by have:=lo x e;omega),hA5,fun x hx=> ?_,?_⟩
   ·repeat (refine aC.set (by decide) ?_)
    exact K
   ·rcases List.mem_append.1 hx with h1|h1
    ·exact hrv x h1
    ·simp at h1;subst h1;exact hv v hm
   ·rw[htk,hkt];simp[ht0,hrl]
  ·simp[q5,q8,q11,q15,q62,q63,q64,hjl,r1,r2,rw8,rt,hkn,hun,hjp,ht0,wj,-ag,aq,bg,aL,ob1,ob2,oA,o8]
   refine⟨row.length-(j+1),by omega,j+1,L,rl,rfl,by omega,?_,by simp,by simp[q15],g.trans ((ab.refl g.ok).var _ _),hacc.grow g.ok ((ab.refl g.ok).var _ _) (fun _ _ h=>h),hrv,?_⟩
   ·repeat (refine aC.set (by decide) ?_)
    exact K
   ·rw[htk,hkt];simp[ht0,hrl]
 ·have:j=row.length:=by omega
  subst this
  rw[hl,List.take_length] at hrl
  simp[q63,q64]
  exact C _ _ L rl g (K.set (by decide)) (by simp[q15]) hacc hrv hrl
def QB (h:ae) (P:SV) (qs:List (Int×SV)) (i ai n X sX:Nat) (xc:List Value) (dst:Int) (e:Env) (m:Nat) (e':Env) (h':ae):Prop:=
 ∃(j:Nat) (F:SV) (vl:List (Bool×Int)),m=n-j∧j≤n∧aC [20,97,98,99,100,101,102,103,104,105,106,107,108,109,110,111,112,113,114,115,116] e e'∧Env.get e' 97= .int .i64 j∧ab (av P.v) h h'∧h'.tr.get X=some (.aA xc false 0 sX)∧eJ iK h' P (qs.set i (dst,F))∧cj bU h.next h' F.v vl∧vl.length=j∧ ∀v∈vl,gO ai v
theorem Hg {h:ae} (ok:bh h) {P L T:SV} {kind:Int} {on:Bool×Int} {qs:List (Int×SV)} {i ai X sX d n sd:Nat} {dst:Int} {q0:Int×SV} {xs:List (Int×(Bool×Int))} (hP:eJ iK h P (qs.set i (dst,eg))) (hq:qs[i]? =some q0) (hX:h.tr.get X=some (.aA [P.v,L.v,.int .i64 kind,.bool on.1,.int .i64 on.2,T.v] false 0 sX)) (hPX: ¬av P.v X)
  (hd:h.tr.get d=some (.aA (jN.flat xs) false 3 sd)) (hPd: ¬av P.v d) (hn:xs.length=n) (hn2:n<1000000) (hv: ∀x∈xs,gO ai x.2)
  {e:Env} {Q:aO→Env→ae→Prop} (f12:Env.get e 12= .pointer (some ⟨X,0,none⟩)) (f13:Env.get e 13= .int .i64 i) (f95:Env.get e 95= .slice (some ⟨d,0,none⟩) n n) (f96:Env.get e 96= .int .i64 n) (f97:Env.get e 97= .int .i64 0)
  (C: ∀e' h' F vl,aC [20,97,98,99,100,101,102,103,104,105,106,107,108,109,110,111,112,113,114,115,116] e e'→ab (av P.v) h h'→h'.tr.get X=some (.aA [P.v,L.v,.int .i64 kind,.bool on.1,.int .i64 on.2,T.v] false 0 sX)→eJ iK h' P (qs.set i (dst,F))→cj bU h.next h' (SV.v F) vl→vl.length=n→(∀v∈vl,gO ai v)→Q (.exit 8) e' h'):
  az FF (.loop iY) e h Q:=by
 have hil:=(bY.mp hq).1
 refine az.loop (QB h P qs i ai n X sX [P.v,L.v,.int .i64 kind,.bool on.1,.int .i64 on.2,T.v] dst e) ?_ (n:=n) ⟨0,eg,[],rfl,by omega,aC.refl _ _,f97,.refl ok,hX,hP,.inl ⟨rfl,rfl⟩,rfl,fun v hv=>by simp at hv⟩
 rintro m e' h' ⟨j,F,vl,rfl,hj,K,q97,g,hX',hP',hA,hvl,hvv⟩
 have q12:=K.at (by decide) f12
 have q13:=K.at (by decide) f13
 have q95:=K.at (by decide) f95
 have q96:=K.at (by decide) f96
 have ok':=g.ok
 unfold iY
 by_cases hjl:j<n
 ·have wj:=wrap_i64 ((j:Int)+1) (by omega) (by omega)
  obtain⟨x,hx⟩: ∃x,xs[j]? =some x:=⟨_,aQ (by omega)⟩
  have hd':=g.get ok hd hPd
  have rx:=bq hd' hx
  have hqi:(qs.set i (dst,F))[i]? =some (dst,F):=by rw[List.getElem?_set,if_pos rfl,if_pos hil]
  obtain⟨b,cs,o,s,hPa,hb,hiA,hfit,hrd,hset⟩:=hP'.el hqi
  have r1:=hrd 1 1 (by decide)
  simp[-ag] at r1
  have hPl:=hP'.len
  simp at hPl
  have hX2:=hX'
  simp at hX2
  rw[hPa,hPl] at hX2
  have oX:=ok'.bl hX'
  have ob:=ok'.bl hb
  have od:=ok'.bl hd'
  have hst:=ok'.st _ _ _ _ _ hX'
  have nX: ¬X=b:=fun e=>hPX (e▸bN hPa)
  have hif:i<qs.length:=hil
  simp[q12,q13,q95,q96,q97,hjl,rx,r1,hif,-ag,aq,bg,aL,dt,oX,ob,od,aw hX2,aB]
  obtain⟨h2,e2⟩: ∃h2,h2=tick (put (aH h' [.int .i64 0,.bool false,.int .i64 0] 0) h'.next 0 [.int .i64 0,.bool false,.int .i64 0] [.int .i64 x.1,.bool x.2.1,.int .i64 x.2.2] 0):=⟨_,rfl⟩
  have gv:ab aG h' h2:=by rw[e2];exact((ab.refl ok').var _ _).tick
  have hn2':h2.next=h'.next+1:=by rw[e2];rfl
  rw[←e2]
  have g3:=aI gv.ok (bU.enc x.2) 0
  simp only[rU] at g3
  have hA3:=(hA.grow ok' gv (fun _ _ h=>h)).grow gv.ok g3 (fun _ _ h=>h)
  have hw3:aS bU (aH h2 [.bool x.2.1,.int .i64 x.2.2] 0) (.slice (some ⟨h2.next,0,none⟩) 1 1) [x.2]:=⟨_,_,rfl,.inr ⟨h2.next,0,_,_,_,_,rfl,bH _ _ _,by simp,by simp⟩⟩
  have ln:=g.next
  obtain⟨v',h5,ha5,hA5,g5,hd5⟩:=qn (bytes:=16) g3.ok (z:=[.bool false,.int .i64 0]) rfl hA3 hw3 (by omega) (by decide) (by simp;omega)
  rw[hn2'] at ha5
  refine yV ha5 ?_
  obtain⟨V,rfl⟩:=cj.MG hA5
  have lo: ∀y,av F.v y→h.next≤y:=fun y hy=>hA.of hy
  have lb:b<h.next:=by
   have:=hP.bl ok (bN hPa)
   exact this
  have lX:X<h.next:=ok.wf _ _ hX
  have hX5:=g5.get g3.ok (g3.get gv.ok (gv.get ok' hX' (fun h=>h)) (fun h=>h)) (fun h=>by have:=lo X h;omega)
  have hb5:=g5.get g3.ok (g3.get gv.ok (gv.get ok' hb (fun h=>h)) (fun h=>h)) (fun h=>by have:=lo b h;omega)
  simp at hX5
  rw[hPa,hPl] at hX5
  have hst':sX≤h'.clock+1:=by omega
  have hf:=hfit 1 1 (by decide)
  simp at hf
  simp[hX5,hst',hif,hb5,hf,q97,wj]
  have gw:ab (· =b) h5 (put h5 b (i*2+1) cs [.slice V.a V.l V.c] o):=aJ g5.ok hb5
  have hPf:=hset (dst,V) 1 [V.v] (by simp) rfl (put h5 b (i*2+1) cs [.slice V.a V.l V.c] o) ⟨_,ax _ _ _ _ _ _⟩
  rw[List.set_set] at hPf
  have g15:ab (av P.v) h h5:=((g.trans gv.aW).trans g3.aW).trans' g5 (fun _ _ h=>h) (fun y hy e=>by have:=lo y e;omega)
  have lV: ∀y,av V.v y→h.next≤y:=fun y hy=>by have:=hd5 y hy;simp at this;omega
  refine⟨n-(j+1),by omega,j+1,V,vl++[x.2],rfl,by omega,?_,by simp,g15.trans (gw.bM (fun y _ e=>e▸bN hPa)),?_,hPf,hA5.grow g5.ok gw (fun y hy e=>by have:=lV y hy;omega),by simp[hvl],fun v hv'=> ?_⟩
  ·repeat (refine aC.set (by decide) ?_)
   exact K
  ·have:=gw.get g5.ok hX5 nX
   simpa [hPa,hPl] using this
  ·rcases List.mem_append.1 hv' with h1|h1
   ·exact hvv v h1
   ·simp at h1;subst h1;exact hv x (di hx)
 ·have:j=n:=by omega
  subst this
  simp[q96,q97]
  exact C _ _ F vl (K.set (by decide)) g hX' hP' hA hvl hvv
def Ext (κ cap κ' cap':Nat→Nat):Prop:= ∀b,κ b≠0→κ' b=κ b∧cap' b=cap b
theorem Ext.refl (κ cap:Nat→Nat):Ext κ cap κ cap:=fun _ _=>⟨rfl,rfl⟩
theorem Ext.trans {κ cap κ1 cap1 κ2 cap2:Nat→Nat} (a:Ext κ cap κ1 cap1) (b:Ext κ1 cap1 κ2 cap2):Ext κ cap κ2 cap2:=fun x hx=>by
 obtain⟨h1,h2⟩:=a x hx
 obtain⟨h3,h4⟩:=b x (by omega)
 exact⟨by omega,by omega⟩
theorem VA.ext {κ cap κ' cap':Nat→Nat} {A:SV} (w:VA κ cap A) (e:Ext κ cap κ' cap'):VA κ' cap' A:=w.congr (fun b hb=>by have:=e b (by omega);omega)
section
variable {h h':ae} {n0 ai:Nat} {κ cap:Nat→Nat} {rs:List XR}
theorem cy.Pd (w0:cy h n0 ai κ cap rs) (hn:n0≤h.next) (w:cy h' n0 ai κ cap rs) (ok:bh h') {F:SV} {vl:List (Bool×Int)} (hA:cj bU h.next h' F.v vl) (hv: ∀v∈vl,gO ai v):
  ∃κ' cap',cy h' n0 ai κ' cap' rs∧VA κ' cap' F∧Ext κ cap κ' cap'∧F.l=vl.length∧ ∀b,b<h.next→κ' b=κ b:=by
 rcases hA with⟨rfl,e⟩|⟨b,s,e,hb,hx,hbn⟩
 ·simp at e
  exact⟨κ,cap,w,⟨by omega,.inl ⟨e.1,e.2.2⟩⟩,Ext.refl _ _,by simp[e.2.1],fun _ _=>rfl⟩
 ·simp at e
  have hκb:κ b=0:=by
   rcases Nat.eq_zero_or_pos (κ b) with h|h
   ·exact h
   ·have:=(w0.new b (by omega)).2;omega
  have ne: ∀b',κ b'≠0→b≠b':=fun b' hb' e=>hb' (e▸hκb)
  have ext:Ext κ cap (xE κ F 1) (xE cap F vl.length):=fun b' hb'=>⟨ji e.1 (ne b' hb'),ji e.1 (ne b' hb')⟩
  refine⟨xE κ F 1,xE cap F vl.length,⟨fun i r hr=>(w.r i r hr).congr ext,w.dP,w.dL,w.dT,fun b' hb'=> ?_,fun b' hb'=> ?_⟩,⟨by omega,.inr ⟨b,e.1,mJ e.1,by rw[mJ e.1,e.2.2]⟩⟩,ext,e.2.1,fun b' hb'=>ji e.1 (by omega)⟩
  ·by_cases e1:b=b'
   ·subst e1
    exact⟨vl,_,s,hb,.inr rfl,by rw[mJ e.1],hv⟩
   ·rw[ji e.1 e1] at hb' ⊢
    exact w.V b' hb'
  ·by_cases e1:b=b'
   ·subst e1
    exact⟨by omega,ok.wf _ _ hb⟩
   ·rw[ji e.1 e1] at hb'
    exact w.new b' hb'
def LQ (r:XR):XR:= { r with P:=eg,ps:=[] }
theorem cy.drop (w:cy h n0 ai κ cap rs) {i:Nat} {r:XR} (hr:rs[i]? =some r):cy h n0 ai κ cap (rs.set i (LQ r)):=by
 have hi:=(bY.mp hr).1
 have R:=w.r i r hr
 refine⟨fun j x hx=> ?_,?_,eM (f:=(·.L)) hr w.dL rfl,eM (f:=(·.T)) hr w.dT rfl,w.V,w.new⟩
 ·rw[List.getElem?_set] at hx
  by_cases e1:i=j
  ·rw[if_pos e1,if_pos hi] at hx
   cases hx
   exact⟨eJ.nil _ _,R.L,R.T,fun b hb=>(fz rfl hb).elim,R.kL,R.kT,fun p hp=>(List.not_mem_nil hp).elim,R.ls,R.on⟩
  ·rw[if_neg e1] at hx
   exact w.r j x hx
 ·intro i' j ri rj b h1 h2 hn hb hb2
  rw[List.getElem?_set] at h1 h2
  by_cases e1:i=i'
  ·rw[if_pos e1,if_pos hi] at h1;cases h1;exact fz rfl hb
  ·rw[if_neg e1] at h1
   by_cases e2:i=j
   ·rw[if_pos e2,if_pos hi] at h2;cases h2;exact fz rfl hb2
   ·rw[if_neg e2] at h2
    exact w.dP i' j ri rj b h1 h2 hn hb hb2
theorem cy.Mo (w:cy h n0 ai κ cap rs) (ok:bh h) {P:SV} (g:ab (av P.v) h h') (hk: ∀b,av P.v b→κ b=3) (hd: ∀(i:Nat) (r:XR),rs[i]? =some r→ ∀b,av P.v b→ ¬av r.P.v b):cy h' n0 ai κ cap rs:=by
 refine⟨fun i r hr=>(w.r i r hr).grow ok g (fun b hb=>⟨hd i r hr b hb,fun h=>by have:=hk b hb;have:=(w.r i r hr).kL b h;omega,fun h=>by have:=hk b hb;have:=(w.r i r hr).kT b h;omega⟩),w.dP,w.dL,w.dT,w.V.grow ok g (fun b hb=>by have:=hk b hb;omega),fun b hb=>by have:=w.new b hb;have:=g.next;omega⟩
theorem cy.Pm {i:Nat} {r:XR} {P:SV} {ps:List (Int×SV)} (w:cy h n0 ai κ cap rs) (hr:rs[i]? =some r) (hP:eJ iK h P ps) (hk: ∀b,av P.v b→κ b=3) (hd: ∀(j:Nat) (r:XR),rs[j]? =some r→i≠j→ ∀b,av P.v b→ ¬av r.P.v b) (hps: ∀p∈ps,(0≤p.1∧p.1<ai)∧VA κ cap p.2):
  cy h n0 ai κ cap (rs.set i { r with P:=P,ps:=ps }):=by
 have hi:=(bY.mp hr).1
 have R:=w.r i r hr
 refine⟨fun j x hx=> ?_,?_,eM (f:=(·.L)) hr w.dL rfl,eM (f:=(·.T)) hr w.dT rfl,w.V,w.new⟩
 ·rw[List.getElem?_set] at hx
  by_cases e1:i=j
  ·rw[if_pos e1,if_pos hi] at hx
   cases hx
   exact⟨hP,R.L,R.T,hk,R.kL,R.kT,hps,R.ls,R.on⟩
  ·rw[if_neg e1] at hx
   exact w.r j x hx
 ·intro i' j ri rj b h1 h2 hn hb hb2
  rw[List.getElem?_set] at h1 h2
  by_cases e1:i=i'
  ·rw[if_pos e1,if_pos hi] at h1;cases h1
   rw[if_neg (by omega)] at h2
   exact hd j rj h2 (by omega) b hb hb2
  ·rw[if_neg e1] at h1
   by_cases e2:i=j
   ·rw[if_pos e2,if_pos hi] at h2;cases h2
    exact hd i' ri h1 e1 b hb2 hb
   ·rw[if_neg e2] at h2
    exact w.dP i' j ri rj b h1 h2 hn hb hb2
end
structure KB (h1:ae) (κ0:Nat→Nat) (n dA d8 n8:Nat) (ats:List Int) (ws:List SV) (ah:List (List Int)):Prop where
 nn:n≤1000
 hA: ∃s,h1.tr.get dA=some (.aA (aY.flat ats) false 0 s)
 al:ats.length=n
 acc:jx aY n8 h1 d8 ws ah
 κA:κ0 dA=0
 low: ∀b,κ0 b≠0→b<n8
 rows:wz n ah
 short: ∀ps∈ah,ps.length<50
theorem KB.at {h1 h':ae} {κ0:Nat→Nat} {n dA d8 n8:Nat} {ats:List Int} {ws:List SV} {ah:List (List Int)} (k:KB h1 κ0 n dA d8 n8 ats ws ah) (ok:bh h1) (g:ab (fun b=>κ0 b≠0) h1 h'):KB h' κ0 n dA d8 n8 ats ws ah:=by
 obtain⟨s,hA⟩:=k.hA
 exact⟨k.nn,⟨s,g.get ok hA (fun h=>h k.κA)⟩,k.al,k.acc.grow ok g (fun b hb h=>by have:=k.low b h;omega),k.κA,k.low,k.rows,k.short⟩
def Gj (κ cap:Nat→Nat) (m:Nat) (q p:Int×SV):Prop:=q.1=p.1∧VA κ cap q.2∧q.2.l=m
def Ch:aj:=(.seq (.ops [f_ 90 0 12,l_ 91 90,m_ 92 13,a_ 93 2 91 92,f_ 94 1 93,u_ (.store 1 (t_ 94) (.const (.slice none 0 0)))]) (.seq (.ops [m_ 95 15,z_ 96 95,k_ 97 0]) (.block 8 (.loop iY))))
theorem Hy:pD= .seq (.ops [B_ 57 .lss 56 55]) (.seq (.cond (t_ 57) .skip (.exit 4)) (.seq (.block 5 (.seq (.ops [m_ 58 56,a_ 59 2 54 56,L_ 60 2 59,o_ 14 (.alloc [(.int .i64 0),(.slice none 0 0)]),m_ 13 58,s_ 2 14 60]) (.seq (.ops [o_ 15 (.mv (.const (.slice none 0 0)))]) (.seq (.seq (.ops [f_ 61 1 14,l_ 62 61,z_ 63 62,k_ 64 0]) (.block 6 (.loop lg))) (.seq (.ops [m_ 88 15,F_ 89 74 [t_ 88,(.func 75)]]) Ch))))) (.ops [C_ 117 .add 56 1,m_ 56 117]))):=rfl
def KpT:List Nat:=[20,90,91,92,93,94,95,96,97,98,99,100,101,102,103,104,105,106,107,108,109,110,111,112,113,114,115,116]
theorem L0 {h:ae} (ok:bh h) {κ cap:Nat→Nat} {n0 ai X sX j n:Nat} {P L T:SV} {kind:Int} {on:Bool×Int} {rsD:List XR} {qs:List (Int×SV)} {q:Int×SV} {Lr:SV} {xs:List (Int×(Bool×Int))} (O:cy h n0 ai κ cap rsD) (hn0:n0≤h.next) (hP:eJ iK h P qs) (hq:qs[j]? =some q) (hX:h.tr.get X=some (.aA [P.v,L.v,.int .i64 kind,.bool on.1,.int .i64 on.2,T.v] false 0 sX)) (hPX: ¬av P.v X)
  (hPκ: ∀b,av P.v b→κ b=3) (hdP: ∀(i:Nat) (x:XR),rsD[i]? =some x→ ∀b,av P.v b→ ¬av x.P.v b) (hL:Lr.v= .slice none 0 0∧xs=[]∨ ∃d sd,Lr.v= .slice (some ⟨d,0,none⟩) xs.length xs.length∧h.tr.get d=some (.aA (jN.flat xs) false 3 sd)∧ ¬av P.v d) (hv: ∀x∈xs,gO ai x.2) (hn:xs.length=n) (hn2:n<1000000)
  {e:Env} {Q:aO→Env→ae→Prop} (f12:Env.get e 12= .pointer (some ⟨X,0,none⟩)) (f13:Env.get e 13= .int .i64 j) (f15:Env.get e 15=Lr.v)
  (C: ∀e' h' κ' cap' F,aC KpT e e'→ab (av P.v) h h'→h'.tr.get X=some (.aA [P.v,L.v,.int .i64 kind,.bool on.1,.int .i64 on.2,T.v] false 0 sX)→Ext κ cap κ' cap'→(∀b,b<h.next→κ' b=κ b)→cy h' n0 ai κ' cap' rsD→eJ iK h' P (qs.set j (q.1,F))→VA κ' cap' F→F.l=n→Q .normal e' h'):az FF Ch e h Q:=by
 have hjl:=(bY.mp hq).1
 obtain⟨b,cs,o,s,hPa,hb,hjA,hfit,hrd,hset⟩:=hP.el hq
 have hPl:=hP.len
 have hX2:=hX
 simp at hX2
 rw[hPa,hPl] at hX2
 have hf:=hfit 1 1 (by decide)
 simp at hf
 have gw:ab (· =b) h (put h b (j*2+1) cs [.slice none 0 0] o):=aJ ok hb
 have gP:ab (av P.v) h (put h b (j*2+1) cs [.slice none 0 0] o):=gw.bM (fun x _ e=>e▸bN hPa)
 have hP5:=hset (q.1,eg) 1 [.slice none 0 0] (by simp) rfl (put h b (j*2+1) cs [.slice none 0 0] o) ⟨_,ax _ _ _ _ _ _⟩
 have O5:=O.Mo ok gP hPκ hdP
 have hX5:=gP.get ok hX hPX
 unfold Ch
 rcases hL with⟨e1,rfl⟩|⟨d,sd,e1,hd,hPd⟩
 ·rw[e1] at f15
  simp at hn
  simp[f12,f13,f15,hX2,hjl,hb,hf]
  rw[kG]
  unfold iY
  simp
  refine C _ _ κ cap eg ?_ gP hX5 (Ext.refl _ _) (fun _ _=>rfl) O5 hP5 ⟨Nat.le_refl _,.inl ⟨rfl,rfl⟩⟩ hn
  repeat (refine aC.set (by decide) ?_)
  exact aC.refl _ _
 ·rw[e1,hn] at f15
  have hd5:=gP.get ok hd hPd
  simp[f12,f13,f15,hX2,hjl,hb,hf]
  refine Hg gP.ok (ai:=ai) (q0:=q) hP5 hq hX5 hPX hd5 hPd hn hn2 hv (by simp[f12]) (by simp[f13]) (by simp) (by simp) (by simp) ?_
  intro e6 h6 F vl K6 g6 hX6 hP6 hA6 hvl hvv
  have O6:=O5.Mo gP.ok g6 hPκ hdP
  obtain⟨κ',cap',O7,hVA,E7,hFl,hlow⟩:=O5.Pd (by have:=gP.next;omega) O6 g6.ok hA6 hvv
  simp
  refine C _ _ κ' cap' F (aC.trans ?_ (K6.bM (by decide))) (gP.trans g6) hX6 E7 (fun b hb=>hlow b hb) O7 hP6 hVA (by omega)
  repeat (refine aC.set (by decide) ?_)
  exact aC.refl _ _
def NI:List Nat:=[13,14,15,16,17,18,20,56,57,58,59,60,61,62,63,64,65,66,67,68,69,70,71,72,73,74,75,76,77,78,79,80,81,82,83,84,85,86,87,88,89,90,91,92,93,94,95,96,97,98,99,100,101,102,103,104,105,106,107,108,109,110,111,112,113,114,115,116,117]
def OF (hS:ae) (κ0 κ1 cap1:Nat→Nat) (n0 ai X sX k m0:Nat) (r:XR) (rs:List XR) (xc:List Value) (e:Env) (m:Nat) (e':Env) (h':ae):Prop:=
 ∃(j:Nat) (κ cap:Nat→Nat) (qs:List (Int×SV)),m=r.ps.length-j∧j≤r.ps.length∧aC NI e e'∧Env.get e' 56= .int .i64 j∧ab (fun b=>κ0 b=3) hS h'∧h'.tr.get X=some (.aA xc false 0 sX)∧Ext κ1 cap1 κ cap∧(∀b,b<hS.next→κ b=κ1 b)∧cy h' n0 ai κ cap (rs.set k (LQ r))∧eJ iK h' r.P qs∧qs.length=r.ps.length∧
  ∀(i:Nat) (q p:Int×SV),qs[i]? =some q→r.ps[i]? =some p→(i<j→Gj κ cap m0 q p)∧(j≤i→q=p)
theorem Im {hS:ae} (okS:bh hS) {κ0 κ1 cap1:Nat→Nat} {n dA d8 n8 n0 ai X sX k:Nat} {ats:List Int} {ws:List SV} {ah:List (List Int)} (B:KB hS κ0 n dA d8 n8 ats ws ah) {rs:List XR} {r:XR} (hr:rs[k]? =some r) (O:cy hS n0 ai κ1 cap1 rs) (hn0:n0≤hS.next) (h01: ∀b,κ0 b≠0→κ1 b=κ0 b)
  (hP3: ∀b,av r.P.v b→κ0 b=3) (hX:hS.tr.get X=some (.aA [r.P.v,r.L.v,.int .i64 r.kind,.bool r.on.1,.int .i64 r.on.2,r.T.v] false 0 sX)) (κX:κ0 X=0) {wk:SV} {pk:List Int} (hwk:ws[k]? =some wk) (hpk:ah[k]? =some pk) (hps: ∀p∈r.ps,p.2.l=pk.length) (hpl:r.ps.length<1000000) (hkn:k<n)
  {e:Env} {Q:aO→Env→ae→Prop} (f5:Env.get e 5= .slice (some ⟨dA,0,none⟩) n n) (f8:Env.get e 8= .slice (some ⟨d8,0,none⟩) n n) (f11:Env.get e 11= .int .i64 k) (f12:Env.get e 12= .pointer (some ⟨X,0,none⟩)) (f54:Env.get e 54=r.P.v) (f55:Env.get e 55= .int .i64 r.ps.length) (f56:Env.get e 56= .int .i64 0)
  (C: ∀e' h' κ cap qs,aC NI e e'→ab (fun b=>κ0 b=3) hS h'→h'.tr.get X=some (.aA [r.P.v,r.L.v,.int .i64 r.kind,.bool r.on.1,.int .i64 r.on.2,r.T.v] false 0 sX)→Ext κ1 cap1 κ cap→(∀b,b<hS.next→κ b=κ1 b)→cy h' n0 ai κ cap (rs.set k { r with ps:=qs })→qs.length=r.ps.length→(∀(i:Nat) (q p:Int×SV),qs[i]? =some q→r.ps[i]? =some p→Gj κ cap (pk.filter (kv ats)).length q p)→Q (.exit 4) e' h'):
  az FF (.loop pD) e hS Q:=by
 have hkl:=(bY.mp hr).1
 have R:=O.r k r hr
 have hPl:=R.P.len
 have hP1: ∀b,av r.P.v b→κ1 b=3:=fun b hb=>by have:=hP3 b hb;rw[h01 b (by omega),this]
 have hdP: ∀(i:Nat) (x:XR),(rs.set k (LQ r))[i]? =some x→ ∀b,av r.P.v b→ ¬av x.P.v b:=by
  intro i x hx b hb
  rw[List.getElem?_set] at hx
  by_cases e1:k=i
  ·rw[if_pos e1,if_pos hkl] at hx;cases hx;exact fun h=>fz rfl h
  ·rw[if_neg e1] at hx
   exact O.dP k i r x b hr hx e1 hb
 refine az.loop (OF hS κ0 κ1 cap1 n0 ai X sX k (pk.filter (kv ats)).length r rs [r.P.v,r.L.v,.int .i64 r.kind,.bool r.on.1,.int .i64 r.on.2,r.T.v] e) ?_ (n:=r.ps.length)
  ⟨0,κ1,cap1,r.ps,rfl,by omega,aC.refl _ _,f56,.refl okS,hX,Ext.refl _ _,fun _ _=>rfl,O.drop hr,R.P,rfl,fun i q p h1 h2=>⟨fun h=>by omega,fun _=>by rw[h1] at h2;cases h2;rfl⟩⟩
 rintro m e' h' ⟨j,κ,cap,qs,rfl,hj,K,q56,g,hX',E1,hlow1,O',hP',hql,H⟩
 have ok':=g.ok
 have q5:=K.at (by decide) f5
 have q8:=K.at (by decide) f8
 have q11:=K.at (by decide) f11
 have q12:=K.at (by decide) f12
 have q54:=K.at (by decide) f54
 have q55:=K.at (by decide) f55
 have hPκ: ∀b,av r.P.v b→κ b=3:=fun b hb=>by have:=hP1 b hb;rw[(E1 b (by omega)).1,this]
 have B':=B.at okS (g.bM (fun x _ h=>by show κ0 x≠0;omega))
 rw[Hy]
 by_cases hjl:j<r.ps.length
 ·have wj:=wrap_i64 ((j:Int)+1) (by omega) (by omega)
  obtain⟨p,hp⟩: ∃p,r.ps[j]? =some p:=⟨_,aQ hjl⟩
  obtain⟨q,hq⟩: ∃q,qs[j]? =some q:=⟨_,aQ (by omega)⟩
  have eqp:=(H j q p hq hp).2 (Nat.le_refl _)
  subst eqp
  have hqm:=di hp
  have hql2:=hps q hqm
  have hVA:=(R.ps q hqm).2.ext E1
  obtain⟨row,hrow,hrl,hrv⟩:=VA.row hVA O'.V
  obtain⟨b,cs,o,s,hPa,hb,hjA,hfit,hrd,hset⟩:=hP'.el hq
  have hP'l:=hP'.len
  have r0:=hrd 0 2 (by decide)
  simp[-ag] at r0
  simp at q54
  rw[hPa,hP'l,hql] at q54
  simp[q54,q55,q56,hjl,r0,-ag,aq]
  refine az.cut (fun h1=>ab aG h' h1) ((ab.refl ok').var _ _) ?_
  intro h2 g2
  have B2:=B'.at ok' (g2.bM (fun _ _ h=>h.elim))
  obtain⟨sA,hA2⟩:=B2.hA
  obtain⟨s8,h82⟩:=B2.acc.aA
  have hpsl:=B.short pk (di hpk)
  refine x1 g2.ok (n:=n) (c8:=n) (k:=k) (A:=q.2) (ai:=ai) B.nn hA2 B.al h82 hwk hkn (B9 B2.acc hwk hpk) ((B.rows.row k pk hpk).2) (hrow.mono ok' g2 fun _ _ h=>h) hrv (by omega) (by omega) (by simp[q5]) (by simp[q8]) (by simp[q11]) (by simp[eg]) (by simp) (by simp[hrl]) (by simp) ?_
  intro e3 h3 L rl g3 K3 k15 hacc hrlv hrll
  have gg3:ab aG h' h3:=g2.trans g3
  have hX3:=gg3.get ok' hX' (fun h=>h)
  have hb3:=gg3.get ok' hb (fun h=>h)
  have O3:=O'.aW ok' gg3
  have hP3':=hP'.aW ok' gg3
  have m12:=K3.at (t:=12) (by decide) (by simp;exact q12)
  have m13:Env.get e3 13= .int .i64 j:=K3.at (t:=13) (by decide) (by simp)
  have m56:=K3.at (t:=56) (by decide) (by simp;exact q56)
  have K3':aC NI e e3:=by
   refine aC.trans ?_ (K3.bM (by decide))
   repeat (refine aC.set (by decide) ?_)
   exact K
  have lP: ∀x,av r.P.v x→x<h'.next:=fun x hx=>hP'.bl ok' hx
  have lb:=lP b (bN hPa)
  have lX:X<h'.next:=ok'.wf _ _ hX'
  have nXb: ¬X=b:=fun e=>by have:=hP3 b (bN hPa);rw[e] at κX;omega
  have l3:=gg3.next
  
  have behind: ∀(h4:ae) (xs:List (Int×(Bool×Int))),ab (fun x=>h'.next≤x) h3 h4→(∀x∈xs,gO ai x.2)→xs.length=rl.length→(L.v= .slice none 0 0∧xs=[]∨ ∃d sd,L.v= .slice (some ⟨d,0,none⟩) xs.length xs.length∧h4.tr.get d=some (.aA (jN.flat xs) false 3 sd)∧h'.next≤d)→
    cy h4 n0 ai κ cap (rs.set k (LQ r))∧eJ iK h4 r.P qs∧ab (fun b=>κ0 b=3) hS h4∧h4.tr.get X=some (.aA [r.P.v,r.L.v,.int .i64 r.kind,.bool r.on.1,.int .i64 r.on.2,r.T.v] false 0 sX)∧h4.tr.get b=some (.aA cs false o s):=by
   intro h4 xs g4 _ _ _
   have hκ: ∀x,h'.next≤x→κ x=0:=fun x hx=>by
    rcases Nat.eq_zero_or_pos (κ x) with h|h
    ·exact h
    ·have:=(O'.new x (by omega)).2;omega
   refine⟨O3.grow gg3.ok g4 (fun x hx=> .inl (hκ x hx)),hP3'.grow gg3.ok g4 (fun x hx h=>by have:=lP x hx;omega),(g.trans (gg3.bM (fun _ _ h=>h.elim))).trans' g4 (fun _ _ h=>h) (fun x hx h=>by have:=g.next;omega),g4.get gg3.ok hX3 (by omega),g4.get gg3.ok hb3 (by omega)⟩
  have post: ∀(h4:ae) (e4:Env) (xs:List (Int×(Bool×Int))) (Q2:aO→Env→ae→Prop),ab (fun x=>h'.next≤x) h3 h4→(∀x∈xs,gO ai x.2)→xs.length=rl.length→(L.v= .slice none 0 0∧xs=[]∨ ∃d sd,L.v= .slice (some ⟨d,0,none⟩) xs.length xs.length∧h4.tr.get d=some (.aA (jN.flat xs) false 3 sd)∧h'.next≤d)→
    Env.get e4 12= .pointer (some ⟨X,0,none⟩)→Env.get e4 13= .int .i64 j→Env.get e4 15=L.v→Env.get e4 56= .int .i64 j→aC NI e e4→
    (∀e6 h6 κ6 cap6 qs6,Env.get e6 56= .int .i64 j→aC NI e e6→ab (fun b=>κ0 b=3) hS h6→h6.tr.get X=some (.aA [r.P.v,r.L.v,.int .i64 r.kind,.bool r.on.1,.int .i64 r.on.2,r.T.v] false 0 sX)→Ext κ1 cap1 κ6 cap6→(∀b,b<hS.next→κ6 b=κ1 b)→cy h6 n0 ai κ6 cap6 (rs.set k (LQ r))→eJ iK h6 r.P qs6→qs6.length=r.ps.length→
     (∀(i:Nat) (q p:Int×SV),qs6[i]? =some q→r.ps[i]? =some p→(i<j+1→Gj κ6 cap6 (pk.filter (kv ats)).length q p)∧(j+1≤i→q=p))→Q2 .normal e6 h6)→az FF Ch e4 h4 Q2:=by
   intro h4 e4 xs Q2 g4 hxv hxl hLx k12 k13 k15' k56 K4 HQ
   obtain⟨O4,hP4,G4,hX4,hb4⟩:=behind h4 xs g4 hxv hxl hLx
   refine L0 g4.ok (n:=xs.length) O4 (by have:=G4.next;omega) hP4 hq hX4 (fun h=>by have:=hP3 X h;omega) hPκ hdP (by
    rcases hLx with h|⟨d,sd,h1,h2,h3⟩
    ·exact .inl h
    ·exact .inr ⟨d,sd,h1,h2,fun h=>by have:=lP d h;omega⟩) hxv rfl (by have:=List.length_filter_le (kv ats) pk;omega) k12 k13 k15' ?_
   intro e6 h6 κ6 cap6 F K6 g6 hX6 E6 hlow6 O6 hP6 hVF hFl
   refine HQ e6 h6 κ6 cap6 (qs.set j (q.1,F)) (K6.at (by decide) k56) (K4.trans (K6.bM (by decide))) (G4.trans (g6.bM (fun x _ h=>hP3 x h))) hX6 (E1.trans E6) (fun b hb=>by rw[hlow6 b (by have:=G4.next;omega),hlow1 b hb]) O6 hP6 (by simp[hql]) (fun i a c h1 h2=> ?_)
   rw[List.getElem?_set] at h1
   by_cases ei:j=i
   ·subst ei
    rw[if_pos rfl,if_pos (by omega)] at h1
    cases h1
    rw[hp] at h2;cases h2
    exact⟨fun _=>⟨rfl,hVF,by show F.l=_;omega⟩,fun h=>by omega⟩
   ·rw[if_neg ei] at h1
    obtain⟨a1,a2⟩:=H i a c h1 h2
    refine⟨fun h=> ?_,fun h=>a2 (by omega)⟩
    obtain⟨c1,c2,c3⟩:=a1 (by omega)
    exact⟨c1,c2.ext E6,c3⟩
  have fin: ∀(e6:Env) (h6:ae) (κ6 cap6:Nat→Nat) (qs6:List (Int×SV)),Env.get e6 56= .int .i64 j→aC NI e e6→ab (fun b=>κ0 b=3) hS h6→h6.tr.get X=some (.aA [r.P.v,r.L.v,.int .i64 r.kind,.bool r.on.1,.int .i64 r.on.2,r.T.v] false 0 sX)→Ext κ1 cap1 κ6 cap6→(∀b,b<hS.next→κ6 b=κ1 b)→cy h6 n0 ai κ6 cap6 (rs.set k (LQ r))→eJ iK h6 r.P qs6→qs6.length=r.ps.length→
    (∀(i:Nat) (q p:Int×SV),qs6[i]? =some q→r.ps[i]? =some p→(i<j+1→Gj κ6 cap6 (pk.filter (kv ats)).length q p)∧(j+1≤i→q=p))→ ∃m,m<r.ps.length-j∧OF hS κ0 κ1 cap1 n0 ai X sX k (pk.filter (kv ats)).length r rs [r.P.v,r.L.v,.int .i64 r.kind,.bool r.on.1,.int .i64 r.on.2,r.T.v] e m (Tr.set (Tr.set e6 117 (.int .i64 ((j:Int)+1))) 56 (.int .i64 ((j:Int)+1))) h6:=by
   intro e6 h6 κ6 cap6 qs6 a1 a2 a3 a4 a5 a55 a6 a7 a8 a9
   refine⟨r.ps.length-(j+1),by omega,j+1,κ6,cap6,qs6,rfl,hjl,?_,by simp,a3,a4,a5,a55,a6,a7,a8,a9⟩
   exact aC.set (by decide) (aC.set (by decide) a2)
  simp
  rcases Lv hacc with⟨e1,rfl⟩|⟨d,sd,e1,hd,hdn⟩
  ·rw[e1] at k15
   simp[k15]
   refine aD.call (V:=fun _ h4=>h4=h3) (by simpa using Kn h3 (.func (.func pC) #[] #[])) ?_
   rintro v h4 rfl
   simp
   refine post h4 _ [] _ (.refl gg3.ok) (fun x hx=>by simp at hx) rfl (.inl ⟨e1,rfl⟩) (by simp[m12]) (by simp[m13]) (by rw[e1];simp[k15]) (by simp[m56]) (aC.set (by decide) (aC.set (by decide) K3')) ?_
   intro e6 h6 κ6 cap6 qs6 a1 a2 a3 a4 a5 a55 a6 a7 a8 a9
   simp[a1,wj]
   exact fin e6 h6 κ6 cap6 qs6 a1 a2 a3 a4 a5 a55 a6 a7 a8 a9
  ·rw[e1] at k15
   have hrn:rl.length<50:=by have:=List.length_filter_le (kv ats) pk;omega
   simp[k15]
   refine aD.call (V:=fun _ h4=>SA (fun x=>gO ai x.2) d rl.length 3 h3 h4) (by simpa using IA (P:=fun x=>gO ai x.2) (d:=d) (n:=rl.length) (o:=3) (c:=rl.length) (h0:=h3) MW hrn (h:=h3) ⟨.refl gg3.ok,rl,sd,hd,rfl,hrlv⟩) ?_
   rintro v h4 ⟨g4,xs,sd4,hd4,hxl,hxv⟩
   simp
   refine post h4 _ xs _ (g4.bM (fun x _ e=>by have:=g2.next;omega)) hxv hxl (.inr ⟨d,sd4,by rw[hxl];exact e1,hd4,by have:=g2.next;omega⟩) (by simp[m12]) (by simp[m13]) (by rw[e1];simp[k15]) (by simp[m56]) (aC.set (by decide) (aC.set (by decide) K3')) ?_
   intro e6 h6 κ6 cap6 qs6 a1 a2 a3 a4 a5 a55 a6 a7 a8 a9
   simp[a1,wj]
   exact fin e6 h6 κ6 cap6 qs6 a1 a2 a3 a4 a5 a55 a6 a7 a8 a9
 ·have:j=r.ps.length:=by omega
  subst this
  simp[q55,q56]
  have O2:=O'.Pm (i:=k) (r:=LQ r) (P:=r.P) (ps:=qs) (by rw[List.getElem?_set,if_pos rfl,if_pos hkl]) hP' hPκ (fun i x hx hne b hb=>hdP i x hx b hb) (fun q hq=>by
   obtain⟨i,hi⟩:=pM hq
   have hil:=(bY.mp hi).1
   have hpi:r.ps[i]? =some (r.ps[i]'(by omega)):=aQ (by omega)
   obtain⟨a1,a2,_⟩:=(H i q _ hi hpi).1 (by omega)
   have:=(R.ps _ (di hpi)).1
   exact⟨by rw[a1];exact this,a2⟩)
  rw[List.set_set] at O2
  exact C _ _ κ cap qs (K.set (by decide)) g hX' E1 hlow1 O2 hql (fun i q p h1 h2=>(H i q p h1 h2).1 (bY.mp h2).1)
def QA (h:ae) (n:Nat) (ord:List Nat) (d4:Nat) (e:Env) (m:Nat) (e':Env) (h2:ae):Prop:=
 ∃(j:Nat) (pls:List Int),m=ord.length-j∧j≤ord.length∧Env.get e' 30= .int .i64 j∧aC [30,6,7,31,32,33,34,35,36,37,38,39] e e'∧ab (· =d4) h h2∧(∃s,h2.tr.get d4=some (.aA (aY.flat pls) false 0 s))∧pls.length=n∧(∀i x:Nat,i<j→ord[i]? =some x→pls[x]? =some (i:Int))∧ ∀x,x<n→x∉ord.take j→pls[x]? =some (-1)
theorem L7 {h:ae} (ok:bh h) {n:Nat} {ord:List Nat} (nd:ord.Nodup) (hlt: ∀x∈ord,x<n) (hr:ord.length≤n) (hn:n≤1000) {d4 s4:Nat} {O:SV} (hO:aS aY h O.v (nI ord)) (hOd: ∀b,av O.v b→ord≠[]→b≠d4) (hA:h.tr.get d4=some (.aA (aY.flat (List.replicate n (-1:Int))) false 0 s4))
  {e:Env} {Q:aO→Env→ae→Prop} (f5:Env.get e 5= .slice (some ⟨d4,0,none⟩) n n) (f28:Env.get e 28=O.v) (f29:Env.get e 29= .int .i64 ord.length) (f30:Env.get e 30= .int .i64 0)
  (C: ∀e' h' pls',aC [30,6,7,31,32,33,34,35,36,37,38,39] e e'→ab (· =d4) h h'→(∃s,h'.tr.get d4=some (.aA (aY.flat pls') false 0 s))→pls'.length=n→(∀i x:Nat,ord[i]? =some x→pls'[x]? =some (i:Int))→(∀x,x<n→x∉ord→pls'[x]? =some (-1))→Q (.exit 0) e' h'):
  az FF (.loop pN) e h Q:=by
 have hOl:O.l=ord.length:=by obtain⟨a,cap,e,_⟩:=hO;simp[nI] at e;exact e.2.1
 refine az.loop (QA h n ord d4 e) ?_ (n:=ord.length) ⟨0,_,rfl,by omega,f30,aC.refl _ _,.refl ok,⟨s4,hA⟩,by simp,fun i x h=>by omega,fun x hx _=>by rw[List.getElem?_replicate,if_pos hx]⟩
 rintro m e' h2 ⟨j,pl,rfl,hj,q30,K,g2,⟨s,hA2⟩,hpl,hat,hno⟩
 have q5:=K.at (by decide) f5
 have q28:=K.at (by decide) f28
 have q29:=K.at (by decide) f29
 unfold pN
 by_cases hjl:j<ord.length
 ·obtain⟨x,hx⟩: ∃x,ord[j]? =some x:=⟨_,aQ hjl⟩
  have hxn:=hlt x (di hx)
  have hO2:=xS hO ok g2 (fun hne b hb=>hOd b hb (fun e=>hne (by rw[e];rfl)))
  obtain⟨bO,offO,capO,hOv,_,_,hrd⟩:=hO2.read (Gm hx)
  have ro:=hrd 0 1 (by decide)
  simp[-ag,nI] at ro hOv
  have wj:=wrap_i64 ((j:Int)+1) (by omega) (by omega)
  have hxl:x+1≤pl.length:=by omega
  simp at q28
  rw[hOv.1,hOl] at q28
  simp[q5,q28,q29,q30,hjl,ro,hxn,hA2,hxl,wj,-ag]
  have inj: ∀i,ord[i]? =some x→i=j:=fun i hi=>by
   have h1:=(bY.mp hi).2
   have h2:=(bY.mp hx).2
   exact(List.getElem_inj nd).1 (h1.trans h2.symm)
  refine⟨ord.length-(j+1),by omega,j+1,pl.set x j,rfl,hjl,by simp,?_,g2.trans (aJ g2.ok hA2),⟨h2.clock,by rw[ax,lJ pl x j (by omega)]⟩,by simp[hpl],fun i y hi hy=> ?_,fun y hy hn'=> ?_⟩
  ·repeat (refine aC.set (by decide) ?_)
   exact K
  ·rw[List.getElem?_set]
   by_cases e:x=y
   ·subst e
    rw[if_pos rfl,if_pos (by omega),inj i hy]
   ·rw[if_neg e]
    by_cases e2:i=j
    ·subst e2;rw[hx] at hy;cases hy;exact absurd rfl e
    ·exact hat i y (by omega) hy
  ·rw[List.take_add_one,hx] at hn'
   rw[List.getElem?_set,if_neg (fun e=>hn' (by simp[e]))]
   exact hno y hy (fun h=>hn' (List.mem_append_left _ h))
 ·have:j=ord.length:=by omega
  subst this
  rw[List.take_length] at hno
  simp[q29,q30]
  exact C _ _ pl (K.set (by decide)) g2 ⟨s,hA2⟩ hpl (fun i x hx=>hat i x (bY.mp hx).1 hx) hno
def DO (ats:List Int) (t:Int):Int:=(ats[t.toNat]?).getD (-1)
def Q5:List Nat:=[21,22,122,123,124,125,126,127,128,129,130,131,132,133,134,135,136]
def P8 (h:ae) (n0 ai X sX k:Nat) (κ cap:Nat→Nat) (ats:List Int) (r:XR) (rs:List XR) (xc:List Value) (e:Env) (m:Nat) (e':Env) (h':ae):Prop:=
 ∃(j:Nat) (ts:List Int),m=r.ts.length-j∧j≤r.ts.length∧aC Q5 e e'∧Env.get e' 122= .int .i64 j∧ab (av r.T.v) h h'∧h'.tr.get X=some (.aA xc false 0 sX)∧cy h' n0 ai κ cap (rs.set k { r with ts:=ts })∧ts=(r.ts.take j).map (DO ats)++r.ts.drop j
theorem K9 {h:ae} (ok:bh h) {n dA sA n0 ai X sX k:Nat} {κ cap:Nat→Nat} {ats:List Int} (hA:h.tr.get dA=some (.aA (aY.flat ats) false 0 sA)) (hal:ats.length=n) {rs:List XR} {r:XR} (hr:rs[k]? =some r) (O:cy h n0 ai κ cap rs) (nTA: ¬av r.T.v dA) (hto: ∀t∈r.ts,0≤t∧t<n) (htl:r.ts.length<1000000) (hn:n<1000000)
  (hX:h.tr.get X=some (.aA [r.P.v,r.L.v,.int .i64 r.kind,.bool r.on.1,.int .i64 r.on.2,r.T.v] false 0 sX)) (nTX: ¬av r.T.v X)
  {e:Env} {Q:aO→Env→ae→Prop} (f5:Env.get e 5= .slice (some ⟨dA,0,none⟩) n n) (f12:Env.get e 12= .pointer (some ⟨X,0,none⟩)) (f120:Env.get e 120=r.T.v) (f121:Env.get e 121= .int .i64 r.ts.length) (f122:Env.get e 122= .int .i64 0)
  (C: ∀e' h',aC Q5 e e'→ab (av r.T.v) h h'→h'.tr.get X=some (.aA [r.P.v,r.L.v,.int .i64 r.kind,.bool r.on.1,.int .i64 r.on.2,r.T.v] false 0 sX)→cy h' n0 ai κ cap (rs.set k { r with ts:=r.ts.map (DO ats) })→Q (.exit 10) e' h'):
  az FF (.loop pA) e h Q:=by
 have hkl:=(bY.mp hr).1
 have R:=O.r k r hr
 have hTl:=R.T.len
 have hset0:rs.set k { r with ts:=r.ts } =rs:=by
  refine List.ext_getElem? fun i=> ?_
  rw[List.getElem?_set]
  split
  ·rename_i e;subst e;exact hr.symm
  ·rfl
 refine az.loop (P8 h n0 ai X sX k κ cap ats r rs [r.P.v,r.L.v,.int .i64 r.kind,.bool r.on.1,.int .i64 r.on.2,r.T.v] e) ?_ (n:=r.ts.length) ⟨0,r.ts,rfl,by omega,aC.refl _ _,f122,.refl ok,hX,by rw[hset0];exact O,by simp⟩
 rintro m e' h' ⟨j,ts,rfl,hj,K,q122,g,hX',O',hts⟩
 have q5:=K.at (by decide) f5
 have q12:=K.at (by decide) f12
 have q120:=K.at (by decide) f120
 have q121:=K.at (by decide) f121
 have ok':=g.ok
 unfold pA
 by_cases hjl:j<r.ts.length
 ·have wj:=wrap_i64 ((j:Int)+1) (by omega) (by omega)
  have hx:r.ts[j]? =some r.ts[j]:=aQ hjl
  have hm:=List.getElem_mem hjl
  generalize r.ts[j]=t at hx hm
  obtain⟨ht0,htn⟩:=hto t hm
  obtain⟨u,rfl⟩: ∃u:Nat,t=u:=⟨t.toNat,by omega⟩
  have hun:u<n:=by omega
  have hrk:(rs.set k { r with ts:=ts })[k]? =some { r with ts:=ts } :=by rw[List.getElem?_set,if_pos rfl,if_pos hkl]
  have R':=O'.r k _ hrk
  have hjt:((r.ts.take j).map (DO ats)).length=j:=by simp;omega
  have htsj:ts[j]? =some (u:Int):=by
   rw[hts,List.getElem?_append_right (by omega),hjt,Nat.sub_self,List.getElem?_drop,Nat.add_zero,hx]
  obtain⟨b,cs,o,s,hTa,hb,hjA,hfit,hrd,hset⟩:=R'.T.el htsj
  have hT'l:=R'.T.len
  dsimp only at hTa hT'l hjA
  have r0:=hrd 0 1 (by decide)
  simp[-ag] at r0
  have hA':=g.get ok hA nTA
  obtain⟨a,ha⟩: ∃a,ats[u]? =some a:=⟨_,aQ (by omega)⟩
  have ra:=iN hA' ha
  have htl':ts.length=r.ts.length:=by omega
  have hX2:=hX'
  simp at hX2 q120
  rw[hTa,hTl] at hX2 q120
  have hf:=hfit 0 1 (by decide)
  simp at hf
  have hXn:=aw hX2
  simp[q5,q12,q120,q121,q122,hjl,r0,hX2,hXn,hun,ra,hb,hf,wj,aB,-ag]
  have hTb:ab (av r.T.v) h' (put (tick h') b j cs [.int .i64 a] o):=by
   have gt:ab aG h' (tick h'):=(ab.refl ok').tick
   exact gt.aW.trans ((aJ gt.ok hb).bM (fun x _ e=>e▸bN hTa))
  have hTset:=hset a 0 [.int .i64 a] (by simp) rfl (put (tick h') b j cs [.int .i64 a] o) ⟨(tick h').clock,by have:=ax (tick h') b j cs [.int .i64 a] o;simpa using this⟩
  have O2:=O'.Pz ok' hrk hTb hTset rfl
  rw[List.set_set] at O2
  refine⟨r.ts.length-(j+1),by omega,j+1,ts.set j a,rfl,hjl,?_,by simp,g.trans hTb,hTb.get ok' hX' nTX,O2,?_⟩
  ·repeat (refine aC.set (by decide) ?_)
   exact K
  ·have hnt:DO ats (u:Int)=a:=by simp[DO,ha]
   rw[hts,List.set_append,if_neg (by omega),hjt,Nat.sub_self,List.take_add_one,hx]
   have hd:r.ts.drop j=(u:Int)::r.ts.drop (j+1):=by
    rw[List.drop_eq_getElem_cons hjl]
    have:=(bY.mp hx).2
    rw[this]
   rw[hd,List.set_cons_zero]
   simp[hnt]
 ·have:j=r.ts.length:=by omega
  subst this
  rw[List.take_length,List.drop_length,List.append_nil] at hts
  rw[hts] at O'
  simp[q121,q122]
  exact C _ _ (K.set (by decide)) g hX' O'
theorem zu {h:ae} {A:SV} {xs ys:List XR} (w:eJ fq h A xs) (hl:ys.length=xs.length) (he: ∀(i:Nat) (x y:XR),xs[i]? =some x→ys[i]? =some y→fq.enc y=fq.enc x):eJ fq h A ys:=by
 have hf: ∀rest,fq.flat (ys++rest)=fq.flat (xs++rest):=by
  intro rest
  rw[fq.cX,fq.cX]
  congr 1
  clear w
  induction xs generalizing ys with
  |nil=>rw[List.eq_nil_of_length_eq_zero hl]
  |cons x xs ih=>
   cases ys with
   |nil=>simp at hl
   |cons y ys=>
    rw[fq.dM,fq.dM,he 0 x y rfl rfl,ih (by simpa using hl) (fun i a b h1 h2=>he (i+1) a b h1 h2)]
 obtain⟨hA,w⟩:=w
 refine⟨by omega,?_⟩
 rcases w with⟨h1,h2,rfl⟩|⟨b,o,s,rest,h1,h2,h3,h4⟩
 ·exact .inl ⟨h1,h2,List.eq_nil_of_length_eq_zero hl⟩
 ·exact .inr ⟨b,o,s,rest,h1,by omega,by rw[hf];exact h3,h4⟩
structure KR (ats:List Int) (pk:List Int) (r r':XR):Prop where
 P:r'.P=r.P
 L:r'.L=r.L
 T:r'.T=r.T
 kind:r'.kind=r.kind
 on:r'.on=r.on
 ls:r'.ls=r.ls
 ts:r'.ts=r.ts.map (DO ats)
 pl:r'.ps.length=r.ps.length
 ps: ∀(i:Nat) (q p:Int×SV),r'.ps[i]? =some q→r.ps[i]? =some p→q.1=p.1∧q.2.l=(pk.filter (kv ats)).length
def Pe (h1:ae) (κ0 cap0:Nat→Nat) (n0 ai n F R:Nat) (fc rc:List Value) (B O:SV) (c5 c8:Value) (ats:List Int) (ah:List (List Int)) (ord:List Nat) (rs:List XR) (m:Nat) (e:Env) (h':ae):Prop:=
 ∃(i:Nat) (κ cap:Nat→Nat) (rsC acc:List XR) (A:SV),m=ord.length-i∧i≤ord.length∧Env.get e 2= .pointer (some ⟨F,0,none⟩)∧Env.get e 4= .pointer (some ⟨R,0,none⟩)∧Env.get e 5=c5∧Env.get e 8=c8∧Env.get e 42=O.v∧Env.get e 43= .int .i64 ord.length∧Env.get e 44= .int .i64 i∧Env.get e 9=A.v∧
  ab (fun b=>κ0 b=3∨κ0 b=5) h1 h'∧Ext κ0 cap0 κ cap∧(∀b,b<h1.next→κ b=κ0 b)∧cy h' n0 ai κ cap rsC∧(∀b,av A.v b→κ b=0)∧eJ fq h' B rsC∧rsC.length=n∧cj fq h1.next h' A.v acc∧acc.length=i∧
  (∀(j k:Nat) (a:XR),ord[j]? =some k→acc[j]? =some a→rsC[k]? =some a)∧
  (∀(k:Nat) (r r':XR),rs[k]? =some r→rsC[k]? =some r'→(k∈ord.take i→ ∃pk,ah[k]? =some pk∧KR ats pk r r')∧(k∉ord.take i→r'=r))
theorem Dh {h1:ae} (ok1:bh h1) {κ0 cap0:Nat→Nat} {n dA d8 n8 n0 ai F R sF sR:Nat} {ats:List Int} {ws:List SV} {ah:List (List Int)} (KB1:KB h1 κ0 n dA d8 n8 ats ws ah) {rs:List XR} (hrl:rs.length=n) (hn0:n0≤h1.next) (Os:cy h1 n0 ai κ0 cap0 rs) {B:SV} (hB:eJ fq h1 B rs) (kB: ∀b,av B.v b→κ0 b=2)
  {name:ByteArray} {p r:Int} (hF:h1.tr.get F=some (.aA (ak name p r B) false 0 sF)) (κF:κ0 F=0) (hR:h1.tr.get R=some (.aA [.string ⟨⟨[]⟩⟩,.int .i64 0,.int .i64 0,.slice none 0 0] false 0 sR)) (κR:κ0 R=0) {ord:List Nat} (nd:ord.Nodup) (hlt: ∀x∈ord,x<n) {O:SV} (hO:aS aY h1 O.v (nI ord)) (κO:ord≠[]→ ∀b,av O.v b→κ0 b=0)
  (hto: ∀r∈rs,r.ts.length<1000000∧ ∀t∈r.ts,0≤t∧t<n) (hps: ∀(k:Nat) (r:XR) (pk:List Int),rs[k]? =some r→ah[k]? =some pk→ ∀q∈r.ps,q.2.l=pk.length) (hpl: ∀r∈rs,r.ps.length<1000000)
  {e:Env} {Q:aO→Env→ae→Prop} (f2:Env.get e 2= .pointer (some ⟨F,0,none⟩)) (f4:Env.get e 4= .pointer (some ⟨R,0,none⟩)) (f5:Env.get e 5= .slice (some ⟨dA,0,none⟩) n n) (f8:Env.get e 8= .slice (some ⟨d8,0,none⟩) n n) (f42:Env.get e 42=O.v) (f43:Env.get e 43= .int .i64 ord.length) (f44:Env.get e 44= .int .i64 0) (f9:Env.get e 9=eg.v)
  (C: ∀e' h' κ cap rsC acc A,Env.get e' 2= .pointer (some ⟨F,0,none⟩)→Env.get e' 4= .pointer (some ⟨R,0,none⟩)→Env.get e' 9=SV.v A→ab (fun b=>κ0 b=3∨κ0 b=5) h1 h'→Ext κ0 cap0 κ cap→(∀b,b<h1.next→κ b=κ0 b)→cy h' n0 ai κ cap rsC→(∀b,av (SV.v A) b→κ b=0)→cj fq h1.next h' (SV.v A) acc→acc.length=ord.length→(∀(j k:Nat) (a:XR),ord[j]? =some k→acc[j]? =some a→rsC[k]? =some a)→rsC.length=n→
   (∀(k:Nat) (r r':XR),rs[k]? =some r→rsC[k]? =some r'→k∈ord→ ∃pk,ah[k]? =some pk∧KR ats pk r r')→Q (.exit 2) e' h'):
  az FF (.loop pE) e h1 Q:=by
 have hnn:=KB1.nn
 have hOl:O.l=ord.length:=by obtain⟨a,cap,e,_⟩:=hO;simp[nI] at e;exact e.2.1
 have hordn:ord.length≤n:=by
  have:=List.Nodup.length_le_of_subset nd (l₂:=List.range n) (fun x hx=>List.mem_range.2 (hlt x hx))
  simpa using this
 refine az.loop (Pe h1 κ0 cap0 n0 ai n F R (ak name p r B) [.string ⟨⟨[]⟩⟩,.int .i64 0,.int .i64 0,.slice none 0 0] B O (.slice (some ⟨dA,0,none⟩) n n) (.slice (some ⟨d8,0,none⟩) n n) ats ah ord rs) ?_ (n:=ord.length)
  ⟨0,κ0,cap0,rs,[],eg,rfl,by omega,f2,f4,f5,f8,f42,f43,f44,f9,.refl ok1,Ext.refl _ _,fun _ _=>rfl,Os,fun b hb=>(fz rfl hb).elim,hB,hrl,.inl ⟨rfl,rfl⟩,rfl,fun j k a _ h=>by simp at h,fun k r r' h1 h2=>⟨fun h=>by simp at h,fun _=>by rw[h1] at h2;cases h2;rfl⟩⟩
 rintro m e' h' ⟨i,κ,cap,rsC,acc,A,rfl,hi,q2,q4,q5,q8,q42,q43,q44,q9,g,E1,κlo,O',κA',hB',hrCl,hacc,haccl,hsel,H⟩
 have ok':=g.ok
 unfold pE
 by_cases hil:i<ord.length
 ·have wi:=wrap_i64 ((i:Int)+1) (by omega) (by omega)
  obtain⟨k,hk⟩: ∃k,ord[i]? =some k:=⟨_,aQ hil⟩
  have hkn:=hlt k (di hk)
  obtain⟨r0,hr0⟩: ∃r0,rs[k]? =some r0:=⟨_,aQ (by omega)⟩
  obtain⟨r1,hr1⟩: ∃r1,rsC[k]? =some r1:=⟨_,aQ (by omega)⟩
  have hknot:k∉ord.take i:=by
   intro hm
   obtain⟨j,hj⟩:=pM hm
   rw[List.getElem?_take] at hj
   split at hj
   ·have h1:=(bY.mp hj).2
    have h2:=(bY.mp hk).2
    have:=(List.getElem_inj nd).1 (h1.trans h2.symm)
    omega
   ·cases hj
  have er:=(H k r0 r1 hr0 hr1).2 hknot
  subst er
  have w35: ∀x,(κ0 x=3∨κ0 x=5)→κ0 x≠0:=fun x h=>by omega
  have KB':=KB1.at ok1 (g.bM (fun x _ h=>w35 x h))
  obtain⟨sA,hA'⟩:=KB'.hA
  obtain⟨pk,hpk⟩: ∃pk,ah[k]? =some pk:=⟨_,aQ (by rw[KB1.rows.len];exact hkn)⟩
  obtain⟨wk,hwk⟩: ∃wk,ws[k]? =some wk:=⟨_,aQ (by rw[KB1.acc.len,KB1.rows.len];exact hkn)⟩
  have hO':=xS hO ok1 g (fun hne b hb h=>w35 b h (κO (fun e=>hne (by rw[e];rfl)) b hb))
  obtain⟨bO,offO,capO,hOv,_,_,hrdO⟩:=hO'.read (Gm hk)
  have ro:=hrdO 0 1 (by decide)
  simp[-ag,nI] at ro hOv
  have hF':=g.get ok1 hF (fun h=>w35 F h κF)
  simp[ak] at hF'
  obtain⟨bB,cs,oB,sB,hBa,hBb,hjB,hfit,hrd,hset⟩:=hB'.el hr1
  have hBl:=hB'.len
  have rd0:=hrd 0 6 (by decide)
  simp[-ag] at rd0
  rw[hBa,hBl,hrCl] at hF'
  simp at q42
  rw[hOv.1,hOl] at q42
  have R1:=O'.r k r1 hr1
  have R0:=Os.r k r1 hr0
  have hPl:=R1.P.len
  have hTl:=R1.T.len
  have oF:=ok'.bl hF'
  simp[q2,q42,q43,q44,hil,ro,hF',hkn,rd0,-ag,aq,aw hF',hPl]
  refine az.cut (fun h2=>ab aG h' h2∧ ∃s,h2.tr.get h'.next=some (.aA [r1.P.v,r1.L.v,.int .i64 r1.kind,.bool r1.on.1,.int .i64 r1.on.2,r1.T.v] false 0 s)) ?_ ?_
  ·refine⟨(ab.refl ok').var _ _,h'.clock,?_⟩
   simp[aK,hPl]
  rintro h2 ⟨g2,sX,hX2⟩
  have ln:=g.next
  have κX0:κ0 h'.next=0:=by
   rcases Nat.eq_zero_or_pos (κ0 h'.next) with h|h
   ·exact h
   ·have:=(Os.new h'.next (by omega)).2;omega
  have G2:ab (fun b=>κ0 b=3∨κ0 b=5) h1 h2:=g.trans (g2.bM (fun _ _ h=>h.elim))
  have O2:=O'.aW ok' g2
  have B2:=KB1.at ok1 (G2.bM (fun x _ h=>w35 x h))
  refine Im g2.ok B2 hr1 O2 (by have:=G2.next;omega) (fun b hb=>(E1 b hb).1) (fun b hb=>R0.kP b hb) hX2 κX0 hwk hpk (hps k r1 pk hr0 hpk) (hpl r1 (di hr0)) hkn (by simp[q5]) (by simp[q8]) (by simp) (by simp) (by simp[hPl]) (by simp) (by simp) ?_
  intro e3 h3 κ3 cap3 qs K3 g3 hX3 E3 hlow3 O3 hql3 H3
  have G3:=G2.trans (g3.bM (fun x _ h=>(.inl h:κ0 x=3∨κ0 x=5)))
  have k2:=K3.at (t:=2) (by decide) (by simp;exact q2)
  have k4:=K3.at (t:=4) (by decide) (by simp;exact q4)
  have k5:=K3.at (t:=5) (by decide) (by simp;exact q5)
  have k8:=K3.at (t:=8) (by decide) (by simp;exact q8)
  have k9:=K3.at (t:=9) (by decide) (by simp;exact q9)
  have k12:Env.get e3 12= .pointer (some ⟨h'.next,0,none⟩):=K3.at (t:=12) (by decide) (by simp)
  have k42:=K3.at (t:=42) (by decide) (by simp;exact q42)
  have k43:=K3.at (t:=43) (by decide) (by simp;exact q43)
  have k44:=K3.at (t:=44) (by decide) (by simp;exact q44)
  have hkC:k<rsC.length:=by omega
  obtain⟨r3,er3⟩: ∃r3:XR,r3= { r1 with ps:=qs } :=⟨_,rfl⟩
  rw[←er3] at O3
  have hr3:(rsC.set k r3)[k]? =some r3:=by rw[List.getElem?_set,if_pos rfl,if_pos hkC]
  have nT: ∀b,κ0 b=0→ ¬av r3.T.v b:=fun b hb h=>by
   rw[er3] at h
   have:=R0.kT b h;omega
  obtain⟨sA3,hA3⟩:=(KB1.at ok1 (G3.bM (fun x _ h=>w35 x h))).hA
  have hX3':h3.tr.get h'.next=some (.aA [r3.P.v,r3.L.v,.int .i64 r3.kind,.bool r3.on.1,.int .i64 r3.on.2,r3.T.v] false 0 sX):=by rw[er3];exact hX3
  have hTl3:r3.T.l=r1.ts.length:=by rw[er3];exact hTl
  have hts3:r3.ts=r1.ts:=by rw[er3]
  obtain⟨htl,htr⟩:=hto r1 (di hr0)
  simp at hX3'
  simp[k12,hX3']
  refine K9 G3.ok (n:=n) hA3 KB1.al hr3 O3 (nT _ KB1.κA) (by rw[hts3];exact htr) (by rw[hts3];exact htl) (by omega) (by simpa using hX3') (nT _ κX0) (by simp[k5]) (by simp[k12]) (by simp) (by simp[hTl3,hts3]) (by simp) ?_
  intro e4 h4 K4 g4 hX4 O4
  have G4:ab (fun b=>κ0 b=3∨κ0 b=5) h1 h4:=G3.trans (g4.bM (fun x _ h=>by
   rw[er3] at h
   have:=R0.kT x h;omega))
  have m2:=K4.at (t:=2) (by decide) (by simp;exact k2)
  have m4:=K4.at (t:=4) (by decide) (by simp;exact k4)
  have m5:=K4.at (t:=5) (by decide) (by simp;exact k5)
  have m8:=K4.at (t:=8) (by decide) (by simp;exact k8)
  have m9:=K4.at (t:=9) (by decide) (by simp;exact k9)
  have m12:Env.get e4 12= .pointer (some ⟨h'.next,0,none⟩):=K4.at (t:=12) (by decide) (by simp;exact k12)
  have m42:=K4.at (t:=42) (by decide) (by simp;exact k42)
  have m43:=K4.at (t:=43) (by decide) (by simp;exact k43)
  have m44:=K4.at (t:=44) (by decide) (by simp;exact k44)
  rw[List.set_set] at O4
  obtain⟨r4,er4⟩: ∃r4:XR,r4= { r3 with ts:=r3.ts.map (DO ats) } :=⟨_,rfl⟩
  rw[←er4] at O4
  have hX4':h4.tr.get h'.next=some (.aA (fq.enc r4) false 0 sX):=by rw[er4];exact hX4
  simp only[nB] at hX4'
  simp at hX4' m9
  simp[m9,m12,hX4']
  have hG:ab (fun b=>κ0 b=3∨κ0 b=5) h' h4:=(g2.bM (fun _ _ h=>h.elim)).trans ((g3.bM (fun x _ h=>(.inl h:κ0 x=3∨κ0 x=5))).trans (g4.bM (fun x _ h=>by
   rw[er3] at h
   exact .inr (R0.kT x h))))
  
  have hacc4:cj fq h1.next h4 A.v acc:=by
   exact hacc.grow ok' hG (fun b hb h=>by have:=hacc.of hb;have:=(Os.new b (w35 b h)).2;omega)
  have g5:=aI G4.ok (fq.enc r4) 0
  have hA5:=hacc4.grow G4.ok g5 (fun _ _ h=>h)
  have hw5:aS fq (aH h4 (fq.enc r4) 0) (.slice (some ⟨h4.next,0,none⟩) 1 1) [r4]:=⟨_,_,rfl,.inr ⟨h4.next,0,_,_,_,_,rfl,bH _ _ _,by simp,by simp⟩⟩
  simp only[nB] at g5 hA5 hw5
  simp at g5 hA5 hw5
  have lG4:=G4.next
  obtain⟨v',h6,ha6,hA6,g6,hd6⟩:=qn (bytes:=96) g5.ok (z:=[.slice none 0 0,.slice none 0 0,.int .i64 0,.bool false,.int .i64 0,.slice none 0 0]) rfl hA5 hw5 (by omega) (by decide) (by simp;omega)
  refine jV ha6 ?_
  obtain⟨V,rfl⟩:=cj.MG hA6
  have lA: ∀b,av (.slice A.a A.l A.c) b→h1.next≤b:=fun b hb=>hacc.of (by simpa using hb)
  have G6:ab (fun b=>κ0 b=3∨κ0 b=5) h1 h6:=(G4.trans (g5.bM (fun _ _ h=>h.elim))).trans' g6 (fun _ _ h=>h) (fun x hx h=>by have:=lA x h;omega)
  simp[m44,wi]
  refine⟨ord.length-(i+1),by omega,i+1,κ3,cap3,rsC.set k r4,acc++[r4],V,rfl,by omega,by simp[m2],by simp[m4],by simp[m5],by simp[m8],by simp[m42,hOv.1,hOl],by simp[m43],by simp,by simp,G6,E1.trans E3,fun b hb=>by rw[hlow3 b (by have:=G2.next;omega),κlo b hb],?_,?_,?_,by simp[hrCl],hA6,by simp[haccl],?_,?_⟩
  ·refine(O4.aW G4.ok g5).grow g5.ok g6 (fun b hb=> .inl ?_)
   have hb':av A.v b:=by simpa using hb
   have hbo:=hacc.sl
   have:b<h'.next:=by
    rcases hacc with⟨_,e⟩|⟨b2,s2,e,hb2,_⟩
    ·rw[e] at hb';obtain⟨_,_,_,e3⟩:=hb';cases e3
    ·rw[e] at hb';obtain⟨_,_,_,e3⟩:=hb';cases e3;exact ok'.wf _ _ hb2
   rw[hlow3 b (by have:=g2.next;omega),κA' b hb']
  ·intro b hb
   have:=hd6 b hb
   simp at this
   rcases Nat.eq_zero_or_pos (κ3 b) with h|h
   ·exact h
   ·have:=(O4.new b (by omega)).2;omega
  ·have hBB: ∀b,av B.v b→ ¬(κ0 b=3∨κ0 b=5):=fun b hb h=>by have:=kB b hb;omega
   have hB4:=hB'.grow ok' hG hBB
   have hB6:=(hB4.aW G4.ok g5).grow g5.ok g6 (fun b hb h=>by have:=lA b h;have:=hB.bl ok1 hb;omega)
   refine zu hB6 (by simp) (fun j x y h1 h2=> ?_)
   rw[List.getElem?_set] at h2
   by_cases ej:k=j
   ·subst ej
    rw[if_pos rfl,if_pos hkC] at h2
    cases h2
    rw[hr1] at h1;cases h1
    rw[er4,er3];rfl
   ·rw[if_neg ej] at h2
    rw[h1] at h2;cases h2;rfl
  ·intro j k' a h1 h2
   rw[List.getElem?_set]
   by_cases hj:j<i
   ·rw[List.getElem?_append_left (by omega)] at h2
    have hne: ¬k=k':=fun e=>by
     subst e
     have a1:=(bY.mp h1).2
     have a2:=(bY.mp hk).2
     have:=(List.getElem_inj nd).1 (a1.trans a2.symm)
     omega
    rw[if_neg hne]
    exact hsel j k' a h1 h2
   ·rw[List.getElem?_append_right (by omega)] at h2
    have hj0:j-acc.length=0:=by
     have:=(bY.mp h2).1
     simp at this;omega
    have hji:j=i:=by omega
    subst hji
    rw[hj0] at h2
    simp at h2
    rw[hk] at h1;cases h1
    rw[if_pos rfl,if_pos hkC,h2]
  ·intro k' a c h1 h2
   rw[List.take_add_one,hk]
   rw[List.getElem?_set] at h2
   by_cases ek:k=k'
   ·subst ek
    rw[if_pos rfl,if_pos hkC] at h2
    cases h2
    rw[hr0] at h1;cases h1
    refine⟨fun _=>⟨pk,hpk,?_⟩,fun h=>absurd (List.mem_append_right _ (by simp)) h⟩
    rw[er4,er3]
    exact⟨rfl,rfl,rfl,rfl,rfl,rfl,rfl,hql3,fun i q p a b=>⟨(H3 i q p a b).1,(H3 i q p a b).2.2⟩⟩
   ·rw[if_neg ek] at h2
    obtain⟨c1,c2⟩:=H k' a c h1 h2
    refine⟨fun h=>c1 ?_,fun h=>c2 (fun h'=>h (List.mem_append_left _ h'))⟩
    rcases List.mem_append.1 h with h|h
    ·exact h
    ·simp at h;exact absurd h.symm ek
 ·have:i=ord.length:=by omega
  subst this
  rw[List.take_length] at H
  simp[q43,q44]
  exact C _ _ κ cap rsC acc A (by simp[q2]) (by simp[q4]) (by simp[q9]) g E1 κlo O' κA' hacc haccl hsel hrCl (fun k r r' h1 h2=>(H k r r' h1 h2).1)
theorem cy.sel {h:ae} {n0 ai:Nat} {κ cap:Nat→Nat} {rs xs:List XR} (w:cy h n0 ai κ cap rs) (f:Nat→Nat) (hs: ∀(i:Nat) (x:XR),xs[i]? =some x→rs[f i]? =some x) (hf: ∀i j:Nat,i<xs.length→j<xs.length→f i=f j→i=j):cy h n0 ai κ cap xs:=by
 have dd: ∀(g:XR→SV),(∀(i j:Nat) (ri rj:XR) (b:Nat),rs[i]? =some ri→rs[j]? =some rj→i≠j→av (g ri).v b→ ¬av (g rj).v b)→ ∀(i j:Nat) (ri rj:XR) (b:Nat),xs[i]? =some ri→xs[j]? =some rj→i≠j→av (g ri).v b→ ¬av (g rj).v b:=by
  intro g d i j ri rj b h1 h2 hn
  exact d (f i) (f j) ri rj b (hs i ri h1) (hs j rj h2) (fun e=>hn (hf i j (bY.mp h1).1 (bY.mp h2).1 e))
 exact⟨fun i x hx=>w.r (f i) x (hs i x hx),dd (·.P) w.dP,dd (·.L) w.dL,dd (·.T) w.dT,w.V,w.new⟩
structure M3 (rs:List XR) (ord:List Nat):Prop where
 T:NA (bD rs)
 zE:rs.length≤24
 nd:ord.Nodup
 lt: ∀x∈ord,x<rs.length
 pl: ∀r∈rs,r.ps.length<1000000
 rows: ∀(k:Nat) (r:XR) (pk:List Int),rs[k]? =some r→(Edge.bm (bD rs))[k]? =some pk→ ∀q∈r.ps,q.2.l=pk.length
def Oh (name:ByteArray) (p r:Int) (n0 ai:Nat) (κ0:Nat→Nat) (rs:List XR) (ord:List Nat) (h:ae) (v:Value) (h':ae):Prop:=
 ab (fun b=>κ0 b=3∨κ0 b=5) h h'∧ ∃(B':SV) (rs':List XR) (κ cap:Nat→Nat) (ats:List Int),v= .agg ⟨ak name p r B'⟩∧(∀x,x<h.next→κ x=κ0 x)∧ou h' n0 ai κ cap B' rs'∧rs'.length=ord.length∧ats.length=rs.length∧
  (∀i x:Nat,ord[i]? =some x→ats[x]? =some (i:Int))∧(∀x,x<rs.length→x∉ord→ats[x]? =some (-1))∧
  ∀(i k:Nat) (a b:XR),ord[i]? =some k→rs[k]? =some a→rs'[i]? =some b→ ∃pk,(Edge.bm (bD rs))[k]? =some pk∧KR ats pk a b
theorem qY {tss:List (List Int)} (T:NA tss) (hn:tss.length≤24): ∀ps∈Edge.bm tss,ps.length<50:=by
 intro ps hps
 obtain⟨u,hu⟩:=pM hps
 have h1:=Edge.lL (n:=tss.length) (cT:=tss) T.two u tss.length
 have h2:((Edge.upto tss.length tss tss.length)[u]?).getD []=ps:=by
  show((Edge.bm tss)[u]?).getD []=ps
  rw[hu];rfl
 rw[h2] at h1
 omega
theorem Ko {tss:List (List Int)} (T:NA tss):wz tss.length (Edge.bm tss):=by
 have hto: ∀ts∈tss,∀t∈ts,t.toNat<tss.length:=fun ts hts t ht=>by have:=T.to ts hts t ht;omega
 refine⟨Edge.eA _,fun x ps hps=>⟨?_,fun p hp=> ?_⟩⟩
 ·have h1:=Edge.lL (n:=tss.length) (cT:=tss) T.two x tss.length
  have h2:((Edge.upto tss.length tss tss.length)[x]?).getD []=ps:=by
   show((Edge.bm tss)[x]?).getD []=ps
   rw[hps];rfl
  rw[h2] at h1
  have:=T.len
  omega
 ·have hm:=(Edge.tk hto (u:=x) (x:=p)).1 (by rw[hps];exact hp)
  obtain⟨i,rfl,ts,ht,_⟩:=hm
  have:=(bY.mp ht).1
  omega
theorem Ir {h:ae} (ok:bh h) {name:ByteArray} {p r:Int} {n0 ai:Nat} {κ0 cap0:Nat→Nat} {B O:SV} {rs:List XR} {ord:List Nat} (W:ou h n0 ai κ0 cap0 B rs) (hn0:n0≤h.next) (I:M3 rs ord) (hO:aS aY h O.v (nI ord)) (κO:ord≠[]→ ∀b,av O.v b→κ0 b=0):
  aE FF rS [.agg ⟨ak name p r B⟩,O.v] h (Oh name p r n0 ai κ0 rs ord h):=by
 have hBl:=W.A.len
 have h24:=I.zE
 have hOl:O.l=ord.length:=by obtain⟨a,cap,e,_⟩:=hO;simp[nI] at e;exact e.2.1
 have hordn:ord.length≤rs.length:=by
  have:=List.Nodup.length_le_of_subset I.nd (l₂:=List.range rs.length) (fun x hx=>List.mem_range.2 (I.lt x hx))
  simpa using this
 have κnew: ∀b,h.next≤b→κ0 b=0:=fun b hb=>by
  rcases Nat.eq_zero_or_pos (κ0 b) with h|h
  ·exact h
  ·have:=(W.os.new b (by omega)).2;omega
 refine aE.of Dz ?_
 unfold wL
 have n2: ¬h.next=h.next+1+1:=by omega
 simp[ak,n2]
 refine aD.cut (fun h1=>ab aG h h1∧(∃s,h1.tr.get h.next=some (.aA (ak name p r B) false 0 s))∧(∃s,h1.tr.get (h.next+1)=some (.aA [.string ⟨⟨[]⟩⟩,.int .i64 0,.int .i64 0,.slice none 0 0] false 0 s))∧(∃s,h1.tr.get (h.next+1+1)=some (.aA [.int .i64 (-1)] false 0 s))) ?_ ?_
 ·exact⟨(((ab.refl ok).new _ _).new _ _).new _ _,⟨0,by simp[ak,n2]⟩,⟨0,by simp⟩,⟨0,by simp⟩⟩
 rintro h1 ⟨g1,⟨sF,hF1⟩,⟨sR,hR1⟩,⟨s1,hm1⟩⟩
 refine aD.call (V:=fun v h'=>ab aG h1 h'∧ ∃d s,v= .slice (some ⟨d,0,none⟩) rs.length rs.length∧h1.next≤d∧h'.tr.get d=some (.aA (aY.flat (List.replicate rs.length (-1:Int))) false 0 s)) (by simpa [hBl] using yY g1.ok rs.length (by omega) (x:= -1) hm1) ?_
 rintro _ h2 ⟨g2,dA,sA,rfl,hdA,hA2⟩
 have gg2:=g1.trans g2
 have hF2:=g2.get g1.ok hF1 (fun h=>h)
 have hR2:=g2.get g1.ok hR1 (fun h=>h)
 have lR:=g1.ok.wf _ _ hR1
 simp[hOl]
 refine L7 gg2.ok (n:=rs.length) I.nd I.lt hordn (by omega) (hO.aW ok gg2) (fun b hb hne e=> ?_) hA2 (by simp) (by simp[hOl]) (by simp) (by simp) ?_
 ·subst e
  have hlt:b<h.next:=by
   obtain⟨off,nn,cap',e1⟩:=hb
   obtain⟨a,cap,e2,hx⟩:=hO
   rcases hx with⟨h1,_⟩|⟨b2,off2,cs2,ro2,o2,st2,e3,hb2,_⟩
   ·have:(nI ord).length=0:=by rw[h1];rfl
    simp[nI] at this
    exact absurd this hne
   ·rw[e1,e3] at e2
    injection e2 with e2
    cases e2
    exact ok.wf _ _ hb2
  have:=g1.next
  omega
 intro e3 h3 ats K3 g3 ⟨sA3,hA3⟩ hal hat hno
 have gg3:ab aG h h3:=gg2.trans' g3 (fun _ _ h=>h) (fun x hx e=>by have:=g1.next;omega)
 have hF3:=g3.get gg2.ok hF2 (by omega)
 have hR3:=g3.get gg2.ok hR2 (by omega)
 have W3:=W.aW ok gg3
 obtain⟨bs,hbs,hV⟩:=W3.view
 have E:=hV.ends I.T
 have htos:=hV.cT
 have k1:Env.get e3 1=O.v:=K3.at (t:=1) (by decide) (by simp[hOl])
 have k2:Env.get e3 2= .pointer (some ⟨h.next,0,none⟩):=K3.at (t:=2) (by decide) (by simp)
 have k4:Env.get e3 4= .pointer (some ⟨h.next+1,0,none⟩):=K3.at (t:=4) (by decide) (by simp)
 have k5:Env.get e3 5= .slice (some ⟨dA,0,none⟩) rs.length rs.length:=K3.at (t:=5) (by decide) (by simp)
 simp[ak] at hF3
 simp[k2,hF3]
 refine aD.call (V:=fun v h'=>ab aG h3 h'∧ ∃d ws,v= .slice (some ⟨d,0,none⟩) bs.length bs.length∧jx aY h3.next h' d ws (Edge.bm (aX bs))) (by simpa [ak] using ma gg3.ok (name:=name) (p:=p) (r:=r) hbs E) ?_
 rintro _ h4 ⟨g4,d8,ws,rfl,w8⟩
 rw[htos] at w8
 have hbl:bs.length=rs.length:=hV.1
 rw[hbl]
 have gg4:=gg3.trans g4
 have hF4:=g4.get gg3.ok hF3 (fun h=>h)
 have hR4:=g4.get gg3.ok hR3 (fun h=>h)
 have hA4:=g4.get gg3.ok hA3 (fun h=>h)
 have W4:=W.aW ok gg4
 have htl:(bD rs).length=rs.length:=by simp[bD]
 have RW:=Ko I.T
 rw[htl] at RW
 have ln1:=g1.next
 have ln3:=gg3.next
 have KB1:KB h4 κ0 rs.length dA d8 h3.next ats ws (Edge.bm (bD rs)):=⟨by omega,⟨sA3,hA4⟩,hal,w8,κnew dA (by omega),fun b hb=>by have:=(W.os.new b hb).2;omega,RW,qY I.T (by omega)⟩
 have hto: ∀x∈rs,x.ts.length<1000000∧ ∀t∈x.ts,0≤t∧t<rs.length:=by
  intro x hx
  have hm:x.ts∈bD rs:=List.mem_map.2 ⟨x,hx,rfl⟩
  refine⟨by have:=I.T.two _ hm;omega,fun t ht=> ?_⟩
  have:=I.T.to _ hm t ht
  rw[htl] at this
  exact this
 simp[k1,hOl]
 refine Dh gg4.ok KB1 rfl (by have:=gg4.next;omega) W4.os W4.A W4.kB hF4 (κnew _ (by omega)) hR4 (κnew _ (by omega)) I.nd I.lt (hO.aW ok gg4) κO hto I.rows I.pl (by simp[k2]) (by simp[k4]) (by simp[k5]) (by simp) (by simp[hOl]) (by simp) (by simp) (by simp[eg]) ?_
 intro e5 h5 κ cap rsC acc A q2 q4 q9 g5 E5 κlo O5 κA5 hacc haccl hsel hrCl H5
 have w35: ∀x,(κ0 x=3∨κ0 x=5)→κ0 x≠0:=fun x h=>by omega
 have hF5:=g5.get gg4.ok hF4 (fun h=>w35 _ h (κnew _ (by omega)))
 have hR5:=g5.get gg4.ok hR4 (fun h=>w35 _ h (κnew _ (by omega)))
 simp at q9
 simp[q2,q4,q9,hF5,hR5]
 have ln4:=gg4.next
 have ln5:=g5.next
 have κ0n: ∀x,h.next≤x→x<h4.next→κ x=0:=fun x h1 h2=>by rw[κlo x h2];exact κnew x h1
 have hA5:eJ fq h5 A acc:=by
  rcases hacc with⟨e1,e2⟩|⟨b,s,e2,hb,hx,hbn⟩
  ·simp at e2
   exact⟨by rw[e1];exact e2.2.1,.inl ⟨e2.1,e2.2.2,e1⟩⟩
  ·simp at e2
   exact⟨e2.2.1,.inr ⟨b,_,s,[],e2.1,by simp[e2.2.2],by simpa using hb,.inr rfl⟩⟩
 have selN: ∀(i:Nat) (x:XR),acc[i]? =some x→ ∃k,ord[i]? =some k∧rsC[k]? =some x:=by
  intro i x hx
  have hi:i<ord.length:=by rw[←haccl];exact(bY.mp hx).1
  exact⟨_,aQ hi,hsel i _ x (aQ hi) hx⟩
 have OA:=O5.sel (xs:=acc) (fun i=>(ord[i]?).getD 0) (fun i x hx=>by
  obtain⟨k,h1,h2⟩:=selN i x hx
  rw[h1];exact h2) (fun i j hi hj e=>by
  have hi':i<ord.length:=by omega
  have hj':j<ord.length:=by omega
  rw[aQ hi',aQ hj'] at e
  exact(List.getElem_inj I.nd).1 e)
 have lA: ∀b,av A.v b→h4.next≤b:=fun b hb=>hacc.of hb
 obtain⟨κ',w',e'⟩:=cy.own OA g5.ok hA5 (Nat.le_refl n0) (fun b hb=>⟨by have:=lA b hb;omega,κA5 b hb⟩)
 have κ'0: ∀x,h.next≤x→x<h4.next→κ' x=0:=fun x h1 h2=>by
  rw[e' x (fun hb=>by have:=lA x hb;omega)]
  exact κ0n x h1 h2
 have l2:=g2.next
 have l3:=g3.next
 have l4:=g4.next
 have gw:=((ab.refl g5.ok).put (S:=fun x=>x=h.next∨x=h.next+1) (off:=3) (vs:=[Value.slice A.a A.l A.c]) ⟨_,hF5⟩ (.inr (.inl rfl))).put (b:=h.next+1) (off:=0) (cs:=[Value.string ⟨⟨[]⟩⟩,Value.int IntKind.i64 0,Value.int IntKind.i64 0,Value.slice none 0 0]) (o:=0) (vs:=[Value.string name,Value.int IntKind.i64 p,Value.int IntKind.i64 r,Value.slice A.a A.l A.c]) ⟨sR,by simp[hR5]⟩ (.inr (.inr rfl))
 generalize put (put h5 _ _ _ _ _) _ _ _ _ _=h6 at gw ⊢
 refine⟨?_,A,acc,κ',cap,ats,by simp[ak],fun x hx=>by rw[e' x (fun hb=>by have:=lA x hb;omega),κlo x (by omega)],w'.grow g5.ok gw (fun b hb=> ?_),haccl,hal,hat,hno,fun i k a b h1 h2 h3=> ?_⟩
 ·exact(gg4.trans' g5 (S:=fun b=>κ0 b=3∨κ0 b=5) (fun _ _ h=>h.elim) (fun _ _ h=>h)).trans' gw (fun _ _ h=>h) (fun x hx e=>by omega)
 ·rcases hb with e|e<;>(rw[e];exact κ'0 _ (by omega) (by omega))
 ·exact H5 k a b h2 (hsel i k b h1 h3) (di h1)
theorem vQ {α:Type} (E:Enc α) (ys zs:List α) (i:Nat):aK (E.flat ys) (i*E.sz) (E.flat zs)=E.flat (ys.take i++zs++ys.drop (i+zs.length)):=by
 unfold aK
 rw[E.fF,E.bt,←Nat.add_mul,E.jE,E.cX,E.cX]
def IxI (h:ae) (W:SV) (t:Int) (xs:List Int) (m:Nat) (e:Env) (h2:ae):Prop:=
 ∃j:Nat,m=xs.length-j∧j≤xs.length∧Env.get e 0=W.v∧Env.get e 1= .int .i64 t∧Env.get e 7= .int .i64 xs.length∧Env.get e 8= .int .i64 j∧h2=h∧ ∀k,k<j→xs[k]? ≠some t
theorem C1 {h:ae} {W:SV} {xs:List Int} (hW:aS aY h W.v xs) (hl:xs.length<1000000) {t:Int} (ht:t∈xs):
  aE FF jT [W.v,.int .i64 t] h (fun v h'=>h'=h∧ ∃k:Nat,v= .int .i64 k∧xs[k]? =some t):=by
 have hWl:W.l=xs.length:=by obtain⟨a,cap,e,_⟩:=hW;simp at e;exact e.2.1
 refine aE.of qI ?_
 unfold j4
 simp[hWl]
 refine az.loop (IxI h W t xs) ?_ (n:=xs.length) ⟨0,rfl,by omega,by simp[hWl],by simp,by simp,by simp,rfl,fun k hk=>by omega⟩
 rintro m e h2 ⟨j,rfl,hj,f0,f1,f7,f8,rfl,hn⟩
 unfold jh
 have hjl:j<xs.length:=by
  rcases Nat.lt_or_ge j xs.length with h|h
  ·exact h
  ·obtain⟨k,hk⟩:=pM ht
   exact absurd hk (hn k (by have:=(bY.mp hk).1;omega))
 have wj:=wrap_i64 ((j:Int)+1) (by omega) (by omega)
 obtain⟨x,hx⟩: ∃x,xs[j]? =some x:=⟨_,aQ hjl⟩
 obtain⟨bW,offW,capW,hWv,_,_,hrd⟩:=hW.read hx
 have ro:=hrd 0 1 (by decide)
 simp[-ag] at ro hWv
 simp at f0
 rw[hWv.1,hWl] at f0
 by_cases e1:t=x
 ·subst e1
  simp[f0,f1,f7,f8,hjl,ro,-ag]
  exact⟨j,rfl,hx⟩
 ·have e2:(t==x)=false:=by simp[e1]
  simp[f0,f1,f7,f8,hjl,ro,e2,wj,-ag]
  refine⟨xs.length-(j+1),by omega,j+1,rfl,by omega,by simp[f0,hWv.1,hWl],by simp[f1],by simp[f7],by simp,rfl,fun k hk he=> ?_⟩
  rcases Nat.lt_or_ge k j with h|h
  ·exact hn k h he
  ·have:k=j:=by omega
   subst this
   rw[hx] at he;cases he;exact e1 rfl
def LN (F:SV) (b o:Nat) (vs:List (Bool×Int)) (l:Nat) (y:Bool×Int) (h:ae) (v:Value) (h':ae):Prop:=
 ∃(F':SV) (vs':List (Bool×Int)),v=F'.v∧F'.a=F.a∧F'.l=l∧F'.c=F.c∧ab (· =b) h h'∧(∃s',h'.tr.get b=some (.aA (bU.flat vs') false o s'))∧vs'.length=vs.length∧ ∀v∈vs',v∈vs∨v=y
theorem Kv (y:Bool×Int):bU.flat [y]=[.bool y.1,.int .i64 y.2]:=rfl
theorem ID {h:ae} (ok:bh h) {F:SV} {b o s:Nat} {vs:List (Bool×Int)} (ha:F.a=some ⟨b,0,none⟩) (hc:F.c=vs.length) (hlt:F.l<F.c) (ho:o=0∨o=2) (hb:h.tr.get b=some (.aA (bU.flat vs) false o s))
  {x xo xc xop xs:Nat} {xcs:List Value} {y:Bool×Int} (hx:h.tr.get x=some (.aA xcs false xop xs)) (hv:aT h x xo 2=some [.bool y.1,.int .i64 y.2]) (hbx:b≠x) (i:Nat) (hi:i≤F.l) (hlen:F.l<1000000):
  aE FF fy [F.v,.int .i64 i,.slice (some ⟨x,xo,none⟩) 1 xc] h (LN F b o vs (F.l+1) y h):=by
 have q1:Nat.ble i F.l=true:=by simpa using hi
 have q2:Nat.blt F.l F.c=true:=by simpa using hlt
 have q3:(Nat.beq o 2||Nat.beq o 0)=true:=by rcases ho with rfl|rfl<;>rfl
 have q4:Nat.ble (0+F.c*2) (bU.flat vs).length=true:=by rw[bU.bt,hc];simp
 have q5:Nat.beq b x=false:=by
  cases e:Nat.beq b x with
  |true=>exact absurd (Nat.eq_of_beq_eq_true e) hbx
  |false=>rfl
 have q6:Nat.blt F.l 1000000=true:=by simpa using hlen
 have e1:Go.AI.ay (bU.flat vs) [.bool y.1,.int .i64 y.2] 0 i F.l 2=bU.flat (vs.take i++[y]++(vs.drop i).take (F.l-i)):=by
  have a1:=bU.fF vs i
  have a2:=bU.jE vs i
  have a3:=bU.fF (vs.drop i) (F.l-i)
  simp only[eX] at a1 a2 a3
  unfold Go.AI.ay
  rw[List.drop_zero,a1,Nat.zero_add,a2,a3,bU.cX,bU.cX,Kv]
 have e2:aK (bU.flat vs) 0 (Go.AI.ay (bU.flat vs) [.bool y.1,.int .i64 y.2] 0 i F.l 2)=bU.flat ((vs.take i++[y]++(vs.drop i).take (F.l-i))++vs.drop (F.l+1)):=by
  have:=vQ bU vs (vs.take i++[y]++(vs.drop i).take (F.l-i)) 0
  rw[Nat.zero_mul,List.take_zero,List.nil_append,Nat.zero_add,←e1] at this
  rw[this]
  congr 3
  simp
  omega
 have hp:LX 2 [F.v,.int .i64 i,.slice (some ⟨x,xo,none⟩) 1 xc] h=some (.slice (some ⟨b,0,none⟩) (F.l+1) F.c,{ put h b 0 (bU.flat vs) (Go.AI.ay (bU.flat vs) [.bool y.1,.int .i64 y.2] 0 i F.l 2) o with next:=h.next+8 }):=by
  show LX 2 [.slice F.a F.l F.c,.int .i64 (.ofNat i),.slice (some ⟨x,xo,none⟩) 1 xc] h=_
  rw[ha]
  simp only[LX,hb,hx,q1,q2,q3,q4,q5,q6,Nat.beq_refl,Bool.and_true,Bool.not_false,if_true,hv]
 refine aE.run kj hp ⟨⟨F.a,F.l+1,F.c⟩,(vs.take i++[y]++(vs.drop i).take (F.l-i))++vs.drop (F.l+1),by simp[ha],rfl,rfl,rfl,?_,⟨h.clock,by rw[←e2];simp[put,Tr.aN]⟩,?_,?_⟩
 ·have g:=aJ (off:=0) (vs:=Go.AI.ay (bU.flat vs) [.bool y.1,.int .i64 y.2] 0 i F.l 2) ok hb
  exact⟨Nat.le_add_right _ _,g.clock,fun b' h1 h2=>g.same b' h1 h2,⟨fun b' o' h'=>Nat.lt_of_lt_of_le (g.ok.wf b' o' h') (Nat.le_add_right _ _),g.ok.st⟩⟩
 ·simp
  omega
 ·intro v hv'
  simp only[List.mem_append,List.mem_singleton] at hv'
  rcases hv' with((h1|h1)|h1)|h1
  ·exact .inl (List.mem_of_mem_take h1)
  ·exact .inr h1
  ·exact .inl (List.mem_of_mem_drop (List.mem_of_mem_take h1))
  ·exact .inl (List.mem_of_mem_drop h1)
theorem JM {h:ae} (ok:bh h) {b o s c l k K N:Nat} {vs:List (Bool×Int)} (hc:c=vs.length) (hl:l≤c) (hb:h.tr.get b=some (.aA (bU.flat vs) false o s)) (hk:k<l) (hK:K=k+1) (hN:N=l-1) (hlen:l<1000000):
  ∃h2 vs2,j6 h [.bool false,.int .i64 0] 16 false (.slice (some ⟨b,0,none⟩) k c) (.slice (some ⟨b,K*2,none⟩) (l-K) (c-K))=some (.slice (some ⟨b,0,none⟩) N c,h2)∧ab (· =b) h h2∧(∃s,h2.tr.get b=some (.aA (bU.flat vs2) false o s))∧vs2.length=vs.length∧ ∀v∈vs2,v∈vs:=by
 have hM:((vs.drop K).take (l-K)).length=l-K:=by simp;omega
 have hw:aS bU h (.slice (some ⟨b,K*2,none⟩) (l-K) (c-K)) ((vs.drop K).take (l-K)):=by
  refine⟨_,_,by rw[hM],.inr ⟨b,K*2,_,_,_,_,rfl,hb,?_,?_⟩⟩
  ·rw[hM,bU.bt,eX];omega
  ·have a2:=bU.jE vs K
   have a3:=bU.fF (vs.drop K) (l-K)
   simp only[eX] at a2 a3
   rw[hM,eX,a2,a3]
 unfold j6
 rw[xR (E:=bU) (z:=[.bool false,.int .i64 0]) rfl hw,hM]
 dsimp only
 rcases Nat.eq_zero_or_pos (l-K) with h0|h0
 ·refine⟨h,vs,?_,.refl ok,⟨s,hb⟩,rfl,fun v hv=>hv⟩
  have:N=k:=by omega
  have q:k≤c:=by omega
  rw[h0,this]
  simp[ff,q]
 ·obtain⟨M,hM'⟩: ∃M,M=l-K:=⟨_,rfl⟩
  rw[←hM'] at h0 hM ⊢
  have r1:roomy N=true:=by simp[roomy];omega
  have r2:roomy (N*16)=true:=by simp[roomy];omega
  have q1:N≤c:=by omega
  have q2: ¬M=0:=by omega
  have e1:k+M=N:=by omega
  have hfl:(bU.flat ((vs.drop K).take M)).length=M*2:=by rw[bU.bt,hM,eX]
  have q3:k*2+M*2≤(bU.flat vs).length:=by rw[bU.bt,eX];omega
  have q4:k*2+M*2≤vs.length*2:=by omega
  refine⟨put h b (k*2) (bU.flat vs) (bU.flat ((vs.drop K).take M)) o,vs.take k++(vs.drop K).take M++vs.drop (k+M),?_,aJ ok hb,⟨h.clock,?_⟩,?_,?_⟩
  ·simp[ff,r1,r2,q1,q2,hb,hfl,q4,e1]
  ·rw[ax]
   have:=vQ bU vs ((vs.drop K).take M) k
   rw[hM] at this
   simp only[eX] at this
   rw[this]
  ·simp;omega
  ·intro v hv
   simp only[List.mem_append] at hv
   rcases hv with(h1|h1)|h1
   ·exact List.mem_of_mem_take h1
   ·exact List.mem_of_mem_drop (List.mem_of_mem_take h1)
   ·exact List.mem_of_mem_drop h1
theorem Hw {h:ae} (ok:bh h) {F:SV} {b o s:Nat} {vs:List (Bool×Int)} (ha:F.a=some ⟨b,0,none⟩) (hc:F.c=vs.length) (hl:F.l≤F.c) (ho:o=0∨o=2) (hb:h.tr.get b=some (.aA (bU.flat vs) false o s)) (k:Nat) (hk:k<F.l) (hlen:F.l<1000000):
  aE FF fw [F.v,.int .i64 k,.int .i64 ((k:Int)+1)] h (LN F b o vs (F.l-1) (false,0) h):=by
 obtain⟨K,hK⟩: ∃K,K=k+1:=⟨_,rfl⟩
 obtain⟨N,hN⟩: ∃N,N=F.l-1:=⟨_,rfl⟩
 have eK:((k:Int)+1)=(K:Int):=by omega
 rw[eK]
 have q1:K≤F.l:=by omega
 have q2:k≤K:=by omega
 have q3:((k:Int)==(K:Int))=false:=by simp;omega
 have q4:K≤F.c:=by omega
 have q5:k≤F.l:=by omega
 have q6:k≤F.c:=by omega
 refine aE.of km ?_
 unfold fx
 have q7:(Nat.beq o 0||Nat.beq o 2)=true:=by rcases ho with rfl|rfl<;>rfl
 simp[ha,q1,q2,q3,q4,q5,q6,q7,hl,hb]
 obtain⟨h2,vs2,ea,g2,⟨s2,hb2⟩,hl2,hv2⟩:=JM (N:=N) (bc ok).ok hc hl (by simpa using hb) hk hK hN hlen
 refine yV ea ?_
 have q8:N≤F.l:=by omega
 have q9:N≤F.c:=by omega
 have q10:F.l-N=1:=by omega
 have q11:N*2+2≤vs2.length*2:=by omega
 have hr:gI [Value.bool false,Value.int IntKind.i64 0] 1=[.bool false,.int .i64 0]:=rfl
 simp[q7,q8,q9,q10,q11,hl,hb2,hr]
 have g3:=aJ (off:=N*2) (vs:=[.bool false,.int .i64 0]) g2.ok hb2
 refine⟨⟨some ⟨b,0,none⟩,N,F.c⟩,vs2.set N (false,0),by simp,ha.symm,hN,rfl,((bc ok).aW.trans g2).trans g3,⟨h2.clock,?_⟩,by simp[hl2],fun x hx=> ?_⟩
 ·rw[ax]
  have:=bU.fK vs2 N (false,0) (by omega)
  simp only[eX,rU] at this
  rw[this]
 ·rcases List.mem_or_eq_of_mem_set hx with h|h
  ·exact .inl (hv2 _ h)
  ·exact .inr h
section
variable {h h':ae} {n0 ai:Nat} {κ cap:Nat→Nat} {rs:List XR}
theorem cy.Dt (w:cy h n0 ai κ cap rs) (ok:bh h) {b:Nat} (hk:κ b=1) (g:ab (· =b) h h') {vs:List (Bool×Int)} {o:Nat} (hb: ∃s,h'.tr.get b=some (.aA (bU.flat vs) false o s)) (ho:o=0∨o=2) (hl:vs.length=cap b) (hv: ∀v∈vs,gO ai v):cy h' n0 ai κ cap rs:=by
 refine⟨fun i r hr=>(w.r i r hr).Mj ok g (fun x hx=>by subst hx;omega),w.dP,w.dL,w.dT,fun x hx=> ?_,fun x hx=>by have:=w.new x hx;have:=g.next;omega⟩
 by_cases e:x=b
 ·subst e
  obtain⟨s,hb⟩:=hb
  exact⟨vs,o,s,hb,ho,hl,hv⟩
 ·obtain⟨vs',o',s',h1,h2⟩:=w.V x hx
  exact⟨vs',o',s',g.get ok h1 e,h2⟩
theorem ou.Dt {B:SV} (w:ou h n0 ai κ cap B rs) (ok:bh h) {b:Nat} (hk:κ b=1) (g:ab (· =b) h h') {vs:List (Bool×Int)} {o:Nat} (hb: ∃s,h'.tr.get b=some (.aA (bU.flat vs) false o s)) (ho:o=0∨o=2) (hl:vs.length=cap b) (hv: ∀v∈vs,gO ai v):ou h' n0 ai κ cap B rs:=
 ⟨w.os.Dt ok hk g hb ho hl hv,w.A.grow ok g (fun x hx e=>by have:=w.kB x hx;subst e;omega),w.kB⟩
end
def Bf:aj:=(.draw [D_ (m_ 79 0),(o_ 80 (.bj (t_ 79)),[]),D_ (f_ 81 3 80),D_ (l_ 82 81),D_ (m_ 83 8),D_ (a_ 84 6 82 83),D_ (f_ 85 0 84),D_ (l_ 86 85),D_ (m_ 87 13),D_ (f_ 88 1 14),D_ (l_ 89 88),D_ (m_ 90 9),D_ (m_ 91 9),D_ (C_ 92 .add 91 1),D_ (m_ 94 10),D_ (L_ 95 2 15),(o_ 96 (.ct 1 [(.bool false),(.int .i64 0)] [(0,(2,(t_ 95)))]),[]),(F_ 93 92 [t_ 89,t_ 90,t_ 92],[15,96]),(F_ 97 91 [t_ 93,t_ 94,t_ 96],[81,85]),D_ (a_ 98 2 86 87),D_ (f_ 99 1 98),D_ (s_ 1 99 97)])
theorem FJ:mr=(.seq (.ops [B_ 70 .lss 69 68]) (.seq (.cond (t_ 70) .skip (.exit 4)) (.seq (.block 5 (.seq (.ops [m_ 71 69,a_ 72 2 67 69,L_ 73 2 72,o_ 14 (.alloc [(.int .i64 0),(.slice none 0 0)]),m_ 13 71,s_ 2 14 73]) (.seq (.ops [f_ 74 1 14,l_ 75 74,m_ 76 9,a_ 77 2 75 76,L_ 78 2 77,o_ 15 (.alloc [(.bool false),(.int .i64 0)]),s_ 2 15 78]) Bf))) (.ops [C_ 100 .add 69 1,m_ 69 100])))):=rfl
def Po:List Nat:=[79,80,81,82,83,84,85,86,87,88,89,90,91,92,93,94,95,96,97,98,99]
theorem Jb {h:ae} (ok:bh h) {n0 ai:Nat} {κ cap:Nat→Nat} {B:SV} {rs:List XR} (O:ou h n0 ai κ cap B rs) {F X1 X2 y i k j sF:Nat} {name:ByteArray} {p rg:Int} (hF:h.tr.get F=some (.aA (ak name p rg B) false 0 sF)) (κF:κ F=0) {r:XR} (hr:rs[y]? =some r) {q:Int×SV} (hq:r.ps[i]? =some q)
  (hX1: ∃s,h.tr.get X1=some (.aA [.int .i64 q.1,q.2.v] false 0 s)) (κ1:κ X1=0) {v:Bool×Int} (hX2: ∃s,h.tr.get X2=some (.aA [.bool v.1,.int .i64 v.2] false 0 s)) (κ2:κ X2=0) (hv:gO ai v) (hk:k<q.2.l) (hj:j+1≤q.2.l) (hql:q.2.l<1000000) (hil:r.ps.length<1000000)
  {e:Env} {Q:aO→Env→ae→Prop} (f0:Env.get e 0= .pointer (some ⟨F,0,none⟩)) (f8:Env.get e 8= .int .i64 y) (f9:Env.get e 9= .int .i64 k) (f10:Env.get e 10= .int .i64 j) (f13:Env.get e 13= .int .i64 i) (f14:Env.get e 14= .pointer (some ⟨X1,0,none⟩)) (f15:Env.get e 15= .pointer (some ⟨X2,0,none⟩))
  (C: ∀e' h' F',aC Po e e'→ab (fun b=>κ b=1∨κ b=3) h h'→F'.l=q.2.l→ou h' n0 ai κ cap B (rs.set y { r with ps:=r.ps.set i (q.1,F') })→Q .normal e' h'):az FF Bf e h Q:=by
 obtain⟨s1,hX1⟩:=hX1
 obtain⟨s2,hX2⟩:=hX2
 have R:=O.os.r y r hr
 have hyl:=(bY.mp hr).1
 have hil':=(bY.mp hq).1
 obtain⟨bB,cs,oB,sB,hBa,hBb,hjB,hfit,hrd,hset⟩:=O.A.el hr
 have κB:κ bB=2:=O.kB bB (bN hBa)
 have rd0:=hrd 0 1 (by decide)
 simp[-ag] at rd0
 have hBl':=O.A.len
 have hF2:=hF
 simp[ak] at hF2
 rw[hBa,hBl'] at hF2
 have hstF:=ok.st _ _ _ _ _ hF
 have hstB:=ok.st _ _ _ _ _ hBb
 have hst1:=ok.st _ _ _ _ _ hX1
 have hst2:=ok.st _ _ _ _ _ hX2
 have oF:=ok.bl hF
 have oX2:=ok.bl hX2
 obtain⟨hVl,hVA|⟨b,hVa,hκb,hVc⟩⟩:=(R.ps q (di hq)).2
 ·omega
 obtain⟨vs,o,s,hb,ho,hvl,hvv⟩:=O.os.V b hκb
 have hPl:=R.P.len
 have wk:=wrap_i64 ((k:Int)+1) (by omega) (by omega)
 simp at hX1
 rw[hVa] at hX1
 unfold Bf
 simp[f0,f8,f9,f10,f13,f14,f15,hF2,hyl,rd0,hX1,hX2,wk,-ag,aw hF2,aw hX1,aw hX2,aB,aL,oF,oX2]
 refine aP.cut (fun h2=>ab aG h h2∧h.clock≤h2.clock∧h2.tr.get h.next=some (.aA [.bool v.1,.int .i64 v.2] false 0 0)) ?_ ?_
 ·exact⟨(bc ok).trans (aI (bc ok).ok _ _),Nat.le_succ _,by simp⟩
 rintro h2 ⟨g2,hc2,hY2⟩
 have hb2:=g2.get ok hb (fun h=>h)
 have hBb2:=g2.get ok hBb (fun h=>h)
 have hF2':=g2.get ok hF2 (fun h=>h)
 have hX22:=g2.get ok hX2 (fun h=>h)
 have O2:=O.aW ok g2
 refine aP.call (V:=LN q.2 b o vs (q.2.l-1) (false,0) h2) (by simpa [hVa] using Hw g2.ok (F:=q.2) hVa (by omega) hVl ho hb2 k hk hql) ?_
 rintro _ h3 ⟨F3,vs3,rfl,ha3,hl3,hc3,g3,⟨s3,hb3⟩,hvl3,hvv3⟩
 have O3:=O2.Dt g2.ok hκb g3 ⟨s3,hb3⟩ ho (by omega) (fun v hv=>by
  rcases hvv3 v hv with h|h
  ·exact hvv v h
  ·rw[h];intro h;cases h)
 have nb1: ¬h.next=b:=fun e=>by have:=ok.wf _ _ hb;omega
 have nb2: ¬X2=b:=fun e=>by rw[e] at κ2;omega
 have nbF: ¬F=b:=fun e=>by rw[e] at κF;omega
 have nbB: ¬bB=b:=fun e=>by rw[e] at κB;omega
 have hY3:=g3.get g2.ok hY2 nb1
 have hX23:=g3.get g2.ok hX22 nb2
 have hF3:=g3.get g2.ok hF2' nbF
 have hBb3:=g3.get g2.ok hBb2 nbB
 simp[f15,hX23,hY3,hst2]
 have rY:aT h3 h.next 0 2=some [.bool v.1,.int .i64 v.2]:=by
  rw[cN hY3 (by simp)];rfl
 refine aP.call (V:=LN F3 b o vs3 (F3.l+1) v h3) (by simpa using ID g3.ok (F:=F3) (by rw[ha3,hVa]) (by omega) (by omega) ho hb3 hY3 rY (Ne.symm nb1) j (by omega) (by omega)) ?_
 rintro _ h4 ⟨F4,vs4,rfl,ha4,hl4,hc4,g4,⟨s4,hb4⟩,hvl4,hvv4⟩
 have O4:=O3.Dt g3.ok hκb g4 ⟨s4,hb4⟩ ho (by omega) (fun w hw=>by
  rcases hvv4 w hw with h|h
  ·rcases hvv3 w h with h|h
   ·exact hvv w h
   ·rw[h];intro h;cases h
  ·rw[h];exact hv)
 have hF4:=g4.get g3.ok hF3 nbF
 have hBb4:=g4.get g3.ok hBb3 nbB
 have R4:=(O4.os.r y r hr).P
 obtain⟨bP,csP,oP,sP,hPa,hPb,hjP,hfitP,hrdP,hsetP⟩:=R4.el hq
 have κP:κ bP=3:=R.kP bP (bN hPa)
 have hf1:=hfitP 1 1 (by decide)
 simp at hf1
 have eP:r.P.v= .slice (some ⟨bP,0,none⟩) r.ps.length r.P.c:=by rw[show r.P.v= .slice r.P.a r.P.l r.P.c from rfl,hPa,hPl]
 have gw:ab (· =bP) h4 (put h4 bP (i*2+1) csP [.slice F4.a F4.l F4.c] oP):=aJ g4.ok hPb
 have gw':ab (av r.P.v) h4 (put h4 bP (i*2+1) csP [.slice F4.a F4.l F4.c] oP):=gw.bM (fun x _ e=>e▸bN hPa)
 have A5:=hsetP (q.1,F4) 1 [.slice F4.a F4.l F4.c] (by simp) rfl (put h4 bP (i*2+1) csP [.slice F4.a F4.l F4.c] oP) ⟨_,ax _ _ _ _ _ _⟩
 simp[hF4,hBb4,hstF,hstB,hPa,hPl,hil',hPb,hf1]
 refine C _ _ F4 ?_ ?_ (by omega) ⟨O4.os.Kz g4.ok hr gw' A5 rfl (fun p hp=> ?_),?_,O4.kB⟩
 ·repeat (refine aC.set (by decide) ?_)
  exact aC.refl _ _
 ·have w1: ∀x,x=b→(κ x=1∨κ x=3):=fun x e=> .inl (by rw[e];exact hκb)
  exact((g2.aW.trans (g3.bM (fun x _ e=>w1 x e))).trans (g4.bM (fun x _ e=>w1 x e))).trans (gw.bM (fun x _ e=> .inr (by rw[e];exact κP)))
 ·rcases List.mem_or_eq_of_mem_set hp with h|h
  ·exact R.ps p h
  ·rw[h]
   exact⟨(R.ps q (di hq)).1,by show F4.l≤F4.c;omega,.inr ⟨b,by show F4.a=_;rw[ha4,ha3,hVa],hκb,by show F4.c=_;omega⟩⟩
 ·refine zu (O4.A.grow g4.ok gw (fun x hx e=>by have:=O4.kB x hx;rw[e] at this;omega)) (by simp) (fun m a c h1 h2=> ?_)
  rw[List.getElem?_set] at h2
  by_cases e1:y=m
  ·subst e1
   rw[if_pos rfl,if_pos hyl] at h2
   cases h2
   rw[hr] at h1;cases h1;rfl
  ·rw[if_neg e1] at h2
   rw[h1] at h2;cases h2;rfl
def NO:List Nat:=[13,14,15,69,70,71,72,73,74,75,76,77,78,79,80,81,82,83,84,85,86,87,88,89,90,91,92,93,94,95,96,97,98,99,100]
def ko (qs ps:List (Int×SV)):Prop:=qs.length=ps.length∧ ∀(i:Nat) (q p:Int×SV),qs[i]? =some q→ps[i]? =some p→q.1=p.1∧q.2.l=p.2.l
theorem ko.refl (ps:List (Int×SV)):ko ps ps:=⟨rfl,fun i q p a b=>by rw[a] at b;cases b;exact⟨rfl,rfl⟩⟩
theorem ko.trans {a b c:List (Int×SV)} (h:ko a b) (k:ko b c):ko a c:=⟨h.1.trans k.1,fun i q p h1 h2=>by
 obtain⟨x,hx⟩: ∃x,b[i]? =some x:=⟨_,aQ (by rw[←h.1];exact(bY.mp h1).1)⟩
 obtain⟨a1,a2⟩:=h.2 i q x h1 hx
 obtain⟨b1,b2⟩:=k.2 i x p hx h2
 exact⟨a1.trans b1,a2.trans b2⟩⟩
theorem ko.set {qs ps:List (Int×SV)} (h:ko qs ps) {i:Nat} {q:Int×SV} (hq:qs[i]? =some q) {F:SV} (hF:F.l=q.2.l):ko (qs.set i (q.1,F)) ps:=by
 refine ko.trans ⟨by simp,fun j a b h1 h2=> ?_⟩ h
 rw[List.getElem?_set] at h1
 by_cases e:i=j
 ·subst e
  rw[if_pos rfl,if_pos (bY.mp hq).1] at h1
  cases h1
  rw[hq] at h2;cases h2
  exact⟨rfl,hF⟩
 ·rw[if_neg e,h2] at h1
  cases h1;exact⟨rfl,rfl⟩
def PA (h:ae) (n0 ai:Nat) (κ cap:Nat→Nat) (B:SV) (rs:List XR) (y:Nat) (r:XR) (e:Env) (m:Nat) (e':Env) (h':ae):Prop:=
 ∃(i:Nat) (qs:List (Int×SV)),m=r.ps.length-i∧i≤r.ps.length∧aC NO e e'∧Env.get e' 69= .int .i64 i∧ab (fun b=>κ b=1∨κ b=3) h h'∧ou h' n0 ai κ cap B (rs.set y { r with ps:=qs })∧ko qs r.ps
theorem Ja {h:ae} (ok:bh h) {n0 ai:Nat} {κ cap:Nat→Nat} {B:SV} {rs:List XR} (O:ou h n0 ai κ cap B rs) (hn0:n0≤h.next) {F y k j l sF:Nat} {name:ByteArray} {p rg:Int} (hF:h.tr.get F=some (.aA (ak name p rg B) false 0 sF)) (κF:κ F=0) {r:XR} (hr:rs[y]? =some r)
  (hl: ∀q∈r.ps,q.2.l=l) (hk:k<l) (hj:j+1≤l) (hll:l<1000000) (hpl:r.ps.length<1000000)
  {e:Env} {Q:aO→Env→ae→Prop} (f0:Env.get e 0= .pointer (some ⟨F,0,none⟩)) (f8:Env.get e 8= .int .i64 y) (f9:Env.get e 9= .int .i64 k) (f10:Env.get e 10= .int .i64 j) (f67:Env.get e 67=r.P.v) (f68:Env.get e 68= .int .i64 r.ps.length) (f69:Env.get e 69= .int .i64 0)
  (C: ∀e' h' qs,aC NO e e'→ab (fun b=>κ b=1∨κ b=3) h h'→ou h' n0 ai κ cap B (rs.set y { r with ps:=qs })→ko qs r.ps→Q (.exit 4) e' h'):az FF (.loop mr) e h Q:=by
 have hyl:=(bY.mp hr).1
 have hself:rs.set y { r with ps:=r.ps } =rs:=by
  refine List.ext_getElem? fun m=> ?_
  rw[List.getElem?_set]
  by_cases e:y=m
  ·subst e;rw[if_pos rfl,if_pos hyl,hr]
  ·rw[if_neg e]
 refine az.loop (PA h n0 ai κ cap B rs y r e) ?_ (n:=r.ps.length) ⟨0,r.ps,rfl,by omega,aC.refl _ _,f69,.refl ok,by rw[hself];exact O,ko.refl _⟩
 rintro m e' h' ⟨i,qs,rfl,hi,K,q69,g,O',S⟩
 have ok':=g.ok
 have q0:=K.at (by decide) f0
 have q8:=K.at (by decide) f8
 have q9:=K.at (by decide) f9
 have q10:=K.at (by decide) f10
 have q67:=K.at (by decide) f67
 have q68:=K.at (by decide) f68
 rw[FJ]
 by_cases hil:i<r.ps.length
 ·have wi:=wrap_i64 ((i:Int)+1) (by omega) (by omega)
  obtain⟨p0,hp0⟩: ∃p,r.ps[i]? =some p:=⟨_,aQ hil⟩
  obtain⟨q,hq⟩: ∃q,qs[i]? =some q:=⟨_,aQ (by rw[S.1];exact hil)⟩
  have hql:q.2.l=l:=by rw[(S.2 i q p0 hq hp0).2];exact hl p0 (di hp0)
  have hry:(rs.set y { r with ps:=qs })[y]? =some { r with ps:=qs } :=by rw[List.getElem?_set,if_pos rfl,if_pos hyl]
  have R:=O'.os.r y _ hry
  have RP:eJ iK h' r.P qs:=R.P
  obtain⟨hVl,hVA|⟨b,hVa,hκb,hVc⟩⟩:=(R.ps q (di hq)).2
  ·omega
  obtain⟨vs,o,s,hb,ho,hvl,hvv⟩:=O'.os.V b hκb
  obtain⟨v,hv⟩: ∃v,vs[k]? =some v:=⟨_,aQ (by omega)⟩
  obtain⟨bP,csP,oP,sP,hPa,hPb,hjP,hfitP,hrdP,hsetP⟩:=RP.el hq
  have r0:=hrdP 0 2 (by decide)
  simp[-ag] at r0
  have hPl:=RP.len
  have rv:aT h' b (k*2) 2=some [.bool v.1,.int .i64 v.2]:=by
   rw[cN hb (by rw[bU.bt,eX];omega)]
   have:=bU.mN vs k v hv
   simp only[eX] at this
   rw[this];rfl
  simp at q67
  rw[hPa,hPl,S.1] at q67
  have hkl:k<q.2.l:=by omega
  have ob:=ok'.bl hb
  have nb1: ¬b=h'.next:=by have:=ob.lt;omega
  have nb2: ¬b=h'.next+1:=by have:=ob.lt;omega
  simp[q67,q68,q69,q9,hil,hkl,r0,rv,hVa,ob,nb1,nb2,-ag,aq,bg,aL,aB]
  refine az.cut (fun h2=>ab aG h' h2∧(∃s,h2.tr.get h'.next=some (.aA [.int .i64 q.1,q.2.v] false 0 s))∧ ∃s,h2.tr.get (h'.next+1)=some (.aA [.bool v.1,.int .i64 v.2] false 0 s)) ?_ ?_
  ·have n1: ¬h'.next=h'.next+1:=by omega
   exact⟨((ab.refl ok').var _ _).var _ _,⟨h'.clock,by simp[aK,hVa,n1]⟩,⟨h'.clock+1,by simp[aK]⟩⟩
  rintro h2 ⟨g2,hX1,hX2⟩
  have ln:=g.next
  have κn: ∀x,h'.next≤x→κ x=0:=fun x hx=>by
   rcases Nat.eq_zero_or_pos (κ x) with h|h
   ·exact h
   ·have:=(O'.os.new x (by omega)).2;omega
  refine Jb g2.ok (O'.aW ok' g2) (F:=F) (X1:=h'.next) (X2:=h'.next+1) (y:=y) (i:=i) (k:=k) (j:=j) (v:=v) (q:=q) (g2.get ok' (g.get ok hF (by omega)) (fun h=>h)) κF hry hq hX1 (κn _ (by omega)) hX2 (κn _ (by omega)) (hvv v (di hv)) (by omega) (by omega) (by omega) (by show qs.length<_;rw[S.1];exact hpl) (by simp[q0]) (by simp[q8]) (by simp[q9]) (by simp[q10]) (by simp) (by simp) (by simp) ?_
  intro e3 h3 F' K3 g3 hF' O3
  have k69:=K3.at (t:=69) (by decide) (by simp;exact q69)
  rw[List.set_set] at O3
  simp[k69,wi]
  refine⟨r.ps.length-(i+1),by omega,i+1,qs.set i (q.1,F'),rfl,hil,?_,by simp,g.trans (g2.aW.trans g3),O3,S.set hq hF'⟩
  refine aC.set (by decide) (aC.set (by decide) (aC.trans ?_ (K3.bM (by decide))))
  repeat (refine aC.set (by decide) ?_)
  exact K
 ·have:i=r.ps.length:=by omega
  subst this
  simp[q68,q69]
  exact C _ _ qs (aC.set (by decide) K) g O' S
end Go.Proofs.YtdkdbjecehcekaaGreatDoor
