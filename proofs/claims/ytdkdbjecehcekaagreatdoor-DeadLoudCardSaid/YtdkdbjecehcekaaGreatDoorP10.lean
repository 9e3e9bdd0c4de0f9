/- Parts of the proof. -/
import Derived.Test.YtdkdbjecehcekaaGreatDoorP09
import Derived.Test.YtdkdbjecehcekaaGreatDoorP00
set_option linter.all false
set_option linter.unusedSimpArgs false
set_option linter.unusedVariables false
set_option linter.unnecessarySimpa false
namespace Go.Proofs.YtdkdbjecehcekaaGreatDoor
open Go.AI
theorem Kl {bs:List GB} {b:Nat} {x:GB} (h:bs[b]? =some x):Dfs.row (mh bs) b=x.to.map Int.toNat:=by
 unfold Dfs.row mh
 rw[List.getElem?_map,h]
 rfl
theorem vo {bs:List GB} (E:iJ bs): ∀b t,t∈Dfs.row (mh bs) b→t<bs.length:=by
 intro b t ht
 unfold Dfs.row mh at ht
 rw[List.getElem?_map] at ht
 cases hb:bs[b]? with
 |none=>rw[hb] at ht;simp at ht
 |some x=>
  rw[hb] at ht
  simp at ht
  obtain⟨a,ha,rfl⟩:=ht
  have:=E.to x (di hb) a ha
  omega
theorem FH {cT:List (List Nat)} {k:Nat} {ns:List Nat} {j x:Nat} (hx:ns[j]? =some x) (s:Dfs.DS):
  Dfs.foldM cT k (ns.reverse.take (ns.length-j)) s=(let s1:=Dfs.foldM cT k (ns.reverse.take (ns.length-(j+1))) s;if s1.seen[x]? =some true then s1 else Dfs.visitM cT k x s1):=by
 have hj:=(bY.mp hx).1
 have e:ns.length-j=(ns.length-(j+1))+1:=by omega
 have hr:ns.reverse[ns.length-(j+1)]? =some x:=by
  rw[List.getElem?_reverse (by omega)]
  rw[←hx];congr 1;omega
 rw[e,List.take_add_one,hr]
 unfold Dfs.foldM
 rw[List.foldl_append]
 rfl
section
variable {h0:ae} {bs:List GB} {B:SV}
theorem Fg (ok0:bh h0) (hB:wB h0 B bs) (E:iJ bs) {n S sb Fb V Lf:Nat} {name:ByteArray} {p r:Int} (hn:bs.length=n): ∀(k b:Nat) (h:ae) (L:SV) (s:Dfs.DS),G7 h0 h n S sb Fb V Lf name p r B L s→b<n→ ¬s.seen[b]? =some true→Dfs.cz s≤k→
  aE FF gX [.int .i64 b,.pointer (some ⟨S,0,none⟩),.pointer (some ⟨Fb,0,none⟩),.pointer (some ⟨V,0,none⟩),.pointer (some ⟨Lf,0,none⟩)] h (fun _ h'=>JE h0 h n S sb Fb V Lf name p r B L (Dfs.visitM (mh bs) k b s) h'):=by
 intro k
 induction k with
 |zero=>
  intro b h L s w hb hs hk
  have:=Dfs.uC (s:=s) (b:=b) (by rw[w.len];exact hb) hs
  omega
 |succ k ih=>
  intro b h L s w hb hs hk
  have hnl:=E.len
  have hBl:=SliceR.len hB
  have hfs:=Dfs.uC (s:=s) (b:=b) (by rw[w.len];exact hb) hs
  obtain⟨x,hx⟩: ∃x,bs[b]? =some x:=⟨_,aQ (by omega)⟩
  have hm:=di hx
  obtain⟨t1,hS⟩:=w.hS
  obtain⟨t2,rD⟩:=w.rD
  obtain⟨t3,hF⟩:=w.hF
  obtain⟨m1,m2,m3,m4,m5,m6,m7⟩:=w.ne
  have ok:=w.g.ok
  have ow:=w.bl
  have hsl:b+1≤s.seen.length:=by rw[w.len];omega
  refine aE.of yR ?_
  rw[Jk]
  rw[show Bc=_ from rfl]
  unfold Bc
  simp[hS,hb,rD,hsl]
  
  refine az.cut (fun h1=>G7 h0 h1 n S sb Fb V Lf name p r B L ⟨s.seen.set b true,s.left⟩∧ab (· =sb) h h1) ?_ ?_
  ·have gp:ab (· =sb) h (put h sb b (nf.flat s.seen) [.bool true] 0):=aJ ok rD
   have kp: ∀y (ob:nr),h.tr.get y=some ob→y≠sb→(put h sb b (nf.flat s.seen) [.bool true] 0).tr.get y=some ob:=fun y ob hy n1=>gp.get ok hy n1
   obtain⟨t4,hV⟩:=w.hV
   obtain⟨t5,hL⟩:=w.hL
   refine⟨⟨w.g.put ⟨_,rD⟩ (.inl w.n1),w.n1,w.n2,⟨t1,kp _ _ hS m1⟩,⟨h.clock,by rw[ax,CW _ _ _ (by omega)]⟩,⟨t3,kp _ _ hF (Ne.symm m3)⟩,⟨t4,kp _ _ hV (Ne.symm m4)⟩,⟨t5,kp _ _ hL (Ne.symm m5)⟩,w.acc.grow ok gp (fun y hy e=>(w.rP y hy).2.1 e),by simp[w.len],?_,w.ne,w.rP⟩,gp⟩
   have:=w.ll
   show s.left.length+Dfs.cz ⟨s.seen.set b true,s.left⟩≤n
   omega
  rintro h1 ⟨w1,g1⟩
  obtain⟨bb,off,c,hBa,_,_,⟨P,L2,T,rfl,sP,sL,sT⟩,_,hrd⟩:=SliceR.later ok0 hB hx
  have r5:=hrd h1 w1.g 5 1 (by decide)
  simp[-ag] at r5
  obtain⟨t6,hF1⟩:=w1.hF
  simp only[ak] at hF1
  have hTl:=SliceR.len sT
  unfold Mm
  rw[hn] at hBl
  simp only[SV.NZ,hBa,hBl] at hF1
  simp[aw hF1,hb,r5,-ag]
  refine aD.call (V:=fun v h'=>v= .func (.func bk) #[] #[.pointer (some ⟨h1.next,0,none⟩)]∧h'=aH h1 [T.v] 0) (by simpa using zK h1 T) ?_
  rintro _ h2 ⟨rfl,e2⟩
  have g12:ab aG h1 h2:=by rw[e2];exact aI w1.g.ok _ _
  have hbx2:h2.tr.get h1.next=some (.aA [T.v] false 0 0):=by rw[e2];exact bH _ _ _
  have hnx2:h2.next=h1.next+1:=by rw[e2];rfl
  clear e2
  simp
  have g2':=w1.g.trans g12
  have ok2:=g2'.ok
  have ow1:=w1.bl
  have hlt1:h.next≤h1.next:=g1.next
  have ob2:=ok2.bl hbx2
  generalize hse:(⟨s.seen.set b true,s.left⟩:Dfs.DS)=s1 at*
  have hfs1:Dfs.cz s1≤k:=by omega
  have hlen1:s1.seen.length=n:=w1.len
  obtain⟨ns,hns⟩: ∃ns,ns=x.to.map Int.toNat:=⟨_,rfl⟩
  have hnsl:ns.length=x.to.length:=by rw[hns];simp
  have hltn: ∀(i:Nat),Jo S sb Fb V Lf L i→i<h2.next:=fun i hi=>by have:=ow1 i hi;have:=g12.next;omega
  refine az.AM (g:=bk) (first:= #[]) (caps:= #[.pointer (some ⟨h1.next,0,none⟩)]) (by simp) ?_
  obtain⟨e,he⟩: ∃e,e=((((((((((((((((Tr.nil.set 0 (Value.int IntKind.i64 ↑b)).set 1 (Value.pointer (some { block:=S,off:=0 }))).set 2 (Value.pointer (some { block:=Fb,off:=0 }))).set 3 (Value.pointer (some { block:=V,off:=0 }))).set 4 (Value.pointer (some { block:=Lf,off:=0 }))).set 8 (Value.slice (some { block:=sb,off:=0 }) n n)).set 9 (Value.int IntKind.i64 ↑b)).set 10 (Value.pointer (some { block:=sb,off:=b }))).set 11 (Value.pointer (some { block:=Fb,off:=3 }))).set 12 (Value.slice (some { block:=bb,off:=off }) n B.c)).set 13 (Value.int IntKind.i64 ↑b)).set 14 (Value.pointer (some { block:=bb,off:=off+b*6 }))).set 15 (Value.pointer (some { block:=bb,off:=off+b*6+2 }))).set 16 (Value.pointer (some { block:=bb,off:=off+b*6+2+3 }))).set 17 (Value.slice T.a T.l T.c)).set 18 (Value.func (Fn.func bk) #[] #[Value.pointer (some { block:=h1.next,off:=0 })])):=⟨_,rfl⟩
  rw[←he]
  have e1:Env.get e 1= .pointer (some ⟨S,0,none⟩):=by rw[he];simp
  have e3:Env.get e 3= .pointer (some ⟨V,0,none⟩):=by rw[he];simp
  have e0:Env.get e 0= .int .i64 b:=by rw[he];simp
  have e4:Env.get e 4= .pointer (some ⟨Lf,0,none⟩):=by rw[he];simp
  clear he
  have g23:ab aG h2 (h2.new (.loop e [19,20] sf oy .ready)):=by
   refine⟨Nat.le_succ _,Nat.le_refl _,fun b hb _=>zg _ hb,⟨fun b ob hb=> ?_,fun b cs ro op s hb=> ?_⟩⟩
   ·simp only[ae.new,Tr.aN] at hb ⊢
    by_cases e:b=h2.next
    ·omega
    ·rw[if_neg e] at hb;exact Nat.lt_succ_of_lt (ok2.wf b ob hb)
   ·simp only[ae.new,Tr.aN] at hb ⊢
    by_cases e:b=h2.next
    ·rw[if_pos e] at hb;cases hb
    ·rw[if_neg e] at hb;exact ok2.st b cs ro op s hb
  have hl3:(h2.new (.loop e [19,20] sf oy .ready)).tr.get h2.next=some (.loop e [19,20] sf oy .ready):=by simp[ae.new,Tr.aN]
  have hnx3:(h2.new (.loop e [19,20] sf oy .ready)).next=h2.next+1:=rfl
  generalize h2.new (.loop e [19,20] sf oy .ready)=h3 at*
  have g13:ab aG h1 h3:=g12.trans g23
  have w3:G7 h0 h3 n S sb Fb V Lf name p r B L s1:=w1.pK g13 (fun _ _ h=>h) (w1.g.trans g13)
  have hbx3:=g23.get ok2 hbx2 (fun h=>h)
  
  let I:Nat→ae→Prop:=fun j hh=> ∃L':SV,G7 h0 hh n S sb Fb V Lf name p r B L' (Dfs.foldM (mh bs) k (ns.reverse.take (ns.length-j)) s1)∧(∀y,av L'.v y→av L.v y∨h3.next≤y)∧ab (fun y=>PW sb Lf L y∨y=h2.next) h3 hh∧hh.tr.get h2.next=some (.loop e [19,20] sf oy .ready)∧hh.tr.get h1.next=some (.aA [T.v] false 0 0)
  have notL: ∀L':SV,(∀y,av L'.v y→av L.v y∨h3.next≤y)→ ∀y,Jo S sb Fb V Lf L' y→y≠h2.next∧y≠h1.next:=by
   intro L' hL' y hy
   have lo: ∀y,Jo S sb Fb V Lf L y→y<h1.next:=ow1
   rcases hy with h|h|h|h|h|h
   ·have:=lo y (.inl h);omega
   ·have:=lo y (.inr (.inl h));omega
   ·have:=lo y (.inr (.inr (.inl h)));omega
   ·have:=lo y (.inr (.inr (.inr (.inl h))));omega
   ·have:=lo y (.inr (.inr (.inr (.inr (.inl h)))));omega
   ·rcases hL' y h with h|h
    ·have:=lo y (.inr (.inr (.inr (.inr (.inr h)))));omega
    ·omega
  have BD:=zc (h0:=h0) (h:=h3) ok0 (b:=h1.next) sT (by have:=E.two x hm;omega) (y:= .func (.yield h2.next) #[] #[]) I (fun j hh ⟨L',w',_,_,_,hb'⟩=>⟨w'.g,0,hb'⟩) ?_ ⟨L,by rw[←hnsl];simpa [Dfs.foldM] using w3,fun y hy=> .inl hy,.refl w3.g.ok,hl3,hbx3⟩
  ·refine(by simpa using BD:aE FF bk _ _ _).mono ?_
   rintro _ h4 ⟨L',w4,hL4,g34,hl4,hb4⟩
   refine pS.ready hl4 ?_
   refine Eq.mp (by rw[EE];rfl) (?_:az FF _ _ _ _)
   have gd:ab (· =h2.next) h4 (ve h4 h2.next):=fZ w4.g.ok h2.next
   have l02:h0.next≤h2.next:=g2'.next
   have w5:=w4.pK gd (fun y hy e=>(notL L' hL4 y hy).1 e) (w4.g.trans' gd (fun _ _ h=>h) (fun y hy e=>by omega))
   have hrow:Dfs.row (mh bs) b=ns:=by rw[Kl hx,hns]
   have hall:ns.reverse.take (ns.length-0)=ns.reverse:=List.take_of_length_le (by simp)
   rw[hall] at w5
   have hcount:=Dfs.qh (Dfs.wZ (vo E) k) ns.reverse s1 (by rw[hlen1,hn]) (fun t ht=>vo E b t (by rw[hrow];exact List.mem_reverse.1 ht))
   have hs1l:s1.left=s.left:=by rw[←hse]
   have hll:=w.ll
   rw[hs1l] at hcount
   refine K0 (by omega) w5 (by omega) e0 e4 ?_
   rintro e' h' ⟨L2',w6,g6,hL6⟩
   simp
   have hv:Dfs.visitM (mh bs) (k+1) b s=⟨(Dfs.foldM (mh bs) k ns.reverse s1).seen,(Dfs.foldM (mh bs) k ns.reverse s1).left++[b]⟩:=by
    rw[Dfs.lz,hrow,hse]
   rw[hv]
   have l5:h4.next≤(ve h4 h2.next).next:=gd.next
   refine⟨L2',w6,?_,fun y hy=> ?_⟩
   ·have q1:ab (PW sb Lf L) h h1:=g1.bM (fun _ _ e=> .inl e)
    have q2:ab (PW sb Lf L) h h3:=q1.trans g13.aW
    have q3:ab (PW sb Lf L) h h4:=q2.trans' g34 (fun _ _ h=>h) (fun y hy h=>h.elim id (fun e=>by omega))
    have q4:ab (PW sb Lf L) h (ve h4 h2.next):=q3.trans' gd (fun _ _ h=>h) (fun y hy e=>by omega)
    refine q4.trans' g6 (fun _ _ h=>h) (fun y hy h=> ?_)
    rcases h with h|h|h
    ·exact .inl h
    ·exact .inr (.inl h)
    ·rcases hL4 y h with h|h
     ·exact .inr (.inr h)
     ·omega
   ·rcases hL6 y hy with h|h
    ·rcases hL4 y h with h|h
     ·exact .inl h
     ·exact .inr (by omega)
    ·exact .inr (by have:=g34.next;omega)
  ·intro j y hh hy ⟨L',w',hL',g3h,hlh,hbh⟩
   have okh:=w'.g.ok
   have nL:=notL L' hL'
   have l3h:=g3h.next
   have hyn:(ns[j]?)=some y.toNat:=by rw[hns,List.getElem?_map,hy];rfl
   obtain⟨hy0,hyl⟩:=E.to x hm y (di hy)
   obtain⟨u,rfl⟩: ∃u:Nat,y=u:=⟨y.toNat,by omega⟩
   rw[Int.toNat_natCast] at hyn
   have hun:u<n:=by omega
   have hstep:=FH (cT:=mh bs) (k:=k) hyn s1
   generalize hsj:Dfs.foldM (mh bs) k (ns.reverse.take (ns.length-(j+1))) s1=sj at*
   have hslen:sj.seen.length=n:=w'.len
   have hfj:Dfs.cz sj≤k:=by rw[←hsj];exact Nat.le_trans (Dfs.rN (Dfs.vT (mh bs) k) _ _) hfs1
   obtain⟨bv,hbv⟩: ∃bv,sj.seen[u]? =some bv:=⟨_,aQ (by omega)⟩
   let K:ae→Prop:=fun h'=> ∃L'':SV,G7 h0 h' n S sb Fb V Lf name p r B L'' (Dfs.foldM (mh bs) k (ns.reverse.take (ns.length-j)) s1)∧(∀z,av L''.v z→av L.v z∨h3.next≤z)∧h'.tr.get h1.next=some (.aA [T.v] false 0 0)
   refine(Es (S:=PW sb Lf L') (K:=K) okh (l:=h2.next) (fun h=> ?_) hlh ?_ ?_).mono ?_
   ·rcases h with h|h|h
    ·exact(nL sb (.inr (.inl rfl))).1 h.symm
    ·exact(nL Lf (.inr (.inr (.inr (.inr (.inl rfl)))))).1 h.symm
    ·exact(nL _ (.inr (.inr (.inr (.inr (.inr h)))))).1 rfl
   ·unfold sf
    simp
    refine⟨.refl okh,fun h5 g5=> ?_⟩
    have l0h:h0.next≤h2.next:=g2'.next
    have w5:=w'.pK g5 (fun y hy e=>(nL y hy).1 e) (w'.g.trans' g5 (fun _ _ h=>h) (fun y hy e=>by omega))
    have hb5:=g5.get okh hbh (fun e=>by omega)
    obtain⟨t7,hS5⟩:=w5.hS
    obtain⟨t8,hsb5⟩:=w5.rD
    obtain⟨t9,hV5⟩:=w5.hV
    have rs:=yl hsb5 hbv
    unfold oy
    cases bv with
    |true=>
     simp[e1,aw hS5,hun,rs,-ag]
     refine⟨.refl w5.g.ok,L',?_,hL',hb5⟩
     rw[hstep]
     simpa [hbv] using w5
    |false=>
     simp[e1,e3,aw hS5,aw hV5,hun,rs,-ag]
     refine aD.cm (V:=fun _ h'=>JE h0 h5 n S sb Fb V Lf name p r B L' (Dfs.visitM (mh bs) k u sj) h') ?_ ?_
     ·have V1:bZ FF (.func (.func gX) #[] #[.pointer (some ⟨S,0,none⟩),.pointer (some ⟨Fb,0,none⟩),.pointer (some ⟨V,0,none⟩),.pointer (some ⟨Lf,0,none⟩)]) [.int .i64 u] h5 (fun _ h'=>JE h0 h5 n S sb Fb V Lf name p r B L' (Dfs.visitM (mh bs) k u sj) h'):=
       bZ.func (by simpa using ih u h5 L' sj w5 hun (by rw[hbv];simp) hfj)
      simpa using V1
     rintro v h6 ⟨L'',w6,g6,hL6⟩
     simp
     have l5h:=g5.next
     refine⟨g6,L'',?_,fun z hz=> ?_,g6.get w5.g.ok hb5 (fun h=> ?_)⟩
     ·rw[hstep]
      simpa [hbv] using w6
     ·rcases hL6 z hz with h|h
      ·exact hL' z h
      ·exact .inr (by omega)
     ·rcases h with h|h|h
      ·exact(nL sb (.inr (.inl rfl))).2 h.symm
      ·exact(nL Lf (.inr (.inr (.inr (.inr (.inl rfl)))))).2 h.symm
      ·exact(nL _ (.inr (.inr (.inr (.inr (.inr h)))))).2 rfl
   ·rintro h5 h6 ⟨L'',w6,hL6,hb6⟩ ok5 g6
    have l0h:h0.next≤h2.next:=g2'.next
    exact⟨L'',w6.pK g6 (fun y hy e=>(notL L'' hL6 y hy).1 e) (w6.g.trans' g6 (fun _ _ h=>h) (fun y hy e=>by omega)),hL6,g6.get ok5 hb6 (fun e=>by omega)⟩
   ·rintro v h5 ⟨rfl,g5,hl5,L'',w6,hL6,hb6⟩
    refine⟨rfl,L'',w6,hL6,?_,hl5,hb6⟩
    refine g3h.trans' g5 (fun _ _ h=>h) (fun z hz h=> ?_)
    rcases h with h|h
    ·rcases h with h|h|h
     ·exact .inl (.inl h)
     ·exact .inl (.inr (.inl h))
     ·rcases hL' z h with h|h
      ·exact .inl (.inr (.inr h))
      ·omega
    ·exact .inr h
end
theorem iN {h:ae} {W:Nat} {ws:List Int} {o s:Nat} {ro:Bool} (hW:h.tr.get W=some (.aA (aY.flat ws) ro o s)) {k:Nat} {x:Int} (hk:ws[k]? =some x):aT h W k 1=some [.int .i64 x]:=by
 have hl:=(bY.mp hk).1
 rw[cN hW (by rw[aY.bt];show k+1≤ws.length*1;omega)]
 have:=aY.kD ws k 0 1 x hk (by decide)
 simp only[Nat.add_zero] at this
 rw[show k=k*aY.sz from(Nat.mul_one k).symm,this]
 rfl
theorem lJ (ws:List Int) (i:Nat) (x:Int) (h:i<ws.length):aK (aY.flat ws) i [.int .i64 x]=aY.flat (ws.set i x):=by
 have:=aY.fK ws i x h
 simpa using this
def mA (bs:List GB):List Int:=(Dfs.jM (mh bs) bs.length).map fun x:Nat=>(x:Int)
theorem x8 (n:Nat):Dfs.cz ⟨List.replicate n false,[]⟩=n:=by
 unfold Dfs.cz
 dsimp only
 induction n with
 |zero=>rfl
 |succ n ih=>rw[List.replicate_succ,List.countP_cons,ih];rfl
theorem Am {h:ae} (ok:bh h) {name:ByteArray} {p r:Int} {B:SV} {bs:List GB} (hB:wB h B bs) (E:iJ bs) (h0:0<bs.length):
  aE FF u4 [.agg ⟨ak name p r B⟩] h (fun v h'=>ab aG h h'∧ ∃L:SV,v=L.v∧cj aY h.next h' L.v (mA bs)):=by
 have hBl:=SliceR.len hB
 have hl:=E.len
 have r1:roomy bs.length=true:=by simp[roomy];omega
 have r2:roomy (bs.length*1)=true:=by simp[roomy];omega
 have hr:gI [Value.bool false] bs.length=nf.flat (List.replicate bs.length false):=by
  have: ∀n,gI [Value.bool false] n=nf.flat (List.replicate n false):=by
   intro n
   induction n with
   |zero=>rfl
   |succ n ih=>rw[List.replicate_succ,Enc.dM,←ih];rfl
  exact this _
 refine aE.of Cn ?_
 unfold uY
 simp[ak,hBl,r1,hr]
 refine aD.cut (fun h1=>G7 h h1 bs.length (h.next+3) (h.next+2) h.next (h.next+4) (h.next+1) name p r B eg ⟨List.replicate bs.length false,[]⟩) ?_ ?_
 ·refine⟨?_,by omega,by omega,⟨h.clock,?_⟩,⟨0,?_⟩,⟨0,?_⟩,⟨h.clock+1,?_⟩,⟨0,?_⟩,.inl ⟨rfl,rfl⟩,by simp,by simp[x8],by omega,fun b ⟨_,_,_,e⟩=>by cases e⟩
  ·repeat (first|exact .refl ok|apply ab.new|refine ab.put ?_ (by simp[Nat.add_assoc]) (.inl (by omega)))
  ·simp[Nat.add_assoc]
  ·simp[Nat.add_assoc]
  ·simp[Nat.add_assoc,ak,hBl]
  ·simp[Nat.add_assoc]
  ·simp[Nat.add_assoc,eg]
 intro h1 w
 obtain⟨t4,hV⟩:=w.hV
 have lV:=(w.g.ok.bl hV).lt
 refine aD.cm (V:=fun _ h'=>JE h h1 bs.length (h.next+3) (h.next+2) h.next (h.next+4) (h.next+1) name p r B eg (Dfs.visitM (mh bs) bs.length 0 ⟨List.replicate bs.length false,[]⟩) h') ?_ ?_
 ·have V1:=Fg ok hB E rfl bs.length 0 h1 eg _ w h0 (by simp[List.getElem?_replicate]) (by rw[x8];exact Nat.le_refl _)
  have V2:bZ FF (.func (.func gX) #[] #[.pointer (some ⟨h.next+3,0,none⟩),.pointer (some ⟨h.next,0,none⟩),.pointer (some ⟨h.next+4,0,none⟩),.pointer (some ⟨h.next+1,0,none⟩)]) [.int .i64 0] h1 _:=bZ.func (by simpa using V1)
  simpa using V2
 rintro v h2 ⟨L,w2,g2,_⟩
 obtain⟨t5,hL⟩:=w2.hL
 simp at hL
 simp[hL]
 exact⟨w2.g,L,⟨rfl,rfl,rfl⟩,w2.acc⟩
def Pt (n0 b:Nat) (h:ae) (xs:List Int) (m:Nat) (e:Env) (h2:ae):Prop:=
 ∃(i:Nat) (ys:List Int),m=xs.length-i∧i≤xs.length∧Env.get e 0= .slice (some ⟨b,0,none⟩) xs.length xs.length∧Env.get e 2= .int .i64 i∧Env.get e 3= .int .i64 ((xs.length:Int)-1-i)∧ab (· =b) h h2∧(∃s,h2.tr.get b=some (.aA (aY.flat ys) false 1 s))∧ys.length=xs.length∧
  ∀k,k<xs.length→ys[k]? =if k<i∨xs.length≤k+i then xs[xs.length-1-k]? else xs[k]?
theorem Cu {h:ae} (ok:bh h) {n0:Nat} {L:SV} {xs:List Int} (a:cj aY n0 h L.v xs) (hl:xs.length<1000000):
  aE FF jg [L.v] h (fun _ h'=>ab (av L.v) h h'∧cj aY n0 h' L.v xs.reverse):=by
 have w:=wrap_i64 ((xs.length:Int)-1) (by omega) (by omega)
 refine aE.of pt ?_
 unfold ja
 rcases a with⟨rfl,e⟩|⟨b,s,e,hb,hx,hn⟩
 ·have w0:IntKind.i64.wrap (0-1)= -1:=wrap_i64 _ (by omega) (by omega)
  have w0':IntKind.i64.wrap (-1)= -1:=wrap_i64 _ (by omega) (by omega)
  rw[e]
  simp[w0,w0']
  rw[kG]
  unfold eH
  simp
  exact⟨.refl ok,.inl ⟨rfl,rfl⟩⟩
 ·rw[e]
  simp[w]
  refine az.loop (Pt n0 b h xs) ?_ (n:=xs.length) ⟨0,xs,rfl,by omega,by simp,by simp,by simp,.refl ok,⟨s,hb⟩,rfl,fun k hk=>by rw[if_neg (by omega)]⟩
  rintro m e2 h2 ⟨i,ys,rfl,hi,f0,f2,f3,g2,⟨s2,hb2⟩,hyl,hys⟩
  unfold eH
  by_cases hij:(i:Int)<(xs.length:Int)-1-i
  ·obtain⟨j,hj⟩: ∃j:Nat,(j:Int)=(xs.length:Int)-1-i:=⟨xs.length-1-i,by omega⟩
   have hjl:j<xs.length:=by omega
   have hil:i<xs.length:=by omega
   rw[←hj] at f3
   have hij':i<j:=by omega
   obtain⟨x,hx1⟩: ∃x,ys[i]? =some x:=⟨_,aQ (by omega)⟩
   obtain⟨y,hy1⟩: ∃y,ys[j]? =some y:=⟨_,aQ (by omega)⟩
   have rx:=iN hb2 hx1
   have ry:=iN hb2 hy1
   have wi:=wrap_i64 ((i:Int)+1) (by omega) (by omega)
   have wj:=wrap_i64 ((j:Int)-1) (by omega) (by omega)
   have k1:i+1≤ys.length:=by omega
   have k2:j+1≤ys.length:=by omega
   have sp1:aK (aY.flat ys) i [.int .i64 y]=aY.flat (ys.set i y):=lJ _ _ _ (by omega)
   have sp2:aK (aY.flat (ys.set i y)) j [.int .i64 x]=aY.flat ((ys.set i y).set j x):=lJ _ _ _ (by simp;omega)
   simp[f0,f2,f3,hij',hjl,hil,aB,rx,ry,hb2,k1,k2,wi,wj,sp1,-ag]
   have hb3:(put (tick h2) b i (aY.flat ys) [.int .i64 y] 1).tr.get b=some (.aA (aY.flat (ys.set i y)) false 1 (tick h2).clock):=by rw[ax,sp1]
   have g3:ab (· =b) h (put (tick h2) b i (aY.flat ys) [.int .i64 y] 1):=g2.tick.trans (aJ g2.tick.ok hb2)
   refine⟨xs.length-(i+1),by omega,i+1,(ys.set i y).set j x,rfl,by omega,by simp[f0],by simp,by simp;omega,g3.trans (aJ g3.ok hb3),⟨_,by rw[ax,sp2]⟩,by simp[hyl],fun k hk=> ?_⟩
   rw[List.getElem?_set,List.getElem?_set]
   have hyi:=hys i hil
   have hyj:=hys j hjl
   rw[if_neg (by omega)] at hyi hyj
   by_cases e1:j=k
   ·subst e1
    rw[if_pos rfl,if_pos (by simp;omega),if_pos (by omega),←hx1,hyi]
    congr 1;omega
   ·rw[if_neg e1]
    by_cases e2:i=k
    ·subst e2
     rw[if_pos rfl,if_pos (by omega),if_pos (by omega),←hy1,hyj]
     congr 1;omega
    ·rw[if_neg e2,hys k hk]
     by_cases c:k<i∨xs.length≤k+i
     ·rw[if_pos c,if_pos (by omega)]
     ·rw[if_neg c,if_neg (by omega)]
  ·simp[f2,f3,hij]
   have e:ys=xs.reverse:=by
    refine List.ext_getElem? fun k=> ?_
    by_cases hk:k<xs.length
    ·rw[List.getElem?_reverse hk,hys k hk]
     split
     ·rfl
     ·congr 1;omega
    ·rw[List.getElem?_eq_none (by omega),List.getElem?_eq_none (by simp;omega)]
   refine⟨g2.bM (fun x _ e=>e▸⟨_,_,_,rfl⟩),.inr ⟨b,s2,by simp,by rw[←e];exact hb2,by simpa using hx,hn⟩⟩
theorem zj {h:ae} (ok:bh h) {name:ByteArray} {p r:Int} {B:SV} {bs:List GB} (hB:wB h B bs) (E:iJ bs) (h0:0<bs.length):
  aE FF mo [.agg ⟨ak name p r B⟩] h (fun v h'=>ab aG h h'∧ ∃L:SV,v=L.v∧cj aY h.next h' L.v (mA bs).reverse):=by
 refine aE.of xF ?_
 unfold qQ
 simp[ak]
 have g0:=aI ok (ak name p r B) 0
 refine aD.call (V:=fun v h'=>ab aG (aH h (ak name p r B) 0) h'∧ ∃L:SV,v=L.v∧cj aY (h.next+1) h' L.v (mA bs)) (by simpa [ak] using Am g0.ok (name:=name) (p:=p) (r:=r) (hB.mono ok g0) E h0) ?_
 rintro _ h1 ⟨g1,L,rfl,hA⟩
 have gg:=g0.trans g1
 have hlen:(mA bs).length<1000000:=by
  have P:=Dfs.sy h0 (vo E)
  have:(Dfs.jM (mh bs) bs.length).length≤bs.length:=by
   have:=List.Nodup.length_le_of_subset P.1 (l₂:=List.range bs.length) (fun x hx=>List.mem_range.2 (P.2.1 x hx))
   simpa using this
  have:=E.len
  unfold mA
  simp;omega
 simp
 refine aD.call (V:=fun _ h'=>ab (av L.v) h1 h'∧cj aY (h.next+1) h' L.v (mA bs).reverse) (by simpa using Cu gg.ok hA hlen) ?_
 rintro _ h2 ⟨g2,hA2⟩
 simp
 refine⟨gg.trans' g2 (fun _ _ h=>h) (fun x hx e=>by have:=hA.of e;omega),L,⟨rfl,rfl,rfl⟩,?_⟩
 rcases hA2 with a|⟨b,s,e,hb,hx,hn⟩
 ·exact .inl a
 ·exact .inr ⟨b,s,e,hb,hx,by omega⟩
end Go.Proofs.YtdkdbjecehcekaaGreatDoor
namespace Go.AI.Dom
inductive cx (u:Nat→Nat):Nat→Nat→Prop
 |refl (x:Nat):cx u x x
 |step {x y:Nat} :cx u (u x) y→cx u x y
structure Down (u:Nat→Nat):Prop where
 zero:u 0=0
 lt: ∀i,0<i→u i<i
theorem cx.trans {u:Nat→Nat} {x y z:Nat} (h:cx u x y) (k:cx u y z):cx u x z:=by
 induction h with
 |refl=>exact k
 |step _ ih=>exact .step (ih k)
theorem cx.le {u:Nat→Nat} (d:Down u) {x y:Nat} (h:cx u x y):y≤x:=by
 induction h with
 |refl=>exact Nat.le_refl _
 | @step x y _ ih=>
  rcases Nat.eq_zero_or_pos x with rfl|hx
  ·rw[d.zero] at ih;exact ih
  ·have:=d.lt x hx;omega
theorem cx.up {u:Nat→Nat} {x y:Nat} (h:cx u x y) (hn:x≠y):cx u (u x) y:=by
 cases h with
 |refl=>exact absurd rfl hn
 |step h=>exact h
theorem cx.one (u:Nat→Nat) (x:Nat):cx u x (u x):= .step (.refl _)
theorem cx.local {u v:Nat→Nat} (d:Down u) {b:Nat} (e: ∀i,i<b→u i=v i) {x y:Nat} (h:cx u x y) (hx:x<b):cx v x y:=by
 induction h with
 |refl=>exact .refl _
 | @step x y _ ih=>
  refine .step ?_
  rw[←e x hx]
  refine ih ?_
  rcases Nat.eq_zero_or_pos x with rfl|h0
  ·rw[d.zero];exact hx
  ·have:=d.lt x h0;omega
def mix (A B:Nat→Nat) (b i:Nat):Nat:=if i<b then B i else A i
theorem JL {A B:Nat→Nat} {b i:Nat} (h:i<b):mix A B b i=B i:=if_pos h
theorem Fm {A B:Nat→Nat} {b i:Nat} (h: ¬i<b):mix A B b i=A i:=if_neg h
theorem Down.mix {A B:Nat→Nat} (a:Down A) (b:Down B) (k:Nat):Down (mix A B k):=by
 refine⟨?_,fun i hi=> ?_⟩
 ·unfold Dom.mix;split
  ·exact b.zero
  ·exact a.zero
 ·unfold Dom.mix;split
  ·exact b.lt i hi
  ·exact a.lt i hi
theorem oD {A B:Nat→Nat} (a:Down A) (b:Down B) {k x y:Nat} (hx:x<k):cx (mix A B k) x y↔cx B x y:=
 ⟨fun h=>h.local (a.mix b k) (fun i hi=>JL hi) hx,fun h=>h.local b (fun i hi=>(JL hi).symm) hx⟩
theorem C6 {A:Nat→Nat} (a:Down A) {b:Nat} (hb:0<b): ∀w,∃q,q<b∧cx A w q∧ ∀B,cx (mix A B b) w q∧ ∀x,x<b→cx (mix A B b) w x→cx (mix A B b) q x:=by
 intro w
 induction w using Nat.strongRecOn with
 |ind w ih=>
  by_cases h:w<b
  ·exact⟨w,h,.refl _,fun B=>⟨.refl _,fun _ _ h=>h⟩⟩
  ·have hw:0<w:=by omega
   obtain⟨q,h1,h2,h3⟩:=ih (A w) (a.lt w hw)
   refine⟨q,h1,.step h2,fun B=> ?_⟩
   obtain⟨h4,h5⟩:=h3 B
   refine⟨.step (by rw[Fm h];exact h4),fun x hx hA=> ?_⟩
   have:=hA.up (by omega)
   rw[Fm h] at this
   exact h5 x hx this
section
variable (m:Nat) (preds:Nat→List Nat)
def Round (A B:Nat→Nat):Prop:= ∀b,0<b→b<m→(∀w∈preds b,cx (mix A B b) w (B b))∧ ∀z,(∀w∈preds b,cx (mix A B b) w z)→cx (mix A B b) (B b) z
def J0 (B:Nat→Nat):Prop:= ∀b,0<b→b<m→(∀w∈preds b,w<b→cx B w (B b))∧ ∀z,(∀w∈preds b,w<b→cx B w z)→cx B (B b) z
def p_ (A B:Nat→Nat):Prop:= ∀p,0<p→p<m→cx B (A p) (B p)
end
section
variable {m:Nat} {preds:Nat→List Nat} {A B C:Nat→Nat}
theorem p_.mono (dA:Down A) (dB:Down B) {k:Nat} (W: ∀p,0<p→p<k→cx B (A p) (B p)): ∀w,w<k→ ∀x,cx B w x→cx A w x:=by
 intro w
 induction w using Nat.strongRecOn with
 |ind w ih=>
  intro hw x hx
  by_cases e:w=x
  ·subst e;exact .refl _
  ·rcases Nat.eq_zero_or_pos w with rfl|h0
   ·have:=hx.le dB;omega
   ·have h1:=hx.up e
    have h2:=(W w h0 hw).trans h1
    exact .step (ih (A w) (dA.lt w h0) (by have:=dA.lt w h0;omega) x h2)
theorem p_.below (dA:Down A) (dB:Down B) {k:Nat} (W: ∀p,0<p→p<k→cx B (A p) (B p)) {b:Nat} (hb:0<b): ∀p,p<k→ ∃q,q<b∧cx A p q∧cx (mix A B b) p q∧ ∀x,x<b→cx B p x→cx B q x:=by
 intro p
 induction p using Nat.strongRecOn with
 |ind p ih=>
  intro hp
  by_cases h:p<b
  ·exact⟨p,h,.refl _,.refl _,fun _ _ h=>h⟩
  ·have h0:0<p:=by omega
   have hl:=dA.lt p h0
   obtain⟨q,h1,h2,h3,h4⟩:=ih (A p) hl (by omega)
   refine⟨q,h1,.step h2,.step (by rw[Fm h];exact h3),fun x hx hB=> ?_⟩
   exact h4 x hx ((W p h0 hp).trans (hB.up (by omega)))
theorem p_.over (dB:Down B) {k:Nat} (W: ∀p,0<p→p<k→cx C (B p) (C p)): ∀w,w<k→ ∀u,cx B w u→ ∀x,x≤u→cx C w x→cx C u x:=by
 intro w
 induction w using Nat.strongRecOn with
 |ind w ih=>
  intro hw u hu x hx hC
  by_cases e:w=u
  ·subst e;exact hC
  ·have hle:=hu.le dB
   have h0:0<w:=by omega
   have hl:=dB.lt w h0
   exact ih (B w) hl (by omega) u (hu.up e) x hx ((W w h0 hw).trans (hC.up (by omega)))
theorem yE (dA:Down A) (dB:Down B) (dC:Down C) (hf: ∀b,0<b→b<m→ ∃w∈preds b,w<b) (hp: ∀b w,w∈preds b→w<m)
  (hAB:J0 m preds B∨(Round m preds A B∧p_ m A B)) (hBC:Round m preds B C):p_ m B C:=by
 intro p
 induction p using Nat.strongRecOn with
 |ind p ih=>
  intro h0 hpm
  have W: ∀q,0<q→q<p→cx C (B q) (C q):=fun q hq hqp=>ih q hqp hq (by omega)
  have mono:=p_.mono dB dC W
  obtain⟨c1,_⟩:=hBC p h0 hpm
  have hx:=dC.lt p h0
  have hu:=dB.lt p h0
  
  have hB:cx B (B p) (C p):=by
   rcases hAB with h|⟨h,hW⟩
   ·refine(h p h0 hpm).2 _ fun w hw hwp=> ?_
    exact mono w hwp _ ((oD dB dC hwp).1 (c1 w hw))
   ·refine(oD dA dB hu).1 ((h p h0 hpm).2 _ fun w hw=> ?_)
    by_cases hwp:w<p
    ·exact(oD dA dB hwp).2 (mono w hwp _ ((oD dB dC hwp).1 (c1 w hw)))
    ·obtain⟨q,q1,q2,q3⟩:=C6 dB h0 w
     have h1:=(q3 C).2 _ hx (c1 w hw)
     have h2:=mono q q1 _ ((oD dB dC q1).1 h1)
     have h3:=q2.trans h2
     obtain⟨r,r1,_,r3,r4⟩:=p_.below dA dB hW h0 w (hp p w hw)
     exact r3.trans ((oD dA dB r1).2 (r4 _ hx h3))
  have hle:=hB.le dB
  obtain⟨w,hw,hwp⟩:=hf p h0 hpm
  have hwu:cx B w (B p):=by
   rcases hAB with h|⟨h,_⟩
   ·exact(h p h0 hpm).1 w hw hwp
   ·exact(oD dA dB hwp).1 ((h p h0 hpm).1 w hw)
  exact p_.over dB W w hwp _ hwu _ hle ((oD dB dC hwp).1 (c1 w hw))
theorem p_.le (dB:Down B) (dA:Down A) (W:p_ m A B): ∀p,p<m→B p≤A p:=by
 intro p hp
 rcases Nat.eq_zero_or_pos p with rfl|h0
 ·rw[dB.zero,dA.zero];exact Nat.le_refl _
 ·exact(W p h0 hp).le dB
end
def total (u:Nat→Nat):Nat→Nat
 |0=>0
 |n+1=>total u n+u n
theorem C9 {u v:Nat→Nat} : ∀n,(∀i,i<n→u i≤v i)→total u n≤total v n
 |0,_=>Nat.le_refl _
 |n+1,h=>by
  have:=C9 n (fun i hi=>h i (by omega))
  have:=h n (by omega)
  simp only[total];omega
theorem Cx {u v:Nat→Nat} : ∀n,(∀i,i<n→u i≤v i)→(∃i,i<n∧u i≠v i)→total u n<total v n
 |0,_,⟨i,hi,_⟩=>by omega
 |n+1,h,⟨i,hi,hn⟩=>by
  have h1:=C9 n (fun i hi=>h i (by omega))
  have h2:=h n (by omega)
  simp only[total]
  by_cases e:i=n
  ·subst e;omega
  ·have:=Cx n (fun i hi=>h i (by omega)) ⟨i,by omega,hn⟩
   omega
theorem xi {u:Nat→Nat} {k:Nat} : ∀n,(∀i,i<n→u i≤k)→total u n≤n*k
 |0,_=>by simp[total]
 |n+1,h=>by
  have:=xi n (fun i hi=>h i (by omega))
  have:=h n (by omega)
  simp only[total,Nat.add_mul];omega
end Go.AI.Dom
namespace Go.AI.Tree
open Go.AI.Dom
structure Eg (ord:List Nat) (us:List Int) (n:Nat) (V:Nat→Nat) (k:Nat):Prop where
 len:us.length=n
 set: ∀(i x:Nat),ord[i]? =some x→i<k→ ∃y:Nat,ord[V i]? =some y∧us[x]? =some (y:Int)
 un: ∀(i x:Nat),ord[i]? =some x→k≤i→us[x]? =some (-1)
 out: ∀x,x<n→x∉ord→us[x]? =some (-1)
structure Ord (ord:List Nat) (n:Nat):Prop where
 nd:ord.Nodup
 lt: ∀x∈ord,x<n
 zero:ord[0]? =some 0
theorem Ord.inj {ord:List Nat} {n:Nat} (o:Ord ord n) {i j x:Nat} (hi:ord[i]? =some x) (hj:ord[j]? =some x):i=j:=by
 have h1:=(bY.mp hi).1
 have h2:=(bY.mp hj).1
 have e1:=(bY.mp hi).2
 have e2:=(bY.mp hj).2
 exact(List.getElem_inj o.nd).1 (e1.trans e2.symm)
theorem Di {V:Nat→Nat} (d:Down V) {x y:Nat} (h:y<x) (w:Nat):(cx V x w∧cx V y w)↔(cx V (V x) w∧cx V y w):=by
 constructor
 ·rintro⟨h1,h2⟩
  have:=h2.le d
  exact⟨h1.up (by omega),h2⟩
 ·rintro⟨h1,h2⟩
  exact⟨.step h1,h2⟩
def uO (ord:List Nat) (V:Nat→Nat) (k:Nat) (ps:List Int) (best:Int):Prop:=
 (best= -1∧ ∀p∈ps,∀i,i<k→ ¬ ∃x:Nat,ord[i]? =some x∧p=x)∨
 ∃z y:Nat,z<k∧ord[z]? =some y∧best=y∧(∃p∈ps,∃i,i<k∧ ∃x:Nat,ord[i]? =some x∧p=x)∧ ∀w,cx V z w↔ ∀p∈ps,∀i,i<k→(∃x:Nat,ord[i]? =some x∧p=x)→cx V i w
theorem uO.nil (ord:List Nat) (V:Nat→Nat) (k:Nat):uO ord V k [] (-1):= .inl ⟨rfl,fun p hp=>by cases hp⟩
theorem uO.skip {ord:List Nat} {V:Nat→Nat} {k:Nat} {ps:List Int} {best p:Int} (b:uO ord V k ps best) (hp: ∀i,i<k→ ¬ ∃x:Nat,ord[i]? =some x∧p=x):uO ord V k (ps++[p]) best:=by
 rcases b with⟨e,h⟩|⟨z,y,hz,hy,e,⟨q,hq,hq2⟩,h⟩
 ·refine .inl ⟨e,fun q hq=> ?_⟩
  rcases List.mem_append.1 hq with hq|hq
  ·exact h q hq
  ·simp at hq;subst hq;exact hp
 ·refine .inr ⟨z,y,hz,hy,e,⟨q,List.mem_append.2 (.inl hq),hq2⟩,fun w=>(h w).trans ⟨fun H q hq i hi hx=> ?_,fun H q hq=>H q (List.mem_append.2 (.inl hq))⟩⟩
  rcases List.mem_append.1 hq with hq|hq
  ·exact H q hq i hi hx
  ·simp at hq;subst hq;exact absurd hx (hp i hi)
theorem uO.one {ord:List Nat} {n:Nat} (o:Ord ord n) {V:Nat→Nat} {k:Nat} {ps:List Int} {p:Int} (b:uO ord V k ps (-1)) {i x:Nat} (hi:i<k) (hx:ord[i]? =some x) (hp:p=x):uO ord V k (ps++[p]) p:=by
 rcases b with⟨_,h⟩|⟨z,y,_,_,e,_⟩
 ·refine .inr ⟨i,x,hi,hx,hp,⟨p,by simp,i,hi,x,hx,hp⟩,fun w=>⟨fun H q hq j hj ⟨x',hx',hq'⟩=> ?_,fun H=>H p (by simp) i hi ⟨x,hx,hp⟩⟩⟩
  rcases List.mem_append.1 hq with hq|hq
  ·exact absurd ⟨x',hx',hq'⟩ (h q hq j hj)
  ·simp at hq
   subst hq
   have:x'=x:=by omega
   subst this
   rw[o.inj hx' hx];exact H
 ·omega
theorem uO.meet {ord:List Nat} {n:Nat} (o:Ord ord n) {V:Nat→Nat} {k:Nat} {ps:List Int} {p:Int} {a:Nat} {m:Int} (b:uO ord V k ps (a:Int)) {i x:Nat} (hx:ord[i]? =some x) (hi:i<k) (hp:p=x)
  (hm: ∀za,ord[za]? =some a→za<k→ ∃z y:Nat,z<k∧ord[z]? =some y∧m=y∧ ∀w,cx V z w↔(cx V za w∧cx V i w)):uO ord V k (ps++[p]) m:=by
 rcases b with⟨e,h⟩|⟨z,y,hz,hy,e,⟨q,hq,hq2⟩,h⟩
 ·omega
 ·have:a=y:=by omega
  subst this
  obtain⟨z',y',hz',hy',e',h'⟩:=hm z hy hz
  refine .inr ⟨z',y',hz',hy',e',⟨q,List.mem_append.2 (.inl hq),hq2⟩,fun w=>(h' w).trans ?_⟩
  rw[h w]
  constructor
  ·rintro⟨h1,h2⟩ q hq j hj ⟨x',hx',hq'⟩
   rcases List.mem_append.1 hq with hq|hq
   ·exact h1 q hq j hj ⟨x',hx',hq'⟩
   ·simp at hq;subst hq
    have:x'=x:=by omega
    subst this
    rw[o.inj hx' hx];exact h2
  ·intro H
   exact⟨fun q hq=>H q (List.mem_append.2 (.inl hq)),H p (by simp) i hi ⟨x,hx,hp⟩⟩
def jB (ord:List Nat) (ah:List (List Int)) (b:Nat):List Nat:=
 (List.range ord.length).filter fun i=>match ord[i]?,ord[b]? with
  |some x,some y=>((ah[y]?).getD []).contains (x:Int)
  |_,_=>false
theorem mR {ord:List Nat} {ah:List (List Int)} {b y:Nat} {ps:List Int} (hy:ord[b]? =some y) (hps:ah[y]? =some ps) {i:Nat} :i∈jB ord ah b↔ ∃x:Nat,ord[i]? =some x∧(x:Int)∈ps:=by
 unfold jB
 rw[List.mem_filter,List.mem_range,hy]
 constructor
 ·rintro⟨h1,h2⟩
  cases hx:ord[i]? with
  |none=>rw[hx] at h2;simp at h2
  |some x=>rw[hx] at h2;simp[hps] at h2;exact⟨x,rfl,h2⟩
 ·rintro⟨x,hx,hm⟩
  refine⟨(bY.mp hx).1,?_⟩
  rw[hx];simpa [hps] using hm
theorem yN {ord:List Nat} {ah:List (List Int)} (b w:Nat) (h:w∈jB ord ah b):w<ord.length:=by
 unfold jB at h
 exact List.mem_range.1 (List.mem_filter.1 h).1
def qV (V:Nat→Nat) (i z j:Nat):Nat:=if j=i then z else V j
theorem Down.qV {V:Nat→Nat} (d:Down V) {i z:Nat} (hi:0<i) (hz:z<i):Down (qV V i z):=by
 refine⟨?_,fun j hj=> ?_⟩
 ·unfold Tree.qV;rw[if_neg (by omega)];exact d.zero
 ·unfold Tree.qV;split
  ·omega
  ·exact d.lt j hj
structure Jx (ord:List Nat) (ah:List (List Int)) (n:Nat) (us:List Int) (first:Bool) (A V:Nat→Nat) (i:Nat) (more:Bool):Prop where
 rep:Eg ord us n V (if first then i else ord.length)
 dn:Down V
 bl:first=false→ ∀j,i≤j→V j=A j
 Ou:first=true→ ∀b,0<b→b<i→(∀w∈jB ord ah b,w<b→cx V w (V b))∧ ∀z,(∀w∈jB ord ah b,w<b→cx V w z)→cx V (V b) z
 QL:first=false→ ∀b,0<b→b<i→(∀w∈jB ord ah b,cx (mix A V b) w (V b))∧ ∀z,(∀w∈jB ord ah b,cx (mix A V b) w z)→cx (mix A V b) (V b) z
 Q7:first=false→more=true→ ∃j,j<i∧V j≠A j
theorem Eg.put {ord:List Nat} {n:Nat} (o:Ord ord n) {us:List Int} {V:Nat→Nat} {k i x z y:Nat} (r:Eg ord us n V k) (hx:ord[i]? =some x) (hy:ord[z]? =some y) (hk:k≤i+1) (hk2:i≤k):Eg ord (us.set x (y:Int)) n (qV V i z) (i+1):=by
 have hxn:x<us.length:=by rw[r.len];exact o.lt x (di hx)
 refine⟨by simp[r.len],fun j w hj hjk=> ?_,fun j w hj hjk=> ?_,fun w hw hn=> ?_⟩
 ·by_cases e:j=i
  ·subst e
   rw[hx] at hj;cases hj
   exact⟨y,by rw[qV,if_pos rfl,hy],by rw[List.getElem?_set,if_pos rfl,if_pos hxn]⟩
  ·obtain⟨y',h1,h2⟩:=r.set j w hj (by omega)
   refine⟨y',by rw[qV,if_neg e,h1],?_⟩
   rw[List.getElem?_set,if_neg (fun e'=>e (by subst e';exact o.inj hj hx)),h2]
 ·have hne: ¬x=w:=fun e'=>by subst e';have:=o.inj hj hx;omega
  rw[List.getElem?_set,if_neg hne]
  exact r.un j w hj (by omega)
 ·rw[List.getElem?_set,if_neg (fun e':x=w=>hn (e'▸di hx))]
  exact r.out w hw hn
theorem Eg.PX {ord:List Nat} {n:Nat} (o:Ord ord n) {us:List Int} {V:Nat→Nat} {k i x z y:Nat} (r:Eg ord us n V k) (hx:ord[i]? =some x) (hy:ord[z]? =some y) (hk:i<k):Eg ord (us.set x (y:Int)) n (qV V i z) k:=by
 have hxn:x<us.length:=by rw[r.len];exact o.lt x (di hx)
 refine⟨by simp[r.len],fun j w hj hjk=> ?_,fun j w hj hjk=> ?_,fun w hw hn=> ?_⟩
 ·by_cases e:j=i
  ·subst e
   rw[hx] at hj;cases hj
   exact⟨y,by rw[qV,if_pos rfl,hy],by rw[List.getElem?_set,if_pos rfl,if_pos hxn]⟩
  ·obtain⟨y',h1,h2⟩:=r.set j w hj (by omega)
   refine⟨y',by rw[qV,if_neg e,h1],?_⟩
   rw[List.getElem?_set,if_neg (fun e'=>e (by subst e';exact o.inj hj hx)),h2]
 ·have hne: ¬x=w:=fun e'=>by subst e';have:=o.inj hj hx;omega
  rw[List.getElem?_set,if_neg hne]
  exact r.un j w hj (by omega)
 ·rw[List.getElem?_set,if_neg (fun e':x=w=>hn (e'▸di hx))]
  exact r.out w hw hn
theorem Gp {A V:Nat→Nat} {i z b:Nat} (hb:b≤i):mix A (qV V i z) b=mix A V b:=by
 funext j
 unfold mix qV
 by_cases h:j<b
 ·rw[if_pos h,if_pos h,if_neg (by omega)]
 ·rw[if_neg h,if_neg h]
theorem Jx.step {ord:List Nat} {ah:List (List Int)} {n:Nat} (o:Ord ord n) {us:List Int} {first more:Bool} {A V:Nat→Nat} {i:Nat} (m:Jx ord ah n us first A V i more) (h0:0<i) {x:Nat} (hx:ord[i]? =some x) {ps:List Int} (hps:ah[x]? =some ps) (hf: ∃w∈jB ord ah i,w<i)
  {best:Int} (hb:uO ord V (if first then i else ord.length) ps best): ∃y z:Nat,best=y∧ord[z]? =some y∧Jx ord ah n (us.set x best) first A (qV V i z) (i+1) (more||(decide (us[x]? ≠some best))):=by
 have hil:=(bY.mp hx).1
 obtain⟨w0,hw0,hw0i⟩:=hf
 have hk:i≤(if first then i else ord.length):=by split<;>omega
 obtain⟨xw,hxw,hxm⟩:=(mR hx hps).1 hw0
 rcases hb with⟨e,h⟩|⟨z,y,hz,hy,rfl,_,H⟩
 ·exact absurd ⟨xw,hxw,rfl⟩ (h _ hxm w0 (by omega))
 have hzi:z<i:=by
  have:=((H z).1 (.refl _)) _ hxm w0 (by omega) ⟨xw,hxw,rfl⟩
  have:=this.le m.dn
  omega
 refine⟨y,z,rfl,hy,?_⟩
 have dn':Down (qV V i z):=Down.qV m.dn h0 hzi
 have loc: ∀w u,w<i→(cx (qV V i z) w u↔cx V w u):=fun w u hw=>⟨fun h=>h.local dn' (fun j hj=>by unfold qV;rw[if_neg (by omega)]) hw,fun h=>h.local m.dn (fun j hj=>by unfold qV;rw[if_neg (by omega)]) hw⟩
 cases hfst:first with
 |true=>
  have r:=m.rep
  rw[hfst] at r H
  simp only[if_pos] at r H
  refine⟨?_,dn',fun h=>by simp at h,fun _ b hb0 hbi=> ?_,fun h=>by simp at h,fun h=>by simp at h⟩
  ·have:=r.put o hx hy (by omega) (by omega)
   simpa using this
  ·by_cases e:b=i
   ·subst e
    have hV:qV V b z b=z:=by unfold qV;rw[if_pos rfl]
    rw[hV]
    refine⟨fun w hw hwb=> ?_,fun u hu=> ?_⟩
    ·obtain⟨x',hx',hm'⟩:=(mR hx hps).1 hw
     exact(loc w z hwb).2 (((H z).1 (.refl _)) _ hm' w hwb ⟨x',hx',rfl⟩)
    ·refine(loc z u hzi).2 ((H u).2 fun p hp j hj ⟨x',hx',hp'⟩=> ?_)
     exact(loc j u hj).1 (hu j ((mR hx hps).2 ⟨x',hx',hp'▸hp⟩) hj)
   ·have hbi':b<i:=by omega
    have hV:qV V i z b=V b:=by unfold qV;rw[if_neg e]
    rw[hV]
    obtain⟨h1,h2⟩:=m.Ou hfst b hb0 hbi'
    have hVb:=m.dn.lt b hb0
    refine⟨fun w hw hwb=>(loc w _ (by omega)).2 (h1 w hw hwb),fun u hu=>(loc _ u (by omega)).2 (h2 u fun w hw hwb=>(loc w u (by omega)).1 (hu w hw hwb))⟩
 |false=>
  have r:=m.rep
  rw[hfst] at r H
  simp only[Bool.false_eq_true,if_false] at r H
  have bl:=m.bl hfst
  have hmix:mix A V i=V:=by
   funext j;unfold mix;split
   ·rfl
   ·exact(bl j (by omega)).symm
  refine⟨?_,dn',fun _ j hj=> ?_,fun h=>by simp at h,fun _ b hb0 hbi=> ?_,fun _ hm=> ?_⟩
  ·have:=r.PX o hx hy hil
   simpa using this
  ·unfold qV;rw[if_neg (by omega)];exact bl j (by omega)
  ·by_cases e:b=i
   ·subst e
    have hV:qV V b z b=z:=by unfold qV;rw[if_pos rfl]
    rw[hV,Gp (Nat.le_refl _),hmix]
    refine⟨fun w hw=> ?_,fun u hu=> ?_⟩
    ·obtain⟨x',hx',hm'⟩:=(mR hx hps).1 hw
     exact((H z).1 (.refl _)) _ hm' w (yN _ _ hw) ⟨x',hx',rfl⟩
    ·refine(H u).2 fun p hp j hj ⟨x',hx',hp'⟩=> ?_
     exact hu j ((mR hx hps).2 ⟨x',hx',hp'▸hp⟩)
   ·have hbi':b<i:=by omega
    have hV:qV V i z b=V b:=by unfold qV;rw[if_neg e]
    rw[hV,Gp (by omega)]
    exact m.QL hfst b hb0 hbi'
  ·by_cases hmo:more=true
   ·obtain⟨j,hj,hne⟩:=m.Q7 hfst hmo
    exact⟨j,by omega,by unfold qV;rw[if_neg (by omega)];exact hne⟩
   ·have hmo':more=false:=by simpa using hmo
    rw[hmo'] at hm
    simp only[Bool.false_or,decide_eq_true_eq] at hm
    refine⟨i,by omega,?_⟩
    unfold qV
    rw[if_pos rfl]
    intro e
    obtain⟨y',h1,h2⟩:=r.set i x hx hil
    rw[bl i (Nat.le_refl _),←e,hy] at h1
    cases h1
    exact hm h2
def Om (ord:List Nat) (ah:List (List Int)) (V:Nat→Nat):Prop:=
 Down V∧(J0 ord.length (jB ord ah) V∨ ∃A,Down A∧Round ord.length (jB ord ah) A V∧p_ ord.length A V)
theorem Qr {ord:List Nat} {n:Nat} (o:Ord ord n):Eg ord ((List.replicate n (-1:Int)).set 0 0) n (fun i=>i-1) 1:=by
 have h0:=o.lt 0 (di o.zero)
 have hne: ∀x,¬x=0→x<n→((List.replicate n (-1:Int)).set 0 0)[x]? =some (-1):=by
  intro x hx hl
  rw[List.getElem?_set,if_neg (fun e=>hx e.symm),List.getElem?_replicate,if_pos hl]
 refine⟨by simp,fun i x hi hk=> ?_,fun i x hi hk=> ?_,fun x hx hn=> ?_⟩
 ·have:i=0:=by omega
  subst this
  rw[o.zero] at hi;cases hi
  exact⟨0,o.zero,by rw[List.getElem?_set,if_pos rfl,if_pos (by simpa using h0)];rfl⟩
 ·refine hne x (fun e=> ?_) (o.lt x (di hi))
  subst e
  have:=o.inj hi o.zero
  omega
 ·exact hne x (fun e=>hn (e▸di o.zero)) hx
theorem H8 {ord:List Nat} {ah:List (List Int)} {n:Nat} (o:Ord ord n) (A:Nat→Nat) (more:Bool):Jx ord ah n ((List.replicate n (-1:Int)).set 0 0) true A (fun i=>i-1) 1 more:=
 ⟨by simpa using Qr o,⟨rfl,fun i hi=>by show i-1<i;omega⟩,fun h=>by simp at h,fun _ b h1 h2=>by omega,fun h=>by simp at h,fun h=>by simp at h⟩
theorem JB {ord:List Nat} {ah:List (List Int)} {n:Nat} {us:List Int} {A:Nat→Nat} (r:Eg ord us n A ord.length) (d:Down A):Jx ord ah n us false A A 1 false:=
 ⟨by simpa using r,d,fun _ _ _=>rfl,fun h=>by simp at h,fun _ b h1 h2=>by omega,fun _ h=>by simp at h⟩
theorem Jx.done {ord:List Nat} {ah:List (List Int)} {n:Nat} {us:List Int} {first more:Bool} {A V:Nat→Nat} (m:Jx ord ah n us first A V ord.length more) (hA:first=false→Om ord ah A) (hf: ∀b,0<b→b<ord.length→ ∃w∈jB ord ah b,w<b):
  Om ord ah V∧Eg ord us n V ord.length∧(first=false→more=true→total V ord.length<total A ord.length):=by
 have r:=m.rep
 cases hfst:first with
 |true=>
  rw[hfst] at r
  exact⟨⟨m.dn,.inl fun b h1 h2=>m.Ou hfst b h1 h2⟩,by simpa using r,fun h=>by simp at h⟩
 |false=>
  rw[hfst] at r
  obtain⟨dA,hb⟩:=hA hfst
  have R:Round ord.length (jB ord ah) A V:=fun b h1 h2=>m.QL hfst b h1 h2
  have W:p_ ord.length A V:=by
   rcases hb with h|⟨A',dA',h1,h2⟩
   ·exact yE dA dA m.dn hf (fun b w=>yN b w) (.inl h) R
   ·exact yE dA' dA m.dn hf (fun b w=>yN b w) (.inr ⟨h1,h2⟩) R
  refine⟨⟨m.dn,.inr ⟨A,dA,R,W⟩⟩,by simpa using r,fun _ hm=> ?_⟩
  obtain⟨j,hj,hne⟩:=m.Q7 hfst hm
  exact Cx _ (fun i hi=>p_.le m.dn dA W i hi) ⟨j,hj,hne⟩
def Hk (us:List Int) (n:Nat):Prop:=us.length=n∧ ∃rank:Nat→Nat,(∀x,rank x≤n)∧ ∀(x:Nat) (v:Int),us[x]? =some v→v= -1∨ ∃y:Nat,v=y∧y<n∧rank y<rank x
theorem NN {ord:List Nat} {n:Nat} (o:Ord ord n) {us:List Int} {V:Nat→Nat} (d:Down V) (r:Eg ord us n V ord.length) (hln:ord.length≤n):Hk (us.set 0 (-1)) n:=by
 refine⟨by simp[r.len],fun x=>ord.idxOf x,fun x=>Nat.le_trans List.idxOf_le_length hln,fun x v hv=> ?_⟩
 rw[List.getElem?_set] at hv
 by_cases e:0=x
 ·rw[if_pos e] at hv
  split at hv
  ·cases hv;exact .inl rfl
  ·cases hv
 ·rw[if_neg e] at hv
  have hxn:x<n:=by have:=(bY.mp hv).1;rw[r.len] at this;exact this
  by_cases hm:x∈ord
  ·obtain⟨i,hi⟩:=pM hm
   have hil:=(bY.mp hi).1
   obtain⟨y,h1,h2⟩:=r.set i x hi hil
   rw[h2] at hv;cases hv
   have h0:0<i:=by
    rcases Nat.eq_zero_or_pos i with rfl|h
    ·rw[o.zero] at hi;cases hi;exact absurd rfl e
    ·exact h
   have idx: ∀(j z:Nat),ord[j]? =some z→ord.idxOf z=j:=by
    intro j z hj
    have hz:=di hj
    have hl:=List.idxOf_lt_length_iff.2 hz
    have:ord[ord.idxOf z]? =some z:=by rw[aQ hl,List.getElem_idxOf hl]
    exact o.inj this hj
   refine .inr ⟨y,rfl,o.lt y (di h1),?_⟩
   dsimp only
   rw[idx _ _ h1,idx _ _ hi]
   exact d.lt i h0
  ·have:=r.out x hxn hm
   rw[this] at hv;cases hv;exact .inl rfl
end Go.AI.Tree
namespace Go.Proofs.YtdkdbjecehcekaaGreatDoor
open Go.AI
def Of (h:ae) (ord:List Nat) (V:Nat→Nat) (k n d1 d2 x y:Nat) (m:Nat) (e:Env) (h2:ae):Prop:=
 ∃x' y' a' b':Nat,m=x'+y'∧ord[x']? =some a'∧ord[y']? =some b'∧x'<k∧y'<k∧Env.get e 0= .slice (some ⟨d1,0,none⟩) n n∧Env.get e 1= .slice (some ⟨d2,0,none⟩) n n∧Env.get e 2= .int .i64 a'∧Env.get e 3= .int .i64 b'∧ab aG h h2∧ ∀u,(Dom.cx V x u∧Dom.cx V y u)↔(Dom.cx V x' u∧Dom.cx V y' u)
theorem Hs {h:ae} (ok:bh h) {ord:List Nat} {n k:Nat} {us pls:List Int} {V:Nat→Nat} (o:Tree.Ord ord n) (r:Tree.Eg ord us n V k) (dn:Dom.Down V) {d1 d2 o1 s1 o2 s2:Nat} {ro1 ro2:Bool} (h1:h.tr.get d1=some (.aA (aY.flat us) ro1 o1 s1)) (h2:h.tr.get d2=some (.aA (aY.flat pls) ro2 o2 s2))
  (hla:pls.length=n) (hat: ∀i x:Nat,ord[i]? =some x→pls[x]? =some (i:Int)) {x y a b:Nat} (hx:ord[x]? =some a) (hy:ord[y]? =some b) (hxk:x<k) (hyk:y<k):
  aE FF yT [.slice (some ⟨d1,0,none⟩) n n,.slice (some ⟨d2,0,none⟩) n n,.int .i64 a,.int .i64 b] h
   (fun v h'=>ab aG h h'∧ ∃z w:Nat,v= .int .i64 w∧z<k∧ord[z]? =some w∧ ∀u,Dom.cx V z u↔(Dom.cx V x u∧Dom.cx V y u)):=by
 refine aE.of EA ?_
 unfold yU
 simp
 refine az.loop (Of h ord V k n d1 d2 x y) ?_ (n:=x+y) ⟨x,y,a,b,rfl,hx,hy,hxk,hyk,by simp,by simp,by simp,by simp,.refl ok,fun u=>Iff.rfl⟩
 rintro m e h3 ⟨x',y',a',b',rfl,hx',hy',hxk',hyk',f0,f1,f2,f3,g3,H⟩
 have q1:=g3.get ok h1 (fun h=>h)
 have q2:=g3.get ok h2 (fun h=>h)
 unfold vP
 have han:=o.lt a' (di hx')
 have hbn:=o.lt b' (di hy')
 have ra:=iN q2 (hat x' a' hx')
 have rb:=iN q2 (hat y' b' hy')
 by_cases hab:a'=b'
 ·subst hab
  have hxy:=o.inj hx' hy'
  subst hxy
  simp[f2,f3]
  exact⟨g3,x',a',rfl,hxk',hx',fun u=>by rw[H u];simp⟩
 ·have hab':((a':Int) !=(b':Int))=true:=by simp;omega
  have hne:x'≠y':=fun e=>hab (by subst e;rw[hx'] at hy';cases hy';rfl)
  by_cases hlt:x'<y'
  ·obtain⟨c,hc1,hc2⟩:=r.set y' b' hy' hyk'
   have rc:=iN q1 hc2
   have hV:=dn.lt y' (by omega)
   simp[f0,f1,f2,f3,hab',hab,han,hbn,ra,rb,hlt,rc,-ag,aB]
   exact⟨V y'+x',by omega,V y',x',c,a',rfl,hc1,hx',by omega,hxk',by simp[f0],by simp[f1],by simp,by simp,by first|exact g3|exact g3.tick,fun u=>by
    rw[H u,and_comm,Tree.Di dn hlt]⟩
  ·have hlt':y'<x':=by omega
   obtain⟨c,hc1,hc2⟩:=r.set x' a' hx' hxk'
   have rc:=iN q1 hc2
   have hV:=dn.lt x' (by omega)
   simp[f0,f1,f2,f3,hab',hab,han,hbn,ra,rb,hlt,rc,-ag,aB]
   exact⟨V x'+y',by omega,V x',y',c,b',rfl,hc1,hy',by omega,hyk',by simp[f0],by simp[f1],by simp,by simp[f3],by first|exact g3|exact g3.tick,fun u=>by
    rw[H u,Tree.Di dn hlt']⟩
theorem B9 {n0:Nat} {h:ae} {d:Nat} {ws:List SV} {xss:List (List Int)} (w:jx aY n0 h d ws xss) {i:Nat} {wi:SV} {xs:List Int} (hw:ws[i]? =some wi) (hx:xss[i]? =some xs):SliceR nR 1 h wi.v xs:=by
 have a:=w.acc i wi xs hw hx
 rcases a with⟨rfl,e⟩|⟨b,s',e,hb',hx',_⟩
 ·rw[e];exact⟨none,0,rfl,.inl ⟨rfl,.inl rfl⟩⟩
 ·rw[e]
  refine⟨_,_,rfl,.inr ⟨b,0,_,_,_,_,rfl,hb',fun k x hk=> ?_⟩⟩
  have:=aY.mN xs k x hk
  simp only[GQ,Nat.mul_one] at this
  rw[Nat.zero_add,Nat.mul_one,this]
  exact⟨rfl,rfl⟩
def nI (l:List Nat):List Int:=l.map fun x:Nat=>(x:Int)
theorem Gm {l:List Nat} {i x:Nat} (h:l[i]? =some x):(nI l)[i]? =some (x:Int):=by simp[nI,h]
structure TS (h0 h:ae) (n:Nat) (ord:List Nat) (pls us:List Int) (ah:List (List Int)) (d3 d4 d5 d8 n8:Nat) (ws:List SV):Prop where
 g:ab aG h0 h
 n5:h0.next≤d5
 hO: ∃s,h.tr.get d3=some (.aA (aY.flat (nI ord)) false 1 s)
 hA: ∃s,h.tr.get d4=some (.aA (aY.flat pls) false 0 s)
 hU: ∃s,h.tr.get d5=some (.aA (aY.flat us) false 0 s)
 acc:jx aY n8 h d8 ws ah
 n8:d5<n8
 N2:d3≠d5
 PD:d4≠d5
theorem TS.grow {h0 h h':ae} {n:Nat} {ord:List Nat} {pls us:List Int} {ah:List (List Int)} {d3 d4 d5 d8 n8:Nat} {ws:List SV} (w:TS h0 h n ord pls us ah d3 d4 d5 d8 n8 ws) (g:ab aG h h'):TS h0 h' n ord pls us ah d3 d4 d5 d8 n8 ws:=by
 obtain⟨s1,h1⟩:=w.hO
 obtain⟨s2,h2⟩:=w.hA
 obtain⟨s3,h3⟩:=w.hU
 have ok:=w.g.ok
 exact⟨w.g.trans g,w.n5,⟨s1,g.get ok h1 (fun h=>h)⟩,⟨s2,g.get ok h2 (fun h=>h)⟩,⟨s3,g.get ok h3 (fun h=>h)⟩,w.acc.aW ok g,w.n8,w.N2,w.PD⟩
theorem TS.put {h0 h:ae} {n:Nat} {ord:List Nat} {pls us:List Int} {ah:List (List Int)} {d3 d4 d5 d8 n8:Nat} {ws:List SV} (w:TS h0 h n ord pls us ah d3 d4 d5 d8 n8 ws) {x:Nat} (hx:x<us.length) (v:Int):TS h0 (put h d5 x (aY.flat us) [.int .i64 v] 0) n ord pls (us.set x v) ah d3 d4 d5 d8 n8 ws:=by
 obtain⟨s1,h1⟩:=w.hO
 obtain⟨s2,h2⟩:=w.hA
 obtain⟨s3,h3⟩:=w.hU
 have ok:=w.g.ok
 have g:ab (· =d5) h (AI.put h d5 x (aY.flat us) [.int .i64 v] 0):=aJ ok h3
 refine⟨w.g.put ⟨_,h3⟩ (.inl w.n5),w.n5,⟨s1,g.get ok h1 w.N2⟩,⟨s2,g.get ok h2 w.PD⟩,⟨h.clock,by rw[ax,lJ us x v hx]⟩,w.acc.grow ok g (fun b hb e=>by have:=w.n8;omega),w.n8,w.N2,w.PD⟩
def PrI (h:ae) (e:Env) (ord:List Nat) (V:Nat→Nat) (k:Nat) (ps:List Int) (m:Nat) (e':Env) (h2:ae):Prop:=
 ∃(j:Nat) (best:Int),m=ps.length-j∧j≤ps.length∧Env.get e' 55= .int .i64 j∧Env.get e' 12= .int .i64 best∧aC [12,14,55,56,57,58,59,60,61,62,63,64,65,66,67,68,69,70,71,72,73,74] e e'∧ab aG h h2∧Tree.uO ord V k (ps.take j) best
theorem Nj {ord:List Nat} {us:List Int} {n k:Nat} {V:Nat→Nat} (r:Tree.Eg ord us n V k) {u:Nat} (hu:u<n):
  (us[u]? =some (-1)∧ ∀i,i<k→ ¬ord[i]? =some u)∨ ∃(i y:Nat),i<k∧ord[i]? =some u∧us[u]? =some (y:Int):=by
 by_cases hm: ∃i,i<k∧ord[i]? =some u
 ·obtain⟨i,hi,hu'⟩:=hm
  obtain⟨y,_,hy⟩:=r.set i u hu' hi
  exact .inr ⟨i,y,hi,hu',hy⟩
 ·refine .inl ⟨?_,fun i hi h=>hm ⟨i,hi,h⟩⟩
  by_cases hmem:u∈ord
  ·obtain⟨i,hi⟩:=pM hmem
   exact r.un i u hi (by
    rcases Nat.lt_or_ge i k with h|h
    ·exact absurd ⟨i,h,hi⟩ hm
    ·exact h)
  ·exact r.out u hu hmem
theorem Hc {h0 h:ae} {n:Nat} {ord:List Nat} {pls us:List Int} {ah:List (List Int)} {d3 d4 d5 d8 n8:Nat} {ws:List SV} (w:TS h0 h n ord pls us ah d3 d4 d5 d8 n8 ws) (o:Tree.Ord ord n) {V:Nat→Nat} {k:Nat} (r:Tree.Eg ord us n V k) (dn:Dom.Down V) (hn:n<1000000)
  (hla:pls.length=n) (hat: ∀i x:Nat,ord[i]? =some x→pls[x]? =some (i:Int)) {x:Nat} {wx:SV} {ps:List Int} (hw:ws[x]? =some wx) (hps:ah[x]? =some ps) (hpl:ps.length<1000000) (hpr: ∀p∈ps,0≤p∧p<n)
  {e:Env} {Q:aO→Env→ae→Prop} (f4:Env.get e 4= .slice (some ⟨d4,0,none⟩) n n) (f5:Env.get e 5= .slice (some ⟨d5,0,none⟩) n n) (f12:Env.get e 12= .int .i64 (-1)) (f53:Env.get e 53=wx.v) (f54:Env.get e 54= .int .i64 ps.length) (f55:Env.get e 55= .int .i64 0)
  (C: ∀e' h' best,ab aG h h'→aC [12,14,55,56,57,58,59,60,61,62,63,64,65,66,67,68,69,70,71,72,73,74] e e'→Env.get e' 12= .int .i64 best→Tree.uO ord V k ps best→Q (.exit 6) e' h'):
  az FF (.loop mZ) e h Q:=by
 have ok:=w.g.ok
 have sR:=B9 w.acc hw hps
 have hwl:=SliceR.len sR
 refine az.loop (PrI h e ord V k ps) ?_ (n:=ps.length) ⟨0,-1,rfl,by omega,f55,f12,aC.refl _ _,.refl ok,by simpa using Tree.uO.nil ord V k⟩
 rintro m e' h2 ⟨j,best,rfl,hj,q55,q12,K,g2,hb⟩
 have w2:=w.grow g2
 have q4:=K.at (by decide) f4
 have q5:=K.at (by decide) f5
 have q53:=K.at (by decide) f53
 have q54:=K.at (by decide) f54
 unfold mZ
 by_cases hjl:j<ps.length
 ·have hx:ps[j]? =some ps[j]:=aQ hjl
  have hm:=List.getElem_mem hjl
  generalize ps[j]=p at hx hm
  obtain⟨hp0,hpn⟩:=hpr p hm
  obtain⟨u,rfl⟩: ∃u:Nat,p=u:=⟨p.toNat,by omega⟩
  have hun:u<n:=by omega
  obtain⟨bT,off,c,hTa,_,_,rfl,_,hrd⟩:=SliceR.later ok sR hx
  have r0:=hrd h2 g2 0 1 (by decide)
  simp[-ag] at r0
  have wj:=wrap_i64 ((j:Int)+1) (by omega) (by omega)
  obtain⟨s5,hU⟩:=w2.hU
  obtain⟨s4,hA⟩:=w2.hA
  have ht:ps.take (j+1)=ps.take j++[(u:Int)]:=by rw[List.take_add_one,hx];rfl
  simp at q53
  rw[hTa,hwl] at q53
  rcases Nj r hun with⟨hu1,hu2⟩|⟨i,y,hi,hu1,hu2⟩
  ·have ru:=iN hU hu1
   simp[q4,q5,q53,q54,q55,hjl,r0,hun,ru,-ag,wj]
   refine⟨ps.length-(j+1),by omega,j+1,best,rfl,by omega,by simp,by simp[q12],?_,g2,?_⟩
   ·repeat (refine aC.set (by decide) ?_)
    exact K
   ·rw[ht]
    exact hb.skip (fun i hi ⟨x,hx,e⟩=>hu2 i hi (by rw[hx];congr 1;omega))
  ·have ru:=iN hU hu2
   have hy0: ¬(y:Int)<0:=by omega
   rcases(show best= -1∨ ∃a:Nat,best=a by
    rcases hb with⟨e,_⟩|⟨_,a,_,_,e,_⟩
    ·exact .inl e
    ·exact .inr ⟨a,e⟩) with rfl|⟨a,rfl⟩
   ·simp[q4,q5,q53,q54,q55,q12,hjl,r0,hun,ru,-ag,wj,hy0]
    refine⟨ps.length-(j+1),by omega,j+1,u,rfl,by omega,by simp,by simp,?_,g2,?_⟩
    ·repeat (refine aC.set (by decide) ?_)
     exact K
    ·rw[ht]
     exact hb.one o hi hu1 rfl
   ·have ha0: ¬(a:Int)<0:=by omega
    obtain⟨za,hza,hzk⟩: ∃za,ord[za]? =some a∧za<k:=by
     rcases hb with⟨e,_⟩|⟨z,a',hz,hz2,e,_⟩
     ·omega
     ·have:a'=a:=by omega
      subst this
      exact⟨z,hz2,hz⟩
    simp[q4,q5,q53,q54,q55,q12,hjl,r0,hun,ru,-ag,hy0,ha0]
    refine aD.call (V:=fun v h'=>ab aG h2 h'∧ ∃z w:Nat,v= .int .i64 w∧z<k∧ord[z]? =some w∧ ∀u,Dom.cx V z u↔(Dom.cx V za u∧Dom.cx V i u)) (by simpa using Hs g2.ok o r dn hU hA hla hat hza hu1 hzk hi) ?_
    rintro _ h3 ⟨g3,z,v,rfl,hz,hz2,hz3⟩
    simp[wj,q55]
    refine⟨ps.length-(j+1),by omega,j+1,v,rfl,by omega,by simp,by simp,?_,g2.trans g3,?_⟩
    ·repeat (refine aC.set (by decide) ?_)
     exact K
    ·rw[ht]
     refine hb.meet o hu1 hi rfl (fun za' h1 _=> ?_)
     rw[o.inj h1 hza]
     exact⟨z,v,hz,hz2,rfl,hz3⟩
 ·have:j=ps.length:=by omega
  subst this
  rw[List.take_length] at hb
  simp[q54,q55]
  exact C _ _ best g2 (K.set (by decide)) (by simp[q12]) hb
theorem IK {us:List Int} {x:Nat} {v:Int} (h:us[x]? =some v):us.set x v=us:=by
 refine List.ext_getElem? fun i=> ?_
 rw[List.getElem?_set]
 split
 ·rename_i e;subst e
  rw[h,if_pos (bY.mp h).1]
 ·rfl
structure wz (n:Nat) (ah:List (List Int)):Prop where
 len:ah.length=n
 row: ∀(x:Nat) (ps:List Int),ah[x]? =some ps→ps.length<1000000∧ ∀p∈ps,0≤p∧p<n
structure TC (n:Nat) (ord:List Nat) (pls:List Int) (ah:List (List Int)):Prop where
 o:Tree.Ord ord n
 nl:n≤1000
 la:pls.length=n
 at': ∀i x:Nat,ord[i]? =some x→pls[x]? =some (i:Int)
 rows:wz n ah
 hf: ∀b,0<b→b<ord.length→ ∃w∈Tree.jB ord ah b,w<b
 ln:ord.length≤n
structure TE (n:Nat) (r d3 d4 d5 d8:Nat) (e:Env):Prop where
 f3:Env.get e 3= .slice (some ⟨d3,0,none⟩) r r
 f4:Env.get e 4= .slice (some ⟨d4,0,none⟩) n n
 f5:Env.get e 5= .slice (some ⟨d5,0,none⟩) n n
 f8:Env.get e 8= .slice (some ⟨d8,0,none⟩) n n
def RdI (h0:ae) (n:Nat) (ord:List Nat) (pls:List Int) (ah:List (List Int)) (d3 d4 d5 d8 n8:Nat) (ws:List SV) (first:Bool) (A:Nat→Nat) (m:Nat) (e:Env) (h:ae):Prop:=
 ∃(j:Nat) (us:List Int) (V:Nat→Nat) (more:Bool),m=ord.length-(j+1)∧j+1≤ord.length∧TS h0 h n ord pls us ah d3 d4 d5 d8 n8 ws∧Tree.Jx ord ah n us first A V (j+1) more∧TE n ord.length d3 d4 d5 d8 e∧
  Env.get e 9= .bool more∧Env.get e 44= .slice (some ⟨d3,1,none⟩) (ord.length-1) (ord.length-1)∧Env.get e 45= .int .i64 ((ord.length-1:Nat):Int)∧Env.get e 46= .int .i64 j
theorem Ew {h0 h:ae} {n:Nat} {ord:List Nat} {pls us:List Int} {ah:List (List Int)} {d3 d4 d5 d8 n8:Nat} {ws:List SV} (w:TS h0 h n ord pls us ah d3 d4 d5 d8 n8 ws) (c:TC n ord pls ah) {first more:Bool} {A V:Nat→Nat} (hr:0<ord.length) (M:Tree.Jx ord ah n us first A V 1 more)
  {e:Env} {Q:aO→Env→ae→Prop} (E:TE n ord.length d3 d4 d5 d8 e) (f9:Env.get e 9= .bool more) (f44:Env.get e 44= .slice (some ⟨d3,1,none⟩) (ord.length-1) (ord.length-1)) (f45:Env.get e 45= .int .i64 ((ord.length-1:Nat):Int)) (f46:Env.get e 46= .int .i64 0)
  (C: ∀e' h' us' V' more',TS h0 h' n ord pls us' ah d3 d4 d5 d8 n8 ws→Tree.Jx ord ah n us' first A V' ord.length more'→TE n ord.length d3 d4 d5 d8 e'→Env.get e' 9= .bool more'→Q (.exit 4) e' h'):
  az FF (.loop gV) e h Q:=by
 have hn:=c.nl
 have hln:=c.ln
 refine az.loop (RdI h0 n ord pls ah d3 d4 d5 d8 n8 ws first A) ?_ (n:=ord.length-1) ⟨0,us,V,more,by omega,hr,w,M,E,f9,f44,f45,f46⟩
 rintro m e1 h1 ⟨j,us1,V1,more1,rfl,hj,w1,M1,E1,q9,q44,q45,q46⟩
 have ok1:=w1.g.ok
 unfold gV
 by_cases hjl:j+1<ord.length
 ·obtain⟨x,hx⟩: ∃x,ord[j+1]? =some x:=⟨_,aQ hjl⟩
  have hxn:=c.o.lt x (di hx)
  obtain⟨ps,hps⟩: ∃ps,ah[x]? =some ps:=⟨_,aQ (by rw[c.rows.len];exact hxn)⟩
  obtain⟨wx,hwx⟩: ∃wx,ws[x]? =some wx:=⟨_,aQ (by rw[w1.acc.len,c.rows.len];exact hxn)⟩
  obtain⟨hpl,hpr⟩:=c.rows.row x ps hps
  obtain⟨s1,hO⟩:=w1.hO
  obtain⟨s8,h8⟩:=w1.acc.aA
  have ro:=iN hO (Gm hx)
  rw[Nat.add_comm] at ro
  have rw8:=uH h8 hwx
  have hwl:=SliceR.len (B9 w1.acc hwx hps)
  have hjo:(j:Int)<((ord.length-1:Nat):Int):=by omega
  have hjo':j<ord.length-1:=by omega
  have wj:=wrap_i64 ((j:Int)+1) (by omega) (by omega)
  simp[-ag] at rw8
  simp[q44,q45,q46,hjo,hjo',ro,E1.f8,hxn,rw8,hwl,-ag]
  refine Hc w1 c.o M1.rep M1.dn (by omega) c.la c.at' hwx hps hpl hpr (by simp[E1.f4]) (by simp[E1.f5]) (by simp) (by simp[hwl]) (by simp[hwl]) (by simp) ?_
  intro e2 h2 best g2 K q12 hb
  have w2:=w1.grow g2
  obtain⟨y,z,rfl,hz,M2⟩:=M1.step c.o (Nat.succ_pos _) hx hps (c.hf (j+1) (Nat.succ_pos _) hjl) hb
  have k5:=K.at (t:=5) (by decide) (by simp;exact E1.f5)
  have k11:Env.get e2 11= .int .i64 x:=K.at (t:=11) (by decide) (by simp)
  have k3:=K.at (t:=3) (by decide) (by simp;exact E1.f3)
  have k4:=K.at (t:=4) (by decide) (by simp;exact E1.f4)
  have k8:=K.at (t:=8) (by decide) (by simp;exact E1.f8)
  have k9:=K.at (t:=9) (by decide) (by simp;exact q9)
  have k44:=K.at (t:=44) (by decide) (by simp;exact q44)
  have k45:=K.at (t:=45) (by decide) (by simp;exact q45)
  have k46:=K.at (t:=46) (by decide) (by simp;exact q46)
  obtain⟨s5,hU⟩:=w2.hU
  have hul:us1.length=n:=M1.rep.len
  obtain⟨v,hv⟩: ∃v,us1[x]? =some v:=⟨_,aQ (by omega)⟩
  have ru:=iN hU hv
  have hxl:x+1≤us1.length:=by omega
  by_cases hvy:v=(y:Int)
  ·subst hvy
   rw[IK hv] at M2
   simp[k5,k11,q12,hxn,ru,wj,k46,-ag]
   refine⟨ord.length-(j+1+1),by omega,j+1,us1,_,more1,rfl,hjl,w2,by simpa [hv] using M2,⟨?_,?_,?_,?_⟩,?_,?_,?_,?_⟩
   ·simp[k3]
   ·simp[k4]
   ·simp[k5]
   ·simp[k8]
   ·simp[k9]
   ·simp[k44]
   ·simp[k45]
   ·simp
  ·have hne:(v !=(y:Int))=true:=by simpa using hvy
   simp[k5,k11,q12,hxn,ru,wj,k46,hne,hvy,hU,hxl,-ag]
   refine⟨ord.length-(j+1+1),by omega,j+1,us1.set x (y:Int),_,true,rfl,hjl,w2.put (by omega) _,by simpa [hv,hvy] using M2,⟨?_,?_,?_,?_⟩,?_,?_,?_,?_⟩
   ·simp[k3]
   ·simp[k4]
   ·simp[k5]
   ·simp[k8]
   ·simp
   ·simp[k44]
   ·simp[k45]
   ·simp
 ·have hjr:j+1=ord.length:=by omega
  rw[hjr] at M1
  have hjo: ¬(j:Int)<((ord.length-1:Nat):Int):=by omega
  simp[q45,q46,hjo]
  exact C _ _ us1 V1 more1 w1 M1 ⟨by simp[E1.f3],by simp[E1.f4],by simp[E1.f5],by simp[E1.f8]⟩ (by simp[q9])
def Py (h0:ae) (n:Nat) (ord:List Nat) (pls:List Int) (ah:List (List Int)) (d3 d4 d5 d8 n8:Nat) (ws:List SV) (m:Nat) (e:Env) (h:ae):Prop:=
 ∃(us:List Int) (more:Bool),TS h0 h n ord pls us ah d3 d4 d5 d8 n8 ws∧TE n ord.length d3 d4 d5 d8 e∧Env.get e 9= .bool more∧
  ((more=true∧us=(List.replicate n (-1:Int)).set 0 0∧m=ord.length*ord.length+2)∨ ∃V,Tree.Om ord ah V∧Tree.Eg ord us n V ord.length∧m=if more then Dom.total V ord.length+1 else 0)
theorem CS {h0 h:ae} {n:Nat} {ord:List Nat} {pls:List Int} {ah:List (List Int)} {d3 d4 d5 d8 n8:Nat} {ws:List SV} (w:TS h0 h n ord pls ((List.replicate n (-1:Int)).set 0 0) ah d3 d4 d5 d8 n8 ws) (c:TC n ord pls ah) (hr:0<ord.length)
  {e:Env} {Q:aO→Env→ae→Prop} (E:TE n ord.length d3 d4 d5 d8 e) (f9:Env.get e 9= .bool true)
  (C: ∀e' h' us' V',TS h0 h' n ord pls us' ah d3 d4 d5 d8 n8 ws→Tree.Om ord ah V'→Tree.Eg ord us' n V' ord.length→TE n ord.length d3 d4 d5 d8 e'→Q (.exit 2) e' h'):
  az FF (.loop n9) e h Q:=by
 refine az.loop (Py h0 n ord pls ah d3 d4 d5 d8 n8 ws) ?_ (n:=ord.length*ord.length+2) ⟨_,true,w,E,f9,.inl ⟨rfl,rfl,rfl⟩⟩
 rintro m e1 h1 ⟨us,more,w1,E1,q9,hc⟩
 unfold n9
 cases more with
 |false=>
  rcases hc with⟨h,_⟩|⟨V,hB,hR,rfl⟩
  ·cases h
  ·simp[q9]
   exact C _ _ us V w1 hB hR ⟨by simp[E1.f3],by simp[E1.f4],by simp[E1.f5],by simp[E1.f8]⟩
 |true=>
  have hr1:1≤ord.length:=hr
  obtain⟨s,hs⟩: ∃s,s=ord.length-1:=⟨_,rfl⟩
  have fin: ∀(first:Bool) (A V:Nat→Nat),Tree.Jx ord ah n us first A V 1 false→(first=false→Tree.Om ord ah A∧m=Dom.total A ord.length+1)→(first=true→m=ord.length*ord.length+2)→az FF (.loop gV)
    (Tr.set (Tr.set (Tr.set (Tr.set (Tr.set (Tr.set e1 42 (.bool true)) 9 (.bool false)) 43 (.slice (some ⟨d3,0,none⟩) ord.length ord.length)) 44 (.slice (some ⟨d3,1,none⟩) (ord.length-1) (ord.length-1))) 45 (.int .i64 ((ord.length-1:Nat):Int))) 46 (.int .i64 0)) h1
    (fun x e2 h2=>x= .exit 4∧ ∃m',m'<m∧Py h0 n ord pls ah d3 d4 d5 d8 n8 ws m' e2 h2):=by
   intro first A V M hf1 hf2
   refine Ew w1 c hr M ⟨by simp[E1.f3],by simp[E1.f4],by simp[E1.f5],by simp[E1.f8]⟩ (by simp) (by simp) (by simp) (by simp) ?_
   intro e2 h2 us2 V2 more2 w2 M2 E2 k9
   refine⟨rfl,?_⟩
   obtain⟨hB,hR,hT⟩:=M2.done (fun h=>(hf1 h).1) c.hf
   refine⟨_,?_,us2,more2,w2,E2,k9,.inr ⟨V2,hB,hR,rfl⟩⟩
   have bd:Dom.total V2 ord.length≤ord.length*ord.length:=Dom.xi _ (fun i hi=>by
    rcases Nat.eq_zero_or_pos i with rfl|h
    ·rw[hB.1.zero];exact Nat.zero_le _
    ·have:=hB.1.lt i h;omega)
   cases hfst:first with
   |true=>have:=hf2 hfst;split<;>omega
   |false=>
    obtain⟨_,hm⟩:=hf1 hfst
    cases hmo:more2 with
    |true=>have:=hT hfst hmo;simp;omega
    |false=>simp;omega
  have H:az FF (.loop gV)
    (Tr.set (Tr.set (Tr.set (Tr.set (Tr.set (Tr.set e1 42 (.bool true)) 9 (.bool false)) 43 (.slice (some ⟨d3,0,none⟩) ord.length ord.length)) 44 (.slice (some ⟨d3,1,none⟩) (ord.length-1) (ord.length-1))) 45 (.int .i64 ((ord.length-1:Nat):Int))) 46 (.int .i64 0)) h1
    (fun x e2 h2=>x= .exit 4∧ ∃m',m'<m∧Py h0 n ord pls ah d3 d4 d5 d8 n8 ws m' e2 h2):=by
   rcases hc with⟨_,rfl,rfl⟩|⟨V,hB,hR,hm⟩
   ·exact fin true (fun _=>0) _ (Tree.H8 c.o _ _) (fun h=>by cases h) (fun _=>rfl)
   ·exact fin false V V (Tree.JB hR hB.1) (fun _=>⟨hB,by simpa using hm⟩) (fun h=>by cases h)
  obtain⟨s1,hO⟩:=w1.hO
  simp[q9,E1.f3,hr1,hO]
  refine H.mono ?_
  rintro x e2 h2 ⟨rfl,m',hm',I⟩
  simp
  exact⟨m',hm',I⟩
def AtI (h:ae) (n:Nat) (ord:List Nat) (d3 d4:Nat) (e:Env) (m:Nat) (e':Env) (h2:ae):Prop:=
 ∃(j:Nat) (pls:List Int),m=ord.length-j∧j≤ord.length∧Env.get e' 28= .int .i64 j∧aC [28,6,7,29,30,31,32,33,34,35,36,37] e e'∧ab (· =d4) h h2∧(∃s,h2.tr.get d4=some (.aA (aY.flat pls) false 0 s))∧pls.length=n∧ ∀i x:Nat,i<j→ord[i]? =some x→pls[x]? =some (i:Int)
theorem LV {h:ae} (ok:bh h) {n:Nat} {ord:List Nat} (o:Tree.Ord ord n) (hr:ord.length≤n) (hn:n≤1000) {d3 d4 s3 s4 o3:Nat} (hO:h.tr.get d3=some (.aA (aY.flat (nI ord)) false o3 s3)) {pls:List Int} (hA:h.tr.get d4=some (.aA (aY.flat pls) false 0 s4)) (hl:pls.length=n) (hne:d3≠d4)
  {e:Env} {Q:aO→Env→ae→Prop} (f4:Env.get e 4= .slice (some ⟨d4,0,none⟩) n n) (f26:Env.get e 26= .slice (some ⟨d3,0,none⟩) ord.length ord.length) (f27:Env.get e 27= .int .i64 ord.length) (f28:Env.get e 28= .int .i64 0)
  (C: ∀e' h' pls',aC [28,6,7,29,30,31,32,33,34,35,36,37] e e'→ab (· =d4) h h'→(∃s,h'.tr.get d4=some (.aA (aY.flat pls') false 0 s))→pls'.length=n→(∀i x:Nat,ord[i]? =some x→pls'[x]? =some (i:Int))→Q (.exit 0) e' h'):
  az FF (.loop nN) e h Q:=by
 refine az.loop (AtI h n ord d3 d4 e) ?_ (n:=ord.length) ⟨0,pls,rfl,by omega,f28,aC.refl _ _,.refl ok,⟨s4,hA⟩,hl,fun i x h=>by omega⟩
 rintro m e' h2 ⟨j,pl,rfl,hj,q28,K,g2,⟨s,hA2⟩,hpl,hat⟩
 have q4:=K.at (by decide) f4
 have q26:=K.at (by decide) f26
 have q27:=K.at (by decide) f27
 unfold nN
 by_cases hjl:j<ord.length
 ·obtain⟨x,hx⟩: ∃x,ord[j]? =some x:=⟨_,aQ hjl⟩
  have hxn:=o.lt x (di hx)
  have hO2:=g2.get ok hO hne
  have ro:=iN hO2 (Gm hx)
  have wj:=wrap_i64 ((j:Int)+1) (by omega) (by omega)
  have hxl:x+1≤pl.length:=by omega
  simp[q4,q26,q27,q28,hjl,ro,hxn,hA2,hxl,wj,-ag]
  refine⟨ord.length-(j+1),by omega,j+1,pl.set x j,rfl,hjl,by simp,?_,g2.trans (aJ g2.ok hA2),⟨h2.clock,by rw[ax,lJ pl x j (by omega)]⟩,by simp[hpl],fun i y hi hy=> ?_⟩
  ·repeat (refine aC.set (by decide) ?_)
   exact K
  ·rw[List.getElem?_set]
   by_cases e:x=y
   ·subst e
    rw[if_pos rfl,if_pos (by omega),o.inj hy hx]
   ·rw[if_neg e]
    by_cases e2:i=j
    ·subst e2;rw[hx] at hy;cases hy;exact absurd rfl e
    ·exact hat i y (by omega) hy
 ·have:j=ord.length:=by omega
  subst this
  simp[q27,q28]
  exact C _ _ pl (K.set (by decide)) g2 ⟨s,hA2⟩ hpl (fun i x hx=>hat i x (bY.mp hx).1 hx)
def pV (bs:List GB):List Nat:=(Dfs.jM (mh bs) bs.length).reverse
theorem LH (bs:List GB):(mA bs).reverse=nI (pV bs):=by simp[mA,pV,nI,List.map_reverse]
theorem yh {bs:List GB} (E:iJ bs) (h0:0<bs.length):Tree.Ord (pV bs) bs.length:=by
 obtain⟨h1,h2,⟨new,h3⟩,_,_⟩:=Dfs.sy h0 (vo E)
 refine⟨List.pairwise_reverse.2 (h1.imp fun h=>h.symm),fun x hx=>h2 x (List.mem_reverse.1 hx),?_⟩
 unfold pV
 rw[h3];simp
theorem Jf {bs:List GB} (E:iJ bs) (h0:0<bs.length):(pV bs).length≤bs.length∧0<(pV bs).length:=by
 have o:=yh E h0
 refine⟨?_,?_⟩
 ·have:=List.Nodup.length_le_of_subset o.nd (l₂:=List.range bs.length) (fun x hx=>List.mem_range.2 (o.lt x hx))
  simpa using this
 ·exact(bY.mp o.zero).1
theorem Gl {bs:List GB} (E:iJ bs):wz bs.length (Edge.bm (aX bs)):=by
 have hl:(aX bs).length=bs.length:=by simp[aX]
 have hto: ∀ts∈aX bs,∀t∈ts,t.toNat<(aX bs).length:=by
  intro ts hts t ht
  obtain⟨b,hb,rfl⟩:=List.mem_map.1 hts
  have:=E.to b hb t ht
  rw[hl];omega
 refine⟨by rw[Edge.eA,hl],fun x ps hps=>⟨?_,fun p hp=> ?_⟩⟩
 ·have h1:=Edge.lL (n:=(aX bs).length) (cT:=aX bs) (fun ts hts=>by
   obtain⟨b,hb,rfl⟩:=List.mem_map.1 hts
   exact E.two b hb) x (aX bs).length
  have h2:((Edge.upto (aX bs).length (aX bs) (aX bs).length)[x]?).getD []=ps:=by
   show((Edge.bm (aX bs))[x]?).getD []=ps
   rw[hps];rfl
  rw[h2] at h1
  have:=E.len
  omega
 ·have hm:=(Edge.tk hto (u:=x) (x:=p)).1 (by rw[hps];exact hp)
  obtain⟨i,rfl,ts,ht,_⟩:=hm
  have:=(bY.mp ht).1
  omega
theorem Ii {bs:List GB} (E:iJ bs) (h0:0<bs.length): ∀b,0<b→b<(pV bs).length→ ∃w∈Tree.jB (pV bs) (Edge.bm (aX bs)) b,w<b:=by
 intro b hb hbl
 have o:=yh E h0
 obtain⟨h1,h2,_,_,h5⟩:=Dfs.sy h0 (vo E)
 have hl:(aX bs).length=bs.length:=by simp[aX]
 have hto: ∀ts∈aX bs,∀t∈ts,t.toNat<(aX bs).length:=by
  intro ts hts t ht
  obtain⟨b,hb,rfl⟩:=List.mem_map.1 hts
  have:=E.to b hb t ht
  rw[hl];omega
 obtain⟨x,hx⟩: ∃x,(pV bs)[b]? =some x:=⟨_,aQ hbl⟩
 have hxm:=di hx
 have hx0:x≠0:=fun e=>by subst e;have:=o.inj hx o.zero;omega
 obtain⟨p,hp,l1,l2,hl12,hpl⟩:=h5 x (List.mem_reverse.1 hxm) hx0
 obtain⟨ps,hps⟩: ∃ps,(Edge.bm (aX bs))[x]? =some ps:=⟨_,aQ (by rw[Edge.eA,hl];exact o.lt x hxm)⟩
 have hord:pV bs=l2.reverse++x::l1.reverse:=by unfold pV;rw[hl12];simp
 obtain⟨w,hw⟩:=pM (List.mem_reverse.2 hpl)
 have hwl:=(bY.mp hw).1
 have hw2:(pV bs)[w]? =some p:=by rw[hord,List.getElem?_append_left hwl,hw]
 have hb2:(pV bs)[l2.reverse.length]? =some x:=by rw[hord,List.getElem?_append_right (Nat.le_refl _)];simp
 have:=o.inj hx hb2
 refine⟨w,(Tree.mR hx hps).2 ⟨p,hw2,?_⟩,by omega⟩
 have hmem:=(Edge.tk hto (u:=x) (x:=(p:Int))).2 (by
  unfold Dfs.row mh at hp
  rw[List.getElem?_map] at hp
  cases hbp:bs[p]? with
  |none=>rw[hbp] at hp;simp at hp
  |some y=>
   rw[hbp] at hp
   simp at hp
   obtain⟨t,ht,e⟩:=hp
   exact⟨p,rfl,y.to,by simp[aX,hbp],t,ht,e.symm⟩)
 rw[hps] at hmem
 exact hmem
def Mp (h:ae) (n:Nat) (v:Value) (h':ae):Prop:=ab aG h h'∧ ∃d us s,v= .slice (some ⟨d,0,none⟩) n n∧h.next≤d∧h'.tr.get d=some (.aA (aY.flat us) false 0 s)∧Tree.Hk us n
theorem HW {h:ae} (ok:bh h) {name:ByteArray} {p r:Int} {B:SV} {bs:List GB} (hB:wB h B bs) (E:iJ bs) (h0:0<bs.length):
  aE FF vp [.agg ⟨ak name p r B⟩] h (Mp h bs.length):=by
 have hBl:=SliceR.len hB
 have hl:=E.len
 have r1:roomy bs.length=true:=by simp[roomy];omega
 have r2:roomy (bs.length*8)=true:=by simp[roomy];omega
 have o:=yh E h0
 obtain⟨hol,ho0⟩:=Jf E h0
 refine aE.of BC ?_
 unfold vz
 simp[ak]
 refine aD.cut (fun h1=>ab aG h h1∧h1.tr.get h.next=some (.aA (ak name p r B) false 0 0)) ⟨(ab.refl ok).new _ _,by simp[ak]⟩ ?_
 rintro h1 ⟨g1,hF⟩
 have hF':=hF
 simp[ak] at hF'
 refine aD.call (V:=fun v h'=>ab aG h1 h'∧ ∃L:SV,v=L.v∧cj aY h1.next h' L.v (mA bs).reverse) (by simpa [ak] using zj g1.ok (name:=name) (p:=p) (r:=r) (hB.mono ok g1) E h0) ?_
 rintro _ h2 ⟨g2,L,rfl,hA⟩
 rw[LH] at hA
 rcases hA with⟨e,_⟩|⟨d3,s3,e,hd3,_,hn3⟩
 ·have:(nI (pV bs)).length=0:=by rw[e];rfl
  simp[nI] at this
  rw[this] at ho0
  simp at ho0
 have hnl:(nI (pV bs)).length=(pV bs).length:=by simp[nI]
 rw[hnl] at e
 rw[e]
 have hF2:=g2.get g1.ok hF' (fun h=>h)
 have hz:gI [Value.int .i64 0] bs.length=aY.flat (List.replicate bs.length (0:Int)):=vg aY (0:Int) rfl _
 have oF:=g2.ok.bl hF2
 simp[hF2,hBl,r1,r2,hz,oF,aL,aw hF2,-ag]
 refine aD.cut (fun h3=>ab aG h2 h3∧(∃s,h3.tr.get h2.next=some (.aA (aY.flat (List.replicate bs.length (0:Int))) false 0 s))∧(∃s,h3.tr.get (h2.next+1)=some (.aA [.int .i64 (-1)] false 0 s))∧h2.next+1<h3.next) ?_ ?_
 ·exact⟨((ab.refl g2.ok).new _ _).new _ _,⟨0,by simp⟩,⟨0,by simp⟩,by simp⟩
 rintro h3 ⟨g3,⟨s4,h4b⟩,⟨sm1,hm1⟩,l3⟩
 have hF3:=g3.get g2.ok hF2 (fun h=>h)
 refine aD.call (V:=fun v h'=>ab aG h3 h'∧ ∃d s,v= .slice (some ⟨d,0,none⟩) bs.length bs.length∧h3.next≤d∧h'.tr.get d=some (.aA (aY.flat (List.replicate bs.length (-1:Int))) false 0 s)) (by simpa using yY g3.ok bs.length (by omega) (x:= -1) hm1) ?_
 rintro _ h5 ⟨g5,d5,s5,rfl,hn5,hd5⟩
 have hO5:=(g3.trans g5).get g2.ok hd3 (fun h=>h)
 have hA5:=g5.get g3.ok h4b (fun h=>h)
 have l3':=(g2.ok.bl hd3).lt
 simp
 refine LV g5.ok o hol hl hO5 hA5 (by simp) (by omega) (by simp) (by simp) (by simp) (by simp) ?_
 rintro e6 h6 pls K6 g6 ⟨s6,hA6⟩ hpl hat
 have hU6:=g6.get g5.ok hd5 (by have:=g2.ok;omega)
 have hO6:=g6.get g5.ok hO5 (by omega)
 have g56:ab aG h h6:=(((g1.trans g2).trans g3).trans g5).trans' g6 (fun _ _ h=>h) (fun x hx e=>by have:=(g1.trans g2).next;omega)
 have k5:Env.get e6 5= .slice (some ⟨d5,0,none⟩) bs.length bs.length:=K6.at (t:=5) (by decide) (by simp)
 have k1:Env.get e6 1= .pointer (some ⟨h.next,0,none⟩):=K6.at (t:=1) (by decide) (by simp)
 have k3:Env.get e6 3= .slice (some ⟨d3,0,none⟩) (pV bs).length (pV bs).length:=K6.at (t:=3) (by decide) (by simp)
 have k4:Env.get e6 4= .slice (some ⟨h2.next,0,none⟩) bs.length bs.length:=K6.at (t:=4) (by decide) (by simp)
 have hF6:=g6.get g5.ok (g5.get g3.ok hF3 (fun h=>h)) (by have:=g2.next;have:=(g1.ok.bl hF').lt;omega)
 have hul:(1:Nat)≤bs.length:=h0
 have oF6:=g56.ok.bl hF6
 have nF: ¬h.next=d5:=by have:=(g1.ok.bl hF').lt;have:=g2.next;omega
 simp[k5,h0,hU6,k1,hul,bg nF,aw hF6,-ag,hBl]
 have sp0:=lJ (List.replicate bs.length (-1)) 0 0 (by simpa using h0)
 refine aD.cut (fun h7=>ab (· =d5) h6 h7∧ ∃s,h7.tr.get d5=some (.aA (aY.flat ((List.replicate bs.length (-1:Int)).set 0 0)) false 0 s)) ?_ ?_
 ·exact⟨aJ g56.ok hU6,h6.clock,by rw[ax,sp0]⟩
 rintro h7 ⟨g7,s7,hU7⟩
 have hO7:=g7.get g56.ok hO6 (by omega)
 have hA7:=g7.get g56.ok hA6 (by omega)
 have g07:ab aG h h7:=g56.trans' g7 (fun _ _ h=>h) (fun x hx e=>by have:=(g1.trans g2).next;omega)
 refine aD.call (V:=fun v h'=>ab aG h7 h'∧ ∃d ws,v= .slice (some ⟨d,0,none⟩) bs.length bs.length∧jx aY h7.next h' d ws (Edge.bm (aX bs))) (by simpa [ak,hBl] using ma g07.ok (name:=name) (p:=p) (r:=r) (hB.mono ok g07) E) ?_
 rintro _ h8 ⟨g8,d8,ws,rfl,w8⟩
 have hU8:=g8.get g07.ok hU7 (fun h=>h)
 have hO8:=g8.get g07.ok hO7 (fun h=>h)
 have hA8:=g8.get g07.ok hA7 (fun h=>h)
 have l5:=(g07.ok.bl hU7).lt
 have W:TS h h8 bs.length (pV bs) pls ((List.replicate bs.length (-1:Int)).set 0 0) (Edge.bm (aX bs)) d3 h2.next d5 d8 h7.next ws:=
  ⟨g07.trans g8,by have:=(g1.trans g2).next;omega,⟨s3,hO8⟩,⟨s6,hA8⟩,⟨s7,hU8⟩,w8,l5,by omega,by omega⟩
 have c:TC bs.length (pV bs) pls (Edge.bm (aX bs)):=⟨o,hl,hpl,hat,Gl E,Ii E h0,hol⟩
 simp
 refine CS W c ho0 ⟨by simp[k3],by simp[k4],by simp[k5],by simp⟩ (by simp) ?_
 rintro e9 h9 us V W9 hBt hR E9
 obtain⟨s9,hU9⟩:=W9.hU
 have hul9:1≤us.length:=by rw[hR.len];exact h0
 have sp9:=lJ us 0 (-1) (by omega)
 simp[E9.f5,h0,hU9,hul9]
 refine⟨W9.g.put ⟨_,hU9⟩ (.inl W9.n5),d5,us.set 0 (-1),h9.clock,rfl,W9.n5,by rw[ax,sp9],Tree.NN o hBt.1 hR hol⟩
def c7 (x:GI):List (Bool×Int):=(if(bS x.op).2.1 then [x.a] else [])++((if(bS x.op).2.2 then [x.b] else [])++x.args)
def ez (x:GI) (A:SV):List Value:=ay x.op x.dst x.a.1 x.a.2 x.b.1 x.b.2 x.fn A.v
theorem wI (h:ae) (x:GI) (A:SV):aE FF xr [.agg ⟨ez x A⟩] h (fun v h'=>v= .func (.func cO) #[] #[.pointer (some ⟨h.next,0,none⟩)]∧h'=aH h (ez x A) 0):=by
 refine aE.of DF ?_
 unfold xe
 simp[ez,ay]
theorem uS {S:Nat→Prop} {h1:ae} (ok:bh h1) {l p:Nat} {e:Env} {asg body:aj} {v:Value} {K Z:ae→Prop} (hS: ¬S l) (hl:h1.tr.get l=some (.loop e [p] asg body .ready))
  (H:az FF asg (Tr.set e p v) h1 (fun x e2 h2=>x= .normal∧ab aG h1 h2∧ ∀h3,ab (· =l) h2 h3→az FF body e2 h3 (fun x _ h4=>ab S h3 h4∧((x= .normal∧K h4)∨(x= .ret∧Z h4)))))
  (hK: ∀h4 h5,K h4→bh h4→ab (· =l) h4 h5→K h5) (hZ: ∀h4 h5,Z h4→bh h4→ab (· =l) h4 h5→Z h5):
  bZ FF (.func (.yield l) #[] #[]) [v] h1 (fun r h5=>ab (fun x=>S x∨x=l) h1 h5∧((r= .bool true∧h5.tr.get l=some (.loop e [p] asg body .ready)∧K h5)∨(r= .bool false∧h5.tr.get l=some (.loop e [p] asg body (.done none))∧Z h5))):=by
 refine bZ.yield hl (by simp[fH];rfl) ?_
 refine H.mono ?_
 rintro x e2 h2 ⟨rfl,g2,H2⟩
 have hl2:=g2.get ok hl (fun h=>h)
 refine⟨rfl,hl2,?_⟩
 have gs:=iE g2.ok hl2 e [p] asg body .busy
 refine(H2 _ gs).mono ?_
 rintro x e3 h4 ⟨g4,hx⟩
 have hl4:=g4.get gs.ok (lH h2 l e [p] asg body .busy) hS
 have all: ∀st,ab (fun x=>S x∨x=l) h1 (eL h4 l e [p] asg body st):=fun st=>
  ((g2.aW.trans' gs (fun _ _ h=>h) (fun _ _ h=> .inr h)).trans' g4 (fun _ _ h=>h) (fun _ _ h=> .inl h)).trans' (iE g4.ok hl4 e [p] asg body st) (fun _ _ h=>h) (fun _ _ h=> .inr h)
 rcases hx with⟨rfl,k4⟩|⟨rfl,z4⟩
 ·exact⟨⟨_,_,_,_,hl4,rfl,rfl,rfl,rfl⟩,all _,.inl ⟨rfl,lH _ _ _ _ _ _ _,hK _ _ k4 g4.ok (iE g4.ok hl4 e [p] asg body .ready)⟩⟩
 ·exact⟨⟨_,_,_,_,hl4,rfl,rfl,rfl,rfl⟩,all _,.inr ⟨rfl,lH _ _ _ _ _ _ _,hZ _ _ z4 g4.ok (iE g4.ok hl4 e [p] asg body (.done none))⟩⟩
def YQ (S:Nat→Prop) (B:Nat) (K Z:ae→Prop) (h2:ae) (r:Value) (h':ae):Prop:=ab (fun b=>S b∨B≤b) h2 h'∧((r= .bool true∧K h')∨(r= .bool false∧Z h'))
def V1I (x:GI) (A:SV) (y:Value) (X B:Nat) (k:Nat) (I:Nat→Nat→ae→Prop) (m:Nat) (e:Env) (h2:ae):Prop:=
 ∃j:Nat,m=x.args.length-j∧j≤x.args.length∧Env.get e 0=y∧Env.get e 30=A.v∧Env.get e 31= .int .i64 x.args.length∧Env.get e 32= .int .i64 j∧B≤h2.next∧I B (k+j) h2
theorem uF {h0 h:ae} (ok0:bh h0) {X:Nat} {x:GI} {A:SV} (hA:SliceR vR 2 h0 A.v x.args) (hl:x.args.length<2000000) {y:Value} (I:Nat→Nat→ae→Prop) (S:Nat→Prop) (Z:ae→Prop)
  (hI: ∀B j h2,I B j h2→ab aG h0 h2∧ ∃s,h2.tr.get X=some (.aA (ez x A) false 0 s)) (hst: ∀B j h2 h3,I B j h2→ab aG h2 h3→I B j h3) (hS: ∀b,S b→b<h.next)
  (H: ∀B j v h2,(c7 x)[j]? =some v→B≤h2.next→h.next<B→I B j h2→bZ FF y [.agg ⟨[.bool v.1,.int .i64 v.2]⟩] h2 (YQ S B (I B (j+1)) Z h2))
  (g0:ab aG h0 h) (hX: ∃s,h.tr.get X=some (.aA (ez x A) false 0 s)) (hi: ∀h1,ab aG h h1→I h1.next 0 h1):
  aE FF cO [y,.pointer (some ⟨X,0,none⟩)] h (fun _ h'=>(∃B,I B (c7 x).length h')∨Z h'):=by
 have hAl:=SliceR.len hA
 obtain⟨s0,hX⟩:=hX
 have hX':=hX
 simp[ez,ay] at hX'
 have lX:=(g0.ok.bl hX).lt
 refine aE.of zP ?_
 unfold tM
 simp[hX']
 refine aD.call (by simpa using w_ h g0.ok x.op) ?_
 rintro _ h1 ⟨rfl,g1⟩
 have hX1:=g1.get g0.ok hX' (fun h=>h)
 have oX1:=g1.ok.bl hX1
 have l1:=g1.next
 
 have loop: ∀(B k:Nat) (h5:ae) (e:Env) (Q:aO→Env→ae→Prop),Env.get e 0=y→Env.get e 30=A.v→Env.get e 31= .int .i64 x.args.length→Env.get e 32= .int .i64 0→B≤h5.next→h.next<B→(∀j,j≤x.args.length→(c7 x)[k+j]? =x.args[j]?)→k+x.args.length=(c7 x).length→I B k h5→
   (∀e' h',(∃B,I B (c7 x).length h')∨Z h'→Q (.exit 0) e' h'∧Q .ret e' h')→az FF (.loop mn) e h5 Q:=by
  intro B k h5 e Q f0 f30 f31 f32 hB hB2 hv hk hi5 HQ
  refine az.loop (V1I x A y X B k I) ?_ (n:=x.args.length) ⟨0,rfl,by omega,f0,f30,f31,f32,hB,hi5⟩
  rintro m e6 h6 ⟨j,rfl,hj,f0,f30,f31,f32,hB6,hi6⟩
  unfold mn
  obtain⟨g6,s6,hX6⟩:=hI _ _ _ hi6
  by_cases hjl:j<x.args.length
  ·have hx:x.args[j]? =some x.args[j]:=aQ hjl
   generalize x.args[j]=v at hx
   obtain⟨bT,off,c,hTa,_,_,rfl,oT,hrd⟩:=SliceR.later ok0 hA hx
   have r0:=hrd h6 g6 0 2 (by decide)
   simp[-ag] at r0
   have f30':=f30
   simp at f30'
   rw[hTa,hAl] at f30'
   have wj:=wrap_i64 ((j:Int)+1) (by omega) (by omega)
   simp[f0,f30',f31,f32,hjl,r0,-ag,aq]
   refine aD.cut (fun h7=>ab aG h6 h7) ((ab.refl g6.ok).var _ _) ?_
   intro h7 g7
   have l7:=g7.next
   refine aD.cm (V:=YQ S B (I B (k+j+1)) Z h7) (by simpa [f0] using H B (k+j) v h7 (by rw[hv j hj,hx]) (by omega) hB2 (hst _ _ _ _ hi6 g7)) ?_
   rintro r h8 ⟨g8,h|h⟩
   ·obtain⟨rfl,hi8⟩:=h
    simp[f32,wj]
    exact⟨x.args.length-(j+1),by omega,j+1,rfl,hjl,by simp[f0],by simp[f30',hTa,hAl],by simp[f31],by simp,by have:=g8.next;omega,by simpa [Nat.add_assoc] using hi8⟩
   ·obtain⟨rfl,hz⟩:=h
    simp
    exact(HQ _ _ (.inr hz)).2
  ·have:j=x.args.length:=by omega
   subst this
   simp[f31,f32]
   exact(HQ _ _ (.inl ⟨B,by rw[←hk];exact hi6⟩)).1
 
 have hXi: ∀B j h2,I B j h2→ ∃s,h2.tr.get X=some (.aA [.int .i64 x.op,.int .i64 x.dst,.bool x.a.1,.int .i64 x.a.2,.bool x.b.1,.int .i64 x.b.2,.int .i64 x.fn,A.v] false 0 s):=by
  intro B j h2 hi2
  obtain⟨_,s,e⟩:=hI _ _ _ hi2
  exact⟨s,by simpa [ez,ay] using e⟩
 cases hsa:(bS x.op).2.1 with
 |true=>
  simp[hX1,oX1]
  refine aD.cut (fun h2=>ab aG h1 h2∧(∃s,h2.tr.get h1.next=some (.aA [.bool (bS x.op).1,.bool true,.bool (bS x.op).2.2] false 0 s))) ⟨(ab.refl g1.ok).var _ _,h1.clock,by simp⟩ ?_
  rintro h2 ⟨g2,s2,hT⟩
  have lT:=g2.ok.bl hT
  have lT':=lT.lt
  refine aD.cm (V:=YQ S h2.next (I h2.next 1) Z h2) (by simpa using H h2.next 0 x.a h2 (by simp[c7,hsa]) (Nat.le_refl _) (by omega) (hi h2 (g1.trans g2))) ?_
  rintro r h3 ⟨g3,⟨rfl,hi3⟩|⟨rfl,hz⟩⟩
  ·have hT3:=g3.get g2.ok hT (by rintro(h|h);exact absurd (hS _ h) (by omega);omega)
   obtain⟨s3,hX3⟩:=hXi _ _ _ hi3
   have l3:=g3.next
   cases rD:(bS x.op).2.2 with
   |true=>
    rw[rD] at hT3
    simp at hX3
    simp[hT3,hX3]
    refine aD.cm (V:=YQ S h2.next (I h2.next 2) Z h3) (by simpa using H h2.next 1 x.b h3 (by simp[c7,hsa,rD]) l3 (by omega) hi3) ?_
    rintro r h4 ⟨g4,⟨rfl,hi4⟩|⟨rfl,hz⟩⟩
    ·obtain⟨s4,hX4⟩:=hXi _ _ _ hi4
     simp at hX4
     simp[hX4]
     refine loop h2.next 2 h4 _ _ (by simp) (by simp) (by simp[hAl]) (by simp) (by have:=g4.next;omega) (by omega) (fun j _=> ?_) ?_ hi4 (fun e' h' hh=>by simpa using hh)
     ·simp[c7,hsa,rD,Nat.add_comm 2 j]
     ·simp[c7,hsa,rD];omega
    ·simp
     exact .inr hz
   |false=>
    rw[rD] at hT3
    simp at hX3
    simp[hT3,hX3]
    refine loop h2.next 1 h3 _ _ (by simp) (by simp) (by simp[hAl]) (by simp) (by omega) (by omega) (fun j _=> ?_) ?_ hi3 (fun e' h' hh=>by simpa using hh)
    ·simp[c7,hsa,rD,Nat.add_comm 1 j]
    ·simp[c7,hsa,rD];omega
  ·simp
   exact .inr hz
 |false=>
  cases rD:(bS x.op).2.2 with
  |true=>
   simp[hX1,oX1]
   refine aD.cut (fun h2=>ab aG h1 h2∧h1.next<h2.next) ⟨(ab.refl g1.ok).var _ _,by simp⟩ ?_
   rintro h2 ⟨g2,l2⟩
   refine aD.cm (V:=YQ S h2.next (I h2.next 1) Z h2) (by simpa using H h2.next 0 x.b h2 (by simp[c7,hsa,rD]) (Nat.le_refl _) (by omega) (hi h2 (g1.trans g2))) ?_
   rintro r h3 ⟨g3,⟨rfl,hi3⟩|⟨rfl,hz⟩⟩
   ·obtain⟨s3,hX3⟩:=hXi _ _ _ hi3
    simp at hX3
    simp[hX3]
    refine loop h2.next 1 h3 _ _ (by simp) (by simp) (by simp[hAl]) (by simp) g3.next (by omega) (fun j _=> ?_) ?_ hi3 (fun e' h' hh=>by simpa using hh)
    ·simp[c7,hsa,rD,Nat.add_comm 1 j]
    ·simp[c7,hsa,rD];omega
   ·simp
    exact .inr hz
  |false=>
   simp[hX1,oX1]
   refine az.cut (fun h2=>ab aG h1 h2∧h1.next<h2.next) ⟨(ab.refl g1.ok).var _ _,by simp⟩ ?_
   rintro h2 ⟨g2,l2⟩
   refine loop h2.next 0 h2 _ _ (by simp) (by simp) (by simp[hAl]) (by simp) (Nat.le_refl _) (by omega) (fun j _=> ?_) ?_ (hi h2 (g1.trans g2)) (fun e' h' hh=>by simpa using hh)
   ·simp[c7,hsa,rD]
   ·simp[c7,hsa,rD]
def vu (h:ae) (v:Value) (h':ae):Prop:=ab aG h h'∧ ∃t:Bool,v= .bool t
def PS (h:ae) (n d:Nat) (rank:Nat→Nat) (a:Int) (m:Nat) (e:Env) (h2:ae):Prop:=
 Env.get e 0= .slice (some ⟨d,0,none⟩) n n∧Env.get e 1= .int .i64 a∧ab aG h h2∧((∃x:Nat,x<n∧m=rank x+1∧Env.get e 2= .int .i64 x)∨(m=0∧Env.get e 2= .int .i64 (-1)))
theorem FC {h:ae} (ok:bh h) {n d s o:Nat} {us:List Int} {ro:Bool} (hn:n<1000000) (hd:h.tr.get d=some (.aA (aY.flat us) ro o s)) (U:Tree.Hk us n) (a:Int) {b:Nat} (hb:b<n):
  aE FF wY [.slice (some ⟨d,0,none⟩) n n,.int .i64 a,.int .i64 b] h (vu h):=by
 obtain⟨hl,rank,_,hr⟩:=U
 refine aE.of Dk ?_
 unfold xb
 simp
 refine az.loop (PS h n d rank a) ?_ (n:=rank b+1) ⟨by simp,by simp,.refl ok,.inl ⟨b,hb,rfl,by simp⟩⟩
 rintro m e h2 ⟨f0,f1,g2,hx⟩
 unfold ue
 rcases hx with⟨x,hxn,rfl,f2⟩|⟨rfl,f2⟩
 ·by_cases hxa:(x:Int)=a
  ·have hxa':((x:Int) !=a)=false:=by simpa using hxa
   simp[f1,f2,hxa']
   exact⟨g2,_,rfl⟩
  ·have hxa':((x:Int) !=a)=true:=by simpa using hxa
   have hd2:=g2.get ok hd (fun h=>h)
   obtain⟨v,hv⟩: ∃v,us[x]? =some v:=⟨_,aQ (by omega)⟩
   have rd:=iN hd2 hv
   simp[f0,f1,f2,hxa',hxn,rd,-ag]
   rcases hr x v hv with rfl|⟨y,rfl,hy,hyr⟩
   ·exact⟨0,by omega,by simp[f0],by simp[f1],g2,.inr ⟨rfl,by simp⟩⟩
   ·exact⟨rank y+1,by omega,by simp[f0],by simp[f1],g2,.inl ⟨y,hy,rfl,by simp⟩⟩
 ·simp[f1,f2]
  exact⟨g2,_,rfl⟩
def Gi (name:ByteArray) (p r:Int) (B U W:SV):List Value:=[.string name,.int .i64 p,.int .i64 r,B.v,U.v,W.v]
theorem Jr {h:ae} {W:Nat} {ws:List (Int×Int)} {o s:Nat} {ro:Bool} (hW:h.tr.get W=some (.aA (pQ.flat ws) ro o s)) {k:Nat} {x:Int×Int} (hk:ws[k]? =some x): ∀i m,i+m≤2→aT h W (k*2+i) m=some (((pQ.enc x).drop i).take m):=by
 intro i m him
 have hl:=(bY.mp hk).1
 have:=pQ.kD ws k i m x hk (by simpa using him)
 rw[cN hW (by rw[pQ.bt];simp;omega)]
 simp only[LL] at this
 rw[this]
theorem J7 (ws:List (Int×Int)) (i:Nat) (x:Int×Int) (h:i<ws.length):aK (pQ.flat ws) (i*2) [.int .i64 x.1,.int .i64 x.2]=pQ.flat (ws.set i x):=by
 have:=pQ.fK ws i x h
 simpa using this
section
variable {name:ByteArray} {p r:Int} {B U:SV}
def WrQ (h:ae) (W n:Nat) (v:Value) (h':ae):Prop:=(∃t:Bool,v= .bool t)∧ab (· =W) h h'∧ ∃ws s,h'.tr.get W=some (.aA (pQ.flat ws) false 0 s)∧ws.length=n
theorem FU {h:ae} (ok:bh h) {C W n wc s1 s2:Nat} {ws:List (Int×Int)} (hC:h.tr.get C=some (.aA (Gi name p r B U ⟨some ⟨W,0,none⟩,n,wc⟩) false 0 s1)) (hW:h.tr.get W=some (.aA (pQ.flat ws) false 0 s2)) (hl:ws.length=n) {k:Nat} (hk:k<n) (i j:Int):
  aE FF iP [.pointer (some ⟨C,0,none⟩),.int .i64 k,.int .i64 i,.int .i64 j] h (WrQ h W n):=by
 refine aE.of tx ?_
 unfold mE
 simp[Gi] at hC
 obtain⟨w,hw⟩: ∃w,ws[k]? =some w:=⟨_,aQ (by omega)⟩
 have r0:=Jr hW hw 0 1 (by decide)
 simp[-ag] at r0
 by_cases h0:0≤w.1
 ·simp[hC,hk,r0,h0,-ag,aw hC]
  exact⟨⟨_,rfl⟩,.refl ok,ws,s2,hW,hl⟩
 ·have sp:=J7 ws k (i,j) (by omega)
  have hkl:k*2+2≤ws.length*2:=by omega
  simp[hC,hk,r0,h0,-ag,aw hC,hW,hkl]
  exact⟨⟨_,rfl⟩,aJ ok hW,ws.set k (i,j),h.clock,by rw[ax,sp],by simp[hl]⟩
theorem Ej {h:ae} (ok:bh h) {C W n wc s1 s2 s3 d nb oU:Nat} {roU:Bool} {ws:List (Int×Int)} {us:List Int} (hC:h.tr.get C=some (.aA (Gi name p r B ⟨some ⟨d,0,none⟩,nb,nb⟩ ⟨some ⟨W,0,none⟩,n,wc⟩) false 0 s1)) (hW:h.tr.get W=some (.aA (pQ.flat ws) false 0 s2)) (hl:ws.length=n)
  (hd:h.tr.get d=some (.aA (aY.flat us) roU oU s3)) (hU:Tree.Hk us nb) (hnb:nb<1000000) {v:Bool×Int} (hv:v.1=true→0≤v.2∧v.2<n) {i:Nat} (hi:i<nb) (j:Int):
  aE FF iT [.pointer (some ⟨C,0,none⟩),.agg ⟨[.bool v.1,.int .i64 v.2]⟩,.int .i64 i,.int .i64 j] h (vu h):=by
 refine aE.of tB ?_
 unfold mu
 obtain⟨rg,k⟩:=v
 cases rg with
 |false=>
  simp
  exact⟨(ab.refl ok).new _ _,_,rfl⟩
 |true=>
  obtain⟨h0,hn⟩:=hv rfl
  dsimp only at h0 hn
  obtain⟨k,rfl⟩: ∃k':Nat,k=k':=⟨k.toNat,by omega⟩
  have hk:k<n:=by omega
  obtain⟨w,hw⟩: ∃w,ws[k]? =some w:=⟨_,aQ (by omega)⟩
  have oC:=ok.bl hC
  have oW:=ok.bl hW
  have r0:=Jr hW hw 0 2 (by decide)
  have hC':=hC
  simp[Gi] at hC'
  simp[-ag] at r0
  simp[hC',oC,oW,r0,hk,aL,dt,aw hC',aB,aq,-ag]
  refine az.cut (fun h2=>ab aG h h2∧ ∃s,h2.tr.get (h.next+1)=some (.aA [.int .i64 w.1,.int .i64 w.2] false 0 s)) ?_ ?_
  ·refine⟨?_,?_⟩
   ·exact((ab.refl ok).new _ _).tick.var _ _
   ·exact⟨_,ax _ _ _ _ _ _⟩
  rintro h2 ⟨g2,s4,hR⟩
  have hC2:=g2.get ok hC' (fun h=>h)
  have hd2:=g2.get ok hd (fun h=>h)
  by_cases k1:w.1<0
  ·simp[hR,k1]
   exact⟨g2,_,rfl⟩
  ·by_cases k2:w.1=(i:Int)
   ·simp[hR,k1,k2]
    exact⟨g2,_,rfl⟩
   ·have k2':(w.1==(i:Int))=false:=by simpa using k2
    have k1':0≤w.1:=by omega
    simp[hR,k1,k1',k2',hC2]
    refine aP.call (V:=vu (tick h2)) (by simpa using FC (h:=tick h2) g2.tick.ok hnb hd2 hU w.1 hi) ?_
    rintro _ h3 ⟨g3,t,rfl⟩
    simp
    exact⟨g2.tick.trans g3,_,rfl⟩
end
end Go.Proofs.YtdkdbjecehcekaaGreatDoor
