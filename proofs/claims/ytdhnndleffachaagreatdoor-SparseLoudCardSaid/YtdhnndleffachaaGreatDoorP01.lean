/- Parts of the proof. -/
import Derived.Test.YtdhnndleffachaaGreatDoorP00
import Derived.Laws.Sem
set_option linter.all false
namespace Go.AI
variable {CC:cj} {L:Loop} {T:qd} {a:Act} {args cw ez m:List Value} {ca:Addr} {cap ccap l len n o r:Nat} {cv v y z:Value} {e:Env} {eU:List MapEntry} {ei i i' ki:TI} {el kt t:TypeId} {es:List (Value×Value)} {f x:Operand} {h h':ae} {kk:IntKind} {ks:List Nat} {op:Op} {tmps:Array Value} {w:World} {ρ:dY}
theorem uW {m n:Nat} :Nat.blt m n=true↔m<n:=by simp[Nat.blt_eq]
section
variable {P:Program} {CC:cj} {ρ:dY} {h h':ae} {w:World} {T:qd} {ng:Nat} {e:Env} {a:Act} {c v:Value}
theorem xj {top n:Nat} {d:Nat} (hE:ER ρ e a.tmps) (hG:bS ng ρ) (hx:aZ ng x=true) (hb:bound e (some x) d top=some n) (code:BoundsCode) {y:Nat} (hy:top<=y):
  n<=top/\(Instr.sliceBound (a.eval x) y code).run P w= .ok n w:=by
 have dD:=hE.eval hG hx;simp only[bound] at hb;split at hb
 .rename_i k i h1;split at hb
  .rename_i h2;cases hb;have hle:=Mw h2;refine⟨hle,?_⟩;rw[h1] at dD;rw[dD.bN];have hc:(0:Int)<=Int.ofNat n/\Int.ofNat n<=(y:Int):=⟨Int.natCast_nonneg n,Int.ofNat_le.2 (by omega)⟩;simp only[Instr.sliceBound,asIntOf,Sem.run_bind,Sem.run_pure,Result.andThen_ok];rw[aU hc];rfl
  .cases hb
 .cases hb
theorem DF {lo hi mx:Option Operand} (hE:ER ρ e a.tmps) (hG:bS ng ρ) (G7:(lo.toList).all (aZ ng)=true) (hhi:(hi.toList).all (aZ ng)=true) (hmx:(mx.toList).all (aZ ng)=true)
  (hm3:(mx.isSome&&hi.isNone)=false) {len cap ccap m hh l:Nat} (U6:cap<=ccap) (h1:bound e mx cap cap=some m) (h2:bound e hi len m=some hh) (h3:bound e lo 0 hh=some l):
  ∃m',(Instr.sliceBounds true len ccap (lo.map a.eval) (hi.map a.eval) (mx.map a.eval)).run P w= .ok (l,hh,m') w/\l<=hh/\(hi.isSome->hh<=m)/\
   ((mx.isSome/\m'=m/\m<=cap)\/(mx=none/\m=cap/\m'=ccap)):=by
 have key: ∀(m':Nat),m<=m'->(mx.isSome->m'=m)->(match mx.map a.eval with
   |some v=>Instr.sliceBound v ccap (if true then .slice3Acap else .slice3Alen)
   |none=>(pure ccap:Sem Nat)).run P w= .ok m' w->
   (Instr.sliceBounds true len ccap (lo.map a.eval) (hi.map a.eval) (mx.map a.eval)).run P w= .ok (l,hh,m') w/\l<=hh/\(hi.isSome->hh<=m):=by
  intro m' Y4 hmx' o7;have hh2:(match hi.map a.eval,mx.map a.eval with
    |some v,some _=>Instr.sliceBound v m' .slice3B
    |some v,none=>Instr.sliceBound v m' (if true then .sliceAcap else .sliceAlen)
    |none,none=>(pure len:Sem Nat)
    |none,some _=>stuck "Slice: max without high").run P w= .ok hh w/\(hi.isSome->hh<=m):=by
   cases hi with
   |none=>
    cases mx with
    |some _=>simp at hm3
    |none=>
     simp only[bound,kl] at h2;subst h2;exact⟨rfl,by simp⟩
   |some x=>
    have hx:aZ ng x=true:=by simpa using hhi
    cases mx with
    |none=>
     have:=xj (P:=P) (w:=w) hE hG hx h2 .sliceAcap Y4;exact⟨this.2,fun _=>this.1⟩
    |some y=>
     have:=xj (P:=P) (w:=w) hE hG hx h2 .slice3B Y4;exact⟨this.2,fun _=>this.1⟩
  have NP:(match lo.map a.eval with
    |some v=>Instr.sliceBound v hh (if(mx.map a.eval).isSome then .slice3C else .sliceB)
    |none=>(pure 0:Sem Nat)).run P w= .ok l w/\l<=hh:=by
   cases lo with
   |none=>
    simp only[bound,kl] at h3;subst h3;exact⟨rfl,Nat.zero_le _⟩
   |some x=>
    have hx:aZ ng x=true:=by simpa using G7
    have:=xj (P:=P) (w:=w) hE hG hx h3 (if(mx.map a.eval).isSome then .slice3C else .sliceB) (dK hh);exact⟨this.2,this.1⟩
  refine⟨?_,NP.2,hh2.2⟩;have h5:=hh2.1;have h6:=NP.1;clear hh2 NP h1 h2 h3;rcases mx with _|mx<;>rcases hi with _|hi<;>rcases lo with _|lo<;>
   simp only[Option.map_none,CJ,Option.isSome_none,Option.isSome_some,Sem.run_pure,Result.ok.injEq,and_true,run_stuck,reduceCtorEq,if_true,if_false,PG] at o7 h5 h6<;>
   first
    |(subst o7;subst h5;subst h6;rfl)
    |(subst o7;subst h5;simp only[Instr.sliceBounds,Option.map_none,CJ,Option.isSome_none,Option.isSome_some,if_true,if_false,PG,Sem.run_bind,Sem.run_pure,h6,Result.andThen_ok];done)
    |(subst o7;subst h6;simp only[Instr.sliceBounds,Option.map_none,CJ,Option.isSome_none,Option.isSome_some,if_true,if_false,PG,Sem.run_bind,Sem.run_pure,h5,Result.andThen_ok];done)
    |(subst o7;simp only[Instr.sliceBounds,Option.map_none,CJ,Option.isSome_none,Option.isSome_some,if_true,if_false,PG,Sem.run_bind,Sem.run_pure,h5,h6,Result.andThen_ok];done)
    |(subst h6;simp only[Instr.sliceBounds,Option.map_none,CJ,Option.isSome_none,Option.isSome_some,if_true,if_false,PG,Sem.run_bind,Sem.run_pure,o7,h5,Result.andThen_ok];done)
    |(simp only[Instr.sliceBounds,Option.map_none,CJ,Option.isSome_none,Option.isSome_some,if_true,if_false,PG,Sem.run_bind,Sem.run_pure,o7,h5,h6,Result.andThen_ok];done)
 cases mx with
 |none=>
  simp only[bound,kl] at h1;subst h1;obtain⟨k1,k2,k3⟩:=key ccap U6 (by simp) rfl;exact⟨ccap,k1,k2,k3,.inr ⟨rfl,rfl,rfl⟩⟩
 |some x=>
  have hx:aZ ng x=true:=by simpa using hmx
  have hb:=xj (P:=P) (w:=w) hE hG hx h1 .slice3Acap U6;obtain⟨k1,k2,k3⟩:=key m (dK m) (fun _=>rfl) hb.2;exact⟨m,k1,k2,k3,.inl ⟨rfl,rfl,hb.1⟩⟩
theorem Wo (hT:cm P T) {x:Operand} {lo hi mx:Option Operand} (iD:T t=some i) (hu:i.u= .slice el) (hH:T el=some ei) (hm3:(mx.isSome&&hi.isNone)=false)
  (S:cQ CC ρ h w) (hE:ER ρ e a.tmps) (hG:bS ng ρ) (hx:aZ ng x=true) (G7:(lo.toList).all (aZ ng)=true) (hhi:(hi.toList).all (aZ ng)=true) (hmx:(mx.toList).all (aZ ng)=true)
  (hv:bm e h (.slice ei.size x lo hi mx)=some (v,h')):Out CC ρ h w v h' (((do pure (Next.value (<-Instr.sliceAt t (a.eval x) (lo.map a.eval) (hi.map a.eval) (mx.map a.eval)))):Sem Next).run P w):=by
 have C2:=(hT t i iD).u;rw[hu] at C2;have p_:=(fF (w:=w) (hT _ _ hH)).1;have dD:=hE.eval hG hx;simp only[bm] at hv;split at hv
 .rename_i sa len cap h0;split at hv
  .cases hv
  .rename_i m h1;split at hv
   .cases hv
   .rename_i hh h2;split at hv
    .cases hv
    .rename_i l h3;rw[h0] at dD;split at hv
     .cases hv;rw[dD.iq];obtain⟨m',hb,hlh,_,fp⟩:=DF (P:=P) (w:=w) hE hG G7 hhi hmx hm3 (dK cap) h1 h2 h3;have Y4:m'=m:=by rcases fp with⟨_,h,_⟩|⟨_,h,h'⟩<;>omega
      subst Y4;refine Out.same S (cS ?_) (CR.oE _ _).vr;simp only[Instr.sliceAt,Instr.slice,Sem.run_bind,run_underlying C2,Result.andThen_ok,hb,p_,Sem.run_pure,Option.map_none];congr 2;split<;>rfl
     .rename_i b off;split at hv
      .rename_i cs ro o s ho;cases hcz:Nat.beq o 0||Nat.beq o ei.size with
       |false=>simp[hcz] at hv
       |true=>
        simp only[hcz,cond_true,kl,wI] at hv;obtain⟨rfl,rfl⟩:=hv;obtain⟨r,ca,ccap,hr,hc,⟨KQ,U6,hle⟩⟩:=dD.fw;obtain⟨ez,GM,fr,_,cn,Rh,_,_,_⟩:=S.obj b r _ hr ho;have D7:cap<=ccap:=by rcases U6 with h|⟨_,h,_,_⟩<;>omega
        obtain⟨m',hb,hlh,hhm,fp⟩:=DF (P:=P) (w:=w) hE hG G7 hhi hmx hm3 D7 h1 h2 h3;have hhm':hh<=m:=by
         cases hi with
         |some y=>exact hhm rfl
         |none=>
          simp only[bound,kl] at h2;rcases fp with⟨hs,_⟩|⟨_,h,_⟩
          .rw[hs] at hm3;simp at hm3
          .omega
        rw[hc];refine Out.same S (c:= .slice (some (if m'=l then ca else ca.add (l*ei.size))) (hh-l) (m'-l)) (cS ?_) (CR.slice hr ⟨?_,?_,?_⟩).vr
        .simp only[Instr.sliceAt,Instr.slice,Sem.run_bind,run_underlying C2,Result.andThen_ok,hb,p_,Sem.run_pure];congr 2;split<;>simp
        .by_cases Vi:m'=l
         .right;rcases fp with⟨_,h,_⟩|⟨_,h,h'⟩<;>omega
         .left;rw[aT Vi];have U5:ca=⟨r.aA,r.base+off,none⟩:=by
           rcases KQ with h|⟨h1,h2⟩
           .exact h
           .rcases fp with⟨_,h,_⟩|⟨_,h,h'⟩<;>omega
          rw[U5,nZ,BU]
        .rcases fp with⟨_,h,_⟩|⟨_,h,h'⟩
         .left;omega
         .rcases U6 with h5|⟨h5,h6,h7,h8⟩
          .left;omega
          .right;have aho:r.EM=ei.size:=by
            rw[Rh];simp only[Bool.or_eq_true] at hcz;rcases hcz with h|h
            .exact absurd (Rh.trans (nO h)) h5
            .exact nO h
           refine⟨h5,by omega,?_,?_⟩
           .rw[<-aho,h,Nat.sub_mul,<-h7];have:l*r.EM<=cap*r.EM:=CI _ (by omega);omega
           .rw[<-aho,h',Nat.sub_mul];have:l*r.EM<=ccap*r.EM:=CI _ (by omega);omega
        .omega
      .cases hv
     .cases hv
 .cases hv
def Gp (P:Program) (w:World) (t':TypeId) (size:Nat) (el:TypeId) (x:Value) (n:Nat) (ez:List Value):Prop:=
 (∃GM sa cc,P.underlying t'=some (.slice GM)/\x= .slice sa n cc/\ ∀k,(Builtin.firstCells size n x).run P { w with drawn:=k } = .ok ⟨ez⟩ { w with drawn:=k })\/
 (∃k kk,P.underlying t'=some (.int kk)/\x= .int k (n:Int)/\n<=1099511627776/\ ∃z,(∀w',(zeroValue el).run P w'= .ok z w')/\z.cells.toList.length=size/\ez=jW z.cells.toList n)
theorem Wd (hT:cm P T) {el t':TypeId} (hH:T el=some ei) (iD:T t'=some i') {pX:Bool} (hz:if pX then ∃k,i'.u= .int k else ∃GM,i'.u= .slice GM) (S:cQ CC ρ h w) {x y:Value} (hr:VR ρ x y)
  {n:Nat} {cs:List Value} (hn:news h ei.zero pX x=some (n,cs)): ∃ez,All2 (KR ρ) cs ez/\cs.length=n*ei.size/\Gp P w t' ei.size el y n ez:=by
 have xY:=hT _ _ hH;have j_:=(hT _ _ iD).u;unfold news at hn;split at hn
 .
  rename_i k m;split at hn
  .rename_i lC;cases hn;obtain⟨kk,xn⟩:=by simpa using hz
   rw[xn] at j_;rw[hr.bN];refine⟨_,dJ (iC xY.zero n),by rw[oM,xY.len],.inr ⟨k,kk,j_,rfl,Mw lC,?_⟩⟩;obtain⟨ti,k1,k2,k3,z,k4,k5⟩:=xY.info;exact⟨z,fun w'=>by simp[zeroValue,typeInfo,k1,k4],by rw[k5];exact xY.len,by rw[k5]⟩
  .cases hn
 .
  rename_i m _;split at hn
  .rename_i h0;cases hn;have h0:=nO h0;subst h0;obtain⟨GM,acq⟩:=by simpa using hz
   rw[acq] at j_;rw[hr.iq];exact⟨[],.nil,by simp,.inl ⟨GM,none,_,j_,rfl,fun k=>by simp[Builtin.firstCells]⟩⟩
  .cases hn
 .
  rename_i b off m _;obtain⟨GM,acq⟩:=by simpa using hz
  rw[acq] at j_;obtain⟨r,ca,ccap,hb,hc,⟨KQ,U6,hle⟩⟩:=hr.fw;rw[hc];split at hn
  .rename_i h0;cases hn;have h0:=nO h0;subst h0;exact⟨[],.nil,by simp,.inl ⟨GM,_,_,j_,rfl,fun k=>by simp[Builtin.firstCells,loadCells,loadCellsFrom]⟩⟩
  .rename_i h0;split at hn
   .rename_i Il dy;cases hn;have cJ:n≠0:=by intro e;rw[e] at h0;exact h0 rfl
    have U5:ca=⟨r.aA,r.base+off,none⟩:=by
     rcases KQ with h|⟨_,h⟩
     .exact h
     .omega
    subst U5;obtain⟨hl,ez,hk,Bl⟩:=AB S hb dy;refine⟨ez,hk,by rw[hl,xY.len],.inl ⟨GM,_,_,j_,rfl,fun k=> ?_⟩⟩;have:=run_firstCells_some (P:=P) { w with drawn:=k } ei.size n ⟨r.aA,r.base+off,none⟩ n ccap ez (by rw[<-hk.length,hl,xY.len]) Bl;exact this
   .cases hn
 .cases hn
theorem CX {z:Array Value} {m:Nat} {c:Value} (hz:z.toList.all bK=true) (hc:c∈(Builtin.zeroCells z m).toList):bK c=true:=by
 simp only[Builtin.zeroCells,Array.toList_map,j9] at hc;obtain⟨i,hi,rfl⟩:=hc;have C2:i<m*z.size:=by simpa using hi
 have NZ:0<z.size:=by
  rcases tP z.size with h|h
  .rw[h] at C2;simp at C2
  .exact h
 have ef:i%z.size<z.size:=Nat.mod_lt _ NZ;rw[getElem!_pos z _ ef];exact List.all_eq_true.1 hz _ (by simp)
theorem qf {t t' ty el:TypeId} (xY:tu P el ei) (j_:P.underlying t=some (.slice el)) {sa:Option Addr} {len ccap n:Nat} {x:Value} (ha:Gp P w t' ei.size el x n ez)
  (hl:ez.length=n*ei.size) (p_:0<ei.size) (hb:n*ei.bytes<=1099511627776):
  (len+n<=ccap->(Builtin.append_ #[t,t'] ty #[.slice sa len ccap,x]).run P w=
   (((match sa with|some ad=>storeCells (ad.add (len*ei.size)) ez|none=>pure ()):Sem Unit).run P w).andThen fun _ w'=> .ok (.slice sa (len+n) ccap) w')/\
  (ccap<len+n->(len+n)*ei.bytes<=1099511627776->len+n<=1099511627776-> ∀y9:List Value,y9.length=len*ei.size->
   (∀k,(Builtin.firstCells ei.size len (.slice sa len ccap)).run P { w with drawn:=k } = .ok ⟨y9⟩ { w with drawn:=k })->
   ∃(EC:Nat) (bh:List Value),len+n<=EC/\bh.length=(EC-(len+n))*ei.size/\(∀c∈bh,bK c=true)/\
   (Builtin.append_ #[t,t'] ty #[.slice sa len ccap,x]).run P w= .ok (.slice (some ⟨w.heap.size,0,none⟩) (len+n) EC) (({ w with drawn:=w.drawn+1 } :World).alloc (.cells ⟨(y9++ez)++bh⟩ el))):=by
 obtain⟨ti,k1,k2,k3,z,k4,k5⟩:=xY.info;have FA:z.cells.size=ei.size:=by have:=xY.len;rw[<-k5] at this;simpa using this
 have VF: ∀(m:Nat),∀c∈(Builtin.zeroCells z.cells m).toList,bK c=true:=by intro m c hc;have hz:=xY.zero;rw[<-k5] at hz;exact CX hz hc
 rcases ha with⟨GM,xa,xc,CO,rfl,hf⟩|⟨k,kk,CO,rfl,hn40,z',Tw,Lg,U6⟩
 .have hfw:(Builtin.firstCells ei.size n (.slice xa n xc)).run P w= .ok ⟨ez⟩ w:=by have:=hf w.drawn;exact this
  constructor
  .intro lC;cases sa with
   |none=>simp[Builtin.append_,run_underlying j_,run_underlying CO,sizeOf,typeInfo,k1,k2,Builtin.lenOf,lC,hfw]
   |some ad=>simp[Builtin.append_,run_underlying j_,run_underlying CO,sizeOf,typeInfo,k1,k2,Builtin.lenOf,lC,hfw]
  .intro hg CM h63 y9 IW hold;have hng: ¬(len+n<=ccap):=by omega
   have UO: ¬(9223372036854775807<((len:Int)+(n:Int))):=by omega
   have UN: ¬(281474976710656<Builtin.nextslicecap (len+n) ccap*ti.bytes):=by rw[k3];have:=growslice_fits (bytes:=ei.bytes) hg (by omega);omega
   have NO:(Builtin.firstCells ei.size n (.slice xa n xc)).run P w.drew= .ok ⟨ez⟩ w.drew:=hf (w.drawn+1);have Bm:(Builtin.firstCells ei.size len (.slice sa len ccap)).run P w.drew= .ok ⟨y9⟩ w.drew:=hold (w.drawn+1);refine⟨grownCap w (len+n) ccap el,(Builtin.zeroCells z.cells (grownCap w (len+n) ccap el-(len+n))).toList,grownCap_ge w _ _ _,?_,VF _,?_⟩
   .have:=size_zeroCells z.cells (grownCap w (len+n) ccap el-(len+n));rw[FA] at this;simpa using this
   .simp[Builtin.append_,run_underlying j_,run_underlying CO,sizeOf,typeInfo,zeroValue,k1,k2,k4,Builtin.lenOf,hng,UO,UN,Question.forced,NO,Bm,newRow,grownCap];congr 2;apply Array.ext';simp[xU]
 .have hw:IntKind.i64.wrap (n:Int)=n:=by rw[IntKind.wrap_i64];omega
  have Vj: ¬((n:Int)<0):=by omega
  have h48: ¬(281474976710656<(n:Int)*(ei.bytes:Int)):=by have:((n*ei.bytes:Nat):Int)<=1099511627776:=Int.ofNat_le.2 hb;rw[Int.natCast_mul] at this;omega
  have Fz:=Tw w;have JU:z'=z:=by
   have h1:(zeroValue el).run P w= .ok z w:=by simp[zeroValue,typeInfo,k1,k4]
   rw[Fz] at h1;injection h1
  subst JU;have hcz:n*ei.size=0->ez=[]:=fun h=>KF (by rw[hl,h]);have I0:(Builtin.zeroCells z'.cells n)=⟨ez⟩:=by apply Array.ext';rw[U6,xD (.inl (by rw[Lg];exact p_)),Lg];have:z'.cells=⟨z'.cells.toList⟩:=rfl;simp[Builtin.zeroCells,FA]
  have um:n*ei.size=0↔n=0:=by
   constructor
   .intro h;rcases Nat.mul_eq_zero.1 h with h|h
    .exact h
    .omega
   .rintro rfl;simp
  have Tu:IntKind.i64.wrap 0=0:=by rw[IntKind.wrap_i64];omega
  by_cases hn:n=0
  .subst hn;have C1:ez=[]:=hcz (by simp);subst C1;constructor
   .intro lC;have Vv:len<=ccap:=by omega
    cases sa with
    |none=>simp[Builtin.append_,run_underlying j_,run_underlying CO,sizeOf,typeInfo,k1,k2,asInt,asIntOf,Tu,Vv,storeCells]
    |some ad=>simp[Builtin.append_,run_underlying j_,run_underlying CO,sizeOf,typeInfo,k1,k2,asInt,asIntOf,Tu,Vv,storeCells]
   .intro hg CM h63 y9 IW hold;have hng: ¬(len+0<=ccap):=by omega
    have anI: ¬(len<=ccap):=by omega
    have UO: ¬(9223372036854775807<(len:Int)):=by omega
    have UN: ¬(281474976710656<Builtin.nextslicecap len ccap*ti.bytes):=by rw[k3];have:=growslice_fits (bytes:=ei.bytes) hg (by omega);simp only[ID] at this;omega
    have Bm:(Builtin.firstCells ei.size len (.slice sa len ccap)).run P w.drew= .ok ⟨y9⟩ w.drew:=hold (w.drawn+1);refine⟨grownCap w (len+0) ccap el,(Builtin.zeroCells z'.cells (grownCap w (len+0) ccap el-(len+0))).toList,grownCap_ge w _ _ _,?_,VF _,?_⟩
    .have:=size_zeroCells z'.cells (grownCap w (len+0) ccap el-(len+0));rw[FA] at this;simpa using this
    .simp[Builtin.append_,run_underlying j_,run_underlying CO,sizeOf,typeInfo,zeroValue,k1,k2,k4,asInt,asIntOf,Tu,anI,UO,UN,Question.forced,Bm,newRow,grownCap];congr 2;apply Array.ext';simp
  .have hns: ¬(n*ei.size=0):=fun h=>hn (um.1 h);have VE: ¬(ei.size=0):=by omega
   constructor
   .intro lC;cases sa with
    |none=>simp[Builtin.append_,run_underlying j_,run_underlying CO,sizeOf,typeInfo,zeroValue,k1,k2,k3,k4,asInt,asIntOf,hw,Vj,h48,lC,hn,VE,I0]
    |some ad=>
     simp[Builtin.append_,run_underlying j_,run_underlying CO,sizeOf,typeInfo,zeroValue,k1,k2,k3,k4,asInt,asIntOf,hw,Vj,h48,lC,hn,VE,I0];intro h0;exact absurd h0 hns
   .intro hg CM h63 y9 IW hold;have hng: ¬(len+n<=ccap):=by omega
    have UO: ¬(9223372036854775807<((len:Int)+(n:Int))):=by omega
    have UN: ¬(281474976710656<Builtin.nextslicecap (len+n) ccap*ei.bytes):=by have:=growslice_fits (bytes:=ei.bytes) hg (by omega);omega
    have Bm:(Builtin.firstCells ei.size len (.slice sa len ccap)).run P w.drew= .ok ⟨y9⟩ w.drew:=hold (w.drawn+1);refine⟨grownCap w (len+n) ccap el,(Builtin.zeroCells z'.cells (grownCap w (len+n) ccap el-(len+n))).toList,grownCap_ge w _ _ _,?_,VF _,?_⟩
    .have:=size_zeroCells z'.cells (grownCap w (len+n) ccap el-(len+n));rw[FA] at this;simpa using this
    .simp[Builtin.append_,run_underlying j_,run_underlying CO,sizeOf,typeInfo,zeroValue,k1,k2,k3,k4,asInt,asIntOf,hw,Vj,h48,hng,UO,UN,hn,VE,Question.forced,Bm,newRow,grownCap,I0];rw[aT hns];congr 3;apply Array.ext';simp[xU]
end
section
variable {P:Program} {CC:cj} {ρ:dY} {h h':ae} {w:World} {T:qd} {ng:Nat} {e:Env} {a:Act} {c v:Value}
theorem VR.OP {x:Addr} {n cp:Nat} (h:VR ρ (.slice (some x) n cp) c): ∃b o r ca ccap,x=⟨b,o,none⟩/\ρ b=some r/\c= .slice (some ca) n ccap/\r7 r o n cp ca ccap:=by
 cases h with
 |val h=>cases h with
  |cell h=>cases h with
   |cell h=>cases h with
    |slice h hs=>exact⟨_,_,_,_,_,rfl,h,rfl,hs⟩
theorem r7.yW {r:yJ} (h:r7 r o len cap ca ccap):cap<=ccap:=by rcases h.2.1 with h|⟨_,h,_⟩<;>omega
theorem r7.addr {r:yJ} (h:r7 r o len cap ca ccap) (hc:0<ccap):ca=⟨r.aA,r.base+o,none⟩:=by
 rcases h.1 with h|⟨h,_⟩
 .exact h
 .omega
theorem cQ.drew (S:cQ CC ρ h w):cQ CC ρ h ({ w with drawn:=w.drawn+1 } :World):=S.drawn _
theorem GW (S:cQ CC ρ h w) {cs ez bh:List Value} {el n EC size:Nat} (hk:All2 (KR ρ) cs ez) (hl:cs.length=n*size) (p_:0<size) (hn:n<=EC) (hr:bh.length=(EC-n)*size) (hc: ∀c∈bh,bK c=true):
  ∃ρ',VR ρ' (.slice (some ⟨h.next,0,none⟩) n n) (.slice (some ⟨w.heap.size,0,none⟩) n EC)/\
   cQ CC ρ' (aL h cs size) (({ w with drawn:=w.drawn+1 } :World).alloc (.cells ⟨ez++bh⟩ el))/\
   Ext ρ h w ρ' (aL h cs size) (({ w with drawn:=w.drawn+1 } :World).alloc (.cells ⟨ez++bh⟩ el)):=by
 obtain⟨im,g1,g2,g3,g4,g5,g7,g8⟩:=Ar (bh:=bh) S.drew hk el size (fun _=>hc);have lC:(ez++bh).length=EC*size:=by rw[IG,<-hk.length,hl,hr,Nat.sub_mul];have:n*size<=EC*size:=CI _ hn;omega
 refine⟨_,(CR.slice (nM _ _ _) ⟨.inl ?_,.inr ⟨by omega,hn,?_,?_⟩,dK _⟩).vr,g7,(Ext.drawn _).trans g8⟩
 .rw[g1,g2]
 .rw[g3,g4,hl];omega
 .rw[g4,g5,lC];omega
theorem Hu (hT:cm P T) {t t' ty el:TypeId} {x y:Operand} {pX:Bool} (iD:T t=some i) (hu:i.u= .slice el) (hH:T el=some ei) (N5:T t'=some i')
  (hz:if pX then ∃k,i'.u= .int k else ∃GM,i'.u= .slice GM) (S:cQ CC ρ h w) (hE:ER ρ e a.tmps) (hG:bS ng ρ) (hx:aZ ng x=true) (hy:aZ ng y=true)
  (hv:bm e h (.append ei.zero ei.bytes pX x y)=some (v,h')):
  Out CC ρ h w v h' (((do pure (Next.value (<-Builtin.append_ #[t,t'] ty #[a.eval x,a.eval y]))):Sem Next).run P w):=by
 have j_:=(hT t i iD).u;rw[hu] at j_;have xY:=hT _ _ hH;have FA:=xY.len;have dD:=hE.eval hG hx;have ky:=hE.eval hG hy;simp only[bm] at hv;split at hv
 .rename_i n cs hn;obtain⟨ez,hk,vI,Q3⟩:=Wd hT hH N5 hz S ky hn;have KT:ez.length=n*ei.size:=by rw[<-hk.length,vI]
  unfold ie at hv;split at hv
  .rename_i sa len cap hs;rw[hs] at dD;split at hv
   .rename_i ahV;have p_:0<ei.size:=by rw[<-FA];exact uW.1 ahV
    split at hv
    .
     rename_i h0;have h0:=nO h0;subst h0;split at hv
     .rename_i Vh;have Vh:=Mw Vh;cases hv;have C1:ez=[]:=KF (by rw[KT];simp);subst C1;cases sa with
      |none=>
       have Zj:=dD.iq;rw[Zj] at dD ⊢;have:=(qf (t:=t) (ty:=ty) xY j_ (sa:=none) (len:=len) (ccap:=cap) Q3 KT p_ (by simp)).1 (by omega);exact Out.same S (cS (this.trans rfl)) dD
      |some ad=>
       obtain⟨b,o,r,ca,ccap,rfl,hr,hc,cN⟩:=dD.OP;have hle:=cN.yW;rw[hc] at dD ⊢;have:=(qf (t:=t) (ty:=ty) xY j_ (sa:=some ca) (len:=len) (ccap:=ccap) Q3 KT p_ (by simp)).1 (by omega);exact Out.same S (cS (this.trans rfl)) dD
     .cases hv
    .rename_i um;have arf:0<n:=by
      rcases tP n with h|h
      .subst h;exact absurd rfl um
      .exact h
     split at hv
     .rename_i lC;simp only[uf] at lC;have o7:=Mw lC.1;have Ef:=Mw lC.2;have NV:n*ei.bytes<=1099511627776:=ug (CI _ (by omega)) Ef;split at hv
      .
       split at hv
       .rename_i h0;simp only[uf] at h0;have hl0:=nO h0.1;have C1:=nO h0.2;subst hl0;subst C1;cases hv;rw[dD.iq];obtain⟨EC,bh,g1,g2,g4,g3⟩:=(qf (t:=t) (ty:=ty) xY j_ (sa:=none) (len:=0) (ccap:=0) Q3 KT p_ NV).2 (by omega) Ef o7 [] (by simp) (fun k=>by simp[Builtin.firstCells]);rw[Bg] at g1 g2 g3;obtain⟨ρ',X5,hs',pL⟩:=GW (el:=el) S hk vI p_ g1 g2 g4;rw[FA];exact⟨ρ',_,_,.inl (cS g3),X5,hs',pL⟩
       .cases hv
      .rename_i b off;split at hv
       .rename_i bA o st ho;obtain⟨r,ca,ccap,hr,hc,cN⟩:=dD.fw;have D7:=cN.yW;have cn:=cN.2.2;obtain⟨wz,GM,fr,q1,q2,q3,q4,q5,q6⟩:=S.obj b r _ hr ho;have hfr:=q5 rfl;subst hfr;rw[hc];split at hv
        .
         rename_i eH;have eH:=Mw eH;split at hv
         .rename_i BW hw;cases hv;obtain⟨w',dm,S',E'⟩:=xH (P:=P) S hr hw hk;have:=(qf (t:=t) (ty:=ty) xY j_ (sa:=some ca) (len:=len) (ccap:=ccap) Q3 KT p_ NV).1 (by omega);refine⟨ρ,w',.slice (some ca) (len+n) ccap,.inl (cS ?_),(CR.slice hr ⟨cN.1,cN.2.1,eH⟩).vr,S',E'⟩;rw[this];dsimp only;rw[cN.addr (by omega),nZ,BU,<-FA,dm];rfl
         .cases hv
        .rename_i Vl;have Vl:cap<len+n:=by
          rcases AV cap (len+n) with h|h
          .exact h
          .exact absurd (Nat.ble_eq_true_of_le h) Vl
         dsimp only at hv;by_cases ac0:Nat.beq ((bA.drop off).take (len*ei.zero.length)).length (len*ei.zero.length)=true
         .rw[aU ac0] at hv;have uJ:=nO ac0
          
          have dy:bc h b off (len*ei.size)=some ((bA.drop off).take (len*ei.size)):=by unfold bc;rw[ho];rw[FA] at uJ;simp only[uJ,Nat.beq_refl,if_true]
          obtain⟨IW,y9,zn,hoc⟩:=AB S hr dy;have acN:y9.length=len*ei.size:=by rw[<-zn.length,IW]
          have acv: ∀k,(Builtin.firstCells ei.size len (.slice (some ca) len ccap)).run P { w with drawn:=k } = .ok ⟨y9⟩ { w with drawn:=k } :=by
           intro k;by_cases C1:0<ccap
           .rw[cN.addr C1];exact run_firstCells_some (P:=P) { w with drawn:=k } ei.size len ⟨r.aA,r.base+off,none⟩ len ccap y9 acN hoc
           .have hl0:len=0:=by omega
            subst hl0;have:y9=[]:=KF (by rw[acN];simp);subst this;simp[Builtin.firstCells,loadCells,loadCellsFrom]
          have xn:=zn.app hk;have qK:((bA.drop off).take (len*ei.size)++cs).length=(len+n)*ei.size:=by rw[IG,IW,vI,rU]
          
          have grow: ∀(h1:ae),(cQ CC ρ h1 w/\Ext ρ h w ρ h1 w)->h1.next=h.next->ccap<len+n->
            Out CC ρ h w (.slice (some ⟨h.next,0,none⟩) (len+n) (len+n)) (aL h1 ((bA.drop off).take (len*ei.size)++cs) ei.size)
             (((do pure (Next.value (<-Builtin.append_ #[t,t'] ty #[.slice (some ca) len ccap,a.eval y]))):Sem Next).run P w):=by
           intro h1 ⟨S1,E1⟩ B0 ef;obtain⟨EC,bh,g1,g2,g4,g3⟩:=(qf (t:=t) (ty:=ty) xY j_ (sa:=some ca) (len:=len) (ccap:=ccap) Q3 KT p_ NV).2 ef Ef o7 y9 acN acv;obtain⟨ρ',X5,hs',pL⟩:=GW (el:=el) S1 xn qK p_ g1 g2 g4;rw[B0] at X5;exact⟨ρ',_,_,.inl (cS g3),X5,hs',E1.trans pL⟩
          split at hv
          .rename_i Vb;cases hv;rw[FA];refine grow h ⟨S,.refl ρ h w⟩ rfl ?_;rcases cN.2.1 with h5|⟨h5,h6,h7,_⟩
           .omega
           .exfalso;simp only[Bool.or_eq_true,Bool.not_eq_true'] at Vb;rcases Vb with h8|h8
            .exact h5 (q3.trans (nO h8))
            .rw[q3,q2] at h7;rw[h7,Nat.beq_refl] at h8;cases h8
          .rename_i arh;split at hv
           .rename_i hoz;have hoz:=nO hoz;cases hv;rw[FA];by_cases ef:ccap<len+n
            .exact grow _ (S.less b) rfl ef
            .
             have N1:len+n<=ccap:=by omega
             have Rh:r.EM=ei.size:=by rw[q3,hoz,FA]
             have halt:off+ccap*r.EM<=r.room:=by
              rcases cN.2.1 with h5|⟨_,_,_,h8⟩
              .omega
              .exact h8
             have iM:off+cap*r.EM=r.len:=by
              rcases cN.2.1 with h5|⟨_,_,h8,_⟩
              .omega
              .exact h8
             have aq_:cap*ei.size<=(len+n)*ei.size:=CI _ (by omega);rw[Rh] at halt iM;have aaG:=cN.addr (show 0<ccap by omega);have hmul:(len+n)*ei.size<=ccap*ei.size:=CI _ N1;rw[rU] at hmul;have eH:r.base+(off+len*ei.size)+0+ez.length<=wz.size:=by rw[KT,<-q4.1];omega
             have dm:=run_storeCells_at (P:=P) r.aA (r.base+(off+len*ei.size)) GM ez 0 wz w q1 eH (fun u hm=>by obtain⟨i,hi⟩:=rT hm;have hx:cs[i]? =some (cs[i]'(by rw[hk.length];exact(bY.1 hi).1)):=aX _;obtain⟨c,hc,hkr⟩:=hk.get hx;rw[hi] at hc;cases hc;exact uC hkr.plain.2)
             have amN:=(qf (t:=t) (ty:=ty) xY j_ (sa:=some ca) (len:=len) (ccap:=ccap) Q3 KT p_ NV).1 N1;have uq:wz.toList.take (r.base+(off+len*ei.size)+0)++ez++wz.toList.drop (r.base+(off+len*ei.size)+0+ez.length)=aJ wz.toList (r.base+(off+len*ei.size)) ez:=by simp[aJ]
             rw[uq] at dm;have z7:r.base+(off+len*ei.size)+ez.length<=wz.toList.length:=by simpa using eH
             have Vn:iA CC (jj ρ h.next ⟨r.aA,r.base+off,(len+n)*ei.size,ei.size,r.room-off⟩) ⟨r.aA,r.base+off,(len+n)*ei.size,ei.size,r.room-off⟩
               (.aA ((bA.drop off).take (len*ei.size)++cs) false ei.size 0) (w.setRow r.aA (aJ wz.toList (r.base+(off+len*ei.size)) ez).toArray):=by
              refine⟨_,GM,(0,0),setRow_heap w r.aA wz _ GM _ q1,qK.symm,rfl,⟨?_,?_⟩,fun _=>rfl,?_⟩
              rotate_left 1
              .intro vN j u hj hu;dsimp only at hj hu;simp only[List.getElem?_toArray] at hu;have Ea:=hj;rw[rU] at Ea;rw[lh z7,aT (by omega)] at hu;exact q4.2 (by omega) (off+j) u (by omega) (by simpa [BU] using hu)
              rotate_left 1
              .have q4:=q4.1;simp only[List.size_toArray,yG z7,Array.length_toList];omega
              .intro j u hj;simp only[List.getElem?_toArray];rw[lh z7];by_cases aS:j<len*ei.size
               .rw[aT (by omega)];rw[KH (by rw[IW];exact aS),DZ,aU aS,List.getElem?_drop] at hj;obtain⟨c,AW,IQ⟩:=q6 _ _ hj;exact⟨c,by rw[<-AW];simp[BU],IQ.mono (tm S.fresh)⟩
               .rw[Mv (by rw[IW];omega),IW] at hj;obtain⟨c,AW,IQ⟩:=hk.get hj;have Eb:=(bY.1 AW).1;rw[aU (by omega)];refine⟨c,?_,IQ.mono (tm S.fresh)⟩;rw[<-AW];congr 1;omega
             obtain⟨S',E'⟩:=cQ.move S hr ho rfl (im:=⟨r.aA,r.base+off,(len+n)*ei.size,ei.size,r.room-off⟩) rfl (JL.row _ _) Vn;refine⟨_,_,.slice (some ca) (len+n) ccap,.inl (cS ?_),(CR.slice (nM _ _ _) ⟨.inl ?_,.inr ⟨by show ei.size≠0;omega,N1,by show 0+(len+n)*ei.size=(len+n)*ei.size;omega,by show 0+ccap*ei.size<=r.room-off;omega⟩,dK _⟩).vr,S',E'⟩
             .rw[amN];dsimp only;rw[aaG,nZ,BU,dm];rfl
             .rw[aaG];rfl
           .cases hv
         .rw[aT ac0] at hv;cases hv
       .cases hv
      .cases hv
     .cases hv
   .cases hv
  .cases hv
 .cases hv
end
section
variable {P:Program} {CC:cj} {ρ:dY} {h h':ae} {w:World} {T:qd} {ng:Nat} {e:Env} {a:Act} {c v:Value}
theorem VR.xt {x:Nat} (h:VR ρ (.map (some x)) c): ∃r,ρ x=some r/\c= .map (some r.aA):=by
 have:=CR.qn h rfl;cases this with
 |map h'=>exact⟨_,h',rfl⟩
theorem VR.y7 (h:VR ρ (.map none) c):c= .map none:=by
 have:=CR.qn h rfl;cases this with
 |y6=>rfl
theorem eq_int {x y:Value} {t:Bool} (h:gE [1] x y=some t): ∃k m n,x= .int k m/\y= .int k n/\t=(m==n):=by
 cases x with
 |int k m=>
  cases y with
  |int k' n=>
   simp only[gE,dI] at h;split at h
   .rename_i hk;cases h;subst hk;exact⟨k,m,n,rfl,rfl,rfl⟩
   .cases h
  |_=>simp[gE,dI] at h
 |_=>cases y<;>simp[gE,dI] at h
def rP (ρ:dY) (x:Value×Value) (y:MapEntry):Prop:=AR ρ x.1 y.key/\AR ρ x.2 y.val
theorem VX {kk:IntKind} {k ck:Value} (hk:VR ρ k ck) (ha:All2 (rP ρ) es eU): ∀ {r:Option Value} (i:Nat),pd [1] k es=some r->
  (r=none/\Instr.findNow (.int kk) ck eU i=some none)\/ ∃v j cv,r=some v/\Instr.findNow (.int kk) ck eU i=some (some (j,cv))/\AR ρ v cv:=by
 induction ha with
 |nil=>intro r i h;cases h;exact .inl ⟨rfl,rfl⟩
 | @cons x y es eU Gg hs ih=>
  obtain⟨k',v'⟩:=x;obtain⟨h1,h2⟩:=Gg;intro r i h;simp only[pd] at h;split at h
  .rename_i he;obtain⟨kd,m,n,rfl,rfl,ht⟩:=eq_int he;have e1:=hk.bN;have e2:=(VR.val h1).bN;subst e1;cases h;refine .inr ⟨v',i,y.val,rfl,?_,h2⟩;simp[Instr.findNow,e2,Instr.sameNow,<-ht]
  .rename_i he;obtain⟨kd,m,n,rfl,rfl,ht⟩:=eq_int he;have e1:=hk.bN;have e2:=(VR.val h1).bN;subst e1;rcases ih (i+1) h with⟨rfl,hf⟩|⟨v,j,cv,rfl,hf,hv⟩
   .exact .inl ⟨rfl,by simp[Instr.findNow,e2,Instr.sameNow,<-ht,hf]⟩
   .exact .inr ⟨v,j,cv,rfl,by simp[Instr.findNow,e2,Instr.sameNow,<-ht,hf],hv⟩
  .cases h
theorem AR.RM {k ck:Value} (h:VR ρ k ck) (hp:zb k=true):AR ρ k ck:=by
 cases k with
 |agg cs=>
  obtain⟨l⟩:=cs;obtain⟨m,rfl,hm⟩:=h.lQ;exact .agg hm
 |_=>exact .cell (KR.uB h hp)
theorem aaa {kk:IntKind} {k ck v cv:Value} (hk:VR ρ k ck) (hv:VR ρ v cv) (ha:All2 (rP ρ) es eU): ∀ {tN:List (Value×Value)} (i:Nat),rM [1] k v es=some tN->
  (Instr.findNow (.int kk) ck eU i=some none/\ ∀b,All2 (rP ρ) tN (eU++[{ key:=ck,val:=cv,born:=b }]))\/
  ∃j y Yt,Instr.findNow (.int kk) ck eU i=some (some (i+j,Yt))/\eU[j]? =some y/\Instr.sameBits 10000 y.key ck=true/\All2 (rP ρ) tN (eU.modify j fun e=> { e with key:=ck,val:=cv }):=by
 induction ha with
 |nil=>
  intro tN i h;simp only[rM] at h;split at h
  .rename_i hc;simp only[uf] at hc;cases h;exact .inl ⟨rfl,fun b=> .cons ⟨AR.RM hk hc.1,.cell (KR.uB hv hc.2)⟩ .nil⟩
  .cases h
 | @cons x y es eU Gg hs ih=>
  obtain⟨k',v'⟩:=x;obtain⟨h1,h2⟩:=Gg;intro tN i h;simp only[rM] at h;split at h
  .rename_i he;obtain⟨kd,m,n,rfl,rfl,ht⟩:=eq_int he;have e1:=hk.bN;have e2:=(VR.val h1).bN;have hmn:m=n:=by simpa using ht.symm
   subst hmn;subst e1;split at h
   .rename_i hp;simp only[uf] at hp;cases h;refine .inr ⟨0,y,y.val,by simp[Instr.findNow,e2,Instr.sameNow],rfl,by simp[e2,Instr.sameBits],?_⟩;exact .cons ⟨.cell (.cell (.int _ _)),.cell (KR.uB hv hp.2)⟩ hs
   .cases h
  .rename_i he;obtain⟨kd,m,n,rfl,rfl,ht⟩:=eq_int he;have e1:=hk.bN;have e2:=(VR.val h1).bN;subst e1;split at h
   .rename_i r' hr;cases h;rcases ih (i+1) hr with⟨hf,hb⟩|⟨j,y',Yt,hf,hy,vc,hb⟩
    .exact .inl ⟨by simp[Instr.findNow,e2,Instr.sameNow,<-ht,hf],fun b=> .cons ⟨h1,h2⟩ (hb b)⟩
    .refine .inr ⟨j+1,y',Yt,?_,by simpa using hy,vc,?_⟩
     .simp only[Instr.findNow,e2,Instr.sameNow,<-ht];simp[hf];omega
     .exact .cons ⟨h1,h2⟩ hb
   .cases h
  .cases h
theorem xr (hu:P.underlying t=some (.int kk)) (b:Bool) (v:Value):(Instr.checkKey b 10000 t v).run P w= .ok () w:=by unfold Instr.checkKey;simp[run_underlying hu]
@[simp] theorem Bt (v:Value):jY [1] v=true:=rfl
theorem ZD (hT:cm P T) {x y:Operand} {ok:Bool} (iD:T t=some i) (hu:i.u= .map kt el) (sH:T kt=some ki) (y5:ki.u= .int kk) (hH:T el=some ei) (hz:ei.zero=[z]) (lO:ei.agg=false)
  (S:cQ CC ρ h w) (hE:ER ρ e a.tmps) (hG:bS ng ρ) (hx:aZ ng x=true) (hy:aZ ng y=true) (hv:bm e h (.look [1] z ok x y)=some (v,h')):
  Out CC ρ h w v h' (((do pure (Next.value (<-Instr.lookup t (a.eval x) (a.eval y) ok))):Sem Next).run P w):=by
 have j_:=(hT t i iD).u;rw[hu] at j_;have B8:=(hT kt ki sH).u;rw[y5] at B8;obtain⟨z',Fz,vK⟩:=rO (P:=P) (w:=w) (hT el ei hH);have JU:z'=z:=by
  obtain⟨ti,k1,k2,k3,zz,k4,k5⟩:=(hT el ei hH).info;have:=(hT el ei hH).one lO ti zz k1 k4;have e1:zz=z':=by
   have:(zeroValue el).run P w= .ok zz w:=by simp[zeroValue,typeInfo,k1,k4]
   rw[this] at Fz;cases Fz;rfl
  subst e1;have hc:zz.cells.toList=[zz]:=by cases zz<;>first|rfl|(simp[AI.plain] at this)
  rw[hc,hz] at vK;simpa using vK
 subst JU;have I0:bK z'=true:=by have:=(hT el ei hH).zero;rw[hz] at this;simpa using this
 have hzr:AR ρ z' z':= .cell (.cell (gu I0));have dD:=hE.eval hG hx;have ky:=hE.eval hG hy;have key: ∀(es:List (Value×Value)) (eU:Array MapEntry),All2 (rP ρ) es eU.toList-> ∀r,pd [1] (ev e y) es=some r->(∀(body:Sem (Array MapEntry)),body.run P w= .ok eU w->True)->
   ∃c,(match r with|none=>VR ρ (if ok then .tuple #[z',.bool false] else z') c|some v=>VR ρ (if ok then .tuple #[v,.bool true] else v) c)/\
    ((do
     Instr.checkKey eU.isEmpty 10000 kt (a.eval y)
     let(v,bX)<-match<-Instr.findKey kt (a.eval y) eU.toList with
      |some (_,v)=>pure (v,true)
      |none=>pure (<-zeroValue el,false)
     pure (if ok then Value.tuple #[v,.bool bX] else v)):Sem Value).run P w= .ok c w:=by
  intro es eU ha r hr _;rcases VX (kk:=kk) ky ha 0 hr with⟨rfl,hf⟩|⟨v,j,cv,rfl,hf,hvc⟩
  .cases ok with
   |false=>exact⟨z',.val hzr,by simp[xr B8,Instr.findKey,run_underlying B8,hf,Fz]⟩
   |true=>exact⟨.tuple #[z',.bool false],.tuple (.cons hzr (.cons (.cell (.cell (.bool _))) .nil)),by simp[xr B8,Instr.findKey,run_underlying B8,hf,Fz]⟩
  .cases ok with
   |false=>exact⟨cv,.val hvc,by simp[xr B8,Instr.findKey,run_underlying B8,hf]⟩
   |true=>exact⟨.tuple #[cv,.bool true],.tuple (.cons hvc (.cons (.cell (.cell (.bool _))) .nil)),by simp[xr B8,Instr.findKey,run_underlying B8,hf]⟩
 cases hm:ev e x with
 |map m=>
  rw[hm] at dD;cases m with
  |none=>
   have e1:=dD.y7;simp only[bm,hm,Bt,cond_true] at hv;cases hv;obtain⟨c,h1,h2⟩:=key [] #[] .nil none rfl (fun _ _=>trivial);refine Out.same S (c:=c) (cS ?_) h1;rw[e1];simp only[Instr.lookup,Sem.run_bind,run_underlying j_,Result.andThen];simp[Sem.run_bind,Result.andThen] at h2 ⊢;exact h2
  |some b=>
   obtain⟨r,hr,e1⟩:=dD.xt;simp only[bm,hm,Bt,cond_true] at hv;cases hg:h.tr.get b with
   |none=>simp[hg] at hv
   |some ob=>
    cases ob with
    |map es=>
     simp only[hg] at hv;obtain⟨eU,cl,hw,ha,vI,iz⟩:=S.obj b r _ hr hg;cases hl:pd [1] (ev e y) es with
     |none=>simp[hl] at hv
     |some q=>
      obtain⟨c,h1,h2⟩:=key es eU ha q hl (fun _ _=>trivial);have hvh:VR ρ v c/\h'=h:=by
       cases q with
       |none=>simp only[hl] at hv;cases hv;exact⟨h1,rfl⟩
       |some q=>simp only[hl] at hv;cases hv;exact⟨h1,rfl⟩
      obtain⟨h1,rfl⟩:=hvh;refine Out.same S (c:=c) (cS ?_) h1;rw[e1];have vJ:(getObj r.aA).run P w= .ok (.map eU cl) w:=by simp[getObj,Sem.run,hw]
      simp only[Instr.lookup,Sem.run_bind,run_underlying j_,Result.andThen,vJ];simp[Sem.run_bind,Result.andThen] at h2 ⊢;exact h2
    |_=>simp[hg] at hv
 |_=>simp[bm,hm] at hv
theorem Bb {eU:Array MapEntry} {k v:Value} (h: ∀(i:Nat) (y:MapEntry),eU[i]? =some y->y.born=i): ∀(i:Nat) (y:MapEntry),(eU.push { key:=k,val:=v,born:=eU.size })[i]? =some y->y.born=i:=by
 intro i y hy;rw[Array.getElem?_push] at hy;split at hy
 .rename_i e;cases hy;exact e.symm
 .exact h i y hy
theorem sg {eU:Array MapEntry} {j:Nat} {f:MapEntry->MapEntry} (hf: ∀e,(f e).born=e.born) (h: ∀(i:Nat) (y:MapEntry),eU[i]? =some y->y.born=i): ∀(i:Nat) (y:MapEntry),(eU.modify j f)[i]? =some y->y.born=i:=by
 intro i y hy;rw[Array.getElem?_modify] at hy;split at hy
 .cases hc:eU[i]? with
  |none=>rw[hc] at hy;cases hy
  |some e=>
   rw[hc] at hy;cases hy;rw[hf];exact h i e hc
 .exact h i y hy
theorem ZG (hT:cm P T) {x y z:Operand} (iD:T t=some i) (hu:i.u= .map kt el) (sH:T kt=some ki) (y5:ki.u= .int kk)
  (S:cQ CC ρ h w) (hE:ER ρ e a.tmps) (hG:bS ng ρ) (hx:aZ ng x=true) (hy:aZ ng y=true) (hz:aZ ng z=true) (hv:bm e h (.Ja [1] x y z)=some (v,h')):
  ∃w',v= .tuple #[]/\(Instr.mapUpdate t (a.eval x) (a.eval y) (a.eval z)).run P w= .ok () w'/\cQ CC ρ h' w'/\Ext ρ h w ρ h' w':=by
 have j_:=(hT t i iD).u;rw[hu] at j_;have B8:=(hT kt ki sH).u;rw[y5] at B8;have dD:=hE.eval hG hx;have ky:=hE.eval hG hy;have hrz:=hE.eval hG hz;cases hm:ev e x with
 |map m=>
  rw[hm] at dD;cases m with
  |none=>simp[bm,hm] at hv
  |some b=>
   obtain⟨r,hr,e1⟩:=dD.xt;simp only[bm,hm,Bt,cond_true] at hv;cases hg:h.tr.get b with
   |none=>simp[hg] at hv
   |some ob=>
    cases ob with
    |map es=>
     simp only[hg] at hv;cases N6:rM [1] (ev e y) (ev e z) es with
     |none=>simp[N6] at hv
     |some tN=>
      simp only[N6] at hv;cases hv;obtain⟨eU,cl,hw,ha,vI,iz⟩:=S.obj b r _ hr hg;have vJ:(getObj r.aA).run P w= .ok (.map eU cl) w:=by simp[getObj,Sem.run,hw]
      have X3: ∀o,(setObj r.aA o).run P w= .ok () { w with heap:=w.heap.setIfInBounds r.aA o } :=by intro o;simp[setObj,Sem.run,hw]
      have fH: ∀o,({ w with heap:=w.heap.setIfInBounds r.aA o } :World).heap[r.aA]? =some o:=by intro o;have:=uV hw;simp[this]
      rw[e1];rcases aaa (kk:=kk) ky hrz ha 0 N6 with⟨hf,hb⟩|⟨j,y',Yt,hf,VD,vc,hb⟩
      .obtain⟨S',E'⟩:=S.uL hr hg rfl (JL.obj (w:=w) r.aA (.map (eU.push { key:=a.eval y,val:=a.eval z,born:=cl }) (cl+1))) (o':= .map tN) ⟨_,_,fH _,by show All2 (rP ρ) tN _;simpa using hb cl,by simp[vI],by rw[vI];exact Bb iz⟩ (h.clock+1);refine⟨_,rfl,?_,S',E'⟩;simp[Instr.mapUpdate,run_underlying j_,vJ,xr B8,Instr.findKey,run_underlying B8,hf,X3]
      .obtain⟨S',E'⟩:=S.uL hr hg rfl (JL.obj (w:=w) r.aA (.map (eU.modify j fun e=> { e with key:=a.eval y,val:=a.eval z }) cl)) (o':= .map tN) ⟨_,_,fH _,by show All2 (rP ρ) tN _;simpa using hb,by simp[vI],sg (fun _=>rfl) iz⟩ (h.clock+1);refine⟨_,rfl,?_,S',E'⟩;have Rj:eU[j]? =some y':=by simpa using VD
       simp[Instr.mapUpdate,run_underlying j_,vJ,xr B8,Instr.findKey,run_underlying B8,hf,X3,Rj,Instr.keyThatStays,vc]
    |_=>simp[hg] at hv
 |_=>simp[bm,hm] at hv
theorem Nq {l:Array Value} {t:Bool} (h:gE (9::ks) (.agg l) y=some t): ∃l',y= .agg l'/\bx ks l.toList l'.toList=some t:=by
 cases y with
 |agg l'=>exact⟨l',rfl,h⟩
 |_=>
  exfalso;unfold gE at h;cases ks with
  |nil=>simp[dI] at h
  |cons a ks=>simp at h
theorem SD {k:Nat} {p q:Value} (h:dI k p q=some true) (n:Nat):Instr.sameBits n p q=true:=by
 unfold dI at h;split at h
 .cases n<;>simpa [Instr.sameBits] using h
 .split at h
  .rename_i hk;subst hk;cases n<;>simpa [Instr.sameBits] using h
  .cases h
 .cases n<;>simpa [Instr.sameBits] using h
 .cases h
theorem OM : ∀ {ks:List Nat} {l m:List Value},bx ks l m=some true->(l.zip m).all (fun x=>Instr.sameBits n x.1 x.2)=true:=by
 intro ks;induction ks with
 |nil=>
  intro l m h;obtain⟨h1,h2⟩:=eB h
  match l,m,h1,h2 with
  |[],[],_,_=>rfl
 |cons k ks ih=>
  intro l m h;obtain⟨h1,h2⟩:=eB h
  match l,m,h1,h2 with
  |p::l,q::m,_,_=>
   simp only[bx] at h;split at h
   .rename_i x y h3 h4;simp only[kl,uf] at h;obtain⟨rfl,rfl⟩:=h;simp only[List.zip_cons_cons,List.all_cons,uf];exact⟨SD h3 n,ih h4⟩
   .cases h
theorem L0 {l m:List Value} (h:bx ks l m=some true) (n:Nat):Instr.sameBits (n+1) (.agg ⟨l⟩) (.agg ⟨m⟩)=true:=by obtain⟨h1,h2⟩:=eB h;have:=OM (n:=n) h;simp only[Instr.sameBits,uf];exact⟨by simp[h1,h2],this⟩
theorem M4 (a b:ByteArray):(a==b)=(b==a):=by
 cases a with|mk a=>cases b with|mk b=>
 show(a==b)=(b==a);exact BEq.comm
theorem zS: ∀ {ks:List Nat} {l m:List Value} {t:Bool},bx ks l m=some t->bx ks m l=some t:=by
 intro ks;induction ks with
 |nil=>
  intro l m t h;obtain⟨h1,h2⟩:=eB h
  match l,m,h1,h2 with
  |[],[],_,_=>exact h
 |cons k ks ih=>
  intro l m t h;obtain⟨h1,h2⟩:=eB h
  match l,m,h1,h2 with
  |p::l,q::m,_,_=>
   simp only[bx] at h ⊢;split at h
   .rename_i x y h3 h4;have e:dI k q p=some x:=by
     unfold dI at h3 ⊢;split at h3
     .cases h3;simp[Bool.beq_comm]
     .split at h3
      .rename_i hk;subst hk;cases h3;rw[aU rfl];refine congrArg some ?_;rw[Bool.eq_iff_iff];simp only[beq_iff_eq];exact eq_comm
      .cases h3
     .rename_i s1 s2;cases h3;exact congrArg some (M4 _ _)
     .cases h3
    rw[e,ih h4];exact h
   .cases h
theorem VQ (hT:cm P T): ∀(d t:Nat) (i:TI) (dep:Nat) (ks:List Nat),T t=some i->kinds T d t=some ks->d<=dep-> ∀(l:List Value),l.length=i.size-> ∀(b:Bool) (w:World),(Instr.checkKey b dep t (mT i l)).run P w= .ok () w:=by
 intro d;induction d with
 |zero=>intro t i dep ks _ h;simp[kinds] at h
 |succ d ih=>
  intro t i dep ks iD iL hd l hl b w;obtain⟨dep,rfl⟩: ∃k,dep=k+1:=⟨dep-1,by omega⟩;have hi:=hT t i iD;have Ri:=hi.u;simp only[kinds,iD] at iL;have lO:=hi.agg;split at iL
  .rename_i hu;rw[hu] at Ri;unfold Instr.checkKey;simp[run_underlying Ri]
  .rename_i hu;rw[hu] at Ri;unfold Instr.checkKey;simp[run_underlying Ri]
  .rename_i hu;rw[hu] at Ri;unfold Instr.checkKey;simp[run_underlying Ri]
  .rename_i fs hu;rw[hu] at lO Ri;split at iL
   .rename_i n hc;cases hb:Nat.beq n i.size with
    |false=>simp[hb] at iL
    |true=>
     simp only[hb,cond_true] at iL;have hn:=nO hb;have key: ∀(gs:List Field) (off:Nat) (ks:List Nat),nc T off gs=some n->mq (kinds T d) gs=some ks-> ∀w,
       (forIn gs PUnit.unit (fun f r=>do
        if f.name≠ "_" then do
         Instr.checkKey b dep f.type (<-part f.type ⟨l⟩ f.offset)
         pure (ForInStep.yield PUnit.unit)
        else pure (ForInStep.yield PUnit.unit)):Sem PUnit).run P w= .ok PUnit.unit w:=by
      intro gs;induction gs with
      |nil=>intro off ks _ _ w;simp
      |cons f gs ihg=>
       intro off ks hc hk w;simp only[nc] at hc;cases KP:Nat.beq f.offset off with
       |false=>simp[KP] at hc
       |true=>
        simp only[KP,cond_true] at hc;have Y6:=nO KP;cases htf:T f.type with
        |none=>simp[htf] at hc
        |some j=>
         simp only[htf] at hc;obtain⟨KZ,a,b',ha,iy,rfl⟩:=qa hk;have hle:=GD hc;have hp:=qp (hT f.type j htf) (m:=l) (off:=f.offset) (by omega) w;have cn:((l.drop f.offset).take j.size).length=j.size:=by simp;omega
         have h1:=ih f.type j dep a htf ha (by omega) _ cn b w;have h2:=ihg (off+j.size) b' hc iy w;rw[List.forIn_cons];simp only[KZ,ne_eq,not_false_eq_true,if_true,Sem.run_bind,hp,Result.andThen_ok,h1,Sem.run_pure];exact h2
     simp only[mT,lO,mn,cond_true];unfold Instr.checkKey;simp only[Sem.run_bind,run_underlying Ri,Result.andThen_ok];have h:=key fs.toList 0 ks hc iL w;rw[Array.forIn_toList] at h;simp at h;simp[h]
   .cases iL
  .rename_i n el hu;rw[hu] at lO Ri;split at iL
   .rename_i e he;cases hb:Nat.beq (n*e.size) i.size with
    |false=>simp[hb] at iL
    |true=>
     simp only[hb,cond_true] at iL;have hn:=nO hb;split at iL
     .rename_i Hh hk;have key: ∀(L:List Nat),(∀j∈L,j<n)-> ∀w,
        (forIn L PUnit.unit (fun j r=>do
         Instr.checkKey b dep el (<-part el ⟨l⟩ (j*(<-sizeOf el)))
         pure (ForInStep.yield PUnit.unit)):Sem PUnit).run P w= .ok PUnit.unit w:=by
       intro L;induction L with
       |nil=>intro _ w;simp
       |cons j L ihL=>
        intro hL w;have hj:=hL j (D2 ..);have hle:j*e.size+e.size<=l.length:=by have:(j+1)*e.size<=n*e.size:=CI _ hj;rw[rU] at this;omega
        have hp:=qp (hT el e he) (m:=l) (off:=j*e.size) hle w;have cn:((l.drop (j*e.size)).take e.size).length=e.size:=by simp;omega
        have h1:=ih el e dep Hh he hk (by omega) _ cn b w;have h2:=ihL (fun x hx=>hL x (CZ _ hx)) w;have hs:=(fF (w:=w) (hT el e he)).1;rw[List.forIn_cons];simp only[Sem.run_bind,hs,hp,Result.andThen_ok,h1,Sem.run_pure];exact h2
      simp only[mT,lO,mn,cond_true];unfold Instr.checkKey;simp only[Sem.run_bind,run_underlying Ri,Result.andThen_ok];have h:=key (List.range' 0 n) (fun j hj=>by simp at hj;omega) w;simp at h;simp[h]
     .cases iL
   .cases iL
  .cases iL
theorem VW (hT:cm P T) {kt:Nat} (sH:T kt=some ki) (hk:kinds T 9 kt=some ks) (lO:ki.agg=true) {l m:List Value} (C3:All2 (KR ρ) l m) (ha:All2 (rP ρ) es eU):
  ∀ {r:Option Value} (i:Nat),pd (9::ks) (.agg ⟨l⟩) es=some r->
   (r=none/\ ∀w,(Instr.findAsking kt (.agg ⟨m⟩) eU i).run P w= .ok none w)\/ ∃v j cv,r=some v/\(∀w,(Instr.findAsking kt (.agg ⟨m⟩) eU i).run P w= .ok (some (j,cv)) w)/\AR ρ v cv:=by
 induction ha with
 |nil=>intro r i h;cases h;exact .inl ⟨rfl,fun w=>by simp[Instr.findAsking]⟩
 | @cons x y es eU Gg hs ih=>
  obtain⟨k',v'⟩:=x;obtain⟨h1,h2⟩:=Gg;intro r i h;simp only[pd] at h;have step: ∀t,gE (9::ks) (.agg ⟨l⟩) k'=some t-> ∀w,(Op.equal kt (.agg ⟨m⟩) y.key).run P w= .ok t w:=by intro t he w;obtain⟨⟨l'⟩,rfl,IS⟩:=Nq he;obtain⟨m',e2,NT⟩:=(VR.val h1).lQ;have IX:=su C3 NT IS;have:=xl hT 9 kt ki 10000 ks sH hk (by omega) m m' t IX w;simp only[mT,lO,cond_true] at this;rw[e2];exact this
  split at h
  .rename_i he;cases h;refine .inr ⟨v',i,y.val,rfl,fun w=> ?_,h2⟩;simp[Instr.findAsking,step _ he]
  .rename_i he;rcases ih (i+1) h with⟨rfl,hf⟩|⟨v,j,cv,rfl,hf,hv⟩
   .exact .inl ⟨rfl,fun w=>by simp[Instr.findAsking,step _ he,hf]⟩
   .exact .inr ⟨v,j,cv,rfl,fun w=>by simp[Instr.findAsking,step _ he,hf],hv⟩
  .cases h
theorem Z_ (hT:cm P T) {kt:Nat} (sH:T kt=some ki) (hk:kinds T 9 kt=some ks) (lO:ki.agg=true) {l m:List Value} (C3:All2 (KR ρ) l m) (hv:VR ρ v cv) (ha:All2 (rP ρ) es eU):
  ∀ {tN:List (Value×Value)} (i:Nat),rM (9::ks) (.agg ⟨l⟩) v es=some tN->
   ((∀w,(Instr.findAsking kt (.agg ⟨m⟩) eU i).run P w= .ok none w)/\ ∀b,All2 (rP ρ) tN (eU++[{ key:= .agg ⟨m⟩,val:=cv,born:=b }]))\/
   ∃j y Yt,(∀w,(Instr.findAsking kt (.agg ⟨m⟩) eU i).run P w= .ok (some (i+j,Yt)) w)/\eU[j]? =some y/\Instr.sameBits 10000 y.key (.agg ⟨m⟩)=true/\All2 (rP ρ) tN (eU.modify j fun e=> { e with key:= .agg ⟨m⟩,val:=cv }):=by
 induction ha with
 |nil=>
  intro tN i h;simp only[rM] at h;split at h
  .rename_i hc;simp only[uf] at hc;cases h;exact .inl ⟨fun w=>by simp[Instr.findAsking],fun b=> .cons ⟨.agg C3,.cell (KR.uB hv hc.2)⟩ .nil⟩
  .cases h
 | @cons x y es eU Gg hs ih=>
  obtain⟨k',v'⟩:=x;obtain⟨h1,h2⟩:=Gg;intro tN i h;simp only[rM] at h;have step: ∀t,gE (9::ks) (.agg ⟨l⟩) k'=some t->(∀w,(Op.equal kt (.agg ⟨m⟩) y.key).run P w= .ok t w)/\(t=true->Instr.sameBits 10000 y.key (.agg ⟨m⟩)=true):=by
   intro t he;obtain⟨⟨l'⟩,rfl,IS⟩:=Nq he;obtain⟨m',e2,NT⟩:=(VR.val h1).lQ;have IX:=su C3 NT IS;refine⟨fun w=> ?_,?_⟩
   .have:=xl hT 9 kt ki 10000 ks sH hk (by omega) m m' t IX w;simp only[mT,lO,cond_true] at this;rw[e2];exact this
   .rintro rfl;rw[e2];exact L0 (zS IX) 9999
  split at h
  .rename_i he;split at h
   .rename_i hp;simp only[uf] at hp;cases h;refine .inr ⟨0,y,y.val,fun w=>by simp[Instr.findAsking,(step _ he).1],rfl,(step _ he).2 rfl,?_⟩;exact .cons ⟨.agg C3,.cell (KR.uB hv hp.2)⟩ hs
   .cases h
  .rename_i he;split at h
   .rename_i r' hr;cases h;rcases ih (i+1) hr with⟨hf,hb⟩|⟨j,y',Yt,hf,hy,vc,hb⟩
    .exact .inl ⟨fun w=>by simp[Instr.findAsking,(step _ he).1,hf],fun b=> .cons ⟨h1,h2⟩ (hb b)⟩
    .refine .inr ⟨j+1,y',Yt,fun w=> ?_,by simpa using hy,vc,?_⟩
     .simp[Instr.findAsking,(step _ he).1,hf];omega
     .exact .cons ⟨h1,h2⟩ hb
   .cases h
  .cases h
theorem oq {kt:Nat} (hu:(∃fs,P.underlying kt=some (.struct fs))\/ ∃n el,P.underlying kt=some (.array n el)) {c:Value} {r:Option (Nat×Value)} (h: ∀w,(Instr.findAsking kt c eU 0).run P w= .ok r w) (w:World):(Instr.findKey kt c eU).run P w= .ok r w:=by
 cases eU with
 |nil=>
  have:=h w;simp[Instr.findAsking] at this;rcases hu with⟨fs,hu⟩|⟨n,el,hu⟩<;>simp[Instr.findKey,run_underlying hu,Instr.findNow,this]
 |cons x eU=>
  rcases hu with⟨fs,hu⟩|⟨n,el,hu⟩<;>simp[Instr.findKey,run_underlying hu,Instr.findNow,Instr.sameNow,h]
theorem Ep (hT:cm P T) {kt:Nat} (sH:T kt=some ki) (xn:kinds T 9 kt=some ks) (NS:ki.agg=true) (hm:m.length=ks.length) (b:Bool) (w:World):(Instr.checkKey b 10000 kt (.agg ⟨m⟩)).run P w= .ok () w:=by have:=VQ hT 9 kt ki 10000 ks sH xn (by omega) m (by rw[hm];exact qb sH hT xn) b w;simpa only[mT,NS,cond_true] using this
theorem All2.C9 {α β:Type} {R:α->β->Prop} {l:List α} {m:List β} (h:All2 R l m):l.length=m.length:=by
 induction h with
 |nil=>rfl
 |cons _ _ ih=>simp[ih]
theorem Ly (hT:cm P T) {x y:Operand} {ok:Bool} (iD:T t=some i) (hu:i.u= .map kt el) (sH:T kt=some ki) (xn:kinds T 9 kt=some ks) (NS:ki.agg=true) (y5:(∃fs,ki.u= .struct fs)\/ ∃n el,ki.u= .array n el) (hH:T el=some ei) (hz:ei.zero=[z]) (lO:ei.agg=false)
  (S:cQ CC ρ h w) (hE:ER ρ e a.tmps) (hG:bS ng ρ) (hx:aZ ng x=true) (hy:aZ ng y=true) (hv:bm e h (.look (9::ks) z ok x y)=some (v,h')):
  Out CC ρ h w v h' (((do pure (Next.value (<-Instr.lookup t (a.eval x) (a.eval y) ok))):Sem Next).run P w):=by
 have j_:=(hT t i iD).u;rw[hu] at j_;have B8:(∃fs,P.underlying kt=some (.struct fs))\/ ∃n el,P.underlying kt=some (.array n el):=by
  have:=(hT kt ki sH).u;rcases y5 with⟨fs,e⟩|⟨n,el,e⟩
  .exact .inl ⟨fs,by rw[this,e]⟩
  .exact .inr ⟨n,el,by rw[this,e]⟩
 obtain⟨z',Fz,vK⟩:=rO (P:=P) (w:=w) (hT el ei hH);have JU:z'=z:=by
  obtain⟨ti,k1,k2,k3,zz,k4,k5⟩:=(hT el ei hH).info;have:=(hT el ei hH).one lO ti zz k1 k4;have e1:zz=z':=by
   have:(zeroValue el).run P w= .ok zz w:=by simp[zeroValue,typeInfo,k1,k4]
   rw[this] at Fz;cases Fz;rfl
  subst e1;have hc:zz.cells.toList=[zz]:=by cases zz<;>first|rfl|(simp[AI.plain] at this)
  rw[hc,hz] at vK;simpa using vK
 subst JU;have I0:bK z'=true:=by have:=(hT el ei hH).zero;rw[hz] at this;simpa using this
 have hzr:AR ρ z' z':= .cell (.cell (gu I0));have dD:=hE.eval hG hx;have ky:=hE.eval hG hy;obtain⟨l,G0,Ed⟩: ∃l,ev e y= .agg ⟨l⟩/\l.length=ks.length:=by
  cases G0:ev e y with
  |agg lk=>
   obtain⟨l⟩:=lk;refine⟨l,rfl,?_⟩;cases zn:jY (9::ks) (ev e y) with
   |false=>simp[bm,zn] at hv
   |true=>rw[G0] at zn;exact nO zn
  |_=>simp[bm,G0,jY] at hv
 have zn:jY (9::ks) (ev e y)=true:=by rw[G0];show Nat.beq l.length ks.length=true;rw[Ed];exact Nat.beq_refl _
 rw[G0] at ky;obtain⟨m,em,C3⟩:=ky.lQ;have Vi:m.length=ks.length:=by rw[<-Ed];exact(All2.C9 C3).symm
 have Ti:=fun b w=>Ep hT sH xn NS Vi b w;have key: ∀(es:List (Value×Value)) (eU:Array MapEntry),All2 (rP ρ) es eU.toList-> ∀r,pd (9::ks) (ev e y) es=some r->(∀(body:Sem (Array MapEntry)),body.run P w= .ok eU w->True)->
   ∃c,(match r with|none=>VR ρ (if ok then .tuple #[z',.bool false] else z') c|some v=>VR ρ (if ok then .tuple #[v,.bool true] else v) c)/\
    ((do
     Instr.checkKey eU.isEmpty 10000 kt (a.eval y)
     let(v,bX)<-match<-Instr.findKey kt (a.eval y) eU.toList with
      |some (_,v)=>pure (v,true)
      |none=>pure (<-zeroValue el,false)
     pure (if ok then Value.tuple #[v,.bool bX] else v)):Sem Value).run P w= .ok c w:=by
  intro es eU ha r hr _;rw[G0] at hr;rw[em];rcases VW hT sH xn NS C3 ha 0 hr with⟨rfl,hf⟩|⟨v,j,cv,rfl,hf,hvc⟩
  .cases ok with
   |false=>exact⟨z',.val hzr,by simp[Ti,oq B8 hf,Fz]⟩
   |true=>exact⟨.tuple #[z',.bool false],.tuple (.cons hzr (.cons (.cell (.cell (.bool _))) .nil)),by simp[Ti,oq B8 hf,Fz]⟩
  .cases ok with
   |false=>exact⟨cv,.val hvc,by simp[Ti,oq B8 hf]⟩
   |true=>exact⟨.tuple #[cv,.bool true],.tuple (.cons hvc (.cons (.cell (.cell (.bool _))) .nil)),by simp[Ti,oq B8 hf]⟩
 cases hm:ev e x with
 |map m=>
  rw[hm] at dD;cases m with
  |none=>
   have e1:=dD.y7;simp only[bm,hm,zn,cond_true] at hv;cases hv;obtain⟨c,h1,h2⟩:=key [] #[] .nil none rfl (fun _ _=>trivial);refine Out.same S (c:=c) (cS ?_) h1;rw[e1];simp only[Instr.lookup,Sem.run_bind,run_underlying j_,Result.andThen];simp[Sem.run_bind,Result.andThen] at h2 ⊢;exact h2
  |some b=>
   obtain⟨r,hr,e1⟩:=dD.xt;simp only[bm,hm,zn,cond_true] at hv;cases hg:h.tr.get b with
   |none=>simp[hg] at hv
   |some ob=>
    cases ob with
    |map es=>
     simp only[hg] at hv;obtain⟨eU,cl,hw,ha,vI,iz⟩:=S.obj b r _ hr hg;cases hl:pd (9::ks) (ev e y) es with
     |none=>simp[hl] at hv
     |some q=>
      obtain⟨c,h1,h2⟩:=key es eU ha q hl (fun _ _=>trivial);have hvh:VR ρ v c/\h'=h:=by
       cases q with
       |none=>simp only[hl] at hv;cases hv;exact⟨h1,rfl⟩
       |some q=>simp only[hl] at hv;cases hv;exact⟨h1,rfl⟩
      obtain⟨h1,rfl⟩:=hvh;refine Out.same S (c:=c) (cS ?_) h1;rw[e1];have vJ:(getObj r.aA).run P w= .ok (.map eU cl) w:=by simp[getObj,Sem.run,hw]
      simp only[Instr.lookup,Sem.run_bind,run_underlying j_,Result.andThen,vJ];simp[Sem.run_bind,Result.andThen] at h2 ⊢;exact h2
    |_=>simp[hg] at hv
 |_=>simp[bm,hm] at hv
theorem Lz (hT:cm P T) {x y z:Operand} (iD:T t=some i) (hu:i.u= .map kt el) (sH:T kt=some ki) (xn:kinds T 9 kt=some ks) (NS:ki.agg=true) (y5:(∃fs,ki.u= .struct fs)\/ ∃n el,ki.u= .array n el)
  (S:cQ CC ρ h w) (hE:ER ρ e a.tmps) (hG:bS ng ρ) (hx:aZ ng x=true) (hy:aZ ng y=true) (hz:aZ ng z=true) (hv:bm e h (.Ja (9::ks) x y z)=some (v,h')):
  ∃w',v= .tuple #[]/\(Instr.mapUpdate t (a.eval x) (a.eval y) (a.eval z)).run P w= .ok () w'/\cQ CC ρ h' w'/\Ext ρ h w ρ h' w':=by
 have j_:=(hT t i iD).u;rw[hu] at j_;have B8:(∃fs,P.underlying kt=some (.struct fs))\/ ∃n el,P.underlying kt=some (.array n el):=by
  have:=(hT kt ki sH).u;rcases y5 with⟨fs,e⟩|⟨n,el,e⟩
  .exact .inl ⟨fs,by rw[this,e]⟩
  .exact .inr ⟨n,el,by rw[this,e]⟩
 have dD:=hE.eval hG hx;have ky:=hE.eval hG hy;have hrz:=hE.eval hG hz;obtain⟨l,G0,Ed⟩: ∃l,ev e y= .agg ⟨l⟩/\l.length=ks.length:=by
  cases G0:ev e y with
  |agg lk=>
   obtain⟨l⟩:=lk;refine⟨l,rfl,?_⟩;cases zn:jY (9::ks) (ev e y) with
   |false=>simp[bm,zn] at hv
   |true=>rw[G0] at zn;exact nO zn
  |_=>simp[bm,G0,jY] at hv
 have zn:jY (9::ks) (ev e y)=true:=by rw[G0];show Nat.beq l.length ks.length=true;rw[Ed];exact Nat.beq_refl _
 rw[G0] at ky;obtain⟨m,em,C3⟩:=ky.lQ;have Vi:m.length=ks.length:=by rw[<-Ed];exact(All2.C9 C3).symm
 have Ti:=fun b w=>Ep hT sH xn NS Vi b w;cases hm:ev e x with
 |map m=>
  rw[hm] at dD;cases m with
  |none=>simp[bm,hm] at hv
  |some b=>
   obtain⟨r,hr,e1⟩:=dD.xt;simp only[bm,hm,zn,cond_true] at hv;cases hg:h.tr.get b with
   |none=>simp[hg] at hv
   |some ob=>
    cases ob with
    |map es=>
     simp only[hg] at hv;cases N6:rM (9::ks) (ev e y) (ev e z) es with
     |none=>simp[N6] at hv
     |some tN=>
      simp only[N6] at hv;cases hv;obtain⟨eU,cl,hw,ha,vI,iz⟩:=S.obj b r _ hr hg;have vJ:(getObj r.aA).run P w= .ok (.map eU cl) w:=by simp[getObj,Sem.run,hw]
      have X3: ∀o,(setObj r.aA o).run P w= .ok () { w with heap:=w.heap.setIfInBounds r.aA o } :=by intro o;simp[setObj,Sem.run,hw]
      have fH: ∀o,({ w with heap:=w.heap.setIfInBounds r.aA o } :World).heap[r.aA]? =some o:=by intro o;have:=uV hw;simp[this]
      rw[e1,em];rw[G0] at N6;rcases Z_ hT sH xn NS C3 hrz ha 0 N6 with⟨hf,hb⟩|⟨j,y',Yt,hf,VD,vc,hb⟩
      .obtain⟨S',E'⟩:=S.uL hr hg rfl (JL.obj (w:=w) r.aA (.map (eU.push { key:=(.agg ⟨m⟩),val:=a.eval z,born:=cl }) (cl+1))) (o':= .map tN) ⟨_,_,fH _,by show All2 (rP ρ) tN _;simpa using hb cl,by simp[vI],by rw[vI];exact Bb iz⟩ (h.clock+1);refine⟨_,rfl,?_,S',E'⟩;simp[Instr.mapUpdate,run_underlying j_,vJ,Ti,oq B8 hf,X3]
      .obtain⟨S',E'⟩:=S.uL hr hg rfl (JL.obj (w:=w) r.aA (.map (eU.modify j fun e=> { e with key:=(.agg ⟨m⟩),val:=a.eval z }) cl)) (o':= .map tN) ⟨_,_,fH _,by show All2 (rP ρ) tN _;simpa using hb,by simp[vI],sg (fun _=>rfl) iz⟩ (h.clock+1);refine⟨_,rfl,?_,S',E'⟩;have Rj:eU[j]? =some y':=by simpa using VD
       simp[Instr.mapUpdate,run_underlying j_,vJ,Ti,oq B8 hf,X3,Rj,Instr.keyThatStays,vc]
    |_=>simp[hg] at hv
 |_=>simp[bm,hm] at hv
theorem Yx (hT:cm P T) {kt:Nat} (sH:T kt=some ki) (hk:kinds T 9 kt=some ks) (lO:ki.agg=true) {l m:List Value} (C3:All2 (KR ρ) l m) {z cz:Value} (hz:AR ρ z cz) (ha:All2 (rP ρ) es eU):
  ∀ {v:Value} {n:Nat} {tN:List (Value×Value)} (i:Nat),wC (9::ks) z (.agg ⟨l⟩) es=some (v,n,tN)->
   ((∀w,(Instr.findAsking kt (.agg ⟨m⟩) eU i).run P w= .ok none w)/\v=z/\n=eU.length/\ ∀b,All2 (rP ρ) tN (eU++[{ key:= .agg ⟨m⟩,val:=cz,born:=b }]))\/
   ∃y,(∀w,(Instr.findAsking kt (.agg ⟨m⟩) eU i).run P w= .ok (some (i+n,y.val)) w)/\eU[n]? =some y/\Instr.sameBits 10000 y.key (.agg ⟨m⟩)=true/\AR ρ v y.val/\All2 (rP ρ) tN (eU.modify n fun e=> { e with key:= .agg ⟨m⟩ }):=by
 induction ha with
 |nil=>
  intro v n tN i h;simp only[wC] at h;split at h
  .cases h;exact .inl ⟨fun w=>by simp[Instr.findAsking],rfl,rfl,fun b=> .cons ⟨.agg C3,hz⟩ .nil⟩
  .cases h
 | @cons x y es eU Gg hs ih=>
  obtain⟨k',v'⟩:=x;obtain⟨h1,h2⟩:=Gg;intro v n tN i h;simp only[wC] at h;have step: ∀t,gE (9::ks) (.agg ⟨l⟩) k'=some t->(∀w,(Op.equal kt (.agg ⟨m⟩) y.key).run P w= .ok t w)/\(t=true->Instr.sameBits 10000 y.key (.agg ⟨m⟩)=true):=by
   intro t he;obtain⟨⟨l'⟩,rfl,IS⟩:=Nq he;obtain⟨m',e2,NT⟩:=(VR.val h1).lQ;have IX:=su C3 NT IS;refine⟨fun w=> ?_,?_⟩
   .have:=xl hT 9 kt ki 10000 ks sH hk (by omega) m m' t IX w;simp only[mT,lO,cond_true] at this;rw[e2];exact this
   .rintro rfl;rw[e2];exact L0 (zS IX) 9999
  split at h
  .rename_i he;split at h
   .cases h;exact .inr ⟨y,fun w=>by simp[Instr.findAsking,(step _ he).1],rfl,(step _ he).2 rfl,h2,.cons ⟨.agg C3,h2⟩ hs⟩
   .cases h
  .rename_i he;split at h
   .rename_i v0 n0 r' hr;cases h;rcases ih (i+1) hr with⟨hf,e1,e2,hb⟩|⟨y',hf,hy,vc,hv,hb⟩
    .exact .inl ⟨fun w=>by simp[Instr.findAsking,(step _ he).1,hf],e1,by simp[e2],fun b=> .cons ⟨h1,h2⟩ (hb b)⟩
    .refine .inr ⟨y',fun w=> ?_,by simpa using hy,vc,hv,?_⟩
     .simp[Instr.findAsking,(step _ he).1,hf];omega
     .exact .cons ⟨h1,h2⟩ hb
   .cases h
  .cases h
theorem Qa (hT:cm P T) {x y:Operand} (iD:T t=some i) (hu:i.u= .map kt el) (sH:T kt=some ki) (xn:kinds T 9 kt=some ks) (NS:ki.agg=true) (y5:(∃fs,ki.u= .struct fs)\/ ∃n el,ki.u= .array n el) (hH:T el=some ei) (hz:ei.zero=[z]) (lO:ei.agg=false)
  (S:cQ CC ρ h w) (hE:ER ρ e a.tmps) (hG:bS ng ρ) (hx:aZ ng x=true) (hy:aZ ng y=true) (hv:bm e h (.Lv (9::ks) z x y)=some (v,h')):
  Out CC ρ h w v h' (((do pure (Next.value (<-Instr.mapEntry t (a.eval x) (a.eval y)))):Sem Next).run P w):=by
 have j_:=(hT t i iD).u;rw[hu] at j_;have B8:(∃fs,P.underlying kt=some (.struct fs))\/ ∃n el,P.underlying kt=some (.array n el):=by
  have:=(hT kt ki sH).u;rcases y5 with⟨fs,e⟩|⟨n,el,e⟩
  .exact .inl ⟨fs,by rw[this,e]⟩
  .exact .inr ⟨n,el,by rw[this,e]⟩
 obtain⟨z',Fz,vK⟩:=rO (P:=P) (w:=w) (hT el ei hH);have JU:z'=z:=by
  obtain⟨ti,k1,k2,k3,zz,k4,k5⟩:=(hT el ei hH).info;have:=(hT el ei hH).one lO ti zz k1 k4;have e1:zz=z':=by
   have:(zeroValue el).run P w= .ok zz w:=by simp[zeroValue,typeInfo,k1,k4]
   rw[this] at Fz;cases Fz;rfl
  subst e1;have hc:zz.cells.toList=[zz]:=by cases zz<;>first|rfl|(simp[AI.plain] at this)
  rw[hc,hz] at vK;simpa using vK
 subst JU;have I0:bK z'=true:=by have:=(hT el ei hH).zero;rw[hz] at this;simpa using this
 have hzr:AR ρ z' z':= .cell (.cell (gu I0));have dD:=hE.eval hG hx;have ky:=hE.eval hG hy;obtain⟨l,G0,Ed⟩: ∃l,ev e y= .agg ⟨l⟩/\l.length=ks.length:=by
  cases G0:ev e y with
  |agg lk=>
   obtain⟨l⟩:=lk;refine⟨l,rfl,?_⟩;cases zn:jY (9::ks) (ev e y) with
   |false=>simp[bm,zn] at hv
   |true=>rw[G0] at zn;exact nO zn
  |_=>simp[bm,G0,jY] at hv
 have zn:jY (9::ks) (ev e y)=true:=by rw[G0];show Nat.beq l.length ks.length=true;rw[Ed];exact Nat.beq_refl _
 rw[G0] at ky;obtain⟨m,em,C3⟩:=ky.lQ;have Vi:m.length=ks.length:=by rw[<-Ed];exact(All2.C9 C3).symm
 have Ti:=fun b w=>Ep hT sH xn NS Vi b w;cases hm:ev e x with
 |map m=>
  rw[hm] at dD;cases m with
  |none=>simp[bm,hm] at hv
  |some b=>
   obtain⟨r,hr,e1⟩:=dD.xt;simp only[bm,hm,zn,cond_true] at hv;cases hg:h.tr.get b with
   |none=>simp[hg] at hv
   |some ob=>
    cases ob with
    |map es=>
     simp only[hg] at hv;rw[G0] at hv;cases N6:wC (9::ks) z' (.agg ⟨l⟩) es with
     |none=>simp[N6] at hv
     |some q=>
      obtain⟨v0,n,tN⟩:=q;simp only[N6] at hv;cases hv;obtain⟨eU,cl,hw,ha,vI,iz⟩:=S.obj b r _ hr hg;have vJ:(getObj r.aA).run P w= .ok (.map eU cl) w:=by simp[getObj,Sem.run,hw]
      have X3: ∀o,(setObj r.aA o).run P w= .ok () { w with heap:=w.heap.setIfInBounds r.aA o } :=by intro o;simp[setObj,Sem.run,hw]
      have fH: ∀o,({ w with heap:=w.heap.setIfInBounds r.aA o } :World).heap[r.aA]? =some o:=by intro o;have:=uV hw;simp[this]
      rw[e1,em];rcases Yx hT sH xn NS C3 hzr ha 0 N6 with⟨hf,rfl,hn,hb⟩|⟨y',hf,VD,vc,X5,hb⟩
      .obtain⟨S',E'⟩:=S.uL hr hg rfl (JL.obj (w:=w) r.aA (.map (eU.push { key:=(.agg ⟨m⟩),val:=v0,born:=cl }) (cl+1))) (o':= .map tN) ⟨_,_,fH _,by show All2 (rP ρ) tN _;simpa using hb cl,by simp[vI],by rw[vI];exact Bb iz⟩ (h.clock+1);have hnc:n=cl:=by rw[hn,vI];simp
       refine⟨ρ,_,.tuple #[v0,.int .i64 n],.inl (cS ?_),.tuple (.cons hzr (.cons (.cell (.cell (.int _ _))) .nil)),S',E'⟩;simp[Instr.mapEntry,run_underlying j_,vJ,Ti,oq B8 hf,X3,Fz,goInt,hnc]
      .obtain⟨S',E'⟩:=S.uL hr hg rfl (JL.obj (w:=w) r.aA (.map (eU.modify n fun e=> { e with key:=(.agg ⟨m⟩) }) cl)) (o':= .map tN) ⟨_,_,fH _,by show All2 (rP ρ) tN _;simpa using hb,by simp[vI],sg (fun _=>rfl) iz⟩ (h.clock+1);have Rj:eU[n]? =some y':=by simpa using VD
       have KP:=iz n y' Rj;refine⟨ρ,_,.tuple #[y'.val,.int .i64 n],.inl (cS ?_),.tuple (.cons X5 (.cons (.cell (.cell (.int _ _))) .nil)),S',E'⟩;simp[Instr.mapEntry,run_underlying j_,vJ,Ti,oq B8 hf,X3,Rj,Instr.keyThatStays,vc,goInt,KP]
    |_=>simp[hg] at hv
 |_=>simp[bm,hm] at hv
theorem J1 (ha:All2 (rP ρ) es eU): ∀ {i:Nat} {x:Value×Value} {v cv:Value},es[i]? =some x->AR ρ v cv->All2 (rP ρ) (es.set i (x.1,v)) (eU.modify i fun e=> { e with val:=cv }):=by
 induction ha with
 |nil=>intro i x v cv h;simp at h
 | @cons x y es eU Gg hs ih=>
  intro i x' v cv h hv;cases i with
  |zero=>simp at h;subst h;exact .cons ⟨Gg.1,hv⟩ hs
  |succ i=>exact .cons Gg (ih (by simpa using h) hv)
theorem ZE {t:TypeId} {x y z:Operand} (S:cQ CC ρ h w) (hE:ER ρ e a.tmps) (hG:bS ng ρ) (hx:aZ ng x=true) (hy:aZ ng y=true) (hz:aZ ng z=true) (hv:bm e h (.Ok x y z)=some (v,h')):
  ∃w',v= .tuple #[]/\(Instr.entryStore t (a.eval x) (a.eval y) (a.eval z)).run P w= .ok () w'/\cQ CC ρ h' w'/\Ext ρ h w ρ h' w':=by
 have dD:=hE.eval hG hx;have ky:=hE.eval hG hy;have hrz:=hE.eval hG hz;simp only[bm] at hv;split at hv
 .rename_i b hm;split at hv
  .rename_i n hn;split at hv
   .rename_i es hg;split at hv
    .rename_i q hq;split at hv
     .rename_i hp;cases hv;rw[hm] at dD;rw[hn] at ky;obtain⟨r,hr,e1⟩:=dD.xt;have e2:a.eval y= .int .i64 (n:Nat):=by have hc:=CR.qn ky rfl;generalize a.eval y=c at hc;cases hc;rfl
      obtain⟨eU,cl,hw,ha,vI,iz⟩:=S.obj b r _ hr hg;have vJ:(getObj r.aA).run P w= .ok (.map eU cl) w:=by simp[getObj,Sem.run,hw]
      have X3: ∀o,(setObj r.aA o).run P w= .ok () { w with heap:=w.heap.setIfInBounds r.aA o } :=by intro o;simp[setObj,Sem.run,hw]
      have fH: ∀o,({ w with heap:=w.heap.setIfInBounds r.aA o } :World).heap[r.aA]? =some o:=by intro o;have:=uV hw;simp[this]
      have cn:=All2.C9 ha;have To:n<eU.size:=by have h1:=(bY.mp hq).1;rw[cn] at h1;simpa using h1
      have PM:eU.findIdx? (fun e=>(e.born:Int)==(n:Int))=some n:=by
       rw[Array.findIdx?_eq_some_iff_getElem];refine⟨To,?_,fun j hj=> ?_⟩
       .have:=iz n eU[n] (Array.getElem?_eq_getElem To);simp[this]
       .have:=iz j eU[j] (Array.getElem?_eq_getElem (by omega));simp[this];omega
      obtain⟨S',E'⟩:=S.uL hr hg rfl (JL.obj (w:=w) r.aA (.map (eU.modify n fun e=> { e with val:=a.eval z }) cl)) (o':= .map (es.set n (q.1,ev e z))) ⟨_,_,fH _,by show All2 (rP ρ) _ _;simpa using J1 ha hq (.cell (KR.uB hrz hp)),by simp[vI],sg (fun _=>rfl) iz⟩ (h.clock+1);refine⟨_,rfl,?_,S',E'⟩;rw[e1,e2];simp[Instr.entryStore,vJ,asInt,asIntOf,Result.andThen,PM,X3]
     .cases hv
    .cases hv
   .cases hv
  .cases hv
 .cases hv
theorem RU (hT:cm P T) (iD:T t=some i) (hu:i.u= .map kt el) (S:cQ CC ρ h w) (hE:ER ρ e a.tmps) (hG:bS ng ρ) (hx:aZ ng x=true) (hv:bm e h (.By x)=some (v,h')):
  Out CC ρ h w v h' (((do pure (Next.value (<-Instr.range t (a.eval x)))):Sem Next).run P w):=by
 have j_:=(hT t i iD).u;rw[hu] at j_;have dD:=hE.eval hG hx;simp only[bm] at hv;split at hv
 .rename_i hm;cases hv;rw[hm] at dD;have e1:=dD.y7;obtain⟨S',E'⟩:=cQ.add (im:=⟨w.heap.size,0,0,0,0⟩) (o:= .itr) (co:= .mapIter none 0 #[] 0) S rfl ⟨rfl,A_ w _⟩;refine⟨_,_,.pointer (some ⟨w.heap.size,0,none⟩),.inl (cS ?_),(CR.ptr (o:=0) (nM _ _ _)).vr,S',E'⟩;simp[Instr.range,run_underlying j_,e1]
 .cases hv
theorem adJ {t:TypeId} (S:cQ CC ρ h w) (hE:ER ρ e a.tmps) (hG:bS ng ρ) (hx:aZ ng x=true) (hv:bm e h (.nxt x)=some (v,h')):
  Out CC ρ h w v h' (((do pure (Next.value (<-Instr.next (a.eval x) false t))):Sem Next).run P w):=by
 have dD:=hE.eval hG hx;simp only[bm] at hv;split at hv
 .rename_i b hm;split at hv
  .rename_i hg;cases hv;rw[hm] at dD;have hc:=CR.qn dD rfl;generalize hev:a.eval x=c at*;cases hc with
   | @ptr _ _ r hr=>
    obtain⟨XQ,hw⟩:=S.obj b r _ hr hg;refine Out.same S (c:= .tuple #[.bool false]) (cS ?_) (.tuple (.cons (.cell (.cell (.bool _))) .nil));have vJ:(getObj r.aA).run P w= .ok (.mapIter none 0 #[] 0) w:=by simp[getObj,Sem.run,hw]
    simp[Instr.next,XQ,vJ]
  .cases hv
 .cases hv
end
section
variable {P:Program} {CC:cj} {ρ:dY} {h h':ae} {w:World} {T:qd} {ng:Nat} {e:Env} {a:Act} {c v:Value}
theorem ZC (hT:cm P T) {t t' ty el:TypeId} {x y:Operand} (iD:T t=some i) (hu:i.u= .slice el) (hH:T el=some ei)
  (S:cQ CC ρ h w) (hE:ER ρ e a.tmps) (hG:bS ng ρ) (hx:aZ ng x=true) (hy:aZ ng y=true) (hv:bm e h (.copy ei.size x y)=some (v,h')):
  Out CC ρ h w v h' (((do pure (Next.value (<-Builtin.copy_ #[t,t'] ty #[a.eval x,a.eval y]))):Sem Next).run P w):=by
 have j_:=(hT t i iD).u;rw[hu] at j_;have p_:=(fF (w:=w) (hT _ _ hH)).1;have dD:=hE.eval hG hx;have ky:=hE.eval hG hy;simp only[bm] at hv;split at hv
 .rename_i da dn dc sa sn sc h1 h2;rw[h1] at dD;rw[h2] at ky;split at hv
  .rename_i h0;have h0:=nO h0;cases hv;obtain⟨y1,cc1,e1,_⟩:=dD.qt;obtain⟨y2,cc2,e2,_⟩:=ky.qt;rw[e1,e2];refine Out.same S (cS ?_) (VR.int _ _);cases y1<;>cases y2<;>simp[Builtin.copy_,run_underlying j_,Builtin.lenOf,h0,p_,Builtin.firstCells,loadCells,loadCellsFrom,storeCells,goInt]
  .rename_i h0;split at hv
   .rename_i db afO sb aiF;split at hv
    .rename_i cs hr;split at hv
     .rename_i BW hw;cases hv;obtain⟨r1,ca1,cc1,o7,AW,xz⟩:=dD.fw;obtain⟨r2,ca2,cc2,Ef,IQ,Tx⟩:=ky.fw;obtain⟨hl,ez,hk,Bl⟩:=AB S Ef hr;obtain⟨w',dm,S',E'⟩:=xH (P:=P) S o7 hw hk;have um:Nat.min sn dn≠0:=by intro h;rw[h] at h0;exact h0 rfl
      have hmin:Nat.min sn dn<=sn/\Nat.min sn dn<=dn:=⟨Nat.min_le_left _ _,Nat.min_le_right _ _⟩;have l1:=xz.2.2;have l2:=Tx.2.2;have c1:=xz.yW;have c2:=Tx.yW;rw[AW,IQ];have e1:=xz.addr (by omega);have e2:=Tx.addr (by omega);have hf:=run_firstCells_some (P:=P) w ei.size (Nat.min sn dn) ca2 sn cc2 ez (by rw[<-hk.length,hl]) (by rw[e2];exact Bl);refine⟨ρ,w',.int .i64 (Nat.min sn dn),.inl (cS ?_),VR.int _ _,S',E'⟩;rw[<-e1] at dm;have XW:(Builtin.firstCells ei.size (min sn dn) (.slice (some ca2) sn cc2)).run P w= .ok ez.toArray w:=hf;simp[Builtin.copy_,run_underlying j_,Builtin.lenOf,p_,XW,dm,goInt]
     .cases hv
    .cases hv
   .cases hv
 .cases hv
theorem Wj (hT:cm P T) {t ty el:TypeId} {x:Operand} (iD:T t=some i) (hu:i.u= .slice el) (hH:T el=some ei)
  (S:cQ CC ρ h w) (hE:ER ρ e a.tmps) (hG:bS ng ρ) (hx:aZ ng x=true) (hv:bm e h (.clear ei.zero x)=some (v,h')):
  Out CC ρ h w v h' (((do pure (Next.value (<-Builtin.clear_ #[t] ty #[a.eval x]))):Sem Next).run P w):=by
 have j_:=(hT t i iD).u;rw[hu] at j_;have xY:=hT _ _ hH;have dD:=hE.eval hG hx;simp only[bm] at hv;split at hv
 .rename_i sa n sc h1;rw[h1] at dD;split at hv
  .rename_i h0;have h0:=nO h0;subst h0;cases hv;obtain⟨y1,cc1,e1,_⟩:=dD.qt;rw[e1];refine Out.same S (c:=undef) (cS ?_) VR.undef;cases y1<;>simp[Builtin.clear_,run_underlying j_,undef]
  .rename_i h0;split at hv
   .rename_i b off;split at hv
    .rename_i BW hw;cases hv;obtain⟨r1,ca1,cc1,o7,AW,xz⟩:=dD.fw;have um:n≠0:=by intro h;subst h;exact h0 rfl
     have l1:=xz.2.2;have c1:=xz.yW;have e1:=xz.addr (by omega);obtain⟨ti,k1,k2,k3,z,k4,k5⟩:=xY.info;have JU:(zeroValue el).run P w= .ok z w:=by simp[zeroValue,typeInfo,k1,k4]
     have hk:=dJ (ρ:=ρ) (iC xY.zero n);obtain⟨w',dm,S',E'⟩:=xH (P:=P) S o7 hw hk;rw[AW];refine⟨ρ,w',undef,.inl (cS ?_),VR.undef,S',E'⟩;rw[<-e1] at dm;have I0:(Builtin.zeroCells z.cells n).toList=jW ei.zero n:=by
      by_cases VE:0<ei.zero.length
      .rw[xD (.inl VE)];have:z.cells=⟨ei.zero⟩:=by apply Array.ext';simpa using k5
       simp[Builtin.zeroCells,this]
      .have hzn:ei.zero=[]:=KF (by omega);have:z.cells=⟨[]⟩:=by apply Array.ext';rw[k5,hzn]
       rw[hzn];have Vu:jW [] n=[]:=KF (by rw[oM];simp);rw[Vu];simp[Builtin.zeroCells,this]
     have amY:(Builtin.clear_ #[t] ty #[.slice (some ca1) n cc1]).run P w= .ok undef w':=by unfold Builtin.clear_;simp only[Sem.run_bind];simp[run_underlying j_,JU,I0,dm,undef]
     exact amY
    .cases hv
   .cases hv
 .cases hv
theorem Wn (S:cQ CC ρ h w):Out CC ρ h w (.map (some h.next)) (h.new (.map [])) (((do pure (Next.value (<-Instr.makeMap t none))):Sem Next).run P w):=by obtain⟨S',E'⟩:=cQ.add (im:=⟨w.heap.size,0,0,0,0⟩) (o:= .map []) (co:= .map #[] 0) S rfl ⟨#[],0,A_ w _,.nil,rfl,fun i y h=>by simp at h⟩;exact⟨_,_,.map (some w.heap.size),.inl (cS (by simp[Instr.makeMap])),(CR.map (nM _ _ _)).vr,S',E'⟩
theorem LA (hT:cm P T) (S:cQ CC ρ h w) (hE:ER ρ e a.tmps) (hG:bS ng ρ) (o:Oper) (cN:o.op.operands.toList.all (aZ ng)=true) (hv:bm e h (bQ T o.op)=some (v,h')):
  Out CC ρ h w v h' ((execOp a.eval o).run P w):=by
 obtain⟨dst,op,ty,pos,aft,gd⟩:=o;dsimp only at cN hv;cases op with
 |move x=>
  simp only[bQ,bm,kl,wI] at hv;obtain⟨rfl,rfl⟩:=hv;exact Out.same S rfl (hE.eval hG (by simpa [Op.operands] using cN))
 |assign x=>
  simp only[bQ,bm,kl,wI] at hv;obtain⟨rfl,rfl⟩:=hv;exact Out.same S rfl (hE.eval hG (by simpa [Op.operands] using cN))
 |pick x y z=>
  simp[Op.operands] at cN;exact ZH S hE hG cN.1 cN.2.1 cN.2.2 hv
 |alloc t=>
  simp only[bQ] at hv;split at hv
  .rename_i i hi;simp only[bm,kl,wI] at hv;obtain⟨rfl,rfl⟩:=hv;exact Wi S (hT t i hi)
  .simp[bm] at hv
 |box t x=>
  simp[Op.operands] at cN;simp only[bQ] at hv;split at hv
  .simp only[bm] at hv;split at hv
   .rename_i vs hf;cases hv;exact adE S (hE.eval hG cN) hf
   .cases hv
  .simp[bm] at hv
 |build t ps=>
  have Rg:(ps.toList.map (·.2)).all (aZ ng)=true:=by simpa [Op.operands] using cN
  simp only[bQ] at hv;split at hv
  .rename_i i hi;split at hv
   .rename_i fs hu;cases mM:fs.toList.all fun f=>(T f.type).isSome with
    |false=>simp[mM,bm] at hv
    |true=>
     simp only[mM,cond_true] at hv;split at hv
     .rename_i qs hq;exact CU hT hi hu mM hq S hE hG Rg hv
     .simp[bm] at hv
   .rename_i n el hu;split at hv
    .rename_i ei hH;exact EH hT hi hu hH S hE hG Rg hv
    .simp[bm] at hv
   .simp[bm] at hv
  .simp[bm] at hv
 |buildSlice t n ps=>
  have Rg:(ps.toList.map (·.2)).all (aZ ng)=true:=by simpa [Op.operands] using cN
  simp only[bQ] at hv;split at hv
  .rename_i i hi;split at hv
   .rename_i el hu;split at hv
    .rename_i ei hH;cases hc:Nat.ble (n*ei.size) 1000000&&Nat.beq ei.zero.length ei.size with
     |false=>simp[hc,bm] at hv
     |true=>
      simp only[hc,cond_true] at hv;simp only[uf] at hc;exact RS hT hi hu hH (Mw hc.1) S hE hG Rg hv
    .simp[bm] at hv
   .simp[bm] at hv
  .simp[bm] at hv
 |load t x=>
  simp[Op.operands] at cN;simp only[bQ] at hv;split at hv
  .rename_i i hi;exact Wm hT hi S hE hG cN hv
  .simp[bm] at hv
 |store t x y=>
  simp[Op.operands] at cN;simp only[bQ] at hv;split at hv
  .rename_i i hi;exact RV hT hi S hE hG cN.1 cN.2 hv
  .simp[bm] at hv
 |nilCheck x=>
  simp[Op.operands] at cN;exact RT S hE hG cN hv
 |binOp bo t x y yt=>
  simp[Op.operands] at cN;by_cases KP:bo= .eql\/bo= .neq
  .have XS: ∃ks i,bQ T (.binOp bo t x y yt)= .bin bo ks x y/\T t=some i/\Dn T t i.u ks:=by
    have am9:bQ T (.binOp bo t x y yt)=(match T t with
      |some i=>match i.u with
       | .slice _=> .bin bo [3] x y
       | .pointer _=> .bin bo [4] x y
       | .map _ _=> .bin bo [5] x y
       | .func _ _ _=> .bin bo [6] x y
       | .struct _=>match kinds T 9 t with|some ks=> .bin bo (9::ks) x y|none=> .bad
       | .array _ _=>match kinds T 9 t with|some ks=> .bin bo (9::ks) x y|none=> .bad
       | .bool=> .bin bo [0] x y
       | .int _=> .bin bo [1] x y
       | .string=> .bin bo [2] x y
       |_=> .bad
      |none=> .bad):=by
     rcases KP with rfl|rfl<;>rfl
    rw[am9] at hv ⊢;split at hv
    .rename_i i hi;simp only[hi];split at hv
     .rename_i hu;exact⟨[3],i,rfl,rfl,.inl ⟨_,hu,rfl⟩⟩
     .rename_i hu;exact⟨[4],i,rfl,rfl,.inr (.inl ⟨_,hu,rfl⟩)⟩
     .rename_i hu;exact⟨[5],i,rfl,rfl,.inr (.inr (.inl ⟨_,_,hu,rfl⟩))⟩
     .rename_i hu;exact⟨[6],i,rfl,rfl,.inr (.inr (.inr (.inl ⟨_,_,_,hu,rfl⟩)))⟩
     .rename_i hu;split at hv
      .rename_i ks Rd;exact⟨9::ks,i,rfl,rfl,.inr (.inr (.inr (.inr (.inl ⟨(),_,by rw[hu];rfl,Rd,rfl⟩))))⟩
      .simp[bm] at hv
     .rename_i hu;split at hv
      .rename_i ks Rd;exact⟨9::ks,i,rfl,rfl,.inr (.inr (.inr (.inr (.inl ⟨(),_,by rw[hu];rfl,Rd,rfl⟩))))⟩
      .simp[bm] at hv
     .rename_i hu;exact⟨[0],i,rfl,rfl,.inr (.inr (.inr (.inr (.inr (.inl ⟨hu,rfl⟩)))))⟩
     .rename_i hu;exact⟨[1],i,rfl,rfl,.inr (.inr (.inr (.inr (.inr (.inr (.inl ⟨_,hu,rfl⟩))))))⟩
     .rename_i hu;exact⟨[2],i,rfl,rfl,.inr (.inr (.inr (.inr (.inr (.inr (.inr ⟨hu,rfl⟩))))))⟩
     .simp[bm] at hv
    .simp[bm] at hv
   obtain⟨ks,i,XS,iD,NS⟩:=XS;rw[XS] at hv;exact RR hT S hE hG cN.1 cN.2 KP iD NS hv
  .have XS:bQ T (.binOp bo t x y yt)= .bin bo [] x y:=by cases bo<;>first|rfl|(exact absurd (.inl rfl) KP)|(exact absurd (.inr rfl) KP)
   rw[XS] at hv;exact Ou S hE hG cN.1 cN.2 ⟨fun h=>KP (.inl h),fun h=>KP (.inr h)⟩ hv
 |unOp uo t x=>
  simp[Op.operands] at cN;exact aif S hE hG cN hv
 |convert s d x=>
  simp[Op.operands] at cN;simp only[bQ] at hv;split at hv
  .rename_i i j hi hj;split at hv
   .rename_i h1 h2;exact ZB hT hi hj h1 h2 S hE hG cN hv
   .simp[bm] at hv
  .simp[bm] at hv
 |makeFunc fn first caps=>
  cases fn with
  |func f=>
   simp only[bQ] at hv;cases hf:first.isEmpty with
   |false=>simp[hf,bm] at hv
   |true=>
    simp only[hf,cond_true] at hv;have Rg:caps.toList.all (aZ ng)=true:=by
     have hf0:first= #[]:=by simpa using hf
     subst hf0;simpa [Op.operands] using cN
    exact ZF S hE hG hf Rg hv
  |_=>simp[bQ,bm] at hv
 |makeMap t r=>
  cases r with
  |some r=>simp[bQ,bm] at hv
  |none=>
   simp only[bQ,bm,kl,wI] at hv;obtain⟨rfl,rfl⟩:=hv;exact Wn S
 |makeSlice t l c=>
  simp[Op.operands] at cN;simp only[bQ] at hv;split at hv
  .rename_i i hi;split at hv
   .rename_i el hu;split at hv
    .rename_i ei hH;exact Ov hT hi hu hH S hE hG cN.1 cN.2 hv
    .simp[bm] at hv
   .simp[bm] at hv
  .simp[bm] at hv
 |slice t x lo hi mx=>
  simp only[bQ] at hv;split at hv
  .rename_i i C2;split at hv
   .rename_i el hu;split at hv
    .rename_i ei hH;cases hc:mx.isSome&&hi.isNone with
     |true=>simp[hc,bm] at hv
     |false=>
      simp only[hc,cond_false] at hv;have jB:aZ ng x=true/\lo.toList.all (aZ ng)=true/\hi.toList.all (aZ ng)=true/\mx.toList.all (aZ ng)=true:=by simp[Op.operands] at cN;refine⟨cN.1,?_⟩;cases lo<;>cases hi<;>cases mx<;>simp_all
      exact Wo hT C2 hu hH hc S hE hG jB.1 jB.2.1 jB.2.2.1 jB.2.2.2 hv
    .simp[bm] at hv
   .simp[bm] at hv
  .simp[bm] at hv
 |fieldAddr t x k=>
  simp[Op.operands] at cN;simp only[bQ] at hv;split at hv
  .rename_i i hi;split at hv
   .rename_i fs hu;split at hv
    .rename_i f hf;split at hv
     .rename_i fi PM;cases hz:Nat.beq fi.size 0 with
      |true=>simp[hz,bm] at hv
      |false=>
       simp only[hz,cond_false] at hv;exact Wk hT hi hu hf PM (by intro h;rw[h] at hz;cases hz) S hE hG cN hv
     .simp[bm] at hv
    .simp[bm] at hv
   .simp[bm] at hv
  .simp[bm] at hv
 |indexAddr t x y=>
  simp[Op.operands] at cN;simp only[bQ] at hv;split at hv
  .rename_i i hi;split at hv
   .rename_i el hu;split at hv
    .rename_i ei hH;exact EJ hT hi hu hH S hE hG cN.1 cN.2 hv
    .simp[bm] at hv
   .rename_i n el hu;split at hv
    .rename_i ei hH;exact EI hT hi hu hH S hE hG cN.1 cN.2 hv
    .simp[bm] at hv
   .simp[bm] at hv
  .simp[bm] at hv
 |field t x k=>
  simp[Op.operands] at cN;simp only[bQ] at hv;split at hv
  .rename_i i hi;split at hv
   .rename_i fs hu;split at hv
    .rename_i f hf;split at hv
     .rename_i fi PM;exact Wl hT hi hu hf PM S hE hG cN hv
     .simp[bm] at hv
    .simp[bm] at hv
   .simp[bm] at hv
  .simp[bm] at hv
 |index t x y=>
  simp[Op.operands] at cN;simp only[bQ] at hv;split at hv
  .rename_i i hi;split at hv
   .rename_i hu;exact Jf hT hi hu S hE hG cN.1 cN.2 hv
   .rename_i n el hu;split at hv
    .rename_i ei hH;exact Je hT hi hu hH S hE hG cN.1 cN.2 hv
    .simp[bm] at hv
   .simp[bm] at hv
  .simp[bm] at hv
 |extract x i=>
  simp[Op.operands] at cN;exact adG S hE hG cN hv
 |lookup t x y ok=>
  simp[Op.operands] at cN;simp only[bQ] at hv;split at hv
  .rename_i i hi;split at hv
   .rename_i kt el hu;split at hv
    .rename_i ki ei sH hH;split at hv
     .rename_i kk z y5 hz lO;exact ZD hT hi hu sH y5 hH hz lO S hE hG cN.1 cN.2 hv
     .rename_i fs z y5 hz lO;split at hv
      .rename_i ks xn;exact Ly hT hi hu sH xn (by rw[(hT kt ki sH).agg,y5];rfl) (.inl ⟨_,y5⟩) hH hz lO S hE hG cN.1 cN.2 hv
      .simp[bm] at hv
     .rename_i n GM z y5 hz lO;split at hv
      .rename_i ks xn;exact Ly hT hi hu sH xn (by rw[(hT kt ki sH).agg,y5];rfl) (.inr ⟨_,_,y5⟩) hH hz lO S hE hG cN.1 cN.2 hv
      .simp[bm] at hv
     .simp[bm] at hv
    .simp[bm] at hv
   .simp[bm] at hv
  .simp[bm] at hv
 |mapUpdate t x y z=>
  simp[Op.operands] at cN;simp only[bQ] at hv;split at hv
  .rename_i i hi;split at hv
   .rename_i kt el hu;split at hv
    .rename_i ki sH;split at hv
     .rename_i kk y5;obtain⟨w',rfl,hr,S',E'⟩:=ZG hT hi hu sH y5 S hE hG cN.1 cN.2.1 cN.2.2 hv;refine⟨ρ,w',undef,.inr ⟨rfl,?_⟩,VR.undef,S',E'⟩;show((do Instr.mapUpdate t (a.eval x) (a.eval y) (a.eval z);pure Next.skip):Sem Next).run P w=_;simp[hr]
     .rename_i fs y5;split at hv
      .rename_i ks xn;obtain⟨w',rfl,hr,S',E'⟩:=Lz hT hi hu sH xn (by rw[(hT kt ki sH).agg,y5];rfl) (.inl ⟨_,y5⟩) S hE hG cN.1 cN.2.1 cN.2.2 hv;refine⟨ρ,w',undef,.inr ⟨rfl,?_⟩,VR.undef,S',E'⟩;show((do Instr.mapUpdate t (a.eval x) (a.eval y) (a.eval z);pure Next.skip):Sem Next).run P w=_;simp[hr]
      .simp[bm] at hv
     .rename_i n GM y5;split at hv
      .rename_i ks xn;obtain⟨w',rfl,hr,S',E'⟩:=Lz hT hi hu sH xn (by rw[(hT kt ki sH).agg,y5];rfl) (.inr ⟨_,_,y5⟩) S hE hG cN.1 cN.2.1 cN.2.2 hv;refine⟨ρ,w',undef,.inr ⟨rfl,?_⟩,VR.undef,S',E'⟩;show((do Instr.mapUpdate t (a.eval x) (a.eval y) (a.eval z);pure Next.skip):Sem Next).run P w=_;simp[hr]
      .simp[bm] at hv
     .simp[bm] at hv
    .simp[bm] at hv
   .simp[bm] at hv
  .simp[bm] at hv
 |mapEntry t x y=>
  simp[Op.operands] at cN;simp only[bQ] at hv;split at hv
  .rename_i i hi;split at hv
   .rename_i kt el hu;split at hv
    .rename_i ki ei sH hH;split at hv
     .rename_i fs z y5 hz lO;split at hv
      .rename_i ks xn;exact Qa hT hi hu sH xn (by rw[(hT kt ki sH).agg,y5];rfl) (.inl ⟨_,y5⟩) hH hz lO S hE hG cN.1 cN.2 hv
      .simp[bm] at hv
     .rename_i n GM z y5 hz lO;split at hv
      .rename_i ks xn;exact Qa hT hi hu sH xn (by rw[(hT kt ki sH).agg,y5];rfl) (.inr ⟨_,_,y5⟩) hH hz lO S hE hG cN.1 cN.2 hv
      .simp[bm] at hv
     .simp[bm] at hv
    .simp[bm] at hv
   .simp[bm] at hv
  .simp[bm] at hv
 |entryStore t x y z=>
  simp[Op.operands] at cN;simp only[bQ] at hv;obtain⟨w',rfl,hr,S',E'⟩:=ZE (P:=P) (t:=t) S hE hG cN.1 cN.2.1 cN.2.2 hv;refine⟨ρ,w',undef,.inr ⟨rfl,?_⟩,VR.undef,S',E'⟩;show((do Instr.entryStore t (a.eval x) (a.eval y) (a.eval z);pure Next.skip):Sem Next).run P w=_;simp[hr]
 |range t x=>
  simp[Op.operands] at cN;simp only[bQ] at hv;split at hv
  .rename_i i hi;split at hv
   .rename_i kt el hu;exact RU hT hi hu S hE hG cN hv
   .simp[bm] at hv
  .simp[bm] at hv
 |next x s=>
  simp[Op.operands] at cN;simp only[bQ] at hv;cases s with
  |true=>simp[bm] at hv
  |false=>exact adJ S hE hG cN hv
 |call c=>
  obtain⟨cal,args,ats⟩:=c;have dm: ∀b,cal= .builtin b-> ∃cs,((execOp a.eval { dst:=dst,op:= .call { callee:=cal,args:=args,argTypes:=ats },type:=ty,pos:=pos,after:=aft,guard:=gd }).run P w)=(builtin b ats ty cs (args.map a.eval)).run P w:=by rintro b rfl;exact⟨_,rfl⟩
  have Q5: ∀ {l:List Operand},args.toList=l->args.map a.eval=(l.map a.eval).toArray:=by intro l hl;apply Array.ext';simp[<-hl]
  have U3: ∀ {l:List TypeId},ats.toList=l->ats=l.toArray:=by intro l hl;apply Array.ext';simp[<-hl]
  have jB:args.toList.all (aZ ng)=true:=by cases cal<;>simp[Op.operands,Call.operands] at cN<;>simp<;>first|exact cN|exact cN.2
  simp only[bQ,xk] at hv;split at hv
  .simp[bm] at hv
  .
   obtain⟨cs,hr⟩:=dm _ rfl;rw[hr];split at hv
   .rename_i x t hx ht;rw[Q5 hx,U3 ht];rw[hx] at jB;simp at jB;split at hv
    .rename_i i hi;split at hv
     .rename_i el hu;exact adH hT hi hu S hE hG jB hv
     .rename_i hu;exact ZI hT hi hu S hE hG jB hv
     .simp[bm] at hv
    .simp[bm] at hv
   .simp[bm] at hv
  .
   obtain⟨cs,hr⟩:=dm _ rfl;rw[hr];split at hv
   .rename_i x y t t' hx ht;rw[Q5 hx,U3 ht];rw[hx] at jB;simp at jB;split at hv
    .rename_i i i' hi C2;split at hv
     .rename_i el hu;split at hv
      .rename_i ei hH;split at hv
       .rename_i k hk;exact Hu hT hi hu hH C2 (by simpa using⟨k,hk⟩) S hE hG jB.1 jB.2 hv
       .rename_i k hk;exact Hu hT hi hu hH C2 (by simpa using⟨k,hk⟩) S hE hG jB.1 jB.2 hv
       .simp[bm] at hv
      .simp[bm] at hv
     .simp[bm] at hv
    .simp[bm] at hv
   .simp[bm] at hv
  .
   obtain⟨cs,hr⟩:=dm _ rfl;rw[hr];split at hv
   .rename_i x y t t' hx ht;rw[Q5 hx,U3 ht];rw[hx] at jB;simp at jB;split at hv
    .rename_i i hi;split at hv
     .rename_i el hu;split at hv
      .rename_i ei hH;exact ZC hT hi hu hH S hE hG jB.1 jB.2 hv
      .simp[bm] at hv
     .simp[bm] at hv
    .simp[bm] at hv
   .simp[bm] at hv
  .
   obtain⟨cs,hr⟩:=dm _ rfl;rw[hr];split at hv
   .rename_i x t hx ht;rw[Q5 hx,U3 ht];rw[hx] at jB;simp at jB;split at hv
    .rename_i i hi;split at hv
     .rename_i el hu;split at hv
      .rename_i ei hH;exact Wj hT hi hu hH S hE hG jB hv
      .simp[bm] at hv
     .simp[bm] at hv
    .simp[bm] at hv
   .simp[bm] at hv
  .
   obtain⟨cs,hr⟩:=dm _ rfl;rw[hr];split at hv
   .rename_i x t hx ht;rw[Q5 hx,U3 ht];rw[hx] at jB;simp at jB;split at hv
    .rename_i i hi;split at hv
     .rename_i el hu;exact adF hT hi hu S hE hG jB hv
     .simp[bm] at hv
    .simp[bm] at hv
   .simp[bm] at hv
  .
   obtain⟨cs,hr⟩:=dm _ rfl;rw[hr];split at hv
   .rename_i x y hx;rw[Q5 hx];rw[hx] at jB;simp at jB;exact adI S hE hG jB.1 jB.2 hv
   .simp[bm] at hv
  .simp[bm] at hv
 |_=>simp[bQ,bm] at hv
end
section
variable {P:Program} {b:Frame} {a:Act} {k:List Item} {c:Frame} {cs:List Frame} {w:World}
theorem aiD (hr:b.roundOf=none):step P (lone (on b a (.code .ret::k)) cs w)= .next (lone { on b a (.code .ret::k) with mode:= .returning } cs w):=
 step_lone_go (by simp[stepG,stepG.exec,on,hr])
theorem aiC (hr:b.roundOf=none):step P (lone (on b a []) cs w)= .next (lone { on b a [] with mode:= .returning } cs w):=
 step_lone_go (by simp[stepG,stepG.exec,on,hr])
theorem IE {x:Option (List Deferred)} (hh:w.heap[r]? =some (.deferred x)):(getObj r).run P w= .ok (.deferred x) w:=by simp only[getObj,Sem.run,hh]
theorem JB {x:Option (List Deferred)} (o:Obj) (hh:w.heap[r]? =some (.deferred x)):(setObj r o).run P w= .ok () { w with heap:=w.heap.setIfInBounds r o } :=by simp only[setObj,Sem.run,hh]
theorem UJ (hh:w.heap[r]? =some (.loop L)):(getObj r).run P w= .ok (.loop L) w:=by simp only[getObj,Sem.run,hh]
theorem Fi (o:Obj) (hh:w.heap[r]? =some (.loop L)):(setObj r o).run P w= .ok () { w with heap:=w.heap.setIfInBounds r o } :=by simp only[setObj,Sem.run,hh]
theorem sy (hh:w.heap[r]? =some (.loop L)):(Instr.getLoop r).run P w= .ok L w:=by simp only[Instr.getLoop,Sem.run_bind,UJ hh,Result.andThen_ok,Sem.run_pure]
theorem LX {fr:Frame} {ds:List Deferred} (hm:fr.mode= .returning) (hd:fr.defers= { target:= .collected r,args:= #[] } ::ds) (hh:w.heap[r]? =some (.deferred (some []))):
  step P (lone fr cs w)= .next (lone { fr with defers:=ds } cs { w with heap:=w.heap.setIfInBounds r (.deferred none) }):=by
 refine step_lone_go ?_;have h1:(Instr.takeDeferred r).run P w= .ok [] { w with heap:=w.heap.setIfInBounds r (.deferred none) } :=by simp only[Instr.takeDeferred,Sem.run_bind,IE hh,JB _ hh,Result.andThen_ok,Sem.run_pure]
 simp[stepG,hm,unwind,hd,h1]
theorem Js (hr:b.roundOf=some l) (hh:w.heap[l]? =some (.loop L)) (hs:L.state= .ready):
  step P (lone (on b a (.beginRound::k)) cs w)= .next (lone (on b a k) cs { w with heap:=w.heap.setIfInBounds l (.loop { L with state:= .busy }) }):=by
 refine step_lone_go ?_;have h1:(Instr.beginRound l).run P w= .ok () { w with heap:=w.heap.setIfInBounds l (.loop { L with state:= .busy }) } :=by simp only[Instr.beginRound,Sem.run_bind,sy hh,Fi _ hh,Result.andThen_ok,hs,Sem.run_pure]
 simp[stepG,stepG.exec,stepG.apply,on,hr,h1,Frame.finish]
theorem uZ (Zm:Option Code) (hh:w.heap[l]? =some (.loop L)):
  (Instr.endRound l Zm).run P w= .ok (.bool Zm.isNone) { w with heap:=w.heap.setIfInBounds l (.loop { L with state:=if Zm.isNone then .ready else .done,pending:=Zm }) } :=by
 simp only[Instr.endRound,Sem.run_bind,sy hh,Fi _ hh,Result.andThen_ok,Sem.run_pure]
theorem LY (hr:b.roundOf=some l) (hk:b.kind= .normal) (hh:w.heap[l]? =some (.loop L)):
  step P (lone (on b a []) (c::cs) w)= .next (lone (c.finish (.bool true)) cs { w with heap:=w.heap.setIfInBounds l (.loop { L with state:= .ready,pending:=none }) }):=by
 refine step_lone_go ?_;have h1:=uZ (P:=P) none hh;simp[stepG,stepG.exec,on,hr,h1,doReturn,hk]
theorem LZ (hr:b.roundOf=some l) (hk:b.kind= .normal) (hh:w.heap[l]? =some (.loop L)):
  step P (lone (on b a (.code .ret::k)) (c::cs) w)= .next (lone (c.finish (.bool false)) cs { w with heap:=w.heap.setIfInBounds l (.loop { L with state:= .done,pending:=some .ret }) }):=by
 refine step_lone_go ?_;have h1:=uZ (P:=P) (some .ret) hh;simp[stepG,stepG.exec,on,hr,h1,doReturn,hk]
theorem Ju {l id:Nat} (hr:b.roundOf=some l) (hk:b.kind= .normal) (hh:w.heap[l]? =some (.loop L)) (he:exitTo id k=none):
  step P (lone (on b a (.code (.exit id)::k)) (c::cs) w)= .next (lone (c.finish (.bool false)) cs { w with heap:=w.heap.setIfInBounds l (.loop { L with state:= .done,pending:=some (.exit id) }) }):=by
 refine step_lone_go ?_;have h1:=uZ (P:=P) (some (.exit id)) hh;simp[stepG,stepG.exec,on,hr,h1,doReturn,hk,he]
theorem aiE {f:Operand} {ps:Array Tmp} {asg body:Code} {g:FuncId} {args:Array Value} {w':World} (hr:b.roundOf=none)
  (dm:(do let d<-resolve a.eval { callee:= .value f,args:= #[.const (.func (.yield (w.heap.size+1)) #[] #[])],argTypes:= #[] } 0;invoke d.target d.args).run P
   { w with heap:=(w.heap.push (.deferred (some []))).push (.loop { state:= .ready,pending:=none,fn:=b.fn,tmps:=a.tmps,params:=ps,assign:=asg,body:=body,defers:=w.heap.size }) } = .ok (.enter g args) w'):
  step P (lone (on b a (.code (.rangeFunc f ps asg body)::k)) cs w)=
   .next (lone (Frame.enter P g args .normal) (on b { a with defers:= { target:= .collected w.heap.size,args:= #[] } ::a.defers } (.inRangeFunc (w.heap.size+1)::k)::cs) w'):=by
 refine step_lone_go ?_;have h1:(Instr.enterLoop b.fn a.tmps ps asg body none).run P w= .ok (w.heap.size+1,[{ target:= .collected w.heap.size,args:= #[] }])
   { w with heap:=(w.heap.push (.deferred (some []))).push (.loop { state:= .ready,pending:=none,fn:=b.fn,tmps:=a.tmps,params:=ps,assign:=asg,body:=body,defers:=w.heap.size }) } :=by
  simp only[Instr.enterLoop,Sem.run_bind,run_newObj,Result.andThen_ok,Sem.run_pure,Array.size_push]
 have he: ∀(t:List Item) (ds:List Deferred),({ fn:=b.fn,tmps:=a.tmps,todo:=t,defers:=ds,mode:= .run,kind:=b.kind,roundOf:=b.roundOf } :Frame).eval=a.eval:=by intro t ds;funext x;cases x<;>rfl
 rw[hr] at he;simp only[stepG,stepG.exec,on,hr,Sem.runT_eq,h1,GStep.bare_after];simp only[List.cons_append,List.nil_append,he];simp[stepG.apply,dm]
theorem W_ (hh:w.heap[l]? =some (.loop L)) (hs:(L.state== .busy)=false):
  step P (lone (on b a (.endRangeFunc l::k)) cs w)= .next (lone (on b a ((L.pending.map Item.code).toList++k)) cs { w with heap:=w.heap.setIfInBounds l (.loop { L with state:= .exhausted }) }):=by
 refine step_lone_go ?_;have h1:(Instr.endLoop l).run P w= .ok L.pending { w with heap:=w.heap.setIfInBounds l (.loop { L with state:= .exhausted }) } :=by simp only[Instr.endLoop,Sem.run_bind,sy hh,Result.andThen_ok,hs,PG,if_false,Fi _ hh,Sem.run_pure]
 simp[stepG,stepG.exec,on,h1]
theorem Kk {ρ:Operand->Value} {args:Array Operand} {ats:Array TypeId} {ty:TypeId} {g:FuncId} {first caps:Array Value} {fn:Func} (hf:ρ f= .func (.func g) first caps)
  (PO:P.funcs[g]? =some fn) (hb:fn.body.isSome=true) (hn:(fn.name== "runtime.NumGoroutine")=false):
  (do let d<-resolve ρ { callee:= .value f,args:=args,argTypes:=ats } ty;invoke d.target d.args).run P w= .ok (.enter g (first++args.map ρ++caps)) w:=by
 have iy: ¬(fn.body=none):=by intro h;rw[h] at hb;cases hb
 have KY: ¬(fn.name= "runtime.NumGoroutine"):=by simpa using hn
 simp[resolve,hf,Deferred.ofValue,invoke,callFunc,PO,KY,iy]
theorem S_ {ρ:Operand->Value} {args:Array Operand} {ats:Array TypeId} {ty:TypeId} {L:Loop} (hf:ρ f= .func (.yield l) #[] #[])
  (hh:w.heap[l]? =some (.loop L)) (hs:args.size=L.params.size):
  (do let d<-resolve ρ { callee:= .value f,args:=args,argTypes:=ats } ty;invoke d.target d.args).run P w=
   .ok (.round l L.fn ((L.params.zip (args.map ρ)).foldl (fun tmps (t,a)=>tmps.setIfInBounds t a) L.tmps) L.assign L.body) w:=by
 simp[resolve,hf,Deferred.ofValue,invoke,Instr.yield,sy hh,hs]
end
abbrev tV:=Nat->List Oper->List (bl×List Nat)
def yX (T:qd):ResultVar->Option Dk
 | .tmp t=>some (.tmp t)
 | .cell a t=>match T t with
  |some i=>some (.cell a (xI i))
  |none=>none
section
variable (P:Program) (T:qd) (ng:Nat) (dr:tV) (F:Nat->Option bZ)
def fS:cj:=fun k ac c=> ∃n,n<=k/\ac=bV T ng n dr c/\jf c=true
def abp (f:Nat) (args:List Value) (h:ae) (v:Value) (h':ae):Prop:=
 ∀(cw:List Value) (ρ:dY) (w:World),cQ (fS T ng dr) ρ h w->bS ng ρ->All2 (VR ρ) args cw-> ∀cs:List Frame,
  ∃fn ρ' w' c fr,P.funcs[f]? =some fn/\fn.body.isSome=true/\(fn.name== "runtime.NumGoroutine")=false/\
   Steps P (lone (Frame.enter P f ⟨cw⟩ .normal) cs w) (lone fr cs w')/\fr.fn=f/\fr.leaving P w' (.returned c)/\VR ρ' v c/\cQ (fS T ng dr) ρ' h' w'/\Ext ρ h w ρ' h' w'
def TX (f:Nat) (p:List Value->ae->Option (Value×ae)):Prop:= ∀args h v h',p args h=some (v,h')->abp P T ng dr f args h v h'
def Pm (f:Nat):Prop:= ∃fn t el i ei,P.funcs[f]? =some fn/\fn.body.isNone=true/\(fn.name== "runtime.NumGoroutine")=false/\Extern.findNext fn=none/\
 Extern.find fn=some (Extern.SlicesOverlaps.overlaps fn.params fn.resultTypes)/\fn.params[0]? =some t/\T t=some i/\i.u= .slice el/\T el=some ei
def Fu:Prop:= ∀f af,F f=some af->match af.Bv with
 | .no=> ∃fn c,P.funcs[f]? =some fn/\fn.body=some c/\(fn.name== "runtime.NumGoroutine")=false/\
  All2 (fun r ar=>yX T r=some ar) fn.results.toList af.res/\af.body=bV T ng fn.ntmps dr c
 | .run p _=>TX P T ng dr f p
 | .Oy=>Pm P T f
end
def JX (ρ:dY) (h:ae) (k:Nat):Prop:= ∀x r o,ρ x=some r->h.tr.get x=some o->r.aA≠k
def mark (r:Nat):Deferred:= { target:= .collected r,args:= #[] }
def zt (B:Nat) (ρ:dY) (h:ae) (w:World) (ds:List Deferred):Prop:=
 ∃rs:List Nat,ds=rs.map mark/\rs.Nodup/\ ∀r∈rs,B<=r/\w.heap[r]? =some (.deferred (some []))/\JX ρ h r
theorem JX.ext {ρ ρ':dY} {w w':World} {k:Nat} (hf:JX ρ h k) (E:Ext ρ h w ρ' h' w') (hk:k<w.heap.size):JX ρ' h' k:=by
 intro x r o hx ho e;rcases E.live x r o hx ho with h1|⟨b,r0,o0,h1,h2,h3⟩
 .omega
 .exact hf b r0 o0 h1 h2 (h3.trans e)
theorem zt.ext {B:Nat} {ρ ρ':dY} {h h':ae} {w w':World} {ds:List Deferred} (hd:zt B ρ h w ds) (E:Ext ρ h w ρ' h' w'):zt B ρ' h' w' ds:=by obtain⟨rs,h1,h2,h3⟩:=hd;refine⟨rs,h1,h2,fun r hr=> ?_⟩;obtain⟨h4,h5,h6⟩:=h3 r hr;have ef:=uV h5;refine⟨h4,?_,h6.ext E ef⟩;rw[E.tD r ef,h5];rintro x rx hx ⟨o,ho,_⟩;exact h6 x rx o hx ho
def FC (P:Program) (b:Frame) (k:List Item) (cs:List Frame) (m:Machine):aP->Act->World->Prop
 | .normal,a,w=>Steps P m (lone (on b a k) cs w)
 | .exit id,a,w=> ∃k',Steps P m (lone (on b a (.code (.exit id)::k')) cs w)/\exitTo id k'=exitTo id k
 | .ret,a,w=> ∃k',Steps P m (lone (on b a (.code .ret::k')) cs w)
theorem FC.of_steps {P:Program} {b:Frame} {k:List Item} {cs:List Frame} {m m':Machine} {x:aP} (h:Steps P m m') (g:FC P b k cs m' x a w):FC P b k cs m x a w:=by
 cases x with
 |normal=>exact Steps.trans h g
 |exit id=>obtain⟨k',h1,h2⟩:=g;exact⟨k',h.trans h1,h2⟩
 |ret=>obtain⟨k',h1⟩:=g;exact⟨k',h.trans h1⟩
section
variable {P:Program} {T:qd} {ng:Nat} {dr:tV} {F:Nat->Option bZ} {ih:ak->Env->ae->R}
structure x5 (CC:cj) (B:Nat) (ρ:dY) (h:ae) (w:World) (a:Act) (ρ':dY) (e':Env) (h':ae) (w':World) (a':Act):Prop where
 Qp:cQ CC ρ' h' w'
 er:ER ρ' e' a'.tmps
 size:a'.tmps.size=a.tmps.size
 ext:Ext ρ h w ρ' h' w'
 defs:zt B ρ' h' w' a'.defers
def tX (P:Program) (T:qd) (ng:Nat) (dr:tV) (ih:ak->Env->ae->R):Prop:=
 ∀(n:Nat) (c:Code) (e:Env) (h:ae) (x:aP) (e':Env) (h':ae),ih (bV T ng n dr c) e h=some (x,e',h')->
  ∀(B:Nat) (ρ:dY) (w:World) (a:Act) (b:Frame) (k:List Item) (cs:List Frame),cQ (fS T ng dr) ρ h w->bS ng ρ->ER ρ e a.tmps->n<=a.tmps.size->B<=w.heap.size->zt B ρ h w a.defers->
   (b.roundOf=none\/jf c=true)->
   ∃ρ' w' a',FC P b k cs (lone (on b a (.code c::k)) cs w) x a' w'/\x5 (fS T ng dr) B ρ h w a ρ' e' h' w' a'
theorem ER.put {ρ:dY} {e:Env} {a:Act} (hE:ER ρ e a.tmps) {dst:Option Nat} {v c:Value} (hd: ∀d,dst=some d->d<a.tmps.size) (hv:VR ρ v c):ER ρ (eX e dst v) (a.put dst c).tmps:=by
 cases dst with
 |none=>exact hE
 |some d=>
  intro t;have ef:=hd d rfl;simp only[eX,Act.put,Env.aN];by_cases ht:t=d
  .subst ht;simp[Array.getD,ef,hv]
  .rw[aT ht];have:=hE t;have he:(a.tmps.setIfInBounds d c).getD t undef=a.tmps.getD t undef:=by simp[Array.getD_eq_getD_getElem?,Array.getElem?_setIfInBounds,Ne.symm ht]
   rw[he];exact this
theorem uE (a:Act) (dst:Option Nat) (c:Value):(a.put dst c).tmps.size=a.tmps.size:=by cases dst<;>simp[Act.put]
theorem put_defers (a:Act) (dst:Option Nat) (c:Value):(a.put dst c).defers=a.defers:=by cases dst<;>rfl
theorem VR.of_bool {b:Bool} (h:VR ρ v (.bool b)):v= .bool b:=by
 cases h with
 |val h=>cases h with
  |cell h=>cases h with
   |cell h=>cases h;rfl
theorem Fq (hE:ER ρ e a.tmps) {ops:Array Oper} {o:Oper} {g:Option (Nat×Bool)}
  (hg:(o.guard=none/\g=none)\/ ∃j b t,o.guard=some (j,b)/\BA ops.toList j=some t/\g=some (t,b)):Region.wanted o (yielded ops a.tmps)=wanted e g:=by
 rcases hg with⟨h1,rfl⟩|⟨j,b,t,h1,h2,rfl⟩
 .simp[Region.wanted,h1,wanted]
 .simp only[Region.wanted,h1,wanted];have hy:yielded ops a.tmps j=match a.tmps[t]? with|some (.bool c)=>some c|_=>none:=by
   unfold BA at h2;split at h2
   .rename_i o' MD;have anK:ops[j]? =some o':=by simpa using MD
    simp only[yielded,anK,Option.bind_some,h2];rfl
   .cases h2
  have hr:=hE t;rw[Array.getD_eq_getD_getElem?] at hr;rw[hy];cases hv:a.tmps[t]? with
  |none=>
   rw[hv] at hr;simp only[Option.getD_none] at hr;have hx:Env.get e t= .tuple #[]:=by
    cases hq:Env.get e t with
    |tuple l=>
     rw[hq] at hr;obtain⟨m,hm,hk⟩:=hr.HI;have:m=[]:=by unfold undef at hm;injection hm with hm;injection hm with hm;exact hm.symm
     subst this;obtain⟨l⟩:=l;cases hk;rfl
    |_=>rw[hq] at hr;unfold undef at hr;cases hr with
     |val h=>cases h with
      |cell h=>exact absurd h.plain.2 (by simp[AI.plain])
   rw[hx];simp
  |some u=>
   rw[hv] at hr;simp only[Option.getD_some] at hr;cases u with
   |bool c=>
    rw[VR.of_bool hr];simp
   |_=>
    cases hq:Env.get e t with
    |bool c=>rw[hq] at hr;have:=hr.mc;cases this
    |_=>simp
theorem ET: ∀(l:List Value) (e:Env) (i t:Nat),Env.get (params e i l) t=if i<=t then(match l[t-i]? with|some v=>v|none=>Env.get e t) else Env.get e t
 |[],e,i,t=>by simp[params]
 |v::l,e,i,t=>by
  rw[params,ET l _ (i+1) t];by_cases h1:i+1<=t
  .rw[aU h1,aU (by omega),show t-i=(t-(i+1))+1 by omega,List.getElem?_cons_succ];split
   .rfl
   .rw[Env.aN,aT (by omega)]
  .rw[aT h1,Env.aN];by_cases h2:t=i
   .subst h2;simp
   .rw[aT h2,aT (by omega)]
theorem R6 (h:All2 (VR ρ) args cw) (m:Nat):ER ρ (params .nil 0 args) ((⟨cw⟩:Array Value)++Array.replicate m undef):=by
 intro t;rw[ET];simp only[Nat.zero_le,if_true,Nat.sub_zero];rw[Array.getD_eq_getD_getElem?];cases ha:args[t]? with
 |some v=>
  obtain⟨c,hc,hr⟩:=h.get ha;have ef:=(bY.1 hc).1;rw[Array.getElem?_append_left (by simpa using ef)];have:(⟨cw⟩:Array Value)[t]? =some c:=by rw[<-hc];simp
  rw[this];exact hr
 |none=>
  have hge:args.length<=t:=List.getElem?_eq_none_iff.1 ha;have hl:=h.length;have:((⟨cw⟩:Array Value)++Array.replicate m undef)[t]?.getD undef=undef:=by
   by_cases ht:t<cw.length+m
   .rw[Array.getElem?_append_right (by simp;omega)];simp;by_cases hx:t-cw.length<m
    .simp[hx]
    .simp[hx]
   .rw[Array.getElem?_eq_none (by simp;omega)];rfl
  rw[this];exact VR.undef
theorem JA : ∀(ps:List Nat) (args cw:List Value) (e e':Env) (tmps:Array Value),All2 (VR ρ) args cw->gV e ps args=some e'->ER ρ e tmps->(∀t∈ps,t<tmps.size)->
  ER ρ e' ((ps.zip cw).foldl (fun(tmps:Array Value) (x:Nat×Value)=>tmps.setIfInBounds x.1 x.2) tmps)/\((ps.zip cw).foldl (fun(tmps:Array Value) (x:Nat×Value)=>tmps.setIfInBounds x.1 x.2) tmps).size=tmps.size/\ps.length=args.length:=by
 intro ps;induction ps with
 |nil=>
  intro args cw e e' tmps ha hs hE _;cases ha with
  |nil=>simp only[gV,kl] at hs;subst hs;exact⟨hE,rfl,rfl⟩
  |cons=>simp[gV] at hs
 |cons t ps ihp=>
  intro args cw e e' tmps ha hs hE ef;cases ha with
  |nil=>simp[gV] at hs
  | @cons v c args cw hv La=>
   simp only[gV] at hs;have Vq:=ER.put (a:=⟨tmps,[]⟩) (dst:=some t) hE (fun d hd=>by cases hd;exact ef t (by simp)) hv;simp only[eX,Act.put] at Vq;obtain⟨h1,h2,h3⟩:=ihp args cw _ e' (tmps.setIfInBounds t c) La hs Vq (fun u hu=>by simpa using ef u (by simp[hu]));exact⟨h1,by simpa using h2,by simp[h3]⟩
def ZT (tmps:Array Value):ResultVar->Sem Value
 | .tmp t=>pure (tmps.getD t undef)
 | .cell a t=>do loadVar t (<-asAddr (tmps.getD a undef))
theorem OG (fn:Func) (tmps:Array Value):Go.results fn tmps=(do
  let vs<-fn.results.mapM (ZT tmps)
  pure (if h:vs.size=1 then vs[0] else .tuple vs)):=by
 unfold Go.results;congr 1
theorem LP (hT:cm P T) (S:cQ CC ρ h w) (hE:ER ρ e tmps):
  ∀(rs:List ResultVar) (Ms:List Dk) (vs:List Value),All2 (fun r ar=>yX T r=some ar) rs Ms->results e h Ms=some vs->
   ∃cs:List Value,All2 (VR ρ) vs cs/\ ∀r c,(r,c)∈rs.zip cs->(ZT tmps r).run P w= .ok c w:=by
 intro rs;induction rs with
 |nil=>
  intro Ms vs ha hr;cases ha;simp only[results,kl] at hr;subst hr;exact⟨[],.nil,fun r c h=>by simp at h⟩
 |cons r rs ihr=>
  intro Ms vs ha hr;cases ha with
  | @cons _ ar _ Ms h1 h2=>
  cases r with
  |tmp t=>
   simp only[yX,kl] at h1;subst h1;simp only[results] at hr;split at hr
   .rename_i l hl;cases hr;obtain⟨cs,D8,dm⟩:=ihr Ms l h2 hl;refine⟨_::cs,.cons (hE t) D8,?_⟩;intro r c hm;simp only[List.zip_cons_cons,List.mem_cons,wI] at hm;rcases hm with⟨rfl,rfl⟩|hm
    .rfl
    .exact dm r c hm
   .cases hr
  |cell ad t=>
   simp only[yX] at h1;split at h1
   .rename_i i hi;cases h1;simp only[results] at hr;split at hr
    .rename_i b off heq;split at hr
     .rename_i cells aaU;split at hr
      .rename_i v hv;split at hr
       .rename_i l hl;cases hr;obtain⟨cs,D8,dm⟩:=ihr Ms l h2 hl;have hp:=hE ad;rw[heq] at hp;obtain⟨rr,hrr,hc⟩:=hp.Ay;obtain⟨c,ahf,X5⟩:=P9 (P:=P) S (hT t i hi) hrr aaU hv;refine⟨c::cs,.cons X5 D8,?_⟩;intro r c' hm;simp only[List.zip_cons_cons,List.mem_cons,wI] at hm;rcases hm with⟨rfl,rfl⟩|hm
        .simp only[ZT,Sem.run_bind,hc,asAddr,Sem.run_pure,Result.andThen_ok,ahf]
        .exact dm r c' hm
       .cases hr
      .cases hr
     .cases hr
    .cases hr
   .cases h1
theorem V3 {α β:Type} (f:α->Sem β): ∀(l:List α) (m:List β) (w:World),l.length=m.length->(∀x y,(x,y)∈l.zip m->(f x).run P w= .ok y w)-> ∀acc:Array β,
  (l.foldlM (fun bs x=>bs.push <$> f x) acc).run P w= .ok (acc++m.toArray) w:=by
 intro l;induction l with
 |nil=>intro m w hl _ acc;cases m with
  |nil=>simp
  |cons=>simp at hl
 |cons x l ihl=>
  intro m w hl hx acc;cases m with
  |nil=>simp at hl
  |cons y m=>
   simp only[List.foldlM_cons,Sem.run_bind,zK,hx x y (by simp),Result.andThen_ok];rw[ihl m w (by simpa using hl) (fun u v huv=>hx u v (by simp[huv]))];congr 1;apply Array.ext';simp
theorem LQ (hT:cm P T) (S:cQ CC ρ h w) (hE:ER ρ e tmps) {fn:Func} {Ms:List Dk} {vs:List Value}
  (ha:All2 (fun r ar=>yX T r=some ar) fn.results.toList Ms) (hr:results e h Ms=some vs) (cN:iH vs=true): ∃c,(Go.results fn tmps).run P w= .ok c w/\VR ρ (result vs) c:=by
 obtain⟨cs,D8,dm⟩:=LP hT S hE _ _ _ ha hr;have cn:fn.results.toList.length=cs.length:=by
  have h1:=ha.length;have h2:=D8.length;have h3: ∀(Ms:List Dk) (vs:List Value),results e h Ms=some vs->vs.length=Ms.length:=by
   intro Ms;induction Ms with
   |nil=>intro vs h;simp only[results,kl] at h;subst h;rfl
   |cons r Ms ihr=>
    intro vs h;cases r with
    |tmp t=>
     simp only[results] at h;split at h
     .rename_i l hl;cases h;simp[ihr l hl]
     .cases h
    |cell ad n=>
     simp only[results] at h
     repeat (split at h<;>try cases h)
     rename_i l hl;simp[ihr l hl]
  have:=h3 _ _ hr;omega
 have hm:(fn.results.mapM (ZT tmps)).run P w= .ok ⟨cs⟩ w:=by rw[Array.mapM_eq_foldlM,<-Array.foldlM_toList,V3 _ _ cs w cn dm];congr 1;apply Array.ext';simp
 refine⟨if h:(⟨cs⟩:Array Value).size=1 then(⟨cs⟩:Array Value)[0] else .tuple ⟨cs⟩,?_,?_⟩
 .rw[OG];simp only[Sem.run_bind,hm,Result.andThen_ok,Sem.run_pure]
 .match vs,cs,D8 with
  |[v],[c],.cons hv .nil=>simpa [result] using hv
  |[],[],.nil=>simpa [result] using VR.tuple (ρ:=ρ) .nil
  |v1::v2::vs,c1::c2::cs,hh=>
   have cJ: ¬((⟨c1::c2::cs⟩:Array Value).size=1):=by simp
   rw[dif_neg cJ];simp only[result];have mM:(v1::v2::vs).all xy=true:=cN;have conv: ∀ {l m:List Value},All2 (VR ρ) l m->l.all xy=true->All2 (AR ρ) l m:=by
    intro l m h;induction h with
    |nil=>intro _;exact .nil
    |cons hv _ ihh=>
     intro hl;simp only[List.all_cons,uf] at hl;refine .cons ?_ (ihh hl.2);cases hv with
     |val h=>exact h
     |tuple=>simp[xy] at hl
     |atl=>simp[xy] at hl
   exact VR.tuple (conv hh mM)
end
section
variable {P:Program} {T:qd} {ng:Nat} {dr:tV} {F:Nat->Option bZ} {ih:ak->Env->ae->R}
theorem OY (B:Nat) {CC:cj} {ρ₀ ρ:dY} {h₀ h:ae} {w₀:World} (hB:w₀.heap.size<=B): ∀(rs:List Nat) (w:World) (fr:Frame) (cs:List Frame),fr.mode= .returning->fr.defers=rs.map mark->rs.Nodup->
  (∀r∈rs,B<=r/\w.heap[r]? =some (.deferred (some []))/\JX ρ h r)->cQ CC ρ h w->Ext ρ₀ h₀ w₀ ρ h w->
  ∃w',Steps P (lone fr cs w) (lone { fr with defers:=[] } cs w')/\cQ CC ρ h w'/\Ext ρ₀ h₀ w₀ ρ h w':=by
 intro rs;induction rs with
 |nil=>
  intro w fr cs _ hd _ _ S E;refine⟨w,?_,S,E⟩;have:({ fr with defers:=[] } :Frame)=fr:=by cases fr;simp at hd;subst hd;rfl
  rw[this];exact Steps.refl P _
 |cons r rs ihr=>
  intro w fr cs hm hd hn mM S E;obtain⟨hBr,hh,hf⟩:=mM r (by simp);have ef:=uV hh;have B7:=LX (P:=P) (cs:=cs) (ds:=rs.map mark) hm (by rw[hd];rfl) hh;have NW: ∀j,j≠r->(w.heap.setIfInBounds r (.deferred none))[j]? =w.heap[j]? :=fun j hj=>by simp[Ne.symm hj]
  have S':cQ CC ρ h { w with heap:=w.heap.setIfInBounds r (.deferred none) } :=by refine⟨fun b rr hb=>⟨(S.low b rr hb).1,by simpa using(S.low b rr hb).2⟩,?_,S.inj,S.wf⟩;intro b rr o hb ho;exact iA.mono ρ.le_refl (NW _ (hf b rr o hb ho)) (S.obj b rr o hb ho)
  have E':Ext ρ₀ h₀ w₀ ρ h { w with heap:=w.heap.setIfInBounds r (.deferred none) } :=by refine⟨E.le,E.next,by simpa using E.size,E.os,E.tape,E.output,?_,E.own,E.new,E.live⟩;intro k hk xn;rw[<-E.tD k hk xn];exact NW k (by omega)
  obtain⟨w',N4,S'',E''⟩:=ihr { w with heap:=w.heap.setIfInBounds r (.deferred none) } { fr with defers:=rs.map mark } cs hm rfl (List.nodup_cons.1 hn).2
   (fun q hq=>by obtain⟨g1,g2,g3⟩:=mM q (by simp[hq]);refine⟨g1,?_,g3⟩;rw[<-g2];exact NW q (fun e=>(List.nodup_cons.1 hn).1 (e▸hq))) S' E'
  exact⟨w',.head B7 N4,S'',E''⟩
theorem wq (hF:Fu P T ng dr F) (hT:cm P T) (hI:tX P T ng dr ih) {f:Nat} {args cw:List Value} (hc:si F ih f args h=some (v,h'))
  {ρ:dY} {w:World} (S:cQ (fS T ng dr) ρ h w) (hG:bS ng ρ) (ha:All2 (VR ρ) args cw) (cs:List Frame):
  ∃fn ρ' w' c fr,P.funcs[f]? =some fn/\fn.body.isSome=true/\(fn.name== "runtime.NumGoroutine")=false/\
   Steps P (lone (Frame.enter P f ⟨cw⟩ .normal) cs w) (lone fr cs w')/\fr.fn=f/\fr.leaving P w' (.returned c)/\VR ρ' v c/\cQ (fS T ng dr) ρ' h' w'/\Ext ρ h w ρ' h' w':=by
 unfold si oo at hc;split at hc
 .cases hc
 .rename_i af haf;have hFf:=hF f af haf;split at hc
  .cases hc
  .rename_i p hp heq;rw[heq] at hFf;exact hFf args h v h' hc cw ρ w S hG ha cs
  rename_i heq;rw[heq] at hFf;obtain⟨fn,c,PO,aaI,KZ,Zd,agT⟩:=hFf
  let b:Frame:= { (default:Frame) with fn:=f,kind:= .normal }
  let a:Act:= { tmps:=(⟨cw⟩:Array Value)++Array.replicate (fn.ntmps-cw.length) undef,defers:=[] }
  have acr:Frame.enter P f ⟨cw⟩ .normal=on b a [.code c]:=by simp[Frame.enter,on,PO,aaI,b,a];rfl
  have hER:ER ρ (params .nil 0 args) a.tmps:=R6 ha _;have p_:fn.ntmps<=a.tmps.size:=by simp[a];omega
  have U8:zt w.heap.size ρ h w a.defers:=⟨[],rfl,List.nodup_nil,fun r hr=>by simp at hr⟩;rw[agT] at hc
  
  have out: ∀(e':Env) (h1:ae) (ρ':dY) (w':World) (a':Act),(∃k,Steps P (lone (on b a [.code c]) cs w) (lone { on b a' k with mode:= .returning } cs w'))->
    x5 (fS T ng dr) w.heap.size ρ h w a ρ' e' h1 w' a'->
    (match results e' h1 af.res with|some vs=>bif iH vs then some (result vs,h1) else none|none=>none)=some (v,h')->
    ∃fn ρ' w' c fr,P.funcs[f]? =some fn/\fn.body.isSome=true/\(fn.name== "runtime.NumGoroutine")=false/\
     Steps P (lone (Frame.enter P f ⟨cw⟩ .normal) cs w) (lone fr cs w')/\fr.fn=f/\fr.leaving P w' (.returned c)/\VR ρ' v c/\cQ (fS T ng dr) ρ' h' w'/\Ext ρ h w ρ' h' w':=by
   intro e' h1 ρ' w' a' ⟨k,N4⟩ hA hr;split at hr
   .rename_i vs uK;cases cN:iH vs with
    |false=>simp[cN] at hr
    |true=>
     simp only[cN,cond_true,kl,wI] at hr;obtain⟨rfl,rfl⟩:=hr;obtain⟨rs,hds,Tm,mM⟩:=hA.defs;obtain⟨w2,wN,S2,E2⟩:=OY (P:=P) w.heap.size (dK _) rs w' { on b a' k with mode:= .returning } cs rfl hds Tm mM hA.Qp hA.ext;obtain⟨cc,dm,X5⟩:=LQ (P:=P) hT S2 hA.er Zd uK cN;refine⟨fn,ρ',w2,cc,_,PO,by rw[aaI];rfl,KZ,by rw[acr];exact N4.trans wN,rfl,⟨rfl,rfl,rfl,fn,PO,dm⟩,X5,S2,E2⟩
   .cases hr
  split at hc
  .rename_i e' h1 dm;obtain⟨ρ',w',a',vJ,hA⟩:=hI fn.ntmps c _ h _ e' h1 dm w.heap.size ρ w a b [] cs S hG hER p_ (dK _) U8 (.inl rfl);exact out e' h1 ρ' w' a' ⟨[],Steps.trans vJ (.one (aiC rfl))⟩ hA hc
  .rename_i e' h1 dm;obtain⟨ρ',w',a',vJ,hA⟩:=hI fn.ntmps c _ h _ e' h1 dm w.heap.size ρ w a b [] cs S hG hER p_ (dK _) U8 (.inl rfl);obtain⟨k',Ei⟩:=vJ;exact out e' h1 ρ' w' a' ⟨_,Ei.trans (.one (aiD rfl))⟩ hA hc
  .cases hc
theorem Cr (S:cQ CC ρ h w) {r:yJ} {env alS:Env} {ps WG:List Nat} {asg als body afK:ak} {st st':Ta} (hl:ρ l=some r)
  (hg:h.tr.get l=some (.loop alS WG als afK st')) {L:Loop} (hh:w.heap[r.aA]? =some (.loop L)) (L':Loop) (cN:TQ CC ρ r env ps asg body st { w with heap:=w.heap.setIfInBounds r.aA (.loop L') }):
  cQ CC ρ (fG h l env ps asg body st) { w with heap:=w.heap.setIfInBounds r.aA (.loop L') } /\Ext ρ h w ρ (fG h l env ps asg body st) { w with heap:=w.heap.setIfInBounds r.aA (.loop L') } :=
 cQ.uL (o':= .loop env ps asg body st) S hl hg rfl (JL.obj r.aA (.loop L')) cN h.clock
theorem heap_set (w:World) {k:Nat} {o o':Obj} (h:w.heap[k]? =some o):(w.heap.setIfInBounds k o')[k]? =some o':=by have:=uV h;simp[this]
theorem Jq (hI:tX P T ng dr ih) {args cw:List Value} (hc:vj ih l args h=some (v,h'))
  {ρ:dY} {w:World} (S:cQ (fS T ng dr) ρ h w) (hG:bS ng ρ) (ha:All2 (VR ρ) args cw) {r:yJ} (hl:ρ l=some r) (c:Frame) (cs:List Frame):
  ∃L ρ' w' cv,w.heap[r.aA]? =some (.loop L)/\cw.length=L.params.size/\
   Steps P (lone (Frame.round r.aA L.fn ((L.params.toList.zip cw).foldl (fun(tmps:Array Value) (x:Nat×Value)=>tmps.setIfInBounds x.1 x.2) L.tmps) L.assign L.body .normal) (c::cs) w) (lone (c.finish cv) cs w')/\
   VR ρ' v cv/\cQ (fS T ng dr) ρ' h' w'/\Ext ρ h w ρ' h' w':=by
 unfold vj at hc;split at hc
 .rename_i env ps asg body dM;obtain⟨L,hh,hER,gM,⟨n1,hn1,KQ,PS⟩,⟨n2,NU,MA,NV⟩,ef,Ei⟩:=S.obj l r _ hl dM;split at hc
  .cases hc
  .rename_i e0 fH;obtain⟨hE0,ahK,cn⟩:=JA ps args cw env e0 L.tmps ha fH hER ef;rw[<-gM] at hE0 ahK;have vI:cw.length=L.params.size:=by have h1:=ha.length;rw[<-gM] at cn;simp at cn;omega
   let b:Frame:= { (default:Frame) with fn:=L.fn,kind:= .normal,roundOf:=some r.aA }
   let a:Act:= { tmps:=(L.params.toList.zip cw).foldl (fun(tmps:Array Value) (x:Nat×Value)=>tmps.setIfInBounds x.1 x.2) L.tmps,defers:=[] }
   have ac1:Frame.round r.aA L.fn a.tmps L.assign L.body .normal=on b a [.code L.assign,.beginRound,.code L.body]:=rfl;refine⟨L,?_⟩;have hasz:a.tmps.size=L.tmps.size:=ahK;split at hc
   .rename_i e1 h1 aaV;rw[KQ] at aaV;obtain⟨ρ1,w1,a1,ana,UP⟩:=hI n1 L.assign e0 h _ e1 h1 aaV w.heap.size ρ w a b [.beginRound,.code L.body] (c::cs) S hG hE0 (by omega) (dK _)
     ⟨[],rfl,List.nodup_nil,fun r hr=>by simp at hr⟩ (.inr PS)
    have G1:=UP.ext.le l r hl;unfold zg at hc;split at hc
    .rename_i alT ps1 alu afL GZ;have ahc:=UP.Qp.obj l r _ G1 GZ;obtain⟨L1,hh1,al9,hp1,AW,IQ,ahh,Vz,anR⟩:=ahc;have amQ:=Js (P:=P) (b:=b) (a:=a1) (k:=[.code L.body]) (cs:=c::cs) (w:=w1) rfl hh1 Vz;obtain⟨S2,E2⟩:=Cr (st:= .busy) UP.Qp G1 GZ hh1 { L1 with state:= .busy } ⟨{ L1 with state:= .busy },heap_set w1 hh1,al9,hp1,AW,IQ,ahh,rfl⟩;have E02:=UP.ext.trans E2;have D9:=UP.defs.ext E2;have tail: ∀(x:aP) (e3:Env) (h3:ae) (st:Ta) (bv:Bool) (R8:Option Code) (lst:LoopState),HM st { L1 with state:=lst,pending:=R8 } ->
       (∀L3:Loop,HM st { L3 with state:=lst,pending:=R8 })->
       ih (bV T ng n2 dr L.body) e1 (fG h1 l alT ps1 alu afL .busy)=some (x,e3,h3)->nH l h3 st bv=some (v,h')->
       (∀a3 w3 L3,w3.heap[r.aA]? =some (.loop L3)->FC P b [] (c::cs) (lone (on b a1 [.code L.body]) (c::cs) { w1 with heap:=w1.heap.setIfInBounds r.aA (.loop { L1 with state:= .busy }) }) x a3 w3->
        Steps P (lone (on b a1 [.code L.body]) (c::cs) { w1 with heap:=w1.heap.setIfInBounds r.aA (.loop { L1 with state:= .busy }) })
         (lone (c.finish (.bool bv)) cs { w3 with heap:=w3.heap.setIfInBounds r.aA (.loop { L3 with state:=lst,pending:=R8 }) }))->
       ∃ρ' w' cv,w.heap[r.aA]? =some (.loop L)/\cw.length=L.params.size/\
        Steps P (lone (Frame.round r.aA L.fn ((L.params.toList.zip cw).foldl (fun(tmps:Array Value) (x:Nat×Value)=>tmps.setIfInBounds x.1 x.2) L.tmps) L.assign L.body .normal) (c::cs) w) (lone (c.finish cv) cs w')/\
        VR ρ' v cv/\cQ (fS T ng dr) ρ' h' w'/\Ext ρ h w ρ' h' w':=by
      intro x e3 h3 st bv R8 lst _ hj Eg KU ahd;obtain⟨ρ3,w3,a3,anb,JO⟩:=hI n2 L.body e1 _ x e3 h3 Eg w.heap.size ρ1 _ a1 b [] (c::cs) S2 (hG.mono UP.ext.le) UP.er (by rw[UP.size];omega) (by simpa using UP.ext.size) D9 (.inr NV);have Y0:=JO.ext.le l r G1;unfold nH at KU;split at KU
      .rename_i QR ps3 QC GA aaJ;cases KU;obtain⟨L3,NP,al_,hp3,hc3,hc4,ahi,ahI⟩:=JO.Qp.obj l r _ Y0 aaJ;obtain⟨S4,E4⟩:=Cr (st:=st) JO.Qp Y0 aaJ NP { L3 with state:=lst,pending:=R8 } ⟨{ L3 with state:=lst,pending:=R8 },heap_set w3 NP,al_,hp3,hc3,hc4,ahi,hj L3⟩;refine⟨ρ3,_,.bool bv,hh,vI,?_,VR.bool bv,S4,(E02.trans JO.ext).trans E4⟩;rw[ac1];exact(Steps.trans ana (.head amQ (ahd a3 w3 L3 NP anb)))
      .cases KU
     rw[MA] at hc;split at hc
     .rename_i e3 h3 Eg;refine tail .normal e3 h3 .ready true none .ready ⟨rfl,rfl⟩ (fun _=>⟨rfl,rfl⟩) Eg hc ?_;intro a3 w3 L3 NP vJ;exact Steps.trans vJ (.one (LY rfl rfl NP))
     .rename_i e3 h3 Eg;refine tail .ret e3 h3 (.done none) false (some .ret) .done ⟨rfl,rfl⟩ (fun _=>⟨rfl,rfl⟩) Eg hc ?_;intro a3 w3 L3 NP ⟨k',vJ⟩;exact Steps.trans vJ (.one (LZ rfl rfl NP))
     .rename_i id e3 h3 Eg;refine tail (.exit id) e3 h3 (.done (some id)) false (some (.exit id)) .done ⟨rfl,rfl⟩ (fun _=>⟨rfl,rfl⟩) Eg hc ?_;intro a3 w3 L3 NP ⟨k',vJ,hex⟩;exact Steps.trans vJ (.one (Ju rfl rfl NP hex))
     .cases hc
    .cases hc
   .cases hc
 .cases hc
end
theorem Ie {c:Call} {args:List Operand} (h:xk T c= .call f args):c.callee= .value f/\c.args.toList=args:=by
 obtain⟨cal,cw,ats⟩:=c;unfold xk at h;split at h
 .rename_i g hg;injection h with h1 h2;subst h1;subst h2;exact⟨hg,rfl⟩
 all_goals (try dsimp only at h)
 all_goals (repeat' (first|(cases h;done)|split at h))
theorem DO {args:List Operand} (h:bQ T op= .call f args): ∃c,op= .call c/\c.callee= .value f/\c.args.toList=args:=by
 cases op with
 |call c=>exact⟨c,rfl,Ie h⟩
 |build t ps=>
  simp only[bQ] at h;split at h
  .split at h
   .rename_i fs _;generalize (fs.toList.all fun f=>(T f.type).isSome)=bb at h;cases bb<;>simp only[cond_true,cond_false] at h<;>repeat' (first|(cases h;done)|split at h)
   .repeat' (first|(cases h;done)|split at h)
   .cases h
  .cases h
 |buildSlice t n ps=>
  simp only[bQ] at h
  repeat' (first|(cases h;done)|split at h)
  rename_i e _;cases hb:(n*e.size).ble 1000000&&e.zero.length.beq e.size<;>simp only[hb,cond_true,cond_false] at h<;>cases h
 |slice t x lo hi mx=>
  simp only[bQ] at h
  repeat' (first|(cases h;done)|split at h)
  cases hb:mx.isSome&&hi.isNone<;>simp only[hb,cond_true,cond_false] at h<;>cases h
 |fieldAddr t x k=>
  simp only[bQ] at h
  repeat' (first|(cases h;done)|split at h)
  rename_i fi _;cases hb:fi.size.beq 0<;>simp only[hb,cond_true,cond_false] at h<;>cases h
 |makeFunc fn first caps=>
  cases fn with
  |func g=>
   simp only[bQ] at h;cases hb:first.isEmpty<;>simp only[hb,cond_true,cond_false] at h<;>cases h
  |_=>simp only[bQ] at h;cases h
 |makeMap t r=>cases r<;>(simp only[bQ] at h;cases h)
 |next it st=>cases st<;>(simp only[bQ] at h;cases h)
 |_=>
  simp only[bQ] at h
  repeat' (first|(cases h;done)|split at h)
theorem GH {x:Value×ae} (hv:bm e h (bQ T op)=some x):Op.sO op=false:=by
 cases op with
 |defer c=>simp[bQ,bm] at hv
 |_=>rfl
section
variable {P:Program} {T:qd} {ng:Nat} {dr:tV} {F:Nat->Option bZ} {ih:ak->Env->ae->R}
theorem GS {b:Nat} {ez:Array Value} (h:w.heap[b]? =some (.cells ez el (0,0))) (o:Nat):w.frozen? ⟨b,o,none⟩=false:=by simp[World.frozen?,h]
theorem ZK (hT:cm P T) {f:Nat} (hO:Pm P T f) (S:cQ CC ρ h w) (ha:All2 (VR ρ) args cw)
  (AX: ∃a oa la ca b ob lb cb csa o1 s1 csb o2 s2,args=[.slice (some ⟨a,oa,none⟩) la ca,.slice (some ⟨b,ob,none⟩) lb cb]/\h.tr.get a=some (.aA csa false o1 s1)/\h.tr.get b=some (.aA csb false o2 s2)/\(la=0\/lb=0\/a≠b)):
  (callFunc f ⟨cw⟩).run P w= .ok (.value (.bool false)) w:=by
 obtain⟨fn,t,el,i,ei,h1,h2,h3,h4,h5,h6,h7,h8,h9⟩:=hO;obtain⟨a,oa,la,ca,b,ob,lb,cb,csa,o1,s1,csb,o2,s2,rfl,ga,gb,cJ⟩:=AX
 match cw,ha with
 |[x,y],.cons hx (.cons hy .nil)=>
 obtain⟨ra,xa,xc,hra,rfl,N3⟩:=hx.fw;obtain⟨rb,ya,yc,X0,rfl,vc⟩:=hy.fw;have j_:=(hT t i h7).u;rw[h8] at j_;obtain⟨ti,k1,k2,k3,z,k4,k5⟩:=(hT el ei h9).info;obtain⟨cca,ela,fra,p1,_,_,_,p5,_⟩:=S.obj a ra _ hra ga;obtain⟨ccb,elb,frb,q1,_,_,_,q5,_⟩:=S.obj b rb _ X0 gb;have p5:=p5 rfl;have q5:=q5 rfl;subst p5;subst q5;have hn3: ¬(fn.name= "runtime.NumGoroutine"):=by simpa using h3
 have hb:fn.body=none:=by simpa using h2
 have AX:(Extern.SlicesOverlaps.overlaps fn.params fn.resultTypes #[.slice (some xa) la xc,.slice (some ya) lb yc]).run P w= .ok (.bool false) w:=by
  change Sem.run P (α:=Value) (do
   let some t:=fn.params[0]? |stuck "slices.overlaps: no parameter types"
   let .slice elem<-underlying t|stuck "slices.overlaps: slice type expected"
   let size<-sizeOf elem
   match(some xa:Option Addr),(some ya:Option Addr) with
   |some a,some b=>
    if la=0\/lb=0\/size=0 then pure (Value.bool false)
    else if a.block !=b.block&&(<-frozen a)&&(<-frozen b) then unsupported .addressObserved
    else do
     if a.block !=b.block then do
      noView a;noView b
      if<-mayBeOne a b then return Value.bool ((<-choose (.extern "sameAddr.stringBytes" 2))==1)
     pure (Value.bool (a.block==b.block&&a.off<b.off+lb*size&&b.off<a.off+la*size))
   |_,_=>pure (Value.bool false)) w=_
  by_cases h0:la=0\/lb=0\/ei.size=0
  .simp[h6,run_underlying j_,sizeOf,typeInfo,k1,k2,h0]
  .have zX:a≠b:=by
    rcases cJ with h|h|h
    .exact absurd (.inl h) h0
    .exact absurd (.inr (.inl h)) h0
    .exact h
   have KQ:0<xc:=by
    have:=N3.2.2;have:=N3.yW
    omega
   have MA:0<yc:=by
    have:=vc.2.2;have:=vc.yW
    omega
   have NL:ra.aA≠rb.aA:=S.inj a b ra rb _ hra X0 ⟨_,ga,rfl⟩ gb zX;have exa:=N3.addr KQ;have eyb:=vc.addr MA;subst exa;subst eyb;have NV:(ra.aA !=rb.aA)=true:=by simpa using NL
   have anF:(ra.aA==rb.aA)=false:=by simpa using NL
   have sa:w.shape? ra.aA=some (ela,cca.size):=by simp[World.shape?,p1]
   have sb:w.shape? rb.aA=some (elb,ccb.size):=by simp[World.shape?,q1]
   have fa: ∀o,w.frozen? ⟨ra.aA,o,none⟩=false:=GS p1;have fb: ∀o,w.frozen? ⟨rb.aA,o,none⟩=false:=GS q1;simp[h6,run_underlying j_,sizeOf,typeInfo,k1,k2,h0,NV,anF,frozen,noView,viewAt,mayBeOne,stringish,shape,Sem.run,sa,sb,fa,fb]
 simp[callFunc,h1,hn3,hb,Go.mark,h4,h5,AX,Sem.run]
theorem BP (hF:Fu P T ng dr F) (hT:cm P T) (hI:tX P T ng dr ih) {fv cfv:Value} {args cw:List Value} (hc:cD F ih fv args h=some (v,h'))
  {ρ:dY} {w:World} (S:cQ (fS T ng dr) ρ h w) (hG:bS ng ρ) (hf:VR ρ fv cfv) (ha:All2 (VR ρ) args cw) {a:Act} {ops:Array Oper} {i:Nat} {bh:List Nat} {o:Oper}
  (ho:ops[i]? =some o) (hw:Region.wanted o (yielded ops a.tmps)=true) {cl:Call} {f:Operand} (vN:o.op= .call cl) (agO:cl.callee= .value f) (hcf:a.eval f=cfv) (KQ:cl.args.toList.map a.eval=cw)
  (b:Frame) (k:List Item) (cs:List Frame):
  ∃ρ' w' c,Steps P (lone (on b a (.inRegion ops (i::bh)::k)) cs w) (lone (on b (a.put o.dst c) (.inRegion ops bh::k)) cs w')/\VR ρ' v c/\cQ (fS T ng dr) ρ' h' w'/\Ext ρ h w ρ' h' w':=by
 obtain⟨cal,Pz,ats⟩:=cl;dsimp only at agO KQ;subst agO;have Tm:Op.sO o.op=false:=by rw[vN];rfl
 have agZ: ∀c,(on b a (.inRegion ops (i::bh)::k)).finish c=on b (a.put o.dst c) (.inRegion ops bh::k):=by intro c;rw[xm,ho];rfl
 have acJ:Pz.map a.eval=⟨cw⟩:=by apply Array.ext';simp[<-KQ]
 unfold cD at hc;split at hc
 .rename_i g first caps
  cases hf with
  |val hf=>cases hf with
   |cell hf=>cases hf with
    |cell hf=>cases hf
    | @fn _ l m C3=>
     have zY:All2 (VR ρ) ([]++args++l) (cw++m):=ha.app (C3.mono fun _ _ h=>h.vr);rcases DN hc with hc|⟨af,haf,ahq,hc⟩
     rotate_left 1
     .
      have hFf:=hF g af haf;rw[ahq] at hFf;obtain⟨rfl,rfl,AX⟩:=Hx hc;have KS:=ZK (P:=P) hT hFf S zY AX;have dm:(execOp a.eval o).run P w= .ok (.value (.bool false)) w:=by
       simp only[execOp,vN,resolve,Deferred.ofValue,invoke,hcf,Sem.run_bind,Sem.run_pure,Result.andThen_ok,acJ];have:(#[]:Array Value)++(⟨cw⟩:Array Value)++(⟨m⟩:Array Value)=⟨cw++m⟩:=by apply Array.ext';simp
       rw[this];exact KS
      exact⟨ρ,w,.bool false,.one (Jw ho hw Tm dm),VR.bool _,S,.refl ρ _ w⟩
     obtain⟨fn,ρ',w',c,fr,h1,h2,h3,h4,h5,h6,h7,h8,h9⟩:=wq hF hT hI hc S hG zY (on b a (.inRegion ops (i::bh)::k)::cs);have dm:(execOp a.eval o).run P w= .ok (.enter g ⟨cw++m⟩) w:=by have:=Kk (P:=P) (w:=w) (args:=Pz) (ats:=ats) (ty:=o.type) hcf h1 h2 h3;rw[acJ] at this;simp only[execOp,vN];rw[this];congr 2;apply Array.ext';simp
     refine⟨ρ',w',c,.head (ZZ ho hw Tm dm) (h4.trans (.one ?_)),h7,h8,h9⟩;rw[step_leave_returned h6,agZ]
 .rename_i l _ _;cases hf with
  |val hf=>cases hf with
   |cell hf=>cases hf with
    |cell hf=>cases hf
    | @yield _ r hl=>
     obtain⟨L,ρ',w',cv,h1,h2,h3,h4,h5,h6⟩:=Jq (P:=P) hI hc S hG ha hl (on b a (.inRegion ops (i::bh)::k)) cs;have p_:Pz.size=L.params.size:=by rw[<-h2,<-KQ];simp
     have dm:(execOp a.eval o).run P w= .ok (.round r.aA L.fn ((L.params.toList.zip cw).foldl (fun(tmps:Array Value) (x:Nat×Value)=>tmps.setIfInBounds x.1 x.2) L.tmps) L.assign L.body) w:=by have:=S_ (P:=P) (w:=w) (args:=Pz) (ats:=ats) (ty:=o.type) hcf h1 p_;rw[acJ] at this;simp only[execOp,vN];rw[this];congr 2;rw[<-Array.foldl_toList];simp
     refine⟨ρ',w',cv,.head (Z1 ho hw Tm dm) ?_,h4,h5,h6⟩;rw[agZ] at h3;exact h3
 .cases hc
theorem LB (hF:Fu P T ng dr F) (hT:cm P T) (hI:tX P T ng dr ih) {n:Nat} {ops:Array Oper} {i:Nat} {o:Oper} (ho:ops[i]? =some o) {e e':Env} {h h':ae}
  (hc:cK F ih (aR T ng n ops.toList o) e h=some (e',h')) {ρ:dY} {w:World} (S:cQ (fS T ng dr) ρ h w) (hG:bS ng ρ) {a:Act} (hE:ER ρ e a.tmps) (hn:n<=a.tmps.size)
  (b:Frame) (k:List Item) (cs:List Frame) (bh:List Nat):
  ∃ρ' w' a',Steps P (lone (on b a (.inRegion ops (i::bh)::k)) cs w) (lone (on b a' (.inRegion ops bh::k)) cs w')/\
   cQ (fS T ng dr) ρ' h' w'/\ER ρ' e' a'.tmps/\a'.tmps.size=a.tmps.size/\a'.defers=a.defers/\Ext ρ h w ρ' h' w':=by
 unfold aR at hc;cases ui:tG ng n ops.toList o with
 |false=>
  simp only[ui,cond_false] at hc;simp[cK,wanted,bm] at hc
 |true=>
  simp only[ui,cond_true] at hc;simp only[tG,uf] at ui;obtain⟨⟨hd,hg⟩,Bn⟩:=ui;have uj: ∀d,o.dst=some d->d<a.tmps.size:=by intro d XT;rw[XT] at hd;exact IF (uW.1 hd) hn
  have CP:Region.wanted o (yielded ops a.tmps)=wanted e (guardOf ops.toList o):=by
   unfold guardOf;refine Fq hE ?_;cases vJ:o.guard with
   |none=>exact .inl ⟨rfl,rfl⟩
   |some x=>
    obtain⟨j,bb⟩:=x;rw[vJ] at hg;obtain⟨t,ht⟩:=Option.isSome_iff_exists.1 hg;exact .inr ⟨j,bb,t,rfl,ht,by dsimp only;rw[ht];rfl⟩
  have Dc: ∀ {ρ':dY} {w':World} {v c:Value} {hh:ae},VR ρ' v c->Ext ρ h w ρ' hh w'->ER ρ' (eX e o.dst v) (a.put o.dst c).tmps:=by intro ρ' w' v c hh hv E;exact ER.put (hE.mono E.le) uj hv
  unfold cK at hc;dsimp only at hc;rw[<-CP] at hc;cases uu:Region.wanted o (yielded ops a.tmps) with
  |false=>
   simp only[uu,cond_false,kl,wI] at hc;obtain⟨rfl,rfl⟩:=hc;refine⟨ρ,w,a.put o.dst undef,.one ?_,S,Dc VR.undef (.refl ρ h w),uE _ _ _,put_defers _ _ _,.refl ρ h w⟩;have:=HF (P:=P) (b:=b) (a:=a) (k:=k) (cs:=cs) (w:=w) (ops:=ops) (i:=i) (bh:=bh) (by simp[ho,uu]);rw[ho] at this;exact this
  |true=>
   simp only[uu,cond_true] at hc;split at hc
   .rename_i f args vN;obtain⟨cl,h1,h2,h3⟩:=DO vN;split at hc
    .rename_i v II hcv;cases hc;have jB:aZ ng f=true/\args.all (aZ ng)=true:=by rw[h1] at Bn;simp only[Op.operands,Call.operands,h2] at Bn;rw[<-h3];simpa using Bn
     obtain⟨ρ',w',c,q1,q2,q3,q4⟩:=BP (P:=P) hF hT hI hcv S hG (hE.eval hG jB.1) (AO hE hG args jB.2) ho uu h1 h2 rfl (by rw[h3]) b k cs (bh:=bh);exact⟨ρ',w',a.put o.dst c,q1,q3,Dc q2 q4,uE _ _ _,put_defers _ _ _,q4⟩
    .cases hc
   .split at hc
    .rename_i v II AX;cases hc;obtain⟨ρ',w',c,hr,hv,S',E'⟩:=LA (P:=P) (a:=a) hT S hE hG o Bn AX;have Tm:=GH AX;rcases hr with hr|⟨rfl,hr⟩
     .exact⟨ρ',w',a.put o.dst c,.one (Jw ho uu Tm hr),S',Dc hv E',uE _ _ _,put_defers _ _ _,E'⟩
     .exact⟨ρ',w',a.put o.dst undef,.one (Qm ho uu Tm hr),S',Dc hv E',uE _ _ _,put_defers _ _ _,E'⟩
    .cases hc
theorem Ow (hF:Fu P T ng dr F) (hT:cm P T) (hI:tX P T ng dr ih) {n:Nat} {ops:Array Oper} (b:Frame) (k:List Item) (cs:List Frame):
  ∀(m i:Nat),i+m=ops.size-> ∀(e e':Env) (h h':ae),x4 F ih ((ops.toList.drop i).map (aR T ng n ops.toList)) e h=some (e',h')->
  ∀(ρ:dY) (w:World) (a:Act),cQ (fS T ng dr) ρ h w->bS ng ρ->ER ρ e a.tmps->n<=a.tmps.size->
  ∃ρ' w' a',Steps P (lone (on b a (.inRegion ops ((List.range' i m))::k)) cs w) (lone (on b a' (.inRegion ops []::k)) cs w')/\
   cQ (fS T ng dr) ρ' h' w'/\ER ρ' e' a'.tmps/\a'.tmps.size=a.tmps.size/\a'.defers=a.defers/\Ext ρ h w ρ' h' w':=by
 intro m;induction m with
 |zero=>
  intro i hi e e' h h' hc ρ w a S hG hE hn;rw[XC (by simp;omega)] at hc;simp only[List.map_nil,x4,kl,wI] at hc;obtain⟨rfl,rfl⟩:=hc;exact⟨ρ,w,a,Steps.refl P _,S,hE,rfl,rfl,.refl ρ h w⟩
 |succ m ihm=>
  intro i hi e e' h h' hc ρ w a S hG hE hn;have ef:i<ops.toList.length:=by simp;omega
  rw[List.drop_eq_getElem_cons ef] at hc;simp only[Fw,x4] at hc;have ho:ops[i]? =some ops.toList[i]:=by rw[<-Array.getElem?_toList,aX ef]
  split at hc
  .rename_i e1 h1 vN;obtain⟨ρ1,w1,a1,s1,S1,E1,z1,d1,X1⟩:=LB (P:=P) hF hT hI ho vN S hG hE hn b k cs (List.range' (i+1) m);obtain⟨ρ2,w2,a2,s2,S2,E2,z2,d2,X2⟩:=ihm (i+1) (by omega) e1 e' h1 h' hc ρ1 w1 a1 S1 (hG.mono X1.le) E1 (by omega);refine⟨ρ2,w2,a2,?_,S2,E2,z2.trans z1,d2.trans d1,X1.trans X2⟩;rw[List.range'_succ];exact s1.trans s2
  .cases hc
end
end Go.AI
