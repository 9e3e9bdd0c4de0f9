/- Parts of the proof. -/
import Derived.Test.YtdhnndleffachaaGreatDoorP00
import Derived.Laws.Sem
import Derived.Maps.RangeRun
import Derived.Orders
set_option linter.all false
namespace Go.AI
variable{B N d i it j n p r s s26 s27 s28 s29 s30 s31 s7 s8 sz t tH u xi zb:Nat}{CC:bK}{D:Nat->Prop}{F:Nat->Option bM}{L:Loop}{P:Program}{T:oR}{a a2:Act}{args cx kc vs z:List Value}{caps first tmps:Array Value}{ces:Array MapEntry}{cs:List Frame}{e e' e2:Env}{es es':List (Value×Value)}{f x:Operand}{fn:Func}{fv v:Value}{g:FuncId}{gZ g_ gm ops:Array Oper}{h h' h0 h1 h2:ae}{ih:aq->Env->ae->R}{im:vy}{ks:List Nat}{md:Region.Mode}{o:Oper}{st:Th}{w w' w0:World}{α β:Type}{ρ ρ' ρ0:dE}
section
variable{P:Program}{CC:bK}{ρ:dE}{h h':ae}{w:World}{T:oR}{ng:Nat}{e:Env}{a:Act}{c v:Value}
theorem Z0(hT:cu P T){t t' ty el:TypeId}{i ei:TI}{x y:Operand}(jO:T t=some i)(hu:i.u=.slice el)(j5:T el=some ei)(S:cK CC ρ h w)(hE:ER ρ e a.tmps)(hG:cj ng ρ)(hx:bp ng x=true)(hy:bp ng y=true)(hv:bw e h (.copy ei.size x y)=some (v,h')):
  Out CC ρ h w v h' (((do pure (Next.value (<-Builtin.copy_ #[t,t'] ty #[a.eval x,a.eval y]))):Sem Next).run P w):=by
 have o7:=(hT t i jO).u;rw[hu] at o7;have qD:=(fy (w:=w) (hT _ _ j5)).1;have eu:=hE.eval hG hx;have oZ:=hE.eval hG hy;simp only[bw] at hv;split at hv
 .rename_i da dn dc sa sn sc h1 h2;rw[h1] at eu;rw[h2] at oZ;split at hv
  .rename_i h0;have h0:=mH h0;cases hv;obtain⟨y1,cc1,e1,_⟩:=eu.qa;obtain⟨y2,cc2,e2,_⟩:=oZ.qa;rw[e1,e2];refine Out.same S (cS ?_) (VR.int _ _);cases y1<;>cases y2<;>simp[Builtin.copy_,run_underlying o7,Builtin.lenOf,h0,qD,Builtin.firstCells,loadCells,loadCellsFrom,storeCells,goInt]
  .rename_i h0;split at hv
   .rename_i db agE sb ajU;split at hv
    .rename_i cs hr;split at hv
     .rename_i BZ hw;cases hv;obtain⟨r1,ca1,cc1,rP,AQ,xe⟩:=eu.fh;obtain⟨r2,ca2,cc2,Bm,JD,Wo⟩:=oZ.fh;obtain⟨hl,ep,hk,Bi⟩:=Az S Bm hr;obtain⟨w',cR,S',E'⟩:=xr (P:=P) S rP hw hk;have wv:Nat.min sn dn≠0:=by intro h;rw[h] at h0;exact h0 rfl
      have hmin:Nat.min sn dn<=sn/\Nat.min sn dn<=dn:=⟨Nat.min_le_left _ _,Nat.min_le_right _ _⟩;have l1:=xe.2.2;have l2:=Wo.2.2;have c1:=xe.yL;have c2:=Wo.yL;rw[AQ,JD];have e1:=xe.addr (by omega);have e2:=Wo.addr (by omega);have hf:=run_firstCells_some (P:=P) w ei.size (Nat.min sn dn) ca2 sn cc2 ep (by rw[<-hk.length,hl]) (by rw[e2];exact Bi);refine⟨ρ,w',.int .i64 (Nat.min sn dn),.inl (cS ?_),VR.int _ _,S',E'⟩;rw[<-e1] at cR;have hf':(Builtin.firstCells ei.size (min sn dn) (.slice (some ca2) sn cc2)).run P w=.ok ep.toArray w:=hf;simp[Builtin.copy_,run_underlying o7,Builtin.lenOf,qD,hf',cR,goInt]
     .cases hv
    .cases hv
   .cases hv
 .cases hv
theorem Ww(hT:cu P T){t ty el:TypeId}{i ei:TI}(jO:T t=some i)(hu:i.u=.slice el)(j5:T el=some ei)(S:cK CC ρ h w)(hE:ER ρ e a.tmps)(hG:cj ng ρ)(hx:bp ng x=true)(hv:bw e h (.clear ei.zero x)=some (v,h')):
  Out CC ρ h w v h' (((do pure (Next.value (<-Builtin.clear_ #[t] ty #[a.eval x]))):Sem Next).run P w):=by
 have o7:=(hT t i jO).u;rw[hu] at o7;have xF:=hT _ _ j5;have eu:=hE.eval hG hx;simp only[bw] at hv;split at hv
 .rename_i sa n sc h1;rw[h1] at eu;split at hv
  .rename_i h0;have h0:=mH h0;subst h0;cases hv;obtain⟨y1,cc1,e1,_⟩:=eu.qa;rw[e1];refine Out.same S (c:=undef) (cS ?_) VR.undef;cases y1<;>simp[Builtin.clear_,run_underlying o7,undef]
  .rename_i h0;split at hv
   .rename_i b off;split at hv
    .rename_i BZ hw;cases hv;obtain⟨r1,ca1,cc1,rP,AQ,xe⟩:=eu.fh;have wv:n≠0:=by intro h;subst h;exact h0 rfl
     have l1:=xe.2.2;have c1:=xe.yL;have e1:=xe.addr (by omega);obtain⟨ti,k1,k2,k3,z,k4,k5⟩:=xF.info;have PY:(zeroValue el).run P w=.ok z w:=by simp[zeroValue,typeInfo,k1,k4]
     have hk:=dH (ρ:=ρ) (iB xF.zero n);obtain⟨w',cR,S',E'⟩:=xr (P:=P) S rP hw hk;rw[AQ];refine⟨ρ,w',undef,.inl (cS ?_),VR.undef,S',E'⟩;rw[<-e1] at cR;have N9:(Builtin.zeroCells z.cells n).toList=jP ei.zero n:=by
      by_cases PX:0<ei.zero.length
      .rw[xl (.inl PX)];have:z.cells=⟨ei.zero⟩:=by apply Array.ext';simpa using k5
       simp[Builtin.zeroCells,this]
      .have hzn:ei.zero=[]:=JC (by omega);have:z.cells=⟨[]⟩:=by apply Array.ext';rw[k5,hzn]
       rw[hzn];have Rv:jP [] n=[]:=JC (by rw[oN];simp);rw[Rv];simp[Builtin.zeroCells,this]
     have aoj:(Builtin.clear_ #[t] ty #[.slice (some ca1) n cc1]).run P w=.ok undef w':=by unfold Builtin.clear_;simp only[Sem.run_bind];simp[run_underlying o7,PY,N9,cR,undef]
     exact aoj
    .cases hv
   .cases hv
 .cases hv
theorem WA{t:TypeId}(S:cK CC ρ h w):Out CC ρ h w (.map (some h.next)) (h.new (.map [])) (((do pure (Next.value (<-Instr.makeMap t none))):Sem Next).run P w):=by obtain⟨S',E'⟩:=cK.add (im:=⟨w.heap.size,0,0,0,0⟩) (o:=.map []) (co:=.map #[] 0) S rfl ⟨#[],0,Ba w _,⟨[],.refl _,.nil⟩,rfl,fun i y h=>by simp at h⟩;exact⟨_,_,.map (some w.heap.size),.inl (cS (by simp[Instr.makeMap])),(CR.map (lC _ _ _)).vr,S',E'⟩
theorem Lw(hT:cu P T)(S:cK CC ρ h w)(hE:ER ρ e a.tmps)(hG:cj ng ρ)(o:Oper)(dx:o.op.operands.toList.all (bp ng)=true)(hv:bw e h (ck T o.op)=some (v,h')):
  Out CC ρ h w v h' ((execOp a.eval o).run P w):=by
 obtain⟨dst,op,ty,pos,aft,gd⟩:=o;dsimp only at dx hv;cases op with
 |move x=>
  simp only[ck,bw,jm,vz] at hv;obtain⟨rfl,rfl⟩:=hv;exact Out.same S rfl (hE.eval hG (by simpa [Op.operands] using dx))
 |assign x=>
  simp only[ck,bw,jm,vz] at hv;obtain⟨rfl,rfl⟩:=hv;exact Out.same S rfl (hE.eval hG (by simpa [Op.operands] using dx))
 |pick x y z=>
  simp[Op.operands] at dx;exact Z2 S hE hG dx.1 dx.2.1 dx.2.2 hv
 |alloc t=>
  simp only[ck] at hv;split at hv
  .rename_i i hi;simp only[bw,jm,vz] at hv;obtain⟨rfl,rfl⟩:=hv;exact Wv S (hT t i hi)
  .simp[bw] at hv
 |box t x=>
  simp[Op.operands] at dx;simp only[ck] at hv;split at hv
  .simp only[bw] at hv;split at hv
   .rename_i vs hf;cases hv;exact aeo S (hE.eval hG dx) hf
   .cases hv
  .simp[bw] at hv
 |build t ps=>
  have Rq:(ps.toList.map (·.2)).all (bp ng)=true:=by simpa [Op.operands] using dx
  simp only[ck] at hv;split at hv
  .rename_i i hi;split at hv
   .rename_i fs hu;cases mD:fs.toList.all fun f=>(T f.type).isSome with
    |false=>simp[mD,bw] at hv
    |true=>
     simp only[mD,cond_true] at hv;split at hv
     .rename_i qs hq;exact CN hT hi hu mD hq S hE hG Rq hv
     .simp[bw] at hv
   .rename_i n el hu;split at hv
    .rename_i ei j5;exact Ey hT hi hu j5 S hE hG Rq hv
    .simp[bw] at hv
   .simp[bw] at hv
  .simp[bw] at hv
 |buildSlice t n ps=>
  have Rq:(ps.toList.map (·.2)).all (bp ng)=true:=by simpa [Op.operands] using dx
  simp only[ck] at hv;split at hv
  .rename_i i hi;split at hv
   .rename_i el hu;split at hv
    .rename_i ei j5;cases hc:Nat.ble (n*ei.size) 1000000&&Nat.beq ei.zero.length ei.size with
     |false=>simp[hc,bw] at hv
     |true=>
      simp only[hc,cond_true] at hv;simp only[uh] at hc;exact Sk hT hi hu j5 (Mv hc.1) S hE hG Rq hv
    .simp[bw] at hv
   .simp[bw] at hv
  .simp[bw] at hv
 |load t x=>
  simp[Op.operands] at dx;simp only[ck] at hv;split at hv
  .rename_i i hi;exact Wz hT hi S hE hG dx hv
  .simp[bw] at hv
 |store t x y=>
  simp[Op.operands] at dx;simp only[ck] at hv;split at hv
  .rename_i i hi;exact Sm hT hi S hE hG dx.1 dx.2 hv
  .simp[bw] at hv
 |nilCheck x=>
  simp[Op.operands] at dx;exact Sl S hE hG dx hv
 |binOp bo t x y yt=>
  simp[Op.operands] at dx;by_cases NL:bo=.eql\/bo=.neq
  .have X8:∃ks i,ck T (.binOp bo t x y yt)=.bin bo ks x y/\T t=some i/\Di T t i.u ks:=by
    have aoz:ck T (.binOp bo t x y yt)=(match T t with
      |some i=>match i.u with
       |.slice _=>.bin bo [3] x y
       |.pointer _=>.bin bo [4] x y
       |.map _ _=>.bin bo [5] x y
       |.func _ _ _=>.bin bo [6] x y
       |.struct _=>match kinds T 9 t with|some ks=>.bin bo (9::ks) x y|none=>.bad
       |.array _ _=>match kinds T 9 t with|some ks=>.bin bo (9::ks) x y|none=>.bad
       |.bool=>.bin bo [0] x y
       |.int _=>.bin bo [1] x y
       |.string=>.bin bo [2] x y
       |_=>.bad
      |none=>.bad):=by
     rcases NL with rfl|rfl<;>rfl
    rw[aoz] at hv⊢;split at hv
    .rename_i i hi;simp only[hi];split at hv
     .rename_i hu;exact⟨[3],i,rfl,rfl,.inl ⟨_,hu,rfl⟩⟩
     .rename_i hu;exact⟨[4],i,rfl,rfl,.inr (.inl ⟨_,hu,rfl⟩)⟩
     .rename_i hu;exact⟨[5],i,rfl,rfl,.inr (.inr (.inl ⟨_,_,hu,rfl⟩))⟩
     .rename_i hu;exact⟨[6],i,rfl,rfl,.inr (.inr (.inr (.inl ⟨_,_,_,hu,rfl⟩)))⟩
     .rename_i hu;split at hv
      .rename_i ks NT;exact⟨9::ks,i,rfl,rfl,.inr (.inr (.inr (.inr (.inl ⟨(),_,by rw[hu];rfl,NT,rfl⟩))))⟩
      .simp[bw] at hv
     .rename_i hu;split at hv
      .rename_i ks NT;exact⟨9::ks,i,rfl,rfl,.inr (.inr (.inr (.inr (.inl ⟨(),_,by rw[hu];rfl,NT,rfl⟩))))⟩
      .simp[bw] at hv
     .rename_i hu;exact⟨[0],i,rfl,rfl,.inr (.inr (.inr (.inr (.inr (.inl ⟨hu,rfl⟩)))))⟩
     .rename_i hu;exact⟨[1],i,rfl,rfl,.inr (.inr (.inr (.inr (.inr (.inr (.inl ⟨_,hu,rfl⟩))))))⟩
     .rename_i hu;exact⟨[2],i,rfl,rfl,.inr (.inr (.inr (.inr (.inr (.inr (.inr ⟨hu,rfl⟩))))))⟩
     .simp[bw] at hv
    .simp[bw] at hv
   obtain⟨ks,i,X8,jO,Tt⟩:=X8;rw[X8] at hv;exact Sj hT S hE hG dx.1 dx.2 NL jO Tt hv
  .have X8:ck T (.binOp bo t x y yt)=.bin bo [] x y:=by cases bo<;>first|rfl|(exact absurd (.inl rfl) NL)|(exact absurd (.inr rfl) NL)
   rw[X8] at hv;exact Ot S hE hG dx.1 dx.2 ⟨fun h=>NL (.inl h),fun h=>NL (.inr h)⟩ hv
 |unOp uo t x=>
  simp[Op.operands] at dx;exact ajq S hE hG dx hv
 |convert s d x=>
  simp[Op.operands] at dx;simp only[ck] at hv;split at hv
  .rename_i i j hi hj;split at hv
   .rename_i h1 h2;exact ZZ hT hi hj h1 h2 S hE hG dx hv
   .simp[bw] at hv
  .simp[bw] at hv
 |makeFunc fn first caps=>
  cases fn with
  |func f=>
   simp only[ck] at hv;cases hf:first.isEmpty with
   |false=>simp[hf,bw] at hv
   |true=>
    simp only[hf,cond_true] at hv;have Rq:caps.toList.all (bp ng)=true:=by
     have hf0:first= #[]:=by simpa using hf
     subst hf0;simpa [Op.operands] using dx
    exact Z1 S hE hG hf Rq hv
  |_=>simp[ck,bw] at hv
 |makeMap t r=>
  cases r with
  |some r=>simp[ck,bw] at hv
  |none=>
   simp only[ck,bw,jm,vz] at hv;obtain⟨rfl,rfl⟩:=hv;exact WA S
 |makeSlice t l c=>
  simp[Op.operands] at dx;simp only[ck] at hv;split at hv
  .rename_i i hi;split at hv
   .rename_i el hu;split at hv
    .rename_i ei j5;exact Ou hT hi hu j5 S hE hG dx.1 dx.2 hv
    .simp[bw] at hv
   .simp[bw] at hv
  .simp[bw] at hv
 |slice t x lo hi mx=>
  simp only[ck] at hv;split at hv
  .rename_i i zi;split at hv
   .rename_i el hu;split at hv
    .rename_i ei j5;cases hc:mx.isSome&&hi.isNone with
     |true=>simp[hc,bw] at hv
     |false=>
      simp only[hc,cond_false] at hv;have jo:bp ng x=true/\lo.toList.all (bp ng)=true/\hi.toList.all (bp ng)=true/\mx.toList.all (bp ng)=true:=by simp[Op.operands] at dx;refine⟨dx.1,?_⟩;cases lo<;>cases hi<;>cases mx<;>simp_all
      exact WD hT zi hu j5 hc S hE hG jo.1 jo.2.1 jo.2.2.1 jo.2.2.2 hv
    .simp[bw] at hv
   .simp[bw] at hv
  .simp[bw] at hv
 |fieldAddr t x k=>
  simp[Op.operands] at dx;simp only[ck] at hv;split at hv
  .rename_i i hi;split at hv
   .rename_i fs hu;split at hv
    .rename_i f hf;split at hv
     .rename_i fi NP;cases hz:Nat.beq fi.size 0 with
      |true=>simp[hz,bw] at hv
      |false=>
       simp only[hz,cond_false] at hv;exact Wx hT hi hu hf NP (by intro h;rw[h] at hz;cases hz) S hE hG dx hv
     .simp[bw] at hv
    .simp[bw] at hv
   .simp[bw] at hv
  .simp[bw] at hv
 |indexAddr t x y=>
  simp[Op.operands] at dx;simp only[ck] at hv;split at hv
  .rename_i i hi;split at hv
   .rename_i el hu;split at hv
    .rename_i ei j5;exact EA hT hi hu j5 S hE hG dx.1 dx.2 hv
    .simp[bw] at hv
   .rename_i n el hu;split at hv
    .rename_i ei j5;exact Ez hT hi hu j5 S hE hG dx.1 dx.2 hv
    .simp[bw] at hv
   .simp[bw] at hv
  .simp[bw] at hv
 |field t x k=>
  simp[Op.operands] at dx;simp only[ck] at hv;split at hv
  .rename_i i hi;split at hv
   .rename_i fs hu;split at hv
    .rename_i f hf;split at hv
     .rename_i fi NP;exact Wy hT hi hu hf NP S hE hG dx hv
     .simp[bw] at hv
    .simp[bw] at hv
   .simp[bw] at hv
  .simp[bw] at hv
 |index t x y=>
  simp[Op.operands] at dx;simp only[ck] at hv;split at hv
  .rename_i i hi;split at hv
   .rename_i hu;exact I6 hT hi hu S hE hG dx.1 dx.2 hv
   .rename_i n el hu;split at hv
    .rename_i ei j5;exact I5 hT hi hu j5 S hE hG dx.1 dx.2 hv
    .simp[bw] at hv
   .simp[bw] at hv
  .simp[bw] at hv
 |extract x i=>
  simp[Op.operands] at dx;exact aeq S hE hG dx hv
 |lookup t x y ok=>
  simp[Op.operands] at dx;simp only[ck] at hv;split at hv
  .rename_i i hi;split at hv
   .rename_i kt el hu;split at hv
    .rename_i ki ei CX j5;split at hv
     .rename_i fs z Fk hz pD;split at hv
      .rename_i ks Bj;exact Lu hT hi hu CX Bj (by rw[(hT kt ki CX).agg,Fk];rfl) (.inl ⟨_,Fk⟩) j5 hz pD S hE hG dx.1 dx.2 hv
      .simp[bw] at hv
     .rename_i n Ih z Fk hz pD;split at hv
      .rename_i ks Bj;exact Lu hT hi hu CX Bj (by rw[(hT kt ki CX).agg,Fk];rfl) (.inr ⟨_,_,Fk⟩) j5 hz pD S hE hG dx.1 dx.2 hv
      .simp[bw] at hv
     .simp[bw] at hv
    .simp[bw] at hv
   .simp[bw] at hv
  .simp[bw] at hv
 |mapUpdate t x y z=>
  simp[Op.operands] at dx;simp only[ck] at hv;split at hv
  .rename_i i hi;split at hv
   .rename_i kt el hu;split at hv
    .rename_i ki CX;split at hv
     .rename_i fs Fk;split at hv
      .rename_i ks Bj;obtain⟨w',rfl,hr,S',E'⟩:=Lv hT hi hu CX Bj (by rw[(hT kt ki CX).agg,Fk];rfl) (.inl ⟨_,Fk⟩) S hE hG dx.1 dx.2.1 dx.2.2 hv;refine⟨ρ,w',undef,.inr ⟨rfl,?_⟩,VR.undef,S',E'⟩;show((do Instr.mapUpdate t (a.eval x) (a.eval y) (a.eval z);pure Next.skip):Sem Next).run P w=_;simp[hr]
      .simp[bw] at hv
     .rename_i n Ih Fk;split at hv
      .rename_i ks Bj;obtain⟨w',rfl,hr,S',E'⟩:=Lv hT hi hu CX Bj (by rw[(hT kt ki CX).agg,Fk];rfl) (.inr ⟨_,_,Fk⟩) S hE hG dx.1 dx.2.1 dx.2.2 hv;refine⟨ρ,w',undef,.inr ⟨rfl,?_⟩,VR.undef,S',E'⟩;show((do Instr.mapUpdate t (a.eval x) (a.eval y) (a.eval z);pure Next.skip):Sem Next).run P w=_;simp[hr]
      .simp[bw] at hv
     .simp[bw] at hv
    .simp[bw] at hv
   .simp[bw] at hv
  .simp[bw] at hv
 |call c=>
  obtain⟨cal,args,ats⟩:=c;have cR:∀b,cal=.builtin b->∃cs,((execOp a.eval { dst:=dst,op:=.call { callee:=cal,args:=args,argTypes:=ats },type:=ty,pos:=pos,after:=aft,guard:=gd }).run P w)=(builtin b ats ty cs (args.map a.eval)).run P w:=by rintro b rfl;exact⟨_,rfl⟩
  have Rg:∀ {l:List Operand},args.toList=l->args.map a.eval=(l.map a.eval).toArray:=by intro l hl;apply Array.ext';simp[<-hl]
  have U7:∀ {l:List TypeId},ats.toList=l->ats=l.toArray:=by intro l hl;apply Array.ext';simp[<-hl]
  have jo:args.toList.all (bp ng)=true:=by cases cal<;>simp[Op.operands,Call.operands] at dx<;>simp<;>first|exact dx|exact dx.2
  simp only[ck,wS] at hv;split at hv
  .simp[bw] at hv
  .
   obtain⟨cs,hr⟩:=cR _ rfl;rw[hr];split at hv
   .rename_i x t hx ht;rw[Rg hx,U7 ht];rw[hx] at jo;simp at jo;split at hv
    .rename_i i hi;split at hv
     .rename_i el hu;exact aer hT hi hu S hE hG jo hv
     .rename_i hu;exact Z3 hT hi hu S hE hG jo hv
     .simp[bw] at hv
    .simp[bw] at hv
   .simp[bw] at hv
  .
   obtain⟨cs,hr⟩:=cR _ rfl;rw[hr];split at hv
   .rename_i x y t t' hx ht;rw[Rg hx,U7 ht];rw[hx] at jo;simp at jo;split at hv
    .rename_i i i' hi zi;split at hv
     .rename_i el hu;split at hv
      .rename_i ei j5;split at hv
       .rename_i k hk;exact Hk hT hi hu j5 zi (by simpa using⟨k,hk⟩) S hE hG jo.1 jo.2 hv
       .rename_i k hk;exact Hk hT hi hu j5 zi (by simpa using⟨k,hk⟩) S hE hG jo.1 jo.2 hv
       .simp[bw] at hv
      .simp[bw] at hv
     .simp[bw] at hv
    .simp[bw] at hv
   .simp[bw] at hv
  .
   obtain⟨cs,hr⟩:=cR _ rfl;rw[hr];split at hv
   .rename_i x y t t' hx ht;rw[Rg hx,U7 ht];rw[hx] at jo;simp at jo;split at hv
    .rename_i i hi;split at hv
     .rename_i el hu;split at hv
      .rename_i ei j5;exact Z0 hT hi hu j5 S hE hG jo.1 jo.2 hv
      .simp[bw] at hv
     .simp[bw] at hv
    .simp[bw] at hv
   .simp[bw] at hv
  .
   obtain⟨cs,hr⟩:=cR _ rfl;rw[hr];split at hv
   .rename_i x t hx ht;rw[Rg hx,U7 ht];rw[hx] at jo;simp at jo;split at hv
    .rename_i i hi;split at hv
     .rename_i el hu;split at hv
      .rename_i ei j5;exact Ww hT hi hu j5 S hE hG jo hv
      .simp[bw] at hv
     .simp[bw] at hv
    .simp[bw] at hv
   .simp[bw] at hv
  .
   obtain⟨cs,hr⟩:=cR _ rfl;rw[hr];split at hv
   .rename_i x t hx ht;rw[Rg hx,U7 ht];rw[hx] at jo;simp at jo;split at hv
    .rename_i i hi;split at hv
     .rename_i el hu;exact aep hT hi hu S hE hG jo hv
     .simp[bw] at hv
    .simp[bw] at hv
   .simp[bw] at hv
  .
   obtain⟨cs,hr⟩:=cR _ rfl;rw[hr];split at hv
   .rename_i x y hx;rw[Rg hx];rw[hx] at jo;simp at jo;exact aes S hE hG jo.1 jo.2 hv
   .simp[bw] at hv
  .simp[bw] at hv
 |_=>simp[ck,bw] at hv
end
section
variable{P:Program}{b:Frame}{a:Act}{k:List Item}{c:Frame}{cs:List Frame}{w:World}
theorem ajS(hr:b.roundOf=none):step P (lone (on b a (.code .ret::k)) cs w)=.next (lone {on b a (.code .ret::k) with mode:=.returning} cs w):=
 step_lone_go (by simp[stepG,stepG.exec,on,hr])
theorem ajR(hr:b.roundOf=none):step P (lone (on b a []) cs w)=.next (lone {on b a [] with mode:=.returning} cs w):=
 step_lone_go (by simp[stepG,stepG.exec,on,hr])
theorem Iw{x:Option (List Deferred)}(hh:w.heap[r]?=some (.deferred x)):(getObj r).run P w=.ok (.deferred x) w:=by simp only[getObj,Sem.run,hh]
theorem Jq{x:Option (List Deferred)}(o:Obj)(hh:w.heap[r]?=some (.deferred x)):(setObj r o).run P w=.ok () {w with heap:=w.heap.setIfInBounds r o} :=by simp only[setObj,Sem.run,hh]
theorem UQ(hh:w.heap[r]?=some (.loop L)):(getObj r).run P w=.ok (.loop L) w:=by simp only[getObj,Sem.run,hh]
theorem EZ(o:Obj)(hh:w.heap[r]?=some (.loop L)):(setObj r o).run P w=.ok () {w with heap:=w.heap.setIfInBounds r o} :=by simp only[setObj,Sem.run,hh]
theorem sy(hh:w.heap[r]?=some (.loop L)):(Instr.getLoop r).run P w=.ok L w:=by simp only[Instr.getLoop,Sem.run_bind,UQ hh,Result.andThen_ok,Sem.run_pure]
theorem LR{fr:Frame}{ds:List Deferred}(hm:fr.mode=.returning)(hd:fr.defers= { target:=.collected r,args:= #[] } ::ds)(hh:w.heap[r]?=some (.deferred (some []))):
  step P (lone fr cs w)=.next (lone {fr with defers:=ds} cs {w with heap:=w.heap.setIfInBounds r (.deferred none)}):=by
 refine step_lone_go ?_;have h1:(Instr.takeDeferred r).run P w=.ok [] {w with heap:=w.heap.setIfInBounds r (.deferred none)} :=by simp only[Instr.takeDeferred,Sem.run_bind,Iw hh,Jq _ hh,Result.andThen_ok,Sem.run_pure]
 simp[stepG,hm,unwind,hd,h1]
theorem Ji{l:Nat}(hr:b.roundOf=some l)(hh:w.heap[l]?=some (.loop L))(hs:L.state=.ready):
  step P (lone (on b a (.beginRound::k)) cs w)=.next (lone (on b a k) cs { w with heap:=w.heap.setIfInBounds l (.loop {L with state:=.busy}) }):=by
 refine step_lone_go ?_;have h1:(Instr.beginRound l).run P w=.ok () { w with heap:=w.heap.setIfInBounds l (.loop {L with state:=.busy}) } :=by simp only[Instr.beginRound,Sem.run_bind,sy hh,EZ _ hh,Result.andThen_ok,hs,Sem.run_pure]
 simp[stepG,stepG.exec,stepG.apply,on,hr,h1,Frame.finish]
theorem uG{l:Nat}(ZF:Option Code)(hh:w.heap[l]?=some (.loop L)):
  (Instr.endRound l ZF).run P w=.ok (.bool ZF.isNone) { w with heap:=w.heap.setIfInBounds l (.loop {L with state:=if ZF.isNone then .ready else .done,pending:=ZF}) } :=by
 simp only[Instr.endRound,Sem.run_bind,sy hh,EZ _ hh,Result.andThen_ok,Sem.run_pure]
theorem LU{l:Nat}(hr:b.roundOf=some l)(hk:b.kind=.normal)(hh:w.heap[l]?=some (.loop L)):
  step P (lone (on b a []) (c::cs) w)=.next (lone (c.finish (.bool true)) cs { w with heap:=w.heap.setIfInBounds l (.loop {L with state:=.ready,pending:=none}) }):=by
 refine step_lone_go ?_;have h1:=uG (P:=P) none hh;simp[stepG,stepG.exec,on,hr,h1,doReturn,hk]
theorem LV{l:Nat}(hr:b.roundOf=some l)(hk:b.kind=.normal)(hh:w.heap[l]?=some (.loop L)):
  step P (lone (on b a (.code .ret::k)) (c::cs) w)=.next (lone (c.finish (.bool false)) cs { w with heap:=w.heap.setIfInBounds l (.loop {L with state:=.done,pending:=some .ret}) }):=by
 refine step_lone_go ?_;have h1:=uG (P:=P) (some .ret) hh;simp[stepG,stepG.exec,on,hr,h1,doReturn,hk]
theorem Jk{l id:Nat}(hr:b.roundOf=some l)(hk:b.kind=.normal)(hh:w.heap[l]?=some (.loop L))(he:exitTo id k=none):
  step P (lone (on b a (.code (.exit id)::k)) (c::cs) w)=.next (lone (c.finish (.bool false)) cs { w with heap:=w.heap.setIfInBounds l (.loop {L with state:=.done,pending:=some (.exit id)}) }):=by
 refine step_lone_go ?_;have h1:=uG (P:=P) (some (.exit id)) hh;simp[stepG,stepG.exec,on,hr,h1,doReturn,hk,he]
theorem ajT{ps:Array Tmp}{asg body:Code}{g:FuncId}{args:Array Value}{w':World}(hr:b.roundOf=none)(cR:(do let d<-resolve a.eval { callee:=.value f,args:= #[.const (.func (.yield (w.heap.size+1)) #[] #[])],argTypes:= #[] } 0;invoke d.target d.args).run P
   { w with heap:=(w.heap.push (.deferred (some []))).push (.loop { state:=.ready,pending:=none,fn:=b.fn,tmps:=a.tmps,params:=ps,assign:=asg,body:=body,defers:=w.heap.size }) } =.ok (.enter g args) w'):
  step P (lone (on b a (.code (.rangeFunc f ps asg body)::k)) cs w)=
   .next (lone (Frame.enter P g args .normal) (on b { a with defers:= { target:=.collected w.heap.size,args:= #[] } ::a.defers } (.inRangeFunc (w.heap.size+1)::k)::cs) w'):=by
 refine step_lone_go ?_;have h1:(Instr.enterLoop b.fn a.tmps ps asg body none).run P w=.ok (w.heap.size+1,[{ target:=.collected w.heap.size,args:= #[] }])
   { w with heap:=(w.heap.push (.deferred (some []))).push (.loop { state:=.ready,pending:=none,fn:=b.fn,tmps:=a.tmps,params:=ps,assign:=asg,body:=body,defers:=w.heap.size }) } :=by
  simp only[Instr.enterLoop,Sem.run_bind,run_newObj,Result.andThen_ok,Sem.run_pure,Array.size_push]
 have he:∀(t:List Item)(ds:List Deferred),({ fn:=b.fn,tmps:=a.tmps,todo:=t,defers:=ds,mode:=.run,kind:=b.kind,roundOf:=b.roundOf } :Frame).eval=a.eval:=by intro t ds;funext x;cases x<;>rfl
 rw[hr] at he;simp only[stepG,stepG.exec,on,hr,Sem.runT_eq,h1,GStep.bare_after];simp only[List.cons_append,List.nil_append,he];simp[stepG.apply,cR]
theorem Xm{l:Nat}(hh:w.heap[l]?=some (.loop L))(hs:(L.state==.busy)=false):
  step P (lone (on b a (.endRangeFunc l::k)) cs w)=.next (lone (on b a ((L.pending.map Item.code).toList++k)) cs { w with heap:=w.heap.setIfInBounds l (.loop {L with state:=.exhausted}) }):=by
 refine step_lone_go ?_;have h1:(Instr.endLoop l).run P w=.ok L.pending { w with heap:=w.heap.setIfInBounds l (.loop {L with state:=.exhausted}) } :=by simp only[Instr.endLoop,Sem.run_bind,sy hh,Result.andThen_ok,hs,Nt,if_false,EZ _ hh,Sem.run_pure]
 simp[stepG,stepG.exec,on,h1]
theorem J6{ρ:Operand->Value}{args:Array Operand}{ats:Array TypeId}{ty:TypeId}(hf:ρ f=.func (.func g) first caps)(PN:P.funcs[g]?=some fn)(hb:fn.body.isSome=true)(hn:(fn.name== "runtime.NumGoroutine")=false):
  (do let d<-resolve ρ { callee:=.value f,args:=args,argTypes:=ats } ty;invoke d.target d.args).run P w=.ok (.enter g (first++args.map ρ++caps)) w:=by
 have gk:¬(fn.body=none):=by intro h;rw[h] at hb;cases hb
 have Tu:¬(fn.name= "runtime.NumGoroutine"):=by simpa using hn
 simp[resolve,hf,Deferred.ofValue,invoke,callFunc,PN,Tu,gk]
theorem Tg{ρ:Operand->Value}{args:Array Operand}{ats:Array TypeId}{ty:TypeId}{l:Nat}(hf:ρ f=.func (.yield l) #[] #[])(hh:w.heap[l]?=some (.loop L))(hs:args.size=L.params.size):
  (do let d<-resolve ρ { callee:=.value f,args:=args,argTypes:=ats } ty;invoke d.target d.args).run P w=
   .ok (.round l L.fn ((L.params.zip (args.map ρ)).foldl (fun tmps (t,a)=>tmps.setIfInBounds t a) L.tmps) L.assign L.body) w:=by
 simp[resolve,hf,Deferred.ofValue,invoke,Instr.yield,sy hh,hs]
end
abbrev pq:=Nat->List Oper->List (aY×List Nat)
def yM(T:oR):ResultVar->Option AY
 |.tmp t=>some (.tmp t)
 |.cell a t=>match T t with
  |some i=>some (.cell a (xu i))
  |none=>none
section
variable(P:Program)(T:oR)(ng:Nat)(dr:pq)(F:Nat->Option bM)
def eO:bK:=fun k ac c=>∃n,n<=k/\ac=bX T ng n dr c/\iW c=true
def abY(f:Nat)(args:List Value)(h:ae)(v:Value)(h':ae):Prop:=
 ∀(cx:List Value)(ρ:dE)(w:World),cK (eO T ng dr) ρ h w->cj ng ρ->All2 (VR ρ) args cx->∀cs:List Frame,
  ∃fn ρ' w' c fr,P.funcs[f]?=some fn/\fn.body.isSome=true/\(fn.name== "runtime.NumGoroutine")=false/\
   Steps P (lone (Frame.enter P f ⟨cx⟩ .normal) cs w) (lone fr cs w')/\fr.fn=f/\fr.leaving P w' (.returned c)/\VR ρ' v c/\cK (eO T ng dr) ρ' h' w'/\Ext ρ h w ρ' h' w'
def T2(f:Nat)(p:List Value->ae->Option (Value×ae)):Prop:=∀args h v h',p args h=some (v,h')->abY P T ng dr f args h v h'
def Pl(f:Nat):Prop:=∃fn t el i ei,P.funcs[f]?=some fn/\fn.body.isNone=true/\(fn.name== "runtime.NumGoroutine")=false/\Extern.findNext fn=none/\
 Extern.find fn=some (Extern.SlicesOverlaps.overlaps fn.params fn.resultTypes)/\fn.params[0]?=some t/\T t=some i/\i.u=.slice el/\T el=some ei
def Cy:Prop:=∀f af,F f=some af->match af.Bw with
 |.no=>∃fn c,P.funcs[f]?=some fn/\fn.body=some c/\(fn.name== "runtime.NumGoroutine")=false/\
  All2 (fun r ar=>yM T r=some ar) fn.results.toList af.res/\af.body=bX T ng fn.ntmps dr c
 |.run p _=>T2 P T ng dr f p
 |.Ox=>Pl P T f
end
def xt(ρ:dE)(h:ae)(k:Nat):Prop:=∀x r o,ρ x=some r->h.tr.get x=some o->r.aC≠k
def mark(r:Nat):Deferred:= { target:=.collected r,args:= #[] }
def xL(B:Nat)(ρ:dE)(h:ae)(w:World)(ds:List Deferred):Prop:=
 ∃rs:List Nat,ds=rs.map mark/\rs.Nodup/\∀r∈rs,B<=r/\w.heap[r]?=some (.deferred (some []))/\xt ρ h r
theorem xt.ext{k:Nat}(hf:xt ρ h k)(E:Ext ρ h w ρ' h' w')(hk:k<w.heap.size):xt ρ' h' k:=by
 intro x r o hx ho e;rcases E.live x r o hx ho with h1|⟨b,r0,o0,h1,h2,h3⟩
 .omega
 .exact hf b r0 o0 h1 h2 (h3.trans e)
theorem xL.ext{B:Nat}{ρ ρ':dE}{h h':ae}{w w':World}{ds:List Deferred}(hd:xL B ρ h w ds)(E:Ext ρ h w ρ' h' w'):xL B ρ' h' w' ds:=by obtain⟨rs,h1,h2,h3⟩:=hd;refine⟨rs,h1,h2,fun r hr=>?_⟩;obtain⟨h4,h5,h6⟩:=h3 r hr;have dS:=jd h5;refine⟨h4,?_,h6.ext E dS⟩;rw[E.mE r dS,h5];rintro x rx hx⟨o,ho,_⟩;exact h6 x rx o hx ho
def Dh(P:Program)(b:Frame)(k:List Item)(cs:List Frame)(m:Machine):aT->Act->World->Prop
 |.normal,a,w=>Steps P m (lone (on b a k) cs w)
 |.exit id,a,w=>∃k',Steps P m (lone (on b a (.code (.exit id)::k')) cs w)/\exitTo id k'=exitTo id k
 |.ret,a,w=>∃k',Steps P m (lone (on b a (.code .ret::k')) cs w)
theorem Dh.of_steps{b:Frame}{k:List Item}{m m':Machine}{x:aT}(h:Steps P m m')(g:Dh P b k cs m' x a w):Dh P b k cs m x a w:=by
 cases x with
 |normal=>exact Steps.trans h g
 |exit id=>obtain⟨k',h1,h2⟩:=g;exact⟨k',h.trans h1,h2⟩
 |ret=>obtain⟨k',h1⟩:=g;exact⟨k',h.trans h1⟩
section
variable{P:Program}{T:oR}{ng:Nat}{dr:pq}{F:Nat->Option bM}{ih:aq->Env->ae->R}
structure vB(CC:bK)(B:Nat)(ρ:dE)(h:ae)(w:World)(a:Act)(ρ':dE)(e':Env)(h':ae)(w':World)(a':Act):Prop where
 Qw:cK CC ρ' h' w'
 er:ER ρ' e' a'.tmps
 size:a'.tmps.size=a.tmps.size
 ext:Ext ρ h w ρ' h' w'
 defs:xL B ρ' h' w' a'.defers
def pt(P:Program)(T:oR)(ng:Nat)(dr:pq)(ih:aq->Env->ae->R):Prop:=
 ∀(n:Nat)(c:Code)(e:Env)(h:ae)(x:aT)(e':Env)(h':ae),ih (bX T ng n dr c) e h=some (x,e',h')->
  ∀(B:Nat)(ρ:dE)(w:World)(a:Act)(b:Frame)(k:List Item)(cs:List Frame),cK (eO T ng dr) ρ h w->cj ng ρ->ER ρ e a.tmps->n<=a.tmps.size->B<=w.heap.size->xL B ρ h w a.defers->
   (b.roundOf=none\/iW c=true)->
   ∃ρ' w' a',Dh P b k cs (lone (on b a (.code c::k)) cs w) x a' w'/\vB (eO T ng dr) B ρ h w a ρ' e' h' w' a'
theorem ER.put{ρ:dE}{e:Env}{a:Act}(hE:ER ρ e a.tmps){dst:Option Nat}{v c:Value}(hd:∀d,dst=some d->d<a.tmps.size)(hv:VR ρ v c):ER ρ (cG e dst v) (a.put dst c).tmps:=by
 cases dst with
 |none=>exact hE
 |some d=>
  intro t;have dS:=hd d rfl;simp only[cG,Act.put,Env.az];by_cases ht:t=d
  .subst ht;simp[Array.getD,dS,hv]
  .rw[aW ht];have:=hE t;have he:(a.tmps.setIfInBounds d c).getD t undef=a.tmps.getD t undef:=by simp[Array.getD_eq_getD_getElem?,Array.getElem?_setIfInBounds,Ne.symm ht]
   rw[he];exact this
theorem dK(a:Act)(dst:Option Nat)(c:Value):(a.put dst c).tmps.size=a.tmps.size:=by cases dst<;>simp[Act.put]
theorem put_defers(a:Act)(dst:Option Nat)(c:Value):(a.put dst c).defers=a.defers:=by cases dst<;>rfl
theorem VR.of_bool{b:Bool}(h:VR ρ v (.bool b)):v=.bool b:=by
 cases h with
 |any h=>exact absurd rfl (h b)
 |val h=>cases h with
  |cell h=>cases h with
   |cell h=>cases h;rfl
theorem Fe(hE:ER ρ e a.tmps){g:Option (Nat×Bool)}(hg:(o.guard=none/\g=none)\/∃j b t,o.guard=some (j,b)/\BB ops.toList j=some t/\g=some (t,b)):Region.wanted o (yielded ops a.tmps)=wanted e g:=by
 rcases hg with⟨h1,rfl⟩|⟨j,b,t,h1,h2,rfl⟩
 .simp[Region.wanted,h1,wanted]
 .simp only[Region.wanted,h1,wanted];have hy:yielded ops a.tmps j=match a.tmps[t]? with|some (.bool c)=>some c|_=>none:=by
   unfold BB at h2;split at h2
   .rename_i o' CY;have apd:ops[j]?=some o':=by simpa using CY
    simp only[yielded,apd,Option.bind_some,h2];rfl
   .cases h2
  have hr:=hE t;rw[Array.getD_eq_getD_getElem?] at hr;rw[hy];cases hv:a.tmps[t]? with
  |none=>
   rw[hv] at hr;simp only[Option.getD_none] at hr;cases hq:ak e t with
   |bool c=>rw[hq] at hr;have:=hr.iA;cases this
   |_=>simp
  |some u=>
   rw[hv] at hr;simp only[Option.getD_some] at hr;cases u with
   |bool c=>
    rw[VR.of_bool hr];simp
   |_=>
    cases hq:ak e t with
    |bool c=>rw[hq] at hr;have:=hr.iA;cases this
    |_=>simp
theorem EI:∀(l:List Value)(e:Env)(i t:Nat),ak (params e i l) t=if i<=t then(match l[t-i]? with|some v=>v|none=>ak e t) else ak e t
 |[],e,i,t=>by simp[params]
 |v::l,e,i,t=>by
  rw[params,EI l _ (i+1) t];by_cases h1:i+1<=t
  .rw[aZ h1,aZ (by omega),show t-i=(t-(i+1))+1 by omega,List.getElem?_cons_succ];split
   .rfl
   .rw[Env.az,aW (by omega)]
  .rw[aW h1,Env.az];by_cases h2:t=i
   .subst h2;simp
   .rw[aW h2,aW (by omega)]
theorem Sr(h:All2 (VR ρ) args cx)(m:Nat):ER ρ (params .nil 0 args) ((⟨cx⟩:Array Value)++Array.replicate m undef):=by
 intro t;rw[EI];simp only[Nat.zero_le,if_true,Nat.sub_zero];rw[Array.getD_eq_getD_getElem?];cases ha:args[t]? with
 |some v=>
  obtain⟨c,hc,hr⟩:=h.get ha;have dS:=(cr.1 hc).1;rw[Array.getElem?_append_left (by simpa using dS)];have:(⟨cx⟩:Array Value)[t]?=some c:=by rw[<-hc];simp
  rw[this];exact hr
 |none=>
  have hge:args.length<=t:=List.getElem?_eq_none_iff.1 ha;have hl:=h.length;have:((⟨cx⟩:Array Value)++Array.replicate m undef)[t]?.getD undef=undef:=by
   by_cases ht:t<cx.length+m
   .rw[Array.getElem?_append_right (by simp;omega)];simp;by_cases hx:t-cx.length<m
    .simp[hx]
    .simp[hx]
   .rw[Array.getElem?_eq_none (by simp;omega)];rfl
  rw[this];exact VR.undef
theorem Jp :∀(ps:List Nat)(args cx:List Value)(e e':Env)(tmps:Array Value),All2 (VR ρ) args cx->gU e ps args=some e'->ER ρ e tmps->(∀t∈ps,t<tmps.size)->
  ER ρ e' ((ps.zip cx).foldl (fun(tmps:Array Value) (x:Nat×Value)=>tmps.setIfInBounds x.1 x.2) tmps)/\((ps.zip cx).foldl (fun(tmps:Array Value) (x:Nat×Value)=>tmps.setIfInBounds x.1 x.2) tmps).size=tmps.size/\ps.length=args.length:=by
 intro ps;induction ps with
 |nil=>
  intro args cx e e' tmps ha hs hE _;cases ha with
  |nil=>simp only[gU,jm] at hs;subst hs;exact⟨hE,rfl,rfl⟩
  |cons=>simp[gU] at hs
 |cons t ps ihp=>
  intro args cx e e' tmps ha hs hE dS;cases ha with
  |nil=>simp[gU] at hs
  | @cons v c args cx hv KU=>
   simp only[gU] at hs;have Vs:=ER.put (a:=⟨tmps,[]⟩) (dst:=some t) hE (fun d hd=>by cases hd;exact dS t (by simp)) hv;simp only[cG,Act.put] at Vs;obtain⟨h1,h2,h3⟩:=ihp args cx _ e' (tmps.setIfInBounds t c) KU hs Vs (fun u hu=>by simpa using dS u (by simp[hu]));exact⟨h1,by simpa using h2,by simp[h3]⟩
def aae(tmps:Array Value):ResultVar->Sem Value
 |.tmp t=>pure (tmps.getD t undef)
 |.cell a t=>do loadVar t (<-asAddr (tmps.getD a undef))
theorem OG(fn:Func)(tmps:Array Value):Go.results fn tmps=(do
  let vs<-fn.results.mapM (aae tmps)
  pure (if h:vs.size=1 then vs[0] else .tuple vs)):=by
 unfold Go.results;congr 1
theorem LM(hT:cu P T)(S:cK CC ρ h w)(hE:ER ρ e tmps):
  ∀(rs:List ResultVar)(Mr:List AY)(vs:List Value),All2 (fun r ar=>yM T r=some ar) rs Mr->results e h Mr=some vs->
   ∃cs:List Value,All2 (VR ρ) vs cs/\∀r c,(r,c)∈rs.zip cs->(aae tmps r).run P w=.ok c w:=by
 intro rs;induction rs with
 |nil=>
  intro Mr vs ha hr;cases ha;simp only[results,jm] at hr;subst hr;exact⟨[],.nil,fun r c h=>by simp at h⟩
 |cons r rs ihr=>
  intro Mr vs ha hr;cases ha with
  | @cons _ ar _ Mr h1 h2=>
  cases r with
  |tmp t=>
   simp only[yM,jm] at h1;subst h1;simp only[results] at hr;split at hr
   .rename_i l hl;cases hr;obtain⟨cs,ID,cR⟩:=ihr Mr l h2 hl;refine⟨_::cs,.cons (hE t) ID,?_⟩;intro r c hm;simp only[List.zip_cons_cons,List.mem_cons,vz] at hm;rcases hm with⟨rfl,rfl⟩|hm
    .rfl
    .exact cR r c hm
   .cases hr
  |cell ad t=>
   simp only[yM] at h1;split at h1
   .rename_i i hi;cases h1;simp only[results] at hr;split at hr
    .rename_i b off heq;split at hr
     .rename_i cells abi;split at hr
      .rename_i v hv;split at hr
       .rename_i l hl;cases hr;obtain⟨cs,ID,cR⟩:=ihr Mr l h2 hl;have hp:=hE ad;rw[heq] at hp;obtain⟨rr,hrr,hc⟩:=hp.xj;obtain⟨c,aih,Zy⟩:=Qi (P:=P) S (hT t i hi) hrr abi hv;refine⟨c::cs,.cons Zy ID,?_⟩;intro r c' hm;simp only[List.zip_cons_cons,List.mem_cons,vz] at hm;rcases hm with⟨rfl,rfl⟩|hm
        .simp only[aae,Sem.run_bind,hc,asAddr,Sem.run_pure,Result.andThen_ok,aih]
        .exact cR r c' hm
       .cases hr
      .cases hr
     .cases hr
    .cases hr
   .cases h1
theorem Wa(f:α->Sem β):∀(l:List α)(m:List β)(w:World),l.length=m.length->(∀x y,(x,y)∈l.zip m->(f x).run P w=.ok y w)->∀acc:Array β,
  (l.foldlM (fun bs x=>bs.push <$> f x) acc).run P w=.ok (acc++m.toArray) w:=by
 intro l;induction l with
 |nil=>intro m w hl _ acc;cases m with
  |nil=>simp
  |cons=>simp at hl
 |cons x l ihl=>
  intro m w hl hx acc;cases m with
  |nil=>simp at hl
  |cons y m=>
   simp only[List.foldlM_cons,Sem.run_bind,zF,hx x y (by simp),Result.andThen_ok];rw[ihl m w (by simpa using hl) (fun u v huv=>hx u v (by simp[huv]))];congr 1;apply Array.ext';simp
theorem LN(hT:cu P T)(S:cK CC ρ h w)(hE:ER ρ e tmps){Mr:List AY}(ha:All2 (fun r ar=>yM T r=some ar) fn.results.toList Mr)(hr:results e h Mr=some vs)(dx:iH vs=true):∃c,(Go.results fn tmps).run P w=.ok c w/\VR ρ (result vs) c:=by
 obtain⟨cs,ID,cR⟩:=LM hT S hE _ _ _ ha hr;have bY:fn.results.toList.length=cs.length:=by
  have h1:=ha.length;have h2:=ID.length;have h3:∀(Mr:List AY)(vs:List Value),results e h Mr=some vs->vs.length=Mr.length:=by
   intro Mr;induction Mr with
   |nil=>intro vs h;simp only[results,jm] at h;subst h;rfl
   |cons r Mr ihr=>
    intro vs h;cases r with
    |tmp t=>
     simp only[results] at h;split at h
     .rename_i l hl;cases h;simp[ihr l hl]
     .cases h
    |cell ad n=>
     simp only[results] at h
     repeat (split at h<;>try cases h)
     rename_i l hl;simp[ihr l hl]
  have:=h3 _ _ hr;omega
 have hm:(fn.results.mapM (aae tmps)).run P w=.ok ⟨cs⟩ w:=by rw[Array.mapM_eq_foldlM,<-Array.foldlM_toList,Wa _ _ cs w bY cR];congr 1;apply Array.ext';simp
 refine⟨if h:(⟨cs⟩:Array Value).size=1 then(⟨cs⟩:Array Value)[0] else .tuple ⟨cs⟩,?_,?_⟩
 .rw[OG];simp only[Sem.run_bind,hm,Result.andThen_ok,Sem.run_pure]
 .match vs,cs,ID with
  |[v],[c],.cons hv .nil=>simpa [result] using hv
  |[],[],.nil=>simpa [result] using VR.tuple (ρ:=ρ) .nil
  |v1::v2::vs,c1::c2::cs,hh=>
   have cq:¬((⟨c1::c2::cs⟩:Array Value).size=1):=by simp
   rw[dif_neg cq];simp only[result];have mD:(v1::v2::vs).all uU=true:=dx;have conv:∀ {l m:List Value},All2 (VR ρ) l m->l.all uU=true->All2 (AR ρ) l m:=by
    intro l m h;induction h with
    |nil=>intro _;exact .nil
    |cons hv _ ihh=>
     intro hl;simp only[List.all_cons,uh] at hl;refine .cons ?_ (ihh hl.2);cases hv with
     |val h=>exact h
     |tuple=>simp[uU] at hl
     |atl=>simp[uU] at hl
     |any=>simp[uU] at hl
   exact VR.tuple (conv hh mD)
end
section
variable{P:Program}{T:oR}{ng:Nat}{dr:pq}{F:Nat->Option bM}{ih:aq->Env->ae->R}
theorem OW(B:Nat){CC:bK}{ρ₀ ρ:dE}{h₀ h:ae}{w₀:World}(hB:w₀.heap.size<=B):∀(rs:List Nat)(w:World)(fr:Frame)(cs:List Frame),fr.mode=.returning->fr.defers=rs.map mark->rs.Nodup->
  (∀r∈rs,B<=r/\w.heap[r]?=some (.deferred (some []))/\xt ρ h r)->cK CC ρ h w->Ext ρ₀ h₀ w₀ ρ h w->
  ∃w',Steps P (lone fr cs w) (lone {fr with defers:=[]} cs w')/\cK CC ρ h w'/\Ext ρ₀ h₀ w₀ ρ h w':=by
 intro rs;induction rs with
 |nil=>
  intro w fr cs _ hd _ _ S E;refine⟨w,?_,S,E⟩;have:({fr with defers:=[]} :Frame)=fr:=by cases fr;simp at hd;subst hd;rfl
  rw[this];exact Steps.refl P _
 |cons r rs ihr=>
  intro w fr cs hm hd hn mD S E;obtain⟨hBr,hh,hf⟩:=mD r (by simp);have dS:=jd hh;have Cb:=LR (P:=P) (cs:=cs) (ds:=rs.map mark) hm (by rw[hd];rfl) hh;have NZ:∀j,j≠r->(w.heap.setIfInBounds r (.deferred none))[j]?=w.heap[j]? :=fun j hj=>by simp[Ne.symm hj]
  have S':cK CC ρ h {w with heap:=w.heap.setIfInBounds r (.deferred none)} :=by refine⟨fun b rr hb=>⟨(S.low b rr hb).1,by simpa using(S.low b rr hb).2⟩,?_,S.inj,S.wf⟩;intro b rr o hb ho;exact gH.mono ρ.le_refl (NZ _ (hf b rr o hb ho)) (S.obj b rr o hb ho)
  have E':Ext ρ₀ h₀ w₀ ρ h {w with heap:=w.heap.setIfInBounds r (.deferred none)} :=by refine⟨E.le,E.next,by simpa using E.size,E.os,E.tape,E.output,?_,E.own,E.new,E.live⟩;intro k hk Bj;rw[<-E.mE k hk Bj];exact NZ k (by omega)
  obtain⟨w',N5,S'',E''⟩:=ihr {w with heap:=w.heap.setIfInBounds r (.deferred none)} {fr with defers:=rs.map mark} cs hm rfl (List.nodup_cons.1 hn).2
   (fun q hq=>by obtain⟨g1,g2,g3⟩:=mD q (by simp[hq]);refine⟨g1,?_,g3⟩;rw[<-g2];exact NZ q (fun e=>(List.nodup_cons.1 hn).1 (e▸hq))) S' E'
  exact⟨w',.head Cb N5,S'',E''⟩
theorem vV(hF:Cy P T ng dr F)(hT:cu P T)(hI:pt P T ng dr ih){f:Nat}(hc:si F ih f args h=some (v,h'))(S:cK (eO T ng dr) ρ h w)(hG:cj ng ρ)(ha:All2 (VR ρ) args cx)(cs:List Frame):
  ∃fn ρ' w' c fr,P.funcs[f]?=some fn/\fn.body.isSome=true/\(fn.name== "runtime.NumGoroutine")=false/\
   Steps P (lone (Frame.enter P f ⟨cx⟩ .normal) cs w) (lone fr cs w')/\fr.fn=f/\fr.leaving P w' (.returned c)/\VR ρ' v c/\cK (eO T ng dr) ρ' h' w'/\Ext ρ h w ρ' h' w':=by
 unfold si oi at hc;split at hc
 .cases hc
 .rename_i af haf;have hFf:=hF f af haf;split at hc
  .cases hc
  .rename_i p hp heq;rw[heq] at hFf;exact hFf args h v h' hc cx ρ w S hG ha cs
  rename_i heq;rw[heq] at hFf;obtain⟨fn,c,PN,aa6,KS,Zu,ahP⟩:=hFf
  let b:Frame:= {(default:Frame) with fn:=f,kind:=.normal}
  let a:Act:= { tmps:=(⟨cx⟩:Array Value)++Array.replicate (fn.ntmps-cx.length) undef,defers:=[] }
  have ac5:Frame.enter P f ⟨cx⟩ .normal=on b a [.code c]:=by simp[Frame.enter,on,PN,aa6,b,a];rfl
  have hER:ER ρ (params .nil 0 args) a.tmps:=Sr ha _;have qD:fn.ntmps<=a.tmps.size:=by simp[a];omega
  have Yb:xL w.heap.size ρ h w a.defers:=⟨[],rfl,List.nodup_nil,fun r hr=>by simp at hr⟩;rw[ahP] at hc
  
  have out:∀(e':Env)(h1:ae)(ρ':dE)(w':World)(a':Act),(∃k,Steps P (lone (on b a [.code c]) cs w) (lone {on b a' k with mode:=.returning} cs w'))->
    vB (eO T ng dr) w.heap.size ρ h w a ρ' e' h1 w' a'->
    (match results e' h1 af.res with|some vs=>bif iH vs then some (result vs,h1) else none|none=>none)=some (v,h')->
    ∃fn ρ' w' c fr,P.funcs[f]?=some fn/\fn.body.isSome=true/\(fn.name== "runtime.NumGoroutine")=false/\
     Steps P (lone (Frame.enter P f ⟨cx⟩ .normal) cs w) (lone fr cs w')/\fr.fn=f/\fr.leaving P w' (.returned c)/\VR ρ' v c/\cK (eO T ng dr) ρ' h' w'/\Ext ρ h w ρ' h' w':=by
   intro e' h1 ρ' w' a' ⟨k,N5⟩ hA hr;split at hr
   .rename_i vs uk;cases dx:iH vs with
    |false=>simp[dx] at hr
    |true=>
     simp only[dx,cond_true,jm,vz] at hr;obtain⟨rfl,rfl⟩:=hr;obtain⟨rs,hds,yU,mD⟩:=hA.defs;obtain⟨w2,tY,S2,E2⟩:=OW (P:=P) w.heap.size (dw _) rs w' {on b a' k with mode:=.returning} cs rfl hds yU mD hA.Qw hA.ext;obtain⟨cc,cR,Zy⟩:=LN (P:=P) hT S2 hA.er Zu uk dx;refine⟨fn,ρ',w2,cc,_,PN,by rw[aa6];rfl,KS,by rw[ac5];exact N5.trans tY,rfl,⟨rfl,rfl,rfl,fn,PN,cR⟩,Zy,S2,E2⟩
   .cases hr
  split at hc
  .rename_i e' h1 cR;obtain⟨ρ',w',a',CW,hA⟩:=hI fn.ntmps c _ h _ e' h1 cR w.heap.size ρ w a b [] cs S hG hER qD (dw _) Yb (.inl rfl);exact out e' h1 ρ' w' a' ⟨[],Steps.trans CW (.one (ajR rfl))⟩ hA hc
  .rename_i e' h1 cR;obtain⟨ρ',w',a',CW,hA⟩:=hI fn.ntmps c _ h _ e' h1 cR w.heap.size ρ w a b [] cs S hG hER qD (dw _) Yb (.inl rfl);obtain⟨k',C0⟩:=CW;exact out e' h1 ρ' w' a' ⟨_,C0.trans (.one (ajS rfl))⟩ hA hc
  .cases hc
theorem Cs(S:cK CC ρ h w){l:Nat}{r:vy}{env am5:Env}{ps C7:List Nat}{asg amH body agy:aq}{st st':Th}(hl:ρ l=some r)(hg:h.tr.get l=some (.loop am5 C7 amH agy st'))(hh:w.heap[r.aC]?=some (.loop L))(L':Loop)(dx:TV CC ρ r env ps asg body st {w with heap:=w.heap.setIfInBounds r.aC (.loop L')}):
  cK CC ρ (fB h l env ps asg body st) {w with heap:=w.heap.setIfInBounds r.aC (.loop L')} /\Ext ρ h w ρ (fB h l env ps asg body st) {w with heap:=w.heap.setIfInBounds r.aC (.loop L')} :=
 cK.xp (o':=.loop env ps asg body st) S hl hg rfl (JA.obj r.aC (.loop L')) dx h.clock
theorem heap_set(w:World){k:Nat}{o o':Obj}(h:w.heap[k]?=some o):(w.heap.setIfInBounds k o')[k]?=some o':=by have:=jd h;simp[this]
theorem Jg(hI:pt P T ng dr ih){l:Nat}(hc:uX ih l args h=some (v,h'))(S:cK (eO T ng dr) ρ h w)(hG:cj ng ρ)(ha:All2 (VR ρ) args cx){r:vy}(hl:ρ l=some r)(c:Frame)(cs:List Frame):
  ∃L ρ' w' cv,w.heap[r.aC]?=some (.loop L)/\cx.length=L.params.size/\
   Steps P (lone (Frame.round r.aC L.fn ((L.params.toList.zip cx).foldl (fun(tmps:Array Value) (x:Nat×Value)=>tmps.setIfInBounds x.1 x.2) L.tmps) L.assign L.body .normal) (c::cs) w) (lone (c.finish cv) cs w')/\
   VR ρ' v cv/\cK (eO T ng dr) ρ' h' w'/\Ext ρ h w ρ' h' w':=by
 unfold uX at hc;split at hc
 .rename_i env ps asg body dz;obtain⟨L,hh,hER,iI,⟨n1,hn1,KJ,PR⟩,⟨n2,NV,Mz,KT⟩,dS,C0⟩:=S.obj l r _ hl dz;split at hc
  .cases hc
  .rename_i e0 gE;obtain⟨hE0,aiQ,bY⟩:=Jp ps args cx env e0 L.tmps ha gE hER dS;rw[<-iI] at hE0 aiQ;have CJ:cx.length=L.params.size:=by have h1:=ha.length;rw[<-iI] at bY;simp at bY;omega
   let b:Frame:= {(default:Frame) with fn:=L.fn,kind:=.normal,roundOf:=some r.aC}
   let a:Act:= { tmps:=(L.params.toList.zip cx).foldl (fun(tmps:Array Value) (x:Nat×Value)=>tmps.setIfInBounds x.1 x.2) L.tmps,defers:=[] }
   have adI:Frame.round r.aC L.fn a.tmps L.assign L.body .normal=on b a [.code L.assign,.beginRound,.code L.body]:=rfl;refine⟨L,?_⟩;have hasz:a.tmps.size=L.tmps.size:=aiQ;split at hc
   .rename_i e1 h1 abk;rw[KJ] at abk;obtain⟨ρ1,w1,a1,aoB,Nx⟩:=hI n1 L.assign e0 h _ e1 h1 abk w.heap.size ρ w a b [.beginRound,.code L.body] (c::cs) S hG hE0 (by omega) (dw _)
     ⟨[],rfl,List.nodup_nil,fun r hr=>by simp at hr⟩ (.inr PR)
    have B9:=Nx.ext.le l r hl;unfold y_ at hc;split at hc
    .rename_i am6 ps1 amI agz GR;have aid:=Nx.Qw.obj l r _ B9 GR;obtain⟨L1,hh1,anp,Yh,AQ,JD,aij,aiO,apo⟩:=aid;have an_:=Ji (P:=P) (b:=b) (a:=a1) (k:=[.code L.body]) (cs:=c::cs) (w:=w1) rfl hh1 aiO;obtain⟨S2,E2⟩:=Cs (st:=.busy) Nx.Qw B9 GR hh1 {L1 with state:=.busy} ⟨{L1 with state:=.busy},heap_set w1 hh1,anp,Yh,AQ,JD,aij,rfl⟩;have E02:=Nx.ext.trans E2;have PL:=Nx.defs.ext E2;have tail:∀(x:aT)(e3:Env)(h3:ae)(st:Th)(bv:Bool)(St:Option Code)(lst:LoopState),HE st {L1 with state:=lst,pending:=St} ->
       (∀L3:Loop,HE st {L3 with state:=lst,pending:=St})->
       ih (bX T ng n2 dr L.body) e1 (fB h1 l am6 ps1 amI agz .busy)=some (x,e3,h3)->ny l h3 st bv=some (v,h')->
       (∀a3 w3 L3,w3.heap[r.aC]?=some (.loop L3)->Dh P b [] (c::cs) (lone (on b a1 [.code L.body]) (c::cs) { w1 with heap:=w1.heap.setIfInBounds r.aC (.loop {L1 with state:=.busy}) }) x a3 w3->
        Steps P (lone (on b a1 [.code L.body]) (c::cs) { w1 with heap:=w1.heap.setIfInBounds r.aC (.loop {L1 with state:=.busy}) })
         (lone (c.finish (.bool bv)) cs { w3 with heap:=w3.heap.setIfInBounds r.aC (.loop {L3 with state:=lst,pending:=St}) }))->
       ∃ρ' w' cv,w.heap[r.aC]?=some (.loop L)/\cx.length=L.params.size/\
        Steps P (lone (Frame.round r.aC L.fn ((L.params.toList.zip cx).foldl (fun(tmps:Array Value) (x:Nat×Value)=>tmps.setIfInBounds x.1 x.2) L.tmps) L.assign L.body .normal) (c::cs) w) (lone (c.finish cv) cs w')/\
        VR ρ' v cv/\cK (eO T ng dr) ρ' h' w'/\Ext ρ h w ρ' h' w':=by
      intro x e3 h3 st bv St lst _ hj Eb KN aie;obtain⟨ρ3,w3,a3,aoC,Mw⟩:=hI n2 L.body e1 _ x e3 h3 Eb w.heap.size ρ1 _ a1 b [] (c::cs) S2 (hG.mono Nx.ext.le) Nx.er (by rw[Nx.size];omega) (by simpa using Nx.ext.size) PL (.inr KT);have Ye:=Mw.ext.le l r B9;unfold ny at KN;split at KN
      .rename_i Q6 ps3 QM Gn aa9;cases KN;obtain⟨L3,NQ,anq,hp3,hc3,hc4,aik,aiP⟩:=Mw.Qw.obj l r _ Ye aa9;obtain⟨S4,E4⟩:=Cs (st:=st) Mw.Qw Ye aa9 NQ {L3 with state:=lst,pending:=St} ⟨{L3 with state:=lst,pending:=St},heap_set w3 NQ,anq,hp3,hc3,hc4,aik,hj L3⟩;refine⟨ρ3,_,.bool bv,hh,CJ,?_,VR.bool bv,S4,(E02.trans Mw.ext).trans E4⟩;rw[adI];exact(Steps.trans aoB (.head an_ (aie a3 w3 L3 NQ aoC)))
      .cases KN
     rw[Mz] at hc;split at hc
     .rename_i e3 h3 Eb;refine tail .normal e3 h3 .ready true none .ready ⟨rfl,rfl⟩ (fun _=>⟨rfl,rfl⟩) Eb hc ?_;intro a3 w3 L3 NQ CW;exact Steps.trans CW (.one (LU rfl rfl NQ))
     .rename_i e3 h3 Eb;refine tail .ret e3 h3 (.done none) false (some .ret) .done ⟨rfl,rfl⟩ (fun _=>⟨rfl,rfl⟩) Eb hc ?_;intro a3 w3 L3 NQ ⟨k',CW⟩;exact Steps.trans CW (.one (LV rfl rfl NQ))
     .rename_i id e3 h3 Eb;refine tail (.exit id) e3 h3 (.done (some id)) false (some (.exit id)) .done ⟨rfl,rfl⟩ (fun _=>⟨rfl,rfl⟩) Eb hc ?_;intro a3 w3 L3 NQ ⟨k',CW,hex⟩;exact Steps.trans CW (.one (Jk rfl rfl NQ hex))
     .cases hc
    .cases hc
   .cases hc
 .cases hc
end
theorem H6{c:Call}{args:List Operand}(h:wS T c=.call f args):c.callee=.value f/\c.args.toList=args:=by
 obtain⟨cal,cx,ats⟩:=c;unfold wS at h;split at h
 .rename_i g hg;injection h with h1 h2;subst h1;subst h2;exact⟨hg,rfl⟩
 all_goals (try dsimp only at h)
 all_goals (repeat' (first|(cases h;done)|split at h))
theorem DG{op:Op}{args:List Operand}(h:ck T op=.call f args):∃c,op=.call c/\c.callee=.value f/\c.args.toList=args:=by
 cases op with
 |call c=>exact⟨c,rfl,H6 h⟩
 |build t ps=>
  simp only[ck] at h;split at h
  .split at h
   .rename_i fs _;generalize (fs.toList.all fun f=>(T f.type).isSome)=bb at h;cases bb<;>simp only[cond_true,cond_false] at h<;>repeat' (first|(cases h;done)|split at h)
   .repeat' (first|(cases h;done)|split at h)
   .cases h
  .cases h
 |buildSlice t n ps=>
  simp only[ck] at h
  repeat' (first|(cases h;done)|split at h)
  rename_i e _;cases hb:(n*e.size).ble 1000000&&e.zero.length.beq e.size<;>simp only[hb,cond_true,cond_false] at h<;>cases h
 |slice t x lo hi mx=>
  simp only[ck] at h
  repeat' (first|(cases h;done)|split at h)
  cases hb:mx.isSome&&hi.isNone<;>simp only[hb,cond_true,cond_false] at h<;>cases h
 |fieldAddr t x k=>
  simp only[ck] at h
  repeat' (first|(cases h;done)|split at h)
  rename_i fi _;cases hb:fi.size.beq 0<;>simp only[hb,cond_true,cond_false] at h<;>cases h
 |makeFunc fn first caps=>
  cases fn with
  |func g=>
   simp only[ck] at h;cases hb:first.isEmpty<;>simp only[hb,cond_true,cond_false] at h<;>cases h
  |_=>simp only[ck] at h;cases h
 |makeMap t r=>cases r<;>(simp only[ck] at h;cases h)
 |next it st=>cases st<;>(simp only[ck] at h;cases h)
 |_=>
  simp only[ck] at h
  repeat' (first|(cases h;done)|split at h)
theorem Gr{op:Op}{x:Value×ae}(hv:bw e h (ck T op)=some x):Op.pQ op=false:=by
 cases op with
 |defer c=>simp[ck,bw] at hv
 |_=>rfl
section
variable{P:Program}{T:oR}{ng:Nat}{dr:pq}{F:Nat->Option bM}{ih:aq->Env->ae->R}
theorem GD{b:Nat}{ep:Array Value}{el:TypeId}(h:w.heap[b]?=some (.cells ep el (0,0)))(o:Nat):w.frozen? ⟨b,o,none⟩=false:=by simp[World.frozen?,h]
theorem Z5(hT:cu P T){f:Nat}(hO:Pl P T f)(S:cK CC ρ h w)(ha:All2 (VR ρ) args cx)(AU:∃a oa la ca b ob lb cb csa o1 s1 csb o2 s2,args=[.slice (some ⟨a,oa,none⟩) la ca,.slice (some ⟨b,ob,none⟩) lb cb]/\h.tr.get a=some (.aC csa false o1 s1)/\h.tr.get b=some (.aC csb false o2 s2)/\(la=0\/lb=0\/a≠b)):
  (callFunc f ⟨cx⟩).run P w=.ok (.value (.bool false)) w:=by
 obtain⟨fn,t,el,i,ei,h1,h2,h3,h4,h5,h6,h7,h8,h9⟩:=hO;obtain⟨a,oa,la,ca,b,ob,lb,cb,csa,o1,s1,csb,o2,s2,rfl,ga,gb,cq⟩:=AU
 match cx,ha with
 |[x,y],.cons hx (.cons hy .nil)=>
 obtain⟨ra,xa,xc,hra,rfl,N4⟩:=hx.fh;obtain⟨rb,ya,yc,Yl,rfl,xH⟩:=hy.fh;have o7:=(hT t i h7).u;rw[h8] at o7;obtain⟨ti,k1,k2,k3,z,k4,k5⟩:=(hT el ei h9).info;obtain⟨cca,ela,fra,p1,_,_,_,p5,_⟩:=S.obj a ra _ hra ga;obtain⟨ccb,elb,frb,q1,_,_,_,q5,_⟩:=S.obj b rb _ Yl gb;have p5:=p5 rfl;have q5:=q5 rfl;subst p5;subst q5;have hn3:¬(fn.name= "runtime.NumGoroutine"):=by simpa using h3
 have hb:fn.body=none:=by simpa using h2
 have AU:(Extern.SlicesOverlaps.overlaps fn.params fn.resultTypes #[.slice (some xa) la xc,.slice (some ya) lb yc]).run P w=.ok (.bool false) w:=by
  change Sem.run P (α:=Value) (do
   let some t:=fn.params[0]? |stuck "slices.overlaps: no parameter types"
   let .slice elem<-underlying t|stuck "slices.overlaps: slice type expected"
   let size<-sizeOf elem
   match(some xa:Option Addr),(some ya:Option Addr) with
   |some a,some b=>
    if la=0\/lb=0\/size=0 then pure (Value.bool false)
    else if a.block !=b.block&&(<-frozen a)&&(<-frozen b) then unsupported .addressObserved
    else do
     if a.block !=b.block then do
      noView a;noView b
      if<-mayBeOne a b then return Value.bool ((<-choose (.extern "sameAddr.stringBytes" 2))==1)
     pure (Value.bool (a.block==b.block&&a.off<b.off+lb*size&&b.off<a.off+la*size))
   |_,_=>pure (Value.bool false)) w=_
  by_cases h0:la=0\/lb=0\/ei.size=0
  .simp[h6,run_underlying o7,sizeOf,typeInfo,k1,k2,h0]
  .have yT:a≠b:=by
    rcases cq with h|h|h
    .exact absurd (.inl h) h0
    .exact absurd (.inr (.inl h)) h0
    .exact h
   have KJ:0<xc:=by
    have:=N4.2.2;have:=N4.yL
    omega
   have Mz:0<yc:=by
    have:=xH.2.2;have:=xH.yL
    omega
   have NK:ra.aC≠rb.aC:=S.inj a b ra rb _ hra Yl ⟨_,ga,rfl⟩ gb yT;have exa:=N4.addr KJ;have eyb:=xH.addr Mz;subst exa;subst eyb;have KT:(ra.aC !=rb.aC)=true:=by simpa using NK
   have ao_:(ra.aC==rb.aC)=false:=by simpa using NK
   have sa:w.shape? ra.aC=some (ela,cca.size):=by simp[World.shape?,p1]
   have sb:w.shape? rb.aC=some (elb,ccb.size):=by simp[World.shape?,q1]
   have fa:∀o,w.frozen? ⟨ra.aC,o,none⟩=false:=GD p1;have fb:∀o,w.frozen? ⟨rb.aC,o,none⟩=false:=GD q1;simp[h6,run_underlying o7,sizeOf,typeInfo,k1,k2,h0,KT,ao_,frozen,noView,viewAt,mayBeOne,stringish,shape,Sem.run,sa,sb,fa,fb]
 simp[callFunc,h1,hn3,hb,Go.mark,h4,h5,AU,Sem.run]
theorem BO(hF:Cy P T ng dr F)(hT:cu P T)(hI:pt P T ng dr ih){fv cfv:Value}(hc:cU F ih fv args h=some (v,h'))(S:cK (eO T ng dr) ρ h w)(hG:cj ng ρ)(hf:VR ρ fv cfv)(ha:All2 (VR ρ) args cx){bg:List Nat}(ho:ops[i]?=some o)(hw:Region.wanted o (yielded ops a.tmps)=true){cl:Call}(rO:o.op=.call cl)(ahK:cl.callee=.value f)(hcf:a.eval f=cfv)(KJ:cl.args.toList.map a.eval=cx)(b:Frame)(k:List Item)(cs:List Frame):
  ∃ρ' w' c,Steps P (lone (on b a (.inRegion ops (i::bg)::k)) cs w) (lone (on b (a.put o.dst c) (.inRegion ops bg::k)) cs w')/\VR ρ' v c/\cK (eO T ng dr) ρ' h' w'/\Ext ρ h w ρ' h' w':=by
 obtain⟨cal,Px,ats⟩:=cl;dsimp only at ahK KJ;subst ahK;have yU:Op.pQ o.op=false:=by rw[rO];rfl
 have ahX:∀c,(on b a (.inRegion ops (i::bg)::k)).finish c=on b (a.put o.dst c) (.inRegion ops bg::k):=by intro c;rw[wT,ho];rfl
 have adm:Px.map a.eval=⟨cx⟩:=by apply Array.ext';simp[<-KJ]
 unfold cU at hc;split at hc
 .rename_i g first caps
  cases hf with
  |val hf=>cases hf with
   |cell hf=>cases hf with
    |cell hf=>cases hf
    | @fn _ l m MC=>
     have zV:All2 (VR ρ) ([]++args++l) (cx++m):=ha.app (MC.mono fun _ _ h=>h.vr);rcases DF hc with hc|⟨af,haf,aiu,hc⟩
     rotate_left 1
     .
      have hFf:=hF g af haf;rw[aiu] at hFf;obtain⟨rfl,rfl,AU⟩:=Hn hc;have KL:=Z5 (P:=P) hT hFf S zV AU;have cR:(execOp a.eval o).run P w=.ok (.value (.bool false)) w:=by
       simp only[execOp,rO,resolve,Deferred.ofValue,invoke,hcf,Sem.run_bind,Sem.run_pure,Result.andThen_ok,adm];have:(#[]:Array Value)++(⟨cx⟩:Array Value)++(⟨m⟩:Array Value)=⟨cx++m⟩:=by apply Array.ext';simp
       rw[this];exact KL
      exact⟨ρ,w,.bool false,.one (Dd ho hw yU cR),VR.bool _,S,.refl ρ _ w⟩
     obtain⟨fn,ρ',w',c,fr,h1,h2,h3,h4,h5,h6,h7,h8,h9⟩:=vV hF hT hI hc S hG zV (on b a (.inRegion ops (i::bg)::k)::cs);have cR:(execOp a.eval o).run P w=.ok (.enter g ⟨cx++m⟩) w:=by have:=J6 (P:=P) (w:=w) (args:=Px) (ats:=ats) (ty:=o.type) hcf h1 h2 h3;rw[adm] at this;simp only[execOp,rO];rw[this];congr 2;apply Array.ext';simp
     refine⟨ρ',w',c,.head (aah ho hw yU cR) (h4.trans (.one ?_)),h7,h8,h9⟩;rw[step_leave_returned h6,ahX]
 .rename_i l _ _;cases hf with
  |val hf=>cases hf with
   |cell hf=>cases hf with
    |cell hf=>cases hf
    | @yield _ r hl=>
     obtain⟨L,ρ',w',cv,h1,h2,h3,h4,h5,h6⟩:=Jg (P:=P) hI hc S hG ha hl (on b a (.inRegion ops (i::bg)::k)) cs;have qD:Px.size=L.params.size:=by rw[<-h2,<-KJ];simp
     have cR:(execOp a.eval o).run P w=.ok (.round r.aC L.fn ((L.params.toList.zip cx).foldl (fun(tmps:Array Value) (x:Nat×Value)=>tmps.setIfInBounds x.1 x.2) L.tmps) L.assign L.body) w:=by have:=Tg (P:=P) (w:=w) (args:=Px) (ats:=ats) (ty:=o.type) hcf h1 qD;rw[adm] at this;simp only[execOp,rO];rw[this];congr 2;rw[<-Array.foldl_toList];simp
     refine⟨ρ',w',cv,.head (aaj ho hw yU cR) ?_,h4,h5,h6⟩;rw[ahX] at h3;exact h3
 .cases hc
theorem Cl(hF:Cy P T ng dr F)(hT:cu P T)(hI:pt P T ng dr ih)(ho:ops[i]?=some o)(hc:cy F ih (aM T ng n ops.toList o) e h=some (e',h'))(S:cK (eO T ng dr) ρ h w)(hG:cj ng ρ)(hE:ER ρ e a.tmps)(hn:n<=a.tmps.size)(b:Frame)(k:List Item)(cs:List Frame)(bg:List Nat):
  ∃ρ' w' a',Steps P (lone (on b a (.inRegion ops (i::bg)::k)) cs w) (lone (on b a' (.inRegion ops bg::k)) cs w')/\
   cK (eO T ng dr) ρ' h' w'/\ER ρ' e' a'.tmps/\a'.tmps.size=a.tmps.size/\a'.defers=a.defers/\Ext ρ h w ρ' h' w':=by
 unfold aM at hc;cases tV:tB ng n ops.toList o with
 |false=>
  simp only[tV,cond_false] at hc;simp[cy,wanted,bw] at hc
 |true=>
  simp only[tV,cond_true] at hc;simp only[tB,uh] at tV;obtain⟨⟨hd,hg⟩,Bk⟩:=tV;have tW:∀d,o.dst=some d->d<a.tmps.size:=by intro d Ya;rw[Ya] at hd;exact Ix (uD.1 hd) hn
  have Br:Region.wanted o (yielded ops a.tmps)=wanted e (guardOf ops.toList o):=by
   unfold guardOf;refine Fe hE ?_;cases CW:o.guard with
   |none=>exact .inl ⟨rfl,rfl⟩
   |some x=>
    obtain⟨j,bb⟩:=x;rw[CW] at hg;obtain⟨t,ht⟩:=Option.isSome_iff_exists.1 hg;exact .inr ⟨j,bb,t,rfl,ht,by dsimp only;rw[ht];rfl⟩
  have C8:∀ {ρ':dE} {w':World} {v c:Value} {hh:ae},VR ρ' v c->Ext ρ h w ρ' hh w'->ER ρ' (cG e o.dst v) (a.put o.dst c).tmps:=by intro ρ' w' v c hh hv E;exact ER.put (hE.mono E.le) tW hv
  unfold cy at hc;dsimp only at hc;rw[<-Br] at hc;cases tZ:Region.wanted o (yielded ops a.tmps) with
  |false=>
   simp only[tZ,cond_false,jm,vz] at hc;obtain⟨rfl,rfl⟩:=hc;refine⟨ρ,w,a.put o.dst undef,.one ?_,S,C8 VR.undef (.refl ρ h w),dK _ _ _,put_defers _ _ _,.refl ρ h w⟩;have:=Hu (P:=P) (b:=b) (a:=a) (k:=k) (cs:=cs) (w:=w) (ops:=ops) (i:=i) (bg:=bg) (by simp[ho,tZ]);rw[ho] at this;exact this
  |true=>
   simp only[tZ,cond_true] at hc;split at hc
   .rename_i f args rO;obtain⟨cl,h1,h2,h3⟩:=DG rO;split at hc
    .rename_i v Iy hcv;cases hc;have jo:bp ng f=true/\args.all (bp ng)=true:=by rw[h1] at Bk;simp only[Op.operands,Call.operands,h2] at Bk;rw[<-h3];simpa using Bk
     obtain⟨ρ',w',c,q1,q2,q3,q4⟩:=BO (P:=P) hF hT hI hcv S hG (hE.eval hG jo.1) (AK hE hG args jo.2) ho tZ h1 h2 rfl (by rw[h3]) b k cs (bg:=bg);exact⟨ρ',w',a.put o.dst c,q1,q3,C8 q2 q4,dK _ _ _,put_defers _ _ _,q4⟩
    .cases hc
   .split at hc
    .rename_i v Iy AU;cases hc;obtain⟨ρ',w',c,hr,hv,S',E'⟩:=Lw (P:=P) (a:=a) hT S hE hG o Bk AU;have yU:=Gr AU;rcases hr with hr|⟨rfl,hr⟩
     .exact⟨ρ',w',a.put o.dst c,.one (Dd ho tZ yU hr),S',C8 hv E',dK _ _ _,put_defers _ _ _,E'⟩
     .exact⟨ρ',w',a.put o.dst undef,.one (Qt ho tZ yU hr),S',C8 hv E',dK _ _ _,put_defers _ _ _,E'⟩
    .cases hc
theorem qQ(hF:Cy P T ng dr F)(hT:cu P T)(hI:pt P T ng dr ih){n:Nat}{ops:Array Oper}(b:Frame)(k:List Item)(cs:List Frame):
  ∀(m i:Nat),i+m=ops.size->∀(e e':Env)(h h':ae),oE F ih ((ops.toList.drop i).map (aM T ng n ops.toList)) e h=some (e',h')->
  ∀(ρ:dE)(w:World)(a:Act),cK (eO T ng dr) ρ h w->cj ng ρ->ER ρ e a.tmps->n<=a.tmps.size->
  ∃ρ' w' a',Steps P (lone (on b a (.inRegion ops ((List.range' i m))::k)) cs w) (lone (on b a' (.inRegion ops []::k)) cs w')/\
   cK (eO T ng dr) ρ' h' w'/\ER ρ' e' a'.tmps/\a'.tmps.size=a.tmps.size/\a'.defers=a.defers/\Ext ρ h w ρ' h' w':=by
 intro m;induction m with
 |zero=>
  intro i hi e e' h h' hc ρ w a S hG hE hn;rw[UO (by simp;omega)] at hc;simp only[List.map_nil,oE,jm,vz] at hc;obtain⟨rfl,rfl⟩:=hc;exact⟨ρ,w,a,Steps.refl P _,S,hE,rfl,rfl,.refl ρ h w⟩
 |succ m ihm=>
  intro i hi e e' h h' hc ρ w a S hG hE hn;have dS:i<ops.toList.length:=by simp;omega
  rw[List.drop_eq_getElem_cons dS] at hc;simp only[BY,oE] at hc;have ho:ops[i]?=some ops.toList[i]:=by rw[<-Array.getElem?_toList,fI dS]
  split at hc
  .rename_i e1 h1 rO;obtain⟨ρ1,w1,a1,s1,S1,E1,z1,d1,X1⟩:=Cl (P:=P) hF hT hI ho rO S hG hE hn b k cs (List.range' (i+1) m);obtain⟨ρ2,w2,a2,s2,S2,E2,z2,d2,X2⟩:=ihm (i+1) (by omega) e1 e' h1 h' hc ρ1 w1 a1 S1 (hG.mono X1.le) E1 (by omega);refine⟨ρ2,w2,a2,?_,S2,E2,z2.trans z1,d2.trans d1,X1.trans X2⟩;rw[List.range'_succ];exact s1.trans s2
  .cases hc
end
def ja.jx:ja->List Operand
 |.mv x=>[x]
 |.pick c a b=>[c,a,b]
 |.alloc _=>[]
 |.box x=>[x]
 |.build _ ps=>ps.map (·.2.2)
 |.fH _ _ ps=>ps.map (·.2.2)
 |.load _ a=>[a]
 |.store _ a v=>[a,v]
 |.uS x=>[x]
 |.bin _ _ x y=>[x,y]
 |.un _ x=>[x]
 |.conv _ x=>[x]
 |.uM _ caps=>caps
 |.En=>[]
 |.ik _ _ l c=>[l,c]
 |.slice _ x lo hi mx=>x::(lo.toList++hi.toList++mx.toList)
 |.cP _ x=>[x]
 |.dt _ _ x i=>[x,i]
 |.field _ _ x=>[x]
 |.index _ x i=>[x,i]
 |.look _ _ _ x i=>[x,i]
 |.Eo _ m k v=>[m,k,v]
 |.ext _ x=>[x]
 |.call f args=>f::args
 |.uC x=>[x]
 |.MU x=>[x]
 |.Jt x=>[x]
 |.append _ _ _ s x=>[s,x]
 |.copy _ d s=>[d,s]
 |.clear _ x=>[x]
 |.MV x y=>[x,y]
 |.bad=>[]
def ja.kind:ja->Nat
 |.mv _|.pick .. |.build .. |.uS _|.bin .. |.un .. |.conv .. |.uM .. |.cP .. |.dt .. |.field .. |.index .. |.ext .. |.uC _|.Jt _|.MV .. =>0
 |.load .. |.slice .. =>1
 |.alloc _|.box _|.fH .. |.ik .. |.En=>2
 |_=>3
theorem uH{e e':Env} :∀(ps:List (Nat×Nat×Operand))(cs:List Value),(∀x∈ps.map (·.2.2),ev e x=ev e' x)->tv e cs ps=tv e' cs ps
 |[],_,_=>rfl
 |(off,n,x)::r,cs,h=>by
  have hx:ev e x=ev e' x:=h x (by simp);simp only[tv,hx];split
  .split
   .exact uH r _ (fun y hy=>h y (by simp only[BY,List.mem_cons];exact .inr hy))
   .rfl
  .rfl
theorem Fa{l:List Operand}(h:∀x∈l,ev e x=ev e' x):tI e l=tI e' l:=List.map_congr_left h
theorem vM(x:Option Operand)(d t:Nat)(h:∀y∈x.toList,ev e y=ev e' y):bound e x d t=bound e' x d t:=by
 cases x with
 |none=>rfl
 |some y=>simp only[bound,h y (by simp)]
theorem Sg(op:ja)(hx:∀x∈op.jx,ev e x=ev e' x):bw e h op=bw e' h op:=by
 cases op with
 |build z ps=>simp only[bw,uH ps z hx]
 |fH n z ps=>simp only[bw,uH ps z hx]
 |uM f caps=>
  simp only[ja.jx] at hx;simp only[bw,Fa hx]
 |slice s x lo hi mx=>
  simp only[ja.jx,List.mem_cons,lE,or_assoc] at hx;have h0:=hx x (.inl rfl);have h1:∀d t,bound e lo d t=bound e' lo d t:=fun d t=>vM lo d t fun y hy=>hx y (.inr (.inl hy));have h2:∀d t,bound e hi d t=bound e' hi d t:=fun d t=>vM hi d t fun y hy=>hx y (.inr (.inr (.inl hy)));have h3:∀d t,bound e mx d t=bound e' mx d t:=fun d t=>vM mx d t fun y hy=>hx y (.inr (.inr (.inr hy)));simp only[bw,h0,h1,h2,h3]
 |pick c a b=>
  simp only[ja.jx,List.mem_cons,om,or_false,forall_eq_or_imp,forall_eq] at hx;simp only[bw,hx.1,hx.2.1,hx.2.2]
 |Eo n c a b=>
  simp only[ja.jx,List.mem_cons,om,or_false,forall_eq_or_imp,forall_eq] at hx;simp only[bw,hx.1,hx.2.1,hx.2.2]
 |alloc|En|call|bad=>rfl
 |store _ x y|bin _ _ x y|ik _ _ x y|dt _ _ x y|index _ x y|look _ _ _ x y|append _ _ _ x y|copy _ x y|MV x y=>
  simp only[ja.jx,List.mem_cons,om,or_false,forall_eq_or_imp,forall_eq] at hx;simp only[bw,hx.1,hx.2]
 |mv x|box x|load _ x|uS x|un _ x|conv _ x|cP _ x|field _ _ x|ext _ x|uC x|MU x|Jt x|clear _ x=>
  simp only[ja.jx,List.mem_cons,om,or_false,forall_eq] at hx;simp only[bw,hx]
def leads:Value->Option Nat
 |.pointer (some ⟨b,_,_⟩)=>some b
 |.slice (some ⟨b,_,_⟩) _ _=>some b
 |.map (some b)=>some b
 |_=>none
def ja.through:ja->Option Operand
 |.load _ a=>some a
 |.slice _ x _ _ _=>some x
 |_=>none
theorem Ex{op:ja}(hk:op.kind=0)(hv:bw e h op=some (v,h')):h'=h/\∀h2,bw e h2 op=some (v,h2):=by
 cases op with
 |uM f caps=>
  simp only[bw] at hv⊢;cases hb:(tI e caps).all simple<;>simp only[hb,cond_true,cond_false] at hv⊢ <;>cases hv;exact⟨rfl,fun h2=>rfl⟩
 |MV x y=>
  simp only[bw] at hv⊢;split at hv
  .by_cases Bj: ‹IntKind› = ‹IntKind› <;>skip
   all_goals
    split at hv
    .cases hv;refine⟨rfl,fun h2=>?_⟩;simp_all
    .cases hv
  .cases hv
 |_=>
  simp only[ja.kind] at hk
  first
   |(exact absurd hk (by decide))
   |(simp only[bw] at hv⊢
     repeat' split at hv
     all_goals first
      |(cases hv;refine⟨rfl,fun h2=>?_⟩;first|rfl|(simp_all;done))
      |(cases hv;done))
theorem y8{op:ja}(hk:op.kind=1)(hv:bw e h op=some (v,h')):
  h'=h/\∃x,op.through=some x/\(∀h2,(∀b,leads (ev e x)=some b->h2.tr.get b=h.tr.get b)->bw e h2 op=some (v,h2))/\(∀b,leads (ev e x)=some b->∃cs ro o s,h.tr.get b=some (.aC cs ro o s)):=by
 cases op<;>simp only[ja.kind] at hk<;>first|(exact absurd hk (by decide))|skip
 case load n a=>
  simp only[bw] at hv;split at hv
  .rename_i b off heq;split at hv
   .rename_i cs hr;split at hv
    .rename_i v' hg;cases hv;refine⟨rfl,a,rfl,?_,?_⟩
     .intro h2 hb;have:=hb b (by rw[heq];rfl);have Bm:aV h2 b off (width n)=some cs:=by unfold aV at hr⊢;rw[this];exact hr
      simp only[bw,heq,Bm,hg]
     .intro b' gk;rw[heq] at gk;cases gk;unfold aV at hr;split at hr
      .exact⟨_,_,_,_,by assumption⟩
      .cases hr
    .cases hv
   .cases hv
  .cases hv
 case slice sz x lo hi mx=>
  simp only[bw] at hv;split at hv
  .rename_i a len cap heq;split at hv
   .cases hv
   .rename_i m hm;split at hv
    .cases hv
    .rename_i hh hhi;split at hv
     .cases hv
     .rename_i l hl;split at hv
      .cases hv;refine⟨rfl,x,rfl,fun h2 _=>?_,fun b hb=>?_⟩
       .simp only[bw,heq,hm,hhi,hl]
       .rw[heq] at hb;cases hb
      .rename_i b off;split at hv
       .rename_i cs ro o s hg;cases hc:(Nat.beq o 0||Nat.beq o sz) with
        |false=>rw[hc] at hv;cases hv
        |true=>
         rw[hc] at hv;cases hv;refine⟨rfl,x,rfl,fun h2 hb=>?_,fun b' hb=>?_⟩
         .have:=hb b (by rw[heq];rfl);simp only[bw,heq,hm,hhi,hl,this,hg,hc,cond_true]
         .rw[heq] at hb;cases hb;exact⟨_,_,_,_,hg⟩
       .cases hv
      .cases hv
  .cases hv
theorem dm.refl(h:ae):dm h h:=⟨dw _,dw _,fun _ _ _ _ _ _ h _=>h,id,fun _ _ h=>h⟩
theorem dm.trans(x:dm h h1)(y:dm h1 h2):dm h h2:=
 ⟨sD x.next y.next,sD x.clock y.clock,fun b cs ro o s hb hg hs=>x.bC b cs ro o s hb (y.bC b cs ro o s (Ix hb x.next) hg (Ix hs x.clock)) hs,y.wf∘x.wf,fun b hb hg=>x.mp b hb (y.mp b (Ix hb x.next) hg)⟩
theorem dm.new(h:ae)(o:o9):dm h (h.new o):=by
 refine⟨by simp[ae.new],dw _,fun b cs ro op s hb hg _=>?_,fun hw b x hb=>?_,fun b hb hg=>?_⟩
 .simp only[ae.new,Tr.az] at hg;rwa [aW (by omega)] at hg
 .simp only[ae.new,Tr.az] at hb⊢;by_cases e:b=h.next
  .omega
  .rw[aW e] at hb;have:=hw b x hb;omega
 .simp only[ae.new,Tr.az] at hg;rwa [aW (by omega)] at hg
theorem dm.del(h:ae)(l:Nat):dm h {h with tr:=h.tr.del l} :=by
 refine⟨dw _,dw _,fun b cs ro op s hb hg _=>?_,fun hw b x hb=>?_,fun b hb hg=>?_⟩
 .simp only[Tr.kA] at hg;by_cases e:b=l
  .rw[aZ e] at hg;cases hg
  .rwa [aW e] at hg
 .simp only[Tr.kA] at hb;by_cases e:b=l
  .rw[aZ e] at hb;cases hb
  .rw[aW e] at hb;exact hw b x hb
 .simp only[Tr.kA] at hg;by_cases e:b=l
  .rw[aZ e] at hg;cases hg
  .rwa [aW e] at hg
theorem dm.other{o:o9}(l:Nat)(c:Nat)(hc:h.clock<=c)(hl:∃x,h.tr.get l=some x)(ho:∀cs ro op s,o=.aC cs ro op s->h.clock<=s)(hm:o≠ .map []):dm h {h with clock:=c,tr:=h.tr.set l o} :=by
 refine⟨dw _,hc,fun b cs ro op s hb hg hs=>?_,fun hw b x hb=>?_,fun b hb hg=>?_⟩
 .simp only[Tr.az] at hg;by_cases e:b=l
  .rw[aZ e] at hg;cases hg;have:=ho _ _ _ _ rfl;omega
  .rwa [aW e] at hg
 .simp only[Tr.az] at hb;by_cases e:b=l
  .obtain⟨y,hy⟩:=hl;rw[e];exact hw l y hy
  .rw[aW e] at hb;exact hw b x hb
 .simp only[Tr.az] at hg;by_cases e:b=l
  .rw[aZ e] at hg;cases hg;exact absurd rfl hm
  .rwa [aW e] at hg
theorem dm.write{b off:Nat}(hw:iX h b off vs=some h'):dm h h':=by
 unfold iX at hw;split at hw
 .rename_i hg;split at hw
  .cases hw;exact dm.other b (h.clock+1) (Nat.le_succ _) ⟨_,hg⟩ (fun cs ro op s e=>by cases e;exact dw _) (fun e=>by cases e)
  .cases hw
 .cases hw
inductive Mk where
 |ptr
 |sl (l c:Nat)
 |mp
def mkA:Mk->Nat->Value
 |.ptr,N=>.pointer (some ⟨N,0,none⟩)
 |.sl l c,N=>.slice (some ⟨N,0,none⟩) l c
 |.mp,N=>.map (some N)
def mkO:Mk->List Value->o9
 |.mp,_=>.map []
 |_,cells=>.aC cells false 0 0
theorem xf{op:ja}(hk:op.kind=2)(hv:bw e h op=some (v,h')):
  ∃s cells,v=mkA s h.next/\h'=h.new (mkO s cells)/\∀h2,bw e h2 op=some (mkA s h2.next,h2.new (mkO s cells)):=by
 cases op with
 |alloc z=>
  simp only[bw,jm,vz] at hv;exact⟨.ptr,z,hv.1.symm,hv.2.symm,fun h2=>rfl⟩
 |En=>
  simp only[bw,jm,vz] at hv;exact⟨.mp,[],hv.1.symm,hv.2.symm,fun h2=>rfl⟩
 |box x=>
  simp only[bw] at hv;split at hv
  .rename_i vs hf;cases hv;exact⟨.ptr,vs,rfl,rfl,fun h2=>by simp only[bw,hf];rfl⟩
  .cases hv
 |fH n z ps=>
  simp only[bw] at hv;split at hv
  .rename_i cs hf;cases hv;exact⟨.sl n n,cs,rfl,rfl,fun h2=>by simp only[bw,hf];rfl⟩
  .cases hv
 |ik z n l c=>
  simp only[bw] at hv;split at hv
  .rename_i ll cc h1 h2;split at hv
   .rename_i hb;cases hv;exact⟨.sl ll cc,jP z cc,rfl,rfl,fun h3=>by simp only[bw,h1,h2,hb,if_true];rfl⟩
   .cases hv
  .cases hv
 |_=>simp only[ja.kind] at hk;cases hk
theorem HH{bytes:Nat}{s:Value}{cs:List Value}(hv:ib h z bytes s n cs=some (v,h')):dm h h':=by
 unfold ib at hv;dsimp only at hv
 repeat' split at hv
 all_goals first
  |(cases hv;done)
  |(cases hv;exact dm.refl _)
  |(cases hv;exact dm.new _ _)
  |(rename_i hw;cases hv;exact dm.write hw)
  |(cases hv;exact(dm.del _ _).trans (dm.new _ _))
  |skip
theorem XD{n:List Nat}{k v:Value}(h:yr n k v es=some es'):es'≠[]:=by
 simp only[yr] at h;split at h
 .split at h
  .cases h;simp
  .cases h
 .cases h
theorem Si{op:ja}(hv:bw e h op=some (v,h')):dm h h':=by
 by_cases h0:op.kind=0
 .rw[(Ex h0 hv).1];exact .refl h
 by_cases h1:op.kind=1
 .rw[(y8 h1 hv).1];exact .refl h
 by_cases h2:op.kind=2
 .obtain⟨_,cs,_,rfl,_⟩:=xf h2 hv;exact .new h _
 cases op with
 |store n a x=>
  simp only[bw] at hv
  repeat' split at hv
  all_goals first
   |(cases hv;done)
   |(rename_i hw;cases hv;exact dm.write hw)
 |look n z ok x i=>
  simp only[bw] at hv;cases D9:pE n (ev e i) with
  |false=>rw[D9] at hv;cases hv
  |true=>
  simp only[D9,cond_true] at hv
  repeat' split at hv
  all_goals first
   |(cases hv;done)
   |(cases hv;exact .refl h)
 |Eo n m k x=>
  simp only[bw] at hv;cases D9:pE n (ev e k) with
  |false=>rw[D9] at hv;cases hv
  |true=>
  simp only[D9,cond_true] at hv
  repeat' split at hv
  all_goals first
   |(cases hv;done)
   |(rename_i hg _ _ _;cases hv;exact dm.other _ _ (Nat.le_succ _) ⟨_,hg⟩ (fun _ _ _ _ e=>by cases e) (fun e=>by cases e;exact XD (by assumption) rfl))
 |append z bytes zs s x=>
  simp only[bw] at hv;split at hv
  .exact HH hv
  .cases hv
 |copy sz d s=>
  simp only[bw] at hv
  repeat' split at hv
  all_goals first
   |(cases hv;done)
   |(cases hv;exact .refl h)
   |(rename_i hw;cases hv;exact dm.write hw)
 |clear z x=>
  simp only[bw] at hv
  repeat' split at hv
  all_goals first
   |(cases hv;done)
   |(cases hv;exact .refl h)
   |(rename_i hw;cases hv;exact dm.write hw)
 |MU x=>
  simp only[bw] at hv
  repeat' split at hv
  all_goals first
   |(cases hv;done)
   |(cases hv;exact .refl h)
 |call f args=>simp[bw] at hv
 |bad=>simp[bw] at hv
 |_=>first|exact absurd rfl h0|exact absurd rfl h1|exact absurd rfl h2
section
variable{F:Nat->Option bM}{ih:aq->Env->ae->R}
def fO(ih:aq->Env->ae->R):Prop:=∀c e h x e' h',ih c e h=some (x,e',h')->dm h h'
theorem BN(hK:fO ih){f:Nat}(hc:si F ih f args h=some (v,h')):dm h h':=by
 unfold si oi at hc;split at hc
 .cases hc
 .split at hc
  .cases hc
  .rename_i hp _;exact hp _ _ _ _ hc
  split at hc
  all_goals first
   |(cases hc;done)
   |(rename_i hr
     split at hc
     .rename_i vs _;cases hb:iH vs<;>simp only[hb,cond_true,cond_false] at hc<;>cases hc;exact hK _ _ _ _ _ _ hr
     .cases hc)
theorem yp{l:Nat}{x:o9}(hx:h.tr.get l=some x)(env:Env)(ps:List Nat)(asg body:aq)(st:Th):dm h (fB h l env ps asg body st):=
 dm.other l h.clock (dw _) ⟨x,hx⟩ (fun _ _ _ _ e=>by cases e) (fun e=>by cases e)
theorem Je{l:Nat}{b:Bool}(hc:ny l h st b=some (v,h')):dm h h':=by
 unfold ny at hc;split at hc
 .rename_i hg;cases hc;exact yp hg ..
 .cases hc
theorem Jf(hK:fO ih){l:Nat}(hc:uX ih l args h=some (v,h')):dm h h':=by
 unfold uX at hc;split at hc
 .split at hc
  .cases hc
  .split at hc
   .rename_i hr;refine(hK _ _ _ _ _ _ hr).trans ?_;unfold y_ at hc;split at hc
    .rename_i hg;split at hc
     all_goals first
      |(cases hc;done)
      |(rename_i Bm;exact(yp hg _ _ _ _ _).trans ((hK _ _ _ _ _ _ Bm).trans (Je hc)))
    .cases hc
   .cases hc
 .cases hc
theorem J4(hK:fO ih)(hc:cU F ih fv args h=some (v,h')):dm h h':=by
 unfold cU at hc;split at hc
 .rcases DF hc with hc|⟨_,_,_,hc⟩
  .exact BN hK hc
  .rw[(Hn hc).2.1];exact .refl h
 .exact Jf hK hc
 .cases hc
theorem wE(hK:fO ih){o:aY}(hc:cy F ih o e h=some (e',h')):dm h h':=by
 unfold cy at hc;cases hw:wanted e o.guard<;>simp only[hw,cond_true,cond_false] at hc
 .cases hc;exact .refl h
 .split at hc
  .split at hc
   .rename_i hv;cases hc;exact J4 hK hv
   .cases hc
  .split at hc
   .rename_i hv;cases hc;exact Si hv
   .cases hc
theorem EE(hK:fO ih):∀(l:List aY){e e':Env}{h h':ae},oE F ih l e h=some (e',h')->dm h h'
 |[],_,_,_,_,hc=>by simp only[oE] at hc;cases hc;exact .refl _
 |o::r,_,_,_,_,hc=>by
  simp only[oE] at hc;split at hc
  .rename_i ho;exact(wE hK ho).trans (EE hK r hc)
  .cases hc
theorem BQ(hK:fO ih)(c:Nat):∀(l:List (aY×List Nat)){e e':Env}{h h':ae},mG F ih c l e h=some (e',h')->dm h h'
 |[],_,_,_,_,hc=>by simp only[mG] at hc;cases hc;exact .refl _
 |(o,lH)::r,_,_,_,_,hc=>by
  simp only[mG] at hc;split at hc
  .rename_i e1 h1 ho;cases hs:still e1 h1 c lH<;>simp only[hs,cond_true,cond_false] at hc
   .cases hc
   .exact(wE hK ho).trans (BQ hK c r hc)
  .cases hc
theorem RK(hr:h.tr.get r=some (.map [])):dm h { next:=h.next+(es.length+1),clock:=h.clock+1,tr:=h.tr.set r (.map es) } :=by
 refine⟨Nat.le_add_right _ _,Nat.le_succ _,fun b cs ro op s hb hg hs=>?_,fun hw b x hb=>?_,fun b hb hg=>?_⟩
 .simp only[Tr.az] at hg;split at hg
  .cases hg
  .exact hg
 .simp only[Tr.az] at hb⊢;split at hb
  .rename_i e;have:=hw b _ (e▸hr);omega
  .have:=hw b x hb;omega
 .simp only[Tr.az] at hg;split at hg
  .rename_i e;rw[e];exact hr
  .exact hg
theorem L7(hK:fO ih):fO (bN F ih):=by
 intro c e h x e' h' hc;cases c with
 |skip|exit|ret=>simp only[bN] at hc;cases hc;exact .refl h
 |ops l=>
  simp only[bN] at hc;split at hc
  .rename_i ho;cases hc;exact EE hK l ho
  .cases hc
 |draw l=>
  simp only[bN] at hc;split at hc
  .rename_i ho;cases hc;have h1:dm h {h with clock:=h.clock+1} :=⟨dw _,Nat.le_succ _,fun _ _ _ _ _ _ q _=>q,id,fun _ _ q=>q⟩;exact h1.trans (BQ hK _ l ho)
  .cases hc
 |seq a b=>
  simp only[bN] at hc;split at hc
  .rename_i ho;exact(hK _ _ _ _ _ _ ho).trans (hK _ _ _ _ _ _ hc)
  .exact hK _ _ _ _ _ _ hc
 |cond q a b=>
  simp only[bN] at hc;split at hc
  .exact hK _ _ _ _ _ _ hc
  .exact hK _ _ _ _ _ _ hc
  .cases hc
 |block id a=>
  simp only[bN] at hc;split at hc
  .rename_i i _ _ ho;cases hb:Nat.beq i id<;>simp only[hb,cond_true,cond_false] at hc<;>cases hc<;>exact hK _ _ _ _ _ _ ho
  .exact hK _ _ _ _ _ _ hc
 |loop a=>
  simp only[bN] at hc;split at hc
  .rename_i ho;exact(hK _ _ _ _ _ _ ho).trans (hK _ _ _ _ _ _ hc)
  .exact hK _ _ _ _ _ _ hc
 |Qr f ps asg body=>
  simp only[bN] at hc;split at hc
  .split at hc
   .rename_i KL;have h1:=(dm.new h (.loop e ps asg body .ready)).trans (BN hK KL);split at hc
    all_goals first
     |(cases hc;done)
     |(cases hc;exact h1.trans (dm.del _ _))
   .cases hc
  .cases hc
 |mcp src d n jn js t u=>
  simp only[bN] at hc;split at hc
  .cases hc;exact⟨Nat.le_succ _,dw _,fun _ _ _ _ _ _ q _=>q,fun hw b x hb=>Nat.lt_succ_of_lt (hw b x hb),fun _ _ q=>q⟩
  .split at hc
   .split at hc
    .rename_i es hs hr;generalize (!Nat.beq _ _&&Ce n es)=q at hc;cases q with
     |false=>cases hc
     |true=>
      cases hc;exact RK hr
    .cases hc
   .cases hc
  .cases hc
 |bad=>simp[bN] at hc
theorem SL:∀fuel,fO (run F fuel):=by
 intro fuel;induction fuel with
 |zero=>intro c e h x e' h' hc;cases hc
 |succ m ihm=>exact L7 ihm
end
def HD(P:Program)(T:oR)(ng:Nat)(dr:pq)(F:Nat->Option bM):Prop:=
 ∀(ih:aq->Env->ae->R),fO ih->pt P T ng dr ih->∀(n:Nat)(ops:Array Oper)(e:Env)(h:ae)(e':Env)(h':ae),
  mG F ih h.clock (dr n ops.toList) e {h with clock:=h.clock+1} =some (e',h')->
  ∀(mixed:Bool)(t:Nat)(ρ:dE)(w:World)(a:Act)(b:Frame)(k:List Item)(cs:List Frame),cK (eO T ng dr) ρ h w->cj ng ρ->ER ρ e a.tmps->n<=a.tmps.size->
  ∃ρ' w' a',Steps P (lone (on b a (.inRegion ops (Region.schedule mixed ops t)::k)) cs w) (lone (on b a' (.inRegion ops []::k)) cs w')/\
   cK (eO T ng dr) ρ' h' w'/\ER ρ' e' a'.tmps/\a'.tmps.size=a.tmps.size/\a'.defers=a.defers/\Ext ρ h w ρ' h' w'
theorem zc{m m1 t:Machine}(h:Steps P m t)(hs:step P m=.next m1)(cq:t≠m):Steps P m1 t:=by
 obtain⟨n,hn⟩:=h;cases n with
 |zero=>simp only[runN] at hn;cases hn;exact absurd rfl cq
 |succ n=>simp only[runN,hs] at hn;exact⟨n,hn⟩
theorem RU{b b':Frame}{cs Uv:List Frame}(h:lone b cs w=lone b' Uv w'):b.todo=b'.todo:=by have h2:=congrArg (fun m:Machine=>(m.gs[0]?).map (fun g=>g.frame.todo)) h;simpa [lone] using h2
section
variable{P:Program}{T:oR}{ng:Nat}{dr:pq}{F:Nat->Option bM}{ih:aq->Env->ae->R}
theorem cK.hidden(S:cK CC ρ h w)(o:Obj):cK CC ρ h (w.alloc o)/\Ext ρ h w ρ h (w.alloc o):=by
 have qD:(w.alloc o).heap.size=w.heap.size+1:=Array.size_push _;have hold:∀k,k<w.heap.size->(w.alloc o).heap[k]?=w.heap[k]? :=by intro k hk;show(w.heap.push o)[k]?=_;rw[Array.getElem?_push,aW (by omega)]
 refine⟨⟨fun b r hb=>⟨(S.low b r hb).1,by have:=(S.low b r hb).2;omega⟩,fun b r x hb hx=>gH.mono ρ.le_refl (hold _ (S.low b r hb).2) (S.obj b r x hb hx),S.inj,S.wf⟩,
  ⟨ρ.le_refl,dw _,by omega,rfl,rfl,rfl,fun k hk _=>hold k hk,fun b r hb hw=>.inr ⟨b,r,hb,hw,rfl⟩,fun b r h h'=>(by rw[h] at h';cases h'),fun b r x hb hx=>.inr ⟨b,r,x,hb,hx,rfl⟩⟩⟩
theorem ux(w:World)(o:Obj):(w.alloc o).heap.size=w.heap.size+1:=Array.size_push _
theorem vB.same(S:cK CC ρ h w)(hE:ER ρ e a.tmps)(hd:xL B ρ h w a.defers):vB CC B ρ h w a ρ e h w a:=
 ⟨S,hE,rfl,.refl ρ h w,hd⟩
theorem vB.trans{CC:bK}{B:Nat}{ρ ρ1 ρ2:dE}{e1 e2:Env}{h h1 h2:ae}{w w1 w2:World}{a a1 a2:Act}(x:vB CC B ρ h w a ρ1 e1 h1 w1 a1)(y:vB CC B ρ1 h1 w1 a1 ρ2 e2 h2 w2 a2):
  vB CC B ρ h w a ρ2 e2 h2 w2 a2:=⟨y.Qw,y.er,y.size.trans x.size,x.ext.trans y.ext,y.defs⟩
theorem VR.fnv{c:Value}(h:VR ρ (.func (.func g) first caps) c):∃l m,first= #[]/\caps=⟨l⟩/\c=.func (.func g) #[] ⟨m⟩/\All2 (CR ρ) l m:=by
 cases h with
 |val h=>cases h with
  |cell h=>cases h with
   |cell h=>cases h
   |fn g h=>exact⟨_,_,rfl,rfl,rfl,h⟩
theorem cK.off(S:cK CC ρ h w){b:Nat}{r:vy}{o:o9}(hb:ρ b=some r)(ho:h.tr.get b=some o)(Zw:o.rw=true)(ha:JA r.aC w w'):
  cK CC ρ {h with tr:=h.tr.del b} w'/\Ext ρ h w ρ {h with tr:=h.tr.del b} w':=by
 have Br:dh h b:=⟨o,ho,Zw⟩;have dz:∀x p,({h with tr:=h.tr.del b} :ae).tr.get x=some p->x≠b/\h.tr.get x=some p:=by
  intro x p hx;simp only[Tr.kA] at hx;by_cases e:x=b
  .rw[aZ e] at hx;cases hx
  .rw[aW e] at hx;exact⟨e,hx⟩
 have wh:∀x,dh {h with tr:=h.tr.del b} x->dh h x:=fun x ⟨p,hp,Fo⟩=>⟨p,(dz x p hp).2,Fo⟩;refine⟨⟨fun x rx hx=>⟨(S.low x rx hx).1,by rw[ha.size];exact(S.low x rx hx).2⟩,?_,?_,fun x p hp=>S.wf x p (dz x p hp).2⟩,⟨ρ.le_refl,dw _,Nat.le_of_eq ha.size.symm,ha.os,ha.tape,ha.output,?_,?_,?_,?_⟩⟩
 .intro x rx p hx hp;obtain⟨cq,hp⟩:=dz x p hp;exact gH.mono ρ.le_refl (ha.other _ (S.inj b x r rx p hb hx Br hp (Ne.symm cq)).symm) (S.obj x rx p hx hp)
 .intro x y rx ry p hx hy hw hp cq;exact S.inj x y rx ry p hx hy (wh x hw) (dz y p hp).2 cq
 .intro k _ hk;exact ha.other k (fun e=>hk b r hb Br e.symm)
 .intro x rx hx hw;exact .inr ⟨x,rx,hx,wh x hw,rfl⟩
 .intro x rx h1 h2;rw[h1] at h2;cases h2
 .intro x rx p hx hp;exact .inr ⟨x,rx,p,hx,(dz x p hp).2,rfl⟩
theorem PA(hh:w.heap[r]?=some (.deferred (some [])))(hf:xt ρ h r)(E:Ext ρ h w ρ' h' w'):w'.heap[r]?=some (.deferred (some []))/\xt ρ' h' r:=by have dS:=jd hh;refine⟨?_,hf.ext E dS⟩;rw[E.mE r dS,hh];rintro x rx hx⟨o,ho,_⟩;exact hf x rx o hx ho
theorem SF(hF:Cy P T ng dr F)(hT:cu P T)(hI:pt P T ng dr ih){ps:Array Tmp}{asg body:Code}(apl:bp ng f=true)(iI:ps.toList.all (Nat.blt · n)=true)(PR:iW asg=true)(KT:iW body=true){x:aT}(hc:bN F ih (.Qr f ps.toList (bX T ng n dr asg) (bX T ng n dr body)) e h=some (x,e',h'))(b:Frame)(k:List Item)(cs:List Frame)(S:cK (eO T ng dr) ρ h w)(hG:cj ng ρ)(hE:ER ρ e a.tmps)(hn:n<=a.tmps.size)(hB:B<=w.heap.size)(hD:xL B ρ h w a.defers)(hr:b.roundOf=none):
  ∃ρ' w' a',Dh P b k cs (lone (on b a (.code (.rangeFunc f ps asg body)::k)) cs w) x a' w'/\vB (eO T ng dr) B ρ h w a ρ' e' h' w' a':=by
 simp only[bN] at hc;split at hc
 .rename_i g first caps hev
  have hvf:=hE.eval hG apl;rw[hev] at hvf;obtain⟨l,m,rfl,rfl,hcf,MC⟩:=hvf.fnv;split at hc
  .rename_i v h1 KL
   
   obtain⟨S1,E1⟩:=S.hidden (.deferred (some []))
   let L:Loop:= { state:=.ready,pending:=none,fn:=b.fn,tmps:=a.tmps,params:=ps,assign:=asg,body:=body,defers:=w.heap.size }
   let im:vy:= { aC:=w.heap.size+1,base:=0,len:=0,ED:=0,room:=0 }
   have dx:gH (eO T ng dr) (fz ρ h.next im) im (.loop e ps.toList (bX T ng n dr asg) (bX T ng n dr body) .ready) ((w.alloc (.deferred (some []))).alloc (.loop L)):=by
    refine⟨L,?_,hE.mono (nH S.fresh),rfl,⟨n,hn,rfl,PR⟩,⟨n,hn,rfl,KT⟩,?_,rfl,rfl⟩
    .show((w.alloc (.deferred (some []))).heap.push (.loop L))[w.heap.size+1]?=_;rw[<-ux w (.deferred (some [])),Array.getElem?_push,aZ rfl]
    .intro t ht;have:=List.all_eq_true.1 iI t ht;exact Ix (uD.1 this) hn
   obtain⟨S2,E2⟩:=S1.add (im:=im) (ux w _).symm dx;have E02:=E1.trans E2;have hG2:=hG.mono E02.le;have B8:fz ρ h.next im h.next=some im:=by simp[fz]
   have zV:All2 (VR (fz ρ h.next im)) ([]++[.func (.yield h.next) #[] #[]]++l) ([.func (.yield (w.heap.size+1)) #[] #[]]++m):=by refine All2.cons (.val (.cell (.yield B8))) ?_;exact MC.mono fun _ _ q=>(q.mono E02.le).vr
   have acY:si F ih g ([]++[.func (.yield h.next) #[] #[]]++l) (h.new (.loop e ps.toList (bX T ng n dr asg) (bX T ng n dr body) .ready))=some (v,h1):=KL
   let a2:Act:= {a with defers:=mark w.heap.size::a.defers}
   let bb:Frame:=on b a2 (.inRangeFunc (w.heap.size+1)::k)
   obtain⟨fn,ρ3,w3,c,fr,q1,q2,q3,q4,q5,q6,q7,q8,q9⟩:=vV hF hT hI acY S2 hG2 zV (bb::cs);have cR:=J6 (P:=P) (ρ:=a.eval) (w:=(w.alloc (.deferred (some []))).alloc (.loop L)) (args:= #[.const (.func (.yield (w.heap.size+1)) #[] #[])]) (ats:= #[]) (ty:=0) hcf q1 q2 q3;have CW:=ajT (P:=P) (b:=b) (a:=a) (k:=k) (cs:=cs) (w:=w) (f:=f) (ps:=ps) (asg:=asg) (body:=body) hr cR;have acW:(#[]++(#[Operand.const (.func (.yield (w.heap.size+1)) #[] #[])]:Array Operand).map a.eval++⟨m⟩:Array Value)=⟨[.func (.yield (w.heap.size+1)) #[] #[]]++m⟩:=by apply Array.ext';simp[Act.eval]
   rw[acW] at CW;have aiP:Steps P (lone (on b a (.code (.rangeFunc f ps asg body)::k)) cs w) (lone (on b a2 (.endRangeFunc (w.heap.size+1)::k)) cs w3):=by refine .head CW (q4.trans (.one ?_));rw[step_leave_returned q6];rfl
   have E03:=E02.trans q9
   
   have Ye:ρ3 h.next=some im:=q9.le _ _ B8
   
   have hDn:xL B ρ3 h1 w3 a2.defers:=by
    obtain⟨rs,h4,h5,h6⟩:=hD;have iM:∀r∈rs,r<w.heap.size:=fun r hr=>jd (h6 r hr).2.1;refine⟨w.heap.size::rs,by simp[a2,h4],List.nodup_cons.2 ⟨fun hm=>by have:=iM _ hm;omega,h5⟩,?_⟩;intro r hr;rcases List.mem_cons.1 hr with rfl|hr
    .have ac_:xt (fz ρ h.next im) (h.new (.loop e ps.toList (bX T ng n dr asg) (bX T ng n dr body) .ready)) w.heap.size:=by
      intro y ry o hy _ he;unfold fz at hy;by_cases hyn:y=h.next
      .rw[aZ hyn] at hy;cases hy;simp[im] at he
      .rw[aW hyn] at hy;have:=(S.low y ry hy).2;omega
     refine⟨hB,PA ?_ ac_ q9⟩;show((w.heap.push (.deferred (some []))).push (.loop L))[w.heap.size]?=_;rw[Array.getElem?_push,aW (by simp),Array.getElem?_push,aZ rfl]
    .exact⟨(h6 r hr).1,PA (h6 r hr).2.1 (h6 r hr).2.2 E03⟩
   
   have fin:∀(Q6:Env)(ps3:List Nat)(QM Gn:aq)(st:Th),h1.tr.get h.next=some (.loop Q6 ps3 QM Gn st)->st≠ .busy->
     ∃w',(∃L3:Loop,HE st L3/\Steps P (lone (on b a (.code (.rangeFunc f ps asg body)::k)) cs w) (lone (on b a2 ((L3.pending.map Item.code).toList++k)) cs w'))/\
      vB (eO T ng dr) B ρ h w a ρ3 e {h1 with tr:=h1.tr.del h.next} w' a2:=by
    intro Q6 ps3 QM Gn st dz C0;obtain⟨L3,NQ,hE3,hp3,hc3,hc4,aik,hj3⟩:=q8.obj h.next im _ Ye dz;have apa:(L3.state==.busy)=false:=by
     cases st with
     |ready=>rw[hj3.1];rfl
     |busy=>exact absurd rfl C0
     |done j=>cases j<;>(rw[hj3.1];rfl)
    have Cb:=Xm (P:=P) (b:=b) (a:=a2) (k:=k) (cs:=cs) NQ apa;obtain⟨S4,E4⟩:=q8.off Ye dz rfl (JA.obj im.aC (.loop {L3 with state:=.exhausted}));have E04:=E03.trans E4;exact⟨_,⟨L3,hj3,aiP.trans (.one Cb)⟩,⟨S4,hE.mono E04.le,rfl,E04,hDn.ext E4⟩⟩
   split at hc
   .rename_i Q6 ps3 QM Gn dz;cases hc;obtain⟨w',⟨L3,hj,hs⟩,hA⟩:=fin _ _ _ _ _ dz (by simp);refine⟨ρ3,w',a2,?_,hA⟩;rw[hj.2] at hs;exact hs
   .rename_i Q6 ps3 QM Gn dz;cases hc;obtain⟨w',⟨L3,hj,hs⟩,hA⟩:=fin _ _ _ _ _ dz (by simp);refine⟨ρ3,w',a2,⟨k,?_⟩,hA⟩;rw[hj.2] at hs;exact hs
   .rename_i Q6 ps3 QM Gn id dz;cases hc;obtain⟨w',⟨L3,hj,hs⟩,hA⟩:=fin _ _ _ _ _ dz (by simp);refine⟨ρ3,w',a2,⟨k,?_,rfl⟩,hA⟩;rw[hj.2] at hs;exact hs
   .cases hc
  .cases hc
 .cases hc
end
theorem wX(x:Nat):∀(js:List Nat)(e:Env),ak (x6 e js) x=if x∈js then .chan none else ak e x
 |[],e=>by simp[x6]
 |t::r,e=>by
  rw[x6,wX x r,Env.az];by_cases h1:x∈r
  .simp[h1]
  .by_cases h2:x=t<;>simp[h1,h2]
section
variable{P:Program}{T:oR}{ng:Nat}{dr:pq}{F:Nat->Option bM}{ih:aq->Env->ae->R}{CC:bK}{ρ:dE}{h:ae}{w w':World}
theorem cK.aside(S:cK CC ρ h w){k:Nat}(hf:xt ρ h k)(ha:JA k w w'):cK CC ρ h w':=
 ⟨fun b r hb=>⟨(S.low b r hb).1,by rw[ha.size];exact(S.low b r hb).2⟩,fun b r o hb ho=>gH.mono ρ.le_refl (ha.other _ (hf b r o hb ho)) (S.obj b r o hb ho),S.inj,S.wf⟩
theorem Ext.aside{k:Nat}(E:Ext ρ0 h0 w0 ρ h w)(ha:JA k w w')(hk:w0.heap.size<=k):Ext ρ0 h0 w0 ρ h w':=
 ⟨E.le,E.next,by rw[ha.size];exact E.size,ha.os.trans E.os,ha.tape.trans E.tape,ha.output.trans E.output,fun j hj hn=>(ha.other j (by omega)).trans (E.mE j hj hn),E.own,E.new,E.live⟩
theorem iJ(E:Ext ρ h w ρ' h' w'){k:Nat}{o:Obj}(hk:w.heap[k]?=some o)(hf:xt ρ h k):w'.heap[k]?=some o:=by rw[E.mE k (jd hk) (fun b r hb hw e=>by obtain⟨x,hx,_⟩:=hw;exact hf b r x hb hx e)];exact hk
theorem Ha{n:List Nat}{k:Value} :∀ {L:List (Value×Value)},(∀x∈L,pB n k x.1=some false)->gM n k L=some none
 |[],_=>rfl
 |(k',v)::L,hl=>by have h1:=hl _ (AN ..);dsimp only at h1;simp only[gM,h1,Ha fun x hx=>hl x (Bf _ hx)]
theorem Hh{n:List Nat}{k:Value} :∀ {L:List (Value×Value)},gM n k L=some none->∀x∈L,pB n k x.1=some false
 |[],_,x,hx=>by cases hx
 |(k',v)::L,hl,x,hx=>by
  simp only[gM] at hl;split at hl
  .cases hl
  .rename_i he;rcases List.mem_cons.1 hx with rfl|hx
   .exact he
   .exact Hh hl x hx
  .cases hl
def Gd(ks:List Nat)(x y:Value×Value):Prop:=pB (9::ks) x.1 y.1=some false/\pB (9::ks) y.1 x.1=some false
def TT(ks:List Nat)(x:Value×Value):Prop:=(∃kc,x.1=.agg ⟨kc⟩/\kc.length=ks.length/\kc.all plain=true)/\plain x.2=true/\CM x.2=true
theorem Gd.symm{x y:Value×Value}(hx:Gd ks x y):Gd ks y x:=⟨hx.2,hx.1⟩
theorem He{ks:List Nat} :∀ {es:List (Value×Value)},Ce (9::ks) es=true->(∀x∈es,TT ks x)/\es.Pairwise (Gd ks)
 |[],_=>⟨fun x hx=>(by cases hx),.nil⟩
 |(k,v)::r,hm=>by
  simp only[Ce,uh] at hm;obtain⟨⟨⟨⟨⟨h1,h2⟩,h3⟩,h4⟩,h5⟩,h6⟩:=hm;obtain⟨a,b⟩:=He h6;have hl:gM (9::ks) k r=some none:=by
   split at h5
   .assumption
   .cases h5
  have hk:∃kc,k=.agg ⟨kc⟩/\kc.length=ks.length/\kc.all plain=true:=by
   cases k with
   |agg cs=>
    obtain⟨kc⟩:=cs;exact⟨kc,rfl,mH h1,h2⟩
   |_=>simp[pE] at h1
  refine⟨fun x hx=>?_,List.pairwise_cons.2 ⟨fun x hx=>?_,b⟩⟩
  .rcases List.mem_cons.1 hx with rfl|hx
   .exact⟨hk,h3,h4⟩
   .exact a x hx
  .have h7:=Hh hl x hx;refine⟨h7,?_⟩;obtain⟨kc,rfl,_⟩:=hk;obtain⟨⟨l'⟩,e2,he⟩:=UG h7;rw[e2];exact Ii he
theorem ap5{h:ae}(hz:sz=z.length)(hk:kc.length=sz)(hp:kc.all plain=true)(h26:ak e s26=.tuple #[.agg ⟨kc⟩,v])(n1:s26≠s27)(n2:s27≠s28)(n3:s27≠s7)(n4:s27≠s8)(n5:s28≠s7)(n6:s28≠s8)(n7:s7≠s8):
  ∃e4 h4,oE F ih [⟨some s27,none,.ext 0 (.tmp s26)⟩,⟨some s28,none,.ext 1 (.tmp s26)⟩,⟨some s7,none,.alloc z⟩,⟨none,none,.store sz (.tmp s7) (.tmp s27)⟩,⟨some s8,none,.mv (.tmp s28)⟩] e h=some (e4,h4)/\
   ak e4 s7=.pointer (some ⟨h.next,0,none⟩)/\ak e4 s8=v/\ak e4 s27=.agg ⟨kc⟩/\ak e4 s28=v/\(∀x,x≠s27->x≠s28->x≠s7->x≠s8->ak e4 x=ak e x)/\
   h4.next=h.next+1/\(∀b,b≠h.next->h4.tr.get b=h.tr.get b)/\aV h4 h.next 0 sz=some kc:=by
 have iC:flat (.agg ⟨kc⟩)=some kc:=by simp[flat,cellsOf,hp]
 have Br:iX (aJ h z 0) h.next 0 kc=some {(aJ h z 0) with clock:=(aJ h z 0).clock+1,tr:=(aJ h z 0).tr.set h.next (.aC (aH z 0 kc) false 0 (aJ h z 0).clock)} :=by
  have hg:(aJ h z 0).tr.get h.next=some (.aC z false 0 0):=by simp[aJ,ae.new,Tr.az]
  have hle:Nat.ble (0+kc.length) z.length=true:=by rw[Nat.ble_eq];omega
  simp only[iX,hg,hle,if_true]
 have hbq:Nat.beq kc.length sz=true:=by rw[hk];exact Nat.beq_refl _
 have hsp:aH z 0 kc=kc:=by simp only[aH,List.take_zero,List.nil_append,BX];rw[UO (by omega),List.append_nil]
 refine⟨Tr.set (Tr.set (Tr.set (Tr.set e s27 (.agg ⟨kc⟩)) s28 v) s7 (.pointer (some ⟨h.next,0,none⟩))) s8 v,{(aJ h z 0) with clock:=(aJ h z 0).clock+1,tr:=(aJ h z 0).tr.set h.next (.aC (aH z 0 kc) false 0 (aJ h z 0).clock)},?_,?_,?_,?_,?_,?_,?_,?_,?_⟩
 .simp only[oE,cy,wanted,cond_true,bw,ev,cG,h26];simp only[List.getElem?_cons_zero,Env.az,n1,n2,n3,n4,n5,n6,n7,n1.symm,n2.symm,n3.symm,n4.symm,n5.symm,n6.symm,n7.symm,if_true,if_false,h26,List.getElem?_cons_succ,iC,hbq,Br,cond_true]
 all_goals simp[Env.az,n1,n2,n3,n4,n5,n6,n7,n1.symm,n2.symm,n3.symm,n4.symm,n5.symm,n6.symm,n7.symm,aJ,ae.new,Tr.az,aV,hsp,hk]
 .intro x a1 a2 a3 a4;simp[a1,a2,a3,a4]
 .intro b hb;simp[hb]
 .exact YW (by omega)
theorem ap6{L:List (Value×Value)}{b0 r s7 s8 s29 s30 s31 d sz:Nat}(hk:kc.length=sz)(NT:ks.length=sz)(hp:kc.all plain=true)(hv:plain v=true)(h7:ak e s7=.pointer (some ⟨b0,0,none⟩))(h8:ak e s8=v)(hd:ak e d=.map (some r))(hr:aV h b0 0 sz=some kc)(hm:h.tr.get r=some (.map L))(hl:gM (9::ks) (.agg ⟨kc⟩) L=some none)(n1:s29≠s30)(n2:s29≠s31)(n3:s30≠s31)(n4:s7≠s29)(n5:s8≠s29)(n6:s8≠s30):
  ∃e5 h5,oE F ih [⟨some s29,none,.mv (.tmp d)⟩,⟨some s30,none,.load (some sz) (.tmp s7)⟩,⟨some s31,none,.mv (.tmp s8)⟩,⟨none,none,.Eo (9::ks) (.tmp s29) (.tmp s30) (.tmp s31)⟩] e h=some (e5,h5)/\
   ak e5 s29=.map (some r)/\ak e5 s30=.agg ⟨kc⟩/\ak e5 s31=v/\(∀x,x≠s29->x≠s30->x≠s31->ak e5 x=ak e x)/\
   h5.next=h.next/\(∀b,b≠r->h5.tr.get b=h.tr.get b)/\h5.tr.get r=some (.map (L++[(.agg ⟨kc⟩,v)])):=by
 have pD:agg (some sz) kc=some (.agg ⟨kc⟩):=by simp[agg,hk]
 have D9:pE (9::ks) (.agg ⟨kc⟩)=true:=by show Nat.beq kc.length ks.length=true;rw[hk,NT];exact Nat.beq_refl _
 have hup:yr (9::ks) (.agg ⟨kc⟩) v L=some (L++[(.agg ⟨kc⟩,v)]):=by simp[yr,hl,Bv,hp,hv]
 refine⟨Tr.set (Tr.set (Tr.set e s29 (.map (some r))) s30 (.agg ⟨kc⟩)) s31 v,{h with clock:=h.clock+1,tr:=h.tr.set r (.map (L++[(.agg ⟨kc⟩,v)]))},?_,?_,?_,?_,?_,?_,?_,?_⟩
 .simp only[oE,cy,wanted,cond_true,bw,ev,cG];simp only[Env.az,n1,n2,n3,n4,n5,n6,n1.symm,n2.symm,n3.symm,n4.symm,n5.symm,n6.symm,if_true,if_false,h7,h8,hd,width,hr,pD,D9,hm,hup,cond_true]
 all_goals simp[Env.az,n1,n2,n3,n4,n5,n6,n1.symm,n2.symm,n3.symm,n4.symm,n5.symm,n6.symm,Tr.az,h7,h8,hd]
 .intro x a1 a2 a3;simp[a1,a2,a3]
 .intro b hb;simp[hb]
theorem cK.ajk(S:cK CC ρ h w)(zj:im.aC<w.heap.size):cK CC (fz ρ h.next im) {h with next:=h.next+1} w/\Ext ρ h w (fz ρ h.next im) {h with next:=h.next+1} w:=by
 have cq:∀x o,h.tr.get x=some o->x≠h.next:=fun x o hx=>by have:=S.wf x o hx;omega
 have dJ:∀x rx,fz ρ h.next im x=some rx->x≠h.next->ρ x=some rx:=fun x rx hx hn=>by unfold fz at hx;rwa [aW hn] at hx
 refine⟨⟨?_,?_,?_,?_⟩,⟨nH S.fresh,Nat.le_succ _,dw _,rfl,rfl,rfl,fun _ _ _=>rfl,?_,?_,?_⟩⟩
 .intro x rx hx;unfold fz at hx;by_cases e:x=h.next
  .rw[aZ e] at hx;cases hx;exact⟨by show x<h.next+1;omega,zj⟩
  .rw[aW e] at hx;have:=S.low x rx hx;exact⟨by show x<h.next+1;omega,this.2⟩
 .intro x rx o hx ho;exact gH.mono (nH S.fresh) rfl (S.obj x rx o (dJ x rx hx (cq x o ho)) ho)
 .intro x y rx ry o hx hy hw ho PU;obtain⟨p,hp,Fo⟩:=hw;exact S.inj x y rx ry o (dJ x rx hx (cq x p hp)) (dJ y ry hy (cq y o ho)) ⟨p,hp,Fo⟩ ho PU
 .intro x o ho;have:=S.wf x o ho;show x<h.next+1;omega
 .intro x rx hx hw;obtain⟨p,hp,Fo⟩:=hw;exact .inr ⟨x,rx,dJ x rx hx (cq x p hp),⟨p,hp,Fo⟩,rfl⟩
 .intro x rx hx hn;by_cases e:x=h.next
  .show h.next<=x;omega
  .rw[dJ x rx hx e] at hn;cases hn
 .intro x rx o hx ho;exact .inr ⟨x,rx,o,dJ x rx hx (cq x o ho),ho,rfl⟩
theorem RS{seen:Array Nat}{y:MapEntry} :y∈(leftOf ces (seen.push s)).toList↔y∈(leftOf ces seen).toList/\y.born≠s:=by
 unfold leftOf;simp only[Array.toList_filter,Ms,contains_push,Bool.not_or,uh,Bool.not_eq_true',beq_eq_false_iff_ne,ne_eq];constructor
 .rintro⟨a,b,c⟩;exact⟨⟨a,b⟩,c⟩
 .rintro⟨⟨a,b⟩,c⟩;exact⟨a,b,c⟩
theorem zQ{b:Frame}{k:List Item}{cs:List Frame}{bg:List Nat}(ho:ops[i]?=some o)(hg:o.guard=none)(hd:Op.pQ o.op=false)(hr:(execOp a.eval o).run P w=.ok (.value v) w'):
  Steps P (lone (on b a (.inRegion ops (i::bg)::k)) cs w) (lone (on b (a.put o.dst v) (.inRegion ops bg::k)) cs w'):=
 .one (Dd ho (by simp[Region.wanted,hg]) hd hr)
end
section
variable{P:Program}{T:oR}{ng:Nat}{dr:pq}{F:Nat->Option bM}{ih:aq->Env->ae->R}{CC:bK}{ρ:dE}{h:ae}{w w':World}
structure Mcp(T:oR)(ng n:Nat)(gm gZ g_:Array Oper)(ks:List Nat)(z:List Value)(d zb tH t u s26 s27 s28 s7 s8 s29 s30 s31:Nat):Prop where
 l2:∃o3 o4,gm.toList=[o3,o4]/\o3.dst=some t/\o3.op=.next (.tmp tH) false/\o3.guard=none/\aM T ng n gm.toList o4=⟨some u,none,.ext 0 (.tmp t)⟩
 l3:∃p1 r3,gZ.toList=p1::r3/\p1.dst=some s26/\p1.op=.entry (.tmp tH)/\p1.guard=none/\r3.map (aM T ng n gZ.toList)=
  [⟨some s27,none,.ext 0 (.tmp s26)⟩,⟨some s28,none,.ext 1 (.tmp s26)⟩,⟨some s7,none,.alloc z⟩,⟨none,none,.store z.length (.tmp s7) (.tmp s27)⟩,⟨some s8,none,.mv (.tmp s28)⟩]
 l4:g_.toList.map (aM T ng n g_.toList)=[⟨some s29,none,.mv (.tmp d)⟩,⟨some s30,none,.load (some z.length) (.tmp s7)⟩,⟨some s31,none,.mv (.tmp s8)⟩,⟨none,none,.Eo (9::ks) (.tmp s29) (.tmp s30) (.tmp s31)⟩]
 sz:ks.length=z.length
 hn:tH<n/\t<n/\s26<n
 ne:[d,zb,tH,t,u,s26,s27,s28,s7,s8,s29,s30,s31].Nodup
structure Bx(p:Prop):Prop where
 out:p
abbrev kM(u bid b1 i2 i3 i4:Nat)(gm gZ g_:Array Oper):Code:=
 .seq (.region i2 gm false) (.seq (.cond (.tmp u) .skip (.exit bid)) (.block b1 (.seq (.region i3 gZ false) (.region i4 g_ false))))
theorem AE(hE:VR ρ (ak e s) (a.tmps.getD s undef))(hs:ak e s=.pointer (some ⟨xi,0,none⟩))(hx:ρ xi=some im)(zj:im.aC=it)(KP:im.base=0):a.eval (.tmp s)=.pointer (some ⟨it,0,none⟩):=by rw[hs] at hE;obtain⟨r,hr,hc⟩:=hE.xj;rw[hx] at hr;cases hr;rw[zj,KP] at hc;exact hc
theorem Qa(hF:Cy P T ng dr F)(hT:cu P T)(hI:pt P T ng dr ih)(M:Mcp T ng n gm gZ g_ ks z d zb tH t u s26 s27 s28 s7 s8 s29 s30 s31){bid b1 i2 i3 i4:Nat}(b:Frame)(k:List Item)(cs:List Frame)(S:cK (eO T ng dr) ρ h w)(hG:cj ng ρ)(hE:ER ρ e a.tmps)(hn:n<=a.tmps.size)(hs0:ak e tH=.pointer (some ⟨xi,0,none⟩))(JH:ρ xi=some im)(zj:im.aC=it)(KP:im.base=0)(MD:∀ty,(Instr.next (.pointer (some ⟨it,0,none⟩)) false ty).run P w=.ok (.tuple #[.bool false]) w):
  ∃ρ' w' a',Steps P (lone (on b a (.code (kM u bid b1 i2 i3 i4 gm gZ g_):: .inLoop (kM u bid b1 i2 i3 i4 gm gZ g_):: .inBlock bid::k)) cs w) (lone (on b a' k) cs w')/\
   cK (eO T ng dr) ρ' h w'/\ER ρ' (Tr.set (Tr.set e t (.tuple #[.bool false])) u (.bool false)) a'.tmps/\a'.tmps.size=a.tmps.size/\a'.defers=a.defers/\Ext ρ h w ρ' h w':=by
 obtain⟨o3,o4,e2,d3,p3,g3,c4⟩:=M.l2;have ho3:gm[0]?=some o3:=by rw[<-Array.getElem?_toList,e2];rfl
 have adN:gm.size=2:=by rw[<-Array.length_toList,e2];rfl
 have hs:=AE (hE tH) hs0 JH zj KP;have hex:(execOp a.eval o3).run P w=.ok (.value (.tuple #[.bool false])) w:=by simp only[execOp,p3,hs];exact cS (MD _)
 have Yt:=zQ (P:=P) (b:=b) (cs:=cs) (k:=.code (.seq (.cond (.tmp u) .skip (.exit bid)) (.block b1 (.seq (.region i3 gZ false) (.region i4 g_ false)))):: .inLoop (kM u bid b1 i2 i3 i4 gm gZ g_):: .inBlock bid::k) (bg:=[1]) ho3 g3 (by rw[p3];rfl) hex;rw[d3] at Yt;have NA:ER ρ (cG e (some t) (.tuple #[.bool false])) (a.put (some t) (.tuple #[.bool false])).tmps:=ER.put hE (fun x hx=>by cases hx;have:=M.hn.2.1;omega) (.tuple (.cons (.cell (.cell (.bool _))) .nil));have Rs:oE F ih ((gm.toList.drop 1).map (aM T ng n gm.toList)) (cG e (some t) (.tuple #[.bool false])) h=some (Tr.set (Tr.set e t (.tuple #[.bool false])) u (.bool false),h):=by
  have:(gm.toList.drop 1).map (aM T ng n gm.toList)=[⟨some u,none,.ext 0 (.tmp t)⟩]:=by rw[<-c4,e2];rfl
  rw[this];simp[oE,cy,wanted,bw,ev,cG,Env.az]
 obtain⟨ρ1,w1,a1,Xy,S1,E1,z1,dd1,X1⟩:=qQ hF hT hI b (.code (.seq (.cond (.tmp u) .skip (.exit bid)) (.block b1 (.seq (.region i3 gZ false) (.region i4 g_ false)))):: .inLoop (kM u bid b1 i2 i3 i4 gm gZ g_):: .inBlock bid::k) cs 1 1 (by omega) _ _ _ _ Rs ρ w (a.put (some t) (.tuple #[.bool false])) S hG NA (by rw[dK];exact hn);have hu:=(E1 u);simp only[Env.az,if_true] at hu;have hcu:a1.eval (.tmp u)=.bool false:=hu.iA;refine⟨ρ1,w1,a1,?_,S1,E1,by rw[z1,dK],by rw[dd1,put_defers],X1⟩;refine .head yo (.head rI ?_);rw[adN];refine Yt.trans (Xy.trans (.head gf (.head yo (.head (Jj hcu) ?_))));simp only[Nt,if_false];exact .one (Xn (by simp[exitTo]))
theorem Wc(hF:Cy P T ng dr F)(hT:cu P T)(hI:pt P T ng dr ih)(M:Mcp T ng n gm gZ g_ ks z d zb tH t u s26 s27 s28 s7 s8 s29 s30 s31){bid b1 i2 i3 i4 r it sb cl:Nat}(b:Frame)(k:List Item)(cs:List Frame)(hold:∀x∈ces.toList,x.born<cl)(yU:(ces.toList.map (·.born)).Nodup){ρ0:dE}{h0:ae}(aoJ:w0.heap.size<=it){xi:Nat}(zj:im.aC=it)(KP:im.base=0):
  ∀(m:Nat)(rem:List ((Value×Value)×MapEntry)),rem.length=m->∀(L:List (Value×Value))(e:Env)(h:ae)(ρ:dE)(w:World)(a:Act)(seen:Array Nat)(c0:Nat),
   cK (eO T ng dr) ρ h w->cj ng ρ->ER ρ e a.tmps->n<=a.tmps.size->Ext ρ0 h0 w0 ρ h w->
   ak e d=.map (some r)->h.tr.get r=some (.map L)->ak e tH=.pointer (some ⟨xi,0,none⟩)->ρ xi=some im->
   w.heap[it]?=some (.mapIter (some sb) cl seen c0)->cl<=c0->xt ρ h it->w.heap[sb]?=some (.map ces cl)->xt ρ h sb->it≠sb->
   (∀y,y∈(leftOf ces seen).toList↔y∈rem.map Prod.snd)->(rem.map fun z=>z.2.born).Nodup->(∀z∈rem,QG ρ z.1 z.2)->(∀z∈rem,TT ks z.1)->(L++rem.map Prod.fst).Pairwise (Gd ks)->
   ∃ρ' w' a' e' h',Steps P (lone (on b a (.code (kM u bid b1 i2 i3 i4 gm gZ g_):: .inLoop (kM u bid b1 i2 i3 i4 gm gZ g_):: .inBlock bid::k)) cs w) (lone (on b a' k) cs w')/\
    cK (eO T ng dr) ρ' h' w'/\ER ρ' e' a'.tmps/\a'.tmps.size=a.tmps.size/\a'.defers=a.defers/\Ext ρ0 h0 w0 ρ' h' w'/\ρ.le ρ'/\(∀x rx,ρ' x=some rx->ρ x=none->h.next<=x)/\w'.heap[sb]?=some (.map ces cl)/\h'.next=h.next+m/\(∀x,x<h.next->x≠r->h'.tr.get x=h.tr.get x)/\
    (∃L',h'.tr.get r=some (.map L')/\L'.Perm (L++rem.map Prod.fst))/\ak e' t=.tuple #[.bool false]/\ak e' u=.bool false/\
    (∀x,x∉[t,u,s26,s27,s28,s7,s8,s29,s30,s31]->ak e' x=ak e x)/\
    ((rem≠[]\/∀x∈[s26,s27,s28,s7,s8,s29,s30,s31],CM (ak e x)=true)->∀x∈[s26,s27,s28,s7,s8,s29,s30,s31],CM (ak e' x)=true)/\
    (rem=[]->∀x,x≠t->x≠u->ak e' x=ak e x):=by
 obtain⟨o3,o4,e2,d3,p3,g3,c4⟩:=M.l2;obtain⟨q1,r3,e3,d1,p1,g1,c3⟩:=M.l3;have cq:=M.ne;have NX:=(List.reverse_perm _).nodup_iff.2 M.ne;simp only[List.reverse_cons,List.reverse_nil,List.nil_append,List.cons_append,List.nodup_cons,List.mem_cons,om,or_false,not_or,not_false_eq_true,List.nodup_nil,and_true] at cq NX;have hB:=Bx.mk (And.intro cq NX);clear cq NX;have ho3:gm[0]?=some o3:=by rw[<-Array.getElem?_toList,e2];rfl
 have Zs:gZ[0]?=some q1:=by rw[<-Array.getElem?_toList,e3];rfl
 have adN:gm.size=2:=by rw[<-Array.length_toList,e2];rfl
 have apH:gZ.size=r3.length+1:=by rw[<-Array.length_toList,e3];rfl
 intro m;induction m with
 |zero=>
  intro rem Ru L e h ρ w a seen c0 S hG hE hn E hd hr hs0 JH hit AP NP xH Zg adp GV Vn hMR hKF hPw;have hs:=AE (hE tH) hs0 JH zj KP;have Ru:=JC Ru;subst Ru;have Zj:(leftOf ces seen).size=0:=by
   cases hq:(leftOf ces seen).size with
   |zero=>rfl
   |succ j=>
    exfalso;have:=(GV (leftOf ces seen)[0]).1 (Array.getElem_mem_toList _);simp at this
  have vi:∀ty,(Instr.next (.pointer (some ⟨it,0,none⟩)) false ty).run P w=.ok (.tuple #[.bool false]) w:=by
   intro ty;rcases run_next_at (P:=P) w ty it sb cl c0 seen ces cl hit xH hold AP with⟨_,q⟩|⟨y,hy,_⟩
   .exact q
   .have:=(GV y).1 hy;simp at this
  obtain⟨ρ1,w1,a1,Yt,S1,E1,z1,dd1,X1⟩:=Qa (i2:=i2) (i3:=i3) (i4:=i4) (b1:=b1) (bid:=bid) hF hT hI M b k cs S hG hE hn hs0 JH zj KP vi;refine⟨ρ1,w1,a1,_,h,Yt,S1,E1,z1,dd1,E.trans X1,X1.le,X1.new,iJ X1 xH Zg,rfl,fun _ _ _=>rfl,⟨L,hr,by simp⟩,?_,?_,?_,?_,?_⟩
  .simp[Env.az,hB.out]
  .simp[Env.az]
  .intro x hx;simp only[List.mem_cons,om,or_false,not_or] at hx;simp[Env.az,hx]
  .intro hor x hx;rcases hor with hor|hor
   .exact absurd rfl hor
   .have hxt:x≠t/\x≠u:=by constructor<;>(rintro rfl;simp[hB.out] at hx)
    simp only[Env.az,hxt,if_false];exact hor x hx
  .intro _ x h1 h2;simp[Env.az,h1,h2]
 |succ m ihm=>
  intro rem Ru L e h ρ w a seen c0 S hG hE hn E hd hr hs0 JH hit AP NP xH Zg adp GV Vn hMR hKF hPw;have hs:=AE (hE tH) hs0 JH zj KP;obtain⟨y,hy,w1,hw1,vi⟩:∃y∈(leftOf ces seen).toList,∃w1:World,(w1=w\/w1=w.drew)/\(Instr.next (.pointer (some ⟨it,0,none⟩)) false o3.type).run P w=.ok (.tuple #[.bool true,y.key,y.val]) (Go.ChangeMaps.setBlock w1 it (.mapIter (some sb) cl (seen.push y.born) cl)):=by
   rcases run_next_at (P:=P) w o3.type it sb cl c0 seen ces cl hit xH hold AP with⟨q,_⟩|⟨y,hy,q⟩
   .exfalso;cases rem with
    |nil=>simp at Ru
    |cons x rem=>
     have h1:=(GV x.2).2 (by simp);have:leftOf ces seen= #[]:=Array.eq_empty_of_size_eq_zero q;rw[this] at h1;cases h1
   .exact⟨y,hy,q⟩
  
  obtain⟨x0,IM,TB⟩:=dZ.1 ((GV y).1 hy);obtain⟨x,y'⟩:=x0;dsimp only at TB;subst TB;obtain⟨A,B,rfl⟩:=List.append_of_mem IM;obtain⟨⟨kc,hxk,rN,Yd⟩,hvp,hvb⟩:=hKF _ IM;obtain⟨rP,Bm⟩:=hMR _ IM;obtain⟨xk,v⟩:=x;dsimp only at hxk hvp hvb rP Bm;subst hxk;have hex:(execOp a.eval o3).run P w=.ok (.value (.tuple #[.bool true,y'.key,y'.val])) (Go.ChangeMaps.setBlock w1 it (.mapIter (some sb) cl (seen.push y'.born) cl)):=by simp only[execOp,p3,hs];exact cS vi
  generalize hw2:Go.ChangeMaps.setBlock w1 it (.mapIter (some sb) cl (seen.push y'.born) cl)=w2 at hex;have ah6:=jd hit;have Nx:JA it w w2:=by
   subst hw2;rcases hw1 with rfl|rfl
   .exact JA.obj it _
   .exact⟨rfl,rfl,rfl,(JA.obj (w:=w) it _).size,(JA.obj (w:=w) it _).other⟩
  have ah5:w2.heap[it]?=some (.mapIter (some sb) cl (seen.push y'.born) cl):=by
   subst hw2;rcases hw1 with rfl|rfl
   .simp[Go.ChangeMaps.setBlock,ah6]
   .show(w.heap.setIfInBounds it _)[it]?=_;simp[ah6]
  have aiG:w2.heap[sb]?=some (.map ces cl):=(Nx.other sb (Ne.symm adp)).trans xH;have S2:=S.aside NP Nx;have X2:=E.aside Nx aoJ;have Yt:=zQ (P:=P) (b:=b) (cs:=cs) (k:=.code (.seq (.cond (.tmp u) .skip (.exit bid)) (.block b1 (.seq (.region i3 gZ false) (.region i4 g_ false)))):: .inLoop (kM u bid b1 i2 i3 i4 gm gZ g_):: .inBlock bid::k) (bg:=[1]) ho3 g3 (by rw[p3];rfl) hex;rw[d3] at Yt;have hE2:ER ρ (cG e (some t) (.tuple #[.bool true,.agg ⟨kc⟩,v])) (a.put (some t) (.tuple #[.bool true,y'.key,y'.val])).tmps:=ER.put hE (fun x hx=>by cases hx;have:=M.hn.2.1;omega) (.tuple (.cons (.cell (.cell (.bool _))) (.cons rP (.cons Bm .nil))));have Rs:oE F ih ((gm.toList.drop 1).map (aM T ng n gm.toList)) (cG e (some t) (.tuple #[.bool true,.agg ⟨kc⟩,v])) h=some (Tr.set (Tr.set e t (.tuple #[.bool true,.agg ⟨kc⟩,v])) u (.bool true),h):=by
   have:(gm.toList.drop 1).map (aM T ng n gm.toList)=[⟨some u,none,.ext 0 (.tmp t)⟩]:=by rw[<-c4,e2];rfl
   rw[this];simp[oE,cy,wanted,bw,ev,cG,Env.az]
  obtain⟨ρ3,w3,a3,Xy,S3,E3,z3,dd3,X3⟩:=qQ hF hT hI b (.code (.seq (.cond (.tmp u) .skip (.exit bid)) (.block b1 (.seq (.region i3 gZ false) (.region i4 g_ false)))):: .inLoop (kM u bid b1 i2 i3 i4 gm gZ g_):: .inBlock bid::k) cs 1 1 (by omega) _ _ _ _ Rs ρ w2 (a.put (some t) (.tuple #[.bool true,y'.key,y'.val])) S2 hG hE2 (by rw[dK];exact hn);have hcu:a3.eval (.tmp u)=.bool true:=by have hu:=(E3 u);simp only[Env.az,if_true] at hu;exact hu.iA
  have Zf:xt ρ3 h it:=NP.ext X3 (jd ah5);have Zh:xt ρ3 h sb:=Zg.ext X3 (jd aiG);have Vi:=iJ X3 ah5 NP;have Vy:=iJ X3 aiG Zg;have hs3:a3.eval (.tmp tH)=.pointer (some ⟨it,0,none⟩):=AE (E3 tH) (by simp[Env.az,hB.out,hs0]) (X3.le _ _ JH) zj KP;have aop:=run_entry_at (P:=P) w3 it sb cl seen ces cl y' Vi Vy (mem_left hy).1 yU;have aoq:(execOp a3.eval q1).run P w3=.ok (.value (.tuple #[y'.key,y'.val])) w3:=by simp only[execOp,p1,hs3];exact cS aop
  have st3:=zQ (P:=P) (b:=b) (cs:=cs) (k:=.code (.region i4 g_ false):: .inBlock b1:: .inLoop (kM u bid b1 i2 i3 i4 gm gZ g_):: .inBlock bid::k) (bg:=List.range' 1 r3.length) Zs g1 (by rw[p1];rfl) aoq;rw[d1] at st3;have hn3:n<=a3.tmps.size:=by rw[z3,dK];exact hn
  generalize he3:(Tr.set (Tr.set e t (.tuple #[.bool true,.agg ⟨kc⟩,v])) u (.bool true):Env)=ee at E3;have ho3:∀x,x≠t->x≠u->ak ee x=ak e x:=by intro x h1 h2;rw[<-he3];simp[Env.az,h1,h2]
  have hE4:ER ρ3 (cG ee (some s26) (.tuple #[.agg ⟨kc⟩,v])) (a3.put (some s26) (.tuple #[y'.key,y'.val])).tmps:=ER.put E3 (fun x hx=>by cases hx;have:=M.hn.2.2;omega) (.tuple (.cons (rP.mono X3.le) (.cons (Bm.mono X3.le) .nil)));obtain⟨e4,h4,abe,f1,f2,f3,f4,f5,f6,f7,f8⟩:=ap5 (F:=F) (ih:=ih) (e:=cG ee (some s26) (.tuple #[.agg ⟨kc⟩,v])) (h:=h) (z:=z) (kc:=kc) (v:=v) (s26:=s26) (s27:=s27) (s28:=s28) (s7:=s7) (s8:=s8) (sz:=z.length) rfl (by rw[rN,M.sz]) Yd (by simp[cG,Env.az]) (by simp[hB.out]) (by simp[hB.out]) (by simp[hB.out]) (by simp[hB.out]) (by simp[hB.out]) (by simp[hB.out]) (by simp[hB.out]);rw[<-c3] at abe;have ady:oE F ih ((gZ.toList.drop 1).map (aM T ng n gZ.toList)) (cG ee (some s26) (.tuple #[.agg ⟨kc⟩,v])) h=some (e4,h4):=by
   have:gZ.toList.drop 1=r3:=by rw[e3];rfl
   rw[this];exact abe
  obtain⟨ρ4,w4,a4,st4,S4,E4,z4,dd4,X4⟩:=qQ hF hT hI b (.code (.region i4 g_ false):: .inBlock b1:: .inLoop (kM u bid b1 i2 i3 i4 gm gZ g_):: .inBlock bid::k) cs r3.length 1 (by omega) _ _ _ _ ady ρ3 w3 (a3.put (some s26) (.tuple #[y'.key,y'.val])) S3 (hG.mono X3.le) hE4 (by rw[dK];exact hn3);have Rv:r≠h.next:=by have:=S.wf r _ hr;omega
  have hd4:ak e4 d=.map (some r):=by rw[f5 d (by simp[hB.out]) (by simp[hB.out]) (by simp[hB.out]) (by simp[hB.out])];simp only[cG,Env.az];rw[aW (by simp[hB.out]),ho3 d (by simp[hB.out]) (by simp[hB.out])];exact hd
  have hlk:gM (9::ks) (.agg ⟨kc⟩) L=some none:=by refine Ha fun q hq=>?_;exact((List.pairwise_append.1 hPw).2.2 q hq (.agg ⟨kc⟩,v) (dZ.2 ⟨_,IM,rfl⟩)).2
  obtain⟨e5,h5,abf,k1,k2,k3,k4,k5,k6,k7⟩:=ap6 (F:=F) (ih:=ih) (e:=e4) (h:=h4) (kc:=kc) (v:=v) (L:=L) (ks:=ks) (b0:=h.next) (r:=r) (s7:=s7) (s8:=s8) (s29:=s29) (s30:=s30) (s31:=s31) (d:=d) (sz:=z.length) (by rw[rN,M.sz]) M.sz Yd hvp f1 f2 hd4 f8 (by rw[f7 r Rv];exact hr) hlk (by simp[hB.out]) (by simp[hB.out]) (by simp[hB.out]) (by simp[hB.out]) (by simp[hB.out]) (by simp[hB.out]);rw[<-M.l4] at abf;have adz:oE F ih ((g_.toList.drop 0).map (aM T ng n g_.toList)) e4 h4=some (e5,h5):=abf;obtain⟨ρ5,w5,a5,st5,S5,E5,z5,dd5,X5⟩:=qQ hF hT hI b (.inBlock b1:: .inLoop (kM u bid b1 i2 i3 i4 gm gZ g_):: .inBlock bid::k) cs g_.size 0 (by omega) _ _ _ _ adz ρ4 w4 a4 S4 ((hG.mono X3.le).mono X4.le) E4 (by rw[z4,dK];exact hn3);have X35:=(X3.trans X4).trans X5;have ho5:∀x,x∉[t,u,s26,s27,s28,s7,s8,s29,s30,s31]->ak e5 x=ak e x:=by intro x hx;simp only[List.mem_cons,om,or_false,not_or] at hx;rw[k4 x (by simp[hx]) (by simp[hx]) (by simp[hx]),f5 x (by simp[hx]) (by simp[hx]) (by simp[hx]) (by simp[hx])];simp only[cG,Env.az];rw[aW (by simp[hx]),ho3 x (by simp[hx]) (by simp[hx])]
  have abg:((L++[(Value.agg ⟨kc⟩,v)])++(A++B).map Prod.fst).Perm (L++(A++((Value.agg ⟨kc⟩,v),y')::B).map Prod.fst):=by simp only[List.map_append,BY,vu,List.singleton_append];exact List.Perm.append_left _ List.perm_middle.symm
  have lq:∀q∈A++B,q.2.born≠y'.born:=by rw[List.map_append,BY] at Vn;have:=(List.nodup_cons.1 (List.perm_middle.nodup_iff.1 Vn)).1;intro q hq e;rw[<-List.map_append] at this;exact this (dZ.2 ⟨q,hq,e⟩)
  obtain⟨ρ6,w6,a6,e6,h6,st6,S6,E6,z6,dd6,X6,le6,nw6,sb6,nx6,ol6,⟨L6,NC,pL6⟩,t6,u6,s6,b6,_⟩:=ihm (A++B) (by simp at Ru⊢;omega) (L++[(.agg ⟨kc⟩,v)]) e5 h5 ρ5 w5 a5 (seen.push y'.born) cl S5 (hG.mono X35.le) E5 (by rw[z5,z4,dK];exact hn3) (X2.trans X35)
   (by rw[ho5 d (by simp[hB.out])];exact hd) k7 (by rw[ho5 tH (by simp[hB.out])];exact hs0) (X35.le _ _ JH)
   (iJ X5 (iJ X4 Vi Zf) (Zf.ext X4 (jd Vi))) (dw _) ((Zf.ext X4 (jd Vi)).ext X5 (jd (iJ X4 Vi Zf)))
   (iJ X5 (iJ X4 Vy Zh) (Zh.ext X4 (jd Vy))) ((Zh.ext X4 (jd Vy)).ext X5 (jd (iJ X4 Vy Zh))) adp
   (fun q=>by
    rw[RS,GV q];simp only[List.map_append,BY,lE,List.mem_cons];constructor
    .rintro⟨h1|h1|h1,h2⟩
     .exact .inl h1
     .exact absurd (by rw[h1]) h2
     .exact .inr h1
    .intro h1;refine⟨h1.imp_right .inr,?_⟩;rw[<-lE,<-List.map_append] at h1;obtain⟨p,hp,rfl⟩:=dZ.1 h1;exact lq p hp)
   (by rw[List.map_append,BY] at Vn;rw[List.map_append];exact(List.nodup_cons.1 (List.perm_middle.nodup_iff.1 Vn)).2)
   (fun q hq=>by obtain⟨m1,m2⟩:=hMR q (by simp only[lE,List.mem_cons] at hq⊢;exact hq.imp_right .inr);exact⟨m1.mono X35.le,m2.mono X35.le⟩)
   (fun q hq=>hKF q (by simp only[lE,List.mem_cons] at hq⊢;exact hq.imp_right .inr))
   ((abg.pairwise_iff (fun {_ _} =>Gd.symm)).2 hPw)
  refine⟨ρ6,w6,a6,e6,h6,?_,S6,E6,?_,?_,X6,dE.le_trans X35.le le6,?_,sb6,by rw[nx6,k5,f6];omega,?_,⟨L6,NC,pL6.trans abg⟩,t6,u6,?_,?_,?_⟩
  .refine .head yo (.head rI ?_);rw[adN];refine Yt.trans (Xy.trans (.head gf (.head yo (.head (Jj hcu) ?_))));simp only[if_true];refine .head Xo (.head uZ (.head yo (.head rI ?_)));rw[apH,List.range_eq_range',List.range'_succ];refine st3.trans (st4.trans (.head gf (.head rI ?_)));rw[List.range_eq_range'];exact st5.trans (.head gf (.head Ht (.head LS st6)))
  .rw[z6,z5,z4,dK,z3,dK]
  .rw[dd6,dd5,dd4,put_defers,dd3,put_defers]
  .intro x rx hx IM;cases h5':ρ5 x with
   |none=>have:=nw6 x rx hx h5';omega
   |some r5=>exact X35.new x r5 h5' IM
  .intro x hx hxr;rw[ol6 x (by omega) hxr,k6 x hxr,f7 x (by omega)]
  .intro x hx;rw[s6 x hx];exact ho5 x hx
  .intro _;refine b6 (.inr fun x hx=>?_);simp only[List.mem_cons,om,or_false] at hx;have g26:ak e5 s26=.tuple #[.agg ⟨kc⟩,v]:=by rw[k4 s26 (by simp[hB.out]) (by simp[hB.out]) (by simp[hB.out]),f5 s26 (by simp[hB.out]) (by simp[hB.out]) (by simp[hB.out]) (by simp[hB.out])];simp[cG,Env.az]
   rcases hx with rfl|rfl|rfl|rfl|rfl|rfl|rfl|rfl
   .rw[g26];rfl
   .rw[k4 _ (by simp[hB.out]) (by simp[hB.out]) (by simp[hB.out]),f3];rfl
   .rw[k4 _ (by simp[hB.out]) (by simp[hB.out]) (by simp[hB.out]),f4];exact hvb
   .rw[k4 _ (by simp[hB.out]) (by simp[hB.out]) (by simp[hB.out]),f1];rfl
   .rw[k4 _ (by simp[hB.out]) (by simp[hB.out]) (by simp[hB.out]),f2];exact hvb
   .rw[k1];rfl
   .rw[k2];rfl
   .rw[k3];exact hvb
  .intro hr;simp at hr
end
section
variable{P:Program}{T:oR}{ng:Nat}{dr:pq}{F:Nat->Option bM}{ih:aq->Env->ae->R}{CC:bK}{ρ:dE}{h:ae}{w w':World}
theorem BG:∀ {l:List Nat},JR l=true->l.Nodup
 |[],_=>.nil
 |x::l,h=>by simp only[JR,uh] at h;refine List.nodup_cons.2 ⟨fun hx=>?_,BG h.2⟩;have:=List.all_eq_true.1 h.1 x hx;rw[Nat.beq_refl] at this;cases this
theorem RV{a b:Code}{c:aq}(hm:P9 T ng n a b=some c):
  ∃(i1 bid b1 i2 i3 i4:Nat) (Bu gm gZ g_:Array Oper) (src:Operand) (ks:List Nat) (z:List Value) (d zb tH t u s26 s27 s28 s7 s8 s29 s30 s31 mt:Nat) (o1 o2:Oper),
   a=.region i1 Bu false/\b=.block bid (.loop (kM u bid b1 i2 i3 i4 gm gZ g_))/\Bu.toList=[o1,o2]/\o2.dst=some tH/\o2.op=.range mt (.tmp zb)/\o2.guard=none/\
   aM T ng n Bu.toList o1=⟨some zb,none,.mv src⟩/\IT T mt=true/\Mcp T ng n gm gZ g_ ks z d zb tH t u s26 s27 s28 s7 s8 s29 s30 s31/\
   c=.mcp src d (9::ks) [zb,tH] [s26,s27,s28,s7,s8,s29,s30,s31] t u:=by
 unfold P9 at hm;split at hm
 .rename_i i1 Bu bid i2 gm u acd b1 i3 gZ i4 g_;split at hm
  .rename_i o1 o2 o3 o4 p1 r3 B9 sE Ye;split at hm
   .rename_i tH mt zb q1 q2 q3;split at hm
    .rename_i t x23 q4 q5 q6;split at hm
     .rename_i s26 y23 q7 q8 q9;split at hm
      .rename_i x22 src u' t' s27 e1 s28 e2 s7 z sz x7 x27 s8 x28 s29 d s30 sz' y7 s31 x8 ks x29 x30 x31 c1 c2 c3 c4;cases hb:(([(bid,acd),(zb,x22),(tH,x23),(tH,y23),(t,t'),(u,u'),(s26,e1),(s26,e2),(s7,x7),(s7,y7),(s27,x27),(s28,x28),(s8,x8),(s29,x29),(s30,x30),(s31,x31),(sz,sz'),(sz,z.length),(sz,ks.length)].all fun p=>Nat.beq p.1 p.2)&&
        IT T mt&&Nat.blt tH n&&Nat.blt t n&&Nat.blt s26 n&&JR [d,zb,tH,t,u,s26,s27,s28,s7,s8,s29,s30,s31]) with
       |false=>rw[hb] at hm;cases hm
       |true=>
        rw[hb] at hm;cases hm;have bq:∀ {x y:Nat},Nat.beq x y=true↔x=y:=⟨mH,by rintro rfl;exact Nat.beq_refl _⟩;simp only[List.all_cons,List.all_nil,uh,Bool.and_true,bq,Nat.blt_eq] at hb;obtain⟨⟨⟨⟨⟨⟨rfl,rfl,rfl,g4,rfl,rfl,rfl,g8,rfl,Fi,rfl,rfl,rfl,rfl,rfl,rfl,rfl,rfl,g19⟩,hmt⟩,D1⟩,cA⟩,x4⟩,cq⟩:=hb;subst g4 g8 Fi;exact⟨i1,bid,b1,i2,i3,i4,Bu,gm,gZ,g_,src,ks,z,d,zb,tH,t,u,s26,s27,s28,s7,s8,s29,s30,s31,mt,o1,o2,rfl,rfl,B9,q1,q2,q3,c1,hmt,
         ⟨⟨o3,o4,sE,q4,q5,q6,c2⟩,⟨p1,r3,Ye,q7,q8,q9,c3⟩,c4,g19.symm,⟨D1,cA,x4⟩,BG cq⟩,rfl⟩
      .cases hm
     .cases hm
    .cases hm
   .cases hm
  .cases hm
 .cases hm
theorem Ij{e1 e2:Env}(hE:ER ρ e1 tmps)(js:List Nat)(h1:∀x∈js,CM (ak e1 x)=true)(h2:∀x,x∉js->ak e2 x=ak e1 x)(h3:∀x∈js,ak e2 x=.chan none):ER ρ e2 tmps:=by
 intro x;by_cases hx:x∈js
 .rw[h3 x hx];exact .any ((hE x).CM (h1 x hx))
 .rw[h2 x hx];exact hE x
theorem cK.agQ(S:cK CC ρ h w)(hn:h2.next=h.next)(ht:∀x o,h2.tr.get x=some o->h.tr.get x=some o):cK CC ρ h2 w/\Ext ρ h w ρ h2 w:=by
 have hw:∀x,dh h2 x->dh h x:=fun x ⟨o,ho,hr⟩=>⟨o,ht x o ho,hr⟩;exact⟨⟨fun x r hx=>by rw[hn];exact S.low x r hx,fun x r o hx ho=>S.obj x r o hx (ht x o ho),fun x y rx ry o hx hy VG ho cq=>S.inj x y rx ry o hx hy (hw x VG) (ht y o ho) cq,fun x o ho=>by rw[hn];exact S.wf x o (ht x o ho)⟩,
  ⟨ρ.le_refl,by omega,dw _,rfl,rfl,rfl,fun _ _ _=>rfl,fun x r hx VG=>.inr ⟨x,r,hx,hw x VG,rfl⟩,fun x r h1 h2=>(by rw[h1] at h2;cases h2),fun x r o hx ho=>.inr ⟨x,r,o,hx,ht x o ho,rfl⟩⟩⟩
theorem Uf{R:α->β->Prop}{l:List α}{m:List β}(h:All2 R l m):∀z∈l.zip m,R z.1 z.2:=by
 induction h with
 |nil=>intro z hz;cases hz
 |cons h _ ih=>
  intro z hz;rcases List.mem_cons.1 hz with rfl|hz
  .exact h
  .exact ih z hz
theorem QL{R:α->β->Prop}{l l':List α}(hp:l.Perm l'):∀ {m:List β},All2 R l m->∃m',m'.Perm m/\All2 R l' m':=by
 induction hp with
 |nil=>intro m h;exact⟨m,.refl _,h⟩
 |cons x _ ih=>
  intro m h;cases h with
  |cons h hs=>
   obtain⟨m',p,q⟩:=ih hs;exact⟨_::m',p.cons _,.cons h q⟩
 |swap x y l=>
  intro m h;cases h with
  |cons h hs=>cases hs with
   |cons h' hs=>exact⟨_::_::_,.swap _ _ _,.cons h' (.cons h hs)⟩
 |trans _ _ ih1 ih2=>
  intro m h;obtain⟨m1,p1,q1⟩:=ih1 h;obtain⟨m2,p2,q2⟩:=ih2 q1;exact⟨m2,p2.trans p1,q2⟩
theorem JL.perm{r:vy}(hm:JL ρ r es w)(hp:es.Perm es'):JL ρ r es' w:=by obtain⟨ces,cl,h1,⟨l,h2,h3⟩,h4⟩:=hm;obtain⟨l',p,q⟩:=QL hp h3;exact⟨ces,cl,h1,⟨l',p.trans h2,q⟩,h4⟩
theorem MW(hb:∀(i:Nat)(y:MapEntry),ces[i]?=some y->y.born=i):(ces.toList.map (·.born)).Nodup/\∀y∈ces.toList,y.born<ces.size:=by
 have:ces.toList.map (·.born)=List.range ces.size:=by
  apply zS;intro i;rw[tT,Array.getElem?_toList];by_cases hi:i<ces.size
  .rw[List.getElem?_range hi,Array.getElem?_eq_getElem hi];exact congrArg some (hb i _ (Array.getElem?_eq_getElem hi))
  .rw[Array.getElem?_eq_none (by omega),tS (by simp;omega)];rfl
 refine⟨by rw[this];exact List.nodup_range,fun y hy=>?_⟩;have:y.born∈ces.toList.map (·.born):=dZ.2 ⟨y,hy,rfl⟩;simp_all
theorem RX(hF:Cy P T ng dr F)(hT:cu P T)(hI:pt P T ng dr ih){ca cb:Code}{c:aq}(hm:P9 T ng n ca cb=some c){x:aT}(hc:bN F ih c e h=some (x,e',h'))(b:Frame)(k:List Item)(cs:List Frame)(S:cK (eO T ng dr) ρ h w)(hG:cj ng ρ)(hE:ER ρ e a.tmps)(hn:n<=a.tmps.size)(hD:xL B ρ h w a.defers):
  ∃ρ' w' a',Dh P b k cs (lone (on b a (.code (.seq ca cb)::k)) cs w) x a' w'/\vB (eO T ng dr) B ρ h w a ρ' e' h' w' a':=by
 obtain⟨i1,bid,b1,i2,i3,i4,Bu,gm,gZ,g_,src,ks,z,d,zb,tH,t,u,s26,s27,s28,s7,s8,s29,s30,s31,mt,o1,o2,rfl,rfl,B9,d2,p2,g2,c1,hmt,M,rfl⟩:=RV hm;have cq:=M.ne;have NX:=(List.reverse_perm _).nodup_iff.2 M.ne;simp only[List.reverse_cons,List.reverse_nil,List.nil_append,List.cons_append,List.nodup_cons,List.mem_cons,om,or_false,not_or,not_false_eq_true,List.nodup_nil,and_true] at cq NX;have hB:=Bx.mk (And.intro cq NX);clear cq NX;have ho1:Bu[0]?=some o1:=by rw[<-Array.getElem?_toList,B9];rfl
 have ho2:Bu[1]?=some o2:=by rw[<-Array.getElem?_toList,B9];rfl
 have aiR:Bu.size=2:=by rw[<-Array.length_toList,B9];rfl
 obtain⟨kt,el,o7⟩:∃kt el,P.underlying mt=some (.map kt el):=by
  unfold IT at hmt;split at hmt
  .rename_i i hi;have:=(hT mt i hi).u;split at hmt
   .rename_i k1 e1 hu;exact⟨k1,e1,by rw[this,hu]⟩
   .cases hmt
  .cases hmt
 have Zq:cy F ih (aM T ng n Bu.toList o1) e h=some (Tr.set e zb (ev e src),h):=by rw[c1];simp[cy,wanted,bw,cG]
 obtain⟨ρ1,w1,a1,Yt,S1,E1,z1,dd1,X1⟩:=Cl (P:=P) hF hT hI ho1 Zq S hG hE hn b (.code (.block bid (.loop (kM u bid b1 i2 i3 i4 gm gZ g_)))::k) cs [1];have h22:=E1 zb;simp only[Env.az,if_true] at h22;have hn1:n<=a1.tmps.size:=by rw[z1];exact hn
 simp only[bN] at hc;split at hc
 .
  rename_i VB;cases hc;rw[VB] at h22;have e22:a1.eval (.tmp zb)=.map none:=h22.Et;have cR:(execOp a1.eval o2).run P w1=.ok (.value (.pointer (some ⟨w1.heap.size,0,none⟩))) (w1.alloc (.mapIter none 0 #[] 0)):=by simp only[execOp,p2,e22];exact cS (run_range_nilMap w1 mt kt el o7)
  have Xy:=zQ (P:=P) (b:=b) (cs:=cs) (k:=.code (.block bid (.loop (kM u bid b1 i2 i3 i4 gm gZ g_)))::k) (bg:=[]) ho2 g2 (by rw[p2];rfl) cR;rw[d2] at Xy;obtain⟨S2,X2⟩:=S1.hidden (.mapIter none 0 #[] 0);obtain⟨S3,X3⟩:=S2.ajk (im:=⟨w1.heap.size,0,0,0,0⟩) (by rw[ux];exact Nat.lt_succ_self _);have JH:fz ρ1 h.next ⟨w1.heap.size,0,0,0,0⟩ h.next=some ⟨w1.heap.size,0,0,0,0⟩:=lC _ _ _;have E3:ER (fz ρ1 h.next ⟨w1.heap.size,0,0,0,0⟩) (cG (Tr.set e zb (ev e src)) (some tH) (.pointer (some ⟨h.next,0,none⟩))) (a1.put (some tH) (.pointer (some ⟨w1.heap.size,0,none⟩))).tmps:=
   ER.put (E1.mono (X2.trans X3).le) (fun x hx=>by cases hx;have:=M.hn.1;omega) (CR.ptr (o:=0) JH).vr
  obtain⟨ρ4,w4,a4,st4,S4,E4,z4,dd4,X4⟩:=Qa (i2:=i2) (i3:=i3) (i4:=i4) (b1:=b1) (bid:=bid) hF hT hI M b k cs S3 (hG.mono ((X1.trans X2).trans X3).le) E3 (by rw[dK];exact hn1) (by
   simp only[cG,Env.az,if_true]
   ) JH rfl rfl (fun ty=>by simp only[Instr.next,getObj,Sem.run_bind,Sem.run,heap_alloc_new,Result.andThen];rfl)
  have X:=((X1.trans X2).trans X3).trans X4;refine⟨ρ4,w4,a4,?_,⟨S4,?_,by rw[z4,dK,z1],X,by rw[dd4,put_defers,dd1];exact hD.ext X⟩⟩
  .refine .head yo (.head rI ?_);rw[aiR];exact Yt.trans (Xy.trans (.head gf (.head uZ (.head Bz st4))))
  .refine Ij E4 [zb,tH] ?_ ?_ ?_
   .intro x hx;simp only[List.mem_cons,om,or_false] at hx;rcases hx with rfl|rfl
    .simp[Env.az,cG,hB.out,VB,CM]
    .simp[Env.az,cG,hB.out,CM]
   .intro x hx;simp only[List.mem_cons,om,or_false,not_or] at hx;simp only[xJ,Env.az,x6,cG,hx,if_false]
   .intro x hx;simp only[List.mem_cons,om,or_false] at hx;rcases hx with rfl|rfl
    .simp[xJ,Env.az,x6,hB.out]
    .simp[xJ,Env.az,x6,hB.out]
 .rename_i s VB;split at hc
  .rename_i r hd;split at hc
   .rename_i es hs hr;cases dx:(!Nat.beq s r&&Ce (9::ks) es) with
    |false=>rw[dx] at hc;cases hc
    |true=>
    rw[dx] at hc;cases hc;simp only[uh,Bool.not_eq_true'] at dx;have hsr:s≠r:=fun q=>by rw[q,Nat.beq_refl] at dx;cases dx.1
    obtain⟨hKF,hPw⟩:=He dx.2;rw[VB] at h22;obtain⟨rs,KV,e22⟩:=h22.I0;have am2:a1.eval (.tmp zb)=.map (some rs.aC):=e22;obtain⟨ces,cl,acZ,⟨l0,hp,ha⟩,CJ,lq⟩:=S1.obj s rs _ KV hs;obtain⟨yU,hold⟩:=MW lq;rw[<-CJ] at hold;have cR:(execOp a1.eval o2).run P w1=.ok (.value (.pointer (some ⟨w1.heap.size,0,none⟩))) (w1.alloc (.mapIter (some rs.aC) cl #[] cl)):=by simp only[execOp,p2,am2];exact cS (run_range_map w1 mt kt el rs.aC ces cl o7 acZ)
    have Xy:=zQ (P:=P) (b:=b) (cs:=cs) (k:=.code (.block bid (.loop (kM u bid b1 i2 i3 i4 gm gZ g_)))::k) (bg:=[]) ho2 g2 (by rw[p2];rfl) cR;rw[d2] at Xy
    
    obtain⟨h1,hh1,ada,hh1n⟩:∃h1:ae,h1.next=h.next/\(∀x,h1.tr.get x=if x=s then none else h.tr.get x)/\True:=⟨{h with tr:=h.tr.del s},rfl,fun x=>Tr.kA _ _ _,trivial⟩;have Vm:∀x o,h1.tr.get x=some o->x≠s/\h.tr.get x=some o:=by
     intro x o hx;rw[ada] at hx;by_cases q:x=s
     .rw[aZ q] at hx;cases hx
     .rw[aW q] at hx;exact⟨q,hx⟩
    obtain⟨S2,X2⟩:=S1.agQ hh1 (fun x o hx=>(Vm x o hx).2);have ah0:xt ρ1 h1 rs.aC:=fun x rx o hx ho q=>S1.inj s x rs rx o KV hx ⟨_,hs,rfl⟩ (Vm x o ho).2 (Ne.symm (Vm x o ho).1) q.symm;obtain⟨S3,X3⟩:=S2.hidden (.mapIter (some rs.aC) cl #[] cl);obtain⟨S4,X4⟩:=S3.ajk (im:=⟨w1.heap.size,0,0,0,0⟩) (by rw[ux];exact Nat.lt_succ_self _);have apD:=jd acZ;have JH:fz ρ1 h1.next ⟨w1.heap.size,0,0,0,0⟩ h1.next=some ⟨w1.heap.size,0,0,0,0⟩:=lC _ _ _;have X14:=((X1.trans X2).trans X3).trans X4;have aoi:(w1.alloc (.mapIter (some rs.aC) cl #[] cl)).heap[rs.aC]?=some (.map ces cl):=iJ (X3.trans X4) acZ ah0;have aoy:=ah0.ext (X3.trans X4) apD;have aoK:(w1.alloc (.mapIter (some rs.aC) cl #[] cl)).heap[w1.heap.size]?=some (.mapIter (some rs.aC) cl #[] cl):=Ba w1 _;have aov:xt (fz ρ1 h1.next ⟨w1.heap.size,0,0,0,0⟩) {h1 with next:=h1.next+1} w1.heap.size:=by
     intro x rx o hx ho q;have Ft:x≠h1.next:=by have:=S2.wf x o ho;omega
     unfold fz at hx;rw[aW Ft] at hx;have:=(S2.low x rx hx).2;omega
    have E3:ER (fz ρ1 h1.next ⟨w1.heap.size,0,0,0,0⟩) (cG (Tr.set e zb (ev e src)) (some tH) (.pointer (some ⟨h1.next,0,none⟩))) (a1.put (some tH) (.pointer (some ⟨w1.heap.size,0,none⟩))).tmps:=
     ER.put (E1.mono ((X2.trans X3).trans X4).le) (fun x hx=>by cases hx;have:=M.hn.1;omega) (CR.ptr (o:=0) JH).vr
    have bY:=ha.length;have tx:(es.zip l0).map Prod.fst=es:=List.map_fst_zip (by omega);have adL:(es.zip l0).map Prod.snd=l0:=List.map_snd_zip (by omega);obtain⟨ρ6,w6,a6,e6,h6,st6,S6,E6,z6,dd6,X6,le6,nw6,sb6,nx6,ol6,⟨L6,NC,pL6⟩,t6,u6,s6,b6,n6⟩:=
     Wc (P:=P) hF hT hI M (bid:=bid) (b1:=b1) (i2:=i2) (i3:=i3) (i4:=i4) (r:=r) (it:=w1.heap.size) (sb:=rs.aC) (cl:=cl) (ces:=ces) b k cs hold yU (ρ0:=ρ) (h0:=h) (w0:=w) X1.size (xi:=h1.next) (im:=⟨w1.heap.size,0,0,0,0⟩) rfl rfl
      es.length (es.zip l0) (by rw[List.length_zip];omega) [] _ _ _ _ _ #[] cl S4 (hG.mono X14.le) E3 (by rw[dK];exact hn1) X14
      (by simp only[cG,Env.az];rw[aW (by simp[hB.out]),aW (by simp[hB.out])];exact hd)
      (by show h1.tr.get r=_;rw[ada,aW (Ne.symm hsr)];exact hr)
      (by simp only[cG,Env.az,if_true]) JH aoK (dw _) aov aoi aoy (by omega)
      (fun y=>by rw[adL,hp.mem_iff];simp[leftOf])
      (by
       have:(es.zip l0).map (fun z=>z.2.born)=l0.map (·.born):=by rw[<-adL,List.map_map];simp only[adL];rfl
       rw[this];exact(hp.map _).nodup_iff.2 yU)
      (fun q hq=>by obtain⟨m1,m2⟩:=Uf ha q hq;exact⟨m1.mono ((X2.trans X3).trans X4).le,m2.mono ((X2.trans X3).trans X4).le⟩)
      (fun q hq=>hKF q.1 (by rw[<-tx];exact dZ.2 ⟨q,hq,rfl⟩))
      (by rw[tx];exact hPw)
    rw[tx,List.nil_append] at pL6;have hre:∀x rx,ρ6 x=some rx->x<h.next->ρ x=some rx:=by
     intro x rx hx dS;cases hq:ρ x with
     |none=>have:=X6.new x rx hx hq;omega
     |some r0=>rw[X6.le x r0 hq] at hx;exact hx
    let h9:ae:= { next:=h.next+(es.length+1),clock:=h.clock+1,tr:=h.tr.set r (.map es) }
    have dz:∀x o,h9.tr.get x=some o->(x=r/\o=.map es)\/(x≠r/\h.tr.get x=some o):=by
     intro x o hx;simp only[h9,Tr.az] at hx;by_cases q:x=r
     .rw[aZ q] at hx;cases hx;exact .inl ⟨q,rfl⟩
     .rw[aW q] at hx;exact .inr ⟨q,hx⟩
    have wh:∀x o,h9.tr.get x=some o->∃o',h.tr.get x=some o'/\(o.rw=true->o'.rw=true):=by
     intro x o hx;rcases dz x o hx with⟨rfl,rfl⟩|⟨_,hx⟩
     .exact⟨_,hr,fun _=>rfl⟩
     .exact⟨o,hx,id⟩
    have Zz:∀x,dh h9 x->dh h x:=by rintro x⟨o,ho,Zw⟩;obtain⟨o',h1,h2⟩:=wh x o ho;exact⟨o',h1,h2 Zw⟩
    have MD:h6.next=h9.next:=by rw[nx6];simp only[h9];omega
    have S9:cK (eO T ng dr) ρ6 h9 w6:=by
     refine⟨fun x rx hx=>by rw[<-MD];exact S6.low x rx hx,?_,?_,?_⟩
     .intro x rx o hx ho;rcases dz x o ho with⟨rfl,rfl⟩|⟨hxr,ho⟩
      .exact JL.perm (S6.obj x rx _ hx NC) pL6
      .have dS:=S.wf x o ho;by_cases AW:x=s
       .subst AW;rw[hs] at ho;cases ho;have:ρ6 x=some rs:=le6 _ _ (X4.le _ _ KV);rw[this] at hx;cases hx;exact⟨ces,cl,sb6,⟨l0,hp,ha.mono fun _ _ ⟨m1,m2⟩=>⟨m1.mono (dE.le_trans ((X2.trans X3).trans X4).le le6),m2.mono (dE.le_trans ((X2.trans X3).trans X4).le le6)⟩⟩,CJ,lq⟩
       .refine S6.obj x rx o hx ?_;rw[ol6 x (by show x<h1.next+1;omega) hxr];show h1.tr.get x=_;rw[ada,aW AW];exact ho
     .intro x y rx ry o hx hy VG ho PU;obtain⟨o',CY,_⟩:=wh y o ho;obtain⟨p,Yh,hp2⟩:=Zz x VG;exact S.inj x y rx ry o' (hre x rx hx (S.wf x p Yh)) (hre y ry hy (S.wf y o' CY)) ⟨p,Yh,hp2⟩ CY PU
     .intro x o ho;obtain⟨o',CY,_⟩:=wh x o ho;have:=S.wf x o' CY;simp only[h9];omega
    have X9:Ext ρ h w ρ6 h9 w6:=by
     refine⟨X6.le,by rw[<-MD];exact X6.next,X6.size,X6.os,X6.tape,X6.output,X6.mE,?_,X6.new,?_⟩
     .intro x rx hx VG;obtain⟨p,Yh,hp2⟩:=Zz x VG;exact .inr ⟨x,rx,hre x rx hx (S.wf x p Yh),⟨p,Yh,hp2⟩,rfl⟩
     .intro x rx o hx ho;obtain⟨o',CY,_⟩:=wh x o ho;exact .inr ⟨x,rx,o',hre x rx hx (S.wf x o' CY),CY,rfl⟩
    refine⟨ρ6,w6,a6,?_,⟨S9,?_,by rw[z6,dK,z1],X9,by rw[dd6,put_defers,dd1];exact hD.ext X9⟩⟩
    .refine .head yo (.head rI ?_);rw[aiR];exact Yt.trans (Xy.trans (.head gf (.head uZ (.head Bz st6))))
    .have g22:ak e6 zb=.map (some s):=by rw[s6 zb (by simp[hB.out])];simp[cG,Env.az,hB.out,VB]
     have g23:ak e6 tH=.pointer (some ⟨h1.next,0,none⟩):=by rw[s6 tH (by simp[hB.out])];simp[cG,Env.az,hB.out]
     cases es with
     |nil=>
      have n7:=n6 rfl;refine Ij E6 [zb,tH] ?_ ?_ ?_
      .intro x hx;simp only[List.mem_cons,om,or_false] at hx;rcases hx with rfl|rfl
       .rw[g22];rfl
       .rw[g23];rfl
      .intro x hx;simp only[List.mem_cons,om,or_false,not_or] at hx;by_cases hu:x=u
       .subst hu;simp[xJ,Env.az,u6]
       .by_cases ht:x=t
        .subst ht;simp[xJ,Env.az,t6,hB.out]
        .rw[n7 x ht hu];simp[xJ,Env.az,x6,cG,hx,hu,ht]
      .intro x hx;simp only[List.mem_cons,om,or_false] at hx;rcases hx with rfl|rfl<;>simp[xJ,Env.az,x6,hB.out]
     |cons y ys=>
      have b7:=b6 (.inl (by cases l0 with|nil=>simp at bY|cons=>simp));refine Ij E6 ([zb,tH]++[s26,s27,s28,s7,s8,s29,s30,s31]) ?_ ?_ ?_
      .intro x hx;rcases lE.1 hx with hx|hx
       .simp only[List.mem_cons,om,or_false] at hx;rcases hx with rfl|rfl
        .rw[g22];rfl
        .rw[g23];rfl
       .exact b7 x hx
      .intro x hx;have hxj:x∉([zb,tH]++[s26,s27,s28,s7,s8,s29,s30,s31]):=hx;simp only[lE,List.mem_cons,om,or_false,not_or] at hx;by_cases hu:x=u
       .subst hu;simp[xJ,Env.az,u6]
       .by_cases ht:x=t
        .subst ht;simp[xJ,Env.az,t6,hB.out]
        .rw[s6 x (by simp[hx,hu,ht])];simp only[xJ,Env.az,wX,cG,aW hxj,hx,hu,ht,if_false]
      .intro x hx;have hxu:x≠u/\x≠t:=by constructor<;>(rintro rfl;simp[hB.out] at hx)
       simp only[xJ,Env.az,wX,hxu,if_false,aZ hx]
   .cases hc
  .cases hc
 .cases hc
end
section
variable{P:Program}{T:oR}{ng:Nat}{dr:pq}{F:Nat->Option bM}{ih:aq->Env->ae->R}
theorem Xl{y:aT×Env×ae}(hc:bN F ih .bad e h=some y):False:=by simp[bN] at hc
theorem I1{b:Frame}{a a':Act}{t t':List Item}(h:t≠t'):lone (on b a t) cs w≠lone (on b a' t') cs w':=by intro e;exact h (RU e)
theorem L8(hF:Cy P T ng dr F)(hT:cu P T)(hD:HD P T ng dr F)(hK:fO ih)(hI:pt P T ng dr ih):pt P T ng dr (bN F ih):=by
 intro n c;induction c with
 |skip=>
  intro e h x e' h' hc B ρ w a b k cs S hG hE hn hB Bg hr;simp only[bX,bN,jm,vz] at hc;obtain⟨rfl,rfl,rfl⟩:=hc;exact⟨ρ,w,a,.one Xo,.same S hE Bg⟩
 |label l=>
  intro e h x e' h' hc B ρ w a b k cs S hG hE hn hB Bg hr;simp only[bX,bN,jm,vz] at hc;obtain⟨rfl,rfl,rfl⟩:=hc;exact⟨ρ,w,a,.one aai,.same S hE Bg⟩
 |region id ops draw=>
  intro e h x e' h' hc B ρ w a b k cs S hG hE hn hB Bg hr;cases draw with
  |false=>
   simp only[bX,bN] at hc;split at hc
   .rename_i e1 h1 ho;cases hc;obtain⟨ρ1,w1,a1,s1,S1,E1,z1,d1,X1⟩:=qQ hF hT hI b k cs ops.size 0 (by omega) e e' h h' ho ρ w a S hG hE hn;refine⟨ρ1,w1,a1,?_,⟨S1,E1,z1,X1,by rw[d1];exact Bg.ext X1⟩⟩;rw[<-List.range_eq_range'] at s1;exact Steps.head rI (Steps.trans s1 (.one gf))
   .cases hc
  |true=>
   simp only[bX,bN] at hc;split at hc
   .rename_i e1 h1 ho;cases hc;obtain⟨ρ1,w1,a1,s1,S1,E1,z1,d1,X1⟩:=hD ih hK hI n ops e h e' h' ho (P.follows .mixedOrders) (w.tape w.drawn (.order b.fn id)) ρ {w with drawn:=w.drawn+1} a b k cs (S.drawn _) hG hE hn;have X:=(Ext.drawn (ρ:=ρ) (h:=h) (w:=w) (w.drawn+1)).trans X1;refine⟨ρ1,w1,a1,?_,⟨S1,E1,z1,X,by rw[d1];exact Bg.ext X⟩⟩;exact Steps.head aeX (Steps.trans s1 (.one gf))
   .cases hc
 |seq c1 c2 _ _=>
  intro e h x e' h' hc B ρ w a b k cs S hG hE hn hB Bg hr;have rP:b.roundOf=none\/iW c1=true:=hr.imp_right fun q=>by simp only[iW,uh] at q;exact q.1
  have Bm:b.roundOf=none\/iW c2=true:=hr.imp_right fun q=>by simp only[iW,uh] at q;exact q.2
  simp only[bX] at hc;split at hc
  .rename_i cm hm;exact RX hF hT hI hm hc b k cs S hG hE hn Bg
  simp only[bN] at hc;split at hc
  .rename_i e1 h1 ho;obtain⟨ρ1,w1,a1,g1,A1⟩:=hI n c1 e h _ e1 h1 ho B ρ w a b (.code c2::k) cs S hG hE hn hB Bg rP;obtain⟨ρ2,w2,a2,g2,A2⟩:=hI n c2 e1 h1 _ e' h' hc B ρ1 w1 a1 b k cs A1.Qw (hG.mono A1.ext.le) A1.er (by rw[A1.size];exact hn) (sD hB A1.ext.size) A1.defs Bm;exact⟨ρ2,w2,a2,Dh.of_steps (.head yo g1) g2,A1.trans A2⟩
  .rename_i cq;obtain⟨ρ1,w1,a1,g1,A1⟩:=hI n c1 e h _ e' h' hc B ρ w a b (.code c2::k) cs S hG hE hn hB Bg rP;refine⟨ρ1,w1,a1,?_,A1⟩;cases x with
   |normal=>exact absurd hc (cq e' h')
   |exit id=>
    obtain⟨k',h1,h2⟩:=g1;exact⟨k',.head yo h1,h2.trans rfl⟩
   |ret=>
    obtain⟨k',h1⟩:=g1;exact⟨k',.head yo h1⟩
 |cond c c1 c2 _ _=>
  intro e h x e' h' hc B ρ w a b k cs S hG hE hn hB Bg hr;have rP:b.roundOf=none\/iW c1=true:=hr.imp_right fun q=>by simp only[iW,uh] at q;exact q.1
  have Bm:b.roundOf=none\/iW c2=true:=hr.imp_right fun q=>by simp only[iW,uh] at q;exact q.2
  simp only[bX] at hc;cases ho:bp ng c with
  |false=>rw[ho] at hc;exact(Xl hc).elim
  |true=>
   simp only[ho,cond_true,bN] at hc;have hv:=hE.eval hG ho;split at hc
   .rename_i hev;rw[hev] at hv;obtain⟨ρ1,w1,a1,g1,A1⟩:=hI n c1 e h _ e' h' hc B ρ w a b k cs S hG hE hn hB Bg rP;exact⟨ρ1,w1,a1,Dh.of_steps (.one (Jj hv.iA)) g1,A1⟩
   .rename_i hev;rw[hev] at hv;obtain⟨ρ1,w1,a1,g1,A1⟩:=hI n c2 e h _ e' h' hc B ρ w a b k cs S hG hE hn hB Bg Bm;exact⟨ρ1,w1,a1,Dh.of_steps (.one (Jj hv.iA)) g1,A1⟩
   .cases hc
 |block id c _=>
  intro e h x e' h' hc B ρ w a b k cs S hG hE hn hB Bg hr;simp only[bX,bN] at hc;split at hc
  .rename_i i e1 h1 ho;obtain⟨ρ1,w1,a1,g1,A1⟩:=hI n c e h _ e1 h1 ho B ρ w a b (.inBlock id::k) cs S hG hE hn hB Bg hr;obtain⟨k',q1,q2⟩:=g1;cases hi:Nat.beq i id with
   |true=>
    have:=mH hi;subst this;simp only[hi,cond_true,jm,vz] at hc;obtain⟨rfl,rfl,rfl⟩:=hc;refine⟨ρ1,w1,a1,?_,A1⟩;refine Steps.head uZ (q1.trans (.one (Xn ?_)));rw[q2];simp[exitTo]
   |false=>
    simp only[hi,cond_false,jm,vz] at hc;obtain⟨rfl,rfl,rfl⟩:=hc;refine⟨ρ1,w1,a1,⟨k',.head uZ q1,?_⟩,A1⟩;rw[q2];have:(id==i)=false:=by
     cases hx:id==i with
     |false=>rfl
     |true=>
      have:=eq_of_beq hx;subst this;rw[Nat.beq_refl] at hi;cases hi
    simp[exitTo,this]
  .rename_i cq;obtain⟨ρ1,w1,a1,g1,A1⟩:=hI n c e h _ e' h' hc B ρ w a b (.inBlock id::k) cs S hG hE hn hB Bg hr;refine⟨ρ1,w1,a1,?_,A1⟩;cases x with
   |normal=>exact Steps.head uZ (Steps.trans g1 (.one Ht))
   |exit i=>exact absurd hc (cq i e' h')
   |ret=>
    obtain⟨k',h1⟩:=g1;exact⟨k',.head uZ h1⟩
 |loop c _=>
  intro e h x e' h' hc B ρ w a b k cs S hG hE hn hB Bg hr;simp only[bX,bN] at hc;split at hc
  .rename_i e1 h1 ho;obtain⟨ρ1,w1,a1,g1,A1⟩:=hI n c e h _ e1 h1 ho B ρ w a b (.inLoop c::k) cs S hG hE hn hB Bg hr;obtain⟨ρ2,w2,a2,g2,A2⟩:=hI n (.loop c) e1 h1 _ e' h' hc B ρ1 w1 a1 b k cs A1.Qw (hG.mono A1.ext.le) A1.er (by rw[A1.size];exact hn) (sD hB A1.ext.size) A1.defs hr;refine⟨ρ2,w2,a2,?_,A1.trans A2⟩;have KY:Steps P (lone (on b a (.code (.loop c)::k)) cs w) (lone (on b a1 (.code c:: .inLoop c::k)) cs w1):=.head Bz (Steps.trans g1 (.one LS));refine Dh.of_steps KY ?_;have hs:=Bz (P:=P) (b:=b) (a:=a1) (k:=k) (cs:=cs) (w:=w1) (c:=c);cases x with
   |normal=>exact zc g2 hs (I1 fun q=>by have:=congrArg List.length q;simp at this)
   |exit i=>
    obtain⟨k',q1,q2⟩:=g2;exact⟨k',zc q1 hs (I1 fun q=>by cases q),q2⟩
   |ret=>
    obtain⟨k',q1⟩:=g2;exact⟨k',zc q1 hs (I1 fun q=>by cases q)⟩
  .rename_i cq;obtain⟨ρ1,w1,a1,g1,A1⟩:=hI n c e h _ e' h' hc B ρ w a b (.inLoop c::k) cs S hG hE hn hB Bg hr;refine⟨ρ1,w1,a1,?_,A1⟩;cases x with
   |normal=>exact absurd hc (cq e' h')
   |exit id=>
    obtain⟨k',h1,h2⟩:=g1;exact⟨k',.head Bz h1,h2.trans rfl⟩
   |ret=>
    obtain⟨k',h1⟩:=g1;exact⟨k',.head Bz h1⟩
 |scope c ihc=>
  intro e h x e' h' hc B ρ w a b k cs S hG hE hn hB Bg hr;simp only[bX] at hc;obtain⟨ρ1,w1,a1,g1,A1⟩:=ihc e h x e' h' hc B ρ w a b (.inScope c::k) cs S hG hE hn hB Bg hr;refine⟨ρ1,w1,a1,?_,A1⟩;cases x with
  |normal=>exact Steps.head Jl (Steps.trans g1 (.one SQ))
  |exit id=>
   obtain⟨k',h1,h2⟩:=g1;exact⟨k',.head Jl h1,h2.trans rfl⟩
  |ret=>
   obtain⟨k',h1⟩:=g1;exact⟨k',.head Jl h1⟩
 |exit id=>
  intro e h x e' h' hc B ρ w a b k cs S hG hE hn hB Bg hr;simp only[bX,bN,jm,vz] at hc;obtain⟨rfl,rfl,rfl⟩:=hc;exact⟨ρ,w,a,⟨k,Steps.refl P _,rfl⟩,.same S hE Bg⟩
 |ret=>
  intro e h x e' h' hc B ρ w a b k cs S hG hE hn hB Bg hr;simp only[bX,bN,jm,vz] at hc;obtain⟨rfl,rfl,rfl⟩:=hc;exact⟨ρ,w,a,⟨k,Steps.refl P _⟩,.same S hE Bg⟩
 |rangeFunc f ps asg body _ _=>
  intro e h x e' h' hc B ρ w a b k cs S hG hE hn hB Bg hr;simp only[bX] at hc;cases dx:(bp ng f&&ps.toList.all (Nat.blt · n)&&iW asg&&iW body) with
  |false=>rw[dx] at hc;exact(Xl hc).elim
  |true=>
   rw[dx] at hc;simp only[uh] at dx;obtain⟨⟨⟨h1,h2⟩,h3⟩,h4⟩:=dx;have Rv:b.roundOf=none:=by
    rcases hr with q|q
    .exact q
    .simp[iW] at q
   exact SF hF hT hI h1 h2 h3 h4 hc b k cs S hG hE hn hB Bg Rv
 |_=>
  intro e h x e' h' hc;exact(Xl hc).elim
theorem SM(hF:Cy P T ng dr F)(hT:cu P T)(hD:HD P T ng dr F):∀fuel,pt P T ng dr (run F fuel):=by
 intro fuel;induction fuel with
 |zero=>intro n c e h x e' h' hc;cases hc
 |succ m ihm=>exact L8 hF hT hD (SL m) ihm
end
def gG(md:Region.Mode)(o:Oper):List Nat:=(o.after.toList.filter (Region.binds md)).map (·.on)
def pass:List (List Nat)->Nat->Nat->Nat
 |[],_,mask=>mask
 |e::r,i,mask=>pass r (i+1) (bif e.all (Nat.testBit mask) then mask ||| (1 <<< i) else mask)
def Z7(full:Nat)(es:List (List Nat)):Nat->Nat->Bool
 |0,_=>false
 |f+1,mask=>bif Nat.beq mask full then true else Z7 full es f (pass es 0 mask)
def ze(md:Region.Mode)(ops:List Oper):Bool:=Z7 (2^ops.length-1) (ops.map (gG md)) (ops.length+1) 0
theorem Py{mask i j:Nat} :Nat.testBit (mask ||| (1 <<< i)) j=true↔Nat.testBit mask j=true\/j=i:=by rw[Nat.testBit_or,Bool.or_eq_true,Nat.one_shiftLeft,Nat.testBit_two_pow,decide_eq_true_eq];exact⟨Or.imp_right Eq.symm,Or.imp_right Eq.symm⟩
theorem EJ{D:Nat->Prop} :∀(es:List (List Nat))(i mask:Nat),(∀j e,es[j]?=some e->(∀k∈e,D k)->D (i+j))->(∀k,Nat.testBit mask k=true->D k)->∀k,Nat.testBit (pass es i mask) k=true->D k
 |[],_,_,_,hm=>hm
 |e::r,i,mask,hD,hm=>by
  refine EJ r (i+1) _ (fun j e' hj hk=>by have:=hD (j+1) e' (by simpa using hj) hk;rwa [BW,Nat.add_comm 1 j]) ?_;intro k hk;cases hb:e.all (Nat.testBit mask)<;>simp only[hb,cond_true,cond_false] at hk
  .exact hm k hk
  .rcases Py.1 hk with h|rfl
   .exact hm k h
   .exact hD 0 e rfl fun q hq=>hm q (List.all_eq_true.1 hb q hq)
theorem EK{D:Nat->Prop}{full:Nat}{es:List (List Nat)}(hD:∀j e,es[j]?=some e->(∀k∈e,D k)->D j):∀(f mask:Nat),Z7 full es f mask=true->(∀k,Nat.testBit mask k=true->D k)->∀k,Nat.testBit full k=true->D k
 |0,_,h,_=>by cases h
 |f+1,mask,h,hm=>by
  simp only[Z7] at h;cases hb:Nat.beq mask full with
  |true=>rw[mH hb] at hm;exact hm
  |false=>
   rw[hb] at h;exact EK hD f _ h (EJ es 0 mask (fun j e hj hk=>by rw[BX];exact hD j e hj hk) hm)
theorem OT{ops:List Oper}(h:ze md ops=true)(hD:∀(j:Nat)(o:Oper),ops[j]?=some o->(∀k∈gG md o,D k)->D j):∀k,k<ops.length->D k:=by
 intro k hk;refine EK (D:=D) (fun j e hj hke=>?_) _ _ h (fun q hq=>by simp at hq) k ?_
 .rw[tT] at hj;cases ho:ops[j]? with
  |none=>rw[ho] at hj;cases hj
  |some o=>rw[ho] at hj;cases hj;exact hD j o ho hke
 .rw[Nat.testBit_two_pow_sub_one];simpa using hk
inductive Ord(ops:Array Oper):(Nat->Prop)->List Nat->Prop
 |nil {D:Nat->Prop} (h:∀i,i<ops.size->D i):Ord ops D []
 |cons {D:Nat->Prop} {i:Nat} {L:List Nat} {o:Oper} (ho:ops[i]?=some o) (hn:¬D i) (he:∀k∈gG .any o,D k) (hl:Ord ops (fun j=>D j\/j=i) L):Ord ops D (i::L)
theorem Q4{k:Nat}(h:k∈gG .any o):k∈gG md o:=by unfold gG at h⊢;simp only[dZ,Ms] at h⊢;obtain⟨e,⟨h1,h2⟩,h3⟩:=h;refine⟨e,⟨h1,?_⟩,h3⟩;unfold Region.binds at h2⊢;split at h2<;>simp_all
theorem acD(ht:ze md ops.toList=true):∀(fuel t:Nat)(ij:Array Bool)(D:Nat->Prop),ij.size=ops.size->(∀i,D i↔ij.getD i false=true)->ij.toList.count false=fuel->
  Ord ops D (Region.linearise.go md ops fuel t ij []):=by
 intro fuel;induction fuel with
 |zero=>
  intro t ij D hs hD hc;refine .nil fun i hi=>(hD i).2 ?_;have dS:i<ij.size:=by omega
  rw[List.count_eq_zero] at hc;cases hv:ij[i] with
  |true=>simp[Array.getD,dS,hv]
  |false=>exact absurd (Array.mem_toList_iff.2 (hv▸Array.getElem_mem dS)) hc
 |succ f ihf=>
  intro t ij D hs hD hc;simp only[Region.linearise.go];generalize KV:((List.range ops.size).filter fun i=> !ij.getD i true&&((ops[i]?).map (·.after.all fun e=> !Region.binds md e||ij.getD e.on false)).getD false)=rs;have xG:∀i,i∈rs↔i<ops.size/\ij.getD i true=false/\((ops[i]?).map (·.after.all fun e=> !Region.binds md e||ij.getD e.on false)).getD false=true:=by intro i;rw[<-KV];simp[and_assoc]
  have cq:rs≠[]:=by
   intro adr;have mD:∀k,k<ops.toList.length->D k:=by
    refine OT ht fun j o hj hk=>?_;have hjo:ops[j]?=some o:=by simpa using hj
    have dS:j<ops.size:=(Array.getElem?_eq_some_iff.1 hjo).1;cases hv:ij.getD j true with
    |true=>
     refine(hD j).2 ?_;have adl:j<ij.size:=by omega
     simpa [Array.getD,adl] using hv
    |false=>
     have:j∈rs:=by
      refine(xG j).2 ⟨dS,hv,?_⟩;rw[hjo];simp only[DY,Option.getD_some,Array.all_eq_true'];intro e he;cases hb:Region.binds md e with
      |false=>rfl
      |true=>
       refine(hD e.on).1 (hk e.on ?_);unfold gG;simp only[dZ,Ms];exact⟨e,⟨by simpa using he,hb⟩,rfl⟩
     rw[adr] at this;cases this
   have:ij.toList.count false=0:=by
    rw[List.count_eq_zero];intro hm;obtain⟨i,hi,hv⟩:=List.getElem_of_mem hm;have zi:i<ij.size:=by simpa using hi
    have:=(hD i).1 (mD i (by simp;omega));simp[Array.getD,zi] at this;simp at hv;rw[this] at hv;cases hv
   omega
  have bY:0<rs.length:=List.length_pos_iff.2 cq;have dz:rs[t%rs.length]?=some (rs[t%rs.length]'(Nat.mod_lt _ bY)):=fI _;rw[dz];dsimp only;generalize hi:rs[t%rs.length]'(Nat.mod_lt _ bY)=i;have zj:i∈rs:=hi▸zT _;obtain⟨h1,h2,h3⟩:=(xG i).1 zj;rw[linearise_go_acc,List.reverse_singleton,List.singleton_append];have ho:ops[i]?=some ops[i]:=Array.getElem?_eq_getElem h1;have AS:i<ij.size:=by omega
  have hvi:ij[i]=false:=by simpa [Array.getD,AS] using h2
  refine .cons ho ?_ ?_ (ihf _ _ _ (by simp[hs]) ?_ ?_)
  .intro hd;have:=(hD i).1 hd;simp[Array.getD,AS,hvi] at this
  .intro k hk;rw[ho] at h3;simp only[DY,Option.getD_some,Array.all_eq_true'] at h3;have wV:=Q4 (md:=md) hk;unfold gG at wV;simp only[dZ,Ms] at wV;obtain⟨e,⟨q1,q2⟩,q3⟩:=wV;have:=h3 e (by simpa using q1);rw[q2] at this;rw[<-q3];exact(hD e.on).2 (by simpa using this)
  .intro j;constructor
   .rintro(hj|rfl)
    .have:=(hD j).1 hj;by_cases Vj:j=i
     .subst Vj;simp[Array.getD,AS]
     .simp only[Array.getD_eq_getD_getElem?] at this⊢;rw[Array.getElem?_setIfInBounds_ne (Ne.symm Vj)];exact this
    .simp[Array.getD,AS]
   .intro hj;by_cases Vj:j=i
    .exact .inr Vj
    .refine .inl ((hD j).2 ?_);simp only[Array.getD_eq_getD_getElem?] at hj⊢;rwa [Array.getElem?_setIfInBounds_ne (Ne.symm Vj)] at hj
  .rw[Array.toList_setIfInBounds,List.count_set (by simpa using AS)];simp[hvi,hc]
theorem Jm(h0:ze .any ops.toList=true)(h1:ze .text ops.toList=true)(h2:ze .gc ops.toList=true)(mixed:Bool)(t:Nat):
  Ord ops (fun _=>False) (Region.schedule mixed ops t):=by
 have key:∀(md:Region.Mode)(t:Nat),ze md ops.toList=true->Ord ops (fun _=>False) (Region.linearise md ops t):=by intro md t ht;refine acD ht _ _ _ _ (by simp) (fun i=>?_) (by simp);simp[Array.getD_eq_getD_getElem?,Array.getElem?_replicate];split<;>simp
 unfold Region.schedule;split
 .exact key _ _ h0
 .split
  .exact key _ _ h1
  .exact key _ _ h2
def El(A:Tr Nat):List Nat->Nat
 |[]=>0
 |j::r=>(El A r ||| (1 <<< j)) ||| (Tr.get A j).getD 0
def xM:List Oper->Nat->Tr Nat->Tr Nat
 |[],_,A=>A
 |o::r,i,A=>xM r (i+1) (A.set i (El A (gG .any o)))
def vt(A:Tr Nat)(j i:Nat):Bool:=Nat.testBit ((Tr.get A j).getD 0) i
inductive Cx(ops:Array Oper):Nat->Nat->Prop
 |YI {i k:Nat} {o:Oper} (ho:ops[i]?=some o) (h:k∈gG .any o):Cx ops i k
 |rU {i k j:Nat} {o:Oper} (ho:ops[i]?=some o) (h:k∈gG .any o) (hj:Cx ops k j):Cx ops i j
theorem Cd{A:Tr Nat} :∀ {es:List Nat} {k:Nat},Nat.testBit (El A es) k=true->∃e∈es,k=e\/vt A e k=true
 |[],k,h=>by simp[El] at h
 |j::r,k,h=>by
  rw[El,Nat.testBit_or,Bool.or_eq_true] at h;rcases h with h|h
  .rcases Py.1 h with h|h
   .obtain⟨e,he,hk⟩:=Cd h;exact⟨e,Bf _ he,hk⟩
   .exact⟨j,AN ..,.inl h⟩
  .exact⟨j,AN ..,.inr h⟩
theorem Ds{ops:Array Oper} :∀(l:List Oper)(i:Nat)(A:Tr Nat),(∀j o,l[j]?=some o->ops[i+j]?=some o)->(∀j k,vt A j k=true->Cx ops j k)->∀j k,vt (xM l i A) j k=true->Cx ops j k
 |[],_,_,_,hA=>hA
 |o::r,i,A,hl,hA=>by
  refine Ds r (i+1) _ (fun j o' ho=>by have:=hl (j+1) o' (by simpa using ho);rwa [BW,Nat.add_comm 1 j]) ?_;intro j k hb;unfold vt at hb;rw[Tr.az] at hb;by_cases e:j=i
  .subst e;rw[aZ rfl] at hb;obtain⟨q,hq,hk⟩:=Cd hb;have ho:=hl 0 o rfl;rcases hk with rfl|hk
   .exact .YI ho hq
   .exact .rU ho hq (hA _ _ hk)
  .rw[aW e] at hb;exact hA j k hb
theorem Cx.closed(hD:∀i o,ops[i]?=some o->D i->∀k∈gG .any o,D k)(h:Cx ops i j):(∀o,ops[i]?=some o->∀k∈gG .any o,D k)->D j:=by
 induction h with
 |YI ho h=>intro hi;exact hi _ ho _ h
 |rU ho h _ ih=>
  intro hi;have hk:=hi _ ho _ h;exact ih fun o' CY k' wV=>hD _ o' CY hk k' wV
def Gt:List Oper->Nat->Tr Nat->Option (Tr Nat)
 |[],_,M=>some M
 |o::r,i,M=>match o.dst with
  |none=>Gt r (i+1) M
  |some d=>match Tr.get M d with
   |none=>Gt r (i+1) (M.set d i)
   |some _=>none
theorem yN:∀(l:List Oper)(i:Nat)(M M':Tr Nat),Gt l i M=some M'->(∀d k,Tr.get M d=some k->Tr.get M' d=some k)/\∀j o d,l[j]?=some o->o.dst=some d->Tr.get M' d=some (i+j)
 |[],_,M,M',h=>by simp only[Gt,jm] at h;subst h;exact⟨fun _ _ h=>h,fun j o d h=>by simp at h⟩
 |o::r,i,M,M',h=>by
  simp only[Gt] at h;split at h
  .rename_i hn;obtain⟨h1,h2⟩:=yN r (i+1) M M' h;refine⟨h1,fun j o' d hj hd=>?_⟩;cases j with
   |zero=>simp only[List.getElem?_cons_zero,jm] at hj;subst hj;rw[hn] at hd;cases hd
   |succ j=>rw[h2 j o' d (by simpa using hj) hd];congr 1;omega
  .rename_i d0 hs;split at h
   .rename_i hg;obtain⟨h1,h2⟩:=yN r (i+1) _ M' h;refine⟨fun d k hk=>h1 d k ?_,fun j o' d hj hd=>?_⟩
    .rw[Tr.az];by_cases e:d=d0
     .subst e;rw[hg] at hk;cases hk
     .rw[aW e];exact hk
    .cases j with
     |zero=>
      simp only[List.getElem?_cons_zero,jm] at hj;subst hj;rw[hs] at hd;cases hd;exact h1 _ _ (by rw[Tr.az,aZ rfl];rfl)
     |succ j=>rw[h2 j o' d (by simpa using hj) hd];congr 1;omega
   .cases h
def places(p:Nat->Bool):List aY->Nat->List Nat
 |[],_=>[]
 |o::r,i=>bif p o.op.kind then i::places p r (i+1) else places p r (i+1)
theorem Cn{p:Nat->Bool} :∀(l:List aY)(i j:Nat)(o:aY),l[j]?=some o->p o.op.kind=true->i+j∈places p l i
 |[],_,j,o,h,_=>by simp at h
 |o::r,i,j,o',hj,hp=>by
  simp only[places];cases j with
  |zero=>
   simp only[List.getElem?_cons_zero,jm] at hj;subst hj;rw[hp];exact AN ..
  |succ j=>
   have:=Cn r (i+1) j o' (by simpa using hj) hp;rw[BW,Nat.add_comm 1 j] at this;cases p o.op.kind
   .exact this
   .exact Bf _ this
def level(A:Tr Nat)(i:Nat):List Nat->Nat
 |[]=>0
 |u::r=>bif vt A i u then level A i r+1 else level A i r
def Qj(A:Tr Nat)(jf bg:List Nat):List Nat->Nat->List Nat
 |[],s=>bg.filter fun i=>Nat.beq (level A i jf) s
 |u::r,s=>(bg.filter fun i=>Nat.beq (level A i jf) s)++u::Qj A jf bg r (s+1)
def Qk(A:Tr Nat)(jf others:List Nat):List Nat:=Qj A jf others jf 0
def LC:List Nat->Nat->Tr Nat->Option (Tr Nat)
 |[],_,Q=>some Q
 |i::r,p,Q=>match Tr.get Q i with
  |none=>LC r (p+1) (Q.set i p)
  |some _=>none
theorem EL:∀(l:List Nat)(p:Nat)(Q Q':Tr Nat),LC l p Q=some Q'->(∀i k,Tr.get Q i=some k->Tr.get Q' i=some k)/\(∀j i,l[j]?=some i->Tr.get Q' i=some (p+j))/\
  (∀i k,Tr.get Q' i=some k->Tr.get Q i=some k\/∃j,l[j]?=some i/\k=p+j)
 |[],_,Q,Q',h=>by simp only[LC,jm] at h;subst h;exact⟨fun _ _ h=>h,fun j i h=>by simp at h,fun i k h=>.inl h⟩
 |i0::r,p,Q,Q',h=>by
  simp only[LC] at h;split at h
  .rename_i hn;obtain⟨h1,h2,h3⟩:=EL r (p+1) _ Q' h;refine⟨fun i k hk=>h1 i k ?_,fun j i hj=>?_,fun i k hk=>?_⟩
   .rw[Tr.az];by_cases e:i=i0
    .subst e;rw[hn] at hk;cases hk
    .rw[aW e];exact hk
   .cases j with
    |zero=>
     simp only[List.getElem?_cons_zero,jm] at hj;subst hj;exact h1 _ _ (by rw[Tr.az,aZ rfl];rfl)
    |succ j=>rw[h2 j i (by simpa using hj)];congr 1;omega
   .rcases h3 i k hk with h|⟨j,hj,hkj⟩
    .rw[Tr.az] at h;by_cases e:i=i0
     .rw[aZ e] at h;cases h;exact .inr ⟨0,by simp[e],rfl⟩
     .rw[aW e] at h;exact .inl h
    .exact .inr ⟨j+1,by simpa using hj,by omega⟩
  .cases h
def EW(ops:List Oper):List Nat->Option (List (Nat×Oper))
 |[]=>some []
 |i::r=>match ops[i]?,EW ops r with
  |some o,some l=>some ((i,o)::l)
  |_,_=>none
theorem Cq{ops:List Oper} :∀(l:List Nat)(rows:List (Nat×Oper)),EW ops l=some rows->rows.length=l.length/\∀(p i:Nat)(o:Oper),rows[p]?=some (i,o)->l[p]?=some i/\ops[i]?=some o
 |[],rows,h=>by simp only[EW,jm] at h;subst h;exact⟨rfl,fun p i o h=>by simp at h⟩
 |i::r,rows,h=>by
  simp only[EW] at h;split at h
  .rename_i o l ho hl;cases h;obtain⟨h1,h2⟩:=Cq r l hl;refine⟨by simp[h1],fun p i' o' hp=>?_⟩;cases p with
   |zero=>
    simp only[List.getElem?_cons_zero,jm,vz] at hp;obtain⟨rfl,rfl⟩:=hp;exact⟨rfl,ho⟩
   |succ p=>simpa using h2 p i' o' (by simpa using hp)
  .cases h
def EV(A M Q:Tr Nat)(jf:List Nat)(p i:Nat)(o:Oper):Bool:=
 (gG .any o).all (fun e=>match Tr.get Q e with|some pe=>Nat.blt pe p|none=>false)&&
 (match o.guard with|none=>true|some (g,_)=>vt A i g)&&
 o.op.operands.toList.all (fun x=>match x with
  |.tmp t=>match Tr.get M t with
   |none=>true
   |some k=>vt A i k||vt A k i
  |_=>true)&&
 jf.all fun u=>match Tr.get Q u with
  |some pu=> !Nat.blt pu p||vt A i u
  |none=>false
def EX(A M Q:Tr Nat)(jf:List Nat):List (Nat×Oper)->Nat->Bool
 |[],_=>true
 |(i,o)::r,p=>EV A M Q jf p i o&&EX A M Q jf r (p+1)
theorem Cr{A M Q:Tr Nat}{jf:List Nat} :∀(l:List (Nat×Oper))(p:Nat),EX A M Q jf l p=true->∀j i o,l[j]?=some (i,o)->EV A M Q jf (p+j) i o=true
 |[],_,_,j,i,o,h=>by simp at h
 |(i,o)::r,p,h,j,i',o',hj=>by
  simp only[EX,uh] at h;cases j with
  |zero=>
   simp only[List.getElem?_cons_zero,jm,vz] at hj;obtain⟨rfl,rfl⟩:=hj;exact h.1
  |succ j=>have:=Cr r (p+1) h.2 j i' o' (by simpa using hj);rwa [BW,Nat.add_comm 1 j] at this
def j4(A Q:Tr Nat)(p i:Nat):List Nat->List Nat
 |[]=>[]
 |u::r=>match Tr.get Q u with
  |some pu=>bif Nat.blt p pu&& !vt A u i then pu::j4 A Q p i r else j4 A Q p i r
  |none=>j4 A Q p i r
theorem BU{A Q:Tr Nat}{p i:Nat} :∀ {l:List Nat} {u pu:Nat},u∈l->Tr.get Q u=some pu->p<pu->vt A u i=false->pu∈j4 A Q p i l
 |[],u,pu,h,_,_,_=>by simp at h
 |v::r,u,pu,h,hq,hp,hb=>by
  have KU:u∈r->pu∈j4 A Q p i (v::r):=fun hr=>by
   have:=BU hr hq hp hb;simp only[j4];split
   .rename_i pv _;cases(Nat.blt p pv&& !vt A v i)
    .exact this
    .exact Bf _ this
   .exact this
  rcases List.mem_cons.1 h with rfl|hr
  .simp only[j4,hq];rw[uD.2 hp,hb];exact AN ..
  .exact KU hr
def Ju(A M:Tr Nat)(i:Nat)(o:aY):Option Nat:=
 bif Nat.beq o.op.kind 1 then match o.op.through with
  |some (.tmp t)=>match Tr.get M t with
   |none=>some t
   |some k=>bif vt A i k then some t else none
  |_=>none
 else o.dst
def C6(A M Q:Tr Nat)(jf:List Nat)(f:Oper->aY):List (Nat×Oper)->Nat->Option (List (Nat×Nat))
 |[],_=>some []
 |(i,o)::r,p=>match C6 A M Q jf f r (p+1) with
  |none=>none
  |some ps=>bif Nat.beq (f o).op.kind 1||Nat.beq (f o).op.kind 2 then match j4 A Q p i jf with
    |[]=>some ps
    |u::us=>match Ju A M i (f o) with
     |some t=>some (((u::us).foldl Nat.max p,t)::ps)
     |none=>none
   else some ps
theorem foldl_max:∀(l:List Nat)(i:Nat),i<=l.foldl Nat.max i/\(∀u∈l,u<=l.foldl Nat.max i)/\(l.foldl Nat.max i=i\/l.foldl Nat.max i∈l)
 |[],i=>⟨dw _,fun _ h=>by simp at h,.inl rfl⟩
 |u::l,i=>by
  obtain⟨h1,h2,h3⟩:=foldl_max l (Nat.max i u);simp only[List.foldl_cons];refine⟨sD (Nat.le_max_left i u) h1,?_,?_⟩
  .intro x hx;rcases List.mem_cons.1 hx with rfl|hx
   .exact sD (Nat.le_max_right i x) h1
   .exact h2 x hx
  .rcases h3 with h3|h3
   .rw[h3];rcases Nat.le_total i u with h|h
    .right;rw[show Nat.max i u=u from Nat.max_eq_right h];exact AN ..
    .left;exact Nat.max_eq_left h
   .exact .inr (Bf _ h3)
theorem DT{A Q:Tr Nat}{p i:Nat} :∀ {l:List Nat} {x:Nat},x∈j4 A Q p i l->∃u∈l,Tr.get Q u=some x
 |[],x,h=>by simp[j4] at h
 |v::r,x,h=>by
  simp only[j4] at h;have hr:x∈j4 A Q p i r->∃u∈v::r,Tr.get Q u=some x:=fun h=>by obtain⟨u,hu,hq⟩:=DT h;exact⟨u,Bf _ hu,hq⟩
  split at h
  .rename_i pv hpv;cases hb:(Nat.blt p pv&& !vt A v i)<;>rw[hb] at h
   .exact hr h
   .rcases List.mem_cons.1 h with rfl|h
    .exact⟨v,AN ..,hpv⟩
    .exact hr h
  .exact hr h
theorem Ar{A M Q:Tr Nat}{jf:List Nat}{f:Oper->aY} :∀(l:List (Nat×Oper))(p:Nat)(ps:List (Nat×Nat)),C6 A M Q jf f l p=some ps->∀j i o,l[j]?=some (i,o)->((f o).op.kind=1\/(f o).op.kind=2)->
  j4 A Q (p+j) i jf=[]\/∃c t,Ju A M i (f o)=some t/\p+j<=c/\(∀u∈j4 A Q (p+j) i jf,u<=c)/\(c=p+j\/∃u∈jf,Tr.get Q u=some c)/\(c,t)∈ps
 |[],_,_,_,j,i,o,h,_=>by simp at h
 |(i,o)::r,p,ps,h,j,i',o',hj,hk=>by
  simp only[C6] at h;split at h
  .cases h
  .rename_i C7 hr;cases j with
   |succ j=>
    have:=Ar r (p+1) C7 hr j i' o' (by simpa using hj) hk;rw[BW,Nat.add_comm 1 j] at this;refine this.imp_right fun⟨c,t,h1,h2,h3,h4,h5⟩=>⟨c,t,h1,h2,h3,h4,?_⟩;cases hb:(Nat.beq (f o).op.kind 1||Nat.beq (f o).op.kind 2)<;>rw[hb] at h
    .cases h;exact h5
    .simp only[cond_true] at h;split at h
     .cases h;exact h5
     .split at h
      .cases h;exact Bf _ h5
      .cases h
   |zero=>
    simp only[List.getElem?_cons_zero,jm,vz] at hj;obtain⟨rfl,rfl⟩:=hj;have hb:(Nat.beq (f o).op.kind 1||Nat.beq (f o).op.kind 2)=true:=by rcases hk with hk|hk<;>rw[hk]<;>rfl
    rw[hb] at h;simp only[cond_true] at h;split at h
    .rename_i hf;exact .inl hf
    .rename_i u us hf;split at h
     .rename_i t ht;cases h;obtain⟨h1,h2,h3⟩:=foldl_max (u::us) p;refine .inr ⟨_,t,ht,h1,by rw[Nu,hf];exact h2,h3.imp_right fun q=>?_,AN ..⟩;have q':∀x,x∈u::us->∃v∈jf,Tr.get Q v=some x:=fun x hx=>DT (hf▸hx:x∈j4 A Q p i jf);exact q' _ q
     .cases h
def attach(ps:List (Nat×Nat))(f:Oper->aY):List (Nat×Oper)->Nat->List (aY×List Nat)
 |[],_=>[]
 |(_,o)::r,p=>(f o,(ps.filter fun x=>Nat.beq x.1 p).map (·.2))::attach ps f r (p+1)
theorem vH{ps:List (Nat×Nat)}{f:Oper->aY} :∀(l:List (Nat×Oper))(p j:Nat),(attach ps f l p)[j]?=(l[j]?).map fun x=>(f x.2,(ps.filter fun x=>Nat.beq x.1 (p+j)).map (·.2))
 |[],_,j=>by simp[attach]
 |(_,o)::r,p,j=>by
  cases j with
  |zero=>simp[attach]
  |succ j=>
   simp only[attach,List.getElem?_cons_succ];rw[vH r (p+1) j,BW,Nat.add_comm 1 j]
theorem Du{ps:List (Nat×Nat)}{f:Oper->aY} :∀(l:List (Nat×Oper))(p:Nat),(attach ps f l p).length=l.length
 |[],_=>rfl
 |(_,_)::r,p=>by simp[attach,Du r]
def uA:List (aY×List Nat):=[({ dst:=none,guard:=none,op:=.bad },[])]
def Ki(T:oR)(ng n:Nat)(ops:List Oper)(M A:Tr Nat)(jf aO:List Nat):List (aY×List Nat):=
 match LC aO 0 .nil,EW ops aO with
 |some Q,some rows=>match C6 A M Q jf (aM T ng n ops) rows 0 with
  |some ps=>bif Nat.beq aO.length ops.length&&(List.range ops.length).all (fun i=>(Tr.get Q i).isSome)&&ze .any ops&&ze .text ops&&ze .gc ops&&EX A M Q jf rows 0 then attach ps (aM T ng n ops) rows 0 else uA
  |none=>uA
 |_,_=>uA
def dY(T:oR)(ng n:Nat)(ops:List Oper):List (aY×List Nat):=
 match Gt ops 0 .nil with
 |none=>uA
 |some M=>match xM ops 0 .nil,ops.map (aM T ng n ops) with
  |A,aus=>match places (Nat.beq 3) aus 0,places (fun k=>Nat.blt k 3) aus 0 with
   |jf,others=>Ki T ng n ops M A jf (Qk A jf others)
structure jb(T:oR)(ng n:Nat)(ops:Array Oper)(σ:Nat->Nat)(l:List (aY×List Nat)):Prop where
 any:ze .any ops.toList=true
 text:ze .text ops.toList=true
 gc:ze .gc ops.toList=true
 bound:∀p,p<ops.size->σ p<ops.size
 ZY:∀i,i<ops.size->∃p,p<ops.size/\σ p=i
 inj:∀p q,p<ops.size->q<ops.size->σ p=σ q->p=q
 get:∀(p:Nat)(o:Oper),p<ops.size->ops[σ p]?=some o->∃lH,l[p]?=some (aM T ng n ops.toList o,lH)
 len:l.length=ops.size
 lower:∀(p:Nat)(o:Oper),p<ops.size->ops[σ p]?=some o->∀k∈gG .any o,∃pk,pk<p/\σ pk=k
 guard:∀(j:Nat)(o:Oper)(g:Nat)(b:Bool),ops[j]?=some o->o.guard=some (g,b)->Cx ops j g
 reads:∀(j:Nat)(o:Oper)(t:Nat),ops[j]?=some o->Operand.tmp t∈o.op.operands.toList->∀(i:Nat)(o':Oper),ops[i]?=some o'->o'.dst=some t->Cx ops j i\/Cx ops i j
 once:∀(i j:Nat)(o o':Oper)(d:Nat),ops[i]?=some o->ops[j]?=some o'->o.dst=some d->o'.dst=some d->i=j
 eager:∀(p u:Nat)(o':Oper),u<p->p<ops.size->ops[σ u]?=some o'->(aM T ng n ops.toList o').op.kind=3->Cx ops (σ p) (σ u)
 still:∀(p:Nat)(o:Oper),p<ops.size->ops[σ p]?=some o->((aM T ng n ops.toList o).op.kind=1\/(aM T ng n ops.toList o).op.kind=2)->
  (∀(u:Nat)(o':Oper),p<u->u<ops.size->ops[σ u]?=some o'->(aM T ng n ops.toList o').op.kind=3->Cx ops (σ u) (σ p))\/
  ∃(c t:Nat) (ao:aY) (lH:List Nat),p<=c/\c<ops.size/\l[c]?=some (ao,lH)/\t∈lH/\
   (((aM T ng n ops.toList o).op.kind=1/\(aM T ng n ops.toList o).op.through=some (.tmp t)/\∀(i:Nat)(o':Oper),ops[i]?=some o'->o'.dst=some t->Cx ops (σ p) i)\/
    ((aM T ng n ops.toList o).op.kind=2/\(aM T ng n ops.toList o).dst=some t))/\
   ∀(u:Nat)(o':Oper),p<u->u<ops.size->ops[σ u]?=some o'->(aM T ng n ops.toList o').op.kind=3->¬Cx ops (σ u) (σ p)->u<=c
theorem Kh{ng n:Nat}(hb:dY T ng n ops.toList≠uA):∃σ,jb T ng n ops σ (dY T ng n ops.toList):=by
 revert hb;unfold dY;split
 .intro h;exact absurd rfl h
 .rename_i M hM;dsimp only;unfold Ki;generalize adA:Qk (xM ops.toList 0 .nil) (places (Nat.beq 3) (ops.toList.map (aM T ng n ops.toList)) 0) (places (fun k=>Nat.blt k 3) (ops.toList.map (aM T ng n ops.toList)) 0)=aO;generalize heffs:places (Nat.beq 3) (ops.toList.map (aM T ng n ops.toList)) 0=jf;split
  .rename_i Q rows hQ aiD;split
   .rename_i ps iI;cases hc:(Nat.beq aO.length ops.toList.length&&(List.range ops.toList.length).all (fun i=>(Tr.get Q i).isSome)&&ze .any ops.toList&&ze .text ops.toList&&ze .gc ops.toList&&EX (xM ops.toList 0 .nil) M Q jf rows 0) with
    |false=>intro h;exact absurd rfl h
    |true=>
     intro _;simp only[cond_true];simp only[uh] at hc;obtain⟨⟨⟨⟨⟨c0,c9⟩,c1⟩,c2⟩,c3⟩,c4⟩:=hc;have bY:aO.length=ops.size:=by simpa using mH c0
     obtain⟨vj,KV⟩:=Cq aO rows aiD;obtain⟨_,hQ1,hQ2⟩:=EL aO 0 .nil Q hQ;have hA:∀j k,vt (xM ops.toList 0 .nil) j k=true->Cx ops j k:=
      Ds ops.toList 0 .nil (fun j o h=>by simpa using h) (fun j k h=>by simp[vt,Tr.get] at h)
     have hMs:=(yN ops.toList 0 .nil M hM).2
     
     have jq:∀p,p<ops.size->∃i o,rows[p]?=some (i,o)/\aO[p]?=some i/\ops[i]?=some o/\Tr.get Q i=some p:=by
      intro p hp;have dS:p<rows.length:=by omega
      have hr:rows[p]?=some (rows[p].1,rows[p].2):=fI dS;obtain⟨h1,h2⟩:=KV p _ _ hr;have h3:=hQ1 p _ h1;rw[BX] at h3;exact⟨_,_,hr,h1,by simpa using h2,h3⟩
     let σ:Nat->Nat:=fun p=>aO.getD p 0
     have hσ:∀p i,aO[p]?=some i->σ p=i:=fun p i h=>by simp[σ,List.getD,h]
     have abo:∀i o,ops[i]?=some o->i<ops.size:=fun i o h=>(Array.getElem?_eq_some_iff.1 h).1
     
     have hbound:∀p,p<ops.size->σ p<ops.size:=fun p hp=>by obtain⟨i,o,_,h2,h3,_⟩:=jq p hp;rw[hσ p i h2];exact abo i o h3
     have aoI:∀p q,p<ops.size->q<ops.size->σ p=σ q->p=q:=by intro p q hp hq he;obtain⟨i,o,_,h2,_,h4⟩:=jq p hp;obtain⟨j,o',_,g2,_,g4⟩:=jq q hq;rw[hσ p i h2,hσ q j g2] at he;subst he;rw[h4] at g4;exact Option.some.inj g4
     have abd:∀i,i<ops.size->∃p,p<ops.size/\σ p=i:=by
      intro i hi;have h1:=List.all_eq_true.1 c9 i (Kw.2 (by simpa using hi));obtain⟨p,hp⟩:=Option.isSome_iff_exists.1 h1;rcases hQ2 i p hp with h|⟨j,hj,hkj⟩
      .simp[Tr.get] at h
      .have dS:=(cr.1 hj).1;exact⟨p,by omega,hσ p i (by rw[hkj,BX];exact hj)⟩
     have Bo:∀p i o,p<ops.size->ops[σ p]?=some o->σ p=i->EV (xM ops.toList 0 .nil) M Q jf p i o=true/\rows[p]?=some (i,o):=by intro p i o hp ho hi;obtain⟨i',o',h1,h2,h3,h4⟩:=jq p hp;have:=hσ p i' h2;rw[this] at ho hi;subst hi;rw[h3] at ho;cases ho;have:=Cr rows 0 c4 p _ _ h1;rw[BX] at this;exact⟨this,h1⟩
     have N2:∀p,p<ops.size->Tr.get Q (σ p)=some p:=by intro p hp;obtain⟨i,o,_,h2,_,h4⟩:=jq p hp;rw[hσ p i h2];exact h4
     have ahT:∀i o,ops[i]?=some o->(aM T ng n ops.toList o).op.kind=3->i∈jf:=by
      intro i o h hk;have dz:(ops.toList.map (aM T ng n ops.toList))[i]?=some (aM T ng n ops.toList o):=by
       have h':ops.toList[i]?=some o:=by simpa using h
       rw[tT,h'];rfl
      have:=Cn (p:=Nat.beq 3) _ 0 i _ dz (by rw[hk];rfl);rw[BX,heffs] at this;exact this
     have B8:∀j o,ops[j]?=some o->∃p,p<ops.size/\σ p=j:=fun j o h=>abd j (abo j o h);refine⟨σ,c1,c2,c3,hbound,abd,aoI,?_,?_,?_,?_,?_,?_,?_,?_⟩
     .intro p o hp ho;obtain⟨_,h1⟩:=Bo p (σ p) o hp ho rfl;rw[vH,h1];exact⟨_,rfl⟩
     .rw[Du];omega
     .intro p o hp ho k hk;have h1:=(Bo p (σ p) o hp ho rfl).1;simp only[EV,uh] at h1;have h2:=List.all_eq_true.1 h1.1.1.1 k hk;split at h2
      .rename_i pe hpe;rcases hQ2 k pe hpe with h|⟨j,hj,hkj⟩
       .simp[Tr.get] at h
       .refine⟨pe,uD.1 h2,?_⟩;rw[hkj,BX];exact hσ j k hj
      .cases h2
     .intro j o g b h hg;obtain⟨p,hp,N0⟩:=B8 j o h;have h1:=(Bo p j o hp (by rw[N0];exact h) N0).1;simp only[EV,uh,hg] at h1;exact hA _ _ h1.1.1.2
     .intro j o t h ht i o' hi hd;obtain⟨p,hp,N0⟩:=B8 j o h;have h1:=(Bo p j o hp (by rw[N0];exact h) N0).1;simp only[EV,uh] at h1;have h2:=List.all_eq_true.1 h1.1.2 _ ht;have h3:=hMs i o' t (by simpa using hi) hd;rw[BX] at h3;simp only[h3,Bool.or_eq_true] at h2;exact h2.imp (hA _ _) (hA _ _)
     .intro i j o o' d hi hj hd Ya;have h1:=hMs i o d (by simpa using hi) hd;have h2:=hMs j o' d (by simpa using hj) Ya;rw[h1] at h2;simpa using h2
     .intro p u o' hup hp CY hk;have hu:u<ops.size:=by omega
      obtain⟨o,ho⟩:∃o,ops[σ p]?=some o:=⟨_,Array.getElem?_eq_getElem (hbound p hp)⟩;have h1:=(Bo p (σ p) o hp ho rfl).1;simp only[EV,uh] at h1;have h2:=List.all_eq_true.1 h1.2 _ (ahT _ _ CY hk);rw[N2 u hu] at h2;simp only[Bool.or_eq_true,uD.2 hup,Bool.not_true,Nt,false_or] at h2;exact hA _ _ h2
     .intro p o hp ho hk;obtain⟨_,hr⟩:=Bo p (σ p) o hp ho rfl;have iC:∀(u:Nat)(o':Oper),p<u->u<ops.size->ops[σ u]?=some o'->(aM T ng n ops.toList o').op.kind=3->¬Cx ops (σ u) (σ p)->u∈j4 (xM ops.toList 0 .nil) Q p (σ p) jf:=by
       intro u o' hpu hu CY wV PR;refine BU (ahT _ _ CY wV) (N2 u hu) hpu ?_;cases hb:vt (xM ops.toList 0 .nil) (σ u) (σ p) with
       |false=>rfl
       |true=>exact absurd (hA _ _ hb) PR
      rcases Ar rows 0 ps iI p _ _ hr hk with h|⟨c,t,h1,h2,h3,h4,h5⟩
      .left;rw[BX] at h;intro u o' hpu hu CY wV;apply Classical.byContradiction;intro cq;have:=iC u o' hpu hu CY wV cq;rw[h] at this;cases this
      .right;rw[BX] at h2 h3 h4;have X8:c<ops.size:=by
        rcases h4 with rfl|⟨u,_,hu⟩
        .exact hp
        .rcases hQ2 u c hu with h|⟨j,hj,hcj⟩
         .simp[Tr.get] at h
         .have:=(cr.1 hj).1;omega
       obtain⟨ic,oc,hrc,_,_,_⟩:=jq c X8;refine⟨c,t,aM T ng n ops.toList oc,(ps.filter fun x=>Nat.beq x.1 (0+c)).map (·.2),h2,X8,by rw[vH,hrc];rfl,?_,?_,fun u o' hpu hu CY wV PR=>h3 u (iC u o' hpu hu CY wV PR)⟩
       .rw[dZ];exact⟨(c,t),Ms.2 ⟨h5,by simp⟩,rfl⟩
       .unfold Ju at h1;rcases hk with hk|hk
        .left;rw[hk] at h1;simp only[Nat.beq_refl,cond_true] at h1;split at h1
         .rename_i t' zk;split at h1
          .rename_i hMt;cases h1;refine⟨hk,zk,fun i o' hi hd=>?_⟩;have:=hMs i o' t (by simpa using hi) hd;rw[hMt] at this;cases this
          .rename_i k hMt;cases CV:vt (xM ops.toList 0 .nil) (σ p) k<;>rw[CV] at h1<;>cases h1;refine⟨hk,zk,fun i o' hi hd=>?_⟩;have:=hMs i o' t (by simpa using hi) hd;rw[hMt,BX] at this;cases this;exact hA _ _ CV
         .cases h1
        .right;rw[hk] at h1;exact⟨hk,h1⟩
   .intro h;exact absurd rfl h
  .intro h;exact absurd rfl h
theorem Cm{T:oR} :∀(fs:List Field)(ps:List (Nat×Operand))(l:List (Nat×Nat×Operand)),uW T fs ps=some l->l.map (·.2.2)=ps.map (·.2)
 |fs,[],l,h=>by simp only[uW,jm] at h;subst h;rfl
 |fs,(i,x)::r,l,h=>by
  simp only[uW] at h;split at h
  .cases h
  .split at h
   .rename_i hr;cases h;simp[Cm fs r _ hr]
   .cases h
theorem H7{c:Call}(h:x∈(wS T c).jx):x∈c.operands.toList:=by
 obtain⟨cal,args,ats⟩:=c;unfold wS at h;dsimp only at h;have zY:∀y,y∈args.toList->y∈(Call.operands ⟨cal,args,ats⟩).toList:=by intro y hy;have:=Array.mem_toList_iff.1 hy;cases cal<;>simp[Call.operands,this]
 split at h
 .rename_i f;simp only[ja.jx,List.mem_cons] at h;rcases h with rfl|h
  .simp[Call.operands]
  .exact zY x h
 all_goals
  repeat' split at h
  all_goals first
   |(simp only[ja.jx,om] at h;done)
   |(refine zY x ?_;simp only[ja.jx] at h;simp_all;done)
theorem Nc{op:Op}(h:x∈(ck T op).jx):x∈op.operands.toList:=by
 cases op with
 |call c=>exact H7 h
 |build t ps=>
  simp only[ck] at h;split at h
  .split at h
   .rename_i fs _;generalize (fs.toList.all fun f=>(T f.type).isSome)=bb at h;cases bb<;>simp only[cond_true,cond_false] at h
    .simp[ja.jx] at h
    .split at h
     .rename_i l hl;simp only[ja.jx] at h;rw[Cm _ _ _ hl] at h;simpa [Op.operands] using h
     .simp[ja.jx] at h
   .split at h
    .simp only[ja.jx,List.map_map] at h;simpa [Op.operands,Function.comp_def] using h
    .simp[ja.jx] at h
   .simp[ja.jx] at h
  .simp[ja.jx] at h
 |buildSlice t n ps=>
  simp only[ck] at h
  repeat' split at h
  .rename_i e _;generalize (Nat.ble (n*e.size) 1000000&&Nat.beq e.zero.length e.size)=bb at h;cases bb<;>simp only[cond_true,cond_false] at h
   .simp[ja.jx] at h
   .simp only[ja.jx,List.map_map] at h;simpa [Op.operands,Function.comp_def] using h
  all_goals simp[ja.jx] at h
 |slice t y lo hi mx=>
  simp only[ck] at h
  repeat' split at h
  .generalize (mx.isSome&&hi.isNone)=bb at h;cases bb<;>simp only[cond_true,cond_false] at h
   .simp only[ja.jx,List.mem_cons,lE] at h;simp[Op.operands];simpa [or_assoc] using h
   .simp[ja.jx] at h
  all_goals simp[ja.jx] at h
 |makeFunc f first caps=>
  cases f with
  |func g=>
   simp only[ck] at h;cases hb:first.isEmpty<;>rw[hb] at h<;>simp only[cond_true,cond_false,ja.jx] at h
   .simp at h
   .simp[Op.operands];exact .inr (by simpa using h)
  |_=>simp[ck,ja.jx] at h
 |makeMap t r=>cases r<;>simp[ck,ja.jx] at h
 |next it st=>cases st<;>simp[ck,ja.jx] at h<;>simpa [Op.operands] using h
 |fieldAddr t y k=>
  simp only[ck] at h
  repeat' split at h
  .rename_i fi _;generalize Nat.beq fi.size 0=bb at h;cases bb<;>simp only[cond_true,cond_false] at h<;>simp[ja.jx] at h<;>simpa [Op.operands] using h
  all_goals simp[ja.jx] at h
 |binOp op t y z _=>
  simp only[ck] at h
  repeat' split at h
  all_goals first
   |(simp[ja.jx] at h;done)
   |(simp only[ja.jx] at h;simpa [Op.operands] using h)
 |_=>
  simp only[ck] at h
  repeat' split at h
  all_goals first
   |(simp[ja.jx] at h;done)
   |(simp only[ja.jx] at h;simpa [Op.operands] using h)
theorem H9{op:Op}{y:Value×ae}(hv:bw e h (ck T op)=some y):∀cs b,op≠ .select cs b:=by intro cs b rO;subst rO;simp[ck,bw] at hv
section
variable{P:Program}{T:oR}{ng:Nat}{dr:pq}{F:Nat->Option bM}{ih:aq->Env->ae->R}
theorem xg(hF:Cy P T ng dr F)(hT:cu P T)(hI:pt P T ng dr ih)(ho:ops[i]?=some o)(hc:cy F ih (aM T ng n ops.toList o) e h=some (e',h'))(S:cK (eO T ng dr) ρ h w)(hG:cj ng ρ)(hE:ER ρ e2 a2.tmps)(hn:n<=a.tmps.size)(hx:∀x∈o.op.operands.toList,ev e x=ev e2 x/\a.eval x=a2.eval x)(Br:Region.wanted o (yielded ops a.tmps)=wanted e (guardOf ops.toList o))(b:Frame)(k:List Item)(cs:List Frame)(bg:List Nat):
  ∃ρ' w' c v,Steps P (lone (on b a (.inRegion ops (i::bg)::k)) cs w) (lone (on b (a.put o.dst c) (.inRegion ops bg::k)) cs w')/\e'=cG e o.dst v/\VR ρ' v c/\
   (∀d,o.dst=some d->d<a.tmps.size)/\cK (eO T ng dr) ρ' h' w'/\Ext ρ h w ρ' h' w':=by
 unfold aM at hc;cases tV:tB ng n ops.toList o with
 |false=>
  simp only[tV,cond_false] at hc;simp[cy,wanted,bw] at hc
 |true=>
  simp only[tV,cond_true] at hc;simp only[tB,uh] at tV;obtain⟨⟨hd,hg⟩,Bk⟩:=tV;have tW:∀d,o.dst=some d->d<a.tmps.size:=by intro d Ya;rw[Ya] at hd;exact Ix (uD.1 hd) hn
  unfold cy at hc;dsimp only at hc;rw[<-Br] at hc;cases tZ:Region.wanted o (yielded ops a.tmps) with
  |false=>
   simp only[tZ,cond_false,jm,vz] at hc;obtain⟨rfl,rfl⟩:=hc;refine⟨ρ,w,undef,_,.one ?_,rfl,VR.undef,tW,S,.refl ρ h w⟩;have:=Hu (P:=P) (b:=b) (a:=a) (k:=k) (cs:=cs) (w:=w) (ops:=ops) (i:=i) (bg:=bg) (by simp[ho,tZ]);rw[ho] at this;exact this
  |true=>
   simp only[tZ,cond_true] at hc;split at hc
   .rename_i f args rO;obtain⟨cl,h1,h2,h3⟩:=DG rO;split at hc
    .rename_i v Iy hcv;cases hc;have jo:bp ng f=true/\args.all (bp ng)=true:=by rw[h1] at Bk;simp only[Op.operands,Call.operands,h2] at Bk;rw[<-h3];simpa using Bk
     have xG:∀x,x∈f::args->x∈o.op.operands.toList:=by intro x rQ;rw[h1];simp only[Op.operands,Call.operands,h2];rw[<-h3] at rQ;simpa using rQ
     have uk:=AK hE hG args jo.2;rw[<-Fa (e:=e) (e':=e2) (fun x rQ=>(hx x (xG x (Bf _ rQ))).1)] at uk;have hvf:=hE.eval hG jo.1;rw[<-(hx f (xG f (AN ..))).1] at hvf;have KJ:cl.args.toList.map a.eval=args.map a2.eval:=by rw[h3];exact List.map_congr_left fun x rQ=>(hx x (xG x (Bf _ rQ))).2
     obtain⟨ρ',w',c,q1,q2,q3,q4⟩:=BO (P:=P) hF hT hI hcv S hG hvf uk ho tZ h1 h2 (hx f (xG f (AN ..))).2 KJ b k cs (bg:=bg);exact⟨ρ',w',c,v,q1,rfl,q2,tW,q3,q4⟩
    .cases hc
   .split at hc
    .rename_i v Iy AU;cases hc;have adB:bw e2 h (ck T o.op)=some (v,h'):=by rw[<-Sg (e:=e) (e':=e2) (ck T o.op) (fun x rQ=>(hx x (Nc rQ)).1)];exact AU
     obtain⟨ρ',w',c,hr,hv,S',E'⟩:=Lw (P:=P) (a:=a2) hT S hE hG o Bk adB;have hcg:execOp a.eval o=execOp a2.eval o:=execOp_congr o (H9 AU) fun x rQ=>(hx x (Array.mem_toList_iff.2 rQ)).2;rw[<-hcg] at hr;have yU:=Gr AU;rcases hr with hr|⟨rfl,hr⟩
     .exact⟨ρ',w',c,v,.one (Dd ho tZ yU hr),rfl,hv,tW,S',E'⟩
     .exact⟨ρ',w',undef,v,.one (Qt ho tZ yU hr),rfl,hv,tW,S',E'⟩
    .cases hc
end
theorem Gs{F:Nat->Option bM}{ih:aq->Env->ae->R}(c:Nat):∀(l:List (aY×List Nat))(e:Env)(h:ae)(e':Env)(h':ae),mG F ih c l e h=some (e',h')->
  ∃(E:Nat->Env) (H:Nat->ae),E 0=e/\H 0=h/\E l.length=e'/\H l.length=h'/\
   ∀(k:Nat)(o:aY)(lH:List Nat),l[k]?=some (o,lH)->cy F ih o (E k) (H k)=some (E (k+1),H (k+1))/\still (E (k+1)) (H (k+1)) c lH=true
 |[],e,h,e',h',hc=>by simp only[mG,jm,vz] at hc;obtain⟨rfl,rfl⟩:=hc;exact⟨fun _=>e,fun _=>h,rfl,rfl,rfl,rfl,fun k o lH hk=>by simp at hk⟩
 |(o,lH)::r,e,h,e',h',hc=>by
  simp only[mG] at hc;split at hc
  .rename_i e1 h1 ho;cases hs:still e1 h1 c lH with
   |false=>simp[hs] at hc
   |true=>
    simp only[hs,cond_true] at hc;obtain⟨E,H,q1,q2,q3,q4,q5⟩:=Gs c r e1 h1 e' h' hc;refine⟨fun k=>match k with|0=>e|k+1=>E k,fun k=>match k with|0=>h|k+1=>H k,rfl,rfl,q3,q4,?_⟩;intro k o' amT hk;cases k with
    |zero=>
     simp only[List.getElem?_cons_zero,jm,vz] at hk;obtain⟨rfl,rfl⟩:=hk;dsimp only;rw[q1,q2];exact⟨ho,hs⟩
    |succ k=>exact q5 k o' amT (by simpa using hk)
  .cases hc
theorem Sn{o:aY}(hc:cy F ih o e h=some (e',h')):∃v,e'=cG e o.dst v:=by
 unfold cy at hc;cases hw:wanted e o.guard<;>simp only[hw,cond_true,cond_false] at hc
 .cases hc;exact⟨_,rfl⟩
 .split at hc
  .split at hc
   .cases hc;exact⟨_,rfl⟩
   .cases hc
  .split at hc
   .cases hc;exact⟨_,rfl⟩
   .cases hc
theorem kl{o:ja}(hk:o.kind<=2):∀f args,o≠ .call f args:=by intro f args e;subst e;simp[ja.kind] at hk
theorem Hl{o:aY}(hk:o.op.kind<=1)(hc:cy F ih o e h=some (e',h')):h'=h:=by
 unfold cy at hc;cases hw:wanted e o.guard<;>simp only[hw,cond_true,cond_false] at hc
 .cases hc;rfl
 .split at hc
  .rename_i f args rO;exact absurd rO (kl (by omega) f args)
  .split at hc
   .rename_i hv;cases hc;rcases Nat.le_one_iff_eq_zero_or_eq_one.1 hk with h0|h1
    .exact(Ex h0 hv).1
    .exact(y8 h1 hv).1
   .cases hc
theorem EB{o:aY}(hk:o.op.kind<=2)(hc:cy F ih o e h=some (e',h')):h'=h\/∃x,h'=h.new x:=by
 by_cases h1:o.op.kind<=1
 .exact .inl (Hl h1 hc)
 .have h2:o.op.kind=2:=by omega
  unfold cy at hc;cases hw:wanted e o.guard<;>simp only[hw,cond_true,cond_false] at hc
  .cases hc;exact .inl rfl
  .split at hc
   .rename_i f args rO;exact absurd rO (kl (by omega) f args)
   .split at hc
    .rename_i hv;cases hc;obtain⟨_,cs,_,h,_⟩:=xf h2 hv;exact .inr ⟨_,h⟩
    .cases hc
theorem ZJ(o:ja):o.kind<=3:=by cases o<;>simp[ja.kind]
def Rest(c:Nat)(o:o9):Prop:=(∃cs ro op s,o=.aC cs ro op s/\s<=c)\/o=.map []
theorem jK{e:Env}{h:ae}{c:Nat} :∀ {l:List Nat},still e h c l=true->∀t∈l,∀b,leads (ak e t)=some b->∃o,h.tr.get b=some o/\Rest c o
 |[],_,t,ht,_,_=>by simp at ht
 |u::r,hs,t,ht,b,hb=>by
  unfold still at hs;rcases List.mem_cons.1 ht with rfl|ht
  .split at hs
   .rename_i heq;rw[heq] at hb;cases hb;split at hs
    .rename_i cs ro o s hg;rw[uh] at hs;exact⟨_,hg,.inl ⟨cs,ro,o,s,rfl,Mv hs.1⟩⟩
    .cases hs
   .rename_i heq;rw[heq] at hb;cases hb;split at hs
    .rename_i cs ro o s hg;rw[uh] at hs;exact⟨_,hg,.inl ⟨cs,ro,o,s,rfl,Mv hs.1⟩⟩
    .cases hs
   .rename_i heq;rw[heq] at hb;cases hb;split at hs
    .rename_i hg;exact⟨_,hg,.inr rfl⟩
    .cases hs
   .rename_i heq;rw[heq] at hb;cases hb
   .rename_i heq;rw[heq] at hb;cases hb
   .rename_i heq;rw[heq] at hb;cases hb
   .rename_i heq;rw[heq] at hb;cases hb
   .cases hs
  .split at hs
   .split at hs
    .rw[uh] at hs;exact jK hs.2 t ht b hb
    .cases hs
   .split at hs
    .rw[uh] at hs;exact jK hs.2 t ht b hb
    .cases hs
   .split at hs
    .exact jK hs t ht b hb
    .cases hs
   .exact jK hs t ht b hb
   .exact jK hs t ht b hb
   .exact jK hs t ht b hb
   .exact jK hs t ht b hb
   .cases hs
def Hd(l:List Nat)(e:Env):Env:=l.foldl Tr.del e
def Ek(l:List Nat)(tmps:Array Value):Array Value:=l.foldl (fun x t=>x.setIfInBounds t undef) tmps
theorem wZ:∀(l:List Nat)(e:Env)(t:Nat),ak (Hd l e) t=if t∈l then .tuple #[] else ak e t
 |[],e,t=>by simp[Hd]
 |u::l,e,t=>by
  rw[Hd,List.foldl_cons,<-Hd,wZ l];by_cases h1:t∈l
  .simp[h1]
  .rw[aW h1];unfold ak;rw[Tr.kA];by_cases h2:t=u
   .subst h2;simp
   .simp[h1,h2]
theorem wY:∀(l:List Nat)(a:Array Value)(t:Nat),(Ek l a).getD t undef=if t∈l then undef else a.getD t undef
 |[],a,t=>by simp[Ek]
 |u::l,a,t=>by
  rw[Ek,List.foldl_cons,<-Ek,wY l];by_cases h1:t∈l
  .simp[h1]
  .rw[aW h1];by_cases h2:t=u
   .subst h2;simp only[List.mem_cons,true_or,if_true];rw[Array.getD_eq_getD_getElem?,Array.getElem?_setIfInBounds];simp only[if_true];split<;>rfl
   .simp[h1,h2,Array.getD_eq_getD_getElem?,Array.getElem?_setIfInBounds,Ne.symm h2]
theorem cK.grow(S:cK CC ρ h w)(o:o9):cK CC ρ (h.new o) w/\Ext ρ h w ρ (h.new o) w:=by
 have dz:∀b r,ρ b=some r->(h.new o).tr.get b=h.tr.get b:=by intro b r hb;have:=(S.low b r hb).1;simp only[ae.new,Tr.az];rw[aW (by omega)]
 have Br:∀b r,ρ b=some r->dh (h.new o) b->dh h b:=fun b r hb ⟨x,hx,hr⟩=>⟨x,by rwa [dz b r hb] at hx,hr⟩;refine⟨⟨fun b r hb=>⟨?_,(S.low b r hb).2⟩,fun b r x hb hx=>S.obj b r x hb (by rwa [dz b r hb] at hx),fun b b' r r' x hb gk hw hx cq=>S.inj b b' r r' x hb gk (Br b r hb hw) (by rwa [dz b' r' gk] at hx) cq,?_⟩,
  ⟨ρ.le_refl,by simp[ae.new],dw _,rfl,rfl,rfl,fun _ _ _=>rfl,fun b r hb hw=>.inr ⟨b,r,hb,Br b r hb hw,rfl⟩,fun b r h1 h2=>(by rw[h1] at h2;cases h2),fun b r x hb hx=>.inr ⟨b,r,x,hb,by rwa [dz b r hb] at hx,rfl⟩⟩⟩
 .have:=(S.low b r hb).1;simp only[ae.new];omega
 .intro b x hx;simp only[ae.new,Tr.az] at hx⊢;by_cases e:b=h.next
  .omega
  .rw[aW e] at hx;have:=S.wf b x hx;omega
section
variable{P:Program}{T:oR}{ng:Nat}{dr:pq}{F:Nat->Option bM}{ih:aq->Env->ae->R}{n c:Nat}{ops:Array Oper}{σ:Nat->Nat}{l:List (aY×List Nat)}{E:Nat->Env}{H:Nat->ae}
def Dl(F:Nat->Option bM)(ih:aq->Env->ae->R)(T:oR)(ng n:Nat)(ops:Array Oper)(σ:Nat->Nat)(E:Nat->Env)(H:Nat->ae):Prop:=
 ∀(p:Nat)(o:Oper),p<ops.size->ops[σ p]?=some o->cy F ih (aM T ng n ops.toList o) (E p) (H p)=some (E (p+1),H (p+1))
theorem BP(h:(aM T ng n ops.toList o).dst=some d):o.dst=some d:=by
 unfold aM at h;cases hb:tB ng n ops.toList o<;>rw[hb] at h
 .cases h
 .exact h
theorem jb.op(hg:jb T ng n ops σ l)(hp:p<ops.size):∃o,ops[σ p]?=some o:=⟨_,Array.getElem?_eq_getElem (hg.bound p hp)⟩
theorem jb.MS(hg:jb T ng n ops σ l)(h:Cx ops i j):∀p,p<ops.size->σ p=i->∃q,q<p/\σ q=j:=by
 induction h with
 |YI ho h=>intro p hp hi;subst hi;exact hg.lower p _ hp ho _ h
 |rU ho h _ ih=>
  intro p hp hi;subst hi;obtain⟨pk,dS,hk⟩:=hg.lower p _ hp ho _ h;obtain⟨q,hq,hj⟩:=ih pk (by omega) hk;exact⟨q,by omega,hj⟩
theorem u0(hq:Dl F ih T ng n ops σ E H)(hg:jb T ng n ops σ l){a t:Nat} :∀(b:Nat),a<=b->b<=ops.size->(∀(k:Nat)(o:Oper),a<=k->k<b->ops[σ k]?=some o->o.dst≠some t)->ak (E b) t=ak (E a) t:=by
 intro b;induction b with
 |zero=>intro h _ _;rw[Nat.le_zero.1 h]
 |succ b ihb=>
  intro yT hb hn;by_cases he:a=b+1
  .rw[he]
  .obtain⟨o,ho⟩:=hg.op (p:=b) (by omega);obtain⟨v,hv⟩:=Sn (hq b _ (by omega) ho);rw[hv,<-ihb (by omega) (by omega) (fun k o h1 h2 h3=>hn k o h1 (by omega) h3)];cases hd:(aM T ng n ops.toList o).dst with
   |none=>rfl
   |some d=>
    simp only[cG,Env.az];have:=hn b _ (by omega) (by omega) ho;rw[BP hd] at this;rw[aW (fun(e:t=d)=>this (by rw[e]))]
def JM(T:oR)(ng n:Nat)(ops:Array Oper)(σ:Nat->Nat)(a b:Nat):Prop:=
 ∀(k:Nat)(o:Oper),a<=k->k<b->ops[σ k]?=some o->(aM T ng n ops.toList o).op.kind≠3
theorem IV{o:ja}(h:o.kind≠3):o.kind<=2:=by have:=ZJ o;omega
theorem LX(hq:Dl F ih T ng n ops σ E H)(hg:jb T ng n ops σ l){a x:Nat}(hx:x<(H a).next):∀(b:Nat),a<=b->b<=ops.size->JM T ng n ops σ a b->
  (H b).tr.get x=(H a).tr.get x/\(H a).next<=(H b).next:=by
 intro b;induction b with
 |zero=>intro h _ _;rw[Nat.le_zero.1 h];exact⟨rfl,dw _⟩
 |succ b ihb=>
  intro yT hb hn;by_cases he:a=b+1
  .rw[he];exact⟨rfl,dw _⟩
  .obtain⟨o,ho⟩:=hg.op (p:=b) (by omega);obtain⟨h1,h2⟩:=ihb (by omega) (by omega) (fun k o h1 h2 h3=>hn k o h1 (by omega) h3);rcases EB (IV (hn b _ (by omega) (by omega) ho)) (hq b _ (by omega) ho) with hh|⟨y,hh⟩
   .rw[hh];exact⟨h1,h2⟩
   .rw[hh,<-h1];simp only[ae.new,Tr.az];rw[aW (by omega)];exact⟨rfl,by omega⟩
theorem Jo(hq:Dl F ih T ng n ops σ E H)(hg:jb T ng n ops σ l){a:Nat}(S:cK CC ρ (H a) w):∀(b:Nat),a<=b->b<=ops.size->JM T ng n ops σ a b->
  cK CC ρ (H b) w/\Ext ρ (H a) w ρ (H b) w:=by
 intro b;induction b with
 |zero=>intro h _ _;rw[<-Nat.le_zero.1 h];exact⟨S,.refl _ _ _⟩
 |succ b ihb=>
  intro yT hb hn;by_cases he:a=b+1
  .rw[<-he];exact⟨S,.refl _ _ _⟩
  .obtain⟨o,ho⟩:=hg.op (p:=b) (by omega);obtain⟨S1,X1⟩:=ihb (by omega) (by omega) (fun k o h1 h2 h3=>hn k o h1 (by omega) h3);rcases EB (IV (hn b _ (by omega) (by omega) ho)) (hq b _ (by omega) ho) with hh|⟨y,hh⟩
   .rw[hh];exact⟨S1,X1⟩
   .rw[hh];obtain⟨S2,X2⟩:=S1.grow y;exact⟨S2,X1.trans X2⟩
theorem p_(hK:fO ih)(hq:Dl F ih T ng n ops σ E H)(hg:jb T ng n ops σ l){a:Nat} :∀(b:Nat),a<=b->b<=ops.size->dm (H a) (H b):=by
 intro b;induction b with
 |zero=>intro h _;rw[Nat.le_zero.1 h];exact .refl _
 |succ b ihb=>
  intro yT hb;by_cases he:a=b+1
  .rw[he];exact .refl _
  .obtain⟨o,ho⟩:=hg.op (p:=b) (by omega);exact(ihb (by omega) (by omega)).trans (wE hK (hq b _ (by omega) ho))
theorem Dy(hK:fO ih)(hq:Dl F ih T ng n ops σ E H)(hg:jb T ng n ops σ l)(II:∀(k:Nat)(ao:aY)(lH:List Nat),l[k]?=some (ao,lH)->still (E (k+1)) (H (k+1)) c lH=true)(AP:c<(H 0).clock){p q:Nat}(hp:p<q)(Fp:q<=ops.size)(ho:ops[σ p]?=some o)(hk:(aM T ng n ops.toList o).op.kind=1\/(aM T ng n ops.toList o).op.kind=2)(PR:∀(u:Nat)(o':Oper),p<u->u<q->ops[σ u]?=some o'->(aM T ng n ops.toList o').op.kind=3->¬Cx ops (σ u) (σ p)){b:Nat}(h1:(aM T ng n ops.toList o).op.kind=1->∀t,(aM T ng n ops.toList o).op.through=some (.tmp t)->(∀(i:Nat)(o':Oper),ops[i]?=some o'->o'.dst=some t->Cx ops (σ p) i)->leads (ak (E p) t)=some b)(h2:(aM T ng n ops.toList o).op.kind=2->∀t,(aM T ng n ops.toList o).dst=some t->leads (ak (E (p+1)) t)=some b)(hb:b<(H (p+1)).next):(H q).tr.get b=(H (p+1)).tr.get b:=by
 by_cases GY:JM T ng n ops σ (p+1) q
 .exact(LX hq hg hb q (by omega) Fp GY).1
 .have hex:∃(u:Nat) (o':Oper),p<u/\u<q/\ops[σ u]?=some o'/\(aM T ng n ops.toList o').op.kind=3:=by apply Classical.byContradiction;intro cq;exact GY fun u o' g1 g2 g3 g4=>cq ⟨u,o',by omega,g2,g3,g4⟩
  obtain⟨u,o',g1,g2,g3,g4⟩:=hex;rcases hg.still p o (by omega) ho hk with mD|⟨cc,t,ao,lH,k1,k2,k3,k4,k5,k6⟩
  .exact absurd (mD u o' g1 (by omega) g3 g4) (PR u o' g1 g2 g3 g4)
  .have aiL:leads (ak (E (cc+1)) t)=some b:=by
    rcases k5 with⟨kk,ht,hw⟩|⟨kk,hd⟩
    .rw[u0 hq hg (a:=p) (cc+1) (by omega) (by omega) (fun k ok hk1 AT dx hd=>?_)]
     .exact h1 kk t ht hw
     .obtain⟨q',Yj,he⟩:=hg.MS (hw (σ k) ok dx hd) p (by omega) rfl;have:=hg.inj q' k (by omega) (by omega) he;omega
    .rw[u0 hq hg (a:=p+1) (cc+1) (by omega) (by omega) (fun k ok hk1 AT dx Ya=>?_)]
     .exact h2 kk t hd
     .have:=hg.inj p k (by omega) (by omega) (hg.once (σ p) (σ k) o ok t ho dx (BP hd) Ya);omega
   obtain⟨ob,hs1,hs2⟩:=jK (II cc ao lH k3) t k4 b aiL;have back:∀a,a<=cc+1->b<(H a).next->(H a).tr.get b=some ob:=by
    intro a ha hba;have Tt:=p_ hK hq hg (a:=a) (cc+1) ha (by omega);have KQ:=p_ hK hq hg (a:=0) a (by omega) (by omega);rcases hs2 with⟨cs,ro,op,s,rfl,hs2⟩|rfl
    .exact Tt.bC b cs ro op s hba hs1 (by have:=KQ.clock;omega)
    .exact Tt.mp b hba hs1
   rw[back (p+1) (by omega) hb];have MD:∀a,p+1<=a->a<=ops.size->b<(H a).next:=fun a h1 h2=>by
    have:=(p_ hK hq hg (a:=p+1) a h1 h2).next
    omega
   by_cases hqc:q<=cc+1
   .exact back q hqc (MD q (by omega) Fp)
   .have:=(LX hq hg (MD (cc+1) (by omega) (by omega)) q (by omega) Fp (fun k o'' h6 h7 h8 h9=>by have:=k6 k o'' (by omega) (by omega) h8 h9 (PR k o'' (by omega) h7 h8 h9);omega)).1
    rw[this,hs1]
def Md:Value->Nat
 |.pointer (some ⟨b,_,_⟩)=>b+1
 |.slice (some ⟨b,_,_⟩) _ _=>b+1
 |.map (some m)=>m+1
 |_=>0
def OS:Value->Nat
 |.func (.yield l) _ _=>l+1
 |.func _ _ caps=>(caps.toList.map Md).foldl (· + ·) 0
 |v=>Md v
theorem foldl_add:∀(l:List Nat)(a:Nat),a<=l.foldl (· + ·) a/\∀x∈l,x<=l.foldl (· + ·) a
 |[],a=>⟨dw _,fun _ h=>by simp at h⟩
 |y::l,a=>by
  obtain⟨h1,h2⟩:=foldl_add l (a+y);simp only[List.foldl_cons];refine⟨by omega,fun x hx=>?_⟩;rcases List.mem_cons.1 hx with rfl|hx
  .omega
  .exact h2 x hx
theorem CR.off{ρ1 ρ2:dE}(hr:∀x,x≠N->ρ1 x=ρ2 x){v c:Value}(hN:Md v<=N)(h:CR ρ1 v c):CR ρ2 v c:=by
 cases h with
 |bool=>exact .bool _
 |int=>exact .int _ _
 |str=>exact .str _
 |Eu=>exact .Eu
 |ptr h=>simp only[Md] at hN;exact .ptr (by rw[<-hr _ (by omega)];exact h)
 |oz=>exact .oz _ _
 |slice h hs=>simp only[Md] at hN;exact .slice (by rw[<-hr _ (by omega)];exact h) hs
 |yX=>exact .yX
 |map h=>simp only[Md] at hN;exact .map (by rw[<-hr _ (by omega)];exact h)
 |Av=>exact .Av
 |wC=>exact .wC
theorem KR.off{ρ1 ρ2:dE}{N:Nat}(hr:∀x,x≠N->ρ1 x=ρ2 x){v c:Value}(hN:OS v<=N)(h:KR ρ1 v c):KR ρ2 v c:=by
 cases h with
 |cell h=>
  refine .cell (h.off hr ?_);cases h<;>first|exact hN|exact Nat.zero_le _
 | @fn f l m h=>
  simp only[OS] at hN;refine .fn f ?_;have hb:∀x∈l,Md x<=N:=fun x hx=>sD ((foldl_add (l.map Md) 0).2 _ (dZ.2 ⟨x,hx,rfl⟩)) hN;clear hN;induction h with
  |nil=>exact .nil
  |cons h1 _ ih=>exact .cons (h1.off hr (hb _ (AN ..))) (ih fun x hx=>hb x (Bf _ hx))
 |yield h=>simp only[OS] at hN;exact .yield (by rw[<-hr _ (by omega)];exact h)
end
theorem VR.ZN{s:Mk}{c:Value}(h:VR ρ (mkA s N) c):∃im,ρ N=some im/\∀(ρ2:dE)(M:Nat),ρ2 M=some im->VR ρ2 (mkA s M) c:=by
 cases s with
 |ptr=>
  cases h with
  |val h=>cases h with
   |cell h=>cases h with
    |cell h=>cases h with
     | @ptr _ _ r h=>exact⟨r,h,fun ρ2 M hM=>.val (.cell (.cell (.ptr hM)))⟩
 |sl l cp=>
  cases h with
  |val h=>cases h with
   |cell h=>cases h with
    |cell h=>cases h with
     | @slice _ _ _ _ _ _ r h hs=>exact⟨r,h,fun ρ2 M hM=>.val (.cell (.cell (.slice hM hs)))⟩
 |mp=>
  cases h with
  |val h=>cases h with
   |cell h=>cases h with
    |cell h=>cases h with
     | @map _ r h=>exact⟨r,h,fun ρ2 M hM=>.val (.cell (.cell (.map hM)))⟩
theorem RR(s:Mk)(N:Nat):leads (mkA s N)=some N:=by cases s<;>rfl
structure Stood(w w':World):Prop where
 size:w.heap.size<=w'.heap.size
 os:w'.os=w.os
 tape:w'.tape=w.tape
 output:w'.output=w.output
 mE:∀k,k<w.heap.size->w'.heap[k]?=w.heap[k]?
theorem cK.stood(S:cK CC ρ h w)(W:Stood w w'):cK CC ρ h w':=
 ⟨fun b r hb=>⟨(S.low b r hb).1,Ix (S.low b r hb).2 W.size⟩,fun b r o hb ho=>gH.mono ρ.le_refl (W.mE _ (S.low b r hb).2) (S.obj b r o hb ho),S.inj,S.wf⟩
theorem Ext.stood(X:Ext ρ0 h0 w0 ρ h w)(W:Stood w w')(hl:ρ.le ρ')(adq:∀x r,ρ' x=some r->ρ x=none->x=N/\w.heap.size<=r.aC)(hN:h0.next<=N):Ext ρ0 h0 w0 ρ' h w':=by
 have dJ:∀x r,ρ' x=some r->ρ x=some r\/(x=N/\w.heap.size<=r.aC):=by
  intro x r hx;cases hp:ρ x with
  |none=>exact .inr (adq x r hx hp)
  |some r'=>have:=hl x r' hp;rw[hx] at this;exact .inl this.symm
 refine⟨dE.le_trans X.le hl,X.next,sD X.size W.size,W.os.trans X.os,W.tape.trans X.tape,W.output.trans X.output,?_,?_,?_,?_⟩
 .intro k hk Bj;rw[W.mE k (Ix hk X.size)];exact X.mE k hk Bj
 .intro x r hx hw;rcases dJ x r hx with h|⟨_,h⟩
  .exact X.own x r h hw
  .exact .inl (sD X.size h)
 .intro x r hx hn;rcases dJ x r hx with h|⟨rfl,_⟩
  .exact X.new x r h hn
  .exact hN
 .intro x r o hx ho;rcases dJ x r hx with h|⟨_,h⟩
  .exact X.live x r o h ho
  .exact .inl (sD X.size h)
section
variable{P:Program}{T:oR}{ng:Nat}{dr:pq}{F:Nat->Option bM}{ih:aq->Env->ae->R}
theorem Ia{ops:List Oper}(hk:(aM T ng n ops o).op.kind≠3):aM T ng n ops o= { dst:=o.dst,guard:=guardOf ops o,op:=ck T o.op } :=by
 unfold aM at hk⊢;cases hb:tB ng n ops o with
 |true=>rfl
 |false=>rw[hb] at hk;exact absurd rfl hk
theorem MQ(hF:Cy P T ng dr F)(hT:cu P T)(hI:pt P T ng dr ih)(ho:ops[i]?=some o){h0 h1 hq:ae}(hk:(aM T ng n ops.toList o).op.kind=2)(hc:cy F ih (aM T ng n ops.toList o) e h0=some (e',h1))(S:cK (eO T ng dr) ρ hq w)(hG:cj ng ρ)(hE:ER ρ e2 a2.tmps)(hn:n<=a.tmps.size)(hx:∀x∈o.op.operands.toList,ev e x=ev e2 x/\a.eval x=a2.eval x)(Br:Region.wanted o (yielded ops a.tmps)=wanted e (guardOf ops.toList o))(KO:h0.next<h1.next->ρ h0.next=none)(Ca:o.dst.isSome=true->h0.next<h1.next->hq.tr.get h0.next=h1.tr.get h0.next)(hle:h1.next<=hq.next)(b:Frame)(k:List Item)(cs:List Frame)(bg:List Nat):
  ∃ρ' w' c v,Steps P (lone (on b a (.inRegion ops (i::bg)::k)) cs w) (lone (on b (a.put o.dst c) (.inRegion ops bg::k)) cs w')/\e'=cG e o.dst v/\VR ρ' v c/\
   (∀d,o.dst=some d->d<a.tmps.size)/\cK (eO T ng dr) ρ' hq w'/\ρ.le ρ'/\(∀x,ρ x=none->(h0.next<h1.next->x≠h0.next)->ρ' x=none)/\
   (∀(ρ0:dE)(hh:ae)(w0:World),hh.next<=h0.next->Ext ρ0 hh w0 ρ hq w->Ext ρ0 hh w0 ρ' hq w'):=by
 have X8:=Ia (T:=T) (ng:=ng) (n:=n) (ops:=ops.toList) (o:=o) (by rw[hk];decide);have hnc:=kl (o:=(aM T ng n ops.toList o).op) (by omega);cases hw:wanted e (aM T ng n ops.toList o).guard with
 |false=>
  have JD:cy F ih (aM T ng n ops.toList o) e hq=some (e',hq):=by unfold cy at hc⊢;simp only[hw,cond_false,jm,vz] at hc⊢;exact⟨hc.1,trivial⟩
  obtain⟨ρ1,w1,cv,v,s1,NA,Tx,tW,S1,X1⟩:=xg hF hT hI ho JD S hG (a:=a) (a2:=a2) hE hn hx Br b k cs bg;refine⟨ρ1,w1,cv,v,s1,NA,Tx,tW,S1,X1.le,?_,fun ρ0 hh w0 _ X=>X.trans X1⟩;intro x hx _;cases hp:ρ1 x with
  |none=>rfl
  |some r=>
   have g1:=X1.new x r hp hx;have g2:=(S1.low x r hp).1;omega
 |true=>
  have PK:=hc;unfold cy at PK;simp only[hw,cond_true] at PK;split at PK
  .rename_i v0 Iy AU;simp only[jm,vz] at PK;obtain⟨NM,rfl⟩:=PK;obtain⟨s,cells,rfl,rfl,ade⟩:=xf hk AU;have dS:h0.next<(h0.new (mkO s cells)).next:=by simp[ae.new]
   have GY:=KO dS
   let N:=hq.next+(cells.map OS).foldl (· + ·) 0
   let Z:ae:=⟨N,0,.nil⟩
   have SZ:cK (eO T ng dr) ρ Z w:=by
    refine⟨fun x r hb=>⟨?_,(S.low x r hb).2⟩,fun x r y _ hy=>?_,fun x y r r' z _ _ _ hz _=>?_,fun x y hy=>?_⟩
    .have:=(S.low x r hb).1;show x<hq.next+_;omega
    .simp[Z,Tr.get] at hy
    .simp[Z,Tr.get] at hz
    .simp[Z,Tr.get] at hy
   have hcZ:cy F ih (aM T ng n ops.toList o) e Z=some (cG e (aM T ng n ops.toList o).dst (mkA s N),Z.new (mkO s cells)):=by unfold cy;simp only[hw,cond_true];rw[ade Z]
   obtain⟨ρ1,w1,cv,v,s1,NA,Tx,tW,S1,X1⟩:=xg hF hT hI ho hcZ SZ hG (a:=a) (a2:=a2) hE hn hx Br b k cs bg;have hWS:Stood w w1:=⟨X1.size,X1.os,X1.tape,X1.output,fun j hj=>X1.mE j hj (fun x r _ ⟨y,hy,_⟩=>by simp[Z,Tr.get] at hy)⟩;have Vc:(aM T ng n ops.toList o).dst=o.dst:=by rw[X8]
   rw[Vc] at NA NM;cases hd:o.dst with
   |none=>
    rw[hd] at s1 NM;refine⟨ρ,w1,undef,.tuple #[],s1,NM.symm,VR.undef,fun d h=>(by cases h),S.stood hWS,ρ.le_refl,fun x hx _=>hx,?_⟩;intro ρ0 hh w0 adi X;exact X.stood hWS (N:=h0.next) ρ.le_refl (fun x r g1 g2=>by rw[g1] at g2;cases g2) adi
   |some d=>
    rw[hd] at s1 NM NA;have hvN:v=mkA s N:=by have:=congrArg (fun en:Env=>ak en d) NA;simp only[cG,Env.az,if_true] at this;exact this.symm
    rw[hvN] at Tx;obtain⟨im,zj,hmk⟩:=Tx.ZN;have z7:=nH (r:=im) GY;have aa_:(Z.new (mkO s cells)).tr.get N=some (mkO s cells):=by simp only[ae.new,Tr.az];rw[aZ rfl]
    have ah1:hq.tr.get h0.next=some (mkO s cells):=by rw[Ca (by rw[hd];rfl) dS];simp only[ae.new,Tr.az,if_true]
    have NK:w.heap.size<=im.aC:=by
     rcases X1.live N im _ zj aa_ with h|⟨_,_,_,_,h,_⟩
     .exact h
     .simp[Z,Tr.get] at h
    have hρ1:∀x,x≠N->ρ1 x=ρ x:=by
     intro x hxN;cases hp:ρ x with
     |some r=>exact X1.le x r hp
     |none=>
      cases Zs:ρ1 x with
      |none=>rfl
      |some r=>
       have g1:=X1.new x r Zs hp;have g2:=(S1.low x r Zs).1;simp only[ae.new,Z] at g1 g2;omega
    have Vq:gH (eO T ng dr) (fz ρ h0.next im) im (mkO s cells) w1:=by
     have hO:=S1.obj N im _ zj aa_;have hB:gH (eO T ng dr) ρ1 im (.aC cells false 0 0) w1->gH (eO T ng dr) (fz ρ h0.next im) im (.aC cells false 0 0) w1:=by rintro⟨ep,el,fr,q1,q2,q3,q5,q6,q7⟩;refine⟨ep,el,fr,q1,q2,q3,q5,q6,fun j v' hj=>?_⟩;obtain⟨c',PK,CZ⟩:=q7 j v' hj;refine⟨c',PK,KR.mono z7 (CZ.off hρ1 ?_)⟩;have:=(foldl_add (cells.map OS) 0).2 (OS v') (dZ.2 ⟨v',dG hj,rfl⟩);show OS v'<=hq.next+_;omega
     cases s with
     |ptr=>exact hB hO
     |sl l c=>exact hB hO
     |mp=>
      obtain⟨ces,cl,q1,q2,q3⟩:=hO;obtain⟨l,q4,q5⟩:=q2;refine⟨ces,cl,q1,⟨l,q4,?_⟩,q3⟩;cases q5;exact .nil
    have dJ:∀x r,fz ρ h0.next im x=some r->(x=h0.next/\r=im)\/(x≠h0.next/\ρ x=some r):=by
     intro x r hx;unfold fz at hx;by_cases e:x=h0.next
     .rw[aZ e] at hx;cases hx;exact .inl ⟨e,rfl⟩
     .rw[aW e] at hx;exact .inr ⟨e,hx⟩
    refine⟨fz ρ h0.next im,w1,cv,mkA s h0.next,s1,NM.symm,hmk _ _ (by simp[fz]),fun d' h=>tW d' (by rw[hd];exact h),?_,z7,?_,?_⟩
    .refine⟨fun x r hb=>?_,fun x r y hb hy=>?_,fun x y r r' z hb gk hwz hz cq=>?_,S.wf⟩
     .rcases dJ x r hb with⟨rfl,rfl⟩|⟨_,hb⟩
      .exact⟨by omega,(S1.low N r zj).2⟩
      .exact⟨(S.low x r hb).1,Ix (S.low x r hb).2 hWS.size⟩
     .rcases dJ x r hb with⟨rfl,rfl⟩|⟨_,hb⟩
      .rw[ah1] at hy;cases hy;exact Vq
      .exact gH.mono z7 (hWS.mE _ (S.low x r hb).2) (S.obj x r y hb hy)
     .rcases dJ x r hb with⟨ex,er⟩|⟨_,hb⟩<;>rcases dJ y r' gk with⟨ey,er'⟩|⟨_,gk⟩
      .exact absurd (ex.trans ey.symm) cq
      .have:=(S.low y r' gk).2;rw[er];omega
      .have:=(S.low x r hb).2;rw[er'];omega
      .exact S.inj x y r r' z hb gk hwz hz cq
    .intro x hx Ft;unfold fz;rw[aW (Ft dS)];exact hx
    .intro ρ0 hh w0 adi X;refine X.stood hWS (N:=h0.next) z7 (fun x r g1 g2=>?_) adi;rcases dJ x r g1 with⟨ex,er⟩|⟨_,g3⟩
     .exact⟨ex,by rw[er];exact NK⟩
     .rw[g3] at g2;cases g2
  .cases PK
end
end Go.AI
