/- Parts of the proof. -/
import Derived.Test.YtdhnndleffachaaGreatDoorP00
import Derived.Laws.Sem
import Derived.Orders
import Derived.ProofKit
open Array renaming all_eq_true'->Cb,ext'->b9,getD->lK,getD_eq_getD_getElem?->bA,getElem?_eq_getElem->og,getElem?_eq_some_iff->db,getElem?_push->ki,getElem?_setIfInBounds->gN,getElem?_setIfInBounds_ne->sc,mem_toList_iff->qi,replicate->th,size_push->tb
open Classical renaming byContradiction->eK
open Function renaming comp_def->n4
open Go.Act renaming put->z1
open Go.Call renaming operands->lq
open Go.Deferred renaming ofValue->rv
open Go.Extern.SlicesOverlaps renaming overlaps->ow
open Go renaming Frame->ea,Item->ym,Machine->Rr,Oper->cQ,Operand->aT,Program->bG,TypeId->cI,Value->aa,World->bQ,typeInfo->fe
open Go.Frame renaming enter->ml,round->zz
open Go.Item renaming code->aaH
open Go.Region renaming Mode->sH,binds->oL,schedule->sY,wanted->b0
open Go.Region.linearise renaming go->sE
open Go.Sem renaming run->nE
open Go.World renaming shape?->P4
open Iff renaming rfl->Tt
open Nat renaming add_comm->k0,beq->an,beq_refl->kt,blt->c6,le_max_left->lC,le_max_right->kp,le_succ->dd,le_succ_of_le->I0,le_zero->tO,max->so,min->tt,min_eq_left->lE,mod_lt->Mw,testBit->gp,testBit_or->Pw,zero_le->hQ
open Ne renaming symm->cE
open Option.some renaming inj->gD
open Option renaming some->Z,none->K,bind_some->r5,getD_some->rY,isSome_iff_exists->iH
open Bool renaming false->cd,true->ck,or_eq_true->lA
open List renaming length->cz,all_eq_true->ga,count_eq_zero->D5,drop_drop->hJ,drop_eq_getElem_cons->et,drop_take->MP,foldl_cons->o0,getElem?_cons_succ->ye,getElem?_cons_zero->c9,length->bW,map_congr_left->cc,map_map->bL,mem_cons->bn,nil_append->pn,nodup_cons->oa,nodup_nil->MJ,not_mem_nil->lT,range->aU,range'->C3,take_append->ns,take_take->MI
open Go.Value renaming slice->dB,bool->dC,pointer->eU,int->fc,bool->br
open Go.IntKind renaming i64->ft
open Or renaming inl->jZ,inr->kd,imp_right->VY
set_option linter.all false
set_option maxHeartbeats 1000000
namespace Go.AI
variable{B N f i j n A ng p r t:Nat}{CC:dH}{D S:Nat->Prop}{F:Nat->Option dm}{y M:List (aa×aa)}{L:Loop}{P:bG}{T:uK}{a a2:Act}{args W vs z:List aa}{body:aD}{X first tmps:Array aa}{cs:List ea}{d:Option Nat}{e e' U:Env}{fn:Func}{C v:aa}{g:FuncId}{h h' m V I G:az}{s:aD->Env->az->R}{md:sH}{o:cQ}{ops:Array cQ}{st:Ys}{w w':bQ}{x:aT}{α:Type}{ρ ρ':fZ}
section
variable{P:bG}{CC:dH}{ρ:fZ}{h h':az}{w:bQ}{T:uK}{ng:Nat}{e:Env}{a:Act}{c v:aa}
def alK(O:eC P T){t f k q:cI}{i G:TI}{x y:aT}(d:T t=Z i)(g:i.u=.slice q)(l:T q=Z G)(S:ff CC ρ h w)(b:ER ρ e a.tmps)(u:eB ng ρ)(n:c_ ng x=ck)(c:c_ ng y=ck)(q:de e h (.copy G.size x y)=Z (v,h')):Out CC ρ h w v h' (((do pure (Next.value (<-Builtin.copy_ #[t,f] k #[a.eval x,a.eval y]))):Sem Next).run P w):=by
 have W:=(O t i d).u;rw[g] at W;have f:=(iQ (w:=w) (O _ _ l)).1;have O:=b.eval u n;have d:=b.eval u c;simp only[de] at q;split at q
 .rename_i u b u u u c V c;rw[V] at O;rw[c] at d;split at q;rename_i m;have m:=sq m;cases q;have⟨g,k,c,_⟩:=O.wg;have⟨l,A,U,_⟩:=d.wg;rw[c,U];refine Out.same S (fG ?_) (VR.int _ _);cases g<;>cases l<;>simp[Builtin.copy_,pJ W,Builtin.lenOf,m,f,Builtin.firstCells,loadCells,loadCellsFrom,storeCells,goInt]
  .rename_i m;split at q
   .rename_i l l l l;split at q
    .rename_i cs l;split at q
     .rename_i g n;cases q;obtain⟨g,g,k,z,k,M⟩:=O.h_;obtain⟨g,C,A,g,r,I⟩:=d.h_;have⟨o,d,O,j⟩:=H0 S g l;have⟨w',g,p,l⟩:=DP (P:=P) S z n O;have n:tt u b≠0:=by intro h;rw[h] at m;exact m rfl
      have n:tt u b<=u/\tt u b<=b:=⟨Nat.min_le_left _ _,Nat.min_le_right _ _⟩;have n:=M.2.2;have n:=I.2.2;have n:=M.FP;have n:=I.FP;rw[k,r];have c:=M.addr ab;have U:=I.addr ab;have k:=run_firstCells_some (P:=P) w G.size (tt u b) C u A d (by rw[<-O.length,o]) (by rw[U];exact j);refine⟨ρ,w',fc ft (tt u b),jZ (fG ?_),VR.int _ _,p,l⟩;rw[<-c] at g;have c:(Builtin.firstCells G.size (min u b) (dB (Z C) u A)).run P w=.ok d.toArray w:=k;simp[Builtin.copy_,pJ W,Builtin.lenOf,f,c,g,goInt]
     cases q
    cases q
   cases q
 cases q
def aim(c:eC P T){t d b:cI}{i u:TI}(f:T t=Z i)(j:i.u=.slice b)(g:T b=Z u)(S:ff CC ρ h w)(l:ER ρ e a.tmps)(k:eB ng ρ)(o:c_ ng x=ck)(q:de e h (.clear u.zero x)=Z (v,h')):Out CC ρ h w v h' (((do pure (Next.value (<-Builtin.clear_ #[t] d #[a.eval x]))):Sem Next).run P w):=by
 have O:=(c t i f).u;rw[j] at O;have W:=c _ _ g;have c:=l.eval k o;simp only[de] at q;split at q
 .rename_i f n f V;rw[V] at c;split at q;rename_i m;have m:=sq m;subst m;cases q;have⟨f,A,M,_⟩:=c.wg;rw[M];refine Out.same S (c:=undef) (fG ?_) VR.undef;cases f<;>simp[Builtin.clear_,pJ O,undef]
  .rename_i m;split at q
   .rename_i f f;split at q
    .rename_i f l;cases q;have⟨f,r,A,p,j,I⟩:=c.h_;have c:n≠0:=by intro h;subst h;exact m rfl
     have c:=I.2.2;have c:=I.FP;have M:=I.addr ab;obtain⟨c,f,c,c,z,o,c⟩:=W.info;have g:(zeroValue b).run P w=.ok z w:=by simp[zeroValue,fe,f,o]
     have f:=fQ (ρ:=ρ) (km W.zero n);have⟨w',b,o,k⟩:=DP (P:=P) S p l f;rw[j];refine⟨ρ,w',undef,jZ (fG ?_),VR.undef,o,k⟩;rw[<-M] at b;have f:(Builtin.zeroCells z.cells n).toList=ky u.zero n:=by
      by_cases G:0<cz u.zero
      .rw[DI (jZ G)];have:z.cells=⟨u.zero⟩:=by apply b9;simpa using c
       simp[Builtin.zeroCells,this]
      .have y:u.zero=[]:=AN ab;have:z.cells=⟨[]⟩:=by apply b9;rw[c,y]
       rw[y];have C:ky [] n=[]:=AN (by rw[uh];simp);rw[C];simp[Builtin.zeroCells,this]
     have U:(Builtin.clear_ #[t] d #[dB (Z r) n A]).run P w=.ok undef w':=by unfold Builtin.clear_;simp only[qO];simp[pJ O,g,f,b,undef]
     exact U
    cases q
   cases q
 cases q
def aip{t:cI}(S:ff CC ρ h w):Out CC ρ h w (.map (Z h.aw)) (h.new (.map [])) (((do pure (Next.value (<-Instr.makeMap t K))):Sem Next).run P w):=by have⟨q,u⟩:=ff.add (im:=⟨w.heap.size,0,0,0,0⟩) (o:=.map []) (co:=.map #[] 0) S rfl ⟨#[],0,PX w _,.nil,Q,λi y h=>by simp at h⟩;exact⟨_,_,.map (Z w.heap.size),jZ (fG (by simp[Instr.makeMap])),(CR.map (wh _ _ _)).vr,q,u⟩
def WJ(b:eC P T)(S:ff CC ρ h w)(G:ER ρ e a.tmps)(I:eB ng ρ)(o:cQ)(u:o.op.operands.toList.all (c_ ng)=ck)(q:de e h (dR T o.op)=Z (v,h')):Out CC ρ h w v h' ((execOp a.eval o).run P w):=by
 have⟨dst,l,ty,pos,aft,gd⟩:=o;dsimp only at u q;cases l with
 |move x=>
  simp only[dR,de,oy,BM] at q;obtain⟨rfl,rfl⟩:=q;exact Out.same S rfl (G.eval I (by simpa [Op.operands] using u))
 |assign x=>
  simp only[dR,de,oy,BM] at q;obtain⟨rfl,rfl⟩:=q;exact Out.same S rfl (G.eval I (by simpa [Op.operands] using u))
 |pick x y z=>
  simp[Op.operands] at u;exact alN S G I u.1 u.2.1 u.2.2 q
 |alloc t=>
  simp only[dR] at q;split at q;rename_i i C;simp only[de,oy,BM] at q;obtain⟨rfl,rfl⟩:=q;exact ail S (b t i C);simp[de] at q
 |box t x=>
  simp[Op.operands] at u;simp only[dR] at q;split at q;simp only[de] at q;split at q;rename_i vs l;cases q;exact aqe S (G.eval I u) l;cases q;simp[de] at q
 |build t m=>
  have p:(m.toList.map (·.2)).all (c_ ng)=ck:=by simpa [Op.operands] using u
  simp only[dR] at q;split at q
  .rename_i i C;split at q
   .rename_i N A;cases k:N.toList.all λf=>(T f.type).isSome with
    |false=>simp[k,de] at q
    |true=>
     simp only[k,jv] at q;split at q;rename_i g g;exact KP b C A k g S G I p q;simp[de] at q
   rename_i n k A;split at q;rename_i W g;exact NB b C A g S G I p q;simp[de] at q;simp[de] at q
  simp[de] at q
 |buildSlice t n m=>
  have p:(m.toList.map (·.2)).all (c_ ng)=ck:=by simpa [Op.operands] using u
  simp only[dR] at q;split at q;rename_i i C;split at q;rename_i k A;split at q;rename_i W g;cases m:Nat.ble (n*W.size) 1000000&&an (cz W.zero) W.size;simp[m,de] at q;simp only[m,jv] at q;simp only[oD] at m;exact aep b C A g (Uz m.1) S G I p q;simp[de] at q;simp[de] at q;simp[de] at q
 |load t x=>
  simp[Op.operands] at u;simp only[dR] at q;split at q;rename_i i C;exact aio b C S G I u q;simp[de] at q
 |store t x y=>
  simp[Op.operands] at u;simp only[dR] at q;split at q;rename_i i C;exact aer b C S G I u.1 u.2 q;simp[de] at q
 |nilCheck x=>
  simp[Op.operands] at u;exact aeq S G I u q
 |binOp O t x y H=>
  simp[Op.operands] at u;by_cases D:O=.eql\/O=.neq
  .have B:∃U i,dR T (.binOp O t x y H)=.bin O U x y/\T t=Z i/\LA T t i.u U:=by
    have L:dR T (.binOp O t x y H)=(match T t with
      |some i=>match i.u with
       |.slice _=>.bin O [3] x y
       |.pointer _=>.bin O [4] x y
       |.map _ _=>.bin O [5] x y
       |.func _ _ _=>.bin O [6] x y
       |.struct _=>match kinds T 9 t with|some U=>.bin O (9::U) x y|none=>.bad
       |.array _ _=>match kinds T 9 t with|some U=>.bin O (9::U) x y|none=>.bad
       |.bool=>.bin O [0] x y
       |.int _=>.bin O [1] x y
       |.string=>.bin O [2] x y
       |_=>.bad
      |none=>.bad):=by
     rcases D with rfl|rfl<;>rfl
    rw[L] at q⊢;split at q;rename_i i C;simp only[C];split at q;rename_i A;exact⟨[3],i,Q,Q,jZ ⟨_,A,Q⟩⟩;rename_i A;exact⟨[4],i,Q,Q,kd (jZ ⟨_,A,Q⟩)⟩;rename_i A;exact⟨[5],i,Q,Q,kd (kd (jZ ⟨_,_,A,Q⟩))⟩;rename_i A;exact⟨[6],i,Q,Q,kd (kd (kd (jZ ⟨_,_,_,A,Q⟩)))⟩;rename_i A;split at q;rename_i U L;exact⟨9::U,i,Q,Q,kd (kd (kd (kd (jZ ⟨(),_,by rw[A];rfl,L,Q⟩))))⟩;simp[de] at q;rename_i A;split at q;rename_i U L;exact⟨9::U,i,Q,Q,kd (kd (kd (kd (jZ ⟨(),_,by rw[A];rfl,L,Q⟩))))⟩;simp[de] at q;rename_i A;exact⟨[0],i,Q,Q,kd (kd (kd (kd (kd (jZ ⟨A,Q⟩)))))⟩;rename_i A;exact⟨[1],i,Q,Q,kd (kd (kd (kd (kd (kd (jZ ⟨_,A,Q⟩))))))⟩;rename_i A;exact⟨[2],i,Q,Q,kd (kd (kd (kd (kd (kd (kd ⟨A,Q⟩))))))⟩;simp[de] at q;simp[de] at q
   have⟨U,i,B,L,E⟩:=B;rw[B] at q;exact aeo b S G I u.1 u.2 D L E q
  .have B:dR T (.binOp O t x y H)=.bin O [] x y:=by cases O<;>first|rfl|(exact absurd (jZ Q) D)|(exact absurd (kd Q) D)
   rw[B] at q;exact aaw S G I u.1 u.2 ⟨λh=>D (jZ h),λh=>D (kd h)⟩ q
 |unOp O t x=>
  simp[Op.operands] at u;exact awe S G I u q
 |convert s d x=>
  simp[Op.operands] at u;simp only[dR] at q;split at q;rename_i i j C H;split at q;rename_i V O;exact alJ b C H V O S G I u q;simp[de] at q;simp[de] at q
 |makeFunc fn first X=>
  cases fn with
  |func f=>
   simp only[dR] at q;cases l:first.isEmpty;simp[l,de] at q;simp only[l,jv] at q;have p:X.toList.all (c_ ng)=ck:=by
    have O:first= #[]:=aj l
    subst O;simpa [Op.operands] using u
   exact alM S G I l p q
  |_=>simp[dR,de] at q
 |makeMap t r=>
  rcases r with _|r;simp only[dR,de,oy,BM] at q;obtain⟨rfl,rfl⟩:=q;exact aip S;simp[dR,de] at q
 |makeSlice t p c=>
  simp[Op.operands] at u;simp only[dR] at q;split at q;rename_i i C;split at q;rename_i k A;split at q;rename_i W g;exact aax b C A g S G I u.1 u.2 q;simp[de] at q;simp[de] at q;simp[de] at q
 |slice t x O C H=>
  simp only[dR] at q;split at q
  .rename_i i L;split at q
   .rename_i k A;split at q
    .rename_i W g;cases m:H.isSome&&C.isNone
     .simp only[m,A8] at q;have M:c_ ng x=ck/\O.toList.all (c_ ng)=ck/\C.toList.all (c_ ng)=ck/\H.toList.all (c_ ng)=ck:=by simp[Op.operands] at u;refine⟨u.1,?_⟩;cases O<;>cases C<;>cases H<;>simp_all
      exact aiq b L A g m S G I M.1 M.2.1 M.2.2.1 M.2.2.2 q
     simp[m,de] at q
    simp[de] at q
   simp[de] at q
  simp[de] at q
 |fieldAddr t x H=>
  simp[Op.operands] at u;simp only[dR] at q;split at q;rename_i i C;split at q;rename_i N A;split at q;rename_i f l;split at q;rename_i D m;cases O:an D.size 0;simp only[O,A8] at q;exact ain b C A l m (by intro h;rw[h] at O;cases O) S G I u q;simp[O,de] at q;simp[de] at q;simp[de] at q;simp[de] at q;simp[de] at q
 |indexAddr t x y=>
  simp[Op.operands] at u;simp only[dR] at q;split at q;rename_i i C;split at q;rename_i k A;split at q;rename_i W g;exact ND b C A g S G I u.1 u.2 q;simp[de] at q;rename_i n k A;split at q;rename_i W g;exact NC b C A g S G I u.1 u.2 q;simp[de] at q;simp[de] at q;simp[de] at q
 |index t x y=>
  simp[Op.operands] at u;simp only[dR] at q;split at q;rename_i i C;split at q;rename_i A;exact TG b C A S G I u.1 u.2 q;rename_i n k A;split at q;rename_i W g;exact TF b C A g S G I u.1 u.2 q;simp[de] at q;simp[de] at q;simp[de] at q
 |extract x i=>
  simp[Op.operands] at u;exact aqg S G I u q
 |lookup t x y m=>
  simp[Op.operands] at u;simp only[dR] at q;split at q;rename_i i C;split at q;rename_i E k A;split at q;rename_i F W m g;split at q;rename_i N z l O D;split at q;rename_i U B;exact WI b C A m B (by rw[(b E F m).agg,l];rfl) (jZ ⟨_,l⟩) g O D S G I u.1 u.2 q;simp[de] at q;rename_i n Sx z l O D;split at q;rename_i U B;exact WI b C A m B (by rw[(b E F m).agg,l];rfl) (kd ⟨_,_,l⟩) g O D S G I u.1 u.2 q;simp[de] at q;simp[de] at q;simp[de] at q;simp[de] at q;simp[de] at q
 |mapEntry t x y=>
  simp[Op.operands] at u;simp only[dR] at q;split at q;rename_i i C;split at q;rename_i E k A;split at q;rename_i F W m g;split at q;rename_i N z l O D;split at q;rename_i U B;exact aci b C A m B (by rw[(b E F m).agg,l];rfl) (jZ ⟨_,l⟩) g O D S G I u.1 u.2 q;simp[de] at q;rename_i n Sx z l O D;split at q;rename_i U B;exact aci b C A m B (by rw[(b E F m).agg,l];rfl) (kd ⟨_,_,l⟩) g O D S G I u.1 u.2 q;simp[de] at q;simp[de] at q;simp[de] at q;simp[de] at q;simp[de] at q
 |entryStore t x y z=>
  simp[Op.operands] at u;simp only[dR] at q;obtain⟨w',rfl,O,B,l⟩:=alL (P:=P) (t:=t) S G I u.1 u.2.1 u.2.2 q;refine⟨ρ,w',undef,kd ⟨Q,?_⟩,VR.undef,B,l⟩;show((do Instr.entryStore t (a.eval x) (a.eval y) (a.eval z);pure Next.skip):Sem Next).run P w=_;simp[O]
 |call c=>
  have⟨B,args,l⟩:=c;have F:∀m,B=.builtin m->∃cs,((execOp a.eval { dst:=dst,op:=.call { callee:=B,args:=args,argTypes:=l },type:=ty,pos:=pos,after:=aft,guard:=gd }).run P w)=(builtin m l ty cs (args.map a.eval)).run P w:=by rintro m rfl;exact⟨_,Q⟩
  have m:∀ {p:List aT},args.toList=p->args.map a.eval=(p.map a.eval).toArray:=by intro p E;apply b9;simp[<-E]
  have D:∀ {p:List cI},l.toList=p->l=p.toArray:=by intro p E;apply b9;simp[<-E]
  have M:args.toList.all (c_ ng)=ck:=by cases B<;>simp[Op.operands,lq] at u<;>simp<;>first|exact u|exact u.2
  simp only[dR,Dj] at q;split at q;simp[de] at q
  .
   have⟨cs,O⟩:=F _ rfl;rw[O];split at q;rename_i x t u l;rw[m u,D l];rw[u] at M;simp at M;split at q;rename_i i C;split at q;rename_i k A;exact aqh b C A S G I M q;rename_i A;exact alO b C A S G I M q;simp[de] at q;simp[de] at q;simp[de] at q
  .
   have⟨cs,O⟩:=F _ rfl;rw[O];split at q;rename_i x y t B u l;rw[m u,D l];rw[u] at M;simp at M;split at q;rename_i i p C L;split at q;rename_i k A;split at q;rename_i W g;split at q;rename_i H p;exact QX b C A g L (by simpa using⟨H,p⟩) S G I M.1 M.2 q;rename_i H p;exact QX b C A g L (by simpa using⟨H,p⟩) S G I M.1 M.2 q;simp[de] at q;simp[de] at q;simp[de] at q;simp[de] at q;simp[de] at q
  .
   have⟨cs,O⟩:=F _ rfl;rw[O];split at q;rename_i x y t B u l;rw[m u,D l];rw[u] at M;simp at M;split at q;rename_i i C;split at q;rename_i k A;split at q;rename_i W g;exact alK b C A g S G I M.1 M.2 q;simp[de] at q;simp[de] at q;simp[de] at q;simp[de] at q
  .
   have⟨cs,O⟩:=F _ rfl;rw[O];split at q;rename_i x t u l;rw[m u,D l];rw[u] at M;simp at M;split at q;rename_i i C;split at q;rename_i k A;split at q;rename_i W g;exact aim b C A g S G I M q;simp[de] at q;simp[de] at q;simp[de] at q;simp[de] at q
  .
   have⟨cs,O⟩:=F _ rfl;rw[O];split at q;rename_i x t u l;rw[m u,D l];rw[u] at M;simp at M;split at q;rename_i i C;split at q;rename_i k A;exact aqf b C A S G I M q;simp[de] at q;simp[de] at q;simp[de] at q
  simp[de] at q
 |_=>simp[dR,de] at q
end
section
variable{P:bG}{b:ea}{a:Act}{k:List ym}{c:ea}{cs:List ea}{w:bQ}
def awz(q:b.roundOf=K):step P (lone (on b a (.code .ret::k)) cs w)=.next (lone {on b a (.code .ret::k) with mode:=.returning} cs w):=
 step_lone_go (by simp[stepG,stepG.exec,on,q])
def awy(q:b.roundOf=K):step P (lone (on b a []) cs w)=.next (lone {on b a [] with mode:=.returning} cs w):=
 step_lone_go (by simp[stepG,stepG.exec,on,q])
def SM{x:Option (List Deferred)}(q:w.heap[r]?=Z (.deferred x)):(getObj r).run P w=.ok (.deferred x) w:=by simp only[getObj,nE,q]
def Uj{x:Option (List Deferred)}(o:Obj)(q:w.heap[r]?=Z (.deferred x)):(setObj r o).run P w=.ok () {w with heap:=w.heap.setIfInBounds r o} :=by simp only[setObj,nE,q]
def agK(q:w.heap[r]?=Z (.loop L)):(getObj r).run P w=.ok (.loop L) w:=by simp only[getObj,nE,q]
def Oa(o:Obj)(q:w.heap[r]?=Z (.loop L)):(setObj r o).run P w=.ok () {w with heap:=w.heap.setIfInBounds r o} :=by simp only[setObj,nE,q]
def yJ(q:w.heap[r]?=Z (.loop L)):(Instr.getLoop r).run P w=.ok L w:=by simp only[Instr.getLoop,qO,agK q,si,zF]
def Xp{q:ea}{ds:List Deferred}(A:q.mode=.returning)(y:q.defers= { target:=.collected r,args:= #[] } ::ds)(u:w.heap[r]?=Z (.deferred (Z []))):step P (lone q cs w)=.next (lone {q with defers:=ds} cs {w with heap:=w.heap.setIfInBounds r (.deferred K)}):=by
 refine step_lone_go ?_;have V:(Instr.takeDeferred r).run P w=.ok [] {w with heap:=w.heap.setIfInBounds r (.deferred K)} :=by simp only[Instr.takeDeferred,qO,SM u,Uj _ u,si,zF]
 simp[stepG,A,unwind,y,V]
def Ua{l:Nat}(y:b.roundOf=Z l)(q:w.heap[l]?=Z (.loop L))(u:L.state=.ready):step P (lone (on b a (.beginRound::k)) cs w)=.next (lone (on b a k) cs { w with heap:=w.heap.setIfInBounds l (.loop {L with state:=.busy}) }):=by
 refine step_lone_go ?_;have V:(Instr.beginRound l).run P w=.ok () { w with heap:=w.heap.setIfInBounds l (.loop {L with state:=.busy}) } :=by simp only[Instr.beginRound,qO,yJ q,Oa _ q,si,u,zF]
 simp[stepG,stepG.exec,stepG.apply,on,y,V,ea.finish]
def AX{l:Nat}(q:Option Code)(u:w.heap[l]?=Z (.loop L)):(Instr.endRound l q).run P w=.ok (dC q.isNone) { w with heap:=w.heap.setIfInBounds l (.loop {L with state:=if q.isNone then .ready else .done,pending:=q}) } :=by
 simp only[Instr.endRound,qO,yJ u,Oa _ u,si,zF]
def Xq{l:Nat}(y:b.roundOf=Z l)(q:b.kind=.normal)(u:w.heap[l]?=Z (.loop L)):step P (lone (on b a []) (c::cs) w)=.next (lone (c.finish (dC ck)) cs { w with heap:=w.heap.setIfInBounds l (.loop {L with state:=.ready,pending:=K}) }):=by
 refine step_lone_go ?_;have V:=AX (P:=P) K u;simp[stepG,stepG.exec,on,y,V,doReturn,q]
def Xr{l:Nat}(y:b.roundOf=Z l)(q:b.kind=.normal)(u:w.heap[l]?=Z (.loop L)):step P (lone (on b a (.code .ret::k)) (c::cs) w)=.next (lone (c.finish (dC cd)) cs { w with heap:=w.heap.setIfInBounds l (.loop {L with state:=.done,pending:=Z .ret}) }):=by
 refine step_lone_go ?_;have V:=AX (P:=P) (Z .ret) u;simp[stepG,stepG.exec,on,y,V,doReturn,q]
def Uc{l id:Nat}(A:b.roundOf=Z l)(u:b.kind=.normal)(y:w.heap[l]?=Z (.loop L))(q:exitTo id k=K):step P (lone (on b a (.code (.exit id)::k)) (c::cs) w)=.next (lone (c.finish (dC cd)) cs { w with heap:=w.heap.setIfInBounds l (.loop {L with state:=.done,pending:=Z (.exit id)}) }):=by
 refine step_lone_go ?_;have V:=AX (P:=P) (Z (.exit id)) y;simp[stepG,stepG.exec,on,A,V,doReturn,u,q]
def awA{f:aT}{ps:Array Tmp}{asg body:Code}{g:FuncId}{args:Array aa}{w':bQ}(y:b.roundOf=K)(A:(do let d<-resolve a.eval { callee:=.value f,args:= #[.const (.func (.yield (w.heap.size+1)) #[] #[])],argTypes:= #[] } 0;invoke d.target d.args).run P
   { w with heap:=(w.heap.push (.deferred (Z []))).push (.loop { state:=.ready,pending:=K,fn:=b.fn,tmps:=a.tmps,params:=ps,assign:=asg,body:=body,defers:=w.heap.size }) } =.ok (.enter g args) w'):
  step P (lone (on b a (.code (.rangeFunc f ps asg body)::k)) cs w)=
   .next (lone (ml P g args .normal) (on b { a with defers:= { target:=.collected w.heap.size,args:= #[] } ::a.defers } (.inRangeFunc (w.heap.size+1)::k)::cs) w'):=by
 refine step_lone_go ?_;have V:(Instr.enterLoop b.fn a.tmps ps asg body K).run P w=.ok (w.heap.size+1,[{ target:=.collected w.heap.size,args:= #[] }])
   { w with heap:=(w.heap.push (.deferred (Z []))).push (.loop { state:=.ready,pending:=K,fn:=b.fn,tmps:=a.tmps,params:=ps,assign:=asg,body:=body,defers:=w.heap.size }) } :=by
  simp only[Instr.enterLoop,qO,run_newObj,si,zF,tb]
 have q:∀(t:List ym)(u:List Deferred),({ fn:=b.fn,tmps:=a.tmps,todo:=t,defers:=u,mode:=.run,kind:=b.kind,roundOf:=b.roundOf } :ea).eval=a.eval:=by intro t u;funext x;cases x<;>rfl
 rw[y] at q;simp only[stepG,stepG.exec,on,y,Sem.runT_eq,V,GStep.bare_after];simp only[List.cons_append,pn,q];simp[stepG.apply,A]
def aiU{l:Nat}(q:w.heap[l]?=Z (.loop L))(u:(L.state==.busy)=cd):step P (lone (on b a (.endRangeFunc l::k)) cs w)=.next (lone (on b a ((L.pending.map aaH).toList++k)) cs { w with heap:=w.heap.setIfInBounds l (.loop {L with state:=.exhausted}) }):=by
 refine step_lone_go ?_;have V:(Instr.endLoop l).run P w=.ok L.pending { w with heap:=w.heap.setIfInBounds l (.loop {L with state:=.exhausted}) } :=by simp only[Instr.endLoop,qO,yJ q,si,u,CL,if_false,Oa _ q,zF]
 simp[stepG,stepG.exec,on,V]
def Vd{ρ:aT->aa}{f:aT}{args:Array aT}{ats:Array cI}{ty:cI}(y:ρ f=.func (.func g) first X)(A:P.funcs[g]?=Z fn)(q:fn.body.isSome=ck)(G:(fn.name== "runtime.NumGoroutine")=cd):(do let d<-resolve ρ { callee:=.value f,args:=args,argTypes:=ats } ty;invoke d.target d.args).run P w=.ok (.enter g (first++args.map ρ++X)) w:=by
 have u:¬(fn.body=K):=by intro h;rw[h] at q;cases q
 have C:¬(fn.name= "runtime.NumGoroutine"):=aj G
 simp[resolve,y,rv,invoke,callFunc,A,C,u]
def afv{ρ:aT->aa}{f:aT}{args:Array aT}{ats:Array cI}{ty:cI}{l:Nat}(u:ρ f=.func (.yield l) #[] #[])(y:w.heap[l]?=Z (.loop L))(q:args.size=L.params.size):(do let d<-resolve ρ { callee:=.value f,args:=args,argTypes:=ats } ty;invoke d.target d.args).run P w=
   .ok (.round l L.fn ((L.params.zip (args.map ρ)).foldl (λtmps (t,a)=>tmps.setIfInBounds t a) L.tmps) L.assign L.body) w:=by
 simp[resolve,u,rv,invoke,Instr.yield,yJ y,q]
end
abbrev wq:=Nat->List cQ->List (cr×List Nat)
def FQ(T:uK):ResultVar->Option Kn
 |.tmp t=>Z (.tmp t)
 |.cell a t=>match T t with
  |some i=>Z (.cell a (GR i))
  |none=>K
section
variable(P:bG)(T:uK)(ng:Nat)(b:wq)(F:Nat->Option dm)
def jc:dH:=λk q c=>∃n,n<=k/\q=dJ T ng n b c/\lf c=ck
def anF(f:Nat)(args:List aa)(h:az)(v:aa)(h':az):Prop:=
 ∀(W:List aa)(ρ:fZ)(w:bQ),ff (jc T ng b) ρ h w->eB ng ρ->bo (VR ρ) args W->∀cs:List ea,∃fn ρ' w' c q,P.funcs[f]?=Z fn/\fn.body.isSome=ck/\(fn.name== "runtime.NumGoroutine")=cd/\Steps P (lone (ml P f ⟨W⟩ .normal) cs w) (lone q cs w')/\q.fn=f/\q.leaving P w' (.returned c)/\VR ρ' v c/\ff (jc T ng b) ρ' h' w'/\Ext ρ h w ρ' h' w'
def RD(f:Nat)(p:List aa->az->Option (aa×az)):Prop:=∀args h v h',p args h=Z (v,h')->anF P T ng b f args h v h'
def Zr(f:Nat):Prop:=∃fn t a i q,P.funcs[f]?=Z fn/\fn.body.isNone=ck/\(fn.name== "runtime.NumGoroutine")=cd/\Extern.findNext fn=K/\Extern.find fn=Z (ow fn.params fn.resultTypes)/\fn.params[0]?=Z t/\T t=Z i/\i.u=.slice a/\T a=Z q
def Kq:Prop:=∀f q,F f=Z q->match q.CW with
 |.no=>∃fn c,P.funcs[f]?=Z fn/\fn.body=Z c/\(fn.name== "runtime.NumGoroutine")=cd/\bo (λr u=>FQ T r=Z u) fn.results.toList q.res/\q.body=dJ T ng fn.ntmps b c
 |.run p _=>RD P T ng b f p
 |.WN=>Zr P T f
end
def UN(ρ:fZ)(h:az)(k:Nat):Prop:=∀x r o,ρ x=Z r->h.tr.get x=Z o->r.bZ≠k
def mark(r:Nat):Deferred:= { target:=.collected r,args:= #[] }
def GL(B:Nat)(ρ:fZ)(h:az)(w:bQ)(b:List Deferred):Prop:=
 ∃a:List Nat,b=a.map mark/\a.Nodup/\∀r∈a,B<=r/\w.heap[r]?=Z (.deferred (Z []))/\UN ρ h r
def UN.ext{k:Nat}(q:UN ρ h k)(E:Ext ρ h w ρ' h' w')(u:k<w.heap.size):UN ρ' h' k:=by intro x r o I u e;rcases E.live x r o I u with V|⟨b,C,y,V,A,G⟩;omega;exact q b C y V A (G.trans e)
def GL.ext{B:Nat}{ρ ρ':fZ}{h h':az}{w w':bQ}{u:List Deferred}(A:GL B ρ h w u)(E:Ext ρ h w ρ' h' w'):GL B ρ' h' w' u:=by have⟨u,V,G,O⟩:=A;refine⟨u,V,G,λr a=>?_⟩;have⟨I,u,q⟩:=O r a;have y:=Fh u;refine⟨I,?_,q.ext E y⟩;rw[E.Ag r y,u];rintro x M O⟨o,C,_⟩;exact q x M o O C
def OR(P:bG)(b:ea)(k:List ym)(cs:List ea)(m:Rr):bH->Act->bQ->Prop
 |.normal,a,w=>Steps P m (lone (on b a k) cs w)
 |.exit id,a,w=>∃q,Steps P m (lone (on b a (.code (.exit id)::q)) cs w)/\exitTo id q=exitTo id k
 |.ret,a,w=>∃q,Steps P m (lone (on b a (.code .ret::q)) cs w)
def OR.of_steps{b:ea}{k:List ym}{m u:Rr}{x:bH}(h:Steps P m u)(g:OR P b k cs u x a w):OR P b k cs m x a w:=by
 cases x with
 |normal=>exact Steps.trans h g
 |exit id=>have⟨q,V,y⟩:=g;exact⟨q,h.trans V,y⟩
 |ret=>have⟨q,V⟩:=g;exact⟨q,h.trans V⟩
section
variable{P:bG}{T:uK}{ng:Nat}{l:wq}{F:Nat->Option dm}{s:aD->Env->az->R}
structure Ev(CC:dH)(B:Nat)(ρ:fZ)(h:az)(w:bQ)(a:Act)(ρ':fZ)(e':Env)(h':az)(w':bQ)(a':Act):Prop where
 Yk:ff CC ρ' h' w'
 er:ER ρ' e' a'.tmps
 size:a'.tmps.size=a.tmps.size
 ext:Ext ρ h w ρ' h' w'
 defs:GL B ρ' h' w' a'.defers
def zM(P:bG)(T:uK)(ng:Nat)(l:wq)(s:aD->Env->az->R):Prop:=
 ∀(n:Nat)(c:Code)(e:Env)(h:az)(x:bH)(e':Env)(h':az),s (dJ T ng n l c) e h=Z (x,e',h')->∀(B:Nat)(ρ:fZ)(w:bQ)(a:Act)(b:ea)(k:List ym)(cs:List ea),ff (jc T ng l) ρ h w->eB ng ρ->ER ρ e a.tmps->n<=a.tmps.size->B<=w.heap.size->GL B ρ h w a.defers->(b.roundOf=K\/lf c=ck)->∃ρ' w' q,OR P b k cs (lone (on b a (.code c::k)) cs w) x q w'/\Ev (jc T ng l) B ρ h w a ρ' e' h' w' q
def ER.put{ρ:fZ}{e:Env}{a:Act}(u:ER ρ e a.tmps){dst:Option Nat}{v c:aa}(y:∀d,dst=Z d->d<a.tmps.size)(A:VR ρ v c):ER ρ (ik e dst v) (a.put dst c).tmps:=by
 rcases dst with _|d;exact u
 .intro t;have G:=y d rfl;simp only[ik,z1,Env.bN];by_cases q:t=d
  subst q;simp[lK,G,A]
  .rw[bM q];have:=u t;have C:(a.tmps.setIfInBounds d c).getD t undef=a.tmps.getD t undef:=by simp[bA,gN,cE q]
   rw[C];exact this
def Au(a:Act)(b:Option Nat)(c:aa):(a.put b c).tmps.size=a.tmps.size:=by cases b<;>simp[z1]
def put_defers(a:Act)(b:Option Nat)(c:aa):(a.put b c).defers=a.defers:=by cases b<;>rfl
def VR.of_bool{b:Bool}(h:VR ρ v (dC b)):v=dC b:=by
 cases h with
 |val h=>cases h with
  |cell h=>cases h with
   |cell h=>cases h;rfl
def Ow(u:ER ρ e a.tmps){g:Option (Nat×Bool)}(U:(o.guard=K/\g=K)\/∃j b t,o.guard=Z (j,b)/\Jw ops.toList j=Z t/\g=Z (t,b)):b0 o (yielded ops a.tmps)=wanted e g:=by
 rcases U with⟨V,rfl⟩|⟨j,b,t,V,C,rfl⟩;simp[b0,V,wanted]
 .simp only[b0,V,wanted];have O:yielded ops a.tmps j=match a.tmps[t]? with|some (dC c)=>Z c|_=>K:=by
   unfold Jw at C;split at C
   .rename_i W M;have G:ops[j]?=Z W:=aj M
    simp only[yielded,G,r5,C];rfl
   cases C
  have q:=u t;rw[bA] at q;rw[O];rcases I:a.tmps[t]? with _|u
  .rw[I] at q;simp only[Option.getD_none] at q;have b:bY e t=.tuple #[]:=by
    cases A:bY e t with
    |tuple l=>
     rw[A] at q;have⟨m,y,O⟩:=q.Rs;have:m=[]:=by unfold undef at y;injection y with y;injection y with y;exact y.symm
     subst this;have⟨l⟩:=l;cases O;rfl
    |_=>rw[A] at q;unfold undef at q;cases q with
     |val h=>cases h with
      |cell h=>exact absurd h.plain.2 (by simp[AI.plain])
   rw[b];simp
  .rw[I] at q;simp only[rY] at q;cases u with
   |bool c=>
    rw[VR.of_bool q];simp
   |_=>
    cases A:bY e t with
    |bool c=>rw[A] at q;have:=q.qq;cases this
    |_=>simp
def NL:∀(l:List aa)(e:Env)(i t:Nat),bY (params e i l) t=if i<=t then(match l[t-i]? with|some v=>v|none=>bY e t) else bY e t
 |[],e,i,t=>by simp[params]
 |v::l,e,i,t=>by rw[params,NL l _ (i+1) t];by_cases V:i+1<=t;rw[bK V,bK ab,show t-i=(t-(i+1))+1 by omega,ye];split;rfl;rw[Env.bN,bM ab];rw[bM V,Env.bN];by_cases q:t=i;subst q;simp;rw[bM q,bM ab]
def aeu(h:bo (VR ρ) args W)(m:Nat):ER ρ (params .nil 0 args) ((⟨W⟩:Array aa)++th m undef):=by
 intro t;rw[NL];simp only[hQ,if_true,Nat.sub_zero];rw[bA];rcases q:args[t]? with _|v
 .have A:cz args<=t:=List.getElem?_eq_none_iff.1 q;have I:=h.length;have:((⟨W⟩:Array aa)++th m undef)[t]?.getD undef=undef:=by by_cases c:t<cz W+m;rw[Array.getElem?_append_right (by simp;omega)];simp;by_cases y:t-cz W<m;simp[y];simp[y];rw[Array.getElem?_eq_none (by simp;omega)];rfl
  rw[this];exact VR.undef
 have⟨c,u,C⟩:=h.get q;have G:=(cY.1 u).1;rw[Array.getElem?_append_left (aj G)];have:(⟨W⟩:Array aa)[t]?=Z c:=by rw[<-u];simp
 rw[this];exact C
def Ui :∀(a:List Nat)(args W:List aa)(e e':Env)(tmps:Array aa),bo (VR ρ) args W->gG e a args=Z e'->ER ρ e tmps->(∀t∈a,t<tmps.size)->ER ρ e' ((a.zip W).foldl (λ(tmps:Array aa) (x:Nat×aa)=>tmps.setIfInBounds x.1 x.2) tmps)/\((a.zip W).foldl (λ(tmps:Array aa) (x:Nat×aa)=>tmps.setIfInBounds x.1 x.2) tmps).size=tmps.size/\cz a=cz args:=by
 intro a;induction a with
 |nil=>
  intro args W e e' tmps C q A _;cases C with
  |nil=>simp only[gG,oy] at q;subst q;exact⟨A,Q,Q⟩
  |cons=>simp[gG] at q
 |cons t a G=>
  intro args W e e' tmps C q A I;cases C with
  |nil=>simp[gG] at q
  | @cons v c args W M u=>
   simp only[gG] at q;have y:=ER.put (a:=⟨tmps,[]⟩) (dst:=Z t) A (λd a=>by cases a;exact I t J) M;simp only[ik,z1] at y;have⟨V,O,a⟩:=G args W _ e' (tmps.setIfInBounds t c) u q y (λu U=>aj (I u (au U)));exact⟨V,aj O,au a⟩
def Yb(tmps:Array aa):ResultVar->Sem aa
 |.tmp t=>pure (tmps.getD t undef)
 |.cell a t=>do loadVar t (<-asAddr (tmps.getD a undef))
def aaM(fn:Func)(tmps:Array aa):Go.results fn tmps=(do
  let vs<-fn.results.mapM (Yb tmps)
  pure (if h:vs.size=1 then vs[0] else .tuple vs)):=by
 unfold Go.results;congr 1
def W8(f:eC P T)(S:ff CC ρ h w)(d:ER ρ e tmps):∀(u:List ResultVar)(y:List Kn)(vs:List aa),bo (λr a=>FQ T r=Z a) u y->results e h y=Z vs->∃cs:List aa,bo (VR ρ) vs cs/\∀r c,(r,c)∈u.zip cs->(Yb tmps r).run P w=.ok c w:=by
 intro u;induction u with
 |nil=>
  intro y vs W q;cases W;simp only[results,oy] at q;subst q;exact⟨[],.nil,λr c h=>by simp at h⟩
 |cons r u A=>
  intro y vs W q;cases W with
  | @cons _ a _ y V b=>
  cases r with
  |tmp t=>
   simp only[FQ,oy] at V;subst V;simp only[results] at q;split at q;rename_i l a;cases q;have⟨cs,O,U⟩:=A y l b a;refine⟨_::cs,.cons (d t) O,?_⟩;intro r c u;simp only[List.zip_cons_cons,bn,BM] at u;rcases u with⟨rfl,rfl⟩|u;rfl;exact U r c u;cases q
  |cell g t=>
   simp only[FQ] at V;split at V
   .rename_i i j;cases V;simp only[results] at q;split at q
    .rename_i k k C;split at q
     .rename_i k G;split at q
      .rename_i v k;split at q
       .rename_i l a;cases q;have⟨cs,O,U⟩:=A y l b a;have a:=d g;rw[C] at a;obtain⟨g,M,g⟩:=a.HX;have⟨c,I,a⟩:=ach (P:=P) S (f t i j) M G k;refine⟨c::cs,.cons a O,?_⟩;intro r O u;simp only[List.zip_cons_cons,bn,BM] at u;rcases u with⟨rfl,rfl⟩|u
        simp only[Yb,qO,g,asAddr,zF,si,I];exact U r O u
       cases q
      cases q
     cases q
    cases q
   cases V
def ah1{α a:Type}(f:α->Sem a):∀(l:List α)(m:List a)(w:bQ),cz l=cz m->(∀x y,(x,y)∈l.zip m->(f x).run P w=.ok y w)->∀q:Array a,(l.foldlM (λa x=>a.push <$> f x) q).run P w=.ok (q++m.toArray) w:=by
 intro l;induction l with
 |nil=>intro m w A _ q;cases m with
  |nil=>simp
  |cons=>simp at A
 |cons x l G=>
  intro m w A I q;rcases m with _|⟨y,m⟩;simp at A;simp only[List.foldlM_cons,qO,Hc,I x y J,si];rw[G m w (aj A) (λu v C=>I u v (au C))];congr 1;apply b9;simp
def Xa(M:eC P T)(S:ff CC ρ h w)(b:ER ρ e tmps){q:List Kn}(u:bo (λr O=>FQ T r=Z O) fn.results.toList q)(G:results e h q=Z vs)(O:gV vs=ck):∃c,(Go.results fn tmps).run P w=.ok c w/\VR ρ (result vs) c:=by
 have⟨cs,I,a⟩:=W8 M S b _ _ _ u G;have b:cz fn.results.toList=cz cs:=by
  have V:=u.length;have u:=I.length;have d:∀(q:List Kn)(vs:List aa),results e h q=Z vs->cz vs=cz q:=by
   intro q;induction q with
   |nil=>intro vs h;simp only[results,oy] at h;subst h;rfl
   |cons r q y=>
    intro vs h;cases r with
    |tmp t=>
     simp only[results] at h;split at h;rename_i l u;cases h;simp[y l u];cases h
    |cell q n=>
     simp only[results] at h
     repeat (split at h<;>try cases h)
     rename_i l u;simp[y l u]
  have:=d _ _ G;omega
 have q:(fn.results.mapM (Yb tmps)).run P w=.ok ⟨cs⟩ w:=by rw[Array.mapM_eq_foldlM,<-Array.foldlM_toList,ah1 _ _ cs w b a];congr 1;apply b9;simp
 refine⟨if h:(⟨cs⟩:Array aa).size=1 then(⟨cs⟩:Array aa)[0] else .tuple ⟨cs⟩,?_,?_⟩;rw[aaM];simp only[qO,q,si,zF]
 .match vs,cs,I with
  |[v],[c],.cons C .nil=>simpa [result] using C
  |[],[],.nil=>simpa [result] using VR.tuple (ρ:=ρ) .nil
  |U::b::vs,a::c::cs,q=>
   have W:¬((⟨a::c::cs⟩:Array aa).size=1):=J
   rw[dif_neg W];simp only[result];have c:(U::b::vs).all tp=ck:=O;have conv:∀ {l m:List aa},bo (VR ρ) l m->l.all tp=ck->bo (AR ρ) l m:=by
    intro l m h;induction h with
    |nil=>intro _;exact .nil
    |cons C _ A=>
     intro u;simp only[List.all_cons,oD] at u;refine .cons ?_ (A u.2);cases C with
     |val h=>exact h
     |tuple=>simp[tp] at u
     |atl=>simp[tp] at u
   exact VR.tuple (conv q c)
end
section
variable{P:bG}{T:uK}{ng:Nat}{E:wq}{F:Nat->Option dm}{s:aD->Env->az->R}
def abf(B:Nat){CC:dH}{c ρ:fZ}{M h:az}{G:bQ}(a:G.heap.size<=B):∀(a:List Nat)(w:bQ)(u:ea)(cs:List ea),u.mode=.returning->u.defers=a.map mark->a.Nodup->(∀r∈a,B<=r/\w.heap[r]?=Z (.deferred (Z []))/\UN ρ h r)->ff CC ρ h w->Ext c M G ρ h w->∃w',Steps P (lone u cs w) (lone {u with defers:=[]} cs w')/\ff CC ρ h w'/\Ext c M G ρ h w':=by
 intro a;induction a with
 |nil=>
  intro w u cs _ C _ _ S E;refine⟨w,?_,S,E⟩;have:({u with defers:=[]} :ea)=u:=by cases u;simp at C;subst C;rfl
  rw[this];exact Steps.refl P _
 |cons r a O=>
  intro w u cs l C g i S E;obtain⟨d,d,k⟩:=i r J;have m:=Fh d;have m:=Xp (P:=P) (cs:=cs) (ds:=a.map mark) l (by rw[C];rfl) d;have d:∀j,j≠r->(w.heap.setIfInBounds r (.deferred K))[j]?=w.heap[j]? :=λj n=>by simp[cE n]
  have n:ff CC ρ h {w with heap:=w.heap.setIfInBounds r (.deferred K)} :=by refine⟨λb A y=>⟨(S.low b A y).1,by simpa using(S.low b A y).2⟩,?_,S.inj,S.wf⟩;intro b A o y f;exact jR.mono ρ.le_refl (d _ (k b A o y f)) (S.obj b A o y f)
  have b:Ext c M G ρ h {w with heap:=w.heap.setIfInBounds r (.deferred K)} :=by refine⟨E.le,E.aw,aj E.size,E.os,E.tape,E.output,?_,E.own,E.new,E.live⟩;intro k f c;rw[<-E.Ag k f c];exact d k ab
  have⟨w',k,U,I⟩:=O {w with heap:=w.heap.setIfInBounds r (.deferred K)} {u with defers:=a.map mark} cs l rfl (oa.1 g).2
   (λq W=>by have⟨a,l,u⟩:=i q (au W);refine⟨a,?_,u⟩;rw[<-l];exact d q (λe=>(oa.1 g).1 (e▸W))) n b
  exact⟨w',.head m k,U,I⟩
def Cw(d:Kq P T ng E F)(B:eC P T)(l:zM P T ng E s)(q:vk F s f args h=Z (v,h'))(S:ff (jc T ng E) ρ h w)(e:eB ng ρ)(m:bo (VR ρ) args W)(cs:List ea):∃fn ρ' w' c G,P.funcs[f]?=Z fn/\fn.body.isSome=ck/\(fn.name== "runtime.NumGoroutine")=cd/\Steps P (lone (ml P f ⟨W⟩ .normal) cs w) (lone G cs w')/\G.fn=f/\G.leaving P w' (.returned c)/\VR ρ' v c/\ff (jc T ng E) ρ' h' w'/\Ext ρ h w ρ' h' w':=by
 unfold vk pV at q;split at q;cases q
 .rename_i i j;have u:=d f i j;split at q
  cases q;rename_i p j C;rw[C] at u;exact u args h v h' q W ρ w S e m cs;rename_i C;rw[C] at u;have⟨fn,c,d,j,L,z,n⟩:=u
  let b:ea:= {(default:ea) with fn:=f,kind:=.normal}
  let a:Act:= { tmps:=(⟨W⟩:Array aa)++th (fn.ntmps-cz W) undef,defers:=[] }
  have U:ml P f ⟨W⟩ .normal=on b a [.code c]:=by simp[ml,on,d,j,b,a];rfl
  have O:ER ρ (params .nil 0 args) a.tmps:=aeu m _;have m:fn.ntmps<=a.tmps.size:=by simp[a];omega
  have g:GL w.heap.size ρ h w a.defers:=⟨[],Q,MJ,λr I=>by simp at I⟩;rw[n] at q;have n:∀(e':Env)(V:az)(ρ':fZ)(w':bQ)(y:Act),(∃k,Steps P (lone (on b a [.code c]) cs w) (lone {on b y k with mode:=.returning} cs w'))->Ev (jc T ng E) w.heap.size ρ h w a ρ' e' V w' y->(match results e' V i.res with|some vs=>bif gV vs then Z (result vs,V) else K|none=>K)=Z (v,h')->∃fn ρ' w' c G,P.funcs[f]?=Z fn/\fn.body.isSome=ck/\(fn.name== "runtime.NumGoroutine")=cd/\Steps P (lone (ml P f ⟨W⟩ .normal) cs w) (lone G cs w')/\G.fn=f/\G.leaving P w' (.returned c)/\VR ρ' v c/\ff (jc T ng E) ρ' h' w'/\Ext ρ h w ρ' h' w':=by
   intro e' V ρ' w' y ⟨k,o⟩ A I;split at I;rename_i vs Ac;cases u:gV vs;simp[u] at I;simp only[u,jv,oy,BM] at I;obtain⟨rfl,rfl⟩:=I;have⟨H,t,x,X⟩:=A.defs;have⟨w2,N,i,D⟩:=abf (P:=P) w.heap.size (fq _) H w' {on b y k with mode:=.returning} cs rfl t x X A.Yk A.ext;have⟨k,M,x⟩:=Xa (P:=P) B i A.er z Ac u;refine⟨fn,ρ',w2,k,_,d,by rw[j];rfl,L,by rw[U];exact o.trans N,Q,⟨Q,Q,Q,fn,d,M⟩,x,i,D⟩;cases I
  split at q;rename_i e' V M;have⟨ρ',w',y,d,A⟩:=l fn.ntmps c _ h _ e' V M w.heap.size ρ w a b [] cs S e O m (fq _) g (jZ Q);exact n e' V ρ' w' y ⟨[],Steps.trans d (.one (awy Q))⟩ A q;rename_i e' V M;have⟨ρ',w',y,d,A⟩:=l fn.ntmps c _ h _ e' V M w.heap.size ρ w a b [] cs S e O m (fq _) g (jZ Q);obtain⟨g,g⟩:=d;exact n e' V ρ' w' y ⟨_,g.trans (.one (awz Q))⟩ A q;cases q
def Kh(S:ff CC ρ h w){l:Nat}{r:Fc}{q c:Env}{a d:List Nat}{b u body y:aD}{st A:Ys}(C:ρ l=Z r)(I:h.tr.get l=Z (.loop c d u y A))(c:w.heap[r.bZ]?=Z (.loop L))(c:Loop)(G:af0 CC ρ r q a b body st {w with heap:=w.heap.setIfInBounds r.bZ (.loop c)}):ff CC ρ (gJ h l q a b body st) {w with heap:=w.heap.setIfInBounds r.bZ (.loop c)} /\Ext ρ h w ρ (gJ h l q a b body st) {w with heap:=w.heap.setIfInBounds r.bZ (.loop c)} :=
 ff.py (o':=.loop q a b body st) S C I rfl (Bq.obj r.bZ (.loop c)) G h.clock
def heap_set(w:bQ){k:Nat}{o a:Obj}(h:w.heap[k]?=Z o):(w.heap.setIfInBounds k a)[k]?=Z a:=by have:=Fh h;simp[this]
def TY(B:zM P T ng E s){l:Nat}(u:uI s l args h=Z (v,h'))(S:ff (jc T ng E) ρ h w)(f:eB ng ρ)(t:bo (VR ρ) args W){r:Fc}(z:ρ l=Z r)(c:ea)(cs:List ea):∃L ρ' w' D,w.heap[r.bZ]?=Z (.loop L)/\cz W=L.params.size/\Steps P (lone (zz r.bZ L.fn ((L.params.toList.zip W).foldl (λ(tmps:Array aa) (x:Nat×aa)=>tmps.setIfInBounds x.1 x.2) L.tmps) L.assign L.body .normal) (c::cs) w) (lone (c.finish D) cs w')/\VR ρ' v D/\ff (jc T ng E) ρ' h' w'/\Ext ρ h w ρ' h' w':=by
 unfold uI at u;split at u
 .rename_i o e j body b;have⟨L,hh,H,d,⟨j,N,i,n⟩,⟨X,q,Ya,ZG⟩,m,F⟩:=S.obj l r _ z b;split at u;cases u
  .rename_i p k;have⟨F,q,O⟩:=Ui e args W o p L.tmps t k H m;rw[<-d] at F q;have Dx:cz W=L.params.size:=by have V:=t.length;rw[<-d] at O;simp at O;omega
   let b:ea:= {(default:ea) with fn:=L.fn,kind:=.normal,roundOf:=Z r.bZ}
   let a:Act:= { tmps:=(L.params.toList.zip W).foldl (λ(tmps:Array aa) (x:Nat×aa)=>tmps.setIfInBounds x.1 x.2) L.tmps,defers:=[] }
   have apv:zz r.bZ L.fn a.tmps L.assign L.body .normal=on b a [.code L.assign,.beginRound,.code L.body]:=Q;refine⟨L,?_⟩;have k:a.tmps.size=L.tmps.size:=q;split at u
   .rename_i o V d;rw[i] at d;have⟨i,O,H,aB0,q⟩:=B j L.assign p h _ o V d w.heap.size ρ w a b [.beginRound,.code L.body] (c::cs) S f F ab (fq _)
     ⟨[],Q,MJ,λr m=>by simp at m⟩ (kd n)
    have n:=q.ext.le l r z;unfold zD at u;split at u
    .rename_i e m N asW F;have j:=q.Yk.obj l r _ n F;have⟨L1,g,aAX,d,t,z,p,k,aCA⟩:=j;have aBH:=Ua (P:=P) (b:=b) (a:=H) (k:=[.code L.body]) (cs:=c::cs) (w:=O) rfl g k;have⟨S2,j⟩:=Kh (st:=.busy) q.Yk n F g {L1 with state:=.busy} ⟨{L1 with state:=.busy},heap_set O g,aAX,d,t,z,p,Q⟩;have t:=q.ext.trans j;have d:=q.defs.ext j;have F:∀(x:bH)(z:Env)(C:az)(st:Ys)(p:Bool)(y:Option Code)(A:LoopState),Rz st {L1 with state:=A,pending:=y} ->(∀L3:Loop,Rz st {L3 with state:=A,pending:=y})->s (dJ T ng X E L.body) o (gJ V l e m N asW .busy)=Z (x,z,C)->ox l C st p=Z (v,h')->(∀U G L3,G.heap[r.bZ]?=Z (.loop L3)->OR P b [] (c::cs) (lone (on b H [.code L.body]) (c::cs) { O with heap:=O.heap.setIfInBounds r.bZ (.loop {L1 with state:=.busy}) }) x U G->Steps P (lone (on b H [.code L.body]) (c::cs) { O with heap:=O.heap.setIfInBounds r.bZ (.loop {L1 with state:=.busy}) })
         (lone (c.finish (dC p)) cs { G with heap:=G.heap.setIfInBounds r.bZ (.loop {L3 with state:=A,pending:=y}) }))->∃ρ' w' D,w.heap[r.bZ]?=Z (.loop L)/\cz W=L.params.size/\Steps P (lone (zz r.bZ L.fn ((L.params.toList.zip W).foldl (λ(tmps:Array aa) (x:Nat×aa)=>tmps.setIfInBounds x.1 x.2) L.tmps) L.assign L.body .normal) (c::cs) w) (lone (c.finish D) cs w')/\VR ρ' v D/\ff (jc T ng E) ρ' h' w'/\Ext ρ h w ρ' h' w':=by
      intro x z C st p y A _ D M e auZ;have⟨j,G,U,k,N⟩:=B X L.body o _ x z C M w.heap.size i _ H b [] (c::cs) S2 (f.mono q.ext.le) q.er (by rw[q.size];omega) (aj q.ext.size) d (kd ZG);have d:=N.ext.le l r n;unfold ox at e;split at e
      rename_i n o X f g;cases e;have⟨L3,I,m,O,i,f,H,X⟩:=N.Yk.obj l r _ d g;have⟨b,q⟩:=Kh (st:=st) N.Yk d g I {L3 with state:=A,pending:=y} ⟨{L3 with state:=A,pending:=y},heap_set G I,m,O,i,f,H,D L3⟩;refine⟨j,_,dC p,hh,Dx,?_,VR.bool p,b,(t.trans N.ext).trans q⟩;rw[apv];exact(Steps.trans aB0 (.head aBH (auZ U G L3 I k)));cases e
     rw[Ya] at u;split at u;rename_i z C M;refine F .normal z C .ready ck K .ready ⟨Q,Q⟩ (λ_=>⟨Q,Q⟩) M u ?_;intro U G L3 I n;exact Steps.trans n (.one (Xq Q Q I));rename_i z C M;refine F .ret z C (.done K) cd (Z .ret) .done ⟨Q,Q⟩ (λ_=>⟨Q,Q⟩) M u ?_;intro U G L3 I ⟨j,n⟩;exact Steps.trans n (.one (Xr Q Q I));rename_i id z C M;refine F (.exit id) z C (.done (Z id)) cd (Z (.exit id)) .done ⟨Q,Q⟩ (λ_=>⟨Q,Q⟩) M u ?_;intro U G L3 I ⟨j,n,t⟩;exact Steps.trans n (.one (Uc Q Q I t));cases u
    cases u
   cases u
 cases u
end
def Se{c:Call}{f:aT}{args:List aT}(h:Dj T c=.call f args):c.callee=.value f/\c.args.toList=args:=by
 have⟨y,W,u⟩:=c;unfold Dj at h;split at h;rename_i g q;injection h with V h2;subst V;subst h2;exact⟨q,Q⟩
 all_goals (try dsimp only at h)
 all_goals (repeat' (first|(cases h;done)|split at h))
def Me{q:Op}{f:aT}{args:List aT}(h:dR T q=.call f args):∃c,q=.call c/\c.callee=.value f/\c.args.toList=args:=by
 cases q with
 |call c=>exact⟨c,Q,Se h⟩
 |build t u=>
  simp only[dR] at h;split at h
  .split at h
   .rename_i y _;generalize (y.toList.all λf=>(T f.type).isSome)=bb at h;cases bb<;>simp only[jv,A8] at h<;>repeat' (first|(cases h;done)|split at h)
   .repeat' (first|(cases h;done)|split at h)
   cases h
  cases h
 |buildSlice t n u=>
  simp only[dR] at h
  repeat' (first|(cases h;done)|split at h)
  rename_i e _;cases q:(n*e.size).ble 1000000&&e.zero.length.beq e.size<;>simp only[q,jv,A8] at h<;>cases h
 |slice t x u C A=>
  simp only[dR] at h
  repeat' (first|(cases h;done)|split at h)
  cases q:A.isSome&&C.isNone<;>simp only[q,jv,A8] at h<;>cases h
 |fieldAddr t x k=>
  simp only[dR] at h
  repeat' (first|(cases h;done)|split at h)
  rename_i G _;cases q:G.size.beq 0<;>simp only[q,jv,A8] at h<;>cases h
 |makeFunc fn first X=>
  cases fn with
  |func g=>
   simp only[dR] at h;cases q:first.isEmpty<;>simp only[q,jv,A8] at h<;>cases h
  |_=>simp only[dR] at h;cases h
 |makeMap t r=>cases r<;>(simp only[dR] at h;cases h)
 |next I st=>cases st<;>(simp only[dR] at h;cases h)
 |_=>
  simp only[dR] at h
  repeat' (first|(cases h;done)|split at h)
def Qe{a:Op}{x:aa×az}(q:de e h (dR T a)=Z x):Op.yS a=cd:=by
 cases a with
 |defer c=>simp[dR,de] at q
 |_=>rfl
section
variable{P:bG}{T:uK}{ng:Nat}{H:wq}{F:Nat->Option dm}{s:aD->Env->az->R}
def Qo{b:Nat}{q:Array aa}{a:cI}(h:w.heap[b]?=Z (.cells q a (0,0)))(o:Nat):w.frozen? ⟨b,o,K⟩=cd:=by simp[World.frozen?,h]
def alP(E:eC P T)(O:Zr P T f)(S:ff CC ρ h w)(g:bo (VR ρ) args W)(p:∃a X C F b D G u q L B d c N,args=[dB (Z ⟨a,X,K⟩) C F,dB (Z ⟨b,D,K⟩) G u]/\h.tr.get a=Z (.bZ q cd L B)/\h.tr.get b=Z (.bZ d cd c N)/\(C=0\/G=0\/a≠b)):(callFunc f ⟨W⟩).run P w=.ok (.value (dC cd)) w:=by
 have⟨fn,t,j,i,e,V,n,h3,h4,h5,k,r,H,h9⟩:=O;obtain⟨a,X,C,F,b,D,G,u,q,L,B,d,c,N,rfl,B,L,c⟩:=p
 match W,g with
 |[x,y],.cons d (.cons F .nil)=>
 obtain⟨u,g,l,I,rfl,D⟩:=d.h_;obtain⟨A,d,q,v,rfl,O⟩:=F.h_;have U:=(E t i r).u;rw[H] at U;obtain⟨N,r,N,H,z,X,H⟩:=(E j e h9).info;have⟨cca,ela,E,H,_,_,_,M,_⟩:=S.obj a u _ I B;have⟨ccb,elb,X,j,_,_,_,F,_⟩:=S.obj b A _ v L;have M:=M rfl;have F:=F rfl;subst M;subst F;have E:¬(fn.name= "runtime.NumGoroutine"):=aj h3
 have F:fn.body=K:=aj n
 have p:(ow fn.params fn.resultTypes #[dB (Z g) C l,dB (Z d) G q]).run P w=.ok (dC cd) w:=by
  change nE P (α:=aa) (do
   let Z t:=fn.params[0]? |stuck "slices.overlaps: no parameter types"
   let .slice elem<-underlying t|stuck "slices.overlaps: slice type expected"
   let size<-sizeOf elem
   match(Z g:Option Addr),(Z d:Option Addr) with
   |some a,Z b=>
    if C=0\/G=0\/size=0 then pure (br cd)
    else if a.block !=b.block&&(<-frozen a)&&(<-frozen b) then unsupported .addressObserved
    else do
     if a.block !=b.block then do
      noView a;noView b
      if<-mayBeOne a b then return br ((<-choose (.extern "sameAddr.stringBytes" 2))==1)
     pure (br (a.block==b.block&&a.off<b.off+G*size&&b.off<a.off+C*size))
   |_,_=>pure (br cd)) w=_
  by_cases m:C=0\/G=0\/e.size=0;simp[k,pJ U,sizeOf,fe,r,N,m]
  .have n:a≠b:=by rcases c with h|h|h;exact absurd (jZ h) m;exact absurd (kd (jZ h)) m;exact h
   have X:0<l:=by
    have:=D.2.2;have:=D.FP
    omega
   have g:0<q:=by
    have:=O.2.2;have:=O.FP
    omega
   have q:u.bZ≠A.bZ:=S.inj a b u A _ I v ⟨_,B,Q⟩ L n;have d:=D.addr X;have c:=O.addr g;subst d;subst c;have c:(u.bZ !=A.bZ)=ck:=aj q
   have e:(u.bZ==A.bZ)=cd:=aj q
   have O:w.shape? u.bZ=Z (ela,cca.size):=by simp[P4,H]
   have L:w.shape? A.bZ=Z (elb,ccb.size):=by simp[P4,j]
   have v:∀o,w.frozen? ⟨u.bZ,o,K⟩=cd:=Qo H;have d:∀o,w.frozen? ⟨A.bZ,o,K⟩=cd:=Qo j;simp[k,pJ U,sizeOf,fe,r,N,m,c,e,frozen,noView,viewAt,mayBeOne,stringish,shape,nE,O,L,v,d]
 simp[callFunc,V,E,F,Go.mark,h4,h5,p,nE]
def JO(N:Kq P T ng H F)(D:eC P T)(hI:zM P T ng H s){C j:aa}(y:fF F s C args h=Z (v,h'))(S:ff (jc T ng H) ρ h w)(hG:eB ng ρ)(q:VR ρ C j)(ha:bo (VR ρ) args W){cH:List Nat}(U:ops[i]?=Z o)(z:b0 o (yielded ops a.tmps)=ck){e:Call}{f:aT}(d:o.op=.call e)(O:e.callee=.value f)(G:a.eval f=j)(j:e.args.toList.map a.eval=W)(b:ea)(k:List ym)(cs:List ea):∃ρ' w' c,Steps P (lone (on b a (.inRegion ops (i::cH)::k)) cs w) (lone (on b (a.put o.dst c) (.inRegion ops cH::k)) cs w')/\VR ρ' v c/\ff (jc T ng H) ρ' h' w'/\Ext ρ h w ρ' h' w':=by
 obtain⟨u,u,A⟩:=e;dsimp only at O j;subst O;have p:Op.yS o.op=cd:=by rw[d];rfl
 have O:∀c,(on b a (.inRegion ops (i::cH)::k)).finish c=on b (a.put o.dst c) (.inRegion ops cH::k):=by intro c;rw[Du,U];rfl
 have l:u.map a.eval=⟨W⟩:=by apply b9;simp[<-j]
 unfold fF at y;split at y
 .rename_i g first X
  cases q with
  |val q=>cases q with
   |cell q=>cases q with
    |cell q=>cases q
    | @fn _ l' m e=>
     have rB:bo (VR ρ) ([]++args++l') (W++m):=ha.app (e.mono λ_ _ h=>h.vr);rcases Mc y with y|⟨n,e,t,y⟩
     rotate_left 1
     .
      have I:=N g n e;rw[t] at I;obtain⟨rfl,rfl,n⟩:=Q3 y;have e:=alP (P:=P) D I S rB n;have M:(execOp a.eval o).run P w=.ok (.value (dC cd)) w:=by
       simp only[execOp,d,resolve,rv,invoke,G,qO,zF,si,l];have:(#[]:Array aa)++(⟨W⟩:Array aa)++(⟨m⟩:Array aa)=⟨W++m⟩:=by apply b9;simp
       rw[this];exact e
      exact⟨ρ,w,dC cd,.one (Ue U z p M),VR.bool _,S,.refl ρ _ w⟩
     obtain⟨fn,ρ',w',c,e,V,n,e,t,E,B,h7,h8,h9⟩:=Cw N D hI y S hG rB (on b a (.inRegion ops (i::cH)::k)::cs);have M:(execOp a.eval o).run P w=.ok (.enter g ⟨W++m⟩) w:=by have:=Vd (P:=P) (w:=w) (args:=u) (ats:=A) (ty:=o.type) G V n e;rw[l] at this;simp only[execOp,d];rw[this];congr 2;apply b9;simp
     refine⟨ρ',w',c,.head (al6 U z p M) (t.trans (.one ?_)),h7,h8,h9⟩;rw[step_leave_returned B,O]
 .rename_i l' _ _;cases q with
  |val q=>cases q with
   |cell q=>cases q with
    |cell q=>cases q
    | @yield _ r c=>
     have⟨L,ρ',w',q,V,n,e,t,E,B⟩:=TY (P:=P) hI y S hG ha c (on b a (.inRegion ops (i::cH)::k)) cs;have k:u.size=L.params.size:=by rw[<-n,<-j];simp
     have M:(execOp a.eval o).run P w=.ok (.round r.bZ L.fn ((L.params.toList.zip W).foldl (λ(tmps:Array aa) (x:Nat×aa)=>tmps.setIfInBounds x.1 x.2) L.tmps) L.assign L.body) w:=by have:=afv (P:=P) (w:=w) (args:=u) (ats:=A) (ty:=o.type) G V k;rw[l] at this;simp only[execOp,d];rw[this];congr 2;rw[<-Array.foldl_toList];simp
     refine⟨ρ',w',q,.head (al8 U z p M) ?_,t,E,B⟩;rw[O] at e;exact e
 cases y
def WL(N:Kq P T ng H F)(p:eC P T)(X:zM P T ng H s)(A:ops[i]?=Z o)(q:dZ F s (cj T ng n ops.toList o) e h=Z (e',h'))(S:ff (jc T ng H) ρ h w)(O:eB ng ρ)(y:ER ρ e a.tmps)(m:n<=a.tmps.size)(g:ea)(k:List ym)(cs:List ea)(l:List Nat):∃ρ' w' M,Steps P (lone (on g a (.inRegion ops (i::l)::k)) cs w) (lone (on g M (.inRegion ops l::k)) cs w')/\ff (jc T ng H) ρ' h' w'/\ER ρ' e' M.tmps/\M.tmps.size=a.tmps.size/\M.defers=a.defers/\Ext ρ h w ρ' h' w':=by
 unfold cj at q;cases G:zx ng n ops.toList o;simp only[G,A8] at q;simp[dZ,wanted,de] at q
 .simp only[G,jv] at q;simp only[zx,oD] at G;have⟨⟨b,c⟩,I⟩:=G;have z:∀d,o.dst=Z d->d<a.tmps.size:=by intro d W;rw[W] at b;exact OD (AQ.1 b) m
  have m:b0 o (yielded ops a.tmps)=wanted e (guardOf ops.toList o):=by unfold guardOf;refine Ow y ?_;rcases b:o.guard with _|x;exact jZ ⟨Q,Q⟩;have⟨j,u⟩:=x;rw[b] at c;have⟨t,b⟩:=iH.1 c;exact kd ⟨j,u,t,Q,b,by dsimp only;rw[b];rfl⟩
  have b:∀ {ρ':fZ} {w':bQ} {v c:aa} {u:az},VR ρ' v c->Ext ρ h w ρ' u w'->ER ρ' (ik e o.dst v) (a.put o.dst c).tmps:=by intro ρ' w' v c u U E;exact ER.put (y.mono E.le) z U
  unfold dZ at q;dsimp only at q;rw[<-m] at q;cases u:b0 o (yielded ops a.tmps);simp only[u,A8,oy,BM] at q;obtain⟨rfl,rfl⟩:=q;refine⟨ρ,w,a.put o.dst undef,.one ?_,S,b VR.undef (.refl ρ h w),Au _ _ _,put_defers _ _ _,.refl ρ h w⟩;have:=Rl (P:=P) (b:=g) (a:=a) (k:=k) (cs:=cs) (w:=w) (ops:=ops) (i:=i) (cH:=l) (by simp[A,u]);rw[A] at this;exact this
  .simp only[u,jv] at q;split at q
   .rename_i f args E;obtain⟨m,V,m,z⟩:=Me E;split at q
    .rename_i v nu D;cases q;have B:c_ ng f=ck/\args.all (c_ ng)=ck:=by rw[V] at I;simp only[Op.operands,lq,m] at I;rw[<-z];simpa using I
     have⟨ρ',w',c,E,q2,L,r⟩:=JO (P:=P) N p X D S O (y.eval O B.1) (Ih y O args B.2) A u V m rfl (by rw[z]) g k cs (cH:=l);exact⟨ρ',w',a.put o.dst c,E,L,b q2 r,Au _ _ _,put_defers _ _ _,r⟩
    cases q
   .split at q
    .rename_i v nu k;cases q;have⟨ρ',w',c,C,U,r,l⟩:=WJ (P:=P) (a:=a) p S y O o I k;have O:=Qe k;rcases C with C|⟨rfl,C⟩
     exact⟨ρ',w',a.put o.dst c,.one (Ue A u O C),r,b U l,Au _ _ _,put_defers _ _ _,l⟩;exact⟨ρ',w',a.put o.dst undef,.one (acy A u O C),r,b U l,Au _ _ _,put_defers _ _ _,l⟩
    cases q
def aay(O:Kq P T ng H F)(c:eC P T)(j:zM P T ng H s){n:Nat}{ops:Array cQ}(b:ea)(k:List ym)(cs:List ea):∀(m i:Nat),i+m=ops.size->∀(e e':Env)(h h':az),Ap F s ((ops.toList.drop i).map (cj T ng n ops.toList)) e h=Z (e',h')->∀(ρ:fZ)(w:bQ)(a:Act),ff (jc T ng H) ρ h w->eB ng ρ->ER ρ e a.tmps->n<=a.tmps.size->∃ρ' w' u,Steps P (lone (on b a (.inRegion ops ((C3 i m))::k)) cs w) (lone (on b u (.inRegion ops []::k)) cs w')/\ff (jc T ng H) ρ' h' w'/\ER ρ' e' u.tmps/\u.tmps.size=a.tmps.size/\u.defers=a.defers/\Ext ρ h w ρ' h' w':=by
 intro m;induction m with
 |zero=>
  intro i u e e' h h' q ρ w a S C A I;rw[Cy (by simp;omega)] at q;simp only[List.map_nil,Ap,oy,BM] at q;obtain⟨rfl,rfl⟩:=q;exact⟨ρ,w,a,Steps.refl P _,S,A,Q,Q,.refl ρ h w⟩
 |succ m y=>
  intro i u e e' h h' q ρ w a S C A I;have G:i<cz ops.toList:=by simp;omega
  rw[et G] at q;simp only[xg,Ap] at q;have l:ops[i]?=Z ops.toList[i]:=by rw[<-Array.getElem?_toList,jh G]
  split at q;rename_i r V p;have⟨f,M,t,o,v,x,d,g,u⟩:=WL (P:=P) O c j l p S C A I b k cs (C3 (i+1) m);have⟨O,p,a2,W,b,k,U,j,l⟩:=y (i+1) ab r e' V h' q f M t v (C.mono u.le) x ab;refine⟨O,p,a2,?_,b,k,U.trans d,j.trans g,u.trans l⟩;rw[List.range'_succ];exact o.trans W;cases q
end
def kW.mo:kW->List aT
 |.mv x=>[x]
 |.pick c a b=>[c,a,b]
 |.alloc _=>[]
 |.box x=>[x]
 |.build _ q=>q.map (·.2.2)
 |.uu _ _ q=>q.map (·.2.2)
 |.load _ a=>[a]
 |.store _ a v=>[a,v]
 |.Bg x=>[x]
 |.bin _ _ x y=>[x,y]
 |.un _ x=>[x]
 |.conv _ x=>[x]
 |.Tu _ X=>X
 |.QT=>[]
 |.tn _ _ l c=>[l,c]
 |.slice _ x A C u=>x::(A.toList++C.toList++u.toList)
 |.pb _ x=>[x]
 |.tP _ _ x i=>[x,i]
 |.index _ x i=>[x,i]
 |.look _ _ _ x i=>[x,i]
 |.aaj _ _ m k=>[m,k]
 |.ad6 m s v=>[m,s,v]
 |.ext _ x=>[x]
 |.call f args=>f::args
 |.IF x=>[x]
 |.RO x=>[x]
 |.Xw x=>[x]
 |.append _ _ _ s x=>[s,x]
 |.copy _ d s=>[d,s]
 |.clear _ x=>[x]
 |.bad=>[]
def kW.kind:kW->Nat
 |.mv _|.pick .. |.build .. |.Bg _|.bin .. |.un .. |.conv .. |.Tu .. |.pb .. |.tP .. |.index .. |.ext .. |.IF _|.Xw _=>0
 |.load .. |.slice .. =>1
 |.alloc _|.box _|.uu .. |.tn .. |.QT=>2
 |_=>3
def AY{e e':Env} :∀(a:List (Nat×Nat×aT))(cs:List aa),(∀x∈a.map (·.2.2),ev e x=ev e' x)->pI e cs a=pI e' cs a
 |[],_,_=>rfl
 |(a,n,x)::r,cs,h=>by have u:ev e x=ev e' x:=h x J;simp only[pI,u];split;split;exact AY r _ (λy q=>h y (by simp only[xg,bn];exact kd q));rfl;rfl
def Oo{l:List aT}(h:∀x∈l,ev e x=ev e' x):qY e l=qY e' l:=cc h
def Ck(x:Option aT)(d t:Nat)(h:∀y∈x.toList,ev e y=ev e' y):bound e x d t=bound e' x d t:=by rcases x with _|y;rfl;simp only[bound,h y J]
def aem(u:kW)(q:∀x∈u.mo,ev e x=ev e' x):de e h u=de e' h u:=by
 cases u with
 |build z A=>simp only[de,AY A z q]
 |uu n z A=>simp only[de,AY A z q]
 |Tu f X=>
  simp only[kW.mo] at q;simp only[de,Oo q]
 |slice s x G I C=>
  simp only[kW.mo,bn,kg,or_assoc] at q;have m:=q x (jZ Q);have V:∀d t,bound e G d t=bound e' G d t:=λd t=>Ck G d t λy u=>q y (kd (jZ u));have b:∀d t,bound e I d t=bound e' I d t:=λd t=>Ck I d t λy u=>q y (kd (kd (jZ u)));have c:∀d t,bound e C d t=bound e' C d t:=λd t=>Ck C d t λy u=>q y (kd (kd (kd u)));simp only[de,m,V,b,c]
 |pick c a b=>
  simp only[kW.mo,bn,lT,or_false,forall_eq_or_imp,forall_eq] at q;simp only[de,q.1,q.2.1,q.2.2]
 |ad6 c a b=>
  simp only[kW.mo,bn,lT,or_false,forall_eq_or_imp,forall_eq] at q;simp only[de,q.1,q.2.1,q.2.2]
 |alloc|QT|call|bad=>rfl
 |store _ x y|bin _ _ x y|tn _ _ x y|tP _ _ x y|index _ x y|look _ _ _ x y|aaj _ _ x y|append _ _ _ x y|copy _ x y=>
  simp only[kW.mo,bn,lT,or_false,forall_eq_or_imp,forall_eq] at q;simp only[de,q.1,q.2]
 |mv x|box x|load _ x|Bg x|un _ x|conv _ x|pb _ x|ext _ x|IF x|RO x|Xw x|clear _ x=>
  simp only[kW.mo,bn,lT,or_false,forall_eq] at q;simp only[de,q]
def leads:aa->Option Nat
 |eU (Z ⟨b,_,_⟩)=>Z b
 |dB (Z ⟨b,_,_⟩) _ _=>Z b
 |.map (Z b)=>Z b
 |_=>K
def kW.through:kW->Option aT
 |.load _ a=>Z a
 |.slice _ x _ _ _=>Z x
 |_=>K
def NA{a:kW}(y:a.kind=0)(q:de e h a=Z (v,h')):h'=h/\∀u,de e u a=Z (v,u):=by
 cases a with
 |Tu f X=>
  simp only[de] at q⊢;cases A:(qY e X).all simple<;>simp only[A,jv,A8] at q⊢ <;>cases q;exact⟨Q,λu=>rfl⟩
 |_=>
  simp only[kW.kind] at y
  first
   |(exact absurd y ag)
   |(simp only[de] at q⊢
     repeat' split at q
     all_goals first
      |(cases q;refine⟨rfl,λu=>?_⟩;first|rfl|(simp_all;done))
      |(cases q;done))
def Gk{u:kW}(O:u.kind=1)(q:de e h u=Z (v,h')):h'=h/\∃x,u.through=Z x/\(∀A,(∀b,leads (ev e x)=Z b->A.tr.get b=h.tr.get b)->de e A u=Z (v,A))/\(∀b,leads (ev e x)=Z b->∃cs d o s,h.tr.get b=Z (.bZ cs d o s)):=by
 cases u<;>simp only[kW.kind] at O<;>first|(exact absurd O ag)|skip
 case load n a=>
  simp only[de] at q;split at q
  .rename_i b c u;split at q
   .rename_i cs G;split at q
    .rename_i O I;cases q;refine⟨Q,a,Q,?_,?_⟩
     .intro A y;have:=y b (by rw[u];rfl);have O:cy A b c (width n)=Z cs:=by unfold cy at G⊢;rw[this];exact G
      simp only[de,u,O,I]
     intro O M;rw[u] at M;cases M;unfold cy at G;split at G;exact⟨_,_,_,_,by assumption⟩;cases G
    cases q
   cases q
  cases q
 case slice sz x lo hi mx=>
  simp only[de] at q;split at q
  .rename_i a f f u;split at q;cases q
   .rename_i m W;split at q;cases q
    .rename_i f C;split at q;cases q
     .rename_i l U;split at q;cases q;refine⟨Q,x,Q,λA _=>?_,λb y=>?_⟩;simp only[de,u,W,C,U];rw[u] at y;cases y
      .rename_i b c;split at q;rename_i cs d o s I;cases c:(an o 0||an o sz);rw[c] at q;cases q;rw[c] at q;cases q;refine⟨Q,x,Q,λA y=>?_,λO y=>?_⟩;have:=y b (by rw[u];rfl);simp only[de,u,W,C,U,this,I,c,jv];rw[u] at y;cases y;exact⟨_,_,_,_,I⟩
       cases q
      cases q
  cases q
def fm.refl(h:az):fm h h:=⟨fq _,fq _,λ_ _ _ _ _ _ h _=>h,id,λ_ _ h=>h⟩
def fm.trans{h V A:az}(x:fm h V)(y:fm V A):fm h A:=
 ⟨qN x.aw y.aw,qN x.clock y.clock,λb cs C o s q u G=>x.cg b cs C o s q (y.cg b cs C o s (OD q x.aw) u (OD G x.clock)) G,y.wf∘x.wf,λb q u=>x.mp b q (y.mp b (OD q x.aw) u)⟩
def fm.new(h:az)(o:qe):fm h (h.new o):=by
 refine⟨by simp[az.new],fq _,λb cs A u s u q _=>?_,λy b x u=>?_,λb u q=>?_⟩;simp only[az.new,Tr.bN] at q;rwa [bM ab] at q;simp only[az.new,Tr.bN] at u⊢;by_cases e:b=h.aw;omega;rw[bM e] at u;have:=y b x u;omega
 simp only[az.new,Tr.bN] at q;rwa [bM ab] at q
def fm.del(h:az)(l:Nat):fm h {h with tr:=h.tr.del l} :=by refine⟨fq _,fq _,λb cs A u s u q _=>?_,λy b x u=>?_,λb u q=>?_⟩;simp only[Tr.mT] at q;by_cases e:b=l;rw[bK e] at q;cases q;rwa [bM e] at q;simp only[Tr.mT] at u;by_cases e:b=l;rw[bK e] at u;cases u;rw[bM e] at u;exact y b x u;simp only[Tr.mT] at q;by_cases e:b=l;rw[bK e] at q;cases q;rwa [bM e] at q
def fm.other{o:qe}(l:Nat)(c:Nat)(M:h.clock<=c)(a:∃x,h.tr.get l=Z x)(I:∀cs C u s,o=.bZ cs C u s->h.clock<=s)(G:o≠ .map []):fm h {h with clock:=c,tr:=h.tr.set l o} :=by
 refine⟨fq _,M,λb cs C u s u q O=>?_,λA b x u=>?_,λb u q=>?_⟩
 .simp only[Tr.bN] at q;by_cases e:b=l;rw[bK e] at q;cases q;have:=I _ _ _ _ rfl;omega
  rwa [bM e] at q
 simp only[Tr.bN] at u;by_cases e:b=l;have⟨y,c⟩:=a;rw[e];exact A l y c;rw[bM e] at u;exact A b x u;simp only[Tr.bN] at q;by_cases e:b=l;rw[bK e] at q;cases q;exact absurd rfl G;rwa [bM e] at q
def fm.write{b u:Nat}(q:gK h b u vs=Z h'):fm h h':=by unfold gK at q;split at q;rename_i u;split at q;cases q;exact fm.other b (h.clock+1) (dd _) ⟨_,u⟩ (λcs y u s e=>by cases e;exact fq _) (λe=>by cases e);cases q;cases q
inductive Mk where
 |ptr
 |sl (l c:Nat)
 |mp
def O0:Mk->Nat->aa
 |.ptr,N=>eU (Z ⟨N,0,K⟩)
 |.sl l c,N=>dB (Z ⟨N,0,K⟩) l c
 |.mp,N=>.map (Z N)
def ON:Mk->List aa->qe
 |.mp,_=>.map []
 |_,a=>.bZ a cd 0 0
def DE{a:kW}(A:a.kind=2)(q:de e h a=Z (v,h')):∃s b,v=O0 s h.aw/\h'=h.new (ON s b)/\∀u,de e u a=Z (O0 s u.aw,u.new (ON s b)):=by
 cases a with
 |alloc z=>
  simp only[de,oy,BM] at q;exact⟨.ptr,z,q.1.symm,q.2.symm,λu=>rfl⟩
 |QT=>
  simp only[de,oy,BM] at q;exact⟨.mp,[],q.1.symm,q.2.symm,λu=>rfl⟩
 |box x=>
  simp only[de] at q;split at q;rename_i vs y;cases q;exact⟨.ptr,vs,Q,Q,λu=>by simp only[de,y];rfl⟩;cases q
 |uu n z I=>
  simp only[de] at q;split at q;rename_i cs y;cases q;exact⟨.sl n n,cs,Q,Q,λu=>by simp only[de,y];rfl⟩;cases q
 |tn z n l c=>
  simp only[de] at q;split at q;rename_i a C V u;split at q;rename_i G;cases q;exact⟨.sl a C,ky z C,Q,Q,λa=>by simp only[de,V,u,G,if_true];rfl⟩;cases q;cases q
 |_=>simp only[kW.kind] at A;cases A
def RJ{u:Nat}{s:aa}{cs:List aa}(q:eI h z u s n cs=Z (v,h')):fm h h':=by
 unfold eI at q;dsimp only at q
 repeat' split at q
 all_goals first
  |(cases q;done)
  |(cases q;exact fm.refl _)
  |(cases q;exact fm.new _ _)
  |(rename_i u;cases q;exact fm.write u)
  |(cases q;exact(fm.del _ _).trans (fm.new _ _))
  |skip
def agx{n:List Nat}{z k v:aa}(h:CA n z k M=Z (v,i,y)):y≠[]:=by
 rcases M with _|⟨x,r⟩;simp only[CA] at h;split at h<;>cases h;exact List.cons_ne_nil _ _
 .have⟨u,q⟩:=x;simp only[CA] at h
  repeat' split at h
  all_goals (cases h;try exact List.cons_ne_nil _ _)
def aen{b:kW}(q:de e h b=Z (v,h')):fm h h':=by
 by_cases m:b.kind=0;rw[(NA m q).1];exact .refl h;by_cases V:b.kind=1;rw[(Gk V q).1];exact .refl h;by_cases A:b.kind=2;obtain⟨_,cs,_,rfl,_⟩:=DE A q;exact .new h _;cases b with
 |store n a x=>
  simp only[de] at q
  repeat' split at q
  all_goals first
   |(cases q;done)
   |(rename_i u;cases q;exact fm.write u)
 |look n z b x i=>
  simp only[de] at q;cases y:tS n (ev e i) with
  |false=>rw[y] at q;cases q
  |true=>
  simp only[y,jv] at q
  repeat' split at q
  all_goals first
   |(cases q;done)
   |(cases q;exact .refl h)
 |aaj n z b k=>
  simp only[de] at q;cases y:tS n (ev e k) with
  |false=>rw[y] at q;cases q
  |true=>
  simp only[y,jv] at q
  repeat' split at q
  all_goals first
   |(cases q;done)
   |(rename_i G _ _ _ _ _;cases q;exact fm.other _ _ (dd _) ⟨_,G⟩ (λ_ _ _ _ e=>by cases e) (λe=>by cases e;exact agx (by assumption) Q))
 |ad6 b s x=>
  simp only[de] at q
  repeat' split at q
  all_goals first
   |(cases q;done)
   |(rename_i G _ _ I _;cases q;exact fm.other _ _ (dd _) ⟨_,G⟩ (λ_ _ _ _ e=>by cases e) (λe=>by injection e with e;have V:=(cY.mp I).1;have A:=congrArg bW e;rw[List.length_set,List.length_nil] at A;omega))
 |append z C b s x=>
  simp only[de] at q;split at q;exact RJ q;cases q
 |copy sz d s=>
  simp only[de] at q
  repeat' split at q
  all_goals first
   |(cases q;done)
   |(cases q;exact .refl h)
   |(rename_i u;cases q;exact fm.write u)
 |clear z x=>
  simp only[de] at q
  repeat' split at q
  all_goals first
   |(cases q;done)
   |(cases q;exact .refl h)
   |(rename_i u;cases q;exact fm.write u)
 |RO x=>
  simp only[de] at q
  repeat' split at q
  all_goals first
   |(cases q;done)
   |(cases q;exact .refl h)
 |call f args=>simp[de] at q
 |bad=>simp[de] at q
 |_=>first|exact absurd rfl m|exact absurd rfl V|exact absurd rfl A
section
variable{F:Nat->Option dm}{s:aD->Env->az->R}
def jd(s:aD->Env->az->R):Prop:=∀c e h x e' h',s c e h=Z (x,e',h')->fm h h'
def JM(A:jd s)(q:vk F s f args h=Z (v,h')):fm h h':=by
 unfold vk pV at q;split at q;cases q
 .split at q;cases q;rename_i u _;exact u _ _ _ _ q;split at q
  all_goals first
   |(cases q;done)
   |(rename_i y
     split at q;rename_i vs _;cases C:gV vs<;>simp only[C,jv,A8] at q<;>cases q;exact A _ _ _ _ _ _ y;cases q)
def EY{l:Nat}{x:qe}(u:h.tr.get l=Z x)(q:Env)(a:List Nat)(b body:aD)(st:Ys):fm h (gJ h l q a b body st):=
 fm.other l h.clock (fq _) ⟨x,u⟩ (λ_ _ _ _ e=>by cases e) (λe=>by cases e)
def TW{l:Nat}{b:Bool}(q:ox l h st b=Z (v,h')):fm h h':=by unfold ox at q;split at q;rename_i u;cases q;exact EY u ..;cases q
def TX(u:jd s){l:Nat}(q:uI s l args h=Z (v,h')):fm h h':=by
 unfold uI at q;split at q
 .split at q;cases q
  .split at q
   .rename_i A;refine(u _ _ _ _ _ _ A).trans ?_;unfold zD at q;split at q
    .rename_i C;split at q
     all_goals first
      |(cases q;done)
      |(rename_i y;exact(EY C _ _ _ _ _).trans ((u _ _ _ _ _ _ y).trans (TW q)))
    cases q
   cases q
 cases q
def Vc(u:jd s)(q:fF F s C args h=Z (v,h')):fm h h':=by unfold fF at q;split at q;rcases Mc q with q|⟨_,_,_,q⟩;exact JM u q;rw[(Q3 q).2.1];exact .refl h;exact TX u q;cases q
def CU(y:jd s){o:cr}(q:dZ F s o e h=Z (e',h')):fm h h':=by unfold dZ at q;cases A:wanted e o.guard<;>simp only[A,jv,A8] at q;cases q;exact .refl h;split at q;split at q;rename_i u;cases q;exact Vc y u;cases q;split at q;rename_i u;cases q;exact aen u;cases q
def NI(u:jd s):∀(l:List cr){e e':Env}{h h':az},Ap F s l e h=Z (e',h')->fm h h'
 |[],_,_,_,_,q=>by simp only[Ap] at q;cases q;exact .refl _
 |o::r,_,_,_,_,q=>by simp only[Ap] at q;split at q;rename_i y;exact(CU u y).trans (NI u r q);cases q
def JQ(u:jd s)(c:Nat):∀(l:List (cr×List Nat)){e e':Env}{h h':az},nq F s c l e h=Z (e',h')->fm h h'
 |[],_,_,_,_,q=>by simp only[nq] at q;cases q;exact .refl _
 |(o,a)::r,_,_,_,_,q=>by simp only[nq] at q;split at q;rename_i A V y;cases C:still A V c a<;>simp only[C,jv,A8] at q;cases q;exact(CU u y).trans (JQ u c r q);cases q
def XA(y:jd s):jd (dp F s):=by
 intro c e h x e' h' u;cases c with
 |skip|exit|ret=>simp only[dp] at u;cases u;exact .refl h
 |ops l=>
  simp only[dp] at u;split at u;rename_i A;cases u;exact NI y l A;cases u
 |draw l=>
  simp only[dp] at u;split at u;rename_i A;cases u;have V:fm h {h with clock:=h.clock+1} :=⟨fq _,dd _,λ_ _ _ _ _ _ q _=>q,id,λ_ _ q=>q⟩;exact V.trans (JQ y _ l A)
  cases u
 |seq a b=>
  simp only[dp] at u;split at u;rename_i A;exact(y _ _ _ _ _ _ A).trans (y _ _ _ _ _ _ u);exact y _ _ _ _ _ _ u
 |cond q a b=>
  simp only[dp] at u;split at u;exact y _ _ _ _ _ _ u;exact y _ _ _ _ _ _ u;cases u
 |block id a=>
  simp only[dp] at u;split at u;rename_i i _ _ A;cases q:an i id<;>simp only[q,jv,A8] at u<;>cases u<;>exact y _ _ _ _ _ _ A;exact y _ _ _ _ _ _ u
 |loop a=>
  simp only[dp] at u;split at u;rename_i A;exact(y _ _ _ _ _ _ A).trans (y _ _ _ _ _ _ u);exact y _ _ _ _ _ _ u
 |Xe f I C body=>
  simp only[dp] at u;split at u
  .split at u
   .rename_i G;have V:=(fm.new h (.loop e I C body .ready)).trans (JM y G);split at u
    all_goals first
     |(cases u;done)
     |(cases u;exact V.trans (fm.del _ _))
   cases u
  cases u
 |bad=>simp[dp] at u
def aeZ:∀q,jd (run F q):=by
 intro q;induction q with
 |zero=>intro c e h x e' h' y;cases y
 |succ m u=>exact XA u
end
def Ry(P:bG)(T:uK)(ng:Nat)(b:wq)(F:Nat->Option dm):Prop:=
 ∀(s:aD->Env->az->R),jd s->zM P T ng b s->∀(n:Nat)(ops:Array cQ)(e:Env)(h:az)(e':Env)(h':az),nq F s h.clock (b n ops.toList) e {h with clock:=h.clock+1} =Z (e',h')->∀(q:Bool)(t:Nat)(ρ:fZ)(w:bQ)(a:Act)(c:ea)(k:List ym)(cs:List ea),ff (jc T ng b) ρ h w->eB ng ρ->ER ρ e a.tmps->n<=a.tmps.size->∃ρ' w' u,Steps P (lone (on c a (.inRegion ops (sY q ops t)::k)) cs w) (lone (on c u (.inRegion ops []::k)) cs w')/\ff (jc T ng b) ρ' h' w'/\ER ρ' e' u.tmps/\u.tmps.size=a.tmps.size/\u.defers=a.defers/\Ext ρ h w ρ' h' w'
def Gt{m u t:Rr}(h:Steps P m t)(y:step P m=.next u)(A:t≠m):Steps P u t:=by
 have⟨n,q⟩:=h;cases n with
 |zero=>simp only[runN] at q;cases q;exact absurd rfl A
 |succ n=>simp only[runN,y] at q;exact⟨n,q⟩
def ad0{b q:ea}{cs y:List ea}(h:lone b cs w=lone q y w'):b.todo=q.todo:=by have u:=congrArg (λm:Rr=>(m.gs[0]?).map (λg=>g.frame.todo)) h;simpa [lone] using u
section
variable{P:bG}{T:uK}{ng:Nat}{E:wq}{F:Nat->Option dm}{s:aD->Env->az->R}
def ff.hidden(S:ff CC ρ h w)(o:Obj):ff CC ρ h (w.alloc o)/\Ext ρ h w ρ h (w.alloc o):=by
 have G:(w.alloc o).heap.size=w.heap.size+1:=tb _;have u:∀k,k<w.heap.size->(w.alloc o).heap[k]?=w.heap[k]? :=by intro k A;show(w.heap.push o)[k]?=_;rw[ki,bM ab]
 refine⟨⟨λb r q=>⟨(S.low b r q).1,av ((S.low b r q).2)⟩,λb r x q y=>jR.mono ρ.le_refl (u _ (S.low b r q).2) (S.obj b r x q y),S.inj,S.wf⟩,⟨ρ.le_refl,fq _,ab,Q,Q,Q,λk A _=>u k A,λb r q C=>kd ⟨b,r,q,C,Q⟩,λb r h h'=>(by rw[h] at h';cases h'),λb r x q y=>kd ⟨b,r,x,q,y,Q⟩⟩⟩
def LI(w:bQ)(o:Obj):(w.alloc o).heap.size=w.heap.size+1:=tb _
def Ev.same(S:ff CC ρ h w)(u:ER ρ e a.tmps)(q:GL B ρ h w a.defers):Ev CC B ρ h w a ρ e h w a:=
 ⟨S,u,Q,.refl ρ h w,q⟩
def Ev.trans{CC:dH}{B:Nat}{ρ C I:fZ}{b U:Env}{h V A:az}{w q G:bQ}{a u a2:Act}(x:Ev CC B ρ h w a C b V q u)(y:Ev CC B C V q u I U A G a2):Ev CC B ρ h w a I U A G a2:=⟨y.Yk,y.er,y.size.trans x.size,x.ext.trans y.ext,y.defs⟩
def VR.fnv{c:aa}(h:VR ρ (.func (.func g) first X) c):∃l m,first= #[]/\X=⟨l⟩/\c=.func (.func g) #[] ⟨m⟩/\bo (CR ρ) l m:=by
 cases h with
 |val h=>cases h with
  |cell h=>cases h with
   |cell h=>cases h
   |fn g h=>exact⟨_,_,Q,Q,Q,h⟩
def ff.off(S:ff CC ρ h w){b:Nat}{r:Fc}{o:qe}(U:ρ b=Z r)(O:h.tr.get b=Z o)(q:o.rw=ck)(C:Bq r.bZ w w'):ff CC ρ {h with tr:=h.tr.del b} w'/\Ext ρ h w ρ {h with tr:=h.tr.del b} w':=by
 have W:gh h b:=⟨o,O,q⟩;have G:∀x p,({h with tr:=h.tr.del b} :az).tr.get x=Z p->x≠b/\h.tr.get x=Z p:=by intro x p q;simp only[Tr.mT] at q;by_cases e:x=b;rw[bK e] at q;cases q;rw[bM e] at q;exact⟨e,q⟩
 have O:∀x,gh {h with tr:=h.tr.del b} x->gh h x:=λx ⟨p,u,a⟩=>⟨p,(G x p u).2,a⟩;refine⟨⟨λx A q=>⟨(S.low x A q).1,by rw[C.size];exact(S.low x A q).2⟩,?_,?_,λx p u=>S.wf x p (G x p u).2⟩,⟨ρ.le_refl,fq _,Nat.le_of_eq C.size.symm,C.os,C.tape,C.output,?_,?_,?_,?_⟩⟩;intro x A p q u;have⟨a,u⟩:=G x p u;exact jR.mono ρ.le_refl (C.other _ (S.inj b x r A p U q W u (cE a)).symm) (S.obj x A p q u);intro x y A k p q c I u a;exact S.inj x y A k p q c (O x I) (G y p u).2 a;intro k _ a;exact C.other k (λe=>a b r U W e.symm);intro x A q I;exact kd ⟨x,A,q,O x I,Q⟩;intro x A V M;rw[V] at M;cases M;intro x A p q u;exact kd ⟨x,A,p,q,(G x p u).2,Q⟩
def abI(u:w.heap[r]?=Z (.deferred (Z [])))(q:UN ρ h r)(E:Ext ρ h w ρ' h' w'):w'.heap[r]?=Z (.deferred (Z []))/\UN ρ' h' r:=by have y:=Fh u;refine⟨?_,q.ext E y⟩;rw[E.Ag r y,u];rintro x C G⟨o,A,_⟩;exact q x C o G A
def aeN(hF:Kq P T ng E F)(hT:eC P T)(hI:zM P T ng E s){f:aT}{c:Array Tmp}{d body:Code}(q:c_ ng f=ck)(iV:c.toList.all (c6 · n)=ck)(p:lf d=ck)(ZG:lf body=ck){x:bH}(I:dp F s (.Xe f c.toList (dJ T ng n E d) (dJ T ng n E body)) e h=Z (x,e',h'))(b:ea)(k:List ym)(cs:List ea)(S:ff (jc T ng E) ρ h w)(l:eB ng ρ)(D:ER ρ e a.tmps)(O:n<=a.tmps.size)(hB:B<=w.heap.size)(hD:GL B ρ h w a.defers)(i:b.roundOf=K):∃ρ' w' u,OR P b k cs (lone (on b a (.code (.rangeFunc f c d body)::k)) cs w) x u w'/\Ev (jc T ng E) B ρ h w a ρ' e' h' w' u:=by
 simp only[dp] at I;split at I
 .rename_i g first X z
  have u:=D.eval l q;rw[z] at u;obtain⟨q,m,rfl,rfl,hcf,z⟩:=u.fnv;split at I
  .rename_i v V N;have⟨S1,E1⟩:=S.hidden (.deferred (Z []))
   let L:Loop:= { state:=.ready,pending:=K,fn:=b.fn,tmps:=a.tmps,params:=c,assign:=d,body:=body,defers:=w.heap.size }
   let u:Fc:= { bZ:=w.heap.size+1,base:=0,len:=0,NH:=0,room:=0 }
   have H:jR (jc T ng E) (lv ρ h.aw u) u (.loop e c.toList (dJ T ng n E d) (dJ T ng n E body) .ready) ((w.alloc (.deferred (Z []))).alloc (.loop L)):=by refine⟨L,?_,D.mono (yZ S.fresh),Q,⟨n,O,Q,p⟩,⟨n,O,Q,ZG⟩,?_,Q,Q⟩;show((w.alloc (.deferred (Z []))).heap.push (.loop L))[w.heap.size+1]?=_;rw[<-LI w (.deferred (Z [])),ki,bK rfl];intro t p;have:=ga.1 iV t p;exact OD (AQ.1 this) O
   have⟨S2,p⟩:=S1.add (im:=u) (LI w _).symm H;have O:=E1.trans p;have hG2:=l.mono O.le;have p:lv ρ h.aw u h.aw=Z u:=by simp[lv]
   have rB:bo (VR (lv ρ h.aw u)) ([]++[.func (.yield h.aw) #[] #[]]++q) ([.func (.yield (w.heap.size+1)) #[] #[]]++m):=by refine bo.cons (.val (.cell (.yield p))) ?_;exact z.mono λ_ _ z=>(z.mono O.le).vr
   have aoR:vk F s g ([]++[.func (.yield h.aw) #[] #[]]++q) (h.new (.loop e c.toList (dJ T ng n E d) (dJ T ng n E body) .ready))=Z (v,V):=N
   let a2:Act:= {a with defers:=mark w.heap.size::a.defers}
   let bb:ea:=on b a2 (.inRangeFunc (w.heap.size+1)::k)
   obtain⟨fn,l,q,N,N,q1,q2,N,q4,z,q6,z,H,z⟩:=Cw hF hT hI aoR S2 hG2 rB (bb::cs);have fB:=Vd (P:=P) (ρ:=a.eval) (w:=(w.alloc (.deferred (Z []))).alloc (.loop L)) (args:= #[.const (.func (.yield (w.heap.size+1)) #[] #[])]) (ats:= #[]) (ty:=0) hcf q1 q2 N;have N:=awA (P:=P) (b:=b) (a:=a) (k:=k) (cs:=cs) (w:=w) (f:=f) (ps:=c) (asg:=d) (body:=body) i fB;have aoO:(#[]++(#[Operand.const (.func (.yield (w.heap.size+1)) #[] #[])]:Array aT).map a.eval++⟨m⟩:Array aa)=⟨[.func (.yield (w.heap.size+1)) #[] #[]]++m⟩:=by apply b9;simp[Act.eval]
   rw[aoO] at N;have avn:Steps P (lone (on b a (.code (.rangeFunc f c d body)::k)) cs w) (lone (on b a2 (.endRangeFunc (w.heap.size+1)::k)) cs q):=by refine .head N (q4.trans (.one ?_));rw[step_leave_returned q6];rfl
   have N:=O.trans z;have hl3:l h.aw=Z u:=z.le _ _ p;have hDn:GL B l V q a2.defers:=by
    have⟨O,h4,h5,q⟩:=hD;have p:∀r∈O,r<w.heap.size:=λr i=>Fh (q r i).2.1;refine⟨w.heap.size::O,by simp[a2,h4],oa.2 ⟨λO=>av (p _ O),h5⟩,?_⟩;intro r i;rcases bn.1 i with rfl|i
    .have ao0:UN (lv ρ h.aw u) (h.new (.loop e c.toList (dJ T ng n E d) (dJ T ng n E body) .ready)) w.heap.size:=by intro y ry o p _ he;unfold lv at p;by_cases O:y=h.aw;rw[bK O] at p;cases p;simp[u] at he;rw[bM O] at p;have:=(S.low y ry p).2;omega
     refine⟨hB,abI ?_ ao0 z⟩;show((w.heap.push (.deferred (Z []))).push (.loop L))[w.heap.size]?=_;rw[ki,bM J,ki,bK rfl]
    exact⟨(q r i).1,abI (q r i).2.1 (q r i).2.2 N⟩
   have U:∀(C:Env)(A:List Nat)(G i:aD)(st:Ys),V.tr.get h.aw=Z (.loop C A G i st)->st≠ .busy->∃w',(∃L3:Loop,Rz st L3/\Steps P (lone (on b a (.code (.rangeFunc f c d body)::k)) cs w) (lone (on b a2 ((L3.pending.map aaH).toList++k)) cs w'))/\Ev (jc T ng E) B ρ h w a l e {V with tr:=V.tr.del h.aw} w' a2:=by
    intro C A G i st M d;obtain⟨L3,q,c,c,c,c,c,W⟩:=H.obj h.aw u _ hl3 M;have c:(L3.state==.busy)=cd:=by
     cases st with
     |ready=>rw[W.1];rfl
     |busy=>exact absurd rfl d
     |done j=>cases j<;>(rw[W.1];rfl)
    have d:=aiU (P:=P) (b:=b) (a:=a2) (k:=k) (cs:=cs) q c;have⟨c,b⟩:=H.off hl3 M rfl (Bq.obj u.bZ (.loop {L3 with state:=.exhausted}));have u:=N.trans b;exact⟨_,⟨L3,W,avn.trans (.one d)⟩,⟨c,D.mono u.le,Q,u,hDn.ext b⟩⟩
   split at I;rename_i C A G i M;cases I;have⟨w',⟨L3,b,u⟩,d⟩:=U _ _ _ _ _ M J;refine⟨l,w',a2,?_,d⟩;rw[b.2] at u;exact u;rename_i C A G i M;cases I;have⟨w',⟨L3,b,u⟩,d⟩:=U _ _ _ _ _ M J;refine⟨l,w',a2,⟨k,?_⟩,d⟩;rw[b.2] at u;exact u;rename_i C A G i id M;cases I;have⟨w',⟨L3,b,u⟩,d⟩:=U _ _ _ _ _ M J;refine⟨l,w',a2,⟨k,?_,Q⟩,d⟩;rw[b.2] at u;exact u;cases I
  cases I
 cases I
end
section
variable{P:bG}{T:uK}{ng:Nat}{E:wq}{F:Nat->Option dm}{s:aD->Env->az->R}
def aiS{y:bH×Env×az}(q:dp F s .bad e h=Z y):False:=by simp[dp] at q
def Tv{b:ea}{a u:Act}{t q:List ym}(h:t≠q):lone (on b a t) cs w≠lone (on b u q) cs w':=by intro e;exact h (ad0 e)
def XB(hF:Kq P T ng E F)(hT:eC P T)(v:Ry P T ng E F)(z:jd s)(m:zM P T ng E s):zM P T ng E (dp F s):=by
 intro n j;induction j with
 |skip=>
  intro e h x e' h' u B ρ w a b k cs S G A c U C W;simp only[dJ,dp,oy,BM] at u;obtain⟨rfl,rfl,rfl⟩:=u;exact⟨ρ,w,a,.one aqJ,.same S A C⟩
 |label l=>
  intro e h x e' h' u B ρ w a b k cs S G A c U C W;simp only[dJ,dp,oy,BM] at u;obtain⟨rfl,rfl,rfl⟩:=u;exact⟨ρ,w,a,.one al7,.same S A C⟩
 |region id ops o=>
  intro e h x e' h' u B ρ w a b k cs S G A c U C W;cases o;simp only[dJ,dp] at u;split at u;rename_i o V l;cases u;have⟨M,I,d,t,O,L,q,H,r⟩:=aay hF hT m b k cs ops.size 0 ab e e' h h' l ρ w a S G A c;refine⟨M,I,d,?_,⟨O,L,q,r,by rw[H];exact C.ext r⟩⟩;rw[<-List.range_eq_range'] at t;exact Steps.head aiW (Steps.trans t (.one H8));cases u
  .simp only[dJ,dp] at u;split at u;rename_i o V l;cases u;have⟨M,I,d,t,O,L,q,H,r⟩:=v s z m n ops e h e' h' l (P.follows .mixedOrders) (w.tape w.drawn (.order b.fn id)) ρ {w with drawn:=w.drawn+1} a b k cs (S.drawn _) G A c;have X:=(Ext.drawn (ρ:=ρ) (h:=h) (w:=w) (w.drawn+1)).trans r;refine⟨M,I,d,?_,⟨O,L,q,X,by rw[H];exact C.ext X⟩⟩;exact Steps.head aqH (Steps.trans t (.one H8))
   cases u
 |seq t r _ _=>
  intro e h x e' h' u B ρ w a b k cs S G A c U C W;have H:b.roundOf=K\/lf t=ck:=W.imp_right λq=>by simp only[lf,oD] at q;exact q.1
  have ZN:b.roundOf=K\/lf r=ck:=W.imp_right λq=>by simp only[lf,oD] at q;exact q.2
  simp only[dJ,dp] at u;split at u;rename_i o V l;have⟨M,I,d,O,y⟩:=m n t e h _ o V l B ρ w a b (.code r::k) cs S G A c U C H;have⟨L,w2,a2,v,A2⟩:=m n r o V _ e' h' u B M I d b k cs y.Yk (G.mono y.ext.le) y.er (by rw[y.size];exact c) (qN U y.ext.size) y.defs ZN;exact⟨L,w2,a2,OR.of_steps (.head aiX O) v,y.trans A2⟩
  .rename_i z;have⟨M,I,d,O,y⟩:=m n t e h _ e' h' u B ρ w a b (.code r::k) cs S G A c U C H;refine⟨M,I,d,?_,y⟩;cases x with
   |normal=>exact absurd u (z e' h')
   |exit id=>
    have⟨g,V,p⟩:=O;exact⟨g,.head aiX V,p.trans Q⟩
   |ret=>
    have⟨g,V⟩:=O;exact⟨g,.head aiX V⟩
 |cond j t r _ _=>
  intro e h x e' h' u B ρ w a b k cs S G A c U C W;have H:b.roundOf=K\/lf t=ck:=W.imp_right λq=>by simp only[lf,oD] at q;exact q.1
  have ZN:b.roundOf=K\/lf r=ck:=W.imp_right λq=>by simp only[lf,oD] at q;exact q.2
  simp only[dJ] at u;cases l:c_ ng j;rw[l] at u;exact(aiS u).elim
  .simp only[l,jv,dp] at u;have D:=A.eval G l;split at u
   rename_i N;rw[N] at D;have⟨M,I,d,O,y⟩:=m n t e h _ e' h' u B ρ w a b k cs S G A c U C H;exact⟨M,I,d,OR.of_steps (.one (aiT D.qq)) O,y⟩;rename_i N;rw[N] at D;have⟨M,I,d,O,y⟩:=m n r e h _ e' h' u B ρ w a b k cs S G A c U C ZN;exact⟨M,I,d,OR.of_steps (.one (aiT D.qq)) O,y⟩;cases u
 |block id j _=>
  intro e h x e' h' u B ρ w a b k cs S G A c U C W;simp only[dJ,dp] at u;split at u
  .rename_i i o V l;have⟨M,I,d,O,y⟩:=m n j e h _ o V l B ρ w a b (.inBlock id::k) cs S G A c U C W;have⟨g,r,D⟩:=O;cases t:an i id
   .simp only[t,A8,oy,BM] at u;obtain⟨rfl,rfl,rfl⟩:=u;refine⟨M,I,d,⟨g,.head Lu r,?_⟩,y⟩;rw[D];have:(id==i)=cd:=by cases N:id==i;rfl;have:=eq_of_beq N;subst this;rw[kt] at t;cases t
    simp[exitTo,this]
   have:=sq t;subst this;simp only[t,jv,oy,BM] at u;obtain⟨rfl,rfl,rfl⟩:=u;refine⟨M,I,d,?_,y⟩;refine Steps.head Lu (r.trans (.one (aqI ?_)));rw[D];simp[exitTo]
  .rename_i z;have⟨M,I,d,O,y⟩:=m n j e h _ e' h' u B ρ w a b (.inBlock id::k) cs S G A c U C W;refine⟨M,I,d,?_,y⟩;cases x with
   |normal=>exact Steps.head Lu (Steps.trans O (.one ae4))
   |exit i=>exact absurd u (z i e' h')
   |ret=>
    have⟨g,V⟩:=O;exact⟨g,.head Lu V⟩
 |loop j _=>
  intro e h x e' h' u B ρ w a b k cs S G A c U C W;simp only[dJ,dp] at u;split at u
  .rename_i o V l;have⟨M,I,d,O,y⟩:=m n j e h _ o V l B ρ w a b (.inLoop j::k) cs S G A c U C W;have⟨L,w2,a2,v,A2⟩:=m n (.loop j) o V _ e' h' u B M I d b k cs y.Yk (G.mono y.ext.le) y.er (by rw[y.size];exact c) (qN U y.ext.size) y.defs W;refine⟨L,w2,a2,?_,y.trans A2⟩;have L:Steps P (lone (on b a (.code (.loop j)::k)) cs w) (lone (on b d (.code j:: .inLoop j::k)) cs I):=.head Ub (Steps.trans O (.one aiV));refine OR.of_steps L ?_;have L:=Ub (P:=P) (b:=b) (a:=d) (k:=k) (cs:=cs) (w:=I) (c:=j);cases x with
   |normal=>exact Gt v L (Tv λq=>by have:=congrArg bW q;simp at this)
   |exit i=>
    have⟨g,r,D⟩:=v;exact⟨g,Gt r L (Tv λq=>by cases q),D⟩
   |ret=>
    have⟨g,r⟩:=v;exact⟨g,Gt r L (Tv λq=>by cases q)⟩
  .rename_i z;have⟨M,I,d,O,y⟩:=m n j e h _ e' h' u B ρ w a b (.inLoop j::k) cs S G A c U C W;refine⟨M,I,d,?_,y⟩;cases x with
   |normal=>exact absurd u (z e' h')
   |exit id=>
    have⟨g,V,p⟩:=O;exact⟨g,.head Ub V,p.trans Q⟩
   |ret=>
    have⟨g,V⟩:=O;exact⟨g,.head Ub V⟩
 |scope j z=>
  intro e h x e' h' u B ρ w a b k cs S G A c U C W;simp only[dJ] at u;have⟨M,I,d,O,y⟩:=z e h x e' h' u B ρ w a b (.inScope j::k) cs S G A c U C W;refine⟨M,I,d,?_,y⟩;cases x with
  |normal=>exact Steps.head Ud (Steps.trans O (.one ae5))
  |exit id=>
   have⟨g,V,p⟩:=O;exact⟨g,.head Ud V,p.trans Q⟩
  |ret=>
   have⟨g,V⟩:=O;exact⟨g,.head Ud V⟩
 |exit id=>
  intro e h x e' h' u B ρ w a b k cs S G A c U C W;simp only[dJ,dp,oy,BM] at u;obtain⟨rfl,rfl,rfl⟩:=u;exact⟨ρ,w,a,⟨k,Steps.refl P _,Q⟩,.same S A C⟩
 |ret=>
  intro e h x e' h' u B ρ w a b k cs S G A c U C W;simp only[dJ,dp,oy,BM] at u;obtain⟨rfl,rfl,rfl⟩:=u;exact⟨ρ,w,a,⟨k,Steps.refl P _⟩,.same S A C⟩
 |rangeFunc f O d body _ _=>
  intro e h x e' h' u B ρ w a b k cs S G A c U C W;simp only[dJ] at u;cases g:(c_ ng f&&O.toList.all (c6 · n)&&lf d&&lf body);rw[g] at u;exact(aiS u).elim;rw[g] at u;simp only[oD] at g;have⟨⟨⟨V,p⟩,O⟩,d⟩:=g;have g:b.roundOf=K:=by rcases W with q|q;exact q;simp[lf] at q
  exact aeN hF hT m V p O d u b k cs S G A c U C g
 |_=>
  intro e h x e' h' u;exact(aiS u).elim
def ae0(G:Kq P T ng E F)(y:eC P T)(C:Ry P T ng E F):∀q,zM P T ng E (run F q):=by
 intro q;induction q with
 |zero=>intro n c e h x e' h' A;cases A
 |succ m u=>exact XB G y C (aeZ m) u
end
def jt(md:sH)(o:cQ):List Nat:=(o.after.toList.filter (oL md)).map (·.on)
def pass:List (List Nat)->Nat->Nat->Nat
 |[],_,q=>q
 |e::r,i,q=>pass r (i+1) (bif e.all (gp q) then q ||| (1 <<< i) else q)
def Xb(u:Nat)(M:List (List Nat)):Nat->Nat->Bool
 |0,_=>cd
 |f+1,q=>bif an q u then ck else Xb u M f (pass M 0 q)
def Gu(md:sH)(ops:List cQ):Bool:=Xb (2^(cz ops)-1) (ops.map (jt md)) (cz ops+1) 0
def abG{q i j:Nat} :gp (q ||| (1 <<< i)) j=ck↔gp q j=ck\/j=i:=by rw[Pw,lA,Nat.one_shiftLeft,Nat.testBit_two_pow,decide_eq_true_eq];exact⟨VY Eq.symm,VY Eq.symm⟩
def NN{D:Nat->Prop} :∀(M:List (List Nat))(i u:Nat),(∀j e,M[j]?=Z e->(∀k∈e,D k)->D (i+j))->(∀k,gp u k=ck->D k)->∀k,gp (pass M i u) k=ck->D k
 |[],_,_,_,y=>y
 |e::r,i,u,G,y=>by refine NN r (i+1) _ (λj e' q A=>by have:=G (j+1) e' (aj q) A;rwa [IU,k0 1 j]) ?_;intro k A;cases C:e.all (gp u)<;>simp only[C,jv,A8] at A;exact y k A;rcases abG.1 A with h|rfl;exact y k h;exact G 0 e rfl λq I=>y q (ga.1 C q I)
def NO{D:Nat->Prop}{u:Nat}{M:List (List Nat)}(C:∀j e,M[j]?=Z e->(∀k∈e,D k)->D j):∀(f q:Nat),Xb u M f q=ck->(∀k,gp q k=ck->D k)->∀k,gp u k=ck->D k
 |0,_,h,_=>by cases h
 |f+1,q,h,y=>by simp only[Xb] at h;cases A:an q u;rw[A] at h;exact NO C f _ h (NN M 0 q (λj e I G=>by rw[IV];exact C j e I G) y);rw[sq A] at y;exact y
def aa_{ops:List cQ}(h:Gu md ops=ck)(I:∀(j:Nat)(o:cQ),ops[j]?=Z o->(∀k∈jt md o,D k)->D j):∀k,k<cz ops->D k:=by intro k C;refine NO (D:=D) (λj e u A=>?_) _ _ h (λq G=>by simp at G) k ?_;rw[gM] at u;rcases y:ops[j]? with _|o;rw[y] at u;cases u;rw[y] at u;cases u;exact I j o y A;rw[Nat.testBit_two_pow_sub_one];simpa using C
inductive Ord(ops:Array cQ):(Nat->Prop)->List Nat->Prop
 |nil {D:Nat->Prop} (h:∀i,i<ops.size->D i):Ord ops D []
 |cons {D:Nat->Prop} {i:Nat} {L:List Nat} {o:cQ} (ho:ops[i]?=Z o) (hn:¬D i) (he:∀k∈jt .any o,D k) (hl:Ord ops (λj=>D j\/j=i) L):Ord ops D (i::L)
def ac9{k:Nat}(h:k∈jt .any o):k∈jt md o:=by unfold jt at h⊢;simp only[kC,EL] at h⊢;have⟨e,⟨V,q⟩,u⟩:=h;refine⟨e,⟨V,?_⟩,u⟩;unfold oL at q⊢;split at q<;>simp_all
def aoe(b:Gu md ops.toList=ck):∀(u t:Nat)(q:Array Bool)(D:Nat->Prop),q.size=ops.size->(∀i,D i↔q.getD i cd=ck)->q.toList.count cd=u->Ord ops D (sE md ops u t q []):=by
 intro u;induction u with
 |zero=>
  intro t q D c C U;refine .nil λi O=>(C i).2 ?_;have M:i<q.size:=ab
  rw[D5] at U;cases G:q[i];exact absurd (qi.2 (G▸Array.getElem_mem M)) U;simp[lK,M,G]
 |succ f W=>
  intro t q D c C U;simp only[sE];generalize u:((aU ops.size).filter λi=> !q.getD i ck&&((ops[i]?).map (·.after.all λe=> !oL md e||q.getD e.on cd)).getD cd)=rs;have a:∀i,i∈rs↔i<ops.size/\q.getD i ck=cd/\((ops[i]?).map (·.after.all λe=> !oL md e||q.getD e.on cd)).getD cd=ck:=by intro i;rw[<-u];simp[and_assoc]
  have d:rs≠[]:=by
   intro g;have h:∀k,k<cz ops.toList->D k:=by
    refine aa_ b λj o I u=>?_;have b:ops[j]?=Z o:=aj I
    have M:j<ops.size:=(db.1 b).1;cases G:q.getD j ck
    .have:j∈rs:=by refine(a j).2 ⟨M,G,?_⟩;rw[b];simp only[Eo,rY,Cb];intro e l;cases b:oL md e;rfl;refine(C e.on).1 (u e.on ?_);unfold jt;simp only[kC,EL];exact⟨e,⟨aj l,b⟩,Q⟩
     rw[g] at this;cases this
    refine(C j).2 ?_;have b:j<q.size:=ab
    simpa [lK,b] using G
   have:q.toList.count cd=0:=by
    rw[D5];intro b;have⟨i,O,G⟩:=List.getElem_of_mem b;have b:i<q.size:=aj O
    have:=(C i).1 (h i (by simp;omega));simp[lK,b] at this;simp at G;rw[this] at G;cases G
   omega
  have b:0<cz rs:=List.length_pos_iff.2 d;have d:rs[t%cz rs]?=Z (rs[t%cz rs]'(Mw _ b)):=jh _;rw[d];dsimp only;generalize O:rs[t%cz rs]'(Mw _ b)=i;have b:i∈rs:=O▸Ik _;have⟨V,d,O⟩:=(a i).1 b;rw[linearise_go_acc,List.reverse_singleton,List.singleton_append];have b:ops[i]?=Z ops[i]:=og V;have y:i<q.size:=ab
  have a:q[i]=cd:=by simpa [lK,y] using d
  refine .cons b ?_ ?_ (W _ _ _ (au c) ?_ ?_);intro c;have:=(C i).1 c;simp[lK,y,a] at this
  intro k u;rw[b] at O;simp only[Eo,rY,Cb] at O;have k:=ac9 (md:=md) u;unfold jt at k;simp only[kC,EL] at k;have⟨e,⟨u,c⟩,b⟩:=k;have:=O e (aj u);rw[c] at this;rw[<-b];exact(C e.on).2 (aj this)
  .intro j;constructor;rintro(I|rfl);have:=(C j).1 I;by_cases A:j=i;subst A;simp[lK,y];simp only[bA] at this⊢;rw[sc (cE A)];exact this;simp[lK,y]
   intro I;by_cases A:j=i;exact kd A;refine jZ ((C j).2 ?_);simp only[bA] at I⊢;rwa [sc (cE A)] at I
  rw[Array.toList_setIfInBounds,List.count_set (aj y)];simp[a,U]
def Ug(m:Gu .any ops.toList=ck)(V:Gu .text ops.toList=ck)(u:Gu .gc ops.toList=ck)(q:Bool)(t:Nat):Ord ops (λ_=>False) (sY q ops t):=by
 have a:∀(md:sH)(t:Nat),Gu md ops.toList=ck->Ord ops (λ_=>False) (Region.linearise md ops t):=by intro md t y;refine aoe y _ _ _ _ J (λi=>?_) J;simp[bA,Array.getElem?_replicate];split<;>simp
 unfold sY;split;exact a _ _ m;split;exact a _ _ V;exact a _ _ u
def Nq(A:Tr Nat):List Nat->Nat
 |[]=>0
 |j::r=>(Nq A r ||| (1 <<< j)) ||| (Tr.get A j).getD 0
def Ca:List cQ->Nat->Tr Nat->Tr Nat
 |[],_,A=>A
 |o::r,i,A=>Ca r (i+1) (A.set i (Nq A (jt .any o)))
def BE(A:Tr Nat)(j i:Nat):Bool:=gp ((Tr.get A j).getD 0) i
inductive Ko(ops:Array cQ):Nat->Nat->Prop
 |Pk {i k:Nat} {o:cQ} (ho:ops[i]?=Z o) (h:k∈jt .any o):Ko ops i k
 |yH {i k j:Nat} {o:cQ} (ho:ops[i]?=Z o) (h:k∈jt .any o) (hj:Ko ops k j):Ko ops i j
def J5{A:Tr Nat} :∀ {M:List Nat} {k:Nat},gp (Nq A M) k=ck->∃e∈M,k=e\/BE A e k=ck
 |[],k,h=>by simp[Nq] at h
 |j::r,k,h=>by rw[Nq,Pw,lA] at h;rcases h with h|h;rcases abG.1 h with h|h;have⟨e,q,u⟩:=J5 h;exact⟨e,xV _ q,u⟩;exact⟨j,iY ..,jZ h⟩;exact⟨j,iY ..,kd h⟩
def LJ{ops:Array cQ} :∀(l:List cQ)(i:Nat)(A:Tr Nat),(∀j o,l[j]?=Z o->ops[i+j]?=Z o)->(∀j k,BE A j k=ck->Ko ops j k)->∀j k,BE (Ca l i A) j k=ck->Ko ops j k
 |[],_,_,_,C=>C
 |o::r,i,A,a,C=>by
  refine LJ r (i+1) _ (λj u y=>by have:=a (j+1) u (aj y);rwa [IU,k0 1 j]) ?_;intro j k u;unfold BE at u;rw[Tr.bN] at u;by_cases e:j=i
  .subst e;rw[bK rfl] at u;have⟨q,I,G⟩:=J5 u;have y:=a 0 o rfl;rcases G with rfl|G
   exact .Pk y I;exact .yH y I (C _ _ G)
  rw[bM e] at u;exact C j k u
def Ko.closed(a:∀i o,ops[i]?=Z o->D i->∀k∈jt .any o,D k)(h:Ko ops i j):(∀o,ops[i]?=Z o->∀k∈jt .any o,D k)->D j:=by
 induction h with
 |Pk q h=>intro u;exact u _ q _ h
 |yH q h _ s=>
  intro u;have A:=u _ q _ h;exact s λC y I G=>a _ C y A I G
def Mn:List cQ->Nat->Tr Nat->Option (Tr Nat)
 |[],_,M=>Z M
 |o::r,i,M=>match o.dst with
  |none=>Mn r (i+1) M
  |some d=>match Tr.get M d with
   |none=>Mn r (i+1) (M.set d i)
   |some _=>K
def FU:∀(l:List cQ)(i:Nat)(M y:Tr Nat),Mn l i M=Z y->(∀d k,Tr.get M d=Z k->Tr.get y d=Z k)/\∀j o d,l[j]?=Z o->o.dst=Z d->Tr.get y d=Z (i+j)
 |[],_,M,y,h=>by simp only[Mn,oy] at h;subst h;exact⟨λ_ _ h=>h,λj o d h=>by simp at h⟩
 |o::r,i,M,y,h=>by
  simp only[Mn] at h;split at h
  .rename_i O;have⟨V,C⟩:=FU r (i+1) M y h;refine⟨V,λj G d u q=>?_⟩;cases j with
   |zero=>simp only[c9,oy] at u;subst u;rw[O] at q;cases q
   |succ j=>rw[C j G d (aj u) q];congr 1;omega
  .rename_i I l;split at h
   .rename_i O;have⟨V,C⟩:=FU r (i+1) _ y h;refine⟨λd k A=>V d k ?_,λj G d u q=>?_⟩;rw[Tr.bN];by_cases e:d=I;subst e;rw[O] at A;cases A;rw[bM e];exact A
    .cases j with
     |zero=>
      simp only[c9,oy] at u;subst u;rw[l] at q;cases q;exact V _ _ (by rw[Tr.bN,bK rfl];rfl)
     |succ j=>rw[C j G d (aj u) q];congr 1;omega
   cases h
def places(p:Nat->Bool):List cr->Nat->List Nat
 |[],_=>[]
 |o::r,i=>bif p o.op.kind then i::places p r (i+1) else places p r (i+1)
def J7{p:Nat->Bool} :∀(l:List cr)(i j:Nat)(o:cr),l[j]?=Z o->p o.op.kind=ck->i+j∈places p l i
 |[],_,j,o,h,_=>by simp at h
 |o::r,i,j,y,q,u=>by
  simp only[places];cases j with
  |zero=>
   simp only[c9,oy] at q;subst q;rw[u];exact iY ..
  |succ j=>
   have:=J7 r (i+1) j y (aj q) u;rw[IU,k0 1 j] at this;cases p o.op.kind;exact this;exact xV _ this
def level(A:Tr Nat)(i:Nat):List Nat->Nat
 |[]=>0
 |u::r=>bif BE A i u then level A i r+1 else level A i r
def ack(A:Tr Nat)(q a:List Nat):List Nat->Nat->List Nat
 |[],s=>a.filter λi=>an (level A i q) s
 |u::r,s=>(a.filter λi=>an (level A i q) s)++u::ack A q a r (s+1)
def TK(A:Tr Nat)(q a:List Nat):List Nat:=ack A q a q 0
def Q7:List Nat->Nat->Tr Nat->Option (Tr Nat)
 |[],_,a=>Z a
 |i::r,p,a=>match Tr.get a i with
  |none=>Q7 r (p+1) (a.set i p)
  |some _=>K
def NR:∀(l:List Nat)(p:Nat)(a q:Tr Nat),Q7 l p a=Z q->(∀i k,Tr.get a i=Z k->Tr.get q i=Z k)/\(∀j i,l[j]?=Z i->Tr.get q i=Z (p+j))/\(∀i k,Tr.get q i=Z k->Tr.get a i=Z k\/∃j,l[j]?=Z i/\k=p+j)
 |[],_,a,q,h=>by simp only[Q7,oy] at h;subst h;exact⟨λ_ _ h=>h,λj i h=>by simp at h,λi k h=>jZ h⟩
 |A::r,p,a,q,h=>by
  simp only[Q7] at h;split at h
  .rename_i a;have⟨V,C,I⟩:=NR r (p+1) _ q h;refine⟨λi k u=>V i k ?_,λj i y=>?_,λi k u=>?_⟩;rw[Tr.bN];by_cases e:i=A;subst e;rw[a] at u;cases u;rw[bM e];exact u
   .cases j with
    |zero=>
     simp only[c9,oy] at y;subst y;exact V _ _ (by rw[Tr.bN,bK rfl];rfl)
    |succ j=>rw[C j i (aj y)];congr 1;omega
   rcases I i k u with h|⟨j,y,G⟩;rw[Tr.bN] at h;by_cases e:i=A;rw[bK e] at h;cases h;exact kd ⟨0,au e,Q⟩;rw[bM e] at h;exact jZ h;exact kd ⟨j+1,aj y,ab⟩
  cases h
def Js(ops:List cQ):List Nat->Option (List (Nat×cQ))
 |[]=>Z []
 |i::r=>match ops[i]?,Js ops r with
  |some o,Z l=>Z ((i,o)::l)
  |_,_=>K
def Ke{ops:List cQ} :∀(l:List Nat)(q:List (Nat×cQ)),Js ops l=Z q->cz q=cz l/\∀(p i:Nat)(o:cQ),q[p]?=Z (i,o)->l[p]?=Z i/\ops[i]?=Z o
 |[],q,h=>by simp only[Js,oy] at h;subst h;exact⟨Q,λp i o h=>by simp at h⟩
 |i::r,q,h=>by
  simp only[Js] at h;split at h
  .rename_i o l y A;cases h;have⟨V,C⟩:=Ke r l A;refine⟨au V,λp G I u=>?_⟩;cases p with
   |zero=>
    simp only[c9,oy,BM] at u;obtain⟨rfl,rfl⟩:=u;exact⟨Q,y⟩
   |succ p=>simpa using C p G I (aj u)
  cases h
def N4(A M a:Tr Nat)(C:List Nat)(p i:Nat)(o:cQ):Bool:=
 (jt .any o).all (λe=>match Tr.get a e with|some q=>c6 q p|none=>cd)&&
 (match o.guard with|none=>ck|some (g,_)=>BE A i g)&&
 o.op.operands.toList.all (λx=>match x with
  |.tmp t=>match Tr.get M t with
   |none=>ck
   |some k=>BE A i k||BE A k i
  |_=>ck)&&
 C.all λu=>match Tr.get a u with
  |some y=> !c6 y p||BE A i u
  |none=>cd
def N8(A M a:Tr Nat)(q:List Nat):List (Nat×cQ)->Nat->Bool
 |[],_=>ck
 |(i,o)::r,p=>N4 A M a q p i o&&N8 A M a q r (p+1)
def Kf{A M q:Tr Nat}{u:List Nat} :∀(l:List (Nat×cQ))(p:Nat),N8 A M q u l p=ck->∀j i o,l[j]?=Z (i,o)->N4 A M q u (p+j) i o=ck
 |[],_,_,j,i,o,h=>by simp at h
 |(i,o)::r,p,h,j,y,C,q=>by
  simp only[N8,oD] at h;cases j with
  |zero=>
   simp only[c9,oy,BM] at q;obtain⟨rfl,rfl⟩:=q;exact h.1
  |succ j=>have:=Kf r (p+1) h.2 j y C (aj q);rwa [IU,k0 1 j] at this
def nV(A a:Tr Nat)(p i:Nat):List Nat->List Nat
 |[]=>[]
 |u::r=>match Tr.get a u with
  |some q=>bif c6 p q&& !BE A u i then q::nV A a p i r else nV A a p i r
  |none=>nV A a p i r
def JS{A a:Tr Nat}{p i:Nat} :∀ {l:List Nat} {u q:Nat},u∈l->Tr.get a u=Z q->p<q->BE A u i=cd->q∈nV A a p i l
 |[],u,q,h,_,_,_=>by simp at h
 |v::r,u,q,h,G,C,I=>by
  have l:u∈r->q∈nV A a p i (v::r):=λy=>by have:=JS y G C I;simp only[nV];split;rename_i a _;cases(c6 p a&& !BE A v i);exact this;exact xV _ this;exact this
  rcases bn.1 h with rfl|y;simp only[nV,G];rw[AQ.2 C,I];exact iY ..;exact l y
def Ul(A M:Tr Nat)(i:Nat)(o:cr):Option Nat:=
 bif an o.op.kind 1 then match o.op.through with
  |some (.tmp t)=>match Tr.get M t with
   |none=>Z t
   |some k=>bif BE A i k then Z t else K
  |_=>K
 else o.dst
def HK(A M a:Tr Nat)(y:List Nat)(f:cQ->cr):List (Nat×cQ)->Nat->Option (List (Nat×Nat))
 |[],_=>Z []
 |(i,o)::r,p=>match HK A M a y f r (p+1) with
  |none=>K
  |some q=>bif an (f o).op.kind 1||an (f o).op.kind 2 then match nV A a p i y with
    |[]=>Z q
    |u::C=>match Ul A M i (f o) with
     |some t=>Z (((u::C).foldl so p,t)::q)
     |none=>K
   else Z q
def foldl_max:∀(l:List Nat)(i:Nat),i<=l.foldl so i/\(∀u∈l,u<=l.foldl so i)/\(l.foldl so i=i\/l.foldl so i∈l)
 |[],i=>⟨fq _,λ_ h=>by simp at h,jZ Q⟩
 |u::l,i=>by have⟨V,A,q⟩:=foldl_max l (so i u);simp only[o0];refine⟨qN (lC i u) V,?_,?_⟩;intro x y;rcases bn.1 y with rfl|y;exact qN (kp i x) V;exact A x y;rcases q with q|q;rw[q];rcases Nat.le_total i u with h|h;right;rw[show so i u=u from Nat.max_eq_right h];exact iY ..;left;exact Nat.max_eq_left h;exact kd (xV _ q)
def MA{A a:Tr Nat}{p i:Nat} :∀ {l:List Nat} {x:Nat},x∈nV A a p i l->∃u∈l,Tr.get a u=Z x
 |[],x,h=>by simp[nV] at h
 |v::r,x,h=>by
  simp only[nV] at h;have q:x∈nV A a p i r->∃u∈v::r,Tr.get a u=Z x:=λh=>by have⟨u,G,C⟩:=MA h;exact⟨u,xV _ G,C⟩
  split at h;rename_i u y;cases I:(c6 p u&& !BE A v i)<;>rw[I] at h;exact q h;rcases bn.1 h with rfl|h;exact⟨v,iY ..,y⟩;exact q h;exact q h
def HL{A M b:Tr Nat}{y:List Nat}{f:cQ->cr} :∀(l:List (Nat×cQ))(p:Nat)(a:List (Nat×Nat)),HK A M b y f l p=Z a->∀j i o,l[j]?=Z (i,o)->((f o).op.kind=1\/(f o).op.kind=2)->nV A b (p+j) i y=[]\/∃c t,Ul A M i (f o)=Z t/\p+j<=c/\(∀u∈nV A b (p+j) i y,u<=c)/\(c=p+j\/∃u∈y,Tr.get b u=Z c)/\(c,t)∈a
 |[],_,_,_,j,i,o,h,_=>by simp at h
 |(i,o)::r,p,a,h,j,P,T,I,C=>by
  simp only[HK] at h;split at h;cases h
  .rename_i O L;cases j with
   |succ j=>
    have:=HL r (p+1) O L j P T (aj I) C;rw[IU,k0 1 j] at this;refine this.imp_right λ⟨c,t,V,z,W,d,P⟩=>⟨c,t,V,z,W,d,?_⟩;cases U:(an (f o).op.kind 1||an (f o).op.kind 2)<;>rw[U] at h;cases h;exact P;simp only[jv] at h;split at h;cases h;exact P;split at h;cases h;exact xV _ P;cases h
   |zero=>
    simp only[c9,oy,BM] at I;obtain⟨rfl,rfl⟩:=I;have U:(an (f o).op.kind 1||an (f o).op.kind 2)=ck:=by rcases C with C|C<;>rw[C]<;>rfl
    rw[U] at h;simp only[jv] at h;split at h;rename_i G;exact jZ G
    .rename_i u F G;split at h;rename_i t c;cases h;have⟨V,z,W⟩:=foldl_max (u::F) p;refine kd ⟨_,t,c,V,by rw[A1,G];exact z,W.imp_right λq=>?_,iY ..⟩;have z:∀x,x∈u::F->∃v∈y,Tr.get b v=Z x:=λx l=>MA (G▸l:x∈nV A b p i y);exact z _ q
     cases h
def attach(a:List (Nat×Nat))(f:cQ->cr):List (Nat×cQ)->Nat->List (cr×List Nat)
 |[],_=>[]
 |(_,o)::r,p=>(f o,(a.filter λx=>an x.1 p).map (·.2))::attach a f r (p+1)
def Cd{a:List (Nat×Nat)}{f:cQ->cr} :∀(l:List (Nat×cQ))(p j:Nat),(attach a f l p)[j]?=(l[j]?).map λx=>(f x.2,(a.filter λx=>an x.1 (p+j)).map (·.2))
 |[],_,j=>by simp[attach]
 |(_,o)::r,p,j=>by
  cases j with
  |zero=>simp[attach]
  |succ j=>
   simp only[attach,ye];rw[Cd r (p+1) j,IU,k0 1 j]
def LM{a:List (Nat×Nat)}{f:cQ->cr} :∀(l:List (Nat×cQ))(p:Nat),cz (attach a f l p)=cz l
 |[],_=>rfl
 |(_,_)::r,p=>by simp[attach,LM r]
def tg:List (cr×List Nat):=[({ dst:=K,guard:=K,op:=.bad },[])]
def Vo(T:uK)(ng n:Nat)(ops:List cQ)(M A:Tr Nat)(u a:List Nat):List (cr×List Nat):=
 match Q7 a 0 .nil,Js ops a with
 |some b,Z q=>match HK A M b u (cj T ng n ops) q 0 with
  |some y=>bif an (cz a) (cz ops)&&(aU (cz ops)).all (λi=>(Tr.get b i).isSome)&&Gu .any ops&&Gu .text ops&&Gu .gc ops&&N8 A M b u q 0 then attach y (cj T ng n ops) q 0 else tg
  |none=>tg
 |_,_=>tg
def fY(T:uK)(ng n:Nat)(ops:List cQ):List (cr×List Nat):=
 match Mn ops 0 .nil with
 |none=>tg
 |some M=>match Ca ops 0 .nil,ops.map (cj T ng n ops) with
  |A,q=>match places (an 3) q 0,places (λk=>c6 k 3) q 0 with
   |u,q=>Vo T ng n ops M A u (TK A u q)
structure lJ(T:uK)(ng n:Nat)(ops:Array cQ)(σ:Nat->Nat)(l:List (cr×List Nat)):Prop where
 any:Gu .any ops.toList=ck
 text:Gu .text ops.toList=ck
 gc:Gu .gc ops.toList=ck
 bound:∀p,p<ops.size->σ p<ops.size
 aik:∀i,i<ops.size->∃p,p<ops.size/\σ p=i
 inj:∀p q,p<ops.size->q<ops.size->σ p=σ q->p=q
 get:∀(p:Nat)(o:cQ),p<ops.size->ops[σ p]?=Z o->∃qv,l[p]?=Z (cj T ng n ops.toList o,qv)
 len:cz l=ops.size
 lower:∀(p:Nat)(o:cQ),p<ops.size->ops[σ p]?=Z o->∀k∈jt .any o,∃pk,pk<p/\σ pk=k
 guard:∀(j:Nat)(o:cQ)(g:Nat)(b:Bool),ops[j]?=Z o->o.guard=Z (g,b)->Ko ops j g
 reads:∀(j:Nat)(o:cQ)(t:Nat),ops[j]?=Z o->Operand.tmp t∈o.op.operands.toList->∀(i:Nat)(o':cQ),ops[i]?=Z o'->o'.dst=Z t->Ko ops j i\/Ko ops i j
 once:∀(i j:Nat)(o o':cQ)(d:Nat),ops[i]?=Z o->ops[j]?=Z o'->o.dst=Z d->o'.dst=Z d->i=j
 eager:∀(p u:Nat)(o':cQ),u<p->p<ops.size->ops[σ u]?=Z o'->(cj T ng n ops.toList o').op.kind=3->Ko ops (σ p) (σ u)
 still:∀(p:Nat)(o:cQ),p<ops.size->ops[σ p]?=Z o->((cj T ng n ops.toList o).op.kind=1\/(cj T ng n ops.toList o).op.kind=2)->(∀(u:Nat)(o':cQ),p<u->u<ops.size->ops[σ u]?=Z o'->(cj T ng n ops.toList o').op.kind=3->Ko ops (σ u) (σ p))\/∃(c t:Nat) (ao:cr) (qv:List Nat),p<=c/\c<ops.size/\l[c]?=Z (ao,qv)/\t∈qv/\(((cj T ng n ops.toList o).op.kind=1/\(cj T ng n ops.toList o).op.through=Z (.tmp t)/\∀(i:Nat)(o':cQ),ops[i]?=Z o'->o'.dst=Z t->Ko ops (σ p) i)\/((cj T ng n ops.toList o).op.kind=2/\(cj T ng n ops.toList o).dst=Z t))/\∀(u:Nat)(o':cQ),p<u->u<ops.size->ops[σ u]?=Z o'->(cj T ng n ops.toList o').op.kind=3->¬Ko ops (σ u) (σ p)->u<=c
def Vn(E:fY T ng n ops.toList≠tg):∃a,lJ T ng n ops a (fY T ng n ops.toList):=by
 revert E;unfold fY;split;intro h;exact absurd rfl h
 .rename_i M w;dsimp only;unfold Vo;generalize k:TK (Ca ops.toList 0 .nil) (places (an 3) (ops.toList.map (cj T ng n ops.toList)) 0) (places (λk=>c6 k 3) (ops.toList.map (cj T ng n ops.toList)) 0)=bw;generalize c:places (an 3) (ops.toList.map (cj T ng n ops.toList)) 0=ko;split
  .rename_i q y r f;split
   .rename_i H iV;cases F:(an (cz bw) (cz ops.toList)&&(aU (cz ops.toList)).all (λi=>(Tr.get q i).isSome)&&Gu .any ops.toList&&Gu .text ops.toList&&Gu .gc ops.toList&&N8 (Ca ops.toList 0 .nil) M q ko y 0) with
    |false=>intro h;exact absurd rfl h
    |true=>
     intro _;simp only[jv];simp only[oD] at F;have⟨⟨⟨⟨⟨b,u⟩,S⟩,X⟩,c3⟩,c4⟩:=F;have F:cz bw=ops.size:=aj (sq b)
     obtain⟨b,b⟩:=Ke bw y f;have⟨_,f,F⟩:=NR bw 0 .nil q r;have r:∀j k,BE (Ca ops.toList 0 .nil) j k=ck->Ko ops j k:=
      LJ ops.toList 0 .nil (λj o h=>aj h) (λj k h=>by simp[BE,Tr.get] at h)
     have z:=(FU ops.toList 0 .nil M w).2;have w:∀p,p<ops.size->∃i o,y[p]?=Z (i,o)/\bw[p]?=Z i/\ops[i]?=Z o/\Tr.get q i=Z p:=by
      intro p C;have v:p<cz y:=ab
      have B:y[p]?=Z (y[p].1,y[p].2):=jh v;have⟨V,A⟩:=b p _ _ B;have b:=f p _ V;rw[IV] at b;exact⟨_,_,B,V,aj A,b⟩
     let a:Nat->Nat:=λp=>bw.getD p 0
     have f:∀p i,bw[p]?=Z i->a p=i:=λp i h=>by simp[a,List.getD,h]
     have L:∀i o,ops[i]?=Z o->i<ops.size:=λi o h=>(db.1 h).1;have D:∀p,p<ops.size->a p<ops.size:=λp C=>by have⟨i,o,_,A,b,_⟩:=w p C;rw[f p i A];exact L i o b
     have aB5:∀p O,p<ops.size->O<ops.size->a p=a O->p=O:=by intro p O C P e;have⟨i,o,_,A,_,l⟩:=w p C;have⟨j,G,_,N,_,m⟩:=w O P;rw[f p i A,f O j N] at e;subst e;rw[l] at m;exact gD m
     have m:∀i,i<ops.size->∃p,p<ops.size/\a p=i:=by
      intro i O;have V:=ga.1 u i (OB.2 (aj O));have⟨p,C⟩:=iH.1 V;rcases F i p C with h|⟨j,e,u⟩
      simp[Tr.get] at h;have v:=(cY.1 e).1;exact⟨p,ab,f p i (by rw[u,IV];exact e)⟩
     have v:∀p i o,p<ops.size->ops[a p]?=Z o->a p=i->N4 (Ca ops.toList 0 .nil) M q ko p i o=ck/\y[p]?=Z (i,o):=by intro p i o C U O;have⟨N,G,V,A,b,l⟩:=w p C;have:=f p N A;rw[this] at U O;subst O;rw[b] at U;cases U;have:=Kf y 0 c4 p _ _ V;rw[IV] at this;exact⟨this,V⟩
     have N:∀p,p<ops.size->Tr.get q (a p)=Z p:=by intro p C;have⟨i,o,_,A,_,l⟩:=w p C;rw[f p i A];exact l
     have P:∀i o,ops[i]?=Z o->(cj T ng n ops.toList o).op.kind=3->i∈ko:=by
      intro i o h I;have fN:(ops.toList.map (cj T ng n ops.toList))[i]?=Z (cj T ng n ops.toList o):=by
       have h':ops.toList[i]?=Z o:=aj h
       rw[gM,h'];rfl
      have:=J7 (p:=an 3) _ 0 i _ fN (by rw[I];rfl);rw[IV,c] at this;exact this
     have c:∀j o,ops[j]?=Z o->∃p,p<ops.size/\a p=j:=λj o h=>m j (L j o h);refine⟨a,S,X,c3,D,m,aB5,?_,?_,?_,?_,?_,?_,?_,?_⟩;intro p o C U;have⟨_,V⟩:=v p (a p) o C U rfl;rw[Cd,V];exact⟨_,Q⟩;rw[LM];omega
     .intro p o C U k I;have V:=(v p (a p) o C U Q).1;simp only[N4,oD] at V;have A:=ga.1 V.1.1.1 k I;split at A
      rename_i m L;rcases F k m L with h|⟨j,e,u⟩;simp[Tr.get] at h;refine⟨m,AQ.1 A,?_⟩;rw[u,IV];exact f j k e;cases A
     intro j o g f h f;have⟨p,C,u⟩:=c j o h;have V:=(v p j o C (by rw[u];exact h) u).1;simp only[N4,oD,f] at V;exact r _ _ V.1.1.2
     intro j o t h m i G O f;have⟨p,C,u⟩:=c j o h;have V:=(v p j o C (by rw[u];exact h) u).1;simp only[N4,oD] at V;have A:=ga.1 V.1.2 _ m;have b:=z i G t (aj O) f;rw[IV] at b;simp only[b,lA] at A;exact A.imp (r _ _) (r _ _)
     intro i j o G d O e f m;have V:=z i o d (aj O) f;have A:=z j G d (aj e) m;rw[V] at A;simpa using A
     .intro p u G L C m I;have c:u<ops.size:=ab
      have⟨o,U⟩:∃o,ops[a p]?=Z o:=⟨_,og (D p C)⟩;have V:=(v p (a p) o C U Q).1;simp only[N4,oD] at V;have A:=ga.1 V.2 _ (P _ _ m I);rw[N u c] at A;simp only[lA,AQ.2 L,Bool.not_true,CL,false_or] at A;exact r _ _ A
     .intro p o C U I;have⟨_,B⟩:=v p (a p) o C U rfl;have L:∀(u:Nat)(G:cQ),p<u->u<ops.size->ops[a u]?=Z G->(cj T ng n ops.toList G).op.kind=3->¬Ko ops (a u) (a p)->u∈nV (Ca ops.toList 0 .nil) q p (a p) ko:=by intro u G W c m v D;refine JS (P _ _ m v) (N u c) W ?_;cases E:BE (Ca ops.toList 0 .nil) (a u) (a p);rfl;exact absurd (r _ _ E) D
      rcases HL y 0 H iV p _ _ B I with h|⟨q,t,V,A,b,l,E⟩;left;rw[IV] at h;intro u G W c m v;apply eK;intro B;have:=L u G W c m v B;rw[h] at this;cases this
      .right;rw[IV] at A b l;have B:q<ops.size:=by rcases l with rfl|⟨u,_,c⟩;exact C;rcases F u q c with h|⟨j,e,F⟩;simp[Tr.get] at h;have:=(cY.1 e).1;omega
       obtain⟨e,e,F,_,_,_⟩:=w q B;refine⟨q,t,cj T ng n ops.toList e,(H.filter λx=>an x.1 (0+q)).map (·.2),A,B,by rw[Cd,F];rfl,?_,?_,λu G W c m v D=>b u (L u G W c m v D)⟩;rw[kC];exact⟨(q,t),EL.2 ⟨E,J⟩,Q⟩
       .unfold Ul at V;rcases I with I|I
        .left;rw[I] at V;simp only[kt,jv] at V;split at V
         .rename_i q v;split at V;rename_i q;cases V;refine⟨I,v,λi G O f=>?_⟩;have:=z i G t (aj O) f;rw[q] at this;cases this
          rename_i k q;cases D:BE (Ca ops.toList 0 .nil) (a p) k<;>rw[D] at V<;>cases V;refine⟨I,v,λi G O f=>?_⟩;have:=z i G t (aj O) f;rw[q,IV] at this;cases this;exact r _ _ D
         cases V
        right;rw[I] at V;exact⟨I,V⟩
   intro h;exact absurd rfl h
  intro h;exact absurd rfl h
def J6{T:uK} :∀(a:List Field)(b:List (Nat×aT))(l:List (Nat×Nat×aT)),Bj T a b=Z l->l.map (·.2.2)=b.map (·.2)
 |a,[],l,h=>by simp only[Bj,oy] at h;subst h;rfl
 |a,(i,x)::r,l,h=>by simp only[Bj] at h;split at h;cases h;split at h;rename_i q;cases h;simp[J6 a r _ q];cases h
def Sh{c:Call}(h:x∈(Dj T c).mo):x∈c.operands.toList:=by
 have⟨q,args,u⟩:=c;unfold Dj at h;dsimp only at h;have A:∀y,y∈args.toList->y∈(lq ⟨q,args,u⟩).toList:=by intro y C;have:=qi.1 C;cases q<;>simp[lq,this]
 split at h;rename_i f;simp only[kW.mo,bn] at h;rcases h with rfl|h;simp[lq];exact A x h
 all_goals
  repeat' split at h
  all_goals first
   |(simp only[kW.mo,lT] at h;done)
   |(refine A x ?_;simp only[kW.mo] at h;simp_all;done)
def YP{a:Op}(h:x∈(dR T a).mo):x∈a.operands.toList:=by
 cases a with
 |call c=>exact Sh h
 |build t q=>
  simp only[dR] at h;split at h;split at h;rename_i A _;generalize (A.toList.all λf=>(T f.type).isSome)=bb at h;cases bb<;>simp only[jv,A8] at h;simp[kW.mo] at h;split at h;rename_i l u;simp only[kW.mo] at h;rw[J6 _ _ _ u] at h;simpa [Op.operands] using h;simp[kW.mo] at h;split at h;simp only[kW.mo,bL] at h;simpa [Op.operands,n4] using h;simp[kW.mo] at h;simp[kW.mo] at h;simp[kW.mo] at h
 |buildSlice t n q=>
  simp only[dR] at h
  repeat' split at h
  rename_i e _;generalize (Nat.ble (n*e.size) 1000000&&an e.zero.length e.size)=bb at h;cases bb<;>simp only[jv,A8] at h;simp[kW.mo] at h;simp only[kW.mo,bL] at h;simpa [Op.operands,n4] using h
  all_goals simp[kW.mo] at h
 |slice t y M I G=>
  simp only[dR] at h
  repeat' split at h
  generalize (G.isSome&&I.isNone)=bb at h;cases bb<;>simp only[jv,A8] at h;simp only[kW.mo,bn,kg] at h;simp[Op.operands];simpa [or_assoc] using h;simp[kW.mo] at h
  all_goals simp[kW.mo] at h
 |makeFunc f first X=>
  cases f with
  |func g=>
   simp only[dR] at h;cases C:first.isEmpty<;>rw[C] at h<;>simp only[jv,A8,kW.mo] at h;simp at h;simp[Op.operands];exact .inr (aj h)
  |_=>simp[dR,kW.mo] at h
 |makeMap t r=>cases r<;>simp[dR,kW.mo] at h
 |next u st=>cases st<;>simp[dR,kW.mo] at h<;>simpa [Op.operands] using h
 |fieldAddr t y k=>
  simp only[dR] at h
  repeat' split at h
  rename_i u _;generalize an u.size 0=bb at h;cases bb<;>simp only[jv,A8] at h<;>simp[kW.mo] at h<;>simpa [Op.operands] using h
  all_goals simp[kW.mo] at h
 |binOp a t y z _=>
  simp only[dR] at h
  repeat' split at h
  all_goals first
   |(simp[kW.mo] at h;done)
   |(simp only[kW.mo] at h;simpa [Op.operands] using h)
 |_=>
  simp only[dR] at h
  repeat' split at h
  all_goals first
   |(simp[kW.mo] at h;done)
   |(simp only[kW.mo] at h;simpa [Op.operands] using h)
def Sk{a:Op}{y:aa×az}(u:de e h (dR T a)=Z y):∀cs b,a≠ .select cs b:=by intro cs b q;subst q;simp[dR,de] at u
section
variable{P:bG}{T:uK}{ng:Nat}{l:wq}{F:Nat->Option dm}{s:aD->Env->az->R}
def DF(B:Kq P T ng l F)(X:eC P T)(N:zM P T ng l s)(I:ops[i]?=Z o)(q:dZ F s (cj T ng n ops.toList o) e h=Z (e',h'))(S:ff (jc T ng l) ρ h w)(O:eB ng ρ)(z:ER ρ U a2.tmps)(p:n<=a.tmps.size)(A:∀x∈o.op.operands.toList,ev e x=ev U x/\a.eval x=a2.eval x)(D:b0 o (yielded ops a.tmps)=wanted e (guardOf ops.toList o))(b:ea)(k:List ym)(cs:List ea)(L:List Nat):∃ρ' w' c v,Steps P (lone (on b a (.inRegion ops (i::L)::k)) cs w) (lone (on b (a.put o.dst c) (.inRegion ops L::k)) cs w')/\e'=ik e o.dst v/\VR ρ' v c/\(∀d,o.dst=Z d->d<a.tmps.size)/\ff (jc T ng l) ρ' h' w'/\Ext ρ h w ρ' h' w':=by
 unfold cj at q;cases m:zx ng n ops.toList o;simp only[m,A8] at q;simp[dZ,wanted,de] at q
 .simp only[m,jv] at q;simp only[zx,oD] at m;have⟨⟨j,t⟩,E⟩:=m;have g:∀d,o.dst=Z d->d<a.tmps.size:=by intro d r;rw[r] at j;exact OD (AQ.1 j) p
  unfold dZ at q;dsimp only at q;rw[<-D] at q;cases C:b0 o (yielded ops a.tmps);simp only[C,A8,oy,BM] at q;obtain⟨rfl,rfl⟩:=q;refine⟨ρ,w,undef,_,.one ?_,Q,VR.undef,g,S,.refl ρ h w⟩;have:=Rl (P:=P) (b:=b) (a:=a) (k:=k) (cs:=cs) (w:=w) (ops:=ops) (i:=i) (cH:=L) (by simp[I,C]);rw[I] at this;exact this
  .simp only[C,jv] at q;split at q
   .rename_i f args j;have⟨t,V,W,m⟩:=Me j;split at q
    .rename_i v H j;cases q;have p:c_ ng f=ck/\args.all (c_ ng)=ck:=by rw[V] at E;simp only[Op.operands,lq,W] at E;rw[<-m];simpa using E
     have M:∀x,x∈f::args->x∈o.op.operands.toList:=by intro x u;rw[V];simp only[Op.operands,lq,W];rw[<-m] at u;simpa using u
     have D:=Ih z O args p.2;rw[<-Oo (e:=e) (e':=U) (λx u=>(A x (M x (xV _ u))).1)] at D;have G:=z.eval O p.1;rw[<-(A f (M f (iY ..))).1] at G;have r:t.args.toList.map a.eval=args.map a2.eval:=by rw[m];exact cc λx u=>(A x (M x (xV _ u))).2
     have⟨ρ',w',c,p,q2,t,m⟩:=JO (P:=P) B X N j S O G D I C V W (A f (M f (iY ..))).2 r b k cs (cH:=L);exact⟨ρ',w',c,v,p,Q,q2,g,t,m⟩
    cases q
   .split at q
    .rename_i v H b;cases q;have B:de U h (dR T o.op)=Z (v,h'):=by rw[<-aem (e:=e) (e':=U) (dR T o.op) (λx u=>(A x (YP u)).1)];exact b
     have⟨ρ',w',c,y,j,D,p⟩:=WJ (P:=P) (a:=a2) X S z O o E B;have B:execOp a.eval o=execOp a2.eval o:=execOp_congr o (Sk b) λx u=>(A x (qi.2 u)).2;rw[<-B] at y;have N:=Qe b;rcases y with y|⟨rfl,y⟩
     exact⟨ρ',w',c,v,.one (Ue I C N y),Q,j,g,D,p⟩;exact⟨ρ',w',undef,v,.one (acy I C N y),Q,j,g,D,p⟩
    cases q
end
def Qg{F:Nat->Option dm}{s:aD->Env->az->R}(c:Nat):∀(l:List (cr×List Nat))(e:Env)(h:az)(e':Env)(h':az),nq F s c l e h=Z (e',h')->∃(E:Nat->Env) (H:Nat->az),E 0=e/\H 0=h/\E (cz l)=e'/\H (cz l)=h'/\∀(k:Nat)(o:cr)(a:List Nat),l[k]?=Z (o,a)->dZ F s o (E k) (H k)=Z (E (k+1),H (k+1))/\still (E (k+1)) (H (k+1)) c a=ck
 |[],e,h,e',h',q=>by simp only[nq,oy,BM] at q;obtain⟨rfl,rfl⟩:=q;exact⟨λ_=>e,λ_=>h,Q,Q,Q,Q,λk o a u=>by simp at u⟩
 |(o,a)::r,e,h,e',h',q=>by
  simp only[nq] at q;split at q
  .rename_i C V G;cases A:still C V c a;simp[A] at q
   .simp only[A,jv] at q;have⟨E,H,a,U,l,I,O⟩:=Qg c r C V e' h' q;refine⟨λk=>match k with|0=>e|k+1=>E k,λk=>match k with|0=>h|k+1=>H k,Q,Q,l,I,?_⟩;intro k M y u;cases k with
    |zero=>
     simp only[c9,oy,BM] at u;obtain⟨rfl,rfl⟩:=u;dsimp only;rw[a,U];exact⟨G,A⟩
    |succ k=>exact O k M y (aj u)
  cases q
def aes{o:cr}(q:dZ F s o e h=Z (e',h')):∃v,e'=ik e o.dst v:=by unfold dZ at q;cases u:wanted e o.guard<;>simp only[u,jv,A8] at q;cases q;exact⟨_,Q⟩;split at q;split at q;cases q;exact⟨_,Q⟩;cases q;split at q;cases q;exact⟨_,Q⟩;cases q
def pf{o:kW}(q:o.kind<=2):∀f args,o≠ .call f args:=by intro f args e;subst e;simp[kW.kind] at q
def QY{o:cr}(C:o.op.kind<=1)(q:dZ F s o e h=Z (e',h')):h'=h:=by unfold dZ at q;cases A:wanted e o.guard<;>simp only[A,jv,A8] at q;cases q;rfl;split at q;rename_i f args y;exact absurd y (pf ab f args);split at q;rename_i u;cases q;rcases Nat.le_one_iff_eq_zero_or_eq_one.1 C with m|V;exact(NA m u).1;exact(Gk V u).1;cases q
def NF{o:cr}(G:o.op.kind<=2)(q:dZ F s o e h=Z (e',h')):h'=h\/∃x,h'=h.new x:=by
 by_cases V:o.op.kind<=1;exact jZ (QY V q)
 .have C:o.op.kind=2:=ab
  unfold dZ at q;cases y:wanted e o.guard<;>simp only[y,jv,A8] at q;cases q;exact jZ rfl;split at q;rename_i f args u;exact absurd u (pf ab f args);split at q;rename_i A;cases q;have⟨_,cs,_,h,_⟩:=DE C A;exact kd ⟨_,h⟩;cases q
def alr(o:kW):o.kind<=3:=by cases o<;>simp[kW.kind]
def Rest(c:Nat)(o:qe):Prop:=(∃cs q a s,o=.bZ cs q a s/\s<=c)\/o=.map []
def mN{e:Env}{h:az}{c:Nat} :∀ {l:List Nat},still e h c l=ck->∀t∈l,∀b,leads (bY e t)=Z b->∃o,h.tr.get b=Z o/\Rest c o
 |[],_,t,C,_,_=>by simp at C
 |u::r,q,t,C,b,A=>by unfold still at q;rcases bn.1 C with rfl|C;split at q;rename_i y;rw[y] at A;cases A;split at q;rename_i cs I o s G;rw[oD] at q;exact⟨_,G,jZ ⟨cs,I,o,s,Q,Uz q.1⟩⟩;cases q;rename_i y;rw[y] at A;cases A;split at q;rename_i cs I o s G;rw[oD] at q;exact⟨_,G,jZ ⟨cs,I,o,s,Q,Uz q.1⟩⟩;cases q;rename_i y;rw[y] at A;cases A;split at q;rename_i G;exact⟨_,G,kd Q⟩;cases q;rename_i y;rw[y] at A;cases A;rename_i y;rw[y] at A;cases A;rename_i y;rw[y] at A;cases A;rename_i y;rw[y] at A;cases A;cases q;split at q;split at q;rw[oD] at q;exact mN q.2 t C b A;cases q;split at q;rw[oD] at q;exact mN q.2 t C b A;cases q;split at q;exact mN q t C b A;cases q;exact mN q t C b A;exact mN q t C b A;exact mN q t C b A;exact mN q t C b A;cases q
def QR(l:List Nat)(e:Env):Env:=l.foldl Tr.del e
def Np(l:List Nat)(tmps:Array aa):Array aa:=l.foldl (λx t=>x.setIfInBounds t undef) tmps
def DD:∀(l:List Nat)(e:Env)(t:Nat),bY (QR l e) t=if t∈l then .tuple #[] else bY e t
 |[],e,t=>by simp[QR]
 |u::l,e,t=>by rw[QR,o0,<-QR,DD l];by_cases V:t∈l;simp[V];rw[bM V];unfold bY;rw[Tr.mT];by_cases q:t=u;subst q;simp;simp[V,q]
def DC:∀(l:List Nat)(a:Array aa)(t:Nat),(Np l a).getD t undef=if t∈l then undef else a.getD t undef
 |[],a,t=>by simp[Np]
 |u::l,a,t=>by rw[Np,o0,<-Np,DC l];by_cases V:t∈l;simp[V];rw[bM V];by_cases q:t=u;subst q;simp only[bn,true_or,if_true];rw[bA,gN];simp only[if_true];split<;>rfl;simp[V,q,bA,gN,cE q]
def ff.grow(S:ff CC ρ h w)(o:qe):ff CC ρ (h.new o) w/\Ext ρ h w ρ (h.new o) w:=by
 have y:∀b r,ρ b=Z r->(h.new o).tr.get b=h.tr.get b:=by intro b r q;have:=(S.low b r q).1;simp only[az.new,Tr.bN];rw[bM ab]
 have c:∀b r,ρ b=Z r->gh (h.new o) b->gh h b:=λb r q ⟨x,u,M⟩=>⟨x,by rwa [y b r q] at u,M⟩;refine⟨⟨λb r q=>⟨?_,(S.low b r q).2⟩,λb r x q u=>S.obj b r x q (by rwa [y b r q] at u),λb a r G x q C A u O=>S.inj b a r G x q C (c b r q A) (by rwa [y a G C] at u) O,?_⟩,⟨ρ.le_refl,by simp[az.new],fq _,Q,Q,Q,λ_ _ _=>rfl,λb r q A=>kd ⟨b,r,q,c b r q A,Q⟩,λb r V I=>(by rw[V] at I;cases I),λb r x q u=>kd ⟨b,r,x,q,by rwa [y b r q] at u,Q⟩⟩⟩
 have:=(S.low b r q).1;simp only[az.new];omega;intro b x u;simp only[az.new,Tr.bN] at u⊢;by_cases e:b=h.aw;omega;rw[bM e] at u;have:=S.wf b x u;omega
section
variable{P:bG}{T:uK}{ng:Nat}{b:wq}{F:Nat->Option dm}{s:aD->Env->az->R}{n c:Nat}{ops:Array cQ}{O:Nat->Nat}{l:List (cr×List Nat)}{E:Nat->Env}{H:Nat->az}
def LB(F:Nat->Option dm)(s:aD->Env->az->R)(T:uK)(ng n:Nat)(ops:Array cQ)(O:Nat->Nat)(E:Nat->Env)(H:Nat->az):Prop:=
 ∀(p:Nat)(o:cQ),p<ops.size->ops[O p]?=Z o->dZ F s (cj T ng n ops.toList o) (E p) (H p)=Z (E (p+1),H (p+1))
def JP{d:Nat}(h:(cj T ng n ops.toList o).dst=Z d):o.dst=Z d:=by unfold cj at h;cases q:zx ng n ops.toList o<;>rw[q] at h;cases h;exact h
def lJ.op(q:lJ T ng n ops O l)(u:p<ops.size):∃o,ops[O p]?=Z o:=⟨_,og (q.bound p u)⟩
def lJ.YE(C:lJ T ng n ops O l)(h:Ko ops i j):∀p,p<ops.size->O p=i->∃q,q<p/\O q=j:=by
 induction h with
 |Pk y h=>intro p u A;subst A;exact C.lower p _ u y _ h
 |yH y h _ s=>
  intro p u A;subst A;have⟨a,M,G⟩:=C.lower p _ u y _ h;have⟨q,u,I⟩:=s a ab G;exact⟨q,ab,I⟩
def Bn(C:LB F s T ng n ops O E H)(M:lJ T ng n ops O l){a t:Nat} :∀(b:Nat),a<=b->b<=ops.size->(∀(k:Nat)(o:cQ),a<=k->k<b->ops[O k]?=Z o->o.dst≠Z t)->bY (E b) t=bY (E a) t:=by
 intro b;induction b with
 |zero=>intro h _ _;rw[tO.1 h]
 |succ b q=>
  intro u U y;by_cases G:a=b+1;rw[G];have⟨o,u⟩:=M.op (p:=b) ab;have⟨v,I⟩:=aes (C b _ ab u);rw[I,<-q ab ab (λk o V q q=>y k o V ab q)];rcases A:(cj T ng n ops.toList o).dst with _|d;rfl;simp only[ik,Env.bN];have:=y b _ ab ab u;rw[JP A] at this;rw[bM (λ(e:t=d)=>this (by rw[e]))]
def UO(T:uK)(ng n:Nat)(ops:Array cQ)(O:Nat->Nat)(a b:Nat):Prop:=
 ∀(k:Nat)(o:cQ),a<=k->k<b->ops[O k]?=Z o->(cj T ng n ops.toList o).op.kind≠3
def Tl{o:kW}(h:o.kind≠3):o.kind<=2:=av (alr o)
def Xu(I:LB F s T ng n ops O E H)(c:lJ T ng n ops O l){a x:Nat}(W:x<(H a).aw):∀(b:Nat),a<=b->b<=ops.size->UO T ng n ops O a b->(H b).tr.get x=(H a).tr.get x/\(H a).aw<=(H b).aw:=by
 intro b;induction b with
 |zero=>intro h _ _;rw[tO.1 h];exact⟨Q,fq _⟩
 |succ b u=>
  intro q U G;by_cases q:a=b+1;rw[q];exact⟨Q,fq _⟩;have⟨o,A⟩:=c.op (p:=b) ab;have⟨V,C⟩:=u ab ab (λk o V C M=>G k o V ab M);rcases NF (Tl (G b _ ab ab A)) (I b _ ab A) with q|⟨y,q⟩;rw[q];exact⟨V,C⟩;rw[q,<-V];simp only[az.new,Tr.bN];rw[bM ab];exact⟨Q,ab⟩
def Uh(q:LB F s T ng n ops O E H)(W:lJ T ng n ops O l){a:Nat}(S:ff CC ρ (H a) w):∀(b:Nat),a<=b->b<=ops.size->UO T ng n ops O a b->ff CC ρ (H b) w/\Ext ρ (H a) w ρ (H b) w:=by
 intro b;induction b with
 |zero=>intro h _ _;rw[<-tO.1 h];exact⟨S,.refl _ _ _⟩
 |succ b u=>
  intro k k I;by_cases M:a=b+1;rw[<-M];exact⟨S,.refl _ _ _⟩;have⟨o,A⟩:=W.op (p:=b) ab;have⟨C,G⟩:=u ab ab (λk o V u U=>I k o V ab U);rcases NF (Tl (I b _ ab ab A)) (q b _ ab A) with q|⟨y,q⟩;rw[q];exact⟨C,G⟩;rw[q];have⟨q,k⟩:=C.grow y;exact⟨q,G.trans k⟩
def wa(C:jd s)(y:LB F s T ng n ops O E H)(I:lJ T ng n ops O l){a:Nat} :∀(b:Nat),a<=b->b<=ops.size->fm (H a) (H b):=by
 intro b;induction b with
 |zero=>intro h _;rw[tO.1 h];exact .refl _
 |succ b q=>
  intro G u;by_cases A:a=b+1;rw[A];exact .refl _;have⟨o,u⟩:=I.op (p:=b) ab;exact(q ab ab).trans (CU C (y b _ ab u))
def LR(r:jd s)(C:LB F s T ng n ops O E H)(y:lJ T ng n ops O l)(B:∀(k:Nat)(m:cr)(g:List Nat),l[k]?=Z (m,g)->still (E (k+1)) (H (k+1)) c g=ck)(q:c<(H 0).clock){p q:Nat}(w:p<q)(w:q<=ops.size)(z:ops[O p]?=Z o)(D:(cj T ng n ops.toList o).op.kind=1\/(cj T ng n ops.toList o).op.kind=2)(I:∀(u:Nat)(d:cQ),p<u->u<q->ops[O u]?=Z d->(cj T ng n ops.toList d).op.kind=3->¬Ko ops (O u) (O p)){b:Nat}(V:(cj T ng n ops.toList o).op.kind=1->∀t,(cj T ng n ops.toList o).op.through=Z (.tmp t)->(∀(i:Nat)(d:cQ),ops[i]?=Z d->d.dst=Z t->Ko ops (O p) i)->leads (bY (E p) t)=Z b)(h:(cj T ng n ops.toList o).op.kind=2->∀t,(cj T ng n ops.toList o).dst=Z t->leads (bY (E (p+1)) t)=Z b)(x:b<(H (p+1)).aw):(H q).tr.get b=(H (p+1)).tr.get b:=by
 by_cases v:UO T ng n ops O (p+1) q;exact(Xu C y x q ab w v).1
 .have P:∃(u:Nat) (d:cQ),p<u/\u<q/\ops[O u]?=Z d/\(cj T ng n ops.toList d).op.kind=3:=by apply eK;intro L;exact v λu d v j f e=>L ⟨u,d,ab,j,f,e⟩
  have⟨u,d,v,j,f,e⟩:=P;rcases y.still p o ab z D with N|⟨A,t,m,g,D,D,L,X,D,P⟩;exact absurd (N u d v ab f e) (I u d v j f e)
  .have N:leads (bY (E (A+1)) t)=Z b:=by
    rcases D with⟨e,D,v⟩|⟨e,W⟩;rw[Bn C y (a:=p) (A+1) ab ab (λk j d u f W=>?_)];exact V e t D v;obtain⟨D,S,S⟩:=y.YE (v (O k) j f W) p ab rfl;have:=y.inj D k ab ab S;omega
    rw[Bn C y (a:=p+1) (A+1) ab ab (λk j d u f u=>?_)];exact h e t W;have:=y.inj p k ab ab (y.once (O p) (O k) o j t z f (JP W) u);omega
   have⟨z,G,f⟩:=mN (B A m g L) t X b N;have g:∀a,a<=A+1->b<(H a).aw->(H a).tr.get b=Z z:=by
    intro a z m;have U:=wa r C y (a:=a) (A+1) z ab;have L:=wa r C y (a:=0) a ab ab;rcases f with⟨cs,B,N,z,rfl,f⟩|rfl
    exact U.cg b cs B N z m G (av L.clock);exact U.mp b m G
   rw[g (p+1) ab x];have x:∀a,p+1<=a->a<=ops.size->b<(H a).aw:=λa V h=>av ((wa r C y (a:=p+1) a V h).aw)
   by_cases h:q<=A+1;exact g q h (x q ab w);have:=(Xu C y (x (A+1) ab ab) q ab w (λk M w x w q=>av (P k M ab ab w q (I k M ab x w q)))).1;rw[this,G]
def XJ:aa->Nat
 |eU (Z ⟨b,_,_⟩)=>b+1
 |dB (Z ⟨b,_,_⟩) _ _=>b+1
 |.map (Z m)=>m+1
 |_=>0
def QJ:aa->Nat
 |.func (.yield l) _ _=>l+1
 |.func _ _ X=>(X.toList.map XJ).foldl (· + ·) 0
 |v=>XJ v
def foldl_add:∀(l:List Nat)(a:Nat),a<=l.foldl (· + ·) a/\∀x∈l,x<=l.foldl (· + ·) a
 |[],a=>⟨fq _,λ_ h=>by simp at h⟩
 |y::l,a=>by have⟨V,u⟩:=foldl_add l (a+y);simp only[o0];refine⟨ab,λx q=>?_⟩;rcases bn.1 q with rfl|q;omega;exact u x q
def CR.off{y A:fZ}(q:∀x,x≠N->y x=A x){v c:aa}(u:XJ v<=N)(h:CR y v c):CR A v c:=by
 cases h with
 |bool=>exact .bool _
 |int=>exact .int _ _
 |str=>exact .str _
 |zw=>exact .zw
 |ptr h=>simp only[XJ] at u;exact .ptr (by rw[<-q _ ab];exact h)
 |gQ=>exact .gQ _ _
 |slice h C=>simp only[XJ] at u;exact .slice (by rw[<-q _ ab];exact h) C
 |uC=>exact .uC
 |map h=>simp only[XJ] at u;exact .map (by rw[<-q _ ab];exact h)
 |vM=>exact .vM
 |qE=>exact .qE
def KR.off{A G:fZ}{N:Nat}(u:∀x,x≠N->A x=G x){v c:aa}(q:QJ v<=N)(h:KR A v c):KR G v c:=by
 cases h with
 |cell h=>
  refine .cell (h.off u ?_);cases h<;>first|exact q|exact hQ _
 | @fn f l m h=>
  simp only[QJ] at q;refine .fn f ?_;have C:∀x∈l,XJ x<=N:=λx y=>qN ((foldl_add (l.map XJ) 0).2 _ (kC.2 ⟨x,y,Q⟩)) q;clear q;induction h with
  |nil=>exact .nil
  |cons V _ s=>exact .cons (V.off u (C _ (iY ..))) (s λx y=>C x (xV _ y))
 |yield h=>simp only[QJ] at q;exact .yield (by rw[<-u _ ab];exact h)
end
def VR.alD{s:Mk}{c:aa}(h:VR ρ (O0 s N) c):∃y,ρ N=Z y/\∀(u:fZ)(M:Nat),u M=Z y->VR u (O0 s M) c:=by
 cases s with
 |ptr=>
  cases h with
  |val h=>cases h with
   |cell h=>cases h with
    |cell h=>cases h with
     | @ptr _ _ r h=>exact⟨r,h,λu M q=>.val (.cell (.cell (.ptr q)))⟩
 |sl l C=>
  cases h with
  |val h=>cases h with
   |cell h=>cases h with
    |cell h=>cases h with
     | @slice _ _ _ _ _ _ r h A=>exact⟨r,h,λu M q=>.val (.cell (.cell (.slice q A)))⟩
 |mp=>
  cases h with
  |val h=>cases h with
   |cell h=>cases h with
    |cell h=>cases h with
     | @map _ r h=>exact⟨r,h,λu M q=>.val (.cell (.cell (.map q)))⟩
def adY(s:Mk)(N:Nat):leads (O0 s N)=Z N:=by cases s<;>rfl
structure Stood(w w':bQ):Prop where
 size:w.heap.size<=w'.heap.size
 os:w'.os=w.os
 tape:w'.tape=w.tape
 output:w'.output=w.output
 Ag:∀k,k<w.heap.size->w'.heap[k]?=w.heap[k]?
def ff.stood(S:ff CC ρ h w)(W:Stood w w'):ff CC ρ h w':=
 ⟨λb r q=>⟨(S.low b r q).1,OD (S.low b r q).2 W.size⟩,λb r o q u=>jR.mono ρ.le_refl (W.Ag _ (S.low b r q).2) (S.obj b r o q u),S.inj,S.wf⟩
def Ext.stood{G ρ ρ':fZ}{q w w':bQ}(X:Ext G m q ρ h w)(W:Stood w w')(I:ρ.le ρ')(u:∀x r,ρ' x=Z r->ρ x=K->x=N/\w.heap.size<=r.bZ)(a:m.aw<=N):Ext G m q ρ' h w':=by
 have y:∀x r,ρ' x=Z r->ρ x=Z r\/(x=N/\w.heap.size<=r.bZ):=by intro x r q;rcases A:ρ x with _|O;exact kd (u x r q A);have:=I x O A;rw[q] at this;exact jZ this.symm
 refine⟨fZ.le_trans X.le I,X.aw,qN X.size W.size,W.os.trans X.os,W.tape.trans X.tape,W.output.trans X.output,?_,?_,?_,?_⟩;intro k C U;rw[W.Ag k (OD C X.size)];exact X.Ag k C U;intro x r q k;rcases y x r q with h|⟨_,h⟩;exact X.own x r h k;exact jZ (qN X.size h);intro x r q k;rcases y x r q with h|⟨rfl,_⟩;exact X.new x r h k;exact a;intro x r o q M;rcases y x r q with h|⟨_,h⟩;exact X.live x r o h M;exact jZ (qN X.size h)
section
variable{P:bG}{T:uK}{ng:Nat}{E:wq}{F:Nat->Option dm}{s:aD->Env->az->R}
def Sl{ops:List cQ}(q:(cj T ng n ops o).op.kind≠3):cj T ng n ops o= { dst:=o.dst,guard:=guardOf ops o,op:=dR T o.op } :=by unfold cj at q⊢;cases u:zx ng n ops o;rw[u] at q;exact absurd rfl q;rfl
def YC(hF:Kq P T ng E F)(hT:eC P T)(hI:zM P T ng E s)(ho:ops[i]?=Z o){m V G:az}(hk:(cj T ng n ops.toList o).op.kind=2)(hc:dZ F s (cj T ng n ops.toList o) e m=Z (e',V))(S:ff (jc T ng E) ρ G w)(hG:eB ng ρ)(hE:ER ρ U a2.tmps)(hn:n<=a.tmps.size)(u:∀x∈o.op.operands.toList,ev e x=ev U x/\a.eval x=a2.eval x)(KM:b0 o (yielded ops a.tmps)=wanted e (guardOf ops.toList o))(VL:m.aw<V.aw->ρ m.aw=K)(VU:o.dst.isSome=ck->m.aw<V.aw->G.tr.get m.aw=V.tr.get m.aw)(hle:V.aw<=G.aw)(b':ea)(k':List ym)(cs:List ea)(cH:List Nat):∃ρ' w' c1 v,Steps P (lone (on b' a (.inRegion ops (i::cH)::k')) cs w) (lone (on b' (a.put o.dst c1) (.inRegion ops cH::k')) cs w')/\e'=ik e o.dst v/\VR ρ' v c1/\(∀d,o.dst=Z d->d<a.tmps.size)/\ff (jc T ng E) ρ' G w'/\ρ.le ρ'/\(∀x,ρ x=K->(m.aw<V.aw->x≠m.aw)->ρ' x=K)/\(∀(ρ0:fZ)(p:az)(w0:bQ),p.aw<=m.aw->Ext ρ0 p w0 ρ G w->Ext ρ0 p w0 ρ' G w'):=by
 have hcm:=Sl (T:=T) (ng:=ng) (n:=n) (ops:=ops.toList) (o:=o) (by rw[hk];decide);have hnc:=pf (o:=(cj T ng n ops.toList o).op) ab;cases hw:wanted e (cj T ng n ops.toList o).guard
 .have k:dZ F s (cj T ng n ops.toList o) e G=Z (e',G):=by unfold dZ at hc⊢;simp only[hw,A8,oy,BM] at hc⊢;exact⟨hc.1,trivial⟩
  have⟨l,M,cv,v,t,J',ZW,z8,B,C⟩:=DF hF hT hI ho k S hG (a:=a) (a2:=a2) hE hn u KM b' k' cs cH;refine⟨l,M,cv,v,t,J',ZW,z8,B,C.le,?_,λρ0 p w0 _ X=>X.trans C⟩;intro x u _;rcases hp:l x with _|r;rfl;have D:=C.new x r hp u;have O:=(B.low x r hp).1;omega
 .have k:=hc;unfold dZ at k;simp only[hw,jv] at k;split at k
  .rename_i v0 nu Is;simp only[oy,BM] at k;obtain⟨H,rfl⟩:=k;obtain⟨c,f,rfl,rfl,ao3⟩:=DE hk Is;have iK:m.aw<(m.new (ON c f)).aw:=by simp[az.new]
   have Qz:=VL iK
   let N:=G.aw+(f.map QJ).foldl (· + ·) 0
   let b:az:=⟨N,0,.nil⟩
   have SZ:ff (jc T ng E) ρ b w:=by
    refine⟨λx r q=>⟨?_,(S.low x r q).2⟩,λx r y _ g=>?_,λx y r r' z _ _ _ hz _=>?_,λx y g=>?_⟩;have:=(S.low x r q).1;show x<G.aw+_;omega
    simp[b,Tr.get] at g;simp[b,Tr.get] at hz;simp[b,Tr.get] at g
   have hcZ:dZ F s (cj T ng n ops.toList o) e b=Z (ik e (cj T ng n ops.toList o).dst (O0 c N),b.new (ON c f)):=by unfold dZ;simp only[hw,jv];rw[ao3 b]
   have⟨l,M,cv,v,t,J',ZW,z8,B,C⟩:=DF hF hT hI ho hcZ SZ hG (a:=a) (a2:=a2) hE hn u KM b' k' cs cH;have I:Stood w M:=⟨C.size,C.os,C.tape,C.output,λj hj=>C.Ag j hj (λx r _ ⟨y,g,_⟩=>by simp[b,Tr.get] at g)⟩;have hdd:(cj T ng n ops.toList o).dst=o.dst:=by rw[hcm]
   rw[hdd] at J' H;rcases hd:o.dst with _|d;rw[hd] at t H;refine⟨ρ,M,undef,.tuple #[],t,H.symm,VR.undef,λd h=>(by cases h),S.stood I,ρ.le_refl,λx u _=>u,?_⟩;intro ρ0 p w0 W X;exact X.stood I (N:=m.aw) ρ.le_refl (λx r D O=>by rw[D] at O;cases O) W
   .rw[hd] at t H J';have hvN:v=O0 c N:=by have:=congrArg (λen:Env=>bY en d) J';simp only[ik,Env.bN,if_true] at this;exact this.symm
    rw[hvN] at ZW;have⟨A,S9,hmk⟩:=ZW.alD;have HE:=yZ (r:=A) Qz;have amX:(b.new (ON c f)).tr.get N=Z (ON c f):=by simp only[az.new,Tr.bN];rw[bK rfl]
    have auS:G.tr.get m.aw=Z (ON c f):=by rw[VU (by rw[hd];rfl) iK];simp only[az.new,Tr.bN,if_true]
    have hblk:w.heap.size<=A.bZ:=by rcases C.live N A _ S9 amX with h|⟨_,_,_,_,h,_⟩;exact h;simp[b,Tr.get] at h
    have hρ1:∀x,x≠N->l x=ρ x:=by
     intro x hxN;rcases hp:ρ x with _|r;rcases tN:l x with _|r;rfl;have D:=C.new x r tN hp;have O:=(B.low x r tN).1;simp only[az.new,b] at D O;omega
     exact C.le x r hp
    have ahn:jR (jc T ng E) (lv ρ m.aw A) A (ON c f) M:=by
     have hO:=B.obj N A _ S9 amX;have hB:jR (jc T ng E) l A (.bZ f cd 0 0) M->jR (jc T ng E) (lv ρ m.aw A) A (.bZ f cd 0 0) M:=by rintro⟨gm,el,fr,q1,q2,q3,q5,q6,q7⟩;refine⟨gm,el,fr,q1,q2,q3,q5,q6,λj v' hj=>?_⟩;have⟨c',k,Pu⟩:=q7 j v' hj;refine⟨c',k,KR.mono HE (Pu.off hρ1 ?_)⟩;have:=(foldl_add (f.map QJ) 0).2 (QJ v') (kC.2 ⟨v',cO hj,Q⟩);show QJ v'<=G.aw+_;omega
     cases c with
     |ptr=>exact hB hO
     |sl l' c1=>exact hB hO
     |mp=>
      have⟨jP,cl,q1,q2,q3⟩:=hO;refine⟨jP,cl,q1,?_,q3⟩;generalize jP.toList=L at q2⊢;cases q2;exact .nil
    have iD:∀x r,lv ρ m.aw A x=Z r->(x=m.aw/\r=A)\/(x≠m.aw/\ρ x=Z r):=by intro x r u;unfold lv at u;by_cases e:x=m.aw;rw[bK e] at u;cases u;exact jZ ⟨e,Q⟩;rw[bM e] at u;exact kd ⟨e,u⟩
    refine⟨lv ρ m.aw A,M,cv,O0 c m.aw,t,H.symm,hmk _ _ (by simp[lv]),λd' h=>z8 d' (by rw[hd];exact h),?_,HE,?_,?_⟩;refine⟨λx r q=>?_,λx r y q g=>?_,λx y r r' z q gY hwz hz eV=>?_,S.wf⟩;rcases iD x r q with⟨rfl,rfl⟩|⟨_,q⟩;exact⟨ab,(B.low N r S9).2⟩;exact⟨(S.low x r q).1,OD (S.low x r q).2 I.size⟩;rcases iD x r q with⟨rfl,rfl⟩|⟨_,q⟩;rw[auS] at g;cases g;exact ahn;exact jR.mono HE (I.Ag _ (S.low x r q).2) (S.obj x r y q g);rcases iD x r q with⟨ex,er⟩|⟨_,q⟩<;>rcases iD y r' gY with⟨ey,er'⟩|⟨_,gY⟩;exact absurd (ex.trans ey.symm) eV;have:=(S.low y r' gY).2;rw[er];omega;have:=(S.low x r q).2;rw[er'];omega;exact S.inj x y r r' z q gY hwz hz eV
    intro x u QD;unfold lv;rw[bM (QD iK)];exact u;intro ρ0 p w0 W X;refine X.stood I (N:=m.aw) HE (λx r D O=>?_) W;rcases iD x r D with⟨ex,er⟩|⟨_,g3⟩;exact⟨ex,by rw[er];exact hblk⟩;rw[g3] at O;cases O
  cases k
end
section
variable{P:bG}{T:uK}{ng:Nat}{O:wq}{F:Nat->Option dm}{s:aD->Env->az->R}{n c:Nat}{ops:Array cQ}{u:Nat->Nat}{l:List (cr×List Nat)}{E:Nat->Env}{H:Nat->az}
def Ij{tmps:Array aa}(u:ops[j]?=Z o)(q:o.dst=Z t):yielded ops tmps j=match tmps.getD t undef with|dC b=>Z b|_=>K:=by
 simp only[yielded,u,r5,q];rw[bA];rcases tmps[t]? with _|v;rfl;cases v<;>rfl
def YD{u:cr}(A:u.op.kind=2)(q:dZ F s u e m=Z (e',V))(b:m.aw<V.aw):∀t,u.dst=Z t->leads (bY e' t)=Z m.aw:=by
 intro t a;have G:=pf (o:=u.op) ab;unfold dZ at q;cases y:wanted e u.guard
 simp only[y,A8,oy,BM] at q;rw[q.2] at b;omega;simp only[y,jv] at q;split at q;rename_i U O M;simp only[oy,BM] at q;have⟨I,_⟩:=q;have⟨b,c,C,_,_⟩:=DE A M;rw[<-I,a,C];simp only[ik,Env.bN,if_true];exact adY b _;cases q
def aqF(q:dZ F s (cj T ng n ops.toList o) e h=Z (e',h')):zx ng n ops.toList o=ck:=by unfold cj at q;cases u:zx ng n ops.toList o;rw[u] at q;simp[dZ,wanted,de] at q;rfl
open Classical in
def agt(hF:Kq P T ng O F)(hT:eC P T)(hI:zM P T ng O s)(hK:jd s)(hq:LB F s T ng n ops u E H)(C:lJ T ng n ops u l)(Td:∀(k:Nat)(ao:cr)(qv:List Nat),l[k]?=Z (ao,qv)->still (E (k+1)) (H (k+1)) c qv=ck)(JY:c<(H 0).clock)(hwf:WF (H 0))(N:ea)(kk:List ym)(cs:List ea)(ρ0:fZ)(w0:bQ):∀(D:Nat->Prop)(L:List Nat),Ord ops D L->(∀i o,ops[i]?=Z o->D i->∀k∈jt .any o,D k)->∀(ρ:fZ)(w:bQ)(a:Act)(q1:Nat),q1<=ops.size->(∀(p:Nat)(f:cQ),p<ops.size->ops[u p]?=Z f->(cj T ng n ops.toList f).op.kind=3->(D (u p)↔p<q1))->ff (jc T ng O) ρ (H q1) w->eB ng ρ->n<=a.tmps.size->Ext ρ0 (H 0) w0 ρ (H q1) w->(∀(p:Nat)(o:cQ)(t:Nat),p<ops.size->ops[u p]?=Z o->o.dst=Z t->D (u p)->VR ρ (bY (E (p+1)) t) (a.tmps.getD t undef))->(∀t,(∀(i:Nat)(o:cQ),ops[i]?=Z o->o.dst=Z t->¬D i)->VR ρ (bY (E 0) t) (a.tmps.getD t undef))->(∀(p:Nat)(o:cQ),p<ops.size->ops[u p]?=Z o->(cj T ng n ops.toList o).op.kind=2->¬D (u p)->(H p).aw<(H (p+1)).aw->ρ (H p).aw=K)->∃ρ' w' a',Steps P (lone (on N a (.inRegion ops L::kk)) cs w) (lone (on N a' (.inRegion ops []::kk)) cs w')/\ff (jc T ng O) ρ' (H ops.size) w'/\ER ρ' (E ops.size) a'.tmps/\a'.tmps.size=a.tmps.size/\a'.defers=a.defers/\Ext ρ0 (H 0) w0 ρ' (H ops.size) w':=by
 have J0:∀a N,a<=N->N<=ops.size->(H a).aw<=(H N).aw:=λa N V y=>(wa hK hq C N V y).aw;intro D L hO;induction hO with
 | @nil D q=>
  intro hDc ρ w a q1 OL hDq S hG hn X hv hv0 VL;have eV:UO T ng n ops u q1 ops.size:=by intro k o V y A b;have:=(hDq k o y A b).1 (q _ (C.bound k y));omega
  have⟨S1,X1⟩:=Uh hq C S ops.size OL (fq _) eV;refine⟨ρ,w,a,Steps.refl P _,S1,?_,Q,Q,X.trans X1⟩;intro t;by_cases O':∃(i:Nat) (o:cQ),ops[i]?=Z o/\o.dst=Z t;have⟨i,o,M,hd⟩:=O';obtain⟨p,hp,rfl⟩:=C.aik i (db.1 M).1;have:=hv p o t hp M hd (q _ (C.bound p hp));rwa [<-Bn hq C ops.size (a:=p+1) ab (fq _) (λk m V y A b=>av (C.inj p k hp y (C.once (u p) (u k) o m t M A hd b)))] at this
  have:=hv0 t (λi o V y=>absurd ⟨i,o,V,y⟩ O');rwa [<-Bn hq C ops.size (a:=0) ab (fq _) (λk m V y A b=>O' ⟨u k,m,A,b⟩)] at this
 | @cons D i L o M vo he hl ihl=>
  intro hDc ρ w a q1 OL hDq S hG hn X hv hv0 VL;have S9:i<ops.size:=(db.1 M).1;have⟨p,hp,hpi⟩:=C.aik i S9;subst hpi;have age:∀j,Ko ops (u p) j->D j:=λj q=>q.closed hDc (λf xk=>by rw[M] at xk;cases xk;exact he);have abE:∀j,Ko ops j (u p)->¬D j:=by
   intro j q hDj;have B:∃G,ops[j]?=Z G:=by
    cases q with
    |Pk h _=>exact⟨_,h⟩
    |yH h _ _=>exact⟨_,h⟩
   have⟨G,W⟩:=B;exact vo (q.closed hDc (λf xk=>hDc j f xk hDj))
  have Um:∀t,(∀(j:Nat)(G:cQ),ops[j]?=Z G->G.dst=Z t->Ko ops (u p) j\/Ko ops j (u p))->VR ρ (bY (E p) t) (a.tmps.getD t undef):=by
   intro t I;by_cases O':∃(j:Nat) (G:cQ),ops[j]?=Z G/\G.dst=Z t
   .have⟨j,G,W,hdj⟩:=O';obtain⟨pj,ZI,rfl⟩:=C.aik j (db.1 W).1;rcases I _ G W hdj with q|q;have⟨B,iK,z⟩:=C.YE q p hp rfl;have:=C.inj B pj ab ZI z;subst this;have:=hv B G t ZI W hdj (age _ q);rwa [<-Bn hq C p (a:=B+1) ab ab (λk m V y A b=>av (C.inj B k ZI ab (C.once _ _ G m t W A hdj b)))] at this
    have⟨pp,iK,z⟩:=C.YE q pj ZI rfl;have hpp:=C.inj pp p ab hp z;subst hpp;have:=hv0 t (λj' oj' V y=>by rw[C.once j' (u pj) oj' G t V W y hdj];exact abE _ q);rwa [<-Bn hq C pp (a:=0) ab ab (λk m V y A b=>av (C.inj pj k ZI ab (C.once _ _ G m t W A hdj b)))] at this
   have:=hv0 t (λj G V y=>absurd ⟨j,G,V,y⟩ O');rwa [<-Bn hq C p (a:=0) ab ab (λk m V y A b=>O' ⟨u k,m,A,b⟩)] at this
  let UZ:List Nat:=(ops.toList.filterMap (·.dst)).filter λt=>decide (¬VR ρ (bY (E p) t) (a.tmps.getD t undef))
  have aBG:∀t,t∉UZ->VR ρ (bY (E p) t) (a.tmps.getD t undef):=by intro t I;by_cases O':∃(j:Nat) (G:cQ),ops[j]?=Z G/\G.dst=Z t;have⟨j,G,W,hdj⟩:=O';apply eK;intro eV;refine I (EL.2 ⟨List.mem_filterMap.2 ⟨G,?_,hdj⟩,aj eV⟩);exact cO (i:=j) (aj W);exact Um t (λj G V y=>absurd ⟨j,G,V,y⟩ O')
  have amY:∀t,VR ρ (bY (E p) t) (a.tmps.getD t undef)->t∉UZ:=by intro t I B;have:=(EL.1 B).2;simp only[decide_eq_true_eq] at this;exact this I
  let U:=QR UZ (E p)
  let a2:Act:= {a with tmps:=Np UZ a.tmps}
  have hE2:ER ρ U a2.tmps:=by
   intro t;show VR ρ (bY (QR UZ (E p)) t) ((Np UZ a.tmps).getD t undef);rw[DD,DC];by_cases I:t∈UZ
   rw[bK I,bK I];exact VR.undef;rw[bM I,bM I];exact aBG t I
  have I9:∀x∈o.op.operands.toList,ev (E p) x=ev U x/\a.eval x=a2.eval x:=by
   intro x hx;cases x with
   |tmp t=>
    have I:=amY t (Um t (λj G V y=>C.reads (u p) o t M hx j G V y));simp only[ev,Act.eval,U,a2];rw[DD,DC,bM I,bM I];exact⟨Q,Q⟩
   |_=>exact⟨Q,Q⟩
  have ady:=hq p o hp M;have fu:=aqF ady;have KM:b0 o (yielded ops a.tmps)=wanted (E p) (guardOf ops.toList o):=by
   unfold guardOf;rcases I8:o.guard with _|x;simp[b0,I8,wanted];have⟨g,bb⟩:=x;dsimp only;have hgs:(Jw ops.toList g).isSome=ck:=by simp only[zx,oD,I8] at fu;exact fu.1.2
   have⟨t,I⟩:=iH.1 hgs;have aBE:=C.guard (u p) o g bb M I8;have z8:∃B,ops[g]?=Z B/\B.dst=Z t:=by unfold Jw at I;split at I;rename_i B z;exact⟨B,aj z,I⟩;cases I
   have⟨B,z,hdg⟩:=z8;have aCx:=Um t (λj G V y=>by rw[<-C.once g j B G t z V hdg y];exact jZ aBE);have ZG:=amY t aCx;have V:=Ow (a:=a2) hE2 (ops:=ops) (o:=o) (g:=Z (t,bb)) (kd ⟨g,bb,t,I8,I,Q⟩);have y:yielded ops a.tmps g=yielded ops a2.tmps g:=by
    have hmk:(Np UZ a.tmps).getD t undef=a.tmps.getD t undef:=by rw[DC,bM ZG]
    rw[Ij z hdg,Ij z hdg];simp only[a2,hmk]
   rw[I];have A:wanted (E p) (Z (t,bb))=wanted U (Z (t,bb)):=by simp only[wanted,U];rw[DD,bM ZG]
   show b0 o (yielded ops a.tmps)=wanted (E p) (Z (t,bb));rw[A,<-V];simp only[b0,I8,y]
  have ak5:∀(k:Nat)(m:cQ),k<p->ops[u k]?=Z m->(cj T ng n ops.toList m).op.kind=3->k<q1:=λk m V y A=>
   (hDq k m ab y A).1 (age _ (C.eager p k m V hp y A))
  have J1:∃q' B w1 cv v,q'<=ops.size/\Steps P (lone (on N a (.inRegion ops (u p::L)::kk)) cs w) (lone (on N (a.put o.dst cv) (.inRegion ops L::kk)) cs w1)/\E (p+1)=ik (E p) o.dst v/\VR B v cv/\(∀d,o.dst=Z d->d<a.tmps.size)/\ff (jc T ng O) B (H q') w1/\ρ.le B/\Ext ρ0 (H 0) w0 B (H q') w1/\(∀(k:Nat)(f:cQ),k<ops.size->ops[u k]?=Z f->(cj T ng n ops.toList f).op.kind=3->((D (u k)\/u k=u p)↔k<q'))/\(∀(k:Nat),k<ops.size->k≠p->(H k).aw<(H (k+1)).aw->ρ (H k).aw=K->B (H k).aw=K):=by
   by_cases hk3:(cj T ng n ops.toList o).op.kind=3
   .have hqp:q1<=p:=by apply eK;intro h;exact vo ((hDq p o hp M hk3).2 ab)
    have⟨S1,X1⟩:=Uh hq C S p hqp ab (λk m V y A b=>av (ak5 k m y A b));have⟨B,w1,cv,v,s1,hE1,ZW,z8,S2,X2⟩:=DF hF hT hI M ady S1 hG (a:=a) (a2:=a2) hE2 hn I9 KM N kk cs L;refine⟨p+1,B,w1,cv,v,ab,s1,hE1,ZW,z8,S2,X2.le,(X.trans X1).trans X2,?_,?_⟩
    .intro k f V y A;have:=hDq k f V y A;constructor
     rintro(h|h);have:=this.1 h;omega;have:=C.inj k p V hp h;omega
     intro h;by_cases hkp:k=p;exact kd (by rw[hkp]);exact jZ (this.2 (ak5 k f ab y A))
    .intro k V y A b;rcases hr:B (H k).aw with _|r;rfl
     .have g1:=X2.new _ r hr b;have g2:=(S2.low _ r hr).1;rcases Kz k p with h|h
      have:=J0 (k+1) p ab ab;omega;have:=J0 (p+1) k ab ab;omega
   .have aCe:=Tl hk3;have⟨z,ahp,Ja,S1,X1,atO⟩:∃z,z<=ops.size/\p<z/\ff (jc T ng O) ρ (H z) w/\Ext ρ0 (H 0) w0 ρ (H z) w/\(∀(k:Nat)(f:cQ),k<ops.size->ops[u k]?=Z f->(cj T ng n ops.toList f).op.kind=3->(D (u k)↔k<z)):=by
     by_cases hqp:p<q1;exact⟨q1,OL,hqp,S,X,hDq⟩
     .have eV:UO T ng n ops u q1 (p+1):=by intro k m V y A b;by_cases hkp:k=p;subst hkp;rw[M] at A;cases A;exact hk3 b;have:=ak5 k m ab A b;omega
      have⟨S1,X1⟩:=Uh hq C S (p+1) ab ab eV;refine⟨p+1,ab,ab,S1,X.trans X1,λk m V y A=>?_⟩;rw[hDq k m V y A];constructor;intro h;omega;intro h;by_cases hkp:k=p;subst hkp;rw[M] at y;cases y;exact absurd A hk3;exact ak5 k m ab y A
    have hna:∀(u':Nat)(f:cQ),p<u'->u'<z->ops[u u']?=Z f->(cj T ng n ops.toList f).op.kind=3->¬Ko ops (u u') (u p):=
     λu' f V y A b ha=>abE _ ha ((atO u' f ab A b).2 y)
    have akM:∀(k:Nat)(f:cQ),k<ops.size->ops[u k]?=Z f->(cj T ng n ops.toList f).op.kind=3->((D (u k)\/u k=u p)↔k<z):=by
     intro k f V y A;have:=atO k f V y A;constructor
     rintro(h|h);exact this.1 h;rw[h,M] at y;cases y;exact absurd A hk3;intro h;exact jZ (this.2 h)
    by_cases Gd:(cj T ng n ops.toList o).op.kind=2
    .have⟨B,w1,cv,v,s1,hE1,ZW,z8,S2,hle,hfr,hX⟩:=YC hF hT hI M Gd ady S1 hG (a:=a) (a2:=a2) hE2 hn I9 KM (VL p o hp M Gd vo)
      (λ_ iK=>LR hK hq C Td JY Ja ahp M (kd Gd) hna (λh=>by rw[Gd] at h;cases h) (λ_ t I=>YD Gd ady iK t I) iK)
      (J0 (p+1) z Ja ahp) N kk cs L
     refine⟨z,B,w1,cv,v,ahp,s1,hE1,ZW,z8,S2,hle,hX ρ0 (H 0) w0 (J0 0 p ab ab) X1,akM,?_⟩;intro k V y A b;refine hfr _ b λiK heq=>?_;rcases Kz k p with h|h;have:=J0 (k+1) p ab ab;omega;have:=J0 (p+1) k ab ab;omega
    .
     have ZD:=QY ab ady;have fB:dZ F s (cj T ng n ops.toList o) (E p) (H z)=Z (E (p+1),H z):=by
      have HC:=ady;rw[ZD] at HC;have hnc:=pf (o:=(cj T ng n ops.toList o).op) aCe;unfold dZ at HC⊢;cases hw:wanted (E p) (cj T ng n ops.toList o).guard
      simp only[hw,A8,oy,BM] at HC⊢;exact⟨HC.1,trivial⟩
      .simp only[hw,jv] at HC⊢;split at HC
       .rename_i v V Is;simp only[oy,BM] at HC;have⟨K0,SX⟩:=HC;subst SX;have apj:de (E p) (H z) (cj T ng n ops.toList o).op=Z (v,H z):=by
         by_cases OK:(cj T ng n ops.toList o).op.kind=0;exact(NA OK Is).2 (H z)
         .have hk1:(cj T ng n ops.toList o).op.kind=1:=ab
          have⟨_,x,hx,ao3,ava⟩:=Gk hk1 Is;refine ao3 (H z) λbb hbb=>?_;have⟨vD,ro,op',s',hgt⟩:=ava bb hbb;have aC_:WF (H p):=(wa hK hq C (a:=0) p ab ab).wf hwf;have:=LR hK hq C Td JY Ja ahp M (jZ hk1) hna (b:=bb) (λ_ t I _=>by rw[hx] at I;cases I;exact hbb) (λh=>by rw[hk1] at h;cases h)
           (by rw[ZD];exact aC_ bb _ hgt)
          rw[this,ZD]
        rw[apj];simp only[oy,BM];exact⟨K0,trivial⟩
       cases HC
     have⟨B,w1,cv,v,s1,hE1,ZW,z8,S2,X2⟩:=DF hF hT hI M fB S1 hG (a:=a) (a2:=a2) hE2 hn I9 KM N kk cs L;refine⟨z,B,w1,cv,v,ahp,s1,hE1,ZW,z8,S2,X2.le,X1.trans X2,akM,?_⟩;intro k V y A b;rcases hr:B (H k).aw with _|r;rfl;have g1:=X2.new _ r hr b;have g2:=(S2.low _ r hr).1;omega
  have⟨q',B,w1,cv,v,aCK,s1,hE1,ZW,z8,S1,z,X1,akM,aBW⟩:=J1;have aho:∀t,o.dst≠Z t->(a.put o.dst cv).tmps.getD t undef=a.tmps.getD t undef:=by intro t I;rcases hd:o.dst with _|d;rfl;have:d≠t:=λe=>I (by rw[hd,e]);simp[z1,bA,gN,this]
  have⟨ρ2,w2,a2',s2,S2,E2,z2,d2,X2⟩:=ihl
   (by intro j G q hDj k hk;rcases hDj with h|h;exact jZ (hDc j G q h k hk);subst h;rw[M] at q;cases q;exact jZ (he k hk))
   B w1 (a.put o.dst cv) q' aCK akM S1 (hG.mono z) (by rw[Au];exact hn) X1
   (by
    intro pj G t ZI q hd hDj;by_cases hji:pj=p;subst hji;rw[M] at q;cases q;rw[hE1,hd];have iK:=z8 t hd;simp only[ik,Env.bN,if_true,z1];simp[bA,iK,ZW]
    have aAW:D (u pj):=hDj.resolve_right (λh=>hji (C.inj pj p ZI hp h));rw[aho t (λh=>hji (C.inj pj p ZI hp (C.once (u pj) (u p) G o t q M hd h)))];exact(hv pj G t ZI q hd aAW).mono z)
   (by intro t I;have lu:o.dst≠Z t:=λh=>I (u p) o M h (kd Q);rw[aho t lu];exact(hv0 t (λj G V y A=>I j G V y (jZ A))).mono z)
   (by intro k m V y A b h5;have hnD:¬D (u k):=λh=>b (jZ h);have hkp:k≠p:=λh=>b (kd (by rw[h]));exact aBW k V hkp h5 (VL k m V y A hnD h5))
  exact⟨ρ2,w2,a2',s1.trans s2,S2,E2,z2.trans (Au _ _ _),d2.trans (put_defers _ _ _),X2⟩
end
def agu(x:Kq P T ng (fY T ng) F)(l:eC P T):Ry P T ng (fY T ng) F:=by
 intro s g D n ops e h e' h' C m t ρ w a L k cs S N B V;have H:fY T ng n ops.toList≠tg:=by intro v;rw[v] at C;simp[tg,nq,dZ,wanted,de] at C
 have⟨v,q⟩:=Vn H;have⟨E,H,u,G,M,W,O⟩:=Qg _ _ _ _ _ _ C;rw[q.len] at M W;have f:LB F s T ng n ops v E H:=by intro p o U v;have⟨b,A⟩:=q.get p o U v;exact(O p _ b A).1
 have v:=Ug q.any q.text q.gc m t;have y:ff (jc T ng (fY T ng)) ρ (H 0) w:=by rw[G];exact S.clock _
 have⟨ρ',w',m,i,c,I,z,d,X⟩:=agt x l D g f q (λk l b A=>(O k l b A).2) (c:=h.clock) (by rw[G];exact Nat.lt_succ_self _) y.wf L k cs ρ w
  (λ_=>False) _ v (λ_ _ _ h=>h.elim) ρ w a 0 (hQ _) (λj v _ _ _=>⟨λh=>h.elim,λh=>ab⟩) y N V (.refl _ _ _)
  (λ_ _ _ _ _ _ h=>h.elim) (λt _=>by rw[u];exact B t)
  (λp o U _ _ _ _=>by rcases B:ρ (H p).aw with _|r;rfl;have H:=(y.low _ r B).1;have B:=(wa g f q (a:=0) p ab ab).aw;omega)
 rw[M] at I;rw[W] at c X;refine⟨ρ',w',m,i,c,I,z,d,?_⟩;rw[G] at X;exact(Ext.clock (ρ:=ρ) (h:=h) (w:=w) (h.clock+1)).trans X
def Si(T:uK)(ng:Nat)(f:Func):Option dm:=
 match f.body with
 |none=>K
 |some c=>match f.results.toList.mapM (FQ T) with
  |none=>K
  |some a=>bif f.name== "runtime.NumGoroutine" then K else Z { res:=a,body:=dJ T ng f.ntmps (fY T ng) c }
def QN{α q:Type}{f:α->Option q} :∀ {l:List α} {r:List q},l.mapM f=Z r->bo (λa b=>f a=Z b) l r
 |[],r,h=>by simp only[List.mapM_nil] at h;cases h;exact .nil
 |a::l,r,h=>by rw[List.mapM_cons] at h;rcases q:f a with _|b;simp[q] at h;rcases u:l.mapM f with _|y;simp[q,u] at h;simp[q,u] at h;subst h;exact .cons q (QN u)
def YO(h:∀f u,F f=Z u->∃fn,P.funcs[f]?=Z fn/\Si T ng fn=Z u):Kq P T ng (fY T ng) F:=by
 intro f u C;have⟨fn,I,q⟩:=h f u C
 suffices hs:u.CW=.no/\∃fn c,P.funcs[f]?=Z fn/\fn.body=Z c/\(fn.name== "runtime.NumGoroutine")=cd/\bo (λr G=>FQ T r=Z G) fn.results.toList u.res/\u.body=dJ T ng fn.ntmps (fY T ng) c by
  rw[hs.1];exact hs.2
 unfold Si at q;split at q;cases q;rename_i c u;split at q;cases q;rename_i a y;cases A:fn.name== "runtime.NumGoroutine";rw[A] at q;cases q;exact⟨Q,fn,c,I,u,A,QN y,Q⟩;rw[A] at q;cases q
section
variable{P:bG}{T:uK}{ng:Nat}{F:Nat->Option dm}
def FN(y:Kq P T ng (fY T ng) F)(u:eC P T){q f:Nat}(G:call F q f args h=Z (v,h'))(S:ff (jc T ng (fY T ng)) ρ h w)(I:eB ng ρ)(C:bo (VR ρ) args W)(cs:List ea):∃fn ρ' w' c A,P.funcs[f]?=Z fn/\fn.body.isSome=ck/\(fn.name== "runtime.NumGoroutine")=cd/\Steps P (lone (ml P f ⟨W⟩ .normal) cs w) (lone A cs w')/\A.fn=f/\A.leaving P w' (.returned c)/\VR ρ' v c/\ff (jc T ng (fY T ng)) ρ' h' w'/\Ext ρ h w ρ' h' w':=
 Cw y u (ae0 y u (agu y u) q) G S I C cs
end
def Zz(P:bG)(t:Nat):TypeDesc->Bool
 |.struct _=> !P.stoodInHeld t
 |_=>ck
def uk(P:bG)(t:Nat):Option TI:=
 match P.info? t,P.underlying t with
 |some q,Z u=>match q.zero with
  |none=>K
  |some z=>
   bif z.cells.toList.all dw&&(pP u||an q.size 1)&&an (cz z.cells.toList) q.size&&Zz P t u&&(pP u||plain z)
   then Z { u:=u,size:=q.size,bytes:=q.bytes,zero:=z.cells.toList,agg:=pP u } else K
 |_,_=>K
def XE(P:bG):eC P (uk P):=by intro t i h;unfold uk at h;split at h;rename_i G u U b;split at h;cases h;rename_i z M;cases C:(z.cells.toList.all dw&&(pP u||an G.size 1)&&an (cz z.cells.toList) G.size&&Zz P t u&&(pP u||plain z));rw[C] at h;cases h;rw[C] at h;cases h;simp only[oD] at C;have⟨⟨⟨⟨V,u⟩,q⟩,a⟩,O⟩:=C;refine⟨b,⟨G,U,Q,Q,z,M,Q⟩,Q,V,?_,sq q,?_,?_⟩;intro q;dsimp only at q;rw[q] at u;exact sq (aj u);intro u y;dsimp only at y;rw[y] at a;simpa [Zz] using a;intro q W a I A;dsimp only at q;rw[U] at I;cases I;rw[M] at A;cases A;rw[q] at O;simpa using O;cases h
def SI(P:bG)(ng:Nat)(G:Nat->Option Func)(f:Nat):Option dm:=match G f with
 |some fn=>Si (uk P) ng fn
 |none=>K
def Zg{G:Nat->Option Func}(y:∀f fn,G f=Z fn->P.funcs[f]?=Z fn):Kq P (uk P) ng (fY (uk P) ng) (SI P ng G):=by refine YO λf A q=>?_;unfold SI at q;split at q;rename_i fn u;exact⟨fn,y f fn u,q⟩;cases q
def Qw(cs:List aa):az:=⟨1,0,.node (Z (.bZ cs ck 0 0)) .nil .nil⟩
section
open Go.ChangeShapes Go.WideShapes Go.ChangeAt
variable{H:Type}{b:cI×aa->H}{P:bG}
end
def E7(s a:aD->Env->az->R):Prop:=∀c e h r,s c e h=Z r->a c e h=Z r
section
variable{F:Nat->Option dm}{s E:aD->Env->az->R}
def Vb(H:E7 s E){o:Bool}{r:aa×az}(q:pV F s o f args h=Z r):pV F E o f args h=Z r:=by
 unfold pV at q⊢;rcases A:F f with _|fn;rw[A] at q;cases q
 .rw[A] at q;dsimp only at q⊢;cases u:fn.CW with
  |WN=>rw[u] at q;exact q
  |run p k=>rw[u] at q;exact q
  |no=>
   rw[u] at q;dsimp only at q⊢;rcases y:s fn.body (params .nil 0 args) h with _|x;rw[y] at q;cases q;rw[y] at q;rw[H _ _ _ _ y];exact q
def Ma(H:E7 s E){r:aa×az}(q:vk F s f args h=Z r):vk F E f args h=Z r:=Vb H q
def aeP(H:E7 s E){l:Nat}{q:aD}{r:aa×az}(u:zD s l q e h=Z r):zD E l q e h=Z r:=by unfold zD at u⊢;split at u;rename_i y G A body I;rcases C:s q e (gJ h l y G A body .busy) with _|x;rw[C] at u;cases u;rw[C] at u;rw[H _ _ _ _ C];exact u;cases u
def aeR(H:E7 s E){l:Nat}{r:aa×az}(q:uI s l args h=Z r):uI E l args h=Z r:=by
 unfold uI at q⊢;split at q
 .rename_i u G y body l;rcases C:gG u G args with _|e;rw[C] at q;cases q
  .rw[C] at q;dsimp only at q⊢;rcases A:s y e h with _|x;rw[A] at q;cases q
   .have⟨x,I,V⟩:=x;rw[A] at q;rw[H _ _ _ _ A];cases x with
    |normal=>exact aeP H q
    |exit id=>cases q
    |ret=>cases q
 cases q
def ago(H:E7 s E){r:aa×az}(q:fF F s C args h=Z r):fF F E C args h=Z r:=by unfold fF at q⊢;split at q;exact Vb H q;exact aeR H q;cases q
def HU(H:E7 s E){o:cr}{r:Env×az}(q:dZ F s o e h=Z r):dZ F E o e h=Z r:=by unfold dZ at q⊢;cases y:wanted e o.guard;rw[y] at q;exact q;rw[y] at q;simp only[jv] at q⊢;split at q;rename_i f args A;rcases u:fF F s (ev e f) (qY e args) h with _|x;rw[u] at q;cases q;rw[u] at q;rw[ago H u];exact q;exact q
def TH(H:E7 s E):∀ {l:List cr} {e:Env} {h:az} {r:Env×az},Ap F s l e h=Z r->Ap F E l e h=Z r
 |[],_,_,_,q=>q
 |o::l,e,h,r,q=>by unfold Ap at q⊢;rcases u:dZ F s o e h with _|x;rw[u] at q;cases q;rw[u] at q;rw[HU H u];exact TH H q
def Mj(H:E7 s E){k:Nat} :∀ {l:List (cr×List Nat)} {e:Env} {h:az} {r:Env×az},nq F s k l e h=Z r->nq F E k l e h=Z r
 |[],_,_,_,q=>q
 |(o,a)::l,e,h,r,q=>by unfold nq at q⊢;rcases u:dZ F s o e h with _|x;rw[u] at q;cases q;have⟨A,V⟩:=x;rw[u] at q;rw[HU H u];dsimp only at q⊢;cases y:still A V k a;rw[y] at q;cases q;rw[y] at q;exact Mj H q
def ai7(H:E7 s E):E7 (dp F s) (dp F E):=by
 intro c e h r q;cases c with
 |skip=>exact q
 |ret=>exact q
 |bad=>exact q
 |exit id=>exact q
 |ops l=>
  unfold dp at q⊢;rcases u:Ap F s l e h with _|x;simp only[u] at q;cases q;simp only[u] at q;simp only[TH H u];exact q
 |draw l=>
  unfold dp at q⊢;rcases u:nq F s h.clock l e {h with clock:=h.clock+1} with _|x;simp only[u] at q;cases q;simp only[u] at q;simp only[Mj H u];exact q
 |seq a b=>
  unfold dp at q⊢;rcases u:s a e h with _|x;simp only[u] at q;cases q
  .have⟨x,G,V⟩:=x;simp only[u] at q;simp only[H _ _ _ _ u];cases x with
   |normal=>exact H _ _ _ _ q
   |exit id=>exact q
   |ret=>exact q
 |cond I a b=>
  unfold dp at q⊢;dsimp only at q⊢;split at q
  .first|exact H _ _ _ _ q|(rename_i y;rw[y];exact H _ _ _ _ q)
  .first|exact H _ _ _ _ q|(rename_i y;rw[y];exact H _ _ _ _ q)
  cases q
 |block id c=>
  unfold dp at q⊢;rcases u:s c e h with _|x;simp only[u] at q;cases q;simp only[u] at q;simp only[H _ _ _ _ u];exact q
 |loop c=>
  unfold dp at q⊢;rcases u:s c e h with _|x;simp only[u] at q;cases q
  .have⟨x,G,V⟩:=x;simp only[u] at q;simp only[H _ _ _ _ u];cases x with
   |normal=>exact H _ _ _ _ q
   |exit id=>exact q
   |ret=>exact q
 |Xe f C A body=>
  unfold dp at q⊢;dsimp only at q⊢;split at q
  .rename_i g first X y
   rcases u:vk F s g (first.toList++[Value.func (.yield h.aw) #[] #[]]++X.toList) (h.new (.loop e C A body .ready)) with _|x;rw[u] at q;cases q;rw[u] at q;rw[Ma H u];exact q
  cases q
def fL(n:Nat):run F (n+1)=dp F (run F n):=Q
def acx:∀n,E7 (run F n) (run F (n+1))
 |0=>λ_ _ _ _ h=>by cases h
 |n+1=>ai7 (acx n)
def uJ{n m:Nat}(h:n<=m):E7 (run F n) (run F m):=by
 induction h with
 |refl=>exactλ_ _ _ _ h=>h
 |step _ s=>exactλc e h r q=>acx _ c e h r (s c e h r q)
end
section
variable(F:Nat->Option dm)
def aK(c:aD)(e:Env)(h:az)(a:bH->Env->az->Prop):Prop:=∃n x e' h',run F n c e h=Z (x,e',h')/\a x e' h'
def bh(l:List cr)(e:Env)(h:az)(a:Env->az->Prop):Prop:=∃n e' h',Ap F (run F n) l e h=Z (e',h')/\a e' h'
def bS(k:Nat)(l:List (cr×List Nat))(e:Env)(h:az)(a:Env->az->Prop):Prop:=∃n e' h',nq F (run F n) k l e h=Z (e',h')/\a e' h'
def aY(f:Nat)(args:List aa)(h:az)(a:aa->az->Prop):Prop:=∃n v h',vk F (run F n) f args h=Z (v,h')/\a v h'
def fh(C:aa)(args:List aa)(h:az)(a:aa->az->Prop):Prop:=∃n v h',fF F (run F n) C args h=Z (v,h')/\a v h'
end
def LD(F:Nat->Option dm)(b:aD)(a:bH->Env->az->Prop):bH->Env->az->Prop
 |.normal=>λe h=>aK F b e h a
 |.exit id=>a (.exit id)
 |.ret=>a .ret
@[simp] def anv(F b a e h):LD F b a .normal e h=aK F b e h a:=rfl
@[simp] def arY(F b a id e h):LD F b a (.exit id) e h=a (.exit id) e h:=rfl
@[simp] def awE(F b a e h):LD F b a .ret e h=a .ret e h:=rfl
def RF(I:Env->az->Prop)(a:bH->Env->az->Prop):bH->Env->az->Prop
 |.normal=>I
 |.exit id=>a (.exit id)
 |.ret=>a .ret
@[simp] def al4(I a e h):RF I a .normal e h=I e h:=rfl
@[simp] def aqE(I a id e h):RF I a (.exit id) e h=a (.exit id) e h:=rfl
@[simp] def arV(I a e h):RF I a .ret e h=a .ret e h:=rfl
def RC(id:Nat)(a:bH->Env->az->Prop):bH->Env->az->Prop
 |.normal=>a .normal
 |.exit i=>bif an i id then a .normal else a (.exit i)
 |.ret=>a .ret
@[simp] def aaz(id a e h):RC id a .normal e h=a .normal e h:=rfl
@[simp] def ajW(id a e h):RC id a (.exit id) e h=a .normal e h:=by simp[RC]
def NJ(id a i e h):RC id a (.exit i) e h=(bif an i id then a .normal else a (.exit i)) e h:=Q
def NK(id q i e h)(u:¬i=id):RC id q (.exit i) e h=q (.exit i) e h:=by
 have q:an i id=cd:=by cases q:an i id;rfl;exact absurd (sq q) u
 rw[NJ,q];rfl
@[simp] def ayk(id a e h):RC id a .ret e h=a .ret e h:=rfl
section
variable{F:Nat->Option dm}{k:bH->Env->az->Prop}{e:Env}{h:az}
def aK.mono{c:aD}{q:bH->Env->az->Prop}(H:aK F c e h k)(u:∀x e h,k x e h->q x e h):aK F c e h q:=by have⟨n,x,e',h',A,y⟩:=H;exact⟨n,x,e',h',A,u _ _ _ y⟩
def aY.mono{R q:aa->az->Prop}(H:aY F f args h R)(y:∀v h,R v h->q v h):aY F f args h q:=by have⟨n,v,h',A,u⟩:=H;exact⟨n,v,h',A,y _ _ u⟩
def fh.mono{R q:aa->az->Prop}(H:fh F C args h R)(y:∀v h,R v h->q v h):fh F C args h q:=by have⟨n,v,h',A,u⟩:=H;exact⟨n,v,h',A,y _ _ u⟩
def ae3:aK F .skip e h k↔k .normal e h:=by
 constructor
 .rintro⟨n,x,e',h',u,q⟩;cases n with
  |zero=>cases u
  |succ n=>cases u;exact q
 intro q;exact⟨1,.normal,e,h,Q,q⟩
def aiQ:aK F .ret e h k↔k .ret e h:=by
 constructor
 .rintro⟨n,x,e',h',u,q⟩;cases n with
  |zero=>cases u
  |succ n=>cases u;exact q
 intro q;exact⟨1,.ret,e,h,Q,q⟩
def ae2{id:Nat} :aK F (.exit id) e h k↔k (.exit id) e h:=by
 constructor
 .rintro⟨n,x,e',h',u,q⟩;cases n with
  |zero=>cases u
  |succ n=>cases u;exact q
 intro q;exact⟨1,.exit id,e,h,Q,q⟩
def aiR{a b:aD} :aK F (.seq a b) e h k↔aK F a e h (LD F b k):=by
 constructor
 .rintro⟨n,x,e',h',q,u⟩;cases n with
  |zero=>cases q
  |succ n=>
   rw[fL] at q;unfold dp at q;dsimp only at q;rcases A:run F n a e h with _|y;simp only[A] at q;cases q
   .have⟨y,G,V⟩:=y;simp only[A] at q;refine⟨n,y,G,V,A,?_⟩;cases y with
    |normal=>exact⟨n,x,e',h',q,u⟩
    |exit id=>cases q;exact u
    |ret=>cases q;exact u
 .rintro⟨n,x,e',h',q,u⟩;cases x with
  |normal=>
   have⟨m,y,U,I,C,u⟩:=u;refine⟨max n m+1,y,U,I,?_,u⟩;rw[fL];unfold dp;dsimp only;simp only[uJ (lC n m) _ _ _ _ q];exact uJ (kp n m) _ _ _ _ C
  |exit id=>
   refine⟨n+1,_,_,_,?_,u⟩;rw[fL];unfold dp;dsimp only;simp only[q]
  |ret=>
   refine⟨n+1,_,_,_,?_,u⟩;rw[fL];unfold dp;dsimp only;simp only[q]
def Ju{c:aT}{a b:aD}{t:Bool}(y:ev e c=dC t):aK F (.cond c a b) e h k↔aK F (bif t then a else b) e h k:=by
 constructor
 .rintro⟨n,x,e',h',q,u⟩;cases n with
  |zero=>cases q
  |succ n=>
   rw[fL] at q;unfold dp at q;dsimp only at q;rw[y] at q;cases t<;>exact⟨n,x,e',h',q,u⟩
 rintro⟨n,x,e',h',q,u⟩;refine⟨n+1,x,e',h',?_,u⟩;rw[fL];unfold dp;dsimp only;rw[y];cases t<;>exact q
def aaW{id:Nat}{c:aD} :aK F (.block id c) e h k↔aK F c e h (RC id k):=by
 constructor
 .rintro⟨n,x,e',h',q,u⟩;cases n with
  |zero=>cases q
  |succ n=>
   rw[fL] at q;unfold dp at q;dsimp only at q;rcases C:run F n c e h with _|y;simp only[C] at q;cases q
   .have⟨y,G,V⟩:=y;simp only[C] at q;refine⟨n,y,G,V,C,?_⟩;cases y with
    |normal=>cases q;exact u
    |ret=>cases q;exact u
    |exit i=>
     rw[NJ];dsimp only at q;cases A:an i id<;>rw[A] at q<;>cases q<;>exact u
 .rintro⟨n,x,e',h',q,u⟩;cases x with
  |normal=>
   refine⟨n+1,_,_,_,?_,u⟩;rw[fL];unfold dp;dsimp only;simp only[q]
  |ret=>
   refine⟨n+1,_,_,_,?_,u⟩;rw[fL];unfold dp;dsimp only;simp only[q]
  |exit i=>
   rw[NJ] at u;cases A:an i id;rw[A] at u;refine⟨n+1,.exit i,e',h',?_,u⟩;rw[fL];unfold dp;dsimp only;simp only[q,A,A8];rw[A] at u;refine⟨n+1,.normal,e',h',?_,u⟩;rw[fL];unfold dp;dsimp only;simp only[q,A,jv]
def DJ{c:aD} :aK F (.loop c) e h k↔aK F c e h (LD F (.loop c) k):=by
 constructor
 .rintro⟨n,x,e',h',q,u⟩;cases n with
  |zero=>cases q
  |succ n=>
   rw[fL] at q;unfold dp at q;dsimp only at q;rcases A:run F n c e h with _|y;simp only[A] at q;cases q
   .have⟨y,G,V⟩:=y;simp only[A] at q;refine⟨n,y,G,V,A,?_⟩;cases y with
    |normal=>exact⟨n,x,e',h',q,u⟩
    |exit id=>cases q;exact u
    |ret=>cases q;exact u
 .rintro⟨n,x,e',h',q,u⟩;cases x with
  |normal=>
   have⟨m,y,U,I,C,u⟩:=u;refine⟨max n m+1,y,U,I,?_,u⟩;rw[fL];unfold dp;dsimp only;simp only[uJ (lC n m) _ _ _ _ q];exact uJ (kp n m) _ _ _ _ C
  |exit id=>
   refine⟨n+1,_,_,_,?_,u⟩;rw[fL];unfold dp;dsimp only;simp only[q]
  |ret=>
   refine⟨n+1,_,_,_,?_,u⟩;rw[fL];unfold dp;dsimp only;simp only[q]
def aK.loop{c:aD}(I:Nat->Env->az->Prop)(A:∀n e h,I n e h->aK F c e h (RF (λe h=>∃a,a<n/\I a e h) k)){n:Nat}(m:I n e h):aK F (.loop c) e h k:=by
 induction n using Nat.strongRecOn generalizing e h with
 |ind n s=>
  rw[DJ];refine(A n e h m).mono λx e h q=>?_;cases x with
  |normal=>have⟨a,u,y⟩:=q;exact s a u y
  |exit id=>exact q
  |ret=>exact q
def aiP{l:List cr} :aK F (.ops l) e h k↔bh F l e h (k .normal):=by
 constructor
 .rintro⟨n,x,e',h',q,A⟩;cases n with
  |zero=>cases q
  |succ n=>
   rw[fL] at q;unfold dp at q;dsimp only at q;rcases u:Ap F (run F n) l e h with _|y;simp only[u] at q;cases q;simp only[u] at q;cases q;exact⟨n,_,_,u,A⟩
 rintro⟨n,e',h',q,A⟩;refine⟨n+1,.normal,e',h',?_,A⟩;rw[fL];unfold dp;dsimp only;simp only[q]
def tick(h:az):az:= {h with clock:=h.clock+1}
def ae1{l:List (cr×List Nat)} :aK F (.draw l) e h k↔bS F h.clock l e (tick h) (k .normal):=by
 constructor
 .rintro⟨n,x,e',h',q,u⟩;cases n with
  |zero=>cases q
  |succ n=>
   rw[fL] at q;unfold dp at q;dsimp only at q;rcases A:nq F (run F n) h.clock l e {h with clock:=h.clock+1} with _|y;simp only[A] at q;cases q;simp only[A] at q;cases q;exact⟨n,_,_,A,u⟩
 rintro⟨n,e',h',q,u⟩;refine⟨n+1,.normal,e',h',?_,u⟩;rw[fL];unfold dp;dsimp only;rw[show({h with clock:=h.clock+1} :az)=tick h from Q];simp only[q]
def ais{R:Env->az->Prop} :bh F [] e h R↔R e h:=by constructor;rintro⟨n,e',h',u,q⟩;cases u;exact q;intro q;exact⟨0,e,h,Q,q⟩
def ac8{k:Nat}{R:Env->az->Prop} :bS F k [] e h R↔R e h:=by constructor;rintro⟨n,e',h',u,q⟩;cases u;exact q;intro q;exact⟨0,e,h,Q,q⟩
def GO(F:Nat->Option dm)(o:cr)(e:Env)(h:az)(R:Env->az->Prop):Prop:=∃n e' h',dZ F (run F n) o e h=Z (e',h')/\R e' h'
def vY{o:cr}{l:List cr}{R:Env->az->Prop} :bh F (o::l) e h R↔GO F o e h (λe h=>bh F l e h R):=by constructor;rintro⟨n,e',h',q,A⟩;unfold Ap at q;rcases u:dZ F (run F n) o e h with _|y;rw[u] at q;cases q;rw[u] at q;exact⟨n,_,_,u,n,_,_,q,A⟩;rintro⟨n,C,V,u,m,e',h',q,A⟩;refine⟨max n m,e',h',?_,A⟩;unfold Ap;rw[HU (uJ (lC n m)) u];exact TH (uJ (kp n m)) q
def sf{k:Nat}{o:cr}{a:List Nat}{l:List (cr×List Nat)}{R:Env->az->Prop} :bS F k ((o,a)::l) e h R↔GO F o e h (λe h=>still e h k a=ck/\bS F k l e h R):=by constructor;rintro⟨n,e',h',q,C⟩;unfold nq at q;rcases u:dZ F (run F n) o e h with _|y;rw[u] at q;cases q;rw[u] at q;dsimp only at q;cases A:still y.1 y.2 k a;rw[A] at q;cases q;rw[A] at q;exact⟨n,_,_,u,A,n,_,_,q,C⟩;rintro⟨n,G,V,u,A,m,e',h',q,C⟩;refine⟨max n m,e',h',?_,C⟩;unfold nq;rw[HU (uJ (lC n m)) u];dsimp only;rw[A];exact Mj (uJ (kp n m)) q
def calls:kW->Bool
 |.call _ _=>ck
 |_=>cd
def WM{a:kW}{R:Env->az->Prop}(C:calls a=cd):GO F ⟨d,K,a⟩ e h R↔ ∃v V,de e h a=Z (v,V)/\R (ik e d v) V:=by
 have b:∀n,dZ F (run F n) ⟨d,K,a⟩ e h=(match de e h a with|some (v,h')=>Z (ik e d v,h')|none=>K):=by intro n;unfold dZ;simp only[wanted,jv];split;cases C;rfl
 constructor;rintro⟨n,e',h',q,A⟩;rw[b] at q;rcases u:de e h a with _|y;rw[u] at q;cases q;rw[u] at q;cases q;exact⟨_,_,Q,A⟩;rintro⟨v,V,u,A⟩;exact⟨0,_,_,by rw[b,u],A⟩
def Bi{b c:Bool}{a:kW}{R:Env->az->Prop}(C:bY e t=dC c):GO F ⟨d,Z (t,b),a⟩ e h R↔(bif c==b then GO F ⟨d,K,a⟩ e h R else R (ik e d (.tuple #[])) h):=by
 have u:wanted e (Z (t,b))=(c==b):=by simp[wanted,C]
 cases y:(c==b)
 .have c:∀n,dZ F (run F n) ⟨d,Z (t,b),a⟩ e h=Z (ik e d (.tuple #[]),h):=by intro n;unfold dZ;dsimp only;rw[u,y];rfl
  simp only[GO,c,A8];constructor;rintro⟨n,e',h',A,q⟩;cases A;exact q;intro q;exact⟨0,_,_,Q,q⟩
 have c:∀n,dZ F (run F n) ⟨d,Z (t,b),a⟩ e h=dZ F (run F n) ⟨d,K,a⟩ e h:=by intro n;unfold dZ;dsimp only;rw[u,y];rfl
 simp only[GO,c,jv]
def NG{f:aT}{args:List aT}{R:Env->az->Prop} :GO F ⟨d,K,.call f args⟩ e h R↔fh F (ev e f) (qY e args) h (λv h=>R (ik e d v) h):=by
 have a:∀n,dZ F (run F n) ⟨d,K,.call f args⟩ e h=(match fF F (run F n) (ev e f) (qY e args) h with|some (v,h')=>Z (ik e d v,h')|none=>K):=by intro n;rfl
 constructor;rintro⟨n,e',h',q,A⟩;rw[a] at q;rcases u:fF F (run F n) (ev e f) (qY e args) h with _|y;rw[u] at q;cases q;rw[u] at q;cases q;exact⟨n,_,_,u,A⟩;rintro⟨n,v,V,u,A⟩;exact⟨n,_,_,by rw[a,u],A⟩
def fh.func{f:Nat}{first X:Array aa}{args:List aa}{R:aa->az->Prop}(H:aY F f (first.toList++args++X.toList) h R):fh F (.func (.func f) first X) args h R:=by have⟨n,v,h',u,q⟩:=H;exact⟨n,v,h',Cx u,q⟩
def fh.WN{f:Nat}{fn:dm}{first X:Array aa}{args:List aa}{R:aa->az->Prop}(y:F f=Z fn)(q:fn.CW=.WN){v:aa}{h':az}(u:R4 (first.toList++args++X.toList) h=Z (v,h'))(H:R v h'):fh F (.func (.func f) first X) args h R:=
 ⟨0,v,h',(by simp only[AI.fF,pV,y,q,jv];exact u),H⟩
def GM(a:List Kn)(R:aa->az->Prop):bH->Env->az->Prop
 |.normal,e,h=>∃vs,results e h a=Z vs/\gV vs=ck/\R (result vs) h
 |.ret,e,h=>∃vs,results e h a=Z vs/\gV vs=ck/\R (result vs) h
 |.exit _,_,_=>False
@[simp] def Vr{rs R} :GM rs R .normal e h↔ ∃vs,results e h rs=Z vs/\gV vs=ck/\R (result vs) h:=Tt
@[simp] def agw{rs R} :GM rs R .ret e h↔ ∃vs,results e h rs=Z vs/\gV vs=ck/\R (result vs) h:=Tt
@[simp] def aq4{rs R id} :GM rs R (.exit id) e h↔False:=Tt
def aY.ofP{fn:dm}{R:aa->az->Prop}(C:F f=Z fn)(A:fn.CW=.no)(H:aK F fn.body (params .nil 0 args) h (GM fn.res R)):aY F f args h R:=by
 have⟨n,x,e',h',G,q⟩:=H;cases x with
 |exit id=>exact q.elim
 |normal=>
  have⟨vs,y,u,q⟩:=q;refine⟨n,_,h',?_,q⟩;unfold vk pV;rw[C];dsimp only;rw[A];dsimp only;rw[G];dsimp only;rw[y];dsimp only;rw[u];rfl
 |ret=>
  have⟨vs,y,u,q⟩:=q;refine⟨n,_,h',?_,q⟩;unfold vk pV;rw[C];dsimp only;rw[A];dsimp only;rw[G];dsimp only;rw[y];dsimp only;rw[u];rfl
def aY.of{a:List Kn}{R:aa->az->Prop}(q:F f=Z ⟨a,body,.no⟩)(H:aK F body (params .nil 0 args) h (GM a R)):aY F f args h R:=
 aY.ofP q rfl H
end
structure cu(h:az):Prop where
 wf:∀b o,h.tr.get b=Z o->b<h.aw
 st:∀b cs ro o s,h.tr.get b=Z (.bZ cs ro o s)->s<=h.clock
structure ay(S:Nat->Prop)(h h':az):Prop where
 aw:h.aw<=h'.aw
 clock:h.clock<=h'.clock
 same:∀b,b<h.aw->¬S b->h'.tr.get b=h.tr.get b
 ok:cu h'
def aR:Nat->Prop:=λ_=>False
def ay.refl(q:cu h):ay S h h:=⟨fq _,fq _,λ_ _ _=>rfl,q⟩
def ay.trans'{S A y:Nat->Prop}(a:ay A h I)(b:ay y I G)(V:∀b,b<h.aw->A b->S b)(c:∀b,b<h.aw->y b->S b):ay S h G:=
 ⟨qN a.aw b.aw,qN a.clock b.clock,λx q C=>by rw[b.same x (OD q a.aw) (λu=>C (c x q u)),a.same x q (λu=>C (V x q u))],b.ok⟩
def ay.trans(a:ay S h I)(b:ay S I G):ay S h G:=a.trans' b ai ai
def ay.cU{S q:Nat->Prop}(a:ay S h I)(y:∀b,b<h.aw->S b->q b):ay q h I:=
 ⟨a.aw,a.clock,λb u A=>a.same b u (λh=>A (y b u h)),a.ok⟩
def ay.cm(a:ay aR h I):ay S h I:=a.cU λ_ _ h=>h.elim
def ay.get{S:Nat->Prop}{h h':az}(g:ay S h h')(y:cu h){b:Nat}{o:qe}(q:h.tr.get b=Z o)(u:¬S b:=by exactλh=>h):h'.tr.get b=Z o:=by rw[g.same b (y.wf b o q) u,q]
def bk(q:cu h):ay aR h (tick h):=
 ⟨fq _,dd _,λ_ _ _=>rfl,⟨q.wf,λb cs u o s y=>I0 (q.st b cs u o s y)⟩⟩
def aO(u:cu h)(cs:List aa)(o:Nat):ay aR h (aJ h cs o):=by refine⟨dd _,fq _,λb q _=>?_,⟨λb A q=>?_,λb G y C s q=>?_⟩⟩;simp only[aJ,az.new,Tr.bN];rw[bM ab];simp only[aJ,az.new,Tr.bN] at q⊢;by_cases e:b=h.aw;omega;rw[bM e] at q;exact Nat.lt_succ_of_lt (u.wf b A q);simp only[aJ,az.new,Tr.bN] at q⊢;by_cases e:b=h.aw;rw[bK e] at q;cases q;exact hQ _;rw[bM e] at q;exact u.st b G y C s q
@[simp] def bX(h:az)(cs:List aa)(o:Nat):(aJ h cs o).tr.get h.aw=Z (.bZ cs cd o 0):=by simp[aJ,az.new,Tr.bN]
@[simp] def ani(h:az)(cs:List aa)(o:Nat):(aJ h cs o).aw=h.aw+1:=rfl
@[simp] def Sd(h:az)(cs:List aa)(o:Nat):(aJ h cs o).clock=h.clock:=rfl
@[simp] def arO(h:az):(tick h).aw=h.aw:=rfl
@[simp] def ayE(h:az):(tick h).tr=h.tr:=rfl
def dx{b a n:Nat}{cs:List aa}{c:Bool}{o s:Nat}(q:h.tr.get b=Z (.bZ cs c o s))(u:a+n<=cz cs):cy h b a n=Z ((cs.drop a).take n):=by
 unfold cy;rw[q];have:cz ((cs.drop a).take n)=n:=by simp;omega
 simp[this]
def aI(h:az)(b a n:Nat):cy (tick h) b a n=cy h b a n:=Q
def put(h:az)(b off:Nat)(cs vs:List aa)(o:Nat):az:= {h with clock:=h.clock+1,tr:=h.tr.set b (.bZ (aX cs off vs) cd o h.clock)}
@[simp] def aZ(h:az)(b a:Nat)(cs vs:List aa)(o:Nat):(put h b a cs vs o).tr.get b=Z (.bZ (aX cs a vs) cd o h.clock):=by simp[put,Tr.bN]
def bc(u:cu h){b off:Nat}{cs vs:List aa}{o s:Nat}(G:h.tr.get b=Z (.bZ cs cd o s)):ay (· =b) h (put h b off cs vs o):=by refine⟨fq _,dd _,λx q c=>?_,⟨λx C q=>?_,λx a A I y q=>?_⟩⟩;simp only[put,Tr.bN];rw[bM c];simp only[put,Tr.bN] at q⊢;by_cases e:x=b;subst e;exact u.wf _ _ G;rw[bM e] at q;exact u.wf x C q;simp only[put,Tr.bN] at q⊢;by_cases e:x=b;rw[bK e] at q;cases q;exact dd _;rw[bM e] at q;exact I0 (u.st x a A I y q)
def pc(u:cu h)(b:Nat):ay (· =b) h {h with tr:=h.tr.del b} :=by refine⟨fq _,fq _,λx q a=>?_,⟨λx C q=>?_,λx I A G y q=>?_⟩⟩;simp only[Tr.mT];rw[bM a];simp only[Tr.mT] at q⊢;by_cases e:x=b;rw[bK e] at q;cases q;rw[bM e] at q;exact u.wf x C q;simp only[Tr.mT] at q⊢;by_cases e:x=b;rw[bK e] at q;cases q;rw[bM e] at q;exact u.st x I A G y q
structure e7(α:Type) where
 enc:α->List aa
 sz:Nat
 len:∀x,cz (enc x)=sz
 pos:0<sz
 plain:∀x,(enc x).all plain=ck
namespace e7
variable{α:Type}(E:e7 α)
def flat(a:List α):List aa:=a.flatMap E.enc
@[simp] def agG:E.flat []=[]:=rfl
@[simp] def jb(x:α)(a:List α):E.flat (x::a)=E.enc x++E.flat a:=by simp[flat]
@[simp] def fK(a q:List α):E.flat (a++q)=E.flat a++E.flat q:=by simp[flat]
@[simp] def dT(a:List α):cz (E.flat a)=cz a*E.sz:=by
 induction a with
 |nil=>simp
 |cons x a s=>simp[E.len,s,xf,k0]
def pW(a:List α)(i:Nat):(E.flat a).drop (i*E.sz)=E.flat (a.drop i):=by
 induction a generalizing i with
 |nil=>simp
 |cons x a s=>
  cases i with
  |zero=>simp
  |succ i=>
   rw[jb,List.drop_succ_cons,<-s i,List.drop_append,E.len,show(i+1)*E.sz-E.sz=i*E.sz by rw[xf];omega];have:(E.enc x).drop ((i+1)*E.sz)=[]:=by apply Cy;rw[E.len,xf];omega
   rw[this,pn]
def jO(a:List α)(i:Nat):(E.flat a).take (i*E.sz)=E.flat (a.take i):=by
 induction a generalizing i with
 |nil=>simp
 |cons x a s=>
  cases i with
  |zero=>simp
  |succ i=>
   rw[jb,List.take_succ_cons,jb,<-s i,ns,E.len,show(i+1)*E.sz-E.sz=i*E.sz by rw[xf];omega];have:(E.enc x).take ((i+1)*E.sz)=E.enc x:=by apply tK;rw[E.len,xf];omega
   rw[this]
def tf(a:List α)(i:Nat)(x:α)(h:a[i]?=Z x):((E.flat a).drop (i*E.sz)).take E.sz=E.enc x:=by rw[pW];have q:=(cY.mp h).1;rw[et q,jb,ns,E.len,Nat.sub_self,List.take_zero,Bx,(cY.mp h).2];exact tK (by rw[E.len];exact fq _)
def sw(b:List α)(i a n:Nat)(x:α)(h:b[i]?=Z x)(q:a+n<=E.sz):((E.flat b).drop (i*E.sz+a)).take n=((E.enc x).drop a).take n:=by rw[<-tf E b i x h,<-hJ,MP,MI,lE ab]
def jV(a:List α)(i:Nat)(x:α)(h:i<cz a):aX (E.flat a) (i*E.sz) (E.enc x)=E.flat (a.set i x):=by unfold aX;rw[jO,E.len,show i*E.sz+E.sz=(i+1)*E.sz by rw[xf];omega,pW,List.set_eq_take_append_cons_drop,bK h,fK,jb,MD]
end e7
def bp{α:Type}(E:e7 α)(h:az)(v:aa)(c:List α):Prop:=
 ∃a q,v=dB a (cz c) q/\((c=[]/\(a=K\/∃d b,a=Z ⟨d,b,K⟩))\/∃d b cs u o s,a=Z ⟨d,b,K⟩/\h.tr.get d=Z (.bZ cs u o s)/\b+cz c*E.sz<=cz cs/\(cs.drop b).take (cz c*E.sz)=E.flat c)
def bx(v:aa)(b:Nat):Prop:=∃a n q,v=dB (Z ⟨b,a,K⟩) n q
def bp.grow{E:e7 α}{c:List α}(s:bp E h v c)(u:cu h)(g:ay S h h')(G:∀b,bx v b->¬S b):bp E h' v c:=by obtain⟨a,q,rfl,s⟩:=s;refine⟨a,q,Q,?_⟩;rcases s with s|⟨b,q,cs,A,o,st,rfl,C,y,I⟩;exact jZ s;exact kd ⟨b,q,cs,A,o,st,Q,g.get u C (G b ⟨_,_,_,Q⟩),y,I⟩
def bp.cm{E:e7 α}{a:List α}(s:bp E h v a)(q:cu h)(g:ay aR h h'):bp E h' v a:=s.grow q g λ_ _ h=>h
def bp.nil{α:Type}(E:e7 α)(h:az)(q:Nat):bp E h (dB K 0 q) []:=⟨K,q,Q,jZ ⟨Q,jZ Q⟩⟩
def bp.read{E:e7 α}{b:List α}(s:bp E h v b){x:α}(C:b[i]?=Z x):∃c d q,v=dB (Z ⟨c,d,K⟩) (cz b) q/\i<cz b/\(∃cs y o s,h.tr.get c=Z (.bZ cs y o s))/\∀o n,o+n<=E.sz->cy h c (d+i*E.sz+o) n=Z (((E.enc x).drop o).take n):=by
 obtain⟨a,q,rfl,s⟩:=s;have u:=(cY.mp C).1;rcases s with s|⟨c,d,cs,y,o,st,rfl,A,e,I⟩
 rw[s.1] at u;simp at u;refine⟨c,d,q,Q,u,⟨_,_,_,_,A⟩,λG n q=>?_⟩;have V:(i+1)*E.sz<=cz b*E.sz:=IX _ u;rw[xf] at V;rw[dx A ab];congr 1;rw[<-E.sw b i G n x C q,<-I,MP,MI,hJ,lE ab,IU]
def bm{α:Type}(E:e7 α)(A:Nat)(h:az)(v:aa)(a:List α):Prop:=
 (a=[]/\v=dB K 0 0)\/∃b s,v=dB (Z ⟨b,0,K⟩) (cz a) (cz a)/\h.tr.get b=Z (.bZ (E.flat a) cd E.sz s)/\a≠[]/\A<=b
def bm.sl{E:e7 α}{b:List α}(a:bm E A h v b):bp E h v b:=by rcases a with⟨rfl,rfl⟩|⟨b,s,rfl,q,_,_⟩;exact .nil E h _;exact⟨_,_,Q,kd ⟨b,0,_,_,_,_,Q,q,J,by simp[tK]⟩⟩
def bm.grow{E:e7 α}{c:List α}(a:bm E A h v c)(q:cu h)(g:ay S h h')(y:∀b,bx v b->¬S b):bm E A h' v c:=by rcases a with a|⟨b,s,rfl,u,c,C⟩;exact jZ a;exact kd ⟨b,s,Q,g.get q u (y b ⟨_,_,_,Q⟩),c,C⟩
def bm.of{E:e7 α}{b:List α}(a:bm E A h v b){b:Nat}(o:bx v b):A<=b:=by obtain⟨q,n,q,rfl⟩:=o;rcases a with⟨_,h⟩|⟨y,s,h,_,_,u⟩;cases h;cases h;exact u
def HN{E:e7 α}{q:List α}(I:cz z=E.sz)(s:bp E h v q):news h z cd v=Z (cz q,E.flat q):=by obtain⟨a,A,rfl,s⟩:=s;rcases s with⟨rfl,rfl|⟨b,u,rfl⟩⟩|⟨b,u,cs,u,o,st,rfl,C,u,G⟩;simp[news];simp[news];rcases q with _|⟨y,q⟩;simp[news];unfold news;dsimp only;rw[show an (cz (y::q)) 0=cd from Q,I,dx C u,G];rfl
end Go.AI
namespace Go.AI
variable{V:aa->az->Prop}{a:List aT}{b:Bool}{c f:aT}{j:List Kn}{t:Nat}
section
variable(F:Nat->Option dm)
def Zs(d:Option Nat)(l:List cr)(e:Env)(R:Env->az->Prop):Option (aa×az)->Prop
 |some (v,h)=>bh F l (ik e d v) h R
 |none=>False
def Zv(k:Nat)(a:List Nat)(d:Option Nat)(l:List (cr×List Nat))(e:Env)(R:Env->az->Prop):Option (aa×az)->Prop
 |some (v,h)=>still (ik e d v) h k a=ck/\bS F k l (ik e d v) h R
 |none=>False
def VA(R:aa->az->Prop)(h:az):Option (List aa)->Prop
 |some a=>gV a=ck/\R (result a) h
 |none=>False
def anB(d:Option Nat)(l:List cr)(e:Env)(R:Env->az->Prop):aa->az->Prop:=λv h=>bh F l (ik e d v) h R
def aj5(k:Nat)(a:List Nat)(d:Option Nat)(l:List (cr×List Nat))(e:Env)(R:Env->az->Prop):aa->az->Prop:=λv h=>still (ik e d v) h k a=ck/\bS F k l (ik e d v) h R
end
section
variable{F:Nat->Option dm}{g:bH->Env->az->Prop}{R:Env->az->Prop}{e:Env}{h:az}{d:Option Nat}{l:List cr}{k:Nat}{i:List Nat}{m:List (cr×List Nat)}
@[simp] def apW(v:aa)(h:az):Zs F d l e R (Z (v,h))=bh F l (ik e d v) h R:=rfl
@[simp] def apU(v:aa)(h:az):Zv F k i d m e R (Z (v,h))=(still (ik e d v) h k i=ck/\bS F k m (ik e d v) h R):=rfl
@[simp] def apV:Zs F d l e R K=False:=rfl
@[simp] def apT:Zv F k i d m e R K=False:=rfl
@[simp] def aq3(V:aa->az->Prop)(a:List aa):VA V h (Z a)=(gV a=ck/\V (result a) h):=rfl
@[simp ↓] def aEu:aK F .skip e h g↔g .normal e h:=ae3
@[simp ↓] def aH6:aK F .ret e h g↔g .ret e h:=aiQ
@[simp ↓] def aEt{id:Nat} :aK F (.exit id) e h g↔g (.exit id) e h:=ae2
@[simp ↓] def aH7{a b:aD} :aK F (.seq a b) e h g↔aK F a e h (LD F b g):=aiR
@[simp ↓] def ayu{id:Nat}{c:aD} :aK F (.block id c) e h g↔aK F c e h (RC id g):=aaW
@[simp ↓] def aH5{l:List cr} :aK F (.ops l) e h g↔bh F l e h (g .normal):=aiP
@[simp ↓] def aEs{l:List (cr×List Nat)} :aK F (.draw l) e h g↔bS F h.clock l e (tick h) (g .normal):=ae1
@[simp ↓] def aEv{a b:aD}(q:ev e c=dC ck):aK F (.cond c a b) e h g↔aK F a e h g:=Ju q
@[simp ↓] def ayw{a b:aD}(q:ev e c=dC cd):aK F (.cond c a b) e h g↔aK F b e h g:=Ju q
@[simp ↓] def aH3:bh F [] e h R↔R e h:=ais
@[simp ↓] def aEp:bS F k [] e h R↔R e h:=ac8
@[simp ↓] def q_op{a:kW}(y:calls a=cd):bh F (⟨d,K,a⟩::l) e h R↔Zs F d l e R (de e h a):=by rw[vY,WM y];constructor;rintro⟨v,u,u,q⟩;rw[u];exact q;intro q;rcases u:de e h a with _|x;rw[u] at q;exact q.elim;rw[u] at q;exact⟨_,_,rfl,q⟩
@[simp ↓] def q_do{a:kW}(q:bY e t=dC b):bh F (⟨d,Z (t,b),a⟩::l) e h R↔bh F (⟨d,K,a⟩::l) e h R:=by rw[vY,Bi q,vY];simp
@[simp ↓] def aEr{a:kW}(q:bY e t=dC (!b)):bh F (⟨d,Z (t,b),a⟩::l) e h R↔bh F l (ik e d (.tuple #[])) h R:=by rw[vY,Bi q];cases b<;>rfl
@[simp ↓] def aH1{a:kW}(q:bY e t=dC b):bS F k ((⟨d,Z (t,b),a⟩,i)::m) e h R↔bS F k ((⟨d,K,a⟩,i)::m) e h R:=by rw[sf,Bi q,sf];simp
@[simp ↓] def ayv{a:kW}(q:bY e t=dC (!b)):bS F k ((⟨d,Z (t,b),a⟩,i)::m) e h R↔(still (ik e d (.tuple #[])) h k i=ck/\bS F k m (ik e d (.tuple #[])) h R):=by rw[sf,Bi q];cases b<;>rfl
@[simp ↓] def aH2{a:kW}(y:calls a=cd):bS F k ((⟨d,K,a⟩,i)::m) e h R↔Zv F k i d m e R (de e h a):=by rw[sf,WM y];constructor;rintro⟨v,u,u,q⟩;rw[u];exact q;intro q;rcases u:de e h a with _|x;rw[u] at q;exact q.elim;rw[u] at q;exact⟨_,_,rfl,q⟩
def aiD :bh F (⟨d,K,.call f a⟩::l) e h R↔fh F (ev e f) (qY e a) h (anB F d l e R):=by rw[vY,NG];rfl
def alW :bS F k ((⟨d,K,.call f a⟩,i)::m) e h R↔fh F (ev e f) (qY e a) h (aj5 F k i d m e R):=by rw[sf,NG];rfl
def bh.call{f:Nat}{a:List aT}{V:aa->az->Prop}(H:aY F f (qY e a) h V)(c:∀v b,V v b->bh F l (ik e d v) b R):bh F (⟨d,K,.call (.func f) a⟩::l) e h R:=by rw[aiD];have⟨n,v,b,u,q⟩:=H;refine⟨n,v,b,?_,c v b q⟩;have:=Cx u;simpa [ev,AI.fF] using this
def bh.fF(H:fh F (ev e f) (qY e a) h V)(c:∀v b,V v b->bh F l (ik e d v) b R):bh F (⟨d,K,.call f a⟩::l) e h R:=by rw[aiD];exact H.mono c
@[simp] def ajZ :GM j V .normal e h↔VA V h (results e h j):=by rw[Vr];cases results e h j<;>simp[VA]
@[simp] def aqv :GM j V .ret e h↔VA V h (results e h j):=by rw[agw];cases results e h j<;>simp[VA]
@[simp] def arT(t:Nat)(v:aa):ik e (Z t) v=Tr.set e t v:=rfl
@[simp] def arS(v:aa):ik e K v=e:=rfl
@[simp] def aAF(t:Nat):ev e (.tmp t)=bY e t:=rfl
@[simp] def atq(v:aa):ev e (.const v)=v:=rfl
@[simp] def aq5(g:Nat):ev e (.global g)=eU (Z ⟨g,0,K⟩):=rfl
@[simp] def aw8(f:Nat):ev e (.func f)=.func (.func f) #[] #[]:=rfl
attribute [simp] Env.bN
@[simp] def amw(t:Nat):bY .nil t=.tuple #[]:=rfl
@[simp] def aqj(i:Nat):params e i []=e:=rfl
@[simp] def anm(i:Nat)(v:aa)(r:List aa):params e i (v::r)=params (Tr.set e i v) (i+1) r:=rfl
@[simp] def awI:qY e []=[]:=rfl
@[simp] def ar1(x:aT)(a:List aT):qY e (x::a)=ev e x::qY e a:=rfl
@[simp] def aq0(a:kW):calls a=(match a with|.call _ _=>ck|_=>cd):=by cases a<;>rfl
attribute [simp] de agg width fV cN d_ jY Hb Qu flat cellsOf plain pI bound results result gV tp simple still
def js(h:az)(z:List aa)(a:Nat)(q:Bool)(s x:aa):Option (aa×az):=
 match news h z q x with
 |some (n,x)=>eI h z a s n x
 |none=>K
@[simp ↓ high] def aqc(z:List aa)(a:Nat)(q:Bool)(s x:aT):de e h (.append z a q s x)=js h z a q (ev e s) (ev e x):=rfl
@[simp] def anu(b a:List aa):aX b 0 a=a++b.drop (cz a):=by simp[aX]
@[simp] def ant(c:aa)(a b:List aa)(k:Nat):aX (c::a) (k+1) b=c::aX a k b:=by simp[aX,Nat.add_right_comm k 1]
@[simp] def anA(h:az)(b c:Nat)(a:List aa):gK h b c a=match h.tr.get b with
  |some (.bZ d cd o _)=>if c+cz a<=cz d then Z (put h b c d a o) else K
  |_=>K:=by
 unfold gK;rcases h.tr.get b with _|x;rfl
 .cases x with
  |bZ d u o s=>
   cases u;dsimp only;by_cases q:c+cz a<=cz d<;>simp[q,put];rfl
  |loop=>rfl
  |map=>rfl
  |itr=>rfl
@[simp] def ax(h:az)(b a n:Nat):cy h b a n=match h.tr.get b with
  |some (.bZ c _ _ _)=>if a+n<=cz c then Z ((c.drop a).take n) else if n=0 then Z [] else K
  |_=>K:=by
 unfold cy;rcases h.tr.get b with _|x;rfl
 .cases x with
  |bZ c C o s=>
   dsimp only;have A:cz ((c.drop a).take n)=min n (cz c-a):=J
   by_cases u:a+n<=cz c
   .have:cz ((c.drop a).take n)=n:=ab
    simp[u,this]
   .simp only[u,if_false];by_cases y:n=0;subst y;simp
    .have:¬(cz ((c.drop a).take n))=n:=ab
     have q:an (cz ((c.drop a).take n)) n=cd:=by cases q:an (cz ((c.drop a).take n)) n;rfl;exact absurd (sq q) this
     simp only[q,y,if_false,CL]
  |loop=>rfl
  |map=>rfl
  |itr=>rfl
def CF(h:az)(a:List aa)(o b:Nat):(aJ h a o).tr.get b=if b=h.aw then Z (.bZ a cd o 0) else h.tr.get b:=by simp[aJ,az.new,Tr.bN]
def dO(h:az)(b a:Nat)(d c:List aa)(o j:Nat):(put h b a d c o).tr.get j=if j=b then Z (.bZ (aX d a c) cd o h.clock) else h.tr.get j:=by simp[put,Tr.bN]
attribute [simp] CF dO
@[simp] def av0(h:az)(b a:Nat)(d c:List aa)(o:Nat):(put h b a d c o).aw=h.aw:=rfl
@[simp] def aq1(h:az)(b a:Nat)(d c:List aa)(o:Nat):(put h b a d c o).clock=h.clock+1:=rfl
@[simp] def an2(h:az):(tick h).clock=h.clock+1:=rfl
def ay.new{S:Nat->Prop}{h a:az}(g:ay S h a)(b:List aa)(o:Nat):ay S h (aJ a b o):=g.trans (aO g.ok b o).cm
def ay.tick{S:Nat->Prop}{h a:az}(g:ay S h a):ay S h (tick a):=g.trans (bk g.ok).cm
def ay.put{S:Nat->Prop}{h a:az}{b off:Nat}{cs vs:List aa}{o:Nat}(g:ay S h a)(u:∃s,a.tr.get b=Z (.bZ cs cd o s))(q:h.aw<=b\/S b):ay S h (put a b off cs vs o):=by have⟨s,u⟩:=u;refine g.trans' (bc g.ok u) ai λx y e=>?_;rcases q with q|q;omega;rw[e];exact q
@[simp] def asO(p:aa->Bool):([]:List aa).all p=ck:=rfl
end
end Go.AI
