/- Parts of the proof. -/
import GoSem.Dispatch
import Derived.Calls
import Derived.Below
import Derived.Laws.Rows
import Derived.Laws.CopyRow
import Derived.Laws.StructEq
import Derived.Laws.Append
import Derived.ChangeKeysEq
import Derived.Laws.Slices
import Derived.Laws.MakeOwn
import Derived.Laws.AppendOwn
import Derived.Laws.Sem
open Array renaming ext'->cL,foldlM_toList->F4,getD_eq_getD_getElem?->bV,getElem?_eq_some_iff->gj,length_toList->F3,mapM_eq_foldlM->E5,range->E4,replicate->RC,size_push->zo
open BitVec renaming ofInt->c7
open Go.Act renaming put->Ry
open Go renaming Addr->E0,BinOp->B3,Code->B5,Deferred->w5,Field->yU,Frame->gr,FuncId->N3,IntKind->nH,Item->B1,MapEntry->adV,Next->o0,Oper->ed,Operand->aU,Program->b7,ResultVar->aaw,TypeDesc->adU,TypeId->e7,Value->aa,World->c5,asInt->Yb,asIntOf->ra,results->Q4,run_firstCells_some->x0,sizeOf->sF,stepG->cf,step_lone_go->bG,typeInfo->nw,zeroValue->na
open Go.Builtin renaming append_->eL,cap_->we,clear_->sH,copy_->zt,firstCells->cc,lenOf->qu,len_->wb,nextslicecap->sG,zeroCells->fo
open Go.Deferred renaming ofValue->F2
open Go.Extern.SlicesOverlaps renaming overlaps->wx
open Go.Frame renaming enter->pe,finish->XA
open Go.Instr renaming alloc->Yt,beginRound->NX,box->abV,build->yT,buildSlice->yc,endLoop->V6,endRound->S5,enterLoop->Rq,extract->V5,fieldAt->V4,fill->aax,getLoop->V3,index->yx,indexAt->vJ,loadAt->Xv,makeFunc->S0,slice->Yq,sliceAt->Bq,sliceBound->nx,sliceBounds->kl,storeAt->VX,sureAddr->ub,takeDeferred->IC
open Go.Next renaming value->cp
open Go.Program renaming cellsOf->K2
open Go.Question renaming forced->rr
open Go.Region renaming wanted->cI
open Go.Result renaming andThen_ok->Ig
open Go.Sem renaming run->zg,run_bind->aav,run_ite->abS,run_pure->aau
open Int renaming le_trans->aas,natCast_mul->Ul,natCast_nonneg->mH,ofNat->lE,ofNat_le->sE,ofNat_lt->En,toNat_natCast->Q3
open List.Nodup renaming length_le_of_subset->vn
open Nat renaming add_assoc->XY,add_mul->abO,add_zero->aao,beq->ar,beq_refl->lW,ble->nK,ble_eq_true_of_le->u2,blt->eR,blt_eq->j0,eq_of_beq_eq_true->ow,eq_zero_or_pos->LK,le_of_ble_eq_true->E9,le_of_eq->aam,le_refl->abN,le_trans->aal,lt_of_lt_of_le->Lr,lt_or_ge->aaj,min->wA,min_eq_left->lA,mod_lt->TZ,mul_le_mul_right->G5,one_mul->Ox,sub_mul->GX,zero_add->aah,zero_le->kp
open Ne renaming symm->a7
open Option.some renaming injEq->BM
open Prod.mk renaming injEq->Ov
open Option renaming some->Z,none->K,bind_eq_some_iff->AS,bind_some->w7,getD_some->da,isSome_none->lI,isSome_some->lH,map_none->lO,map_some->Ll
open Bool renaming false->b9,true->cd,and_eq_true->Rz,false_eq_true->K7,not_eq_true'->yY,not_true->XN,or_eq_true->nv,true_and->XM
open List renaming length->Y,all_cons->gF,all_eq_true->lL,all_map->C3,append_assoc->NR,append_nil->SQ,cons_append->zb,drop_drop->pa,drop_eq_nil_of_le->CE,eq_nil_of_length_eq_zero->y5,ext_getElem?->Nt,foldlM_cons->QS,getElem?_append_left->AV,getElem?_append_right->z8,getElem?_drop->gD,getElem?_eq_getElem->BS,getElem?_eq_none->D2,getElem?_map->Mw,getElem?_replicate->B4,getElem?_set->Mp,getElem?_take->KX,getElem?_toArray->oo,getElem_mem->P5,headD_cons->za,length_append->KV,length_filter_le->D1,length_map->SK,length_take->ml,map_cons->Xs,mem_append->SD,mem_cons->bd,mem_cons_of_mem->F1,mem_cons_self->KU,mem_filter->SA,mem_map->X9,mem_map_of_mem->HF,mem_of_mem_take->FO,mem_range->Ub,set_set->X7,size_toArray->L6,take_add_one->L5,take_append_drop->ki,take_length->OU,take_of_length_le->B6,zip_cons_cons->JL
open Go.Value renaming slice->c6,bool->dd,pointer->dB,int->dC,string->eT,agg->eU
open Go.IntKind renaming i64->ef,wrap_i64->Ih
open Or renaming inl->fc,inr->ft
set_option linter.all false
set_option maxHeartbeats 1000000
namespace Go.AI
theorem Q{α:Sort _}{a:α}:a=a:=.refl a
def J {p:Prop} (h:p:=by omega):p:=h
def ag {p:Prop} (h:p:=by simp):p:=h
def ai {p:Prop} (h:p:=by decide):p:=h
def aj {p q:Nat->Prop}:∀x,p x->q x->q x:=λ_ _ h=>h
def ak {p q:Prop} (h:p) (k:p->q:=by intro h;simpa using h):q:=k h
def aq {p q:Prop} (h:p) (k:p->q:=by intro h;simp;exact h):q:=k h
def av {p q:Prop} (h:p) (k:p->q:=by intro h;simp[h]):q:=k h
def aw {p q:Prop} (h:p) (k:p->q:=by intro h;omega):q:=k h
variable{args:List aa}{f:Nat}{v:aa}
inductive Tr(α:Type) where
 |nil
 |node (v:Option α) (l r:Tr α)
namespace Tr
variable{a:Type}
def get:Tr a->Nat->Option a
 |.nil,_=>K
 |.node v l r,k=>
  match k with
  |0=>v
  |k+1=>bif ar (k%2) 0 then l.get (k/2) else r.get (k/2)
def put:Nat->Tr a->Nat->Option a->Tr a
 |0,t,_,_=>t
 |f+1,.nil,k,x=>
  match k with
  |0=>.node x .nil .nil
  |k+1=>bif ar (k%2) 0 then .node K (put f .nil (k/2) x) .nil else .node K .nil (put f .nil (k/2) x)
 |f+1,.node v l r,k,x=>
  match k with
  |0=>.node x l r
  |k+1=>bif ar (k%2) 0 then .node v (put f l (k/2) x) r else .node v l (put f r (k/2) x)
def set(t:Tr a)(k:Nat)(x:a):Tr a:=put (k+1) t k (Z x)
def del(t:Tr a)(k:Nat):Tr a:=put (k+1) t k K
end Tr
abbrev Env:=Tr aa
def bX(e:Env)(t:Nat):aa:=(Tr.get e t).getD (.tuple #[])
inductive kD where
 |mv (x:aU)
 |pick (c a b:aU)
 |alloc (z:List aa)
 |box (x:aU)
 |build (z:List aa) (parts:List (Nat×Nat×aU))
 |fC (n:Nat) (z:List aa) (parts:List (Nat×Nat×aU))
 |load (n:Option Nat) (a:aU)
 |store (n:Nat) (a v:aU)
 |Aj (x:aU)
 |bin (op:B3) (n:List Nat) (x y:aU)
 |un (op:UnOp) (x:aU)
 |conv (k:nH) (x:aU)
 |uP (f:N3) (caps:List aU)
 |iO (z:List aa) (bytes:Nat) (len cap:aU)
 |slice (size:Nat) (x:aU) (lo hi mx:Option aU)
 |cD (off:Nat) (x:aU)
 |ee (arr:Option Nat) (size:Nat) (x i:aU)
 |index (arr:Option (Nat×Nat×Option Nat)) (x i:aU)
 |ext (i:Nat) (x:aU)
 |call (f:aU) (args:List aU)
 |ox (x:aU)
 |MM (x:aU)
 |append (z:List aa) (bytes:Nat) (oe:Bool) (s x:aU)
 |copy (size:Nat) (d s:aU)
 |clear (z:List aa) (x:aU)
 |WL (x:aU)
 |bad
 deriving Inhabited
structure cn where
 dst:Option Nat
 guard:Option (Nat×Bool)
 op:kD
 deriving Inhabited
inductive aG where
 |skip
 |ops (l:List cn)
 |draw (l:List (cn×List Nat))
 |seq (a b:aG)
 |cond (c:aU) (a b:aG)
 |block (id:Nat) (c:aG)
 |loop (c:aG)
 |RO (f:aU) (ps:List Nat) (asg body:aG)
 |exit (id:Nat)
 |ret
 |bad
 deriving Inhabited
inductive I7 where
 |tmp (t:Nat)
 |cell (a:Nat) (n:Option Nat)
inductive Wz where
 |ready|busy|done (j:Option Nat)
inductive qo where
 |ch (cells:List aa) (ro:Bool) (L8:Nat) (aF9:Nat)
 |loop (env:Env) (ps:List Nat) (asg body:aG) (st:Wz)
 |map (es:List (aa×aa))
 |itr
structure aB where
 ax:Nat
 clock:Nat
 tr:Tr qo
def WF(h:aB):Prop:=∀b o,h.tr.get b=Z o->b<h.ax
structure eV(h h':aB):Prop where
 ax:h.ax<=h'.ax
 clock:h.clock<=h'.clock
 bU:∀b cs ro o s,b<h.ax->h'.tr.get b=Z (.ch cs ro o s)->s<h.clock->h.tr.get b=Z (.ch cs ro o s)
 wf:WF h->WF h'
 mp:∀b,b<h.ax->h'.tr.get b=Z (.map [])->h.tr.get b=Z (.map [])
inductive Prim where
 |no
 |run (p:List aa->aB->Option (aa×aB)) (hp:∀args h v h',p args h=Z (v,h')->eV h h')
 |Rx
structure cY where
 res:List I7
 body:aG
 Ap:Prim:=.no
inductive bJ where
 |normal
 |exit (id:Nat)
 |ret
def ev(e:Env):aU->aa
 |.tmp t=>bX e t
 |.const v=>v
 |.global g=>dB (Z ⟨g,0,K⟩)
 |.func f=>.func (.func f) #[] #[]
def gG(e:Env):Option Nat->aa->Env
 |none,_=>e
 |some t,v=>Tr.set e t v
def aB.new(h:aB)(o:qo):aB:= {h with ax:=h.ax+1,tr:=h.tr.set h.ax o}
def aM(h:aB)(a:List aa)(j:Nat):aB:=h.new (.ch a b9 j 0)
def agg(n:Option Nat)(a:List aa):Option aa:=
 match n with
 |some n=>if ar (Y a) n then Z (eU ⟨a⟩) else K
 |none=>match a with
  |[v]=>Z v
  |_=>K
def width(n:Option Nat):Nat:=match n with|some n=>n|none=>1
def cC(h:aB)(b a n:Nat):Option (List aa):=
 match h.tr.get b with
 |some (.ch b _ _ _)=>let r:=(b.drop a).take n;if ar (Y r) n then Z r else K
 |_=>K
def bg(b:List aa)(a:Nat)(c:List aa):List aa:=b.take a++c++b.drop (a+Y c)
def gq(h:aB)(c b:Nat)(a:List aa):Option aB:=
 match h.tr.get c with
 |some (.ch d b9 o _)=>
  if nK (b+Y a) (Y d) then Z {h with clock:=h.clock+1,tr:=h.tr.set c (.ch (bg d b a) b9 o h.clock)} else K
 |_=>K
def cellsOf:aa->List aa
 |eU a=>a.toList
 |v=>[v]
def plain:aa->Bool
 |eU _=>b9
 |.tuple _=>b9
 |.chan _=>b9
 |_=>cd
def simple:aa->Bool
 |eU _=>b9
 |.tuple _=>b9
 |.chan _=>b9
 |.func _ _ _=>b9
 |_=>cd
def flat(v:aa):Option (List aa):=bif (cellsOf v).all plain then Z (cellsOf v) else K
def oM(e:Env):List aa->List (Nat×Nat×aU)->Option (List aa)
 |a,[]=>Z a
 |a,(c,n,x)::r=>match flat (ev e x) with
  |some b=>if ar (Y b) n&&nK (c+n) (Y a) then oM e (bg a c b) r else K
  |none=>K
def jG(z:List aa):Nat->List aa
 |0=>[]
 |n+1=>z++jG z n
def jv(k:Nat)(a b:aa):Option Bool:=
 match k,a,b with
 |0,dd a,dd b=>Z (a==b)
 |1,.int k a,.int j b=>if k=j then Z (a==b) else K
 |2,eT a,eT b=>Z (a==b)
 |_,_,_=>K
def di:List Nat->List aa->List aa->Option Bool
 |[],[],[]=>Z cd
 |k::x,a::j,b::s=>match jv k a b,di x j s with
  |some x,Z y=>Z (x&&y)
  |_,_=>K
 |_,_,_=>K
def xz(c:List Nat)(a b:aa):Option Bool:=
 match a,b with
 |eU a,eU b=>match c with
  |9::c=>di c a.toList b.toList
  |_=>K
 |a,b=>match c with
  |[3]=>match a,b with
   |c6 K _ _,c6 b _ _=>Z b.isNone
   |c6 (Z _) _ _,c6 K _ _=>Z b9
   |_,_=>K
  |[4]=>match a,b with
   |dB K,dB b=>Z b.isNone
   |dB (Z _),dB K=>Z b9
   |_,_=>K
  |[5]=>match a,b with
   |.map K,.map b=>Z b.isNone
   |.map (Z _),.map K=>Z b9
   |_,_=>K
  |[6]=>match a,b with
   |.nilFunc,.nilFunc=>Z cd
   |.nilFunc,.func _ _ _=>Z b9
   |.func _ _ _,.nilFunc=>Z b9
   |_,_=>K
  |[k]=>jv k a b
  |_=>K
def jS(c:B3)(k:nH)(a b:Int):Option aa:=
 match c with
 |.add=>Z (.int k (k.wrap (a+b)))
 |.sub=>Z (.int k (k.wrap (a-b)))
 |.mul=>Z (.int k (k.wrap (a*b)))
 |.quo=>if b=0 then K else Z (.int k (k.wrap (a.tdiv b)))
 |.rem=>if b=0 then K else Z (.int k (a.tmod b))
 |.and=>Z (.int k (k.wrap (c7 k.bits a &&& c7 k.bits b).toNat))
 |.or=>Z (.int k (k.wrap (c7 k.bits a ||| c7 k.bits b).toNat))
 |.xor=>Z (.int k (k.wrap (c7 k.bits a ^^^ c7 k.bits b).toNat))
 |.andNot=>Z (.int k (k.wrap (c7 k.bits a &&& ~~~(c7 k.bits b)).toNat))
 |.eql=>Z (dd (a==b))
 |.neq=>Z (dd (a !=b))
 |.lss=>Z (dd (a<b))
 |.leq=>Z (dd (a<=b))
 |.gtr=>Z (dd (a>b))
 |.geq=>Z (dd (a>=b))
 |_=>K
def nZ(c:B3)(k:nH)(a b:Int):Option aa:=
 if b<0 then K else
 match c with
 |.shl=>Z (.int k (k.wrap (a*2^(min b.toNat k.bits))))
 |.shr=>Z (.int k (a.fdiv (2^(min b.toNat k.bits))))
 |_=>K
def FD(op:B3)(n:List Nat)(x y:aa):Option aa:=
 match op with
 |.shl=>match x,y with|.int k a,.int _ b=>nZ .shl k a b|_,_=>K
 |.shr=>match x,y with|.int k a,.int _ b=>nZ .shr k a b|_,_=>K
 |.eql=>match x,y with
  |.int k a,.int j b=>if k=j then jS .eql k a b else K
  |x,y=>match xz n x y with|some b=>Z (dd b)|none=>K
 |.neq=>match x,y with
  |.int k a,.int j b=>if k=j then jS .neq k a b else K
  |x,y=>match xz n x y with|some b=>Z (dd (!b))|none=>K
 |.gtr=>match x,y with
  |.int k a,.int j b=>if k=j then jS .gtr k a b else K
  |dC ef a,.chan (Z c)=>if a<=(c:Int) then Z (dd b9) else K
  |_,_=>K
 |op=>match x,y with|.int k a,.int j b=>if k=j then jS op k a b else K|_,_=>K
def XS(k:UnOp)(x:aa):Option aa:=
 match k,x with
 |.neg,.int k n=>Z (.int k (k.wrap (0-n)))
 |.xor,.int k n=>Z (.int k (k.wrap (c7 k.bits (if k.signed then-1 else k.max) ^^^ c7 k.bits n).toNat))
 |.not,dd b=>Z (dd !b)
 |_,_=>K
def bound(e:Env)(x:Option aU)(j s:Nat):Option Nat:=
 match x with
 |none=>Z j
 |some x=>match ev e x with
  |.int _ (.ofNat i)=>if nK i s then Z i else K
  |_=>K
def roomy(a:Nat):Bool:=nK a 1099511627776
def news(h:aB)(z:List aa)(n:Bool)(x:aa):Option (Nat×List aa):=
 match n,x with
 |true,.int _ (.ofNat n)=>if roomy n then Z (n,jG z n) else K
 |false,c6 K n _=>if ar n 0 then Z (0,[]) else K
 |false,c6 (Z ⟨b,x,K⟩) n _=>if ar n 0 then Z (0,[]) else match cC h b x (n*Y z) with
  |some z=>Z (n,z)
  |none=>K
 |_,_=>K
def dz(h:aB)(z:List aa)(b:Nat)(s:aa)(n:Nat)(d:List aa):Option (aa×aB):=
 match s with
 |c6 c a j=>
  if eR 0 (Y z) then
  if ar n 0 then(if nK a j then Z (c6 c a j,h) else K) else
  if roomy (a+n)&&roomy ((a+n)*b) then
   match c with
   |none=>if ar a 0&&ar j 0 then Z (c6 (Z ⟨h.ax,0,K⟩) n n,aM h d (Y z)) else K
   |some ⟨c,b,K⟩=>
    match h.tr.get c with
    |some (.ch e b9 o _)=>
     if nK (a+n) j then
      match gq h c (b+a*Y z) d with
      |some r=>Z (c6 (Z ⟨c,b,K⟩) (a+n) j,r)
      |none=>K
     else
      let r:=(e.drop b).take (a*Y z)
      if ar (Y r) (a*Y z) then
       if ar o 0|| !(ar (b+j*o) (Y e)) then
        Z (c6 (Z ⟨h.ax,0,K⟩) (a+n) (a+n),aM h (r++d) (Y z))
       else if ar o (Y z) then
        Z (c6 (Z ⟨h.ax,0,K⟩) (a+n) (a+n),aM {h with tr:=h.tr.del c} (r++d) (Y z))
       else K
      else K
    |_=>K
   |_=>K
  else K
  else K
 |_=>K
def qi(e:Env)(l:List aU):List aa:=l.map (ev e)
def dh(e:Env)(h:aB):kD->Option (aa×aB)
 |.mv x=>Z (ev e x,h)
 |.pick c a b=>match ev e c with
  |dd cd=>Z (ev e a,h)
  |dd b9=>Z (ev e b,h)
  |_=>K
 |.alloc z=>Z (dB (Z ⟨h.ax,0,K⟩),aM h z 0)
 |.box x=>match flat (ev e x) with
  |some k=>Z (dB (Z ⟨h.ax,0,K⟩),aM h k 0)
  |none=>K
 |.build z u=>match oM e z u with
  |some d=>Z (eU ⟨d⟩,h)
  |none=>K
 |.fC n z u=>match oM e z u with
  |some d=>Z (c6 (Z ⟨h.ax,0,K⟩) n n,aM h d 0)
  |none=>K
 |.load n a=>match ev e a with
  |dB (Z ⟨b,g,K⟩)=>match cC h b g (width n) with
   |some d=>match agg n d with|some v=>Z (v,h)|none=>K
   |none=>K
  |_=>K
 |.store n a v=>match ev e a with
  |dB (Z ⟨b,g,K⟩)=>match flat (ev e v) with
   |some k=>if ar (Y k) n then match gq h b g k with
     |some m=>Z (.tuple #[],m)
     |none=>K
    else K
   |none=>K
  |_=>K
 |.Aj x=>match ev e x with
  |dB (Z a)=>Z (dB (Z a),h)
  |_=>K
 |.bin A n x y=>match FD A n (ev e x) (ev e y) with
  |some v=>Z (v,h)
  |none=>K
 |.un A x=>match XS A (ev e x) with
  |some v=>Z (v,h)
  |none=>K
 |.conv A x=>match ev e x with
  |.int _ n=>Z (.int A (A.wrap n),h)
  |_=>K
 |.uP f D=>bif (qi e D).all simple then Z (.func (.func f) #[] ⟨qi e D⟩,h) else K
 |.iO z A s C=>match ev e s,ev e C with
  |dC ef (.ofNat l),dC ef (.ofNat c)=>
   if nK l c&&roomy (c*A)&&eR 0 (Y z)&&roomy c then Z (c6 (Z ⟨h.ax,0,K⟩) l c,aM h (jG z c) 0) else K
  |_,_=>K
 |.slice j x D o G=>match ev e x with
  |c6 a s C=>
   match bound e G C C with
   |none=>K
   |some C=>match bound e o s C with
    |none=>K
    |some G=>match bound e D 0 G with
     |none=>K
     |some l=>match a with
      |none=>Z (c6 K (G-l) (C-l),h)
      |some ⟨b,g,K⟩=>match h.tr.get b with
       |some (.ch _ _ o _)=>bif ar o 0||ar o j then Z (c6 (Z ⟨b,g+l*j,K⟩) (G-l) (C-l),h) else K
       |_=>K
      |_=>K
  |_=>K
 |.cD g x=>match ev e x with
  |dB (Z ⟨b,o,K⟩)=>Z (dB (Z ⟨b,o+g,K⟩),h)
  |_=>K
 |.ee E j x i=>match ev e i with
  |.int _ (.ofNat i)=>match E,ev e x with
   |some n,dB (Z ⟨b,o,K⟩)=>if eR i n then Z (dB (Z ⟨b,o+i*j,K⟩),h) else K
   |none,c6 (Z ⟨b,o,K⟩) s _=>if eR i s then Z (dB (Z ⟨b,o+i*j,K⟩),h) else K
   |_,_=>K
  |_=>K
 |.index E x i=>match ev e i with
  |.int _ (.ofNat i)=>match E,ev e x with
   |some (s,j,n),eU d=>if eR i s then match agg n ((d.toList.drop (i*j)).take (width n)) with
     |some v=>Z (v,h)
     |none=>K
    else K
   |none,eT s=>match s[i]? with
    |some b=>Z (.int .u8 b.toNat,h)
    |none=>K
   |_,_=>K
  |_=>K
 |.ext i x=>match ev e x with
  |.tuple k=>match k.toList[i]? with
   |some v=>Z (v,h)
   |none=>K
  |_=>K
 |.ox x=>match ev e x with
  |c6 _ n _=>Z (dC ef n,h)
  |_=>K
 |.MM x=>match ev e x with
  |eT s=>Z (dC ef s.size,h)
  |_=>K
 |.append z A M s x=>match news h z M (ev e x) with
  |some (n,d)=>dz h z A (ev e s) n d
  |none=>K
 |.copy j M s=>match ev e M,ev e s with
  |c6 N A _,c6 M s _=>
   let n:=wA s A
   if ar n 0 then Z (dC ef 0,h) else
   match N,M with
   |some ⟨N,I,K⟩,Z ⟨O,H,K⟩=>match cC h O H (n*j) with
    |some d=>match gq h N I d with
     |some m=>Z (dC ef n,m)
     |none=>K
    |none=>K
   |_,_=>K
  |_,_=>K
 |.clear z x=>match ev e x with
  |c6 a n _=>if ar n 0 then Z (.tuple #[],h) else match a with
   |some ⟨b,g,K⟩=>match gq h b g (jG z n) with
    |some m=>Z (.tuple #[],m)
    |none=>K
   |_=>K
  |_=>K
 |.WL x=>match ev e x with
  |c6 K _ c=>Z (dC ef c,h)
  |c6 (Z ⟨b,_,K⟩) _ c=>match h.tr.get b with
   |some (.ch _ _ o _)=>if ar o 0 then Z (dC ef c,h) else Z (.chan (Z c),h)
   |_=>K
  |_=>K
 |.call _ _=>K
 |.bad=>K
abbrev R:=Option (bJ×Env×aB)
def params:Env->Nat->List aa->Env
 |e,_,[]=>e
 |e,i,v::r=>params (Tr.set e i v) (i+1) r
def results(e:Env)(h:aB):List I7->Option (List aa)
 |[]=>Z []
 |.tmp t::r=>match results e h r with|some l=>Z (bX e t::l)|none=>K
 |.cell a n::r=>match bX e a with
  |dB (Z ⟨b,a,K⟩)=>match cC h b a (width n) with
   |some a=>match agg n a with
    |some v=>match results e h r with|some l=>Z (v::l)|none=>K
    |none=>K
   |none=>K
  |_=>K
def rR:aa->Bool
 |.tuple _=>b9
 |.chan _=>b9
 |_=>cd
def result:List aa->aa
 |[v]=>v
 |l=>.tuple ⟨l⟩
def gI:List aa->Bool
 |[_]=>cd
 |l=>l.all rR
def fW:Env->List Nat->List aa->Option Env
 |e,[],[]=>Z e
 |e,t::j,v::a=>fW (Tr.set e t v) j a
 |_,_,_=>K
def Y6:List aa->aB->Option (aa×aB)
 |[c6 (Z ⟨a,_,K⟩) s _,c6 (Z ⟨b,_,K⟩) j _],h=>
  match h.tr.get a,h.tr.get b with
  |some (.ch _ b9 _ _),Z (.ch _ b9 _ _)=>bif ar s 0||ar j 0|| !(ar a b) then Z (dd b9,h) else K
  |_,_=>K
 |_,_=>K
section
variable(F:Nat->Option cY)(ih:aG->Env->aB->R)
def py(o:Bool)(f:Nat)(args:List aa)(h:aB):Option (aa×aB):=
 match F f with
 |none=>K
 |some b=>match b.Ap with
  |.Rx=>bif o then Y6 args h else K
  |.run p _=>p args h
  |.no=>match ih b.body (params .nil 0 args) h with
   |some (.normal,j,a)|some (.ret,j,a)=>match results j a b.res with
    |some b=>bif gI b then Z (result b,a) else K
    |none=>K
   |_=>K
abbrev uw(f:Nat)(args:List aa)(h:aB):Option (aa×aB):=py F ih b9 f args h
def gm(h:aB)(l:Nat)(j:Env)(a:List Nat)(b c:aG)(d:Wz):aB:= {h with tr:=h.tr.set l (.loop j a b c d)}
def nk(l:Nat)(h:aB)(b:Wz)(v:Bool):Option (aa×aB):=
 match h.tr.get l with
 |some (.loop u a s j .busy)=>Z (dd v,gm h l u a s j b)
 |_=>K
def yA(l:Nat)(j:aG)(e:Env)(h:aB):Option (aa×aB):=
 match h.tr.get l with
 |some (.loop A a u s .ready)=>
  match ih j e (gm h l A a u s .busy) with
  |some (.normal,_,h)=>nk l h .ready cd
  |some (.ret,_,h)=>nk l h (.done K) b9
  |some (.exit id,_,h)=>nk l h (.done (Z id)) b9
  |none=>K
 |_=>K
def tS(l:Nat)(args:List aa)(h:aB):Option (aa×aB):=
 match h.tr.get l with
 |some (.loop u e s j .ready)=>
  match fW u e args with
  |none=>K
  |some e=>match ih s e h with
   |some (.normal,e,h)=>yA ih l j e h
   |_=>K
 |_=>K
def fB(a:aa)(args:List aa)(h:aB):Option (aa×aB):=
 match a with
 |.func (.func f) first j=>py F ih cd f (first.toList++args++j.toList) h
 |.func (.yield l) _ _=>tS ih l args h
 |_=>K
def wanted(e:Env):Option (Nat×Bool)->Bool
 |none=>cd
 |some (t,b)=>match bX e t with
  |dd c=>c==b
  |_=>b9
def dL(o:cn)(e:Env)(h:aB):Option (Env×aB):=
 bif wanted e o.guard then
  match o.op with
  |.call f args=>match fB F ih (ev e f) (qi e args) h with
   |some (v,a)=>Z (gG e o.dst v,a)
   |none=>K
  |op=>match dh e h op with
   |some (v,a)=>Z (gG e o.dst v,a)
   |none=>K
 else Z (gG e o.dst (.tuple #[]),h)
def zi:List cn->Env->aB->Option (Env×aB)
 |[],e,h=>Z (e,h)
 |o::r,e,h=>match dL F ih o e h with
  |some (e,h)=>zi r e h
  |none=>K
def still(e:Env)(h:aB)(a:Nat):List Nat->Bool
 |[]=>cd
 |t::r=>match bX e t with
  |dB (Z ⟨b,_,K⟩)=>match h.tr.get b with
   |some (.ch _ _ _ s)=>nK s a&&still e h a r
   |_=>b9
  |c6 (Z ⟨b,_,K⟩) _ _=>match h.tr.get b with
   |some (.ch _ _ _ s)=>nK s a&&still e h a r
   |_=>b9
  |.map (Z b)=>match h.tr.get b with
   |some (.map [])=>still e h a r
   |_=>b9
  |.map K=>still e h a r
  |.tuple _=>still e h a r
  |dB K=>still e h a r
  |c6 K _ _=>still e h a r
  |_=>b9
def mF(a:Nat):List (cn×List Nat)->Env->aB->Option (Env×aB)
 |[],e,h=>Z (e,h)
 |(o,j)::r,e,h=>match dL F ih o e h with
  |some (e,h)=>bif still e h a j then mF a r e h else K
  |none=>K
def dg:aG->Env->aB->R
 |.skip,e,h=>Z (.normal,e,h)
 |.ops l,e,h=>match zi F ih l e h with
  |some (e,h)=>Z (.normal,e,h)
  |none=>K
 |.draw l,e,h=>match mF F ih h.clock l e {h with clock:=h.clock+1} with
  |some (e,h)=>Z (.normal,e,h)
  |none=>K
 |.seq a b,e,h=>match ih a e h with
  |some (.normal,e,h)=>ih b e h
  |r=>r
 |.cond c a b,e,h=>match ev e c with
  |dd cd=>ih a e h
  |dd b9=>ih b e h
  |_=>K
 |.block id c,e,h=>match ih c e h with
  |some (.exit i,e,h)=>bif ar i id then Z (.normal,e,h) else Z (.exit i,e,h)
  |r=>r
 |.loop c,e,h=>match ih c e h with
  |some (.normal,e,h)=>ih (.loop c) e h
  |r=>r
 |.exit id,e,h=>Z (.exit id,e,h)
 |.ret,e,h=>Z (.ret,e,h)
 |.RO f a u s,e,h=>match ev e f with
  |.func (.func g) first j=>match uw F ih g (first.toList++[.func (.yield h.ax) #[] #[]]++j.toList) (h.new (.loop e a u s .ready)) with
   |some (_,a)=>match a.tr.get h.ax with
    |some (.loop _ _ _ _ .ready)=>Z (.normal,e,{a with tr:=a.tr.del h.ax})
    |some (.loop _ _ _ _ (.done K))=>Z (.ret,e,{a with tr:=a.tr.del h.ax})
    |some (.loop _ _ _ _ (.done (Z id)))=>Z (.exit id,e,{a with tr:=a.tr.del h.ax})
    |_=>K
   |none=>K
  |_=>K
 |.bad,_,_=>K
end
def run(F:Nat->Option cY):Nat->aG->Env->aB->R:=
 Nat.rec (λ_ _ _=>K) (λ_ a=>dg F a)
def call(F:Nat->Option cY)(j f:Nat)(args:List aa)(h:aB):Option (aa×aB):=uw F (run F j) f args h
section
variable{F:Nat->Option cY}{a:aG->Env->aB->R}
def Kt{h s:aB}(j:py F a cd f args h=Z (v,s)):py F a b9 f args h=Z (v,s)\/∃b,F f=Z b/\b.Ap=.Rx/\Y6 args h=Z (v,s):=by
 unfold py at j⊢;rcases u:F f with _|b;rw[u] at j;cases j
 .rw[u] at j;dsimp only at j⊢;cases s:b.Ap with
  |Rx=>rw[s] at j;exact ft ⟨b,Q,s,j⟩
  |run p k=>rw[s] at j;exact fc j
  |no=>rw[s] at j;exact fc j
def BL{h u:aB}(j:py F a b9 f args h=Z (v,u)):py F a cd f args h=Z (v,u):=by
 unfold py at j⊢;rcases u:F f with _|h;rw[u] at j;cases j
 .rw[u] at j;dsimp only at j⊢;cases s:h.Ap with
  |Rx=>rw[s] at j;cases j
  |run p k=>rw[s] at j;exact j
  |no=>rw[s] at j;exact j
def Pt{h E:aB}(j:Y6 args h=Z (v,E)):v=dd b9/\E=h/\∃a E s c b G u C H M A D I d,args=[c6 (Z ⟨a,E,K⟩) s c,c6 (Z ⟨b,G,K⟩) u C]/\h.tr.get a=Z (.ch H b9 M A)/\h.tr.get b=Z (.ch D b9 I d)/\(s=0\/u=0\/a≠b):=by
 unfold Y6 at j;split at j;rename_i a E s c b G u C;split at j;rename_i U M A A I d O N;cases A:(ar s 0||ar u 0|| !(ar a b));rw[A] at j;cases j;rw[A] at j;cases j;refine⟨Q,Q,a,E,s,c,b,G,u,C,_,_,_,_,_,_,Q,O,N,?_⟩;simp only[nv,yY] at A;rcases A with(h|h)|h;exact fc (ow h);exact ft (fc (ow h));exact ft (ft λe=>by rw[e,lW] at h;cases h);cases j;cases j
end
end Go.AI
namespace Go.AI
variable{i:Nat}{α:Type}
def aR(l:List α)(i:Nat)(h:i<Y l:=by omega):∃x,l[i]?=Z x:=⟨_,BS h⟩
def iK{l:List α}(h:i<Y l):l[i]?=Z l[i]:=BS h
def cR{l:List α}{a:α} :l[i]?=Z a↔ ∃h:i<Y l,l[i]=a:=List.getElem?_eq_some_iff
def cK{l:List α}{a:α}(h:l[i]?=Z a):a∈l:=List.mem_of_getElem? h
def iF{l:List α}{a:α}(h:a∈l):∃i:Nat,l[i]?=Z a:=List.getElem?_of_mem h
def tH:type_of% @Ig:= @Ig
def tI:type_of% @run_underlying:= @run_underlying
def uy:type_of% @aav:= @aav
def zA:type_of% @aau:= @aau
def wN:type_of% @X7:= @X7
def QP:type_of% @HF:= @HF
def ye:type_of% @SQ:= @SQ
def mi:type_of% @cond_true:= @cond_true
def z6:type_of% @cond_false:= @cond_false
def OO:type_of% @AS:= @AS
def fq:type_of% @Mp:= @Mp
def qm:type_of% @ow:= @ow
def fE:type_of% @abN:= @abN
def oN:type_of% @BM:= @BM
def xE:type_of% @D2:= @D2
def La:type_of% @LK:= @LK
def gu:type_of% @Mw:= @Mw
def pU:type_of% @Rz:= @Rz
def mw:type_of% @L5:= @L5
def F7:type_of% @y5:= @y5
def mI:type_of% @OU:= @OU
def Gd:type_of% @G5:= @G5
def vU:type_of% @F1:= @F1
def Bc:type_of% @Nt:= @Nt
def IB:type_of% @P5:= @P5
def Jf:type_of% @AV:= @AV
def wV:type_of% @aal:= @aal
def Hv:type_of% @z8:= @z8
def qB:type_of% @abO:= @abO
def CB:type_of% @Ov:= @Ov
def iz:type_of% @KU:= @KU
def zz:type_of% @Ll:= @Ll
def ON:type_of% @E9:= @E9
def Jy:type_of% @Lr:= @Lr
def IA:type_of% @KV:= @KV
def DJ:type_of% @XY:= @XY
def Bb:type_of% @aaj:= @aaj
def Je:type_of% @aah:= @aah
def NN:type_of% @D1:= @D1
def KN:type_of% @NR:= @NR
def zZ:type_of% @Xs:= @Xs
def TV:type_of% @B4:= @B4
def Jl:type_of% @K7:= @K7
def Gb:type_of% @CE:= @CE
def nz:type_of% @B6:= @B6
def YS:type_of% @vn:= @vn
def Jk:type_of% @aao:= @aao
def F8:type_of% @KX:= @KX
def Xn:type_of% @Q3:= @Q3
def Xp:type_of% @FO:= @FO
def jL:type_of% @SD:= @SD
def iT:type_of% @X9:= @X9
def EG:type_of% @SA:= @SA
def yd:type_of% @SK:= @SK
def QM:type_of% @Ub:= @Ub
def bH:type_of% @if_pos:= @if_pos
def bM:type_of% @if_neg:= @if_neg
@[simp] def t_(n:Nat):aU:=.tmp n
@[simp] def i_(n:Int):aU:=.const (dC ef n)
@[simp] def o_(d:Nat)(x:kD):cn:=⟨Z d,K,x⟩
@[simp] def u_(x:kD):cn:=⟨K,K,x⟩
@[simp] def q_(d c:Nat)(b:Bool)(x:kD):cn:=⟨Z d,Z (c,b),x⟩
@[simp] def m_(d s:Nat):cn:=⟨Z d,K,.mv (.tmp s)⟩
@[simp] def k_(d:Nat)(n:Int):cn:=⟨Z d,K,.mv (.const (dC ef n))⟩
@[simp] def l_(d a:Nat):cn:=⟨Z d,K,.load K (.tmp a)⟩
@[simp] def L_(d n a:Nat):cn:=⟨Z d,K,.load (Z n) (.tmp a)⟩
@[simp] def f_(d k a:Nat):cn:=⟨Z d,K,.cD k (.tmp a)⟩
@[simp] def a_(d k x i:Nat):cn:=⟨Z d,K,.ee K k (.tmp x) (.tmp i)⟩
@[simp] def s_(n a v:Nat):cn:=⟨K,K,.store n (.tmp a) (.tmp v)⟩
@[simp] def z_(d x:Nat):cn:=⟨Z d,K,.ox (.tmp x)⟩
@[simp] def B_(d:Nat)(a:B3)(x y:Nat):cn:=⟨Z d,K,.bin a [] (.tmp x) (.tmp y)⟩
@[simp] def C_(d:Nat)(a:B3)(x:Nat)(n:Int):cn:=⟨Z d,K,.bin a [] (.tmp x) (.const (dC ef n))⟩
@[simp] def F_(d f:Nat)(l:List aU):cn:=⟨Z d,K,.call (.func f) l⟩
@[simp] def x_(d x:Nat):cn:=⟨Z d,K,.box (.tmp x)⟩
@[simp] def D_(x:cn):cn×List Nat:=(x,[])
@[simp] def G_(l:List cn)(c:aG):aG:=.seq (.ops l) c
@[simp] def O_(l:List cn):aG:=.ops l
@[simp] def V_(l:List (cn×List Nat)):aG:=.draw l
@[simp] def J_(a b:aG):aG:=.seq a b
@[simp] def H_(c n:Nat):aG:=.cond (.tmp c) .skip (.exit n)
@[simp] def I_(c:Nat)(a b:aG):aG:=.cond (.tmp c) a b
@[simp] def P_(n:Nat)(a:aG):aG:=.block n a
@[simp] def Q_(n:Nat)(a:aG):aG:=.block n (.loop a)
@[simp] def b_(b:Bool):aU:=.const (dd b)
@[simp] def M_(d:Nat)(b:Bool):cn:=⟨Z d,K,.mv (.const (dd b))⟩
instance:Coe cn (cn×List Nat):=⟨λx=>(x,[])⟩
@[simp] def N_(c i n x b d:Nat)(X:aG):aG:=.seq (.ops [⟨Z c,K,.bin .lss [] (.tmp i) (.tmp n)⟩]) (.seq (.cond (.tmp c) .skip (.exit x)) (.seq (.block b X) (.ops [⟨Z d,K,.bin .add [] (.tmp i) (.const (dC ef 1))⟩,⟨Z i,K,.mv (.tmp d)⟩])))
@[simp] def v_(d:Nat)(z:List aa)(n a:Nat):cn:=⟨Z d,K,.fC 1 z [(0,(n,(.tmp a)))]⟩
@[simp] def A_(d:Nat)(z:List aa)(n a b:Nat):cn:=⟨Z d,K,.append z n b9 (.tmp a) (.tmp b)⟩
@[simp] def X_(d:Nat)(o:B3)(a b:Nat):cn:=⟨Z d,K,.bin o [1] (.tmp a) (.tmp b)⟩
@[simp] def Y_(d:Nat)(o:B3)(a:Nat)(n:Int):cn:=⟨Z d,K,.bin o [1] (.tmp a) (.const (dC ef n))⟩
@[simp] def K_(d:Nat)(z:List aa):cn:=⟨Z d,K,.alloc z⟩
@[simp] def Z_(d:Nat):cn:=⟨Z d,K,.mv (.const (c6 K 0 0))⟩
@[simp] def E_(d i a:Nat):cn:=⟨Z d,K,.ext i (.tmp a)⟩
@[simp] def n_(d a:Nat):cn:=⟨Z d,K,.Aj (.tmp a)⟩
@[simp] def va:List aa:=[(dd b9),(dC ef 0)]
@[simp] def Ba:List aa:=[(dC ef 0)]
@[simp] def DV:List aa:=[(eT ⟨⟨[]⟩⟩),(dC ef 0),(dC ef 0),(c6 K 0 0)]
@[simp] def Fg:List aa:=[(c6 K 0 0),(c6 K 0 0),(dC ef 0),(dd b9),(dC ef 0),(c6 K 0 0)]
@[simp] def Na:List aa:=[(dC ef 0),(dC ef 0)]
@[simp] def VN:List aa:=[(dC ef 0),(dd b9),(dC ef 0)]
@[simp] def Wu:List aa:=[(dC ef 0),(c6 K 0 0)]
@[simp] def I1:List aa:=[(dC ef 0),(dC ef 0),(dd b9),(dC ef 0),(dd b9),(dC ef 0),(dC ef 0),(c6 K 0 0)]
@[simp] def Tt:List aa:=[(dC ef 0),(dd b9),(dC ef 0),(c6 K 0 0)]
@[simp] def S9:List aa:=[(dd b9),(dd b9),(dd b9)]
@[simp] def VL:List aa:=[(c6 K 0 0),(c6 K 0 0)]
@[simp] def VM:List aa:=[(dC ef 0),(dC ef 0),(dC ef 0)]
@[simp] def ZD:List aa:=[(c6 K 0 0)]
@[simp] def YT:List aa:=[(eT ⟨⟨[]⟩⟩),(dC ef 0),(c6 K 0 0)]
@[simp] def akv:List aa:=[(c6 K 0 0),(c6 K 0 0),(eT ⟨⟨[]⟩⟩),(dC ef 0),(dC ef 0),(c6 K 0 0),(c6 K 0 0)]
@[simp] def akw:List aa:=[(eT ⟨⟨[]⟩⟩)]
@[simp] def R_(a k b i s:Nat)(t:List cn):List cn:=f_ a k b::l_ (a+1) a::m_ (a+2) i::a_ (a+3) s (a+1) (a+2)::t
@[simp] def U_(a k b:Nat)(t:List cn):List cn:=f_ a k b::l_ (a+1) a::z_ (a+2) (a+1)::t
@[simp] def W_(a k b:Nat)(t:List cn):List cn:=f_ a k b::l_ (a+1) a::t
@[simp] def T_(a i j s:Nat)(t:List cn):List cn:=m_ a i::m_ (a+1) j::a_ (a+2) s a (a+1)::t
@[simp] def rS(a k b i s:Nat)(t:List (cn×List Nat)):List (cn×List Nat):=(f_ a k b,[])::(l_ (a+1) a,[])::(m_ (a+2) i,[])::(a_ (a+3) s (a+1) (a+2),[])::t
@[simp] def fJ(a k b:Nat)(t:List (cn×List Nat)):List (cn×List Nat):=(f_ a k b,[])::(l_ (a+1) a,[])::t
@[simp] def Si(a i j s:Nat)(t:List (cn×List Nat)):List (cn×List Nat):=(m_ a i,[])::(m_ (a+1) j,[])::(a_ (a+2) s a (a+1),[])::t
@[simp] def S_(a g:Nat)(b:Bool):List kD->List cn->List cn
 |[],t=>t
 |x::l,t=>⟨Z a,Z (g,b),x⟩::S_ (a+1) g b l t
@[simp] def y_(a i c x b d:Nat)(p:List cn)(X:aG):aG:=.seq (.seq (.ops (m_ a i::(p++[⟨Z c,K,.bin .lss [] (.tmp a) (.tmp (c-1))⟩]))) (.cond (.tmp c) .skip (.exit x))) (.seq (.block b X) (.ops [⟨Z d,K,.mv (.tmp i)⟩,⟨Z (d+1),K,.bin .add [] (.tmp d) (.const (dC ef 1))⟩,⟨Z i,K,.mv (.tmp (d+1))⟩]))
@[simp] abbrev cg(e:Env)(k b:Nat):Prop:=bX e k=dB (Z ⟨b,0,K⟩)
@[simp] abbrev bz(e:Env)(k:Nat)(n:Int):Prop:=bX e k=dC ef n
@[simp] abbrev dR(h:aB)(X:Nat)(cs:List aa)(s:Nat):Prop:=h.tr.get X=Z (.ch cs b9 0 s)
@[simp] abbrev c_(h:aB)(X:Nat)(cs:List aa):Prop:=∃s,h.tr.get X=Z (.ch cs b9 0 s)
namespace Tr
variable{α:Type}
def aag(x:Option α):∀(f:Nat)(t:Tr α)(k j:Nat),k<f->(put f t k x).get j=if j=k then x else t.get j:=by
 intro f;induction f with
 |zero=>intro t k j h;omega
 |succ f x=>
  intro t k j h;cases t with
  |nil=>
   cases k with
   |zero=>cases j with
    |zero=>simp[put,get]
    |succ j=>simp[put,get]
   |succ k=>
    have D:k/2<f:=J
    cases j with
    |zero=>
     have:¬(0=k+1):=J
     unfold put;dsimp only;cases u:ar (k%2) 0<;>simp[get]
    |succ j=>
     unfold put;dsimp only;cases u:ar (k%2) 0<;>cases s:ar (j%2) 0<;>simp only[get,s,mi,z6,x _ _ _ D]
     .have C:k%2≠0:=by intro h;rw[h] at u;cases u
      have A:j%2≠0:=by intro h;rw[h] at s;cases s
      by_cases e:j=k;subst e;simp
      .have:j/2≠k/2:=J
       simp[e,this]
     .have C:k%2≠0:=by intro h;rw[h] at u;cases u
      have A:=qm s;have:j≠k:=by rintro rfl;omega
      simp[this]
     .have C:=qm u;have A:j%2≠0:=by intro h;rw[h] at s;cases s
      have:j≠k:=by rintro rfl;omega
      simp[this]
     .have C:=qm u;have A:=qm s;by_cases e:j=k
      subst e;simp
      .have:j/2≠k/2:=J
       simp[e,this]
  |node v l r=>
   cases k with
   |zero=>cases j with
    |zero=>simp[put,get]
    |succ j=>simp[put,get]
   |succ k=>
    have D:k/2<f:=J
    cases j with
    |zero=>
     unfold put;dsimp only;cases u:ar (k%2) 0<;>simp[get]
    |succ j=>
     unfold put;dsimp only;cases u:ar (k%2) 0<;>cases s:ar (j%2) 0<;>simp only[get,s,mi,z6,x _ _ _ D]
     .have C:k%2≠0:=by intro h;rw[h] at u;cases u
      have A:j%2≠0:=by intro h;rw[h] at s;cases s
      by_cases e:j=k;subst e;simp
      .have:j/2≠k/2:=J
       simp[e,this]
     .have C:k%2≠0:=by intro h;rw[h] at u;cases u
      have A:=qm s;have:j≠k:=by rintro rfl;omega
      simp[this]
     .have C:=qm u;have A:j%2≠0:=by intro h;rw[h] at s;cases s
      have:j≠k:=by rintro rfl;omega
      simp[this]
     .have C:=qm u;have A:=qm s;by_cases e:j=k
      subst e;simp
      .have:j/2≠k/2:=J
       simp[e,this]
def bS(t:Tr α)(k j:Nat)(x:α):(t.set k x).get j=if j=k then Z x else t.get j:=aag (Z x) _ t k j J
def iw(t:Tr α)(k j:Nat):(t.del k).get j=if j=k then K else t.get j:=aag K _ t k j J
end Tr
def Env.bS(e:Env)(k j:Nat)(v:aa):bX (Tr.set e k v) j=if j=k then v else bX e j:=by unfold bX;rw[Tr.bS];split<;>rfl
inductive bQ{α β:Type}(R:α->β->Prop):List α->List β->Prop
 |nil:bQ R [] []
 |cons {a b as' bs} (h:R a b) (hs:bQ R as' bs):bQ R (a::as') (b::bs)
namespace bQ
variable{α c:Type}{R S:α->c->Prop}
def length{l:List α}{m:List c}(h:bQ R l m):Y l=Y m:=by
 induction h with
 |nil=>rfl
 |cons _ _ m=>simp[m]
def mono{l:List α}{m:List c}(j:∀a b,R a b->S a b)(h:bQ R l m):bQ S l m:=by
 induction h with
 |nil=>exact .nil
 |cons h _ m=>exact .cons (j _ _ h) m
def app{l s:List α}{m j:List c}(h:bQ R l m)(a:bQ R s j):bQ R (l++s) (m++j):=by
 induction h with
 |nil=>exact a
 |cons h _ a=>exact .cons h a
def take{l:List α}{m:List c}(h:bQ R l m):∀n,bQ R (l.take n) (m.take n):=by
 induction h with
 |nil=>intro n;simpa using .nil
 |cons h _ m=>intro n;cases n with
  |zero=>simpa using .nil
  |succ n=>simpa using .cons h (m n)
def drop{l:List α}{m:List c}(h:bQ R l m):∀n,bQ R (l.drop n) (m.drop n):=by
 induction h with
 |nil=>intro n;simpa using .nil
 |cons h j m=>intro n;cases n with
  |zero=>simpa using .cons h j
  |succ n=>simpa using m n
def get{l:List α}{m:List c}(h:bQ R l m):∀ {i:Nat} {a:α},l[i]?=Z a->∃b,m[i]?=Z b/\R a b:=by
 induction h with
 |nil=>intro i a h;simp at h
 |cons h _ b=>
  intro i a a;cases i with
  |zero=>simp at a;subst a;exact⟨_,Q,h⟩
  |succ i=>simp at a;simpa using b a
def aob{l:List α} :∀ {m:List c},Y l=Y m->(∀(i:Nat)(a:α)(b:c),l[i]?=Z a->m[i]?=Z b->R a b)->bQ R l m:=by
 induction l with
 |nil=>intro m h _;cases m with
  |nil=>exact .nil
  |cons=>simp at h
 |cons a l l=>intro m h j;cases m with
  |nil=>simp at h
  |cons b m=>exact .cons (j 0 a b Q Q) (l (ak h) λi x y u s=>j (i+1) x y (ak u) (ak s))
end bQ
structure Cn where
 ch:Nat
 base:Nat
 len:Nat
 L8:Nat
 room:Nat
abbrev fP:=Nat->Option Cn
def xg(r:Cn)(o c j:Nat)(b:E0)(a:Nat):Prop:=
 (b=⟨r.ch,r.base+o,K⟩\/(a=0/\j=0))/\(a=j\/(r.L8≠0/\j<=a/\o+j*r.L8=r.len/\o+a*r.L8<=r.room))/\c<=j
inductive CR(ρ:fP):aa->aa->Prop
 |bool (b:Bool):CR ρ (dd b) (dd b)
 |int (k:nH) (n:Int):CR ρ (.int k n) (.int k n)
 |str (s:ByteArray):CR ρ (eT s) (eT s)
 |yo:CR ρ (dB K) (dB K)
 |ptr {b o:Nat} {r:Cn} (h:ρ b=Z r):CR ρ (dB (Z ⟨b,o,K⟩)) (dB (Z ⟨r.ch,r.base+o,K⟩))
 |gE (n c:Nat):CR ρ (c6 K n c) (c6 K n c)
 |slice {b o len cap ccap:Nat} {ca:E0} {r:Cn} (h:ρ b=Z r) (hs:xg r o len cap ca ccap):CR ρ (c6 (Z ⟨b,o,K⟩) len cap) (c6 (Z ca) len ccap)
 |wa:CR ρ (.map K) (.map K)
 |map {m:Nat} {r:Cn} (h:ρ m=Z r):CR ρ (.map (Z m)) (.map (Z r.ch))
 |uQ:CR ρ .nilFunc .nilFunc
 |pY:CR ρ .nilIface .nilIface
inductive KR(ρ:fP):aa->aa->Prop
 |cell {v c:aa} (h:CR ρ v c):KR ρ v c
 |fn (f:N3) {l m:List aa} (h:bQ (CR ρ) l m):KR ρ (.func (.func f) #[] ⟨l⟩) (.func (.func f) #[] ⟨m⟩)
 |yield {l:Nat} {r:Cn} (h:ρ l=Z r):KR ρ (.func (.yield l) #[] #[]) (.func (.yield r.ch) #[] #[])
inductive AR(ρ:fP):aa->aa->Prop
 |cell {v c:aa} (h:KR ρ v c):AR ρ v c
 |agg {l m:List aa} (h:bQ (KR ρ) l m):AR ρ (eU ⟨l⟩) (eU ⟨m⟩)
inductive VR(ρ:fP):aa->aa->Prop
 |val {v c:aa} (h:AR ρ v c):VR ρ v c
 |tuple {l m:List aa} (h:bQ (AR ρ) l m):VR ρ (.tuple ⟨l⟩) (.tuple ⟨m⟩)
 |atl {n m:Nat} (h:n<=m):VR ρ (.chan (Z n)) (dC ef m)
def fP.le(a c:fP):Prop:=∀b r,a b=Z r->c b=Z r
def fP.le_refl(a:fP):a.le a:=λ_ _ h=>h
def fP.le_trans{a b c:fP}(h:a.le b)(d:b.le c):a.le c:=λ_ _ x=>d _ _ (h _ _ x)
section
variable{a d:fP}{v c:aa}
def CR.mono(j:a.le d)(h:CR a v c):CR d v c:=by
 cases h with
 |bool b=>exact .bool b
 |int k n=>exact .int k n
 |str s=>exact .str s
 |yo=>exact .yo
 |ptr h=>exact .ptr (j _ _ h)
 |gE n c=>exact .gE n c
 |slice h u=>exact .slice (j _ _ h) u
 |wa=>exact .wa
 |map h=>exact .map (j _ _ h)
 |uQ=>exact .uQ
 |pY=>exact .pY
def KR.mono(j:a.le d)(h:KR a v c):KR d v c:=by
 cases h with
 |cell h=>exact .cell (h.mono j)
 |fn f h=>exact .fn f (h.mono λ_ _=>CR.mono j)
 |yield h=>exact .yield (j _ _ h)
def AR.mono(j:a.le d)(h:AR a v c):AR d v c:=by
 cases h with
 |cell h=>exact .cell (h.mono j)
 |agg h=>exact .agg (h.mono λ_ _=>KR.mono j)
def VR.mono(j:a.le d)(h:VR a v c):VR d v c:=by
 cases h with
 |val h=>exact .val (h.mono j)
 |tuple h=>exact .tuple (h.mono λ_ _=>AR.mono j)
 |atl h=>exact .atl h
def CR.vr(h:CR a v c):VR a v c:=.val (.cell (.cell h))
def KR.vr(h:KR a v c):VR a v c:=.val (.cell h)
def VR.undef:VR a (.tuple #[]) (.tuple #[]):=.tuple .nil
def VR.bool(b:Bool):VR a (dd b) (dd b):=(CR.bool b).vr
def VR.int(k:nH)(n:Int):VR a (.int k n) (.int k n):=(CR.int k n).vr
def KR.plain(h:KR a v c):AI.plain v=cd/\AI.plain c=cd:=by
 cases h with
 |cell h=>cases h<;>exact⟨Q,Q⟩
 |fn=>exact⟨Q,Q⟩
 |yield=>exact⟨Q,Q⟩
def CR.HV(h:VR a v c)(j:simple v=cd):CR a v c:=by
 cases h with
 |tuple=>simp[simple] at j
 |atl=>simp[simple] at j
 |val h=>cases h with
  |agg=>simp[simple] at j
  |cell h=>cases h with
   |cell h=>exact h
   |fn=>simp[simple] at j
   |yield=>simp[simple] at j
def Tj(h:KR a v c):cellsOf v=[v]/\c.cells= #[c]:=by
 have:=h.plain;constructor;cases v<;>first|rfl|(simp[AI.plain] at this)
 cases c<;>first|rfl|(simp[AI.plain] at this)
def KI{j:List aa}(h:VR a v c)(s:flat v=Z j):bQ (KR a) j c.cells.toList:=by
 unfold flat at s;cases j:(cellsOf v).all AI.plain;simp[j] at s
 .simp[j] at s;subst s;cases h with
  |tuple=>simp[cellsOf,AI.plain] at j
  |atl=>simp[cellsOf,AI.plain] at j
  |val h=>cases h with
   |agg h=>simpa [cellsOf,Value.cells] using h
   |cell h=>
    have⟨u,A⟩:=Tj h;rw[u,A];exact .cons h .nil
end
def qo.rw:qo->Bool
 |.ch _ j _ _=> !j
 |_=>cd
def fU(h:aB)(b:Nat):Prop:=∃o,h.tr.get b=Z o/\o.rw=cd
end Go.AI
namespace Go.AI
variable{L:Loop}{a:Act}{args z:Array aa}{W p q v O:aa}{U:E0}{C i l len m n off r:Nat}{el t:e7}{f x y:aU}{B vs:List aa}{fn:Func}{fs:List yU}{g V s:Option aU}{ks:List Nat}{o:ed}{I vr:Bool}{op:B3}{ops:Array ed}{ps S:Array e7}{w w':c5}{G H:Type}
def on(b:gr)(a:Act)(j:List B1):gr:= {b with tmps:=a.tmps,todo:=j,defers:=a.defers,mode:=.run}
def aaM(b:gr)(a:Act)(j:List B1):(on b a j).eval=a.eval:=by funext x;cases x<;>rfl
section
variable{P:b7}{b:gr}{a:Act}{k:List B1}{cs:List gr}{w:c5}
def aoP:step P (lone (on b a (.code .skip::k)) cs w)=.next (lone (on b a k) cs w):=
 bG (by simp[cf,stepG.exec,on])
def akl :step P (lone (on b a (.code (.label l)::k)) cs w)=.next (lone (on b a k) cs w):=
 bG (by simp[cf,stepG.exec,on])
def ady{id:Nat} :step P (lone (on b a (.inBlock id::k)) cs w)=.next (lone (on b a k) cs w):=
 bG (by simp[cf,stepG.exec,on])
def adz{c:B5} :step P (lone (on b a (.inScope c::k)) cs w)=.next (lone (on b a k) cs w):=
 bG (by simp[cf,stepG.exec,on])
def R0{c:B5} :step P (lone (on b a (.code (.scope c)::k)) cs w)=.next (lone (on b a (.code c:: .inScope c::k)) cs w):=
 bG (by simp[cf,stepG.exec,on])
def aht{x y:B5} :step P (lone (on b a (.code (.seq x y)::k)) cs w)=.next (lone (on b a (.code x:: .code y::k)) cs w):=
 bG (by simp[cf,stepG.exec,on])
def ahp{c:aU}{x y:B5}{t:Bool}(h:a.eval c=dd t):step P (lone (on b a (.code (.cond c x y)::k)) cs w)=.next (lone (on b a (.code (if t then x else y)::k)) cs w):=
 bG (by have:=aaM b a (.code (.cond c x y)::k);simp only[on] at this;simp[cf,stepG.exec,on,this,h])
def JQ{id:Nat}{c:B5} :step P (lone (on b a (.code (.block id c)::k)) cs w)=.next (lone (on b a (.code c:: .inBlock id::k)) cs w):=
 bG (by simp[cf,stepG.exec,on])
def RY{c:B5} :step P (lone (on b a (.code (.loop c)::k)) cs w)=.next (lone (on b a (.code c:: .inLoop c::k)) cs w):=
 bG (by simp[cf,stepG.exec,on])
def ahr{c:B5} :step P (lone (on b a (.inLoop c::k)) cs w)=.next (lone (on b a (.code c:: .inLoop c::k)) cs w):=
 bG (by simp[cf,stepG.exec,on])
def aoO{id:Nat}{j:List B1}(h:exitTo id k=Z j):step P (lone (on b a (.code (.exit id)::k)) cs w)=.next (lone (on b a j) cs w):=
 bG (by simp[cf,stepG.exec,on,h])
def ahs{id:Nat}{ops:Array ed} :step P (lone (on b a (.code (.region id ops b9)::k)) cs w)=.next (lone (on b a (.inRegion ops (List.range ops.size)::k)) cs w):=
 bG (by simp[cf,stepG.exec,on])
def aoN{id:Nat}{ops:Array ed} :step P (lone (on b a (.code (.region id ops cd)::k)) cs w)=
   .next (lone (on b a (.inRegion ops (Region.schedule (P.follows .mixedOrders) ops (w.tape w.drawn (.order b.fn id)))::k)) cs {w with drawn:=w.drawn+1}):=
 bG (by simp[cf,stepG.exec,on,choose,zg,rr,Question.cut])
def GK :step P (lone (on b a (.inRegion ops []::k)) cs w)=.next (lone (on b a k) cs w):=
 bG (by simp[cf,stepG.exec,on])
def Cy(b:gr)(a:Act)(ops:Array ed)(i:Nat)(c:List Nat)(k:List B1)(v:aa):(on b a (.inRegion ops (i::c)::k)).finish v=on b (a.put ((ops[i]?).bind (·.dst)) v) (.inRegion ops c::k):=by
 cases h:(ops[i]?).bind (·.dst)<;>simp[XA,on,Ry,h]
def PG{cz:List Nat}(h:((ops[i]?).map (cI · (yielded ops a.tmps))).getD b9=b9):step P (lone (on b a (.inRegion ops (i::cz)::k)) cs w)=
   .next (lone (on b (a.put ((ops[i]?).bind (·.dst)) undef) (.inRegion ops cz::k)) cs w):=by
 rw[<-Cy];exact bG (by have c:=h;simp only[on] at*;simp[cf,stepG.exec,c])
def Op.xL:Op->Bool
 |.defer _=>cd
 |_=>b9
def GO{c:List Nat}(A:ops[i]?=Z o)(u:cI o (yielded ops a.tmps)=cd)(j:Op.xL o.op=b9):cf P cd { frame:=on b a (.inRegion ops (i::c)::k),callers:=cs,status:=.running,dying:=K } w=
   stepG.apply P cd (on b a (.inRegion ops (i::c)::k)) cs K (execOp a.eval o) w:=by
 have s:=aaM b a (.inRegion ops (i::c)::k);simp only[on] at s;simp only[cf,stepG.exec,stepG.oper,Frame.oper?,on,A,u,s,zz,da,if_true];split
 .next heq=>rw[heq] at j;simp[Op.xL] at j
 rfl
def R3{c:List Nat}(s:ops[i]?=Z o)(A:cI o (yielded ops a.tmps)=cd)(u:Op.xL o.op=b9)(C:(execOp a.eval o).run P w=.ok (.value v) w'):step P (lone (on b a (.inRegion ops (i::c)::k)) cs w)=.next (lone (on b (a.put o.dst v) (.inRegion ops c::k)) cs w'):=by
 refine bG ?_;have j:=Cy b a ops i c k v;rw[s] at j;rw[GO s A u];simp only[w7] at j;rw[<-j];simp[stepG.apply,C]
def aa0{c:List Nat}(s:ops[i]?=Z o)(A:cI o (yielded ops a.tmps)=cd)(u:Op.xL o.op=b9)(C:(execOp a.eval o).run P w=.ok .skip w'):step P (lone (on b a (.inRegion ops (i::c)::k)) cs w)=.next (lone (on b (a.put o.dst undef) (.inRegion ops c::k)) cs w'):=by
 refine bG ?_;have j:=Cy b a ops i c k undef;rw[s] at j;rw[GO s A u];simp only[w7] at j;rw[<-j];simp[stepG.apply,C]
def akk{c:List Nat}{f:N3}(u:ops[i]?=Z o)(s:cI o (yielded ops a.tmps)=cd)(j:Op.xL o.op=b9)(A:(execOp a.eval o).run P w=.ok (.enter f args) w'):step P (lone (on b a (.inRegion ops (i::c)::k)) cs w)=
   .next (lone (pe P f args .normal) (on b a (.inRegion ops (i::c)::k)::cs) w'):=by
 refine bG ?_;rw[GO u s j];simp[stepG.apply,A,on]
def akm{d:List Nat}{l f:Nat}{c e:B5}(u:ops[i]?=Z o)(s:cI o (yielded ops a.tmps)=cd)(j:Op.xL o.op=b9)(A:(execOp a.eval o).run P w=.ok (.round l f z c e) w'):step P (lone (on b a (.inRegion ops (i::d)::k)) cs w)=
   .next (lone (Frame.round l f z c e .normal) (on b a (.inRegion ops (i::d)::k)::cs) w'):=by
 refine bG ?_;rw[GO u s j];simp[stepG.apply,A]
end
def dt:aa->Bool
 |dd _|.int _ _|eT _|dB K|c6 K _ _|.map K|.nilFunc|.nilIface=>cd
 |_=>b9
structure TI where
 u:adU
 size:Nat
 bytes:Nat
 zero:List aa
 agg:Bool
abbrev tU:=Nat->Option TI
def tL:adU->Bool
 |.struct _=>cd
 |.array _ _=>cd
 |_=>b9
structure xW(P:b7)(t:Nat)(i:TI):Prop where
 u:P.underlying t=Z i.u
 info:∃ti,P.info? t=Z ti/\ti.size=i.size/\ti.bytes=i.bytes/\∃z,ti.zero=Z z/\z.cells.toList=i.zero
 agg:i.agg=tL i.u
 zero:i.zero.all dt=cd
 plain:i.agg=b9->i.size=1
 len:Y i.zero=i.size
 held:∀fs,i.u=.struct fs->P.stoodInHeld t=b9
 one:i.agg=b9->∀ti z,P.info? t=Z ti->ti.zero=Z z->AI.plain z=cd
def eG(P:b7)(T:tU):Prop:=∀t i,T t=Z i->xW P t i
def vL(T:tU):Nat->List yU->Option Nat
 |off,[]=>Z off
 |off,f::fs=>bif ar f.offset off then match T f.type with
   |some i=>vL T (off+i.size) fs
   |none=>K
  else K
def rN(k:Nat->Option (List Nat)):List yU->Option (List Nat)
 |[]=>Z []
 |f::fs=>bif f.name != "_" then match k f.type,rN k fs with
   |some a,Z b=>Z (a++b)
   |_,_=>K
  else K
def YW(ks:List Nat):Nat->List Nat
 |0=>[]
 |n+1=>ks++YW ks n
def kinds(T:tU):Nat->Nat->Option (List Nat)
 |0,_=>K
 |d+1,t=>match T t with
  |none=>K
  |some i=>match i.u with
   |.bool=>Z [0]
   |.int _=>Z [1]
   |.string=>Z [2]
   |.struct fs=>match vL T 0 fs.toList with
    |some n=>bif ar n i.size then rN (kinds T d) fs.toList else K
    |none=>K
   |.array n el=>match T el with
    |some e=>bif ar (n*e.size) i.size then(match kinds T d el with|some ks=>Z (YW ks n)|none=>K) else K
    |none=>K
   |_=>K
section
variable(T:tU)
def Fs(i:TI):Option Nat:=bif i.agg then Z i.size else K
def Ct(c:Call):kD:=
 match c.callee with
 |.value f=>.call f c.args.toList
 |.builtin .len=>match c.args.toList,c.argTypes.toList with
  |[x],[t]=>match T t with
   |some i=>match i.u with|.slice _=>.ox x|.string=>.MM x|_=>.bad
   |none=>.bad
  |_,_=>.bad
 |.builtin .append=>match c.args.toList,c.argTypes.toList with
  |[s,x],[t,j]=>match T t,T j with
   |some i,Z u=>match i.u with
    |.slice el=>match T el with
     |some e=>match u.u with
      |.int _=>.append e.zero e.bytes cd s x
      |.slice _=>.append e.zero e.bytes b9 s x
      |_=>.bad
     |none=>.bad
    |_=>.bad
   |_,_=>.bad
  |_,_=>.bad
 |.builtin .copy=>match c.args.toList,c.argTypes.toList with
  |[d,s],[t,_]=>match T t with
   |some i=>match i.u with
    |.slice el=>match T el with
     |some e=>.copy e.size d s
     |none=>.bad
    |_=>.bad
   |none=>.bad
  |_,_=>.bad
 |.builtin .clear=>match c.args.toList,c.argTypes.toList with
  |[x],[t]=>match T t with
   |some i=>match i.u with
    |.slice el=>match T el with
     |some e=>.clear e.zero x
     |none=>.bad
    |_=>.bad
   |none=>.bad
  |_,_=>.bad
 |.builtin .cap=>match c.args.toList,c.argTypes.toList with
  |[x],[t]=>match T t with
   |some i=>match i.u with|.slice _=>.WL x|_=>.bad
   |none=>.bad
  |_,_=>.bad
 |_=>.bad
def Am(fs:List yU):List (Nat×aU)->Option (List (Nat×Nat×aU))
 |[]=>Z []
 |(i,x)::r=>match fs[i]? with
  |none=>K
  |some f=>match T f.type,Am fs r with
   |some j,Z l=>Z ((f.offset,j.size,x)::l)
   |_,_=>K
def dT(o:Op):kD:=
 match o with
 |.move x=>.mv x
 |.assign x=>.mv x
 |.pick c a b=>.pick c a b
 |.alloc t=>match T t with|some i=>.alloc i.zero|none=>.bad
 |.box t x=>match T t with|some _=>.box x|none=>.bad
 |.build t ps=>match T t with
  |some i=>match i.u with
   |.struct fs=>bif fs.toList.all λf=>(T f.type).isSome then match Am T fs.toList ps.toList with|some l=>.build i.zero l|none=>.bad else .bad
   |.array _ el=>match T el with
    |some e=>.build i.zero (ps.toList.map λp=>(p.1*e.size,e.size,p.2))
    |none=>.bad
   |_=>.bad
  |none=>.bad
 |.buildSlice t n ps=>match T t with
  |some i=>match i.u with
   |.slice el=>match T el with
    |some e=>bif nK (n*e.size) 1000000&&ar (Y e.zero) e.size then .fC n (jG e.zero n) (ps.toList.map λp=>(p.1*e.size,e.size,p.2)) else .bad
    |none=>.bad
   |_=>.bad
  |none=>.bad
 |.load t a=>match T t with|some i=>.load (Fs i) a|none=>.bad
 |.store t a v=>match T t with|some i=>.store i.size a v|none=>.bad
 |.nilCheck x=>.Aj x
 |.binOp op t x y _=>match op with
  |.eql|.neq=>match T t with
   |some i=>match i.u with
    |.slice _=>.bin op [3] x y
    |.pointer _=>.bin op [4] x y
    |.map _ _=>.bin op [5] x y
    |.func _ _ _=>.bin op [6] x y
    |.struct _=>match kinds T 9 t with|some ks=>.bin op (9::ks) x y|none=>.bad
    |.array _ _=>match kinds T 9 t with|some ks=>.bin op (9::ks) x y|none=>.bad
    |.bool=>.bin op [0] x y
    |.int _=>.bin op [1] x y
    |.string=>.bin op [2] x y
    |_=>.bad
   |none=>.bad
  |_=>.bin op [] x y
 |.unOp op _ x=>.un op x
 |.convert k d x=>match T k,T d with
  |some i,Z j=>match i.u,j.u with
   |.int _,.int k=>.conv k x
   |_,_=>.bad
  |_,_=>.bad
 |.makeFunc (.func f) first A=>bif first.isEmpty then .uP f A.toList else .bad
 |.makeSlice t l c=>match T t with
  |some i=>match i.u with
   |.slice el=>match T el with
    |some e=>.iO e.zero e.bytes l c
    |none=>.bad
   |_=>.bad
  |none=>.bad
 |.slice t x V g s=>match T t with
  |some i=>match i.u with
   |.slice el=>match T el with
    |some e=>bif s.isSome&&g.isNone then .bad else .slice e.size x V g s
    |none=>.bad
   |_=>.bad
  |none=>.bad
 |.fieldAddr t x k=>match T t with
  |some i=>match i.u with
   |.struct fs=>match fs[k]? with
    |some f=>match T f.type with
     |some C=>bif ar C.size 0 then .bad else .cD f.offset x
     |none=>.bad
    |none=>.bad
   |_=>.bad
  |none=>.bad
 |.indexAddr t x u=>match T t with
  |some i=>match i.u with
   |.slice el=>match T el with|some e=>.ee K e.size x u|none=>.bad
   |.array n el=>match T el with|some e=>.ee (Z n) e.size x u|none=>.bad
   |_=>.bad
  |none=>.bad
 |.index t x u=>match T t with
  |some i=>match i.u with
   |.string=>.index K x u
   |.array n el=>match T el with
    |some e=>.index (Z (n,e.size,Fs e)) x u
    |none=>.bad
   |_=>.bad
  |none=>.bad
 |.extract x i=>.ext i x
 |.call c=>Ct T c
 |_=>.bad
def Qy:aa->Bool
 |eU a=>a.toList.all dt
 |.tuple a=>a.toList.isEmpty
 |v=>dt v
def cZ(a:Nat):aU->Bool
 |.const v=>Qy v
 |.global g=>eR g a
 |_=>cd
def H7(ops:List ed)(j:Nat):Option Nat:=match ops[j]? with|some o=>o.dst|none=>K
def yq(a n:Nat)(ops:List ed)(o:ed):Bool:=
 (match o.dst with|none=>cd|some d=>eR d n)&&(match o.guard with|none=>cd|some (j,_)=>(H7 ops j).isSome)&&o.op.operands.toList.all (cZ a)
def guardOf(ops:List ed)(o:ed):Option (Nat×Bool):=match o.guard with|none=>K|some (j,b)=>Z ((H7 ops j).getD 0,b)
def cq(a n:Nat)(ops:List ed)(o:ed):cn:=
 bif yq a n ops o then { dst:=o.dst,guard:=guardOf ops o,op:=dT T o.op } else { dst:=K,guard:=K,op:=.bad }
def kC:B5->Bool
 |.seq a b=>kC a&&kC b
 |.cond _ a b=>kC a&&kC b
 |.block _ c=>kC c
 |.loop c=>kC c
 |.scope c=>kC c
 |.rangeFunc _ _ _ _=>b9
 |_=>cd
def dD(b n:Nat)(c:Nat->List ed->List (cn×List Nat)):B5->aG
 |.skip=>.skip
 |.region _ ops b9=>.ops (ops.toList.map (cq T b n ops.toList))
 |.region _ ops cd=>.draw (c n ops.toList)
 |.seq a e=>.seq (dD b n c a) (dD b n c e)
 |.cond d a e=>bif cZ b d then .cond d (dD b n c a) (dD b n c e) else .bad
 |.block id d=>.block id (dD b n c d)
 |.loop d=>.loop (dD b n c d)
 |.scope d=>dD b n c d
 |.label _=>.skip
 |.rangeFunc f ps a e=>bif cZ b f&&ps.toList.all (eR · n)&&kC a&&kC e then .RO f ps.toList (dD b n c a) (dD b n c e) else .bad
 |.exit id=>.exit id
 |.ret=>.ret
 |_=>.bad
end
def ER(a:fP)(e:Env)(z:Array aa):Prop:=∀t,VR a (bX e t) (z.getD t undef)
def PT:Wz->Loop->Prop
 |.ready,L=>L.state=.ready/\L.pending=K
 |.busy,L=>L.state=.busy
 |.done K,L=>L.state=.done/\L.pending=Z .ret
 |.done (Z id),L=>L.state=.done/\L.pending=Z (.exit id)
def SE(b:fP)(r:Cn)(a:List aa)(d:Bool)(o:Nat)(w:c5):Prop:=
 ∃(B:Array aa) (el:e7) (s:Nat×Nat),w.heap[r.ch]?=Z (.cells B el s)/\r.len=Y a/\r.L8=o/\(r.base+r.room=B.size/\(o≠0->∀(j:Nat)(c:aa),r.len<=j->B[r.base+j]?=Z c->dt c=cd))/\(d=b9->s=(0,0))/\∀(j:Nat)(v:aa),a[j]?=Z v->∃c,B[r.base+j]?=Z c/\KR b v c
abbrev dy:=Nat->aG->B5->Prop
def aeC(a:dy)(c:fP)(r:Cn)(j:Env)(ps:List Nat)(b d:aG)(e:Wz)(w:c5):Prop:=
 ∃L:Loop,w.heap[r.ch]?=Z (.loop L)/\ER c j L.tmps/\L.params.toList=ps/\a L.tmps.size b L.assign/\a L.tmps.size d L.body/\(∀t∈ps,t<L.tmps.size)/\PT e L
def aqx(a:fP)(r:Cn)(c:List (aa×aa))(w:c5):Prop:=
 ∃(j:Array adV) (b:Nat),w.heap[r.ch]?=Z (.map j b)/\bQ (λ(x:aa×aa) (y:adV)=>AR a x.1 y.key/\AR a x.2 y.val) c j.toList/\b=j.size/\∀(i:Nat)(y:adV),j[i]?=Z y->y.born=i
def jg(b:dy)(a:fP)(r:Cn)(o:qo)(w:c5):Prop:=
 match o with
 |.ch u A op _=>SE a r u A op w
 |.loop s ps u j A=>aeC b a r s ps u j A w
 |.map C=>aqx a r C w
 |.itr=>r.base=0/\w.heap[r.ch]?=Z (.mapIter K 0 #[] 0)
structure eQ(CC:dy)(ρ:fP)(h:aB)(w:c5):Prop where
 low:∀b r,ρ b=Z r->b<h.ax/\r.ch<w.heap.size
 obj:∀b r o,ρ b=Z r->h.tr.get b=Z o->jg CC ρ r o w
 inj:∀b b' r r' o,ρ b=Z r->ρ b'=Z r'->fU h b->h.tr.get b'=Z o->b≠b'->r.ch≠r'.ch
 wf:∀b o,h.tr.get b=Z o->b<h.ax
structure Ext(ρ:fP)(h:aB)(w:c5)(ρ':fP)(h':aB)(w':c5):Prop where
 le:ρ.le ρ'
 ax:h.ax<=h'.ax
 size:w.heap.size<=w'.heap.size
 os:w'.os=w.os
 tape:w'.tape=w.tape
 output:w'.output=w.output
 yZ:∀k,k<w.heap.size->(∀b r,ρ b=Z r->fU h b->r.ch≠k)->w'.heap[k]?=w.heap[k]?
 own:∀b r,ρ' b=Z r->fU h' b->w.heap.size<=r.ch\/∃b₀ r₀,ρ b₀=Z r₀/\fU h b₀/\r₀.ch=r.ch
 new:∀b r,ρ' b=Z r->ρ b=K->h.ax<=b
 live:∀b r o,ρ' b=Z r->h'.tr.get b=Z o->w.heap.size<=r.ch\/∃b₀ r₀ o₀,ρ b₀=Z r₀/\h.tr.get b₀=Z o₀/\r₀.ch=r.ch
def Ext.refl(b:fP)(h:aB)(w:c5):Ext b h w b h w:=
 ⟨b.le_refl,fE _,fE _,Q,Q,Q,λ_ _ _=>rfl,λb r j s=>ft ⟨b,r,j,s,Q⟩,λb r h a=>(by rw[h] at a;cases a),λb r o j u=>ft ⟨b,r,o,j,u,Q⟩⟩
def Ext.trans{k G c:fP}{h U E:aB}{w V D:c5}(a:Ext k h w G U V)(b:Ext G U V c E D):Ext k h w c E D:=by refine⟨fP.le_trans a.le b.le,wV a.ax b.ax,wV a.size b.size,b.os.trans a.os,b.tape.trans a.tape,b.output.trans a.output,?_,?_,?_,?_⟩;intro k W E;rw[b.yZ k (Jy W a.size) ?_,a.yZ k W E];intro x r s c e;rcases a.own x r s c with h|⟨D,A,C,u,j⟩;omega;exact E D A C u (j.trans e);intro x r s c;rcases b.own x r s c with h|⟨D,A,C,u,j⟩;exact fc (wV a.size h);rcases a.own D A C u with h|⟨I,c,u,N,O⟩;exact fc (j▸h);exact ft ⟨I,c,u,N,O.trans j⟩;intro x r s E;rcases u:G x with _|k;exact wV a.ax (b.new x r s u);exact a.new x k u E;intro x r o s M;rcases b.live x r o s M with h|⟨D,A,M,C,H,j⟩;exact fc (wV a.size h);rcases a.live D A M C H with h|⟨I,c,A,u,M,O⟩;exact fc (j▸h);exact ft ⟨I,c,A,u,M,O.trans j⟩
def ER.mono{a b:fP}{e:Env}{z:Array aa}(j:a.le b)(h:ER a e z):ER b e z:=λt=>(h t).mono j
def d_(b:Nat)(a:fP):Prop:=∀g,g<b->∃r,a g=Z r/\r.ch=g/\r.base=0
def nu{a:fP}(h:dt v=cd):CR a v v:=by unfold dt at h;split at h;exact .bool _;exact .int _ _;exact .str _;exact .yo;exact .gE _ _;exact .wa;exact .uQ;exact .pY;cases h
def fL{ρ:fP} :∀ {l:List aa},l.all dt=cd->bQ (KR ρ) l l
 |[],_=>.nil
 |v::l,h=>by simp only[gF,pU] at h;exact .cons (.cell (nu h.1)) (fL h.2)
def Tn{a:fP}(h:Qy v=cd):VR a v v:=by
 unfold Qy at h;split at h;rename_i a;exact .val (.agg (fL h))
 .rename_i a;have⟨l⟩:=a;cases l with
  |nil=>exact .tuple .nil
  |cons=>simp at h
 exact(nu h).vr
def ER.eval{j:Nat}{b:fP}{e:Env}{a:Act}(h:ER b e a.tmps)(C:d_ j b):∀ {x:aU},cZ j x=cd->VR b (ev e x) (a.eval x)
 |.tmp t,_=>h t
 |.const _,j=>Tn j
 |.global g,j=>by have⟨r,s,A,u⟩:=C g (by simpa [cZ,j0] using j);have:=CR.ptr (o:=0) s;rw[A,u] at this;exact this.vr
 |.func f,_=>(KR.fn f (l:=[]) (m:=[]) .nil).vr
def zh(h:plain v=cd):v.oneCell'=cd:=by cases v<;>first|rfl|(simp[plain] at h)
def r_(b o n:Nat):(⟨b,o,K⟩:E0).add n=⟨b,o+n,K⟩:=by unfold Addr.add;split<;>simp_all
section
variable{P:b7}{CC:dy}{ρ d:fP}{h:aB}{w w':c5}
def jg.mono{r:Cn}{o:qo}(G:ρ.le d)(E:w'.heap[r.ch]?=w.heap[r.ch]?)(u:jg CC ρ r o w):jg CC d r o w':=by
 cases o with
 |ch A W op s=>
  have⟨B,el,V,C,A,D,U,e,b⟩:=u;exact⟨B,el,V,E.trans C,A,D,U,e,λj v O=>let⟨c,hc,hr⟩:=b j v O;⟨c,hc,hr.mono G⟩⟩
 |loop b ps N I b=>
  have⟨L,C,A,D⟩:=u;exact⟨L,E.trans C,A.mono G,D⟩
 |map b=>
  have⟨H,M,C,A,D⟩:=u;exact⟨H,M,E.trans C,A.mono λ_ _ ⟨a,b⟩=>⟨a.mono G,b.mono G⟩,D⟩
 |itr=>exact⟨u.1,E.trans u.2⟩
def d_.mono{a:Nat}(s:ρ.le d)(j:d_ a ρ):d_ a d:=λg u=>let⟨r,h,x⟩:=j g u;⟨r,s _ _ h,x⟩
structure Oh(k:Nat)(w w':c5):Prop where
 os:w'.os=w.os
 tape:w'.tape=w.tape
 output:w'.output=w.output
 size:w'.heap.size=w.heap.size
 other:∀j,j≠k->w'.heap[j]?=w.heap[j]?
def Oh.row(g:Nat)(a:Array aa):Oh g w (w.setRow g a):=⟨Q,Q,Q,ag,λj s=>setRow_other w g j a s⟩
def Oh.obj(g:Nat)(o:Obj):Oh g w {w with heap:=w.heap.setIfInBounds g o} :=
 ⟨Q,Q,Q,ag,λj s=>by simp[a7 s]⟩
def eQ.drawn(S:eQ CC ρ h w)(n:Nat):eQ CC ρ h {w with drawn:=n} :=
 ⟨S.low,λb r o s j=>jg.mono ρ.le_refl (w':= {w with drawn:=n}) Q (S.obj b r o s j),S.inj,S.wf⟩
def Ext.drawn(n:Nat):Ext ρ h w ρ h {w with drawn:=n} :=
 ⟨ρ.le_refl,fE _,fE _,Q,Q,Q,λ_ _ _=>rfl,λb r j s=>ft ⟨b,r,j,s,Q⟩,λb r h a=>(by rw[h] at a;cases a),λb r o j u=>ft ⟨b,r,o,j,u,Q⟩⟩
def eQ.clock(S:eQ CC ρ h w)(n:Nat):eQ CC ρ {h with clock:=n} w:=⟨S.low,S.obj,S.inj,S.wf⟩
def Ext.clock(n:Nat):Ext ρ h w ρ {h with clock:=n} w:=
 ⟨ρ.le_refl,fE _,fE _,Q,Q,Q,λ_ _ _=>rfl,λb r j s=>ft ⟨b,r,j,s,Q⟩,λb r h a=>(by rw[h] at a;cases a),λb r o j u=>ft ⟨b,r,o,j,u,Q⟩⟩
def eQ.uY(S:eQ CC ρ h w){b:Nat}{r:Cn}{o o':qo}(H:ρ b=Z r)(E:h.tr.get b=Z o)(G:o.rw=cd)(A:Oh r.ch w w')(I:jg CC ρ r o' w')(n:Nat):eQ CC ρ {h with clock:=n,tr:=h.tr.set b o'} w'/\Ext ρ h w ρ {h with clock:=n,tr:=h.tr.set b o'} w':=by
 have M:fU h b:=⟨o,E,G⟩;have a:∀x,fU {h with clock:=n,tr:=h.tr.set b o'} x->fU h x:=by rintro x⟨p,j,u⟩;simp only[Tr.bS] at j;by_cases s:x=b;subst s;exact M;rw[bM s] at j;exact⟨p,j,u⟩
 refine⟨⟨λx u s=>⟨(S.low x u s).1,by rw[A.size];exact(S.low x u s).2⟩,?_,?_,λx p j=>?_⟩,⟨ρ.le_refl,fE _,aam A.size.symm,A.os,A.tape,A.output,?_,?_,?_,?_⟩⟩
 rotate_left 2
 simp only[Tr.bS] at j;by_cases s:x=b;subst s;exact S.wf _ _ E;rw[bM s] at j;exact S.wf x p j
 rotate_left 4
 intro x u p s j;simp only[Tr.bS] at j;by_cases C:x=b;subst C;rw[bH rfl] at j;cases j;rw[H] at s;cases s;exact I;rw[bM C] at j;exact jg.mono ρ.le_refl (A.other _ (S.inj b x r u p H s M j (a7 C)).symm) (S.obj x u p s j);intro x y u U p s c D j O;simp only[Tr.bS] at j;by_cases V:y=b;subst V;exact S.inj x y u U o s c (a x D) E O;rw[bM V] at j;exact S.inj x y u U p s c (a x D) j O;intro k _ W;exact A.other k (λe=>W b r H M e.symm);intro x u s D;exact ft ⟨x,u,s,a x D,Q⟩;intro x u D N;rw[D] at N;cases N;intro x u p s j;simp only[Tr.bS] at j;by_cases C:x=b;subst C;exact ft ⟨x,u,o,s,E,Q⟩;rw[bM C] at j;exact ft ⟨x,u,p,s,j,Q⟩
def iC(ρ:fP)(b:Nat)(r:Cn):fP:=λx=>if x=b then Z r else ρ x
def rV{b:Nat}{r:Cn}(s:ρ b=K):ρ.le (iC ρ b r):=by intro x u j;unfold iC;by_cases h:x=b;subst h;rw[s] at j;cases j;rw[bM h];exact j
def eQ.fresh(S:eQ CC ρ h w):ρ h.ax=K:=by rcases e:ρ h.ax with _|r;rfl;have:=(S.low _ _ e).1;omega
def eQ.add(S:eQ CC ρ h w){o:qo}{G:Obj}{im:Cn}(a:im.ch=w.heap.size)(N:jg CC (iC ρ h.ax im) im o (w.alloc G)):eQ CC (iC ρ h.ax im) (h.new o) (w.alloc G)/\Ext ρ h w (iC ρ h.ax im) (h.new o) (w.alloc G):=by
 have b:=rV (r:=im) S.fresh;have c:(w.alloc G).heap.size=w.heap.size+1:=zo _;have C:∀k,k<w.heap.size->(w.alloc G).heap[k]?=w.heap[k]? :=by intro k A;show(w.heap.push G)[k]?=_;rw[Array.getElem?_push,bM J]
 have D:∀x s,iC ρ h.ax im x=Z s->(x=h.ax/\s=im)\/(x≠h.ax/\ρ x=Z s):=by intro x s j;unfold iC at j;by_cases e:x=h.ax;rw[bH e] at j;cases j;exact fc ⟨e,Q⟩;rw[bM e] at j;exact ft ⟨e,j⟩
 have E:∀x,(h.new o).tr.get x=if x=h.ax then Z o else h.tr.get x:=λx=>Tr.bS _ _ _ _
 refine⟨⟨?_,?_,?_,λx p u=>?_⟩,⟨b,?_,J,Q,Q,Q,λk A _=>C k A,?_,?_,?_⟩⟩
 rotate_left 3
 rw[E] at u;by_cases e:x=h.ax;subst e;simp[aB.new];rw[bM e] at u;have:=S.wf x p u;simp only[aB.new];omega
 rotate_left 4
 intro x s j;rcases D x s j with⟨rfl,rfl⟩|⟨A,j⟩;exact⟨by simp[aB.new],by rw[c,a];omega⟩;have:=S.low x s j;exact⟨by simp only[aB.new];omega,J⟩
 intro x s p j u;rw[E] at u;rcases D x s j with⟨rfl,rfl⟩|⟨A,j⟩;rw[bH rfl] at u;cases u;exact N;rw[bM A] at u;exact jg.mono b (C _ (S.low x s j).2) (S.obj x s p j u);intro x y s W p j M O u A;rw[E] at u;rcases D x s j with⟨e,b⟩|⟨N,H⟩<;>rcases D y W M with⟨c,U⟩|⟨M,I⟩;exact absurd (e.trans c.symm) A;have:=(S.low y W I).2;rw[b,a];omega;have:=(S.low x s H).2;rw[U,a];omega;rw[bM M] at u;have⟨q,e,V⟩:=O;rw[E,bM N] at e;exact S.inj x y s W p H I ⟨q,e,V⟩ u A
 simp[aB.new];intro x s j O;rcases D x s j with⟨rfl,rfl⟩|⟨A,j⟩;exact fc J;have⟨q,e,V⟩:=O;rw[E,bM A] at e;exact ft ⟨x,s,j,⟨q,e,V⟩,Q⟩;intro x s j e;rcases D x s j with⟨rfl,rfl⟩|⟨A,j⟩;exact fE _;rw[j] at e;cases e;intro x s p j u;rcases D x s j with⟨rfl,rfl⟩|⟨A,j⟩;exact fc J;rw[E,bM A] at u;exact ft ⟨x,s,p,j,u,Q⟩
def eQ.less(S:eQ CC ρ h w)(b:Nat):eQ CC ρ {h with tr:=h.tr.del b} w/\Ext ρ h w ρ {h with tr:=h.tr.del b} w:=by
 have s:∀x p,({h with tr:=h.tr.del b} :aB).tr.get x=Z p->h.tr.get x=Z p:=by intro x p j;simp only[Tr.iw] at j;by_cases e:x=b;rw[bH e] at j;cases j;rwa [bM e] at j
 refine⟨⟨S.low,λx r o j E=>S.obj x r o j (s x o E),λx y e b p j H ⟨q,A,C⟩ u G=>S.inj x y e b p j H ⟨q,s x q A,C⟩ (s y p u) G,λx p u=>S.wf x p (s x p u)⟩,⟨ρ.le_refl,fE _,fE _,Q,Q,Q,λ_ _ _=>rfl,λx r j ⟨q,A,C⟩=>ft ⟨x,r,j,⟨q,s x q A,C⟩,Q⟩,λx r I D=>(by rw[I] at D;cases D),λx r p j u=>ft ⟨x,r,p,j,s x p u,Q⟩⟩⟩
def eQ.move(S:eQ CC ρ h w){b:Nat}{r im:Cn}{o o':qo}(G:ρ b=Z r)(c:h.tr.get b=Z o)(W:o.rw=cd)(N:im.ch=r.ch)(E:Oh r.ch w w')(f:jg CC (iC ρ h.ax im) im o' w'):eQ CC (iC ρ h.ax im) (({h with tr:=h.tr.del b} :aB).new o') w'/\Ext ρ h w (iC ρ h.ax im) (({h with tr:=h.tr.del b} :aB).new o') w':=by
 have V:fU h b:=⟨o,c,W⟩;have O:=rV (r:=im) S.fresh;have H:∀x A,iC ρ h.ax im x=Z A->(x=h.ax/\A=im)\/(x≠h.ax/\ρ x=Z A):=by intro x A s;unfold iC at s;by_cases e:x=h.ax;rw[bH e] at s;cases s;exact fc ⟨e,Q⟩;rw[bM e] at s;exact ft ⟨e,s⟩
 have a:∀x,(({h with tr:=h.tr.del b} :aB).new o').tr.get x=if x=h.ax then Z o' else if x=b then K else h.tr.get x:=by intro x;simp only[aB.new,Tr.bS,Tr.iw]
 have u:∀x p,x≠h.ax->(({h with tr:=h.tr.del b} :aB).new o').tr.get x=Z p->x≠b/\h.tr.get x=Z p:=by intro x p s j;rw[a,bM s] at j;by_cases e:x=b;rw[bH e] at j;cases j;rw[bM e] at j;exact⟨e,j⟩
 refine⟨⟨?_,?_,?_,λx p j=>?_⟩,⟨O,by simp[aB.new],aam E.size.symm,E.os,E.tape,E.output,?_,?_,?_,?_⟩⟩
 rotate_left 3
 rw[a] at j;by_cases e:x=h.ax;subst e;simp[aB.new];rw[bM e] at j;by_cases D:x=b;rw[bH D] at j;cases j;rw[bM D] at j;have:=S.wf x p j;simp only[aB.new];omega
 rotate_left 4
 intro x A s;rcases H x A s with⟨rfl,rfl⟩|⟨D,s⟩;exact⟨by simp[aB.new],by rw[N,E.size];exact(S.low b r G).2⟩;have:=S.low x A s;exact⟨by simp only[aB.new];omega,by rw[E.size];exact this.2⟩
 intro x A p s j;rcases H x A s with⟨rfl,rfl⟩|⟨D,s⟩;rw[a,bH rfl] at j;cases j;exact f;have⟨a,j⟩:=u x p D j;exact jg.mono O (E.other _ (S.inj b x r A p G s V j (a7 a)).symm) (S.obj x A p s j);intro x y A f p s g d j D;have⟨q,C,U⟩:=d;rcases H x A s with⟨k,l⟩|⟨M,I⟩<;>rcases H y f g with⟨n,m⟩|⟨g,i⟩;exact absurd (k.trans n.symm) D;have⟨k,j⟩:=u y p g j;rw[l,N];exact S.inj b y r f p G i V j (a7 k);have⟨a,C⟩:=u x q M C;rw[m,N];exact S.inj x b A r o I G ⟨q,C,U⟩ c a;have⟨a,C⟩:=u x q M C;have⟨k,j⟩:=u y p g j;exact S.inj x y A f p I i ⟨q,C,U⟩ j D;intro k _ i;exact E.other k (λe=>i b r G V e.symm);intro x A s d;have⟨q,C,U⟩:=d;rcases H x A s with⟨rfl,rfl⟩|⟨D,s⟩;exact ft ⟨b,r,G,V,N.symm⟩;have⟨_,C⟩:=u x q D C;exact ft ⟨x,A,s,⟨q,C,U⟩,Q⟩;intro x A s d;rcases H x A s with⟨rfl,rfl⟩|⟨D,s⟩;exact fE _;rw[s] at d;cases d;intro x A p s j;rcases H x A s with⟨rfl,rfl⟩|⟨D,s⟩;exact ft ⟨b,r,o,G,c,N.symm⟩;have⟨_,j⟩:=u x p D j;exact ft ⟨x,A,p,s,j,Q⟩
def GC(S:eQ CC ρ h w){c off n:Nat}{r:Cn}{j:List aa}(G:ρ c=Z r)(C:cC h c off n=Z j):Y j=n/\∃B:List aa,bQ (KR ρ) j B/\∀(j:Nat)(v:aa),B[j]?=Z v->w.cell? ((⟨r.ch,r.base+off,K⟩:E0).add j)=Z v:=by
 unfold cC at C;split at C
 .rename_i b D op s I;by_cases D:Y ((b.drop off).take n)=n
  .simp only[D,lW] at C;simp only[if_true,oN] at C;subst C;refine⟨D,?_⟩;have⟨B,el,V,d,_,_,_,_,M⟩:=S.obj c r _ G I;have H:∀(j:Nat)(v:aa),((b.drop off).take n)[j]?=Z v->∃c,B[r.base+off+j]?=Z c/\KR ρ v c:=by intro j v u;rw[F8] at u;split at u;rw[gD] at u;have⟨c,A,E⟩:=M _ _ u;exact⟨c,by rw[<-A];congr 1;omega,E⟩;cases u
   refine⟨(B.toList.drop (r.base+off)).take n,?_,?_⟩
   .refine bQ.aob ?_ ?_;rw[D];by_cases O:n=0;subst O;simp;have:((b.drop off).take n)[n-1]?=Z ((b.drop off).take n)[n-1]:=iK J;have⟨c,A,_⟩:=H _ _ this;have U:=(gj.1 A).1;simp;omega
    .intro i a c c A;have⟨W,N,E⟩:=H i a c;rw[F8] at A;split at A
     .rw[gD] at A;have:B.toList[r.base+off+i]?=Z W:=ak N
      rw[this] at A;cases A;exact E
     cases A
   .intro j v u;rw[F8] at u;split at u
    .rw[gD] at u;rw[r_];have:B[r.base+off+j]?=Z v:=ak u
     simp[World.cell?,d,this]
    cases u
  .have:ar (Y ((b.drop off).take n)) n=b9:=by cases G:ar (Y ((b.drop off).take n)) n;rfl;exact absurd (qm G) D
   simp only[this] at C;simp at C
 cases C
def DT{a vs:List aa}(h:off+Y vs<=Y a):Y (bg a off vs)=Y a:=by simp[bg];omega
def po{cs vs:List aa}{off j:Nat}(h:off+Y vs<=Y cs):(bg cs off vs)[j]?=if off<=j/\j<off+Y vs then vs[j-off]? else cs[j]? :=by unfold bg;by_cases s:j<off;rw[bM J,KN,Jf (by simp;omega),F8,bH s];by_cases u:j<off+Y vs;rw[bH ⟨J,u⟩,KN,Hv (by simp;omega),ml,lA J,Jf J];rw[bM J,Hv (by simp;omega),IA,ml,lA J,gD];congr 1;omega
def CT(S:eQ CC ρ h w){b off:Nat}{r:Cn}{vs u:List aa}{p:aB}(E:ρ b=Z r)(C:gq h b off vs=Z p)(a:bQ (KR ρ) vs u):∃w',(storeCells ⟨r.ch,r.base+off,K⟩ u).run P w=.ok () w'/\eQ CC ρ p w'/\Ext ρ h w ρ p w':=by
 unfold gq at C;split at C
 .rename_i o op s O;by_cases H:off+Y vs<=Y o
  .rw[bH (u2 H)] at C;cases C;have⟨B,el,c,I,U,V,z,W,T⟩:=S.obj b r _ E O;have p:c=(0,0):=W rfl;subst p;have f:=a.length;by_cases d:Y vs=0
   .have N:vs=[]:=F7 d;have k:u=[]:=F7 J;subst N;subst k;refine⟨w,Q,eQ.uY S E O Q ⟨Q,Q,Q,Q,λ_ _=>rfl⟩ ?_ _⟩;have:bg o off []=o:=by simp[bg]
    rw[this];exact⟨B,el,(0,0),I,U,V,z,W,T⟩
   have M:r.base+off+0+Y u<=B.size:=by have:o[off+Y vs-1]?=Z o[off+Y vs-1]:=iK J;have⟨c,A,_⟩:=T _ _ this;have q:=(gj.1 A).1;omega
   have b:=run_storeCells_at (P:=P) r.ch (r.base+off) el u 0 B w I M (λv d=>by have⟨i,g⟩:=iF d;have l:vs[i]?=Z (vs[i]'(by rw[f];exact(cR.1 g).1)):=iK _;have⟨c,A,G⟩:=a.get l;rw[g] at A;cases A;exact zh G.plain.2);refine⟨_,b,?_⟩;refine eQ.uY S E O rfl (Oh.row _ _) ?_ _;have x:B.toList.take (r.base+off+0)++u++B.toList.drop (r.base+off+0+Y u)=bg B.toList (r.base+off) u:=by simp[bg]
   refine⟨_,el,(0,0),setRow_heap w r.ch B _ el _ I,by rw[DT H];exact U,V,⟨?_,?_⟩,λ_=>rfl,?_⟩
   rotate_left 1
   intro L j c D A;rw[x] at A;simp only[oo] at A;rw[po (ak M),bM J] at A;exact z.2 L j c D (ak A)
   rotate_left 1
   rw[z.1];simp only[L6,IA,ml,List.length_drop,F3];omega;intro j v D;rw[po H] at D;rw[x];have p:=po (cs:=B.toList) (vs:=u) (off:=r.base+off) (j:=r.base+j) (ak M);simp only[oo];rw[p];by_cases p:off<=j/\j<off+Y vs
   rw[bH p] at D;rw[bH J];have⟨c,A,G⟩:=a.get D;exact⟨c,by rw[<-A];congr 1;omega,G⟩;rw[bM p] at D;rw[bM J];have⟨c,A,G⟩:=T j v D;exact⟨c,ak A,G⟩
  .have:nK (off+Y vs) (Y o)=b9:=by cases E:nK (off+Y vs) (Y o);rfl;exact absurd (ON E) H
   rw[this] at C;simp at C
 cases C
end
def Out(e:dy)(d:fP)(h:aB)(w:c5)(v:aa)(b:aB)(r:Result o0):Prop:=
 ∃a w' c,(r=.ok (.value c) w'\/(c=undef/\r=.ok .skip w'))/\VR a v c/\eQ e a b w'/\Ext d h w a b w'
section
variable{P:b7}{d:dy}{ρ:fP}{h:aB}{w:c5}{T:tU}{ng:Nat}{e:Env}{a:Act}
def Out.same(S:eQ d ρ h w){v c:aa}{r:Result o0}(s:r=.ok (.value c) w)(j:VR ρ v c):Out d ρ h w v h r:=
 ⟨ρ,w,c,fc s,j,S,.refl ρ h w⟩
def fS{s:Sem aa}{c:aa}(j:s.run P w=.ok c w'):((do pure (cp (<-s))):Sem o0).run P w=.ok (.value c) w':=by simp[j]
def Kd{l:Array G}{x:G}(h:l[i]?=Z x):i<l.size:=(gj.1 h).1
def abb(w:c5)(o:Obj):(w.alloc o).heap[w.heap.size]?=Z o:=by show(w.heap.push o)[w.heap.size]?=Z o;simp
def Gs(S:eQ d ρ h w){j B cz:List aa}(D:bQ (KR ρ) j B)(el:Nat)(A:Nat)(G:A≠0->∀c∈cz,dt c=cd):∃s:Cn,s.ch=w.heap.size/\s.base=0/\s.len=Y j/\s.L8=A/\s.room=Y (B++cz)/\eQ d (iC ρ h.ax s) (aM h j A) (w.alloc (.cells ⟨B++cz⟩ el))/\Ext ρ h w (iC ρ h.ax s) (aM h j A) (w.alloc (.cells ⟨B++cz⟩ el)):=by
 refine⟨⟨w.heap.size,0,Y j,A,Y (B++cz)⟩,Q,Q,Q,Q,Q,?_⟩;refine eQ.add S rfl ?_;refine⟨_,_,_,abb w _,Q,Q,⟨Je _,?_⟩,λ_=>rfl,?_⟩;intro H j c C u;dsimp only at C u;rw[show(⟨B++cz⟩:Array aa)[0+j]?=(B++cz)[0+j]? by simp,Je,Hv (by rw[<-D.length];exact C)] at u;exact G H c (cK u);intro j v C;have⟨c,u,E⟩:=D.get C;refine⟨c,?_,E.mono (rV S.fresh)⟩;show(⟨B++cz⟩:Array aa)[0+j]?=Z c;rw[show(⟨B++cz⟩:Array aa)[0+j]?=(B++cz)[0+j]? by simp,Je,Jf (cR.1 u).1,u]
def zw(ρ:fP)(b:Nat)(r:Cn):iC ρ b r b=Z r:=by simp[iC]
def aaT{a:Cn}(j:a.ch=w.heap.size)(b:a.base=0):VR (iC ρ h.ax a) (dB (Z ⟨h.ax,0,K⟩)) (dB (Z ⟨w.heap.size,0,K⟩)):=by have:=CR.ptr (ρ:=iC ρ h.ax a) (o:=0) (zw ρ h.ax a);rw[j,b] at this;exact this.vr
def MH(el:e7)(v:aa):(newVar el v).run P w=.ok ⟨w.heap.size,0,K⟩ (w.alloc (.cells v.cells el)):=Q
def GV{t:Nat}{i:TI}(g:xW P t i):∃z,(na t).run P w=.ok z w/\z.cells.toList=i.zero:=by have⟨A,j,_,_,z,s,u⟩:=g.info;exact⟨z,by simp[na,nw,j,s],u⟩
def iS{t:Nat}{i:TI}(g:xW P t i):(sF t).run P w=.ok i.size w/\P.cellsOf t=i.size:=by have⟨u,j,s,_⟩:=g.info;exact⟨by simp[sF,nw,j,s],by simp[K2,j,s]⟩
def u4{t:Nat}{i:TI}(g:xW P t i):(isAgg t).run P w=.ok i.agg w:=by simp only[isAgg,uy,tI g.u,tH,g.agg];cases i.u<;>rfl
def aeP(v:aa)(l:List aa)(h:v.cells.toList=l):v.cells=⟨l++[]⟩:=by
 cases j:v.cells with
 |mk x=>rw[j] at h;simp at h;simp[h]
def agR(S:eQ d ρ h w){t:Nat}{i:TI}(g:xW P t i):Out d ρ h w (dB (Z ⟨h.ax,0,K⟩)) (aM h i.zero 0) (((do pure (cp (<-Yt t cd (.tuple #[])))):Sem o0).run P w):=by
 have⟨z,D,j⟩:=GV (w:=w) g;have⟨E,C,A,_,_,_,u,s⟩:=Gs (cz:=[]) S (fL g.zero) t 0 (λh=>absurd Q h);rw[<-aeP z _ j] at u s;refine⟨_,_,_,fc (fS ?_),aaT C A,u,s⟩;simp[Yt,D,MH]
def aok(S:eQ d ρ h w){t:Nat}{v c:aa}(A:VR ρ v c)(u:flat v=Z vs):Out d ρ h w (dB (Z ⟨h.ax,0,K⟩)) (aM h vs 0) (((do pure (cp (<-abV t c))):Sem o0).run P w):=by
 have⟨E,D,C,_,_,_,s,j⟩:=Gs (cz:=[]) S (KI A u) t 0 (λh=>absurd Q h);rw[<-aeP c _ rfl] at s j;refine⟨_,_,_,fc (fS ?_),aaT D C,s,j⟩;simp[abV,MH]
def aaN(S:eQ d ρ h w){t:Nat}{i:TI}(g:xW P t i){b off:Nat}{r:Cn}{a:List aa}(u:ρ b=Z r)(I:cC h b off (width (Fs i))=Z a)(j:agg (Fs i) a=Z v):∃c,(loadVar t ⟨r.ch,r.base+off,K⟩).run P w=.ok c w/\VR ρ v c:=by
 have⟨s,B,C,E⟩:=GC S u I;have G:=(iS (w:=w) g).1;cases u:i.agg
 .simp only[Fs,u,z6,width] at s j
  match a,B,C,s with
  |[x],[y],.cons A .nil,_=>
   simp only[agg,oN] at j;subst j;have D:=E 0 y rfl;rw[r_,Jk] at D;refine⟨y,?_,A.vr⟩;simp[loadVar,u4 g,u,D]
 simp only[Fs,u,mi,width] at s j;have H:=C.length;simp only[agg,s,lW,if_true,oN] at j;subst j;refine⟨eU B.toArray,?_,.val (.agg C)⟩;simp only[loadVar,uy,u4 g,u,tH,if_true,G];rw[<-s,H,run_loadCells_list w _ B E];rfl
def agW(S:eQ d ρ h w){t:Nat}{i:TI}(g:xW P t i){b off:Nat}{r:Cn}{v c:aa}{a:aB}(I:ρ b=Z r)(E:VR ρ v c)(A:flat v=Z vs)(G:Y vs=i.size)(s:gq h b off vs=Z a):∃w',(storeVar t ⟨r.ch,r.base+off,K⟩ c).run P w=.ok () w'/\eQ d ρ a w'/\Ext ρ h w ρ a w':=by
 have j:=KI E A;obtain⟨w',a,D,C⟩:=CT S I s j;refine⟨w',?_,D,C⟩;have u:=(iS (w:=w) g).1;have H:c.cells.size=i.size:=by rw[<-G,j.length];simp
 simp only[storeVar,uy,u,tH,H,ne_eq,not_true_eq_false,if_false];simpa using a
def agZ{t:Nat}{i:TI}(g:xW P t i){l m:List aa}(D:bQ (KR ρ) l m)(j:agg (Fs i) ((l.drop off).take (width (Fs i)))=Z v):∃c,(part t ⟨m⟩ off).run P w=.ok c w/\VR ρ v c:=by
 have s:=(D.drop off).take (width (Fs i));cases u:i.agg
 .simp only[Fs,u,z6,width,agg] at j s;split at j
  .rename_i x G;cases j;rw[G] at s
   match C:(m.drop off).take 1,s with
   |[y],.cons A .nil=>
    refine⟨y,?_,A.vr⟩;have E:m[off]?=Z y:=by
     have:((m.drop off).take 1)[0]?=Z y:=by rw[C];rfl
     simpa [F8,gD] using this
    simp[part,u4 g,u,E]
  cases j
 simp only[Fs,u,mi,width,agg] at j s;split at j;cases j;refine⟨eU ⟨(m.drop off).take i.size⟩,?_,.val (.agg s)⟩;simp only[part,uy,u4 g,u,tH,if_true,(iS (w:=w) g).1,zA];congr 2;simp;cases j
def KG(A:ER ρ e a.tmps)(c:d_ ng ρ)(E:Nat->Option (Nat×Nat)):∀(ps:List (Nat×aU))(k:List (Nat×Nat×aU))(l m:List aa)(r:List aa),ps.all (λp=>cZ ng p.2)=cd->bQ (λ(p:Nat×aU) (q:Nat×Nat×aU)=>E p.1=Z (q.1,q.2.1)/\q.2.2=p.2) ps k->bQ (KR ρ) l m->oM e l k=Z r->∃s:List aa,aax E ⟨m⟩ (ps.map λp=>(p.1,a.eval p.2))=Z ⟨s⟩/\bQ (KR ρ) r s:=by
 intro ps;induction ps with
 |nil=>
  intro k l m r _ E C u;cases E;simp only[oM,oN] at u;subst u;exact⟨m,Q,C⟩
 |cons p ps b=>
  intro k l m r H E C u;have⟨j,x⟩:=p;cases E with
  | @cons _ q _ k W N=>
  have⟨off,n,y⟩:=q;obtain⟨M,rfl⟩:=W;simp only[gF,pU] at H;simp only[oM] at u;split at u
  .rename_i vs D;split at u
   .rename_i G;simp only[pU] at G;have O:=qm G.1;have E:=ON G.2;have U:=KI (A.eval c H.1) D;have I:=C.length;have A:=U.length;have d:bQ (KR ρ) (bg l off vs) (bg m off (a.eval y).cells.toList):=by unfold bg;rw[<-A];exact((C.take off).app U).app (C.drop _)
    have⟨s,c,D⟩:=b k _ _ r H.2 N d u;refine⟨s,?_,D⟩;rw[<-c];simp only[zZ,aax,M];have V:(a.eval y).cells.size=n:=by rw[<-O,A];simp
    rw[bM (by simp[V];omega)];congr 1;have D:∀(vs:List aa)(k:Nat)(m:List aa),off+k+Y vs<=Y m->(vs.zipIdx k).foldl (λ(N:Array aa) (x:aa×Nat)=>N.setIfInBounds (off+x.2) x.1) ⟨m⟩=⟨bg m (off+k) vs⟩:=by
     intro vs;induction vs with
     |nil=>intro k m _;simp[bg]
     |cons v vs b=>
      intro k m N;simp only[List.zipIdx_cons,List.foldl_cons];have:(Array.setIfInBounds ⟨m⟩ (off+k) v)=⟨m.set (off+k) v⟩:=ag
      rw[this,b (k+1) (m.set (off+k) v) (by simp at N⊢;omega)];congr 1;simp at N;apply Bc;intro i;rw[po (by simp;omega),po (by simp;omega)];by_cases N:off+(k+1)<=i/\i<off+(k+1)+Y vs;rw[bH N,bH (by simp;omega)];rw[show i-(off+k)=(i-(off+(k+1)))+1 by omega];simp;rw[bM N];by_cases M:i=off+k;subst M;rw[bH ag];simp[List.getElem?_set_self (show off+k<Y m by omega)];rw[bM (by simp;omega),List.getElem?_set_ne (a7 M)]
    have:=D (a.eval y).cells.toList 0 m (by rw[Jk,<-A,O,<-I];exact E);rw[<-Array.foldl_toList];simpa using this
   cases u
  cases u
end
def BP:∀ {ks u:List Nat} {a j b s:List aa} {x:Bool},Y a=Y ks->Y j=Y ks->di (ks++u) (a++b) (j++s)=Z x->∃y z,di ks a j=Z y/\di u b s=Z z/\x=(y&&z):=by
 intro ks;induction ks with
 |nil=>
  intro u a j b s x C A h;cases a with
  |cons=>simp at C
  |nil=>cases j with
   |cons=>simp at A
   |nil=>exact⟨cd,x,Q,h,ag⟩
 |cons k ks c=>
  intro u a j b s x C A h;cases a with
  |nil=>simp at C
  |cons v a=>cases j with
   |nil=>simp at A
   |cons O j=>
    simp only[zb,di] at h;rcases D:jv k v O with _|p;simp[D] at h;rcases E:di (ks++u) (a++b) (j++s) with _|q;simp[D,E] at h;simp only[D,E,oN] at h;obtain⟨y,z,G,H,rfl⟩:=c (ak C) (ak A) E;refine⟨p&&y,z,by simp[di,D,G],H,?_⟩;rw[<-h,Bool.and_assoc]
def vO:∀ {ks:List Nat} {a b:List aa} {x:Bool},di ks a b=Z x->Y a=Y ks/\Y b=Y ks:=by
 intro ks;induction ks with
 |nil=>intro a b x h;cases a with
  |nil=>cases b with
   |nil=>exact⟨Q,Q⟩
   |cons=>simp[di] at h
  |cons=>cases b<;>simp[di] at h
 |cons k ks c=>
  intro a b x h;cases a with
  |nil=>simp[di] at h
  |cons v a=>cases b with
   |nil=>simp[di] at h
   |cons O b=>
    simp only[di] at h;rcases j:jv k v O with _|p;simp[j] at h;rcases s:di ks a b with _|q;simp[j,s] at h;have:=c s;simp[this.1,this.2]
section
variable{P:b7}{T:tU}{b:fP}
def Xf{k:Nat}{v O c W:aa}{x:Bool}(h:KR b v c)(a:KR b O W)(j:jv k v O=Z x):jv k c W=Z x:=by
 have:c=v/\W=O:=by
  unfold jv at j;split at j
  .cases h with
   |cell h=>cases h;cases a with
    |cell a=>cases a;exact⟨Q,Q⟩
  .cases h with
   |cell h=>cases h;cases a with
    |cell a=>cases a;exact⟨Q,Q⟩
  .cases h with
   |cell h=>cases h;cases a with
    |cell a=>cases a;exact⟨Q,Q⟩
  cases j
 rw[this.1,this.2,j]
def TA:∀ {ks:List Nat} {l m s u:List aa} {x:Bool},bQ (KR b) l m->bQ (KR b) s u->di ks l s=Z x->di ks m u=Z x:=by
 intro ks;induction ks with
 |nil=>
  intro l m s u x h a j;cases h with
  |nil=>cases a with
   |nil=>exact j
   |cons=>simp[di] at j
  |cons=>cases a<;>simp[di] at j
 |cons k ks c=>
  intro l m s u x h a j;cases h with
  |nil=>simp[di] at j
  | @cons v E l m E H=>cases a with
   |nil=>simp[di] at j
   | @cons O W s u D G=>
    simp only[di] at j⊢;rcases A:jv k v O with _|p;simp[A] at j;rcases C:di ks l s with _|q;simp[A,C] at j;rw[Xf E D A,c H G C];simpa [A,C] using j
def valOf(i:TI)(l:List aa):aa:=bif i.agg then eU ⟨l⟩ else l.headD (.tuple #[])
def CM{t:Nat}{i:TI}(g:xW P t i){m:List aa}(C:off+i.size<=Y m)(w:c5):(part t ⟨m⟩ off).run P w=.ok (valOf i ((m.drop off).take i.size)) w:=by
 cases j:i.agg
 .have u:=g.plain j;have s:off<Y m:=J
  simp only[part,uy,u4 g,j,tH,valOf,z6,u];rw[List.drop_eq_getElem_cons s];have A:(⟨m⟩:Array aa)[off]?=Z m[off]:=by rw[show(⟨m⟩:Array aa)[off]?=m[off]? by simp,iK s]
  rw[A];rfl
 simp only[part,uy,u4 g,j,tH,if_true,(iS (w:=w) g).1,zA,valOf,mi];congr 2;simp
def abk:∀ {fs:List yU} {off n:Nat},vL T off fs=Z n->off<=n:=by
 intro fs;induction fs with
 |nil=>intro off n h;simp[vL] at h;omega
 |cons f fs a=>
  intro off n h;simp only[vL] at h;cases s:ar f.offset off;simp[s] at h;simp only[s,mi] at h;rcases j:T f.type with _|i;simp[j] at h;simp only[j] at h;have:=a h;omega
def Ae{k:Nat->Option (List Nat)}{f:yU}(h:rN k (f::fs)=Z ks):f.name≠ "_" /\∃a b,k f.type=Z a/\rN k fs=Z b/\ks=a++b:=by
 simp only[rN] at h;cases j:f.name != "_";simp[j] at h;simp only[j,mi] at h;refine⟨ak j,?_⟩;split at h;rename_i a b s u;cases h;exact⟨a,b,s,u,Q⟩;cases h
def Ci(ks:List Nat):∀n,Y (YW ks n)=n*Y ks
 |0=>by simp[YW]
 |n+1=>by simp[YW,Ci ks n,qB,Nat.add_comm]
def Af:∀ {d t:Nat} {i:TI} {ks:List Nat},T t=Z i->eG P T->kinds T d t=Z ks->Y ks=i.size:=by
 intro d;induction d with
 |zero=>intro t i ks _ _ h;simp[kinds] at h
 |succ d c=>
  intro t i ks A H h;have g:=H t i A;simp only[kinds,A] at h;have C:=g.agg;split at h
  rename_i A;rw[A] at C;cases h;exact(g.plain C).symm;rename_i A;rw[A] at C;cases h;exact(g.plain C).symm;rename_i A;rw[A] at C;cases h;exact(g.plain C).symm
  .rename_i fs A;split at h
   .rename_i n U;cases s:ar n i.size;simp[s] at h;simp only[s,mi] at h;rw[<-qm s];have e:∀(D:List yU)(off n:Nat)(ks:List Nat),vL T off D=Z n->rN (kinds T d) D=Z ks->off+Y ks=n:=by
     intro D;induction D with
     |nil=>intro off n ks u E;simp[vL] at u;simp[rN] at E;subst E;simpa using u
     |cons f D G=>
      intro off n ks u E;simp only[vL] at u;cases s:ar f.offset off;simp[s] at u;simp only[s,mi] at u;rcases I:T f.type with _|j;simp[I] at u;simp only[I] at u;obtain⟨_,a,b,O,D,rfl⟩:=Ae E;have M:=c I H O;have W:=G _ _ _ u D;rw[IA,M];omega
    have:=e fs.toList 0 n ks U h;omega
   cases h
  rename_i n el A;split at h;rename_i e N;cases s:ar (n*e.size) i.size;simp[s] at h;simp only[s,mi] at h;split at h;rename_i V A;cases h;rw[Ci,c N H A,qm s];cases h;cases h;cases h
def abB(N:eG P T):∀(L t:Nat)(i:TI)(s:Nat)(ks:List Nat),T t=Z i->kinds T L t=Z ks->L<=s->∀(l m:List aa)(x:Bool),di ks l m=Z x->∀w,(Op.equalIn s t (valOf i l) (valOf i m)).run P w=.ok x w:=by
 intro L;induction L with
 |zero=>intro t i s ks _ h;simp[kinds] at h
 |succ L ih=>
  intro t i s ks F u X l m x E w;obtain⟨s,rfl⟩:∃k,s=k+1:=⟨s-1,J⟩;have g:=N t i F;simp only[kinds,F] at u;have I:=g.agg;have o:∀k:Nat,di [k] l m=Z x->∃p q,l=[p]/\m=[q]/\jv k p q=Z x:=by
   intro k E;have⟨M,h⟩:=vO E
   match l,m,M,h with
   |[p],[q],_,_=>
    refine⟨p,q,Q,Q,?_⟩;simp only[di] at E;rcases A:jv k p q with _|y;simp[A] at E;simpa [A] using E
  split at u;rename_i C;rw[C] at I;cases u;obtain⟨p,q,rfl,rfl,A⟩:=o _ E;simp only[valOf,I,tL,z6,za];unfold jv at A;split at A;cases A;exact run_equalIn_bool' w s t _ _ (by rw[g.u,C]);omega;omega;cases A;rename_i k C;rw[C] at I;cases u;obtain⟨p,q,rfl,rfl,A⟩:=o _ E;simp only[valOf,I,tL,z6,za];unfold jv at A;split at A;omega;split at A;rename_i d;subst d;cases A;exact run_equalIn_int w s t _ k _ _ (by rw[g.u,C]);cases A;omega;cases A;rename_i C;rw[C] at I;cases u;obtain⟨p,q,rfl,rfl,A⟩:=o _ E;simp only[valOf,I,tL,z6,za];unfold jv at A;split at A;omega;omega;cases A;rw[run_equalIn_string w s t _ _ (by rw[g.u,C]),beq_toListBytes];cases A
  .rename_i fs C;rw[C] at I;have W:P.underlying t=Z (.struct fs):=by rw[g.u,C]
   have S:P.fieldsOf t=fs:=by simp[Program.fieldsOf,W]
   simp only[valOf,I,tL,mi];rw[run_equalIn_struct w s t _ _ (by rw[S];exact W) (g.held fs C),S];split at u
   .rename_i n G;cases H:ar n i.size;simp[H] at u;simp only[H,mi] at u;have S:∀(O:List yU)(off:Nat)(ks:List Nat),vL T off O=Z n->rN (kinds T L) O=Z ks->n=Y l->n=Y m->∀y,di ks (l.drop off) (m.drop off)=Z y->∀w,(Op.eqFields s ⟨l⟩ ⟨m⟩ O).run P w=.ok y w:=by
     intro O;induction O with
     |nil=>
      intro off ks G d c X y D w;simp only[vL,oN] at G;simp only[rN,oN] at d;subst d;have M:l.drop off=[]:=Gb J;have h:m.drop off=[]:=Gb J;rw[M,h] at D;simp only[di,oN] at D;subst D;rfl
     |cons f O v=>
      intro off ks G d c X y D w;simp only[vL] at G;cases H:ar f.offset off;simp[H] at G
      .simp only[H,mi] at G;have anj:=qm H;rcases o:T f.type with _|j
       simp[o] at G
       .simp only[o] at G;obtain⟨afM,a,b,e,Sw,rfl⟩:=Ae d;have r:=N _ _ o;have U:=abk G;have B:=Af o N e;have V:∀z:List aa,z.drop off=(z.drop off).take j.size++z.drop (off+j.size):=by intro z;rw[<-pa,ki]
        rw[V l,V m] at D;obtain⟨p,q,B,A,rfl⟩:=BP (by simp;omega) (by simp;omega) D;simp only[Op.eqFields,ne_eq,afM,not_false_eq_true,if_true,uy,anj,CM r (m:=l) (show off+j.size<=Y l by omega),CM r (m:=m) (show off+j.size<=Y m by omega),tH]
        rw[ih f.type j s a o e J _ _ p B];simp only[tH];cases p;simp;simp only[XN,Jl,if_false,XM];exact v _ _ G Sw c X q A w
    have o:=Af (d:=L+1) F N (ks:=ks) (by simp only[kinds,F,C,G,H,mi];exact u);have⟨M,h⟩:=vO E;have c:=qm H;exact S fs.toList 0 ks G u J J x (ak E) w
   cases u
  .rename_i n el C;rw[C] at I;have W:P.underlying t=Z (.array n el):=by rw[g.u,C]
   simp only[valOf,I,tL,mi];split at u
   .rename_i e X;cases H:ar (n*e.size) i.size;simp[H] at u
    .simp only[H,mi] at u;split at u
     .rename_i L d;cases u;have F:=N el e X;obtain⟨v,v,c,_,_⟩:=F.info;have hce:P.cellsOf el=e.size:=by rw[<-c];simp[K2,v]
      rw[run_equalIn_array w s ⟨l⟩ ⟨m⟩ W v,hce,List.range_eq_range'];have o:=Af X N d;have⟨M,h⟩:=vO E;rw[Ci,o] at M h;have S:∀(k j:Nat),j+k=n->∀y,di (YW L k) (l.drop (j*e.size)) (m.drop (j*e.size))=Z y->∀w,(Op.eqItems s el e.size ⟨l⟩ ⟨m⟩ (List.range' j k)).run P w=.ok y w:=by
       intro k;induction k with
       |zero=>
        intro j r y D w;have N:l.drop (j*e.size)=[]:=Gb (by rw[M];exact Gd _ J);have M:m.drop (j*e.size)=[]:=Gb (by rw[h];exact Gd _ J);rw[N,M] at D;simp only[YW,di,oN] at D;subst D;rfl
       |succ k N=>
        intro j r y D w;have U:(j+1)*e.size<=n*e.size:=Gd _ J;rw[qB,Ox] at U;have V:∀z:List aa,z.drop (j*e.size)=(z.drop (j*e.size)).take e.size++z.drop ((j+1)*e.size):=by intro z;rw[qB,Ox,<-pa,ki]
        rw[V l,V m] at D;obtain⟨p,q,B,A,rfl⟩:=BP (ks:=L) (by simp;omega) (by simp;omega) D;simp only[List.range'_succ,Op.eqItems,uy,CM F (m:=l) (show j*e.size+e.size<=Y l by omega),CM F (m:=m) (show j*e.size+e.size<=Y m by omega),tH]
        rw[ih el e s L X d J _ _ p B];simp only[tH];cases p;simp;simp only[XN,Jl,if_false,XM];exact N (j+1) J q A w
      exact S n 0 J x (ak E) w
     cases u
   cases u
  cases u
def F9(u:eG P T):∀(d t:Nat)(j:Nat)(ks:List Nat),kinds T d t=Z ks->d<=j->P.eqGuardType j t=b9:=by
 intro d;induction d with
 |zero=>intro t j ks h;simp[kinds] at h
 |succ d c=>
  intro t j ks s M;obtain⟨j,rfl⟩:∃k,j=k+1:=⟨j-1,J⟩;simp only[kinds] at s;split at s;cases s
  .rename_i i G;have g:=u t i G;simp only[Program.eqGuardType,g.u];split at s
   rename_i u;rw[u];rename_i u;rw[u];rename_i u;rw[u]
   .rename_i fs u;rw[u];split at s
    .rename_i n O;cases C:ar n i.size;simp[C] at s;simp only[C,mi] at s;dsimp only;rw[<-Array.any_toList];have e:∀(A:List yU)(ks:List Nat),rN (kinds T d) A=Z ks->(A.any λf=>f.name != "_" &&P.eqGuardType j f.type)=b9:=by
      intro A;induction A with
      |nil=>intro _ _;rfl
      |cons f A E=>
       intro ks D;have⟨_,a,b,I,H,_⟩:=Ae D;rw[List.any_cons,E b H,c f.type j a I J];simp
     exact e _ _ s
    cases s
   rename_i n el u;rw[u];dsimp only;split at s;rename_i e N;cases C:ar (n*e.size) i.size;simp[C] at s;simp only[C,mi] at s;split at s;rename_i u D;exact c el j u D J;cases s;cases s;cases s
end
section
variable{P:b7}{k:dy}{ρ:fP}{h:aB}{w:c5}{T:tU}{b:Nat}{e:Env}{a:Act}{c:aa}
def VR.ff{k:nH}{n:Int}(h:VR ρ (.int k n) c):c=.int k n:=by
 cases h with
 |val h=>cases h with
  |cell h=>cases h with
   |cell h=>cases h;rfl
def VR.pP{b:Bool}(h:VR ρ (dd b) c):c=dd b:=by
 cases h with
 |val h=>cases h with
  |cell h=>cases h with
   |cell h=>cases h;rfl
def VR.JR{s:ByteArray}(h:VR ρ (eT s) c):c=eT s:=by
 cases h with
 |val h=>cases h with
  |cell h=>cases h with
   |cell h=>cases h;rfl
def VR.Gx{b o:Nat}(h:VR ρ (dB (Z ⟨b,o,K⟩)) c):∃r,ρ b=Z r/\c=dB (Z ⟨r.ch,r.base+o,K⟩):=by
 cases h with
 |val h=>cases h with
  |cell h=>cases h with
   |cell h=>cases h with
    |ptr h=>exact⟨_,h,Q⟩
def VR.ET(h:VR ρ (dB K) c):c=dB K:=by
 cases h with
 |val h=>cases h with
  |cell h=>cases h with
   |cell h=>cases h;rfl
def VR.Mo{x:E0}(h:VR ρ (dB (Z x)) c):∃y,c=dB (Z y):=by
 cases h with
 |val h=>cases h with
  |cell h=>cases h with
   |cell h=>cases h with
    |ptr h=>exact⟨_,Q⟩
def VR.fp{b o n C:Nat}(h:VR ρ (c6 (Z ⟨b,o,K⟩) n C) c):∃r U j,ρ b=Z r/\c=c6 (Z U) n j/\xg r o n C U j:=by
 cases h with
 |val h=>cases h with
  |cell h=>cases h with
   |cell h=>cases h with
    |slice h s=>exact⟨_,_,_,h,Q,s⟩
def VR.jU(h:VR ρ (c6 K n C) c):c=c6 K n C:=by
 cases h with
 |val h=>cases h with
  |cell h=>cases h with
   |cell h=>cases h;rfl
def VR.u9{x:Option E0}(h:VR ρ (c6 x n C) c):∃y j,c=c6 y n j/\y.isNone=x.isNone:=by
 cases h with
 |val h=>cases h with
  |cell h=>cases h with
   |cell h=>cases h with
    |gE=>exact⟨_,_,Q,Q⟩
    |slice h s=>exact⟨_,_,Q,Q⟩
def VR.JH{x:Option Nat}(h:VR ρ (.map x) c):∃y,c=.map y/\y.isNone=x.isNone:=by
 cases h with
 |val h=>cases h with
  |cell h=>cases h with
   |cell h=>cases h with
    |wa=>exact⟨_,Q,Q⟩
    |map h=>exact⟨_,Q,Q⟩
def VR.xO(h:VR ρ .nilFunc c):c=.nilFunc:=by
 cases h with
 |val h=>cases h with
  |cell h=>cases h with
   |cell h=>cases h;rfl
def VR.TU{fn:Fn}{x y:Array aa}(h:VR ρ (.func fn x y) c):∃j s u,c=.func j s u:=by
 cases h with
 |val h=>cases h with
  |cell h=>cases h with
   |cell h=>cases h
   |fn=>exact⟨_,_,_,Q⟩
   |yield=>exact⟨_,_,_,Q⟩
def VR.P6{l:Array aa}(h:VR ρ (eU l) c):∃m,c=eU ⟨m⟩/\bQ (KR ρ) l.toList m:=by
 cases h with
 |val h=>cases h with
  |cell h=>exact absurd h.plain.1 (by simp[AI.plain])
  |agg h=>exact⟨_,Q,h⟩
def VR.aiC(h:VR ρ (.chan (Z n)) c):∃m:Nat,c=dC ef m/\n<=m:=by
 cases h with
 |val h=>cases h with
  |cell h=>cases h with
   |cell h=>cases h
 |atl h=>exact⟨_,Q,h⟩
def VR.PK{l:Array aa}(h:VR ρ (.tuple l) c):∃m,c=.tuple ⟨m⟩/\bQ (AR ρ) l.toList m:=by
 cases h with
 |val h=>cases h with
  |cell h=>exact absurd h.plain.1 (by simp[AI.plain])
 |tuple h=>exact⟨_,Q,h⟩
def VR.agg{l m:List aa}(h:bQ (KR ρ) l m):VR ρ (eU ⟨l⟩) (eU ⟨m⟩):=.val (.agg h)
def aj3{x y z:aU}(S:eQ k ρ h w)(A:ER ρ e a.tmps)(C:d_ b ρ)(G:cZ b x=cd)(D:cZ b y=cd)(E:cZ b z=cd){u:aB}(s:dh e h (.pick x y z)=Z (v,u)):Out k ρ h w v u (((do pure (.value (if<-asBool (a.eval x) then a.eval y else a.eval z))):Sem o0).run P w):=by
 have u:=A.eval C G;simp only[dh] at s;split at s;rename_i j;cases s;rw[j] at u;rw[u.pP];exact Out.same S (by simp[asBool]) (A.eval C D);rename_i j;cases s;rw[j] at u;rw[u.pP];exact Out.same S (by simp[asBool]) (A.eval C E);cases s
def vX{k:nH}{t:e7}{x y:Int}(j:jS op k x y=Z v):(binOp op t (.int k x) (.int k y)).run P w=.ok v w/\VR ρ v v:=by
 cases op<;>simp only[jS] at j<;>first
  |(cases j;exact⟨by simp[binOp,Op.intBits,Op.intCmp,Op.intArith],CR.vr (by constructor)⟩)
  |(split at j
    cases j;rename_i s;cases j;refine⟨?_,CR.vr (by constructor)⟩;simp[binOp,Op.intDiv,s])
  |(cases j;done)
def GM{k u:nH}{t:e7}{x y:Int}(A:op=.shl\/op=.shr)(j:nZ op k x y=Z v):(binOp op t (.int k x) (.int u y)).run P w=.ok v w/\VR ρ v v:=by
 unfold nZ at j;split at j;cases j;rename_i s;rcases A with rfl|rfl<;>(cases j;refine⟨?_,CR.vr (by constructor)⟩;simp[binOp,Op.shift,s])
def dE(s:p≠ .nilIface)(j:∀l,p≠ eU l):(eqGuard op t x y p q).run P w=.ok () w:=by
 have u:(match p,q with
  |.nilIface,.nilIface=>False
  |eU _,eU _=>False
  |_,_=>True):=by
  cases p<;>first|trivial|(exact absurd Q s)|(exact absurd Q (j _))|(cases q<;>trivial)
 cases op<;>first
  |rfl
  |(cases p<;>first|rfl|(exact absurd rfl s)|(exact absurd rfl (j _))|(cases q<;>rfl))
def NM(j:op≠ .eql)(s:op≠ .neq):(eqGuard op t x y p q).run P w=.ok () w:=by unfold eqGuard;cases op<;>first|rfl|(exact absurd Q j)|(exact absurd Q s)
def JX(T:tU)(t:Nat)(u:adU)(ks:List Nat):Prop:=
 (∃el,u=.slice el/\ks=[3])\/(∃el,u=.pointer el/\ks=[4])\/(∃k el,u=.map k el/\ks=[5])\/(∃ps S vr,u=.func ps S vr/\ks=[6])\/(∃(_:Unit) (j:List Nat),tL u=cd/\kinds T 9 t=Z j/\ks=9::j)\/(u=.bool/\ks=[0])\/(∃k,u=.int k/\ks=[1])\/(u=.string/\ks=[2])
section
variable{t:e7}{d:Nat}
def gX(s:P.underlying t=Z (.slice el))(n m u j:Nat)(y:Option E0):(Op.equalIn (d+1) t (c6 K n m) (.slice y u j)).run P w=.ok y.isNone w:=by simp only[Op.equalIn,uy,tI s,tH,zA]
def jK(s:P.underlying t=Z (.slice el))(n m u j:Nat)(y:E0):(Op.equalIn (d+1) t (c6 (Z y) n m) (.slice K u j)).run P w=.ok b9 w:=by simp only[Op.equalIn,uy,tI s,tH,zA]
def pB(j:P.underlying t=Z (.pointer el))(y:Option E0):(Op.equalIn (d+1) t (dB K) (.pointer y)).run P w=.ok y.isNone w:=by simp only[Op.equalIn,uy,tI j,tH,zA]
def pC(j:P.underlying t=Z (.pointer el))(y:E0):(Op.equalIn (d+1) t (dB (Z y)) (.pointer K)).run P w=.ok b9 w:=by simp only[Op.equalIn,uy,tI j,tH,zA]
def OG{k el:e7}(j:P.underlying t=Z (.map k el))(y:Option Nat):(Op.equalIn (d+1) t (.map K) (.map y)).run P w=.ok y.isNone w:=by simp only[Op.equalIn,uy,tI j,tH,zA]
def pA{k el:e7}(j:P.underlying t=Z (.map k el))(y:Nat):(Op.equalIn (d+1) t (.map (Z y)) (.map K)).run P w=.ok b9 w:=by simp only[Op.equalIn,uy,tI j,tH,zA]
def kL(j:P.underlying t=Z (.func ps S vr)):(Op.equalIn (d+1) t .nilFunc .nilFunc).run P w=.ok cd w:=by simp only[Op.equalIn,uy,tI j,tH,zA]
def kM(j:P.underlying t=Z (.func ps S vr))(f:Fn)(x y:Array aa):(Op.equalIn (d+1) t .nilFunc (.func f x y)).run P w=.ok b9 w:=by simp only[Op.equalIn,uy,tI j,tH,zA]
def kN(j:P.underlying t=Z (.func ps S vr))(f:Fn)(x y:Array aa):(Op.equalIn (d+1) t (.func f x y) .nilFunc).run P w=.ok b9 w:=by simp only[Op.equalIn,uy,tI j,tH,zA]
end
def kO{b:Bool}(E:∀k n A j,¬(p=.int k n/\q=.int A j))(C:∀k n A j,¬(p=.float k n/\q=.float A j))(D:∀s H,¬(p=eT s/\q=eT H))(G:∀k n m A j u,¬(p=.complex k n m/\q=.complex A j u))(I:(Op.equalIn (9999+1) t p q).run P w=.ok b w):(binOp .eql t p q).run P w=.ok (dd b) w/\(binOp .neq t p q).run P w=.ok (dd (!b)) w:=by
 have u:(Op.equal t p q).run P w=.ok b w:=I;constructor
 .unfold binOp;split<;>first
   |(exact absurd ⟨Q,Q⟩ (E _ _ _ _))
   |(exact absurd ⟨Q,Q⟩ (C _ _ _ _))
   |(exact absurd ⟨Q,Q⟩ (D _ _))
   |(exact absurd ⟨Q,Q⟩ (G _ _ _ _ _ _))
   |contradiction
   |(simp only[uy,u,tH,zA];done)
 .unfold binOp;split<;>first
   |(exact absurd ⟨Q,Q⟩ (E _ _ _ _))
   |(exact absurd ⟨Q,Q⟩ (C _ _ _ _))
   |(exact absurd ⟨Q,Q⟩ (D _ _))
   |(exact absurd ⟨Q,Q⟩ (G _ _ _ _ _ _))
   |contradiction
   |(simp only[uy,u,tH,zA];done)
def OH(N:eG P T){t:Nat}{i:TI}(V:T t=Z i)(A:JX T t i.u ks){b:Bool}(C:VR ρ v c)(u:VR ρ O W)(s:xz ks v O=Z b){x y:aU}{op:B3} :(eqGuard op t x y c W).run P w=.ok () w/\(binOp .eql t c W).run P w=.ok (dd b) w/\(binOp .neq t c W).run P w=.ok (dd (!b)) w:=by
 have g:=N t i V;have H:9<=P.depth:=by unfold Program.depth Made.depth;omega
 unfold xz at s;split at s
 .
  rename_i l E;obtain⟨m,rfl,E⟩:=C.P6;obtain⟨e,rfl,M⟩:=u.P6;rcases A with⟨_,_,rfl⟩|⟨_,_,rfl⟩|⟨_,_,_,rfl⟩|⟨_,_,_,_,rfl⟩|⟨fs,D,j,a,rfl⟩|⟨_,rfl⟩|⟨_,_,rfl⟩|⟨_,rfl⟩;cases s;cases s;cases s;cases s
  .have d:=TA E M s;have M:i.agg=cd:=by rw[g.agg,j]
   have E:=abB N 9 t i 10000 D V a J m e b d w;simp only[valOf,M,mi] at E;refine⟨run_eqGuard_agg w op t x y _ _ (F9 N 9 t P.depth D a H),?_,?_⟩;rw[run_eql_struct,E];rfl;rw[run_neq_struct,E];rfl
  cases s;cases s;cases s
 .rename_i E;have j:=g.u;split at s
  .
   have E:∃el,i.u=.slice el:=by rcases A with⟨el,h,_⟩|⟨_,_,h⟩|⟨_,_,_,h⟩|⟨_,_,_,_,h⟩|⟨_,_,_,_,h⟩|⟨_,h⟩|⟨_,_,h⟩|⟨_,h⟩<;>first|exact⟨_,h⟩|(simp at h;done)
   have⟨el,I⟩:=E;rw[I] at j;split at s;cases s;rw[C.jU];obtain⟨D,M,rfl,G⟩:=u.u9;refine⟨dE ag ag,kO ag ag ag ag ?_⟩;rw[<-G];first|exact gX j _ _ _ _ _|exact OG j _
   cases s;obtain⟨D,M,rfl,G⟩:=C.u9;rw[u.jU];refine⟨dE ag ag,?_⟩;rcases D with _|z;simp at G;exact kO ag ag ag ag (by first|exact gX j _ _ _ _ _|exact jK j _ _ _ _ _|exact pB j _|exact pC j _|exact pA j _|exact kL j|exact kM j _ _ _|exact kN j _ _ _);cases s
  .
   have E:∃el,i.u=.pointer el:=by rcases A with⟨el,_,h⟩|⟨_,h,_⟩|⟨_,_,_,h⟩|⟨_,_,_,_,h⟩|⟨_,_,_,_,h⟩|⟨_,h⟩|⟨_,_,h⟩|⟨_,h⟩<;>first|exact⟨_,h⟩|(simp at h;done)
   have⟨el,I⟩:=E;rw[I] at j;split at s;rename_i z;cases s;rw[C.ET];rcases z with _|z;rw[u.ET];exact⟨dE ag ag,kO ag ag ag ag (by first|exact gX j _ _ _ _ _|exact jK j _ _ _ _ _|exact pB j _|exact pC j _|exact pA j _|exact kL j|exact kM j _ _ _|exact kN j _ _ _)⟩;obtain⟨D,rfl⟩:=u.Mo;exact⟨dE ag ag,kO ag ag ag ag (by first|exact gX j _ _ _ _ _|exact jK j _ _ _ _ _|exact pB j _|exact pC j _|exact pA j _|exact kL j|exact kM j _ _ _|exact kN j _ _ _)⟩;cases s;obtain⟨D,rfl⟩:=C.Mo;rw[u.ET];exact⟨dE ag ag,kO ag ag ag ag (by first|exact gX j _ _ _ _ _|exact jK j _ _ _ _ _|exact pB j _|exact pC j _|exact pA j _|exact kL j|exact kM j _ _ _|exact kN j _ _ _)⟩;cases s
  .
   have E:∃k el,i.u=.map k el:=by rcases A with⟨el,_,h⟩|⟨_,_,h⟩|⟨_,_,h,_⟩|⟨_,_,_,_,h⟩|⟨_,_,_,_,h⟩|⟨_,h⟩|⟨_,_,h⟩|⟨_,h⟩<;>first|exact⟨_,_,h⟩|(simp at h;done)
   have⟨k,el,I⟩:=E;rw[I] at j;split at s
   .cases s;obtain⟨U,rfl,M⟩:=C.JH;obtain⟨D,rfl,G⟩:=u.JH;rcases U with _|z;refine⟨dE ag ag,kO ag ag ag ag ?_⟩;rw[<-G];first|exact gX j _ _ _ _ _|exact OG j _
    simp at M
   .cases s;obtain⟨U,rfl,M⟩:=C.JH;obtain⟨D,rfl,G⟩:=u.JH;cases U with
    |none=>simp at M
    |some z=>cases D with
     |some z=>simp at G
     |none=>exact⟨dE ag ag,kO ag ag ag ag (by first|exact gX j _ _ _ _ _|exact jK j _ _ _ _ _|exact pB j _|exact pC j _|exact pA j _|exact kL j|exact kM j _ _ _|exact kN j _ _ _)⟩
   cases s
  .
   have E:∃ps S vr,i.u=.func ps S vr:=by rcases A with⟨el,_,h⟩|⟨_,_,h⟩|⟨_,_,_,h⟩|⟨_,_,_,h,_⟩|⟨_,_,_,_,h⟩|⟨_,h⟩|⟨_,_,h⟩|⟨_,h⟩<;>first|exact⟨_,_,_,h⟩|(simp at h;done)
   have⟨ps,S,vr,I⟩:=E;rw[I] at j;split at s;cases s;rw[C.xO,u.xO];exact⟨dE ag ag,kO ag ag ag ag (by first|exact gX j _ _ _ _ _|exact jK j _ _ _ _ _|exact pB j _|exact pC j _|exact pA j _|exact kL j|exact kM j _ _ _|exact kN j _ _ _)⟩;cases s;obtain⟨_,_,_,rfl⟩:=u.TU;rw[C.xO];exact⟨dE ag ag,kO ag ag ag ag (by first|exact gX j _ _ _ _ _|exact jK j _ _ _ _ _|exact pB j _|exact pC j _|exact pA j _|exact kL j|exact kM j _ _ _|exact kN j _ _ _)⟩;cases s;obtain⟨_,_,_,rfl⟩:=C.TU;rw[u.xO];exact⟨dE ag ag,kO ag ag ag ag (by first|exact gX j _ _ _ _ _|exact jK j _ _ _ _ _|exact pB j _|exact pC j _|exact pA j _|exact kL j|exact kM j _ _ _|exact kN j _ _ _)⟩;cases s
  .
   unfold jv at s;split at s
   .have E:i.u=.bool:=by rcases A with⟨el,_,h⟩|⟨_,_,h⟩|⟨_,_,_,h⟩|⟨_,_,_,_,h⟩|⟨_,_,_,_,h⟩|⟨h,_⟩|⟨_,_,h⟩|⟨_,h⟩<;>first|exact h|(simp at h;done)
    cases s;rw[C.pP,u.pP];rw[E] at j;exact⟨dE ag ag,kO ag ag ag ag (run_equalIn_bool' w _ t _ _ j)⟩
   rw[C.ff,u.ff];split at s;rename_i a;subst a;cases s;refine⟨dE ag ag,?_,?_⟩;simp[binOp,Op.intCmp];simp only[binOp,ne_eq,not_true_eq_false,if_false,Op.intCmp,zA];rfl;cases s;cases s;rw[C.JR,u.JR];refine⟨dE ag ag,?_,?_⟩;simp[binOp,Op.stringOp,beq_toListBytes];simp[binOp,Op.stringOp,beq_toListBytes];cases s
  cases s
end
section
variable{P:b7}{d:dy}{ρ:fP}{h X:aB}{w:c5}{T:tU}{F:Nat}{e:Env}{a:Act}{c v:aa}
def YI{t:e7}(S:eQ d ρ h w)(I:ER ρ e a.tmps)(M:d_ F ρ)(V:cZ F x=cd)(O:cZ F y=cd)(E:op≠ .eql/\op≠ .neq)(D:dh e h (.bin op ks x y)=Z (v,X)):Out d ρ h w v X (((do pure (cp (<-(do eqGuard op t x y (a.eval x) (a.eval y);binOp op t (a.eval x) (a.eval y))))):Sem o0).run P w):=by
 have s:=I.eval M V;have u:=I.eval M O;simp only[dh] at D;split at D
 .rename_i r j;cases D;have b:(binOp op t (a.eval x) (a.eval y)).run P w=.ok v w/\VR ρ v v:=by
   unfold FD at j;split at j;split at j;rename_i C A;rw[C] at s;rw[A] at u;rw[s.ff,u.ff];exact GM (fc Q) j;cases j;split at j;rename_i C A;rw[C] at s;rw[A] at u;rw[s.ff,u.ff];exact GM (ft Q) j;cases j;exact absurd rfl E.1;exact absurd rfl E.2
   .split at j;rename_i C A;rw[C] at s;rw[A] at u;rw[s.ff,u.ff];split at j;rename_i G;subst G;exact vX j;cases j
    .rename_i c U C A;rw[C] at s;rw[A] at u;rw[s.ff];have⟨m,N,M⟩:=u.aiC;rw[N];split at j
     .rename_i N;cases j;have H:decide (c>(m:Int))=b9:=by simp;omega
      have:=vX (op:=.gtr) (t:=t) (k:=ef) (x:=c) (y:=(m:Int)) (P:=P) (w:=w) (ρ:=ρ) (v:=dd b9) (by simp only[jS];rw[H]);exact this
     cases j
    cases j
   split at j;rename_i C A;rw[C] at s;rw[A] at u;rw[s.ff,u.ff];split at j;rename_i G;subst G;exact vX j;cases j;cases j
  refine Out.same S (fS ?_) b.2;simp only[uy,NM E.1 E.2,tH,b.1]
 cases D
def acT(f:eG P T){i:TI}(S:eQ d ρ h w)(I:ER ρ e a.tmps)(M:d_ F ρ)(j:cZ F x=cd)(N:cZ F y=cd)(O:op=.eql\/op=.neq)(c:T t=Z i)(A:JX T t i.u ks)(C:dh e h (.bin op ks x y)=Z (v,X)):Out d ρ h w v X (((do pure (cp (<-(do eqGuard op t x y (a.eval x) (a.eval y);binOp op t (a.eval x) (a.eval y))))):Sem o0).run P w):=by
 have u:=I.eval M j;have s:=I.eval M N;simp only[dh] at C;split at C
 .rename_i r j;cases C;have b:(eqGuard op t x y (a.eval x) (a.eval y)).run P w=.ok () w/\(binOp op t (a.eval x) (a.eval y)).run P w=.ok v w/\VR ρ v v:=by
   rcases O with rfl|rfl
   .simp only[FD] at j;split at j;rename_i H G;rw[H] at u;rw[G] at s;rw[u.ff,s.ff];split at j;rename_i D;subst D;exact⟨dE ag ag,vX j⟩;cases j
    .split at j;rename_i N E;cases j;have:=OH (w:=w) f c A u s E (x:=x) (y:=y) (op:=.eql);exact⟨this.1,this.2.1,VR.bool _⟩
     cases j
   .simp only[FD] at j;split at j;rename_i H G;rw[H] at u;rw[G] at s;rw[u.ff,s.ff];split at j;rename_i D;subst D;exact⟨dE ag ag,vX j⟩;cases j
    .split at j;rename_i N E;cases j;have:=OH (w:=w) f c A u s E (x:=x) (y:=y) (op:=.neq);exact⟨this.1,this.2.2,VR.bool _⟩
     cases j
  refine Out.same S (fS ?_) b.2.2;simp only[uy,b.1,tH,b.2.1]
 cases C
def aun{op:UnOp}(S:eQ d ρ h w)(C:ER ρ e a.tmps)(D:d_ F ρ)(E:cZ F x=cd)(A:dh e h (.un op x)=Z (v,X)):Out d ρ h w v X (((do pure (cp (<-Op.unary op (a.eval x)))):Sem o0).run P w):=by
 have s:=C.eval D E;simp only[dh] at A;split at A;rename_i r j;cases A;unfold XS at j;split at j;rename_i u;cases j;rw[u] at s;rw[s.ff];exact Out.same S (fS (by simp[Op.unary,Op.intArith])) (VR.int _ _);rename_i u;cases j;rw[u] at s;rw[s.ff];exact Out.same S (fS (by simp[Op.unary,Op.intBits])) (VR.int _ _);rename_i u;cases j;rw[u] at s;rw[s.pP];exact Out.same S (fS (by simp[Op.unary])) (VR.bool _);cases j;cases A
def aj0(E:eG P T){s b:e7}{i j:TI}{ks k:nH}(c:T s=Z i)(I:T b=Z j)(A:i.u=.int ks)(C:j.u=.int k)(S:eQ d ρ h w)(D:ER ρ e a.tmps)(N:d_ F ρ)(O:cZ F x=cd)(u:dh e h (.conv k x)=Z (v,X)):Out d ρ h w v X (((do pure (cp (<-convert s b (a.eval x)))):Sem o0).run P w):=by
 have H:=D.eval N O;simp only[dh] at u;split at u;rename_i M;cases u;rw[M] at H;rw[H.ff];have D:=(E s i c).u;rw[A] at D;have G:=(E b j I).u;rw[C] at G;exact Out.same S (fS (by simp[convert,tI D,tI G,Conv.intToInt])) (VR.int _ _)
 cases u
def GR(s:ER ρ e a.tmps)(u:d_ F ρ):∀l:List aU,l.all (cZ F)=cd->bQ (VR ρ) (qi e l) (l.map a.eval)
 |[],_=>.nil
 |x::l,j=>by simp only[gF,pU] at j;exact .cons (s.eval u j.1) (GR s u l j.2)
def Zo{l m:List aa}(h:bQ (VR ρ) l m):l.all simple=cd->bQ (CR ρ) l m:=by
 induction h with
 |nil=>intro _;exact .nil
 |cons h _ a=>
  intro j;simp only[gF,pU] at j;exact .cons (CR.HV h j.1) (a j.2)
def aj2{f:N3}{first b:Array aU}(S:eQ d ρ h w)(A:ER ρ e a.tmps)(G:d_ F ρ)(D:first.isEmpty=cd)(H:b.toList.all (cZ F)=cd)(j:dh e h (.uP f b.toList)=Z (v,X)):Out d ρ h w v X (((do pure (cp (<-S0 (.func f) (first.map a.eval) (b.map a.eval)))):Sem o0).run P w):=by
 have E:=GR A G b.toList H;simp only[dh] at j;cases u:(qi e b.toList).all simple;simp[u] at j;simp only[u,mi,oN,CB] at j;obtain⟨rfl,rfl⟩:=j;have s:first= #[]:=ak D
 subst s;refine Out.same S (c:=.func (.func f) #[] ⟨b.toList.map a.eval⟩) (fS ?_) (KR.fn f (Zo E u)).vr;have C:b.map a.eval=⟨b.toList.map a.eval⟩:=by apply cL;simp
 simp[S0,C]
def acV(S:eQ d ρ h w)(C:ER ρ e a.tmps)(G:d_ F ρ)(H:cZ F x=cd){E:e7}{pos:String}{u:Array Edge}{D:Option (Nat×Bool)}{A:Option Tmp}(j:dh e h (.Aj x)=Z (v,X)):Out d ρ h w v X ((execOp a.eval { dst:=A,op:=.nilCheck x,type:=E,pos:=pos,after:=u,guard:=D }).run P w):=by
 have s:=C.eval G H;simp only[dh] at j;split at j;rename_i y E;cases j;rw[E] at s;have⟨z,A⟩:=s.Mo;refine Out.same S (c:=dB (Z z)) ?_ (by rw[A] at s;exact s);simp[execOp,A];cases j
def aom(S:eQ d ρ h w)(A:ER ρ e a.tmps)(f:d_ F ρ)(b:cZ F x=cd)(j:dh e h (.ext i x)=Z (v,X)):Out d ρ h w v X (((do pure (cp (<-V5 (a.eval x) i))):Sem o0).run P w):=by
 have s:=A.eval f b;simp only[dh] at j;split at j
 .rename_i l H;split at j
  .rename_i u E;cases j;rw[H] at s;have⟨m,C,D⟩:=s.PK;have⟨c,I,G⟩:=D.get E;rw[C];refine Out.same S (c:=c) (fS ?_) (.val G);have:(⟨m⟩:Array aa)[i]?=Z c:=by rw[<-I];simp
   simp[V5,this]
  cases j
 cases j
def aon(D:eG P T){i:TI}(A:T t=Z i)(G:i.u=.slice el){E:e7}(S:eQ d ρ h w)(u:ER ρ e a.tmps)(H:d_ F ρ)(I:cZ F x=cd)(j:dh e h (.ox x)=Z (v,X)):Out d ρ h w v X (((do pure (cp (<-wb #[t] E #[a.eval x]))):Sem o0).run P w):=by
 have s:=u.eval H I;have g:=(D t i A).u;rw[G] at g;simp only[dh] at j;split at j
 rename_i E;cases j;rw[E] at s;have⟨y,E,C,_⟩:=s.u9;rw[C];exact Out.same S (fS (by simp[wb,tI g,goInt])) (VR.int _ _);cases j
def aol(j:eG P T){i:TI}(V:T t=Z i)(O:i.u=.slice el){E:e7}(S:eQ d ρ h w)(M:ER ρ e a.tmps)(D:d_ F ρ)(b:cZ F x=cd)(s:dh e h (.WL x)=Z (v,X)):Out d ρ h w v X (((do pure (cp (<-we #[t] E #[a.eval x]))):Sem o0).run P w):=by
 have u:=M.eval D b;have g:=(j t i V).u;rw[O] at g;simp only[dh] at s;split at s
 rename_i D;cases s;rw[D] at u;rw[u.jU];exact Out.same S (fS (by simp[we,tI g,goInt])) (VR.int _ _)
 .rename_i b off len C D;rw[D] at u;have⟨r,U,j,N,W,I⟩:=u.fp;rw[W];split at s
  .rename_i u u o u D;have u:=S.obj b r _ N D;obtain⟨B,D,D,_,_,H,_⟩:=u;have G:(we #[t] E #[c6 (Z U) len j]).run P w=.ok (dC ef j) w:=by simp[we,tI g,goInt]
   cases E:ar o 0
   .simp only[E,Jl,if_false] at s;cases s;have:C<=j:=by rcases I.2.1 with h|⟨_,h,_⟩;omega;exact h
    exact Out.same S (fS G) (.atl this)
   simp only[E,if_true] at s;cases s;have A:=qm E;have:j=C:=by rcases I.2.1 with h|⟨h,_⟩;exact h;exact absurd (H.trans A) h
   rw[this] at G⊢;exact Out.same S (fS G) (VR.int _ _)
  cases s
 cases s
def aj4(C:eG P T){i:TI}(A:T t=Z i)(E:i.u=.string){D:e7}(S:eQ d ρ h w)(u:ER ρ e a.tmps)(G:d_ F ρ)(H:cZ F x=cd)(j:dh e h (.MM x)=Z (v,X)):Out d ρ h w v X (((do pure (cp (<-wb #[t] D #[a.eval x]))):Sem o0).run P w):=by
 have s:=u.eval G H;have g:=(C t i A).u;rw[E] at g;simp only[dh] at j;split at j
 rename_i D;cases j;rw[D] at s;rw[s.JR];exact Out.same S (fS (by simp[wb,tI g,goInt])) (VR.int _ _);cases j
def agT(u:eG P T){i C:TI}{fs:Array yU}{f:yU}{k:Nat}(G:T t=Z i)(b:i.u=.struct fs)(E:fs[k]?=Z f)(s:T f.type=Z C)(H:C.size≠0)(S:eQ d ρ h w)(D:ER ρ e a.tmps)(N:d_ F ρ)(O:cZ F x=cd)(j:dh e h (.cD f.offset x)=Z (v,X)):Out d ρ h w v X (((do pure (cp (<-V4 t (a.eval x) k))):Sem o0).run P w):=by
 have A:=D.eval N O;have g:=(u t i G).u;rw[b] at g;simp only[dh] at j;split at j
 rename_i b o k;cases j;rw[k] at A;have⟨r,I,M⟩:=A.Gx;rw[M];refine Out.same S (c:=dB (Z ⟨r.ch,r.base+(o+f.offset),K⟩)) (fS ?_) (CR.ptr I).vr;simp[V4,tI g,E,ub,fieldPlace,(iS (w:=w) (u _ _ s)).1,H,r_,DJ];cases j
def LY(D:eG P T){i u:TI}(M:T t=Z i)(W:i.u=.slice el)(b:T el=Z u)(S:eQ d ρ h w)(H:ER ρ e a.tmps)(I:d_ F ρ)(E:cZ F x=cd)(N:cZ F y=cd)(j:dh e h (.ee K u.size x y)=Z (v,X)):Out d ρ h w v X (((do pure (cp (<-vJ t (a.eval x) (a.eval y)))):Sem o0).run P w):=by
 have G:=H.eval I E;have E:=H.eval I N;have g:=(D t i M).u;rw[W] at g;simp only[dh] at j;split at j
 .rename_i k n M;split at j;contradiction
  .rename_i N o len C _ N;by_cases A:n<len
   .have s:eR n len=cd:=by simp[j0];exact A
    simp only[s,if_true,oN,CB] at j;obtain⟨rfl,rfl⟩:=j;rw[M] at E;rw[N] at G;rw[E.ff];obtain⟨r,U,E,V,E,⟨N,M,M⟩⟩:=G.fp;rw[E];have E:U=⟨r.ch,r.base+o,K⟩:=by rcases N with h|⟨_,h⟩;exact h;omega
    subst E;refine Out.same S (c:=dB (Z ⟨r.ch,r.base+(o+n*u.size),K⟩)) (fS ?_) (CR.ptr V).vr;have O:(0:Int)<=lE n/\lE n<(len:Int):=⟨mH n,by exact En.2 A⟩;simp only[vJ,ra,uy,zA,tH,tI g];rw[bH O];simp[(iS (w:=w) (D _ _ b)).1,r_,DJ]
   .have s:eR n len=b9:=by cases s:eR n len;rfl;exact absurd (by simpa [j0] using s) A
    simp[s] at j
  cases j
 cases j
def LX(C:eG P T){i u:TI}(W:T t=Z i)(U:i.u=.array m el)(O:T el=Z u)(S:eQ d ρ h w)(G:ER ρ e a.tmps)(H:d_ F ρ)(V:cZ F x=cd)(N:cZ F y=cd)(j:dh e h (.ee (Z m) u.size x y)=Z (v,X)):Out d ρ h w v X (((do pure (cp (<-vJ t (a.eval x) (a.eval y)))):Sem o0).run P w):=by
 have E:=G.eval H V;have D:=G.eval H N;have g:=(C t i W).u;rw[U] at g;simp only[dh] at j;split at j
 .rename_i k n b;split at j
  .rename_i A A o A I;cases A;by_cases A:n<m
   .have s:eR n m=cd:=by simp[j0];exact A
    simp only[s,if_true,oN,CB] at j;obtain⟨rfl,rfl⟩:=j;rw[b] at D;rw[I] at E;rw[D.ff];have⟨r,D,b⟩:=E.Gx;rw[b];refine Out.same S (c:=dB (Z ⟨r.ch,r.base+(o+n*u.size),K⟩)) (fS ?_) (CR.ptr D).vr;have M:(0:Int)<=lE n/\lE n<(m:Int):=⟨mH n,by exact En.2 A⟩;simp only[vJ,ra,uy,zA,tH,tI g,ub];rw[bH M];simp[(iS (w:=w) (C _ _ O)).1,r_,DJ]
   .have s:eR n m=b9:=by cases s:eR n m;rfl;exact absurd (by simpa [j0] using s) A
    simp[s] at j
  contradiction;cases j
 cases j
def Ru(I:eG P T){i:TI}(E:T t=Z i)(b:i.u=.string)(S:eQ d ρ h w)(u:ER ρ e a.tmps)(D:d_ F ρ)(O:cZ F x=cd)(H:cZ F y=cd)(j:dh e h (.index K x y)=Z (v,X)):Out d ρ h w v X (((do pure (cp (<-yx t (a.eval x) (a.eval y)))):Sem o0).run P w):=by
 have C:=u.eval D O;have A:=u.eval D H;have g:=(I t i E).u;rw[b] at g;simp only[dh] at j;split at j
 .rename_i k n D;split at j;contradiction
  .rename_i s _ G;split at j;rename_i b N;cases j;rw[D] at A;rw[G] at C;rw[A.ff,C.JR];refine Out.same S (fS ?_) (VR.int _ _);have M:(0:Int)<=lE n:=mH n;simp only[yx,ra,uy,zA,tH,tI g];simp only[M,if_true];have:(lE n).toNat=n:=Q;rw[this,N];rfl
   cases j
  cases j
 cases j
def Rs(C:eG P T){i D:TI}(k:T t=Z i)(N:i.u=.array len el)(b:T el=Z D)(S:eQ d ρ h w)(E:ER ρ e a.tmps)(M:d_ F ρ)(f:cZ F x=cd)(A:cZ F y=cd)(j:dh e h (.index (Z (len,D.size,Fs D)) x y)=Z (v,X)):Out d ρ h w v X (((do pure (cp (<-yx t (a.eval x) (a.eval y)))):Sem o0).run P w):=by
 have I:=E.eval M f;have G:=E.eval M A;have g:=(C t i k).u;rw[N] at g;simp only[dh] at j;split at j
 .rename_i k n M;split at j
  .rename_i H U N l V N;cases V;by_cases E:n<len
   .have s:eR n len=cd:=by simp[j0];exact E
    simp only[s,if_true] at j;split at j;rename_i u A;cases j;rw[M] at G;rw[N] at I;rw[G.ff];have⟨m,M,O⟩:=I.P6;have⟨c,k,N⟩:=agZ (w:=w) (C _ _ b) O A;rw[M];refine Out.same S (c:=c) (fS ?_) N;have W:(0:Int)<=lE n/\lE n<(len:Int):=⟨mH n,by exact En.2 E⟩;simp only[yx,ra,uy,zA,tH,tI g];rw[bH W];simp only[uy,(iS (w:=w) (C _ _ b)).1,tH];exact k
    cases j
   .have s:eR n len=b9:=by cases s:eR n len;rfl;exact absurd (by simpa [j0] using s) E
    simp[s] at j
  contradiction;cases j
 cases j
end
section
variable{P:b7}{k:dy}{ρ:fP}{h d:aB}{w:c5}{T:tU}{ng:Nat}{e:Env}{a:Act}{c v:aa}
def agU(G:eG P T){i:TI}(D:T t=Z i)(S:eQ k ρ h w)(C:ER ρ e a.tmps)(N:d_ ng ρ)(O:cZ ng x=cd)(j:dh e h (.load (Fs i) x)=Z (v,d)):Out k ρ h w v d (((do pure (cp (<-Xv t (a.eval x)))):Sem o0).run P w):=by
 have A:=C.eval N O;simp only[dh] at j;split at j;rename_i b off I;split at j;rename_i E E;split at j;rename_i u b;cases j;rw[I] at A;have⟨r,H,M⟩:=A.Gx;have⟨c,A,s⟩:=aaN S (G t i D) H E b;rw[M];exact Out.same S (c:=c) (fS (by simp[Xv,ub,A])) s;cases j;cases j;cases j
def acW(G:eG P T){i:TI}(U:T t=Z i)(S:eQ k ρ h w)(u:ER ρ e a.tmps)(A:d_ ng ρ)(O:cZ ng x=cd)(b:cZ ng y=cd)(j:dh e h (.store i.size x y)=Z (v,d)):Out k ρ h w v d (((do VX t (a.eval x) (a.eval y);pure Next.skip):Sem o0).run P w):=by
 have s:=u.eval A O;have H:=u.eval A b;simp only[dh] at j;split at j
 rename_i b off I;split at j;rename_i vs C;split at j;rename_i M;split at j;rename_i W E;cases j;rw[I] at s;have⟨r,A,V⟩:=s.Gx;have⟨w',N,b,D⟩:=agW S (G t i U) A H C (qm M) E;rw[V];refine⟨ρ,w',undef,ft ⟨Q,?_⟩,VR.undef,b,D⟩;simp[VX,ub,N];cases j;cases j;cases j;cases j
def FE(x:Sem G)(f:G->H):(f <$> x).run P w=(x.run P w).andThen λy w'=>.ok (f y) w':=Sem.run_map P w x f
def P9(f:G->Sem H)(g:G->H)(l:Array G)(C:∀x∈l.toList,(f x).run P w=.ok (g x) w):(l.mapM f).run P w=.ok (l.map g) w:=by
 have a:∀(m:List G)(j:Array H),(∀x∈m,(f x).run P w=.ok (g x) w)->(m.foldlM (λA x=>A.push <$> f x) j).run P w=.ok (j++(m.map g).toArray) w:=by
  intro m;induction m with
  |nil=>intro j _;simp
  |cons x m u=>
   intro j s;simp only[QS,uy,FE,s x ag,tH];rw[u _ (λy u=>s y (av u))];congr 1;apply cL;simp
 rw[E5,<-F4];rw[a l.toList #[] C];congr 1;apply cL;simp
def YO :∀ {ps:List (Nat×aU)} {a:List (Nat×Nat×aU)},Am T fs ps=Z a->(fs.all λf=>(T f.type).isSome)=cd->bQ (λ(p:Nat×aU) (q:Nat×Nat×aU)=>((fs.map λf=>(f.offset,((T f.type).map (·.size)).getD 0)).toArray[p.1]?)=Z (q.1,q.2.1)/\q.2.2=p.2) ps a:=by
 intro ps;induction ps with
 |nil=>intro a h _;simp only[Am,oN] at h;subst h;exact .nil
 |cons p ps b=>
  intro a h s;have⟨j,x⟩:=p;simp only[Am] at h;split at h;cases h;rename_i f u;split at h;rename_i D l C A;cases h;refine .cons ⟨?_,Q⟩ (b A s);simp[u,C];cases h
def Jo(I:eG P T){i:TI}{fs:Array yU}{ps:Array (Nat×aU)}{b:List (Nat×Nat×aU)}(l:T t=Z i)(W:i.u=.struct fs)(c:(fs.toList.all λf=>(T f.type).isSome)=cd)(N:Am T fs.toList ps.toList=Z b)(S:eQ k ρ h w)(U:ER ρ e a.tmps)(u:d_ ng ρ)(n:(ps.toList.map (·.2)).all (cZ ng)=cd)(A:dh e h (.build i.zero b)=Z (v,d)):Out k ρ h w v d (((do pure (cp (<-yT t (ps.map λp=>(p.1,a.eval p.2))))):Sem o0).run P w):=by
 have g:=I t i l;have l:=g.u;rw[W] at l;simp only[dh] at A;split at A
 .rename_i E O;cases A;have⟨z,m,D⟩:=GV (w:=w) g;have⟨s,j,M⟩:=KG (ρ:=ρ) (a:=a) (ng:=ng) U u _ ps.toList b i.zero i.zero E (by simpa [C3] using n) (YO N c) (fL g.zero) O;refine Out.same S (c:=eU ⟨s⟩) (fS ?_) (VR.agg M);have M:(fs.mapM λf=>(do pure (f.offset,<-sF f.type):Sem (Nat×Nat))).run P w=.ok (fs.map λf=>(f.offset,((T f.type).map (·.size)).getD 0)) w:=by refine P9 _ _ fs ?_;intro f V;have H:=lL.1 c f V;obtain⟨u,u⟩:=Option.isSome_iff_exists.1 H;simp[(iS (w:=w) (I _ _ u)).1,u]
  have G:z.cells=⟨i.zero⟩:=by apply cL;simpa using D
  have C:(ps.map λp=>(p.1,a.eval p.2)).toList=ps.toList.map λp=>(p.1,a.eval p.2):=ag
  have E:(fs.toList.map λf=>(f.offset,((T f.type).map (·.size)).getD 0)).toArray=fs.map λf=>(f.offset,((T f.type).map (·.size)).getD 0):=by apply cL;simp
  rw[E] at j;simp only[yT,uy,m,tH,tI l,M,G,C,j,zA]
 cases A
def zK{el:TI} :∀ps:List (Nat×aU),bQ (λ(p:Nat×aU) (q:Nat×Nat×aU)=>(λi=>Z (i*el.size,el.size)) p.1=Z (q.1,q.2.1)/\q.2.2=p.2) ps (ps.map λp=>(p.1*el.size,el.size,p.2))
 |[]=>.nil
 |_::ps=>.cons ⟨Q,Q⟩ (zK ps)
def LW(G:eG P T){i j:TI}{ps:Array (Nat×aU)}(u:T t=Z i)(N:i.u=.array n el)(c:T el=Z j)(S:eQ k ρ h w)(H:ER ρ e a.tmps)(V:d_ ng ρ)(U:(ps.toList.map (·.2)).all (cZ ng)=cd)(A:dh e h (.build i.zero (ps.toList.map λp=>(p.1*j.size,j.size,p.2)))=Z (v,d)):Out k ρ h w v d (((do pure (cp (<-yT t (ps.map λp=>(p.1,a.eval p.2))))):Sem o0).run P w):=by
 have g:=G t i u;have u:=g.u;rw[N] at u;simp only[dh] at A;split at A
 .rename_i N M;cases A;have⟨z,O,D⟩:=GV (w:=w) g;have⟨s,b,I⟩:=KG (ρ:=ρ) (a:=a) (ng:=ng) H V (λi=>Z (i*j.size,j.size)) ps.toList _ i.zero i.zero N (by simpa [C3] using U) (zK (el:=j) ps.toList) (fL g.zero) M;refine Out.same S (c:=eU ⟨s⟩) (fS ?_) (VR.agg I);have E:z.cells=⟨i.zero⟩:=by apply cL;simpa using D
  have C:(ps.map λp=>(p.1,a.eval p.2)).toList=ps.toList.map λp=>(p.1,a.eval p.2):=ag
  simp only[yT,uy,O,tH,tI u,(iS (w:=w) (G _ _ c)).1,E,C,b,zA]
 cases A
def tv(z:List aa):∀n,Y (jG z n)=n*Y z
 |0=>by simp[jG]
 |n+1=>by rw[jG,IA,tv z n,qB];omega
def U5(z:List aa):∀(n i:Nat),i<n*Y z->(jG z n)[i]?=z[i%Y z]?
 |0,i,h=>by simp at h
 |n+1,i,h=>by
  have j:0<Y z:=by
   cases j:Y z with
   |zero=>rw[j] at h;simp at h
   |succ k=>omega
  rw[jG];by_cases g:i<Y z;rw[Jf g,Nat.mod_eq_of_lt g]
  .rw[Hv J,U5 z n _ (by rw[qB] at h;omega)];congr 1
   conv=>rhs;rw[show i=(i-Y z)+Y z by omega,Nat.add_mod_right]
def CO{z:List aa}(u:0<Y z\/n=0):(jG z n)=((E4 (n*Y z)).map (λi=>(⟨z⟩:Array aa)[i%Y z]!)).toList:=by
 apply Bc;intro i;by_cases g:i<n*Y z
 .have j:0<Y z:=by rcases u with h|h;exact h;subst h;simp at g
  have s:i%Y z<Y z:=TZ _ j;rw[U5 z n i g];simp[g,s,getElem!_def]
 rw[xE (by rw[tv];omega),xE (by simp;omega)]
def j5{z:List aa}(j:z.all dt=cd):∀n,(jG z n).all dt=cd
 |0=>rfl
 |n+1=>by rw[jG,List.all_append,j,j5 j n];rfl
def acU(N:eG P T){i j:TI}{ps:Array (Nat×aU)}(u:T t=Z i)(D:i.u=.slice el)(A:T el=Z j)(c:n*j.size<=1000000)(S:eQ k ρ h w)(c:ER ρ e a.tmps)(f:d_ ng ρ)(l:(ps.toList.map (·.2)).all (cZ ng)=cd)(H:dh e h (.fC n (jG j.zero n) (ps.toList.map λp=>(p.1*j.size,j.size,p.2)))=Z (v,d)):Out k ρ h w v d (((do pure (cp (<-yc t n (ps.map λp=>(p.1,a.eval p.2))))):Sem o0).run P w):=by
 have g:=N t i u;have u:=g.u;rw[D] at u;have D:=N _ _ A;simp only[dh] at H;split at H
 .rename_i N A;cases H;have⟨z,b,M⟩:=GV (w:=w) D;have E:z.cells=⟨j.zero⟩:=by apply cL;simpa using M
  have G:=D.len;have⟨s,M,V⟩:=KG (ρ:=ρ) (a:=a) (ng:=ng) c f (λi=>Z (i*j.size,j.size)) ps.toList _ _ _ N (by simpa [C3] using l) (zK (el:=j) ps.toList) (fL (j5 D.zero n)) A;obtain⟨A,f,W,_,_,_,O,A⟩:=Gs (cz:=[]) S V el 0 (λh=>absurd Q h);rw[ye] at O A;refine⟨_,_,c6 (Z ⟨w.heap.size,0,K⟩) n n,fc (fS ?_),?_,O,A⟩
  .have C:(ps.map λp=>(p.1,a.eval p.2)).toList=ps.toList.map λp=>(p.1,a.eval p.2):=ag
   by_cases A:n*j.size=0
   .have N:jG j.zero n=[]:=F7 (by rw[tv,G];exact A);rw[N] at M;simp only[yc,uy,tI u,tH,(iS (w:=w) D).1,abS,A,if_true,zA,C];have N:((E4 0).map λi=>(#[]:Array aa)[i%(#[]:Array aa).size]!)=⟨[]⟩:=by apply cL;simp
    rw[N,M];rfl
   .have l:¬(n*j.size>2^24):=J
    have U:=CO (z:=j.zero) (n:=n) (by
     by_cases I:0<Y j.zero;exact fc I
     .right;have:Y j.zero=0:=J
      rw[G] at this;rw[this] at A;simp at A)
    rw[G] at U;have N:z.cells.size=j.size:=by rw[E];simpa using G
    have c:((E4 (n*j.size)).map λi=>(⟨j.zero⟩:Array aa)[i%j.size]!)=⟨jG j.zero n⟩:=by apply cL;rw[<-U]
    simp only[yc,uy,tI u,tH,(iS (w:=w) D).1,abS,l,if_false,A,b,zA,C,N];rw[E,c,M];rfl
  refine(CR.slice (zw _ _ _) ⟨fc ?_,fc Q,fE _⟩).vr;rw[f,W]
 cases H
def YJ(M:eG P T){i u:TI}(E:T t=Z i)(D:i.u=.slice el)(b:T el=Z u)(S:eQ k ρ h w)(N:ER ρ e a.tmps)(U:d_ ng ρ)(j:cZ ng x=cd)(f:cZ ng y=cd)(A:dh e h (.iO u.zero u.bytes x y)=Z (v,d)):Out k ρ h w v d (((do pure (cp (<-Instr.makeSlice t (a.eval x) (a.eval y)))):Sem o0).run P w):=by
 have g:=M t i E;have C:=g.u;rw[D] at C;have D:=M _ _ b;have M:=N.eval U j;have b:=N.eval U f;simp only[dh] at A;split at A
 .rename_i l c f N;split at A
  .rename_i O;cases A;simp only[pU] at O;have⟨⟨⟨j,G⟩,s⟩,I⟩:=O;have j:=ON j;have G:=ON G;have I:=ON I;have s:0<Y u.zero:=by simpa [j0] using s
   rw[f] at M;rw[N] at b;rw[M.ff,b.ff];have⟨V,W,N,M,z,E,b⟩:=D.info;have H:z.cells=⟨u.zero⟩:=by apply cL;simpa using b
   have b:=run_make (P:=P) w t el V z C W E ef ef (lE l) (lE c) (mH l) (sE.2 j)
    (by rw[M];show(u.bytes:Int)*(c:Int)<=_;rw[<-Ul,Nat.mul_comm];exact aas (sE.2 G) ai) (by show(c:Int)<=_;exact aas (sE.2 I) ai)
   have E:madeCells z.cells ((lE c).toNat*V.size)=⟨jG u.zero c++[]⟩:=by apply cL;rw[ye,CO (fc s),H];simp[madeCells,N,D.len]
   rw[E] at b;obtain⟨E,N,E,_,_,_,u,M⟩:=Gs (cz:=[]) S (fL (j5 D.zero c)) el 0 (λh=>absurd Q h);refine⟨_,_,c6 (Z ⟨w.heap.size,0,K⟩) l c,fc (fS b),?_,u,M⟩;refine(CR.slice (zw _ _ _) ⟨fc ?_,fc Q,j⟩).vr;rw[N,E]
  cases A
 cases A
end
def zO :eR m n=cd↔m<n:=by simp[j0]
section
variable{P:b7}{b:dy}{X:fP}{h d:aB}{w:c5}{T:tU}{F:Nat}{e:Env}{a:Act}{c v:aa}
def Cs{j n:Nat}{d:Nat}(D:ER X e a.tmps)(I:d_ F X)(b:cZ F x=cd)(s:bound e (Z x) d j=Z n)(u:BoundsCode){y:Nat}(E:j<=y):n<=j/\(nx (a.eval x) y u).run P w=.ok n w:=by
 have C:=D.eval I b;simp only[bound] at s;split at s
 .rename_i k i G;split at s;rename_i E;cases s;have A:=ON E;refine⟨A,?_⟩;rw[G] at C;rw[C.ff];have H:(0:Int)<=lE n/\lE n<=(y:Int):=⟨mH n,sE.2 J⟩;simp only[nx,ra,uy,zA,tH];rw[bH H];rfl
  cases s
 cases s
def Ki(M:ER X e a.tmps)(O:d_ F X)(c:(V.toList).all (cZ F)=cd)(p:(g.toList).all (cZ F)=cd)(W:(s.toList).all (cZ F)=cd)(S:(s.isSome&&g.isNone)=b9){len b o m j l:Nat}(T:b<=o)(h:bound e s b b=Z m)(H:bound e g len m=Z j)(N:bound e V 0 j=Z l):∃u,(kl cd len o (V.map a.eval) (g.map a.eval) (s.map a.eval)).run P w=.ok (l,j,u) w/\l<=j/\(g.isSome->j<=m)/\((s.isSome/\u=m/\m<=b)\/(s=K/\m=b/\u=o)):=by
 have z:∀(u:Nat),m<=u->(s.isSome->u=m)->(match s.map a.eval with
   |some v=>nx v o (if cd then .slice3Acap else .slice3Alen)
   |none=>(pure o:Sem Nat)).run P w=.ok u w->(kl cd len o (V.map a.eval) (g.map a.eval) (s.map a.eval)).run P w=.ok (l,j,u) w/\l<=j/\(g.isSome->j<=m):=by
  intro u I f E;have C:(match g.map a.eval,s.map a.eval with
    |some v,Z _=>nx v u .slice3B
    |some v,K=>nx v u (if cd then .sliceAcap else .sliceAlen)
    |none,K=>(pure len:Sem Nat)
    |none,Z _=>stuck "Slice: max without high").run P w=.ok j w/\(g.isSome->j<=m):=by
   rcases g with _|x;rcases s with _|_;simp only[bound,oN] at H;subst H;exact⟨Q,ag⟩;simp at S
   .have G:cZ F x=cd:=ak p
    rcases s with _|y;have:=Cs (P:=P) (w:=w) M O G H .sliceAcap I;exact⟨this.2,λ_=>this.1⟩;have:=Cs (P:=P) (w:=w) M O G H .slice3B I;exact⟨this.2,λ_=>this.1⟩
  have r:(match V.map a.eval with
    |some v=>nx v j (if(s.map a.eval).isSome then .slice3C else .sliceB)
    |none=>(pure 0:Sem Nat)).run P w=.ok l w/\l<=j:=by
   rcases V with _|x;simp only[bound,oN] at N;subst N;exact⟨Q,kp _⟩;have G:cZ F x=cd:=ak c
   have:=Cs (P:=P) (w:=w) M O G N (if(s.map a.eval).isSome then .slice3C else .sliceB) (fE j);exact⟨this.2,this.1⟩
  refine⟨?_,r.2,C.2⟩;have A:=C.1;have D:=r.1;clear C r h H N;rcases s with _|s<;>rcases g with _|g<;>rcases V with _|V<;>
   simp only[lO,zz,lI,lH,zA,Result.ok.injEq,and_true,run_stuck,reduceCtorEq,if_true,if_false,Jl] at E A D<;>
   first
    |(subst E;subst A;subst D;rfl)
    |(subst E;subst A;simp only[kl,lO,zz,lI,lH,if_true,if_false,Jl,uy,zA,D,tH];done)
    |(subst E;subst D;simp only[kl,lO,zz,lI,lH,if_true,if_false,Jl,uy,zA,A,tH];done)
    |(subst E;simp only[kl,lO,zz,lI,lH,if_true,if_false,Jl,uy,zA,A,D,tH];done)
    |(subst D;simp only[kl,lO,zz,lI,lH,if_true,if_false,Jl,uy,zA,E,A,tH];done)
    |(simp only[kl,lO,zz,lI,lH,if_true,if_false,Jl,uy,zA,E,A,D,tH];done)
 rcases s with _|x;simp only[bound,oN] at h;subst h;have⟨b,N,U⟩:=z o T ag rfl;exact⟨o,b,N,U,ft ⟨Q,Q,Q⟩⟩;have G:cZ F x=cd:=ak W
 have A:=Cs (P:=P) (w:=w) M O G h .slice3Acap T;have⟨b,N,U⟩:=z m (fE m) (λ_=>rfl) A.2;exact⟨m,b,N,U,fc ⟨Q,Q,A.1⟩⟩
def agV(f:eG P T){i H:TI}(c:T t=Z i)(z:i.u=.slice el)(D:T el=Z H)(u:(s.isSome&&g.isNone)=b9)(S:eQ b X h w)(k:ER X e a.tmps)(p:d_ F X)(M:cZ F x=cd)(O:(V.toList).all (cZ F)=cd)(L:(g.toList).all (cZ F)=cd)(I:(s.toList).all (cZ F)=cd)(j:dh e h (.slice H.size x V g s)=Z (v,d)):Out b X h w v d (((do pure (cp (<-Bq t (a.eval x) (V.map a.eval) (g.map a.eval) (s.map a.eval)))):Sem o0).run P w):=by
 have q:=(f t i c).u;rw[z] at q;have z:=(iS (w:=w) (f _ _ D)).1;have f:=k.eval p M;simp only[dh] at j;split at j
 .rename_i M len D M;split at j;cases j
  .rename_i m W;split at j;cases j
   .rename_i hh c;split at j;cases j
    .rename_i l h3;rw[M] at f;split at j
     .cases j;rw[f.jU];have⟨M,n,hlh,_,E⟩:=Ki (P:=P) (w:=w) k p O L I u (fE D) W c h3;have A:M=m:=by rcases E with⟨_,h,_⟩|⟨_,h,d⟩<;>omega
      subst A;refine Out.same S (fS ?_) (CR.gE _ _).vr;simp only[Bq,Yq,uy,tI q,tH,n,z,zA,lO];congr 2;split<;>rfl
     .rename_i b' off;split at j
      .rename_i A A o A ho;cases A:ar o 0||ar o H.size;simp[A] at j
       .simp only[A,mi,oN,CB] at j;obtain⟨rfl,rfl⟩:=j;have⟨r,U,C,hr,hc,⟨Ld,G,N⟩⟩:=f.fp;obtain⟨B,f,f,_,f,N,_,_,_⟩:=S.obj b' r _ hr ho;have f:D<=C:=by rcases G with h|⟨_,h,_,_⟩<;>omega
        have⟨M,n,hlh,ZE,E⟩:=Ki (P:=P) (w:=w) k p O L I u f W c h3;have f:hh<=m:=by rcases g with _|y;simp only[bound,oN] at c;rcases E with⟨f,_⟩|⟨_,h,_⟩;rw[f] at u;simp at u;omega;exact ZE rfl
        rw[hc];refine Out.same S (c:=c6 (Z (if M=l then U else U.add (l*H.size))) (hh-l) (M-l)) (fS ?_) (CR.slice hr ⟨?_,?_,?_⟩).vr;simp only[Bq,Yq,uy,tI q,tH,n,z,zA];congr 2;split<;>simp
        .by_cases z:M=l;right;rcases E with⟨_,h,_⟩|⟨_,h,d⟩<;>omega
         .left;rw[bM z];have M:U=⟨r.ch,r.base+off,K⟩:=by rcases Ld with h|⟨W,c⟩;exact h;rcases E with⟨_,h,_⟩|⟨_,h,d⟩<;>omega
          rw[M,r_,DJ]
        .rcases E with⟨_,h,_⟩|⟨_,h,d⟩;left;omega
         .rcases G with E|⟨E,M,M,c⟩;left;omega
          .right;have c:r.L8=H.size:=by rw[N];simp only[nv] at A;rcases A with h|h;exact absurd (N.trans (qm h)) E;exact qm h
           refine⟨E,J,?_,?_⟩;rw[<-c,h,GX,<-M];have:l*r.L8<=D*r.L8:=Gd _ J;omega
           rw[<-c,d,GX];have:l*r.L8<=C*r.L8:=Gd _ J;omega
        omega
      cases j
     cases j
 cases j
def Oj(P:b7)(w:c5)(s:e7)(j:Nat)(el:e7)(x:aa)(n:Nat)(B:List aa):Prop:=
 (∃D A C,P.underlying s=Z (.slice D)/\x=c6 A n C/\∀k,(cc j n x).run P {w with drawn:=k} =.ok ⟨B⟩ {w with drawn:=k})\/(∃k u,P.underlying s=Z (.int u)/\x=.int k (n:Int)/\n<=1099511627776/\∃z,(∀w',(na el).run P w'=.ok z w')/\Y z.cells.toList=j/\B=jG z.cells.toList n)
def agE(a:eG P T){el E:e7}{G M:TI}(f:T el=Z G)(v:T E=Z M)(d:if I then ∃k,M.u=.int k else ∃C,M.u=.slice C)(S:eQ b X h w){x y:aa}(i:VR X x y){N:List aa}(j:news h G.zero I x=Z (n,N)):∃B,bQ (KR X) N B/\Y N=n*G.size/\Oj P w E G.size el y n B:=by
 have D:=a _ _ f;have u:=(a _ _ v).u;unfold news at j;split at j
 .
  rename_i k m;split at j
  .rename_i p;cases j;obtain⟨a,H⟩:=ak d
   rw[H] at u;rw[i.ff];refine⟨_,fL (j5 D.zero n),by rw[tv,D.len],ft ⟨k,a,u,Q,ON p,?_⟩⟩;obtain⟨E,W,N,f,z,o,A⟩:=D.info;exact⟨z,λw'=>by simp[na,nw,W,o],by rw[A];exact D.len,by rw[A]⟩
  cases j
 .
  rename_i m _;split at j
  .rename_i s;cases j;have s:=qm s;subst s;obtain⟨C,A⟩:=ak d
   rw[A] at u;rw[i.jU];exact⟨[],.nil,ag,fc ⟨C,K,_,u,Q,λk=>by simp[cc]⟩⟩
  cases j
 .
  rename_i v off m _;obtain⟨C,A⟩:=ak d
  rw[A] at u;obtain⟨r,U,E,p,M,⟨N,g,v⟩⟩:=i.fp;rw[M];split at j;rename_i s;cases j;have s:=qm s;subst s;exact⟨[],.nil,ag,fc ⟨C,_,_,u,Q,λk=>by simp[cc,loadCells,loadCellsFrom]⟩⟩
  .rename_i s;split at j
   .rename_i a A;cases j;have o:n≠0:=by intro e;rw[e] at s;exact s rfl
    have M:U=⟨r.ch,r.base+off,K⟩:=by rcases N with h|⟨_,h⟩;exact h;omega
    subst M;obtain⟨V,B,O,t⟩:=GC S p A;refine⟨B,O,by rw[V,D.len],fc ⟨C,_,_,u,Q,λk=>?_⟩⟩;have:=x0 (P:=P) {w with drawn:=k} G.size n ⟨r.ch,r.base+off,K⟩ n E B (by rw[<-O.length,V,D.len]) t;exact this
   cases j
 cases j
def Jt{z:Array aa}{c:aa}(u:z.toList.all dt=cd)(j:c∈(fo z m).toList):dt c=cd:=by
 simp only[fo,Array.toList_map,iT] at j;obtain⟨i,g,rfl⟩:=j;have s:i<m*z.size:=ak g
 have A:0<z.size:=by rcases La z.size with h|h;rw[h] at s;simp at s;exact h
 have C:i%z.size<z.size:=TZ _ A;rw[getElem!_pos z _ C];exact lL.1 u _ ag
def uZ{t i ty el:e7}{j:TI}(q:xW P el j)(H:P.underlying t=Z (.slice el)){sa:Option E0}{len ccap n:Nat}{x:aa}(ha:Oj P w i j.size el x n B)(hl:Y B=n*j.size)(yj:0<j.size)(hb:n*j.bytes<=1099511627776):(len+n<=ccap->(eL #[t,i] ty #[c6 sa len ccap,x]).run P w=
   (((match sa with|some g=>storeCells (g.add (len*j.size)) B|none=>pure ()):Sem Unit).run P w).andThen λ_ w'=>.ok (c6 sa (len+n) ccap) w')/\(ccap<len+n->(len+n)*j.bytes<=1099511627776->len+n<=1099511627776->∀G:List aa,Y G=len*j.size->(∀p,(cc j.size len (c6 sa len ccap)).run P {w with drawn:=p} =.ok ⟨G⟩ {w with drawn:=p})->∃(y:Nat) (o:List aa),len+n<=y/\Y o=(y-(len+n))*j.size/\(∀c∈o,dt c=cd)/\(eL #[t,i] ty #[c6 sa len ccap,x]).run P w=.ok (c6 (Z ⟨w.heap.size,0,K⟩) (len+n) y) (({w with drawn:=w.drawn+1} :c5).alloc (.cells ⟨(G++B)++o⟩ el))):=by
 have⟨ti,C,I,d,z,b,L⟩:=q.info;have f:z.cells.size=j.size:=by have:=q.len;rw[<-L] at this;simpa using this
 have O:∀(m:Nat),∀c∈(fo z.cells m).toList,dt c=cd:=by intro m c S;have F:=q.zero;rw[<-L] at F;exact Jt F S
 rcases ha with⟨Tx,F,S,D,rfl,hf⟩|⟨p,kk,D,rfl,hn40,a,hz',Up,hcc⟩
 .have r:(cc j.size n (c6 F n S)).run P w=.ok ⟨B⟩ w:=by have:=hf w.drawn;exact this
  constructor;intro U;rcases sa with _|g;simp[eL,tI H,tI D,sF,nw,C,I,qu,U,r];simp[eL,tI H,tI D,sF,nw,C,I,qu,U,r]
  .intro V wY T G X s;have E:¬(len+n<=ccap):=J
   have A:¬(9223372036854775807<((len:Int)+(n:Int))):=J
   have u:¬(281474976710656<sG (len+n) ccap*ti.bytes):=by rw[d];have:=growslice_fits (bytes:=j.bytes) V J;omega
   have k:(cc j.size n (c6 F n S)).run P w.drew=.ok ⟨B⟩ w.drew:=hf (w.drawn+1);have W:(cc j.size len (c6 sa len ccap)).run P w.drew=.ok ⟨G⟩ w.drew:=s (w.drawn+1);refine⟨grownCap w (len+n) ccap el,(fo z.cells (grownCap w (len+n) ccap el-(len+n))).toList,grownCap_ge w _ _ _,?_,O _,?_⟩
   have:=size_zeroCells z.cells (grownCap w (len+n) ccap el-(len+n));rw[f] at this;simpa using this;simp[eL,tI H,tI D,sF,nw,na,C,I,b,qu,E,A,u,rr,k,W,newRow,grownCap];congr 2;apply cL;simp[KN]
 .have r:nH.i64.wrap (n:Int)=n:=by rw[Ih];omega
  have k:¬((n:Int)<0):=J
  have l:¬(281474976710656<(n:Int)*(j.bytes:Int)):=by have:((n*j.bytes:Nat):Int)<=1099511627776:=sE.2 hb;rw[Ul] at this;omega
  have hz1:=hz' w;have hzz:a=z:=by
   have N:(na el).run P w=.ok z w:=by simp[na,nw,C,b]
   rw[hz1] at N;injection N
  subst hzz;have hcz:n*j.size=0->B=[]:=λh=>F7 (by rw[hl,h]);have N:(fo a.cells n)=⟨B⟩:=by apply cL;rw[hcc,CO (fc (by rw[Up];exact yj)),Up];have:a.cells=⟨a.cells.toList⟩:=Q;simp[fo,f]
  have sO:n*j.size=0↔n=0:=by constructor;intro h;rcases Nat.mul_eq_zero.1 h with h|h;exact h;omega;rintro rfl;simp
  have v:nH.i64.wrap 0=0:=by rw[Ih];omega
  by_cases e:n=0
  .subst e;have IF:B=[]:=hcz ag;subst IF;constructor
   .intro U;have M:len<=ccap:=J
    rcases sa with _|g;simp[eL,tI H,tI D,sF,nw,C,I,Yb,ra,v,M,storeCells];simp[eL,tI H,tI D,sF,nw,C,I,Yb,ra,v,M,storeCells]
   .intro V wY T G X s;have E:¬(len+0<=ccap):=J
    have M:¬(len<=ccap):=J
    have A:¬(9223372036854775807<(len:Int)):=J
    have u:¬(281474976710656<sG len ccap*ti.bytes):=by rw[d];have:=growslice_fits (bytes:=j.bytes) V J;simp only[Jk] at this;omega
    have W:(cc j.size len (.slice sa len ccap)).run P w.drew=.ok ⟨G⟩ w.drew:=s (w.drawn+1);refine⟨grownCap w (len+0) ccap el,(fo a.cells (grownCap w (len+0) ccap el-(len+0))).toList,grownCap_ge w _ _ _,?_,O _,?_⟩;have:=size_zeroCells a.cells (grownCap w (len+0) ccap el-(len+0));rw[f] at this;simpa using this;simp[eL,tI H,tI D,sF,nw,na,C,I,b,Yb,ra,v,M,A,u,rr,W,newRow,grownCap];congr 2;apply cL;simp
  .have hns:¬(n*j.size=0):=λh=>e (sO.1 h);have M:¬(j.size=0):=J
   constructor;intro U;rcases sa with _|g;simp[eL,tI H,tI D,sF,nw,na,C,I,d,b,Yb,ra,r,k,l,U,e,M,N];simp[eL,tI H,tI D,sF,nw,na,C,I,d,b,Yb,ra,r,k,l,U,e,M,N];intro h0;exact absurd h0 hns
   .intro V wY T G X s;have E:¬(len+n<=ccap):=J
    have A:¬(9223372036854775807<((len:Int)+(n:Int))):=J
    have u:¬(281474976710656<sG (len+n) ccap*j.bytes):=aw (growslice_fits (bytes:=j.bytes) V J)
    have W:(cc j.size len (.slice sa len ccap)).run P w.drew=.ok ⟨G⟩ w.drew:=s (w.drawn+1);refine⟨grownCap w (len+n) ccap el,(fo a.cells (grownCap w (len+n) ccap el-(len+n))).toList,grownCap_ge w _ _ _,?_,O _,?_⟩;have:=size_zeroCells a.cells (grownCap w (len+n) ccap el-(len+n));rw[f] at this;simpa using this;simp[eL,tI H,tI D,sF,nw,na,C,I,d,b,Yb,ra,r,k,l,E,A,u,e,M,rr,W,newRow,grownCap,N];rw[bM hns];congr 3;apply cL;simp[KN]
end
section
variable{P:b7}{F:dy}{d:fP}{h j:aB}{w:c5}{T:tU}{X:Nat}{e:Env}{a:Act}{c v:aa}
def VR.Zq{x:E0}(h:VR d (c6 (Z x) n C) c):∃b o r U j,x=⟨b,o,K⟩/\d b=Z r/\c=c6 (Z U) n j/\xg r o n C U j:=by
 cases h with
 |val h=>cases h with
  |cell h=>cases h with
   |cell h=>cases h with
    |slice h s=>exact⟨_,_,_,_,_,Q,h,Q,s⟩
def xg.Ex{r:Cn}{o len j a:Nat}(h:xg r o len j U a):j<=a:=by rcases h.2.1 with h|⟨_,h,_⟩<;>omega
def xg.addr{r:Cn}{o len j a:Nat}(h:xg r o len j U a)(s:0<a):U=⟨r.ch,r.base+o,K⟩:=by rcases h.1 with h|⟨h,_⟩;exact h;omega
def eQ.drew(S:eQ F d h w):eQ F d h ({w with drawn:=w.drawn+1} :c5):=S.drawn _
def OQ(S:eQ F d h w){b B a:List aa}{el n s j:Nat}(u:bQ (KR d) b B)(C:Y b=n*j)(U:0<j)(D:n<=s)(f:Y a=(s-n)*j)(g:∀c∈a,dt c=cd):∃e,VR e (c6 (Z ⟨h.ax,0,K⟩) n n) (c6 (Z ⟨w.heap.size,0,K⟩) n s)/\eQ F e (aM h b j) (({w with drawn:=w.drawn+1} :c5).alloc (.cells ⟨B++a⟩ el))/\Ext d h w e (aM h b j) (({w with drawn:=w.drawn+1} :c5).alloc (.cells ⟨B++a⟩ el)):=by
 obtain⟨E,H,E,O,A,G,N,M⟩:=Gs (cz:=a) S.drew u el j (λ_=>g);have I:Y (B++a)=s*j:=by rw[IA,<-u.length,C,f,GX];have:n*j<=s*j:=Gd _ D;omega
 refine⟨_,(CR.slice (zw _ _ _) ⟨fc ?_,ft ⟨J,D,?_,?_⟩,fE _⟩).vr,N,(Ext.drawn _).trans M⟩;rw[H,E];rw[O,A,C];omega;rw[A,G,I];omega
def Pp(hT:eG P T){t t' b el:e7}{i i' A:TI}(mJ:T t=Z i)(L:i.u=.slice el)(jP:T el=Z A)(X0:T t'=Z i')(hz:if I then ∃p,i'.u=.int p else ∃Tx,i'.u=.slice Tx)(S:eQ F d h w)(hE:ER d e a.tmps)(hG:d_ X d)(hx:cZ X x=cd)(hy:cZ X y=cd)(C:dh e h (.append A.zero A.bytes I x y)=Z (v,j)):Out F d h w v j (((do pure (cp (<-eL #[t,t'] b #[a.eval x,a.eval y]))):Sem o0).run P w):=by
 have m:=(hT t i mJ).u;rw[L] at m;have l:=hT _ _ jP;have u:=l.len;have H:=hE.eval hG hx;have tD:=hE.eval hG hy;simp only[dh] at C;split at C
 .rename_i n cs hn;obtain⟨B,W,IG,D'⟩:=agE hT jP X0 hz S tD hn;have k:Y B=n*A.size:=by rw[<-W.length,IG]
  unfold dz at C;split at C
  .rename_i U' len G hs;rw[hs] at H;split at C
   .rename_i atN;have f:0<A.size:=by rw[<-u];exact zO.1 atN
    split at C
    .
     rename_i q;have q:=qm q;subst q;split at C
     .rename_i N;have N:=ON N;cases C;have IF:B=[]:=F7 (by rw[k];simp);subst IF;rcases U' with _|ad
      have D:=H.jU;rw[D] at H⊢;have:=(uZ (t:=t) (ty:=b) l m (sa:=K) (len:=len) (ccap:=G) D' k f ag).1 J;exact Out.same S (fS (this.trans Q)) H
      obtain⟨b',o,r,U,s,rfl,hr,z,E⟩:=H.Zq;have M:=E.Ex;rw[z] at H⊢;have:=(uZ (t:=t) (ty:=b) l m (sa:=Z U) (len:=len) (ccap:=s) D' k f ag).1 J;exact Out.same S (fS (this.trans Q)) H
     cases C
    .rename_i sO;have aEE:0<n:=by rcases La n with h|h;subst h;exact absurd rfl sO;exact h
     split at C
     .rename_i kB;simp only[pU] at kB;have xJ:=ON kB.1;have Uj:=ON kB.2;have Wm:n*A.bytes<=1099511627776:=wV (Gd _ J) Uj;split at C
      .
       split at C;rename_i q;simp only[pU] at q;have Sx:=qm q.1;have IF:=qm q.2;subst Sx;subst IF;cases C;rw[H.jU];obtain⟨LS,cz,g1,g2,g4,g3⟩:=(uZ (t:=t) (ty:=b) l m (sa:=K) (len:=0) (ccap:=0) D' k f Wm).2 J Uj xJ [] ag (λp=>by simp[cc]);rw[Je] at g1 g2 g3;obtain⟨ρ',I',Lm,jx⟩:=OQ (el:=el) S W IG f g1 g2 g4;rw[u];exact⟨ρ',_,_,fc (fS g3),I',Lm,jx⟩
       cases C
      .rename_i b' off;split at C
       .rename_i bU o st ho;obtain⟨r,U,s,hr,z,E⟩:=H.fp;have Le:=E.Ex;have dF:=E.2.2;obtain⟨N,Tx,fr,q1,q2,q3,q4,q5,q6⟩:=S.obj b' r _ hr ho;have Wj:=q5 rfl;subst Wj;rw[z];split at C
        .
         rename_i D;have D:=ON D;split at C
         rename_i h'' M;cases C;obtain⟨w',fg,S',E'⟩:=CT (P:=P) S hr M W;have:=(uZ (t:=t) (ty:=b) l m (sa:=Z U) (len:=len) (ccap:=s) D' k f Wm).1 J;refine⟨d,w',c6 (Z U) (len+n) s,fc (fS ?_),(CR.slice hr ⟨E.1,E.2.1,D⟩).vr,S',E'⟩;rw[this];dsimp only;rw[E.addr J,r_,DJ,<-u,fg];rfl
         cases C
        .rename_i afN;have afN:G<len+n:=by rcases Bb G (len+n) with h|h;exact h;exact absurd (u2 h) afN
         dsimp only at C;by_cases anw:ar (Y ((bU.drop off).take (len*Y A.zero))) (len*Y A.zero)=cd
         .rw[bH anw] at C;have w_:=qm anw;have cV:cC h b' off (len*A.size)=Z ((bU.drop off).take (len*A.size)):=by unfold cC;rw[ho];rw[u] at w_;simp only[w_,lW,if_true]
          obtain⟨AY,EV,hko,hoc⟩:=GC S hr cV;have O:Y EV=len*A.size:=by rw[<-hko.length,AY]
          have amY:∀p,(cc A.size len (c6 (Z U) len s)).run P {w with drawn:=p} =.ok ⟨EV⟩ {w with drawn:=p} :=by
           intro p;by_cases IF:0<s;rw[E.addr IF];exact x0 (P:=P) {w with drawn:=p} A.size len ⟨r.ch,r.base+off,K⟩ len s EV O hoc
           .have Sx:len=0:=J
            subst Sx;have:EV=[]:=F7 (by rw[O];simp);subst this;simp[cc,loadCells,loadCellsFrom]
          have hkk:=hko.app W;have kj:Y ((bU.drop off).take (len*A.size)++cs)=(len+n)*A.size:=by rw[IA,AY,IG,qB]
          have grow:∀(h1:aB),(eQ F d h1 w/\Ext d h w d h1 w)->h1.ax=h.ax->s<len+n->Out F d h w (c6 (Z ⟨h.ax,0,K⟩) (len+n) (len+n)) (aM h1 ((bU.drop off).take (len*A.size)++cs) A.size)
             (((do pure (cp (<-eL #[t,t'] b #[c6 (Z U) len s,a.eval y]))):Sem o0).run P w):=by
           intro h1 ⟨S1,E1⟩ II gP;obtain⟨LS,cz,g1,g2,g4,g3⟩:=(uZ (t:=t) (ty:=b) l m (sa:=Z U) (len:=len) (ccap:=s) D' k f Wm).2 gP Uj xJ EV O amY;obtain⟨ρ',I',Lm,jx⟩:=OQ (el:=el) S1 hkk kj f g1 g2 g4;rw[II] at I';exact⟨ρ',_,_,fc (fS g3),I',Lm,E1.trans jx⟩
          split at C;rename_i afE;cases C;rw[u];refine grow h ⟨S,.refl d h w⟩ rfl ?_;rcases E.2.1 with h5|⟨h5,h6,h7,_⟩;omega;exfalso;simp only[nv,yY] at afE;rcases afE with M|M;exact h5 (q3.trans (qm M));rw[q3,q2] at h7;rw[h7,lW] at M;cases M
          .rename_i aEH;split at C
           .rename_i Q1;have Q1:=qm Q1;cases C;rw[u];by_cases gP:s<len+n
            exact grow _ (S.less b') rfl gP
            .
             have HD:len+n<=s:=J
             have ab3:r.L8=A.size:=by rw[q3,Q1,u]
             have halt:off+s*r.L8<=r.room:=by rcases E.2.1 with h5|⟨_,_,_,M⟩;omega;exact M
             have Ug:off+G*r.L8=r.len:=by rcases E.2.1 with h5|⟨_,_,M,_⟩;omega;exact M
             have aEC:G*A.size<=(len+n)*A.size:=Gd _ J;rw[ab3] at halt Ug;have ak1:=E.addr (show 0<s by omega);have hmul:(len+n)*A.size<=s*A.size:=Gd _ HD;rw[qB] at hmul;have D:r.base+(off+len*A.size)+0+Y B<=N.size:=by rw[k,<-q4.1];omega
             have fg:=run_storeCells_at (P:=P) r.ch (r.base+(off+len*A.size)) Tx B 0 N w q1 D (λu' hm=>by obtain⟨i,g⟩:=iF hm;have hx:cs[i]?=Z (cs[i]'(by rw[W.length];exact(cR.1 g).1)):=iK _;obtain⟨c,z,hkr⟩:=W.get hx;rw[g] at z;cases z;exact zh hkr.plain.2);have azD:=(uZ (t:=t) (ty:=b) l m (sa:=Z U) (len:=len) (ccap:=s) D' k f Wm).1 HD;have tK:N.toList.take (r.base+(off+len*A.size)+0)++B++N.toList.drop (r.base+(off+len*A.size)+0+Y B)=bg N.toList (r.base+(off+len*A.size)) B:=by simp[bg]
             rw[tK] at fg;have BU:r.base+(off+len*A.size)+Y B<=Y N.toList:=ak D
             have hob:jg F (iC d h.ax ⟨r.ch,r.base+off,(len+n)*A.size,A.size,r.room-off⟩) ⟨r.ch,r.base+off,(len+n)*A.size,A.size,r.room-off⟩
               (.ch ((bU.drop off).take (len*A.size)++cs) b9 A.size 0) (w.setRow r.ch (bg N.toList (r.base+(off+len*A.size)) B).toArray):=by
              refine⟨_,Tx,(0,0),setRow_heap w r.ch N _ Tx _ q1,kj.symm,Q,⟨?_,?_⟩,λ_=>rfl,?_⟩
              rotate_left 1
              intro zB j' u' V L;dsimp only at V L;simp only[oo] at L;have hj2:=V;rw[qB] at hj2;rw[po BU,bM J] at L;exact q4.2 J (off+j') u' J (by simpa [DJ] using L)
              rotate_left 1
              have q4:=q4.1;simp only[L6,DT BU,F3];omega;intro j' u' V;simp only[oo];rw[po BU];by_cases bp:j'<len*A.size;rw[bM J];rw[Jf (by rw[AY];exact bp),F8,bH bp,gD] at V;obtain⟨c,Nj,JD⟩:=q6 _ _ V;exact⟨c,by rw[<-Nj];simp[DJ],JD.mono (rV S.fresh)⟩;rw[Hv (by rw[AY];omega),AY] at V;obtain⟨c,Nj,JD⟩:=W.get V;have hjn:=(cR.1 Nj).1;rw[bH J];refine⟨c,?_,JD.mono (rV S.fresh)⟩;rw[<-Nj];congr 1;omega
             obtain⟨S',E'⟩:=eQ.move S hr ho rfl (im:=⟨r.ch,r.base+off,(len+n)*A.size,A.size,r.room-off⟩) rfl (Oh.row _ _) hob;refine⟨_,_,c6 (Z U) (len+n) s,fc (fS ?_),(CR.slice (zw _ _ _) ⟨fc ?_,ft ⟨by show A.size≠0;omega,HD,by show 0+(len+n)*A.size=(len+n)*A.size;omega,by show 0+s*A.size<=r.room-off;omega⟩,fE _⟩).vr,S',E'⟩;rw[azD];dsimp only;rw[ak1,r_,DJ,fg];rfl;rw[ak1];rfl
           cases C
         rw[bM anw] at C;cases C
       cases C
      cases C
     cases C
   cases C
  cases C
 cases C
end
section
variable{P:b7}{d:dy}{ρ:fP}{h X:aB}{w:c5}{T:tU}{F:Nat}{e:Env}{a:Act}{c v:aa}
def aj1(V:eG P T){t b M el:e7}{i D:TI}(n:T t=Z i)(m:i.u=.slice el)(r:T el=Z D)(S:eQ d ρ h w)(W:ER ρ e a.tmps)(k:d_ F ρ)(u:cZ F x=cd)(o:cZ F y=cd)(j:dh e h (.copy D.size x y)=Z (v,X)):Out d ρ h w v X (((do pure (cp (<-zt #[t,b] M #[a.eval x,a.eval y]))):Sem o0).run P w):=by
 have q:=(V t i n).u;rw[m] at q;have O:=(iS (w:=w) (V _ _ r)).1;have H:=W.eval k u;have G:=W.eval k o;simp only[dh] at j;split at j
 .rename_i b m k g s f L M;rw[L] at H;rw[M] at G;split at j;rename_i A;have A:=qm A;cases j;have⟨r,E,N,_⟩:=H.u9;have⟨k,u,I,_⟩:=G.u9;rw[N,I];refine Out.same S (fS ?_) (VR.int _ _);cases r<;>cases k<;>simp[zt,tI q,qu,A,O,cc,loadCells,loadCellsFrom,storeCells,goInt]
  .rename_i A;split at j
   .rename_i c z c r;split at j
    .rename_i b c;split at j
     .rename_i o l;cases j;have⟨M,n,E,r,k,b⟩:=H.fp;have⟨f,C,u,g,E,M⟩:=G.fp;have⟨o,B,n,z⟩:=GC S g c;have⟨w',f,c,p⟩:=CT (P:=P) S r l n;have l:wA s m≠0:=by intro h;rw[h] at A;exact A rfl
      have U:wA s m<=s/\wA s m<=m:=⟨Nat.min_le_left _ _,Nat.min_le_right _ _⟩;have g:=b.2.2;have A:=M.2.2;have l:=b.Ex;have r:=M.Ex;rw[k,E];have N:=b.addr J;have I:=M.addr J;have A:=x0 (P:=P) w D.size (wA s m) C s u B (by rw[<-n.length,o]) (by rw[I];exact z);refine⟨ρ,w',dC ef (wA s m),fc (fS ?_),VR.int _ _,c,p⟩;rw[<-N] at f;have p:(cc D.size (min s m) (c6 (Z C) s u)).run P w=.ok B.toArray w:=A;simp[zt,tI q,qu,O,p,f,goInt]
     cases j
    cases j
   cases j
 cases j
def agS(b:eG P T){t D el:e7}{i s:TI}(u:T t=Z i)(m:i.u=.slice el)(y:T el=Z s)(S:eQ d ρ h w)(A:ER ρ e a.tmps)(f:d_ F ρ)(l:cZ F x=cd)(j:dh e h (.clear s.zero x)=Z (v,X)):Out d ρ h w v X (((do pure (cp (<-sH #[t] D #[a.eval x]))):Sem o0).run P w):=by
 have H:=(b t i u).u;rw[m] at H;have U:=b _ _ y;have G:=A.eval f l;simp only[dh] at j;split at j
 .rename_i g n o A;rw[A] at G;split at j;rename_i u;have u:=qm u;subst u;cases j;have⟨g,C,N,_⟩:=G.u9;rw[N];refine Out.same S (c:=undef) (fS ?_) VR.undef;cases g<;>simp[sH,tI H,undef]
  .rename_i u;split at j
   .rename_i b off;split at j
    .rename_i M c;cases j;have⟨l,M,C,m,E,I⟩:=G.fp;have b:n≠0:=by intro h;subst h;exact u rfl
     have A:=I.2.2;have q:=I.Ex;have N:=I.addr J;obtain⟨b,p,k,b,z,o,V⟩:=U.info;have O:(na el).run P w=.ok z w:=by simp[na,nw,p,o]
     have f:=fL (ρ:=ρ) (j5 U.zero n);have⟨w',W,B,p⟩:=CT (P:=P) S m c f;rw[E];refine⟨ρ,w',undef,fc (fS ?_),VR.undef,B,p⟩;rw[<-N] at W;have f:(fo z.cells n).toList=jG s.zero n:=by
      by_cases E:0<Y s.zero
      .rw[CO (fc E)];have:z.cells=⟨s.zero⟩:=by apply cL;simpa using V
       simp[fo,this]
      .have A:s.zero=[]:=F7 J;have:z.cells=⟨[]⟩:=by apply cL;rw[V,A]
       rw[A];have u:jG [] n=[]:=F7 (by rw[tv];simp);rw[u];simp[fo,this]
     have y:(sH #[t] D #[c6 (Z M) n C]).run P w=.ok undef w':=by unfold sH;simp only[uy];simp[tI H,O,f,W,undef]
     exact y
    cases j
   cases j
 cases j
def UQ(H:eG P T)(S:eQ d ρ h w)(D:ER ρ e a.tmps)(E:d_ F ρ)(o:ed)(A:o.op.operands.toList.all (cZ F)=cd)(u:dh e h (dT T o.op)=Z (v,X)):Out d ρ h w v X ((execOp a.eval o).run P w):=by
 have⟨B,op,r,pos,L,gd⟩:=o;dsimp only at A u;cases op with
 |move x=>
  simp only[dT,dh,oN,CB] at u;obtain⟨rfl,rfl⟩:=u;exact Out.same S rfl (D.eval E (by simpa [Op.operands] using A))
 |assign x=>
  simp only[dT,dh,oN,CB] at u;obtain⟨rfl,rfl⟩:=u;exact Out.same S rfl (D.eval E (by simpa [Op.operands] using A))
 |pick x y z=>
  simp[Op.operands] at A;exact aj3 S D E A.1 A.2.1 A.2.2 u
 |alloc t=>
  simp only[dT] at u;split at u;rename_i i g;simp only[dh,oN,CB] at u;obtain⟨rfl,rfl⟩:=u;exact agR S (H t i g);simp[dh] at u
 |box t x=>
  simp[Op.operands] at A;simp only[dT] at u;split at u;simp only[dh] at u;split at u;rename_i vs j;cases u;exact aok S (D.eval E A) j;cases u;simp[dh] at u
 |build t ps=>
  have N:(ps.toList.map (·.2)).all (cZ F)=cd:=by simpa [Op.operands] using A
  simp only[dT] at u;split at u
  .rename_i i g;split at u
   .rename_i fs C;cases k:fs.toList.all λf=>(T f.type).isSome with
    |false=>simp[k,dh] at u
    |true=>
     simp only[k,mi] at u;split at u;rename_i b b;exact Jo H g C k b S D E N u;simp[dh] at u
   rename_i n el C;split at u;rename_i O I;exact LW H g C I S D E N u;simp[dh] at u;simp[dh] at u
  simp[dh] at u
 |buildSlice t n ps=>
  have N:(ps.toList.map (·.2)).all (cZ F)=cd:=by simpa [Op.operands] using A
  simp only[dT] at u;split at u;rename_i i g;split at u;rename_i el C;split at u;rename_i O I;cases k:nK (n*O.size) 1000000&&ar (Y O.zero) O.size;simp[k,dh] at u;simp only[k,mi] at u;simp only[pU] at k;exact acU H g C I (ON k.1) S D E N u;simp[dh] at u;simp[dh] at u;simp[dh] at u
 |load t x=>
  simp[Op.operands] at A;simp only[dT] at u;split at u;rename_i i g;exact agU H g S D E A u;simp[dh] at u
 |store t x y=>
  simp[Op.operands] at A;simp only[dT] at u;split at u;rename_i i g;exact acW H g S D E A.1 A.2 u;simp[dh] at u
 |nilCheck x=>
  simp[Op.operands] at A;exact acV S D E A u
 |binOp b t x y q=>
  simp[Op.operands] at A;by_cases M:b=.eql\/b=.neq
  .have m:∃ks i,dT T (.binOp b t x y q)=.bin b ks x y/\T t=Z i/\JX T t i.u ks:=by
    have p:dT T (.binOp b t x y q)=(match T t with
      |some i=>match i.u with
       |.slice _=>.bin b [3] x y
       |.pointer _=>.bin b [4] x y
       |.map _ _=>.bin b [5] x y
       |.func _ _ _=>.bin b [6] x y
       |.struct _=>match kinds T 9 t with|some ks=>.bin b (9::ks) x y|none=>.bad
       |.array _ _=>match kinds T 9 t with|some ks=>.bin b (9::ks) x y|none=>.bad
       |.bool=>.bin b [0] x y
       |.int _=>.bin b [1] x y
       |.string=>.bin b [2] x y
       |_=>.bad
      |none=>.bad):=by
     rcases M with rfl|rfl<;>rfl
    rw[p] at u⊢;split at u;rename_i i g;simp only[g];split at u;rename_i C;exact⟨[3],i,Q,Q,fc ⟨_,C,Q⟩⟩;rename_i C;exact⟨[4],i,Q,Q,ft (fc ⟨_,C,Q⟩)⟩;rename_i C;exact⟨[5],i,Q,Q,ft (ft (fc ⟨_,_,C,Q⟩))⟩;rename_i C;exact⟨[6],i,Q,Q,ft (ft (ft (fc ⟨_,_,_,C,Q⟩)))⟩;rename_i C;split at u;rename_i ks p;exact⟨9::ks,i,Q,Q,ft (ft (ft (ft (fc ⟨(),_,by rw[C];rfl,p,Q⟩))))⟩;simp[dh] at u;rename_i C;split at u;rename_i ks p;exact⟨9::ks,i,Q,Q,ft (ft (ft (ft (fc ⟨(),_,by rw[C];rfl,p,Q⟩))))⟩;simp[dh] at u;rename_i C;exact⟨[0],i,Q,Q,ft (ft (ft (ft (ft (fc ⟨C,Q⟩)))))⟩;rename_i C;exact⟨[1],i,Q,Q,ft (ft (ft (ft (ft (ft (fc ⟨_,C,Q⟩))))))⟩;rename_i C;exact⟨[2],i,Q,Q,ft (ft (ft (ft (ft (ft (ft ⟨C,Q⟩))))))⟩;simp[dh] at u;simp[dh] at u
   have⟨ks,i,m,mJ,p⟩:=m;rw[m] at u;exact acT H S D E A.1 A.2 M mJ p u
  .have m:dT T (.binOp b t x y q)=.bin b [] x y:=by cases b<;>first|rfl|(exact absurd (.inl Q) M)|(exact absurd (ft Q) M)
   rw[m] at u;exact YI S D E A.1 A.2 ⟨λh=>M (fc h),λh=>M (ft h)⟩ u
 |unOp M t x=>
  simp[Op.operands] at A;exact aun S D E A u
 |convert M M x=>
  simp[Op.operands] at A;simp only[dT] at u;split at u;rename_i i M g b;split at u;rename_i M m;exact aj0 H g b M m S D E A u;simp[dh] at u;simp[dh] at u
 |makeFunc fn first m=>
  cases fn with
  |func f=>
   simp only[dT] at u;cases j:first.isEmpty;simp[j,dh] at u;simp only[j,mi] at u;have N:m.toList.all (cZ F)=cd:=by
    have m:first= #[]:=ak j
    subst m;simpa [Op.operands] using A
   exact aj2 S D E j N u
  |_=>simp[dT,dh] at u
 |makeSlice t l c=>
  simp[Op.operands] at A;simp only[dT] at u;split at u;rename_i i g;split at u;rename_i el C;split at u;rename_i O I;exact YJ H g C I S D E A.1 A.2 u;simp[dh] at u;simp[dh] at u;simp[dh] at u
 |slice t x V g s=>
  simp only[dT] at u;split at u
  .rename_i i m;split at u
   .rename_i el C;split at u
    .rename_i O I;cases k:s.isSome&&g.isNone
     .simp only[k,z6] at u;have G:cZ F x=cd/\V.toList.all (cZ F)=cd/\g.toList.all (cZ F)=cd/\s.toList.all (cZ F)=cd:=by simp[Op.operands] at A;refine⟨A.1,?_⟩;cases V<;>cases g<;>cases s<;>simp_all
      exact agV H m C I k S D E G.1 G.2.1 G.2.2.1 G.2.2.2 u
     simp[k,dh] at u
    simp[dh] at u
   simp[dh] at u
  simp[dh] at u
 |fieldAddr t x M=>
  simp[Op.operands] at A;simp only[dT] at u;split at u;rename_i i g;split at u;rename_i fs C;split at u;rename_i f j;split at u;rename_i N b;cases k:ar N.size 0;simp only[k,z6] at u;exact agT H g C j b (by intro h;rw[h] at k;cases k) S D E A u;simp[k,dh] at u;simp[dh] at u;simp[dh] at u;simp[dh] at u;simp[dh] at u
 |indexAddr t x y=>
  simp[Op.operands] at A;simp only[dT] at u;split at u;rename_i i g;split at u;rename_i el C;split at u;rename_i O I;exact LY H g C I S D E A.1 A.2 u;simp[dh] at u;rename_i n el C;split at u;rename_i O I;exact LX H g C I S D E A.1 A.2 u;simp[dh] at u;simp[dh] at u;simp[dh] at u
 |index t x y=>
  simp[Op.operands] at A;simp only[dT] at u;split at u;rename_i i g;split at u;rename_i C;exact Ru H g C S D E A.1 A.2 u;rename_i n el C;split at u;rename_i O I;exact Rs H g C I S D E A.1 A.2 u;simp[dh] at u;simp[dh] at u;simp[dh] at u
 |extract x i=>
  simp[Op.operands] at A;exact aom S D E A u
 |call c=>
  have⟨q,args,b⟩:=c;have N:∀k,q=.builtin k->∃j,((execOp a.eval { dst:=B,op:=.call { callee:=q,args:=args,argTypes:=b },type:=r,pos:=pos,after:=L,guard:=gd }).run P w)=(builtin k b r j (args.map a.eval)).run P w:=by rintro k rfl;exact⟨_,Q⟩
  have k:∀ {l:List aU},args.toList=l->args.map a.eval=(l.map a.eval).toArray:=by intro l p;apply cL;simp[<-p]
  have U:∀ {l:List e7},b.toList=l->b=l.toArray:=by intro l p;apply cL;simp[<-p]
  have G:args.toList.all (cZ F)=cd:=by cases q<;>simp[Op.operands,Call.operands] at A<;>simp<;>first|exact A|exact A.2
  simp only[dT,Ct] at u;split at u;simp[dh] at u
  .
   have⟨j,b⟩:=N _ rfl;rw[b];split at u;rename_i x t A W;rw[k A,U W];rw[A] at G;simp at G;split at u;rename_i i g;split at u;rename_i el C;exact aon H g C S D E G u;rename_i C;exact aj4 H g C S D E G u;simp[dh] at u;simp[dh] at u;simp[dh] at u
  .
   have⟨j,b⟩:=N _ rfl;rw[b];split at u;rename_i x y t q A W;rw[k A,U W];rw[A] at G;simp at G;split at u;rename_i i p g m;split at u;rename_i el C;split at u;rename_i O I;split at u;rename_i M p;exact Pp H g C I m (by simpa using⟨M,p⟩) S D E G.1 G.2 u;rename_i M p;exact Pp H g C I m (by simpa using⟨M,p⟩) S D E G.1 G.2 u;simp[dh] at u;simp[dh] at u;simp[dh] at u;simp[dh] at u;simp[dh] at u
  .
   have⟨j,b⟩:=N _ rfl;rw[b];split at u;rename_i x y t q A W;rw[k A,U W];rw[A] at G;simp at G;split at u;rename_i i g;split at u;rename_i el C;split at u;rename_i O I;exact aj1 H g C I S D E G.1 G.2 u;simp[dh] at u;simp[dh] at u;simp[dh] at u;simp[dh] at u
  .
   have⟨j,b⟩:=N _ rfl;rw[b];split at u;rename_i x t A W;rw[k A,U W];rw[A] at G;simp at G;split at u;rename_i i g;split at u;rename_i el C;split at u;rename_i O I;exact agS H g C I S D E G u;simp[dh] at u;simp[dh] at u;simp[dh] at u;simp[dh] at u
  .
   have⟨j,b⟩:=N _ rfl;rw[b];split at u;rename_i x t A W;rw[k A,U W];rw[A] at G;simp at G;split at u;rename_i i g;split at u;rename_i el C;exact aol H g C S D E G u;simp[dh] at u;simp[dh] at u;simp[dh] at u
  simp[dh] at u
 |_=>simp[dT,dh] at u
end
section
variable{P:b7}{b:gr}{a:Act}{k:List B1}{c:gr}{cs:List gr}{w:c5}
def auK(j:b.roundOf=K):step P (lone (on b a (.code .ret::k)) cs w)=.next (lone {on b a (.code .ret::k) with mode:=.returning} cs w):=
 bG (by simp[cf,stepG.exec,on,j])
def auJ(j:b.roundOf=K):step P (lone (on b a []) cs w)=.next (lone {on b a [] with mode:=.returning} cs w):=
 bG (by simp[cf,stepG.exec,on,j])
def QO{x:Option (List w5)}(j:w.heap[r]?=Z (.deferred x)):(getObj r).run P w=.ok (.deferred x) w:=by simp only[getObj,zg,j]
def Sc{x:Option (List w5)}(o:Obj)(j:w.heap[r]?=Z (.deferred x)):(setObj r o).run P w=.ok () {w with heap:=w.heap.setIfInBounds r o} :=by simp only[setObj,zg,j]
def aff(j:w.heap[r]?=Z (.loop L)):(getObj r).run P w=.ok (.loop L) w:=by simp only[getObj,zg,j]
def MK(o:Obj)(j:w.heap[r]?=Z (.loop L)):(setObj r o).run P w=.ok () {w with heap:=w.heap.setIfInBounds r o} :=by simp only[setObj,zg,j]
def xC(j:w.heap[r]?=Z (.loop L)):(V3 r).run P w=.ok L w:=by simp only[V3,uy,aff j,tH,zA]
def Vo{j:gr}{ds:List w5}(A:j.mode=.returning)(u:j.defers= { target:=.collected r,args:= #[] } ::ds)(s:w.heap[r]?=Z (.deferred (Z []))):step P (lone j cs w)=.next (lone {j with defers:=ds} cs {w with heap:=w.heap.setIfInBounds r (.deferred K)}):=by
 refine bG ?_;have C:(IC r).run P w=.ok [] {w with heap:=w.heap.setIfInBounds r (.deferred K)} :=by simp only[IC,uy,QO s,Sc _ s,tH,zA]
 simp[cf,A,unwind,u,C]
def RX(A:b.roundOf=Z l)(j:w.heap[l]?=Z (.loop L))(s:L.state=.ready):step P (lone (on b a (.beginRound::k)) cs w)=.next (lone (on b a k) cs { w with heap:=w.heap.setIfInBounds l (.loop {L with state:=.busy}) }):=by
 refine bG ?_;have u:(NX l).run P w=.ok () { w with heap:=w.heap.setIfInBounds l (.loop {L with state:=.busy}) } :=by simp only[NX,uy,xC j,MK _ j,tH,s,zA]
 simp[cf,stepG.exec,stepG.apply,on,A,u,XA]
def zX(j:Option B5)(s:w.heap[l]?=Z (.loop L)):(S5 l j).run P w=.ok (dd j.isNone) { w with heap:=w.heap.setIfInBounds l (.loop {L with state:=if j.isNone then .ready else .done,pending:=j}) } :=by
 simp only[S5,uy,xC s,MK _ s,tH,zA]
def Vp(A:b.roundOf=Z l)(s:b.kind=.normal)(u:w.heap[l]?=Z (.loop L)):step P (lone (on b a []) (c::cs) w)=.next (lone (c.finish (dd cd)) cs { w with heap:=w.heap.setIfInBounds l (.loop {L with state:=.ready,pending:=K}) }):=by
 refine bG ?_;have j:=zX (P:=P) K u;simp[cf,stepG.exec,on,A,j,doReturn,s]
def Vq(A:b.roundOf=Z l)(s:b.kind=.normal)(u:w.heap[l]?=Z (.loop L)):step P (lone (on b a (.code .ret::k)) (c::cs) w)=.next (lone (c.finish (dd b9)) cs { w with heap:=w.heap.setIfInBounds l (.loop {L with state:=.done,pending:=Z .ret}) }):=by
 refine bG ?_;have j:=zX (P:=P) (Z .ret) u;simp[cf,stepG.exec,on,A,j,doReturn,s]
def RZ{l id:Nat}(A:b.roundOf=Z l)(j:b.kind=.normal)(u:w.heap[l]?=Z (.loop L))(s:exitTo id k=K):step P (lone (on b a (.code (.exit id)::k)) (c::cs) w)=.next (lone (c.finish (dd b9)) cs { w with heap:=w.heap.setIfInBounds l (.loop {L with state:=.done,pending:=Z (.exit id)}) }):=by
 refine bG ?_;have C:=zX (P:=P) (Z (.exit id)) u;simp[cf,stepG.exec,on,A,C,doReturn,j,s]
def auL{ps:Array Tmp}{asg body:B5}{g:N3}{w':c5}(s:b.roundOf=K)(C:(do let d<-resolve a.eval { callee:=.value f,args:= #[.const (.func (.yield (w.heap.size+1)) #[] #[])],argTypes:= #[] } 0;invoke d.target d.args).run P
   { w with heap:=(w.heap.push (.deferred (Z []))).push (.loop { state:=.ready,pending:=K,fn:=b.fn,tmps:=a.tmps,params:=ps,assign:=asg,body:=body,defers:=w.heap.size }) } =.ok (.enter g args) w'):
  step P (lone (on b a (.code (.rangeFunc f ps asg body)::k)) cs w)=
   .next (lone (pe P g args .normal) (on b { a with defers:= { target:=.collected w.heap.size,args:= #[] } ::a.defers } (.inRangeFunc (w.heap.size+1)::k)::cs) w'):=by
 refine bG ?_;have A:(Rq b.fn a.tmps ps asg body K).run P w=.ok (w.heap.size+1,[{ target:=.collected w.heap.size,args:= #[] }])
   { w with heap:=(w.heap.push (.deferred (Z []))).push (.loop { state:=.ready,pending:=K,fn:=b.fn,tmps:=a.tmps,params:=ps,assign:=asg,body:=body,defers:=w.heap.size }) } :=by
  simp only[Rq,uy,run_newObj,tH,zA,zo]
 have j:∀(t:List B1)(u:List w5),({ fn:=b.fn,tmps:=a.tmps,todo:=t,defers:=u,mode:=.run,kind:=b.kind,roundOf:=b.roundOf } :gr).eval=a.eval:=by intro t u;funext x;cases x<;>rfl
 rw[s] at j;simp only[cf,stepG.exec,on,s,Sem.runT_eq,A,GStep.bare_after];simp only[zb,List.nil_append,j];simp[stepG.apply,C]
def ahq(j:w.heap[l]?=Z (.loop L))(s:(L.state==.busy)=b9):step P (lone (on b a (.endRangeFunc l::k)) cs w)=.next (lone (on b a ((L.pending.map Item.code).toList++k)) cs { w with heap:=w.heap.setIfInBounds l (.loop {L with state:=.exhausted}) }):=by
 refine bG ?_;have u:(V6 l).run P w=.ok L.pending { w with heap:=w.heap.setIfInBounds l (.loop {L with state:=.exhausted}) } :=by simp only[V6,uy,xC j,tH,s,Jl,if_false,MK _ j,zA]
 simp[cf,stepG.exec,on,u]
def Ti{ρ:aU->aa}{args:Array aU}{ats:Array e7}{ty:e7}{g:N3}{first a:Array aa}(s:ρ f=.func (.func g) first a)(u:P.funcs[g]?=Z fn)(j:fn.body.isSome=cd)(D:(fn.name== "runtime.NumGoroutine")=b9):(do let d<-resolve ρ { callee:=.value f,args:=args,argTypes:=ats } ty;invoke d.target d.args).run P w=.ok (.enter g (first++args.map ρ++a)) w:=by
 have A:¬(fn.body=K):=by intro h;rw[h] at j;cases j
 have C:¬(fn.name= "runtime.NumGoroutine"):=ak D
 simp[resolve,s,F2,invoke,callFunc,u,C,A]
def adS{b:aU->aa}{args:Array aU}{ats:Array e7}{ty:e7}(s:b f=.func (.yield l) #[] #[])(u:w.heap[l]?=Z (.loop L))(j:args.size=L.params.size):(do let d<-resolve b { callee:=.value f,args:=args,argTypes:=ats } ty;invoke d.target d.args).run P w=
   .ok (.round l L.fn ((L.params.zip (args.map b)).foldl (λz (t,a)=>z.setIfInBounds t a) L.tmps) L.assign L.body) w:=by
 simp[resolve,s,F2,invoke,Instr.yield,xC u,j]
end
abbrev vd:=Nat->List ed->List (cn×List Nat)
def Ey(T:tU):aaw->Option I7
 |.tmp t=>Z (.tmp t)
 |.cell a t=>match T t with
  |some i=>Z (.cell a (Fs i))
  |none=>K
section
variable(P:b7)(T:tU)(b:Nat)(d:vd)(F:Nat->Option cY)
def iD:dy:=λk j c=>∃n,n<=k/\j=dD T b n d c/\kC c=cd
def alN(f:Nat)(args:List aa)(h:aB)(v:aa)(e:aB):Prop:=
 ∀(s:List aa)(a:fP)(w:c5),eQ (iD T b d) a h w->d_ b a->bQ (VR a) args s->∀g:List gr,∃fn c w' i j,P.funcs[f]?=Z fn/\fn.body.isSome=cd/\(fn.name== "runtime.NumGoroutine")=b9/\Steps P (lone (pe P f ⟨s⟩ .normal) g w) (lone j g w')/\j.fn=f/\j.leaving P w' (.returned i)/\VR c v i/\eQ (iD T b d) c e w'/\Ext a h w c e w'
def Hc(f:Nat)(p:List aa->aB->Option (aa×aB)):Prop:=∀args h v a,p args h=Z (v,a)->alN P T b d f args h v a
def ZS(f:Nat):Prop:=∃fn t el i j,P.funcs[f]?=Z fn/\fn.body.isNone=cd/\(fn.name== "runtime.NumGoroutine")=b9/\Extern.findNext fn=K/\Extern.find fn=Z (wx fn.params fn.resultTypes)/\fn.params[0]?=Z t/\T t=Z i/\i.u=.slice el/\T el=Z j
def Ha:Prop:=∀f j,F f=Z j->match j.Ap with
 |.no=>∃fn c,P.funcs[f]?=Z fn/\fn.body=Z c/\(fn.name== "runtime.NumGoroutine")=b9/\bQ (λr s=>Ey T r=Z s) fn.results.toList j.res/\j.body=dD T b fn.ntmps d c
 |.run p _=>Hc P T b d f p
 |.Rx=>ZS P T f
end
def SI(a:fP)(h:aB)(k:Nat):Prop:=∀x r o,a x=Z r->h.tr.get x=Z o->r.ch≠k
def mark(r:Nat):w5:= { target:=.collected r,args:= #[] }
def Fl(B:Nat)(a:fP)(h:aB)(w:c5)(b:List w5):Prop:=
 ∃S:List Nat,b=S.map mark/\S.Nodup/\∀r∈S,B<=r/\w.heap[r]?=Z (.deferred (Z []))/\SI a h r
def SI.ext{b c:fP}{h a:aB}{k:Nat}(s:SI b h k)(E:Ext b h w c a w')(I:k<w.heap.size):SI c a k:=by intro x r o H u e;rcases E.live x r o H u with j|⟨b,D,A,j,C,G⟩;omega;exact s b D A j C (G.trans e)
def Fl.ext{B:Nat}{a b:fP}{h u:aB}{w w':c5}{j:List w5}(A:Fl B a h w j)(E:Ext a h w b u w'):Fl B b u w' j:=by have⟨S,I,D,u⟩:=A;refine⟨S,I,D,λr H=>?_⟩;have⟨G,s,j⟩:=u r H;have u:=Kd s;refine⟨G,?_,j.ext E u⟩;rw[E.yZ r u,s];rintro x u M⟨o,C,_⟩;exact j x u o M C
def Ns(P:b7)(b:gr)(k:List B1)(c:List gr)(m:Machine):bJ->Act->c5->Prop
 |.normal,a,w=>Steps P m (lone (on b a k) c w)
 |.exit id,a,w=>∃j,Steps P m (lone (on b a (.code (.exit id)::j)) c w)/\exitTo id j=exitTo id k
 |.ret,a,w=>∃j,Steps P m (lone (on b a (.code .ret::j)) c w)
def Ns.of_steps{P:b7}{b:gr}{k:List B1}{j:List gr}{m u:Machine}{x:bJ}(h:Steps P m u)(g:Ns P b k j u x a w):Ns P b k j m x a w:=by
 cases x with
 |normal=>exact Steps.trans h g
 |exit id=>have⟨s,j,A⟩:=g;exact⟨s,h.trans j,A⟩
 |ret=>have⟨s,j⟩:=g;exact⟨s,h.trans j⟩
section
variable{P:b7}{T:tU}{d:Nat}{u:vd}{F:Nat->Option cY}{A:aG->Env->aB->R}
structure Dv(CC:dy)(B:Nat)(ρ:fP)(h:aB)(w:c5)(a:Act)(ρ':fP)(e':Env)(h':aB)(w':c5)(a':Act):Prop where
 Wt:eQ CC ρ' h' w'
 er:ER ρ' e' a'.tmps
 size:a'.tmps.size=a.tmps.size
 ext:Ext ρ h w ρ' h' w'
 defs:Fl B ρ' h' w' a'.defers
def yI(P:b7)(T:tU)(d:Nat)(u:vd)(A:aG->Env->aB->R):Prop:=
 ∀(n:Nat)(e:B5)(j:Env)(h:aB)(x:bJ)(s:Env)(f:aB),A (dD T d n u e) j h=Z (x,s,f)->∀(B:Nat)(b:fP)(w:c5)(a:Act)(c:gr)(k:List B1)(g:List gr),eQ (iD T d u) b h w->d_ d b->ER b j a.tmps->n<=a.tmps.size->B<=w.heap.size->Fl B b h w a.defers->(c.roundOf=K\/kC e=cd)->∃i w' j,Ns P c k g (lone (on c a (.code e::k)) g w) x j w'/\Dv (iD T d u) B b h w a i s f w' j
def ER.put{b:fP}{e:Env}{a:Act}(s:ER b e a.tmps){dst:Option Nat}{v c:aa}(u:∀d,dst=Z d->d<a.tmps.size)(A:VR b v c):ER b (gG e dst v) (a.put dst c).tmps:=by
 rcases dst with _|d;exact s
 .intro t;have D:=u d rfl;simp only[gG,Ry,Env.bS];by_cases j:t=d
  subst j;simp[Array.getD,D,A]
  .rw[bM j];have:=s t;have C:(a.tmps.setIfInBounds d c).getD t undef=a.tmps.getD t undef:=by simp[bV,Array.getElem?_setIfInBounds,a7 j]
   rw[C];exact this
def zk(a:Act)(b:Option Nat)(c:aa):(a.put b c).tmps.size=a.tmps.size:=by cases b<;>simp[Ry]
def put_defers(a:Act)(b:Option Nat)(c:aa):(a.put b c).defers=a.defers:=by cases b<;>rfl
def VR.of_bool{a:fP}{b:Bool}(h:VR a v (dd b)):v=dd b:=by
 cases h with
 |val h=>cases h with
  |cell h=>cases h with
   |cell h=>cases h;rfl
def Nb{j:fP}{e:Env}(I:ER j e a.tmps){g:Option (Nat×Bool)}(N:(o.guard=K/\g=K)\/∃j b t,o.guard=Z (j,b)/\H7 ops.toList j=Z t/\g=Z (t,b)):cI o (yielded ops a.tmps)=wanted e g:=by
 rcases N with⟨G,rfl⟩|⟨j,b,t,G,D,rfl⟩;simp[cI,G,wanted]
 .simp only[cI,G,wanted];have b:yielded ops a.tmps j=match a.tmps[t]? with|some (dd c)=>Z c|_=>K:=by
   unfold H7 at D;split at D
   .rename_i O M;have E:ops[j]?=Z O:=ak M
    simp only[yielded,E,w7,D];rfl
   cases D
  have s:=I t;rw[bV] at s;rw[b];rcases H:a.tmps[t]? with _|u
  .rw[H] at s;simp only[Option.getD_none] at s;have D:bX e t=.tuple #[]:=by
    cases C:bX e t with
    |tuple l=>
     rw[C] at s;have⟨m,A,h⟩:=s.PK;have:m=[]:=by unfold undef at A;injection A with A;injection A with A;exact A.symm
     subst this;have⟨l⟩:=l;cases h;rfl
    |_=>rw[C] at s;unfold undef at s;cases s with
     |val h=>cases h with
      |cell h=>exact absurd h.plain.2 (by simp[AI.plain])
   rw[D];simp
  .rw[H] at s;simp only[da] at s;cases u with
   |bool c=>
    rw[VR.of_bool s];simp
   |_=>
    cases C:bX e t with
    |bool c=>rw[C] at s;have:=s.pP;cases this
    |_=>simp
def Me:∀(l:List aa)(e:Env)(i t:Nat),bX (params e i l) t=if i<=t then(match l[t-i]? with|some v=>v|none=>bX e t) else bX e t
 |[],e,i,t=>by simp[params]
 |v::l,e,i,t=>by rw[params,Me l _ (i+1) t];by_cases j:i+1<=t;rw[bH j,bH J,show t-i=(t-(i+1))+1 by omega,List.getElem?_cons_succ];split;rfl;rw[Env.bS,bM J];rw[bM j,Env.bS];by_cases s:t=i;subst s;simp;rw[bM s,bM J]
def acZ{a:fP}{args j:List aa}(h:bQ (VR a) args j)(m:Nat):ER a (params .nil 0 args) ((⟨j⟩:Array aa)++RC m undef):=by
 intro t;rw[Me];simp only[kp,if_true,Nat.sub_zero];rw[bV];rcases s:args[t]? with _|v
 .have C:Y args<=t:=List.getElem?_eq_none_iff.1 s;have G:=h.length;have:((⟨j⟩:Array aa)++RC m undef)[t]?.getD undef=undef:=by by_cases H:t<Y j+m;rw[Array.getElem?_append_right (by simp;omega)];simp;by_cases A:t-Y j<m;simp[A];simp[A];rw[Array.getElem?_eq_none (by simp;omega)];rfl
  rw[this];exact VR.undef
 have⟨c,u,D⟩:=h.get s;have E:=(cR.1 u).1;rw[Array.getElem?_append_left (ak E)];have:(⟨j⟩:Array aa)[t]?=Z c:=by rw[<-u];simp
 rw[this];exact D
def Sb{b:fP} :∀(ps:List Nat)(args j:List aa)(e a:Env)(z:Array aa),bQ (VR b) args j->fW e ps args=Z a->ER b e z->(∀t∈ps,t<z.size)->ER b a ((ps.zip j).foldl (λ(z:Array aa) (x:Nat×aa)=>z.setIfInBounds x.1 x.2) z)/\((ps.zip j).foldl (λ(z:Array aa) (x:Nat×aa)=>z.setIfInBounds x.1 x.2) z).size=z.size/\Y ps=Y args:=by
 intro ps;induction ps with
 |nil=>
  intro args j e a z D s C _;cases D with
  |nil=>simp only[fW,oN] at s;subst s;exact⟨C,Q,Q⟩
  |cons=>simp[fW] at s
 |cons t ps E=>
  intro args j e a z D s C G;cases D with
  |nil=>simp[fW] at s
  | @cons v c args j I e=>
   simp only[fW] at s;have A:=ER.put (a:=⟨z,[]⟩) (dst:=Z t) C (λd H=>by cases H;exact G t ag) I;simp only[gG,Ry] at A;have⟨M,D,O⟩:=E args j _ a (z.setIfInBounds t c) e s A (λu N=>ak (G u (av N)));exact⟨M,ak D,av O⟩
def akf(z:Array aa):aaw->Sem aa
 |.tmp t=>pure (z.getD t undef)
 |.cell a t=>do loadVar t (<-asAddr (z.getD a undef))
def YZ(fn:Func)(z:Array aa):Q4 fn z=(do
  let vs<-fn.results.mapM (akf z)
  pure (if h:vs.size=1 then vs[0] else .tuple vs)):=by
 unfold Q4;congr 1
def U6{a:dy}{c:fP}{e:Env}{h:aB}(b:eG P T)(f:eQ a c h w)(U:ER c e z):∀(S:List aaw)(u:List I7)(vs:List aa),bQ (λr O=>Ey T r=Z O) S u->results e h u=Z vs->∃a:List aa,bQ (VR c) vs a/\∀r c,(r,c)∈S.zip a->(akf z r).run P w=.ok c w:=by
 intro S;induction S with
 |nil=>
  intro u vs N j;cases N;simp only[results,oN] at j;subst j;exact⟨[],.nil,λr c h=>by simp at h⟩
 |cons r S C=>
  intro u vs N j;cases N with
  | @cons _ O _ u A h=>
  cases r with
  |tmp t=>
   simp only[Ey,oN] at A;subst A;simp only[results] at j;split at j;rename_i l N;cases j;have⟨a,H,M⟩:=C u l h N;refine⟨_::a,.cons (U t) H,?_⟩;intro r c s;simp only[JL,bd,CB] at s;rcases s with⟨rfl,rfl⟩|s;rfl;exact M r c s;cases j
  |cell e t=>
   simp only[Ey] at A;split at A
   .rename_i i g;cases A;simp only[results] at j;split at j
    .rename_i D off G;split at j
     .rename_i D D;split at j
      .rename_i v d;split at j
       .rename_i l N;cases j;have⟨a,H,M⟩:=C u l h N;have V:=U e;rw[G] at V;obtain⟨e,e,N⟩:=V.Gx;have⟨c,E,I⟩:=aaN (P:=P) f (b t i g) e D d;refine⟨c::a,.cons I H,?_⟩;intro r W s;simp only[JL,bd,CB] at s;rcases s with⟨rfl,rfl⟩|s
        simp only[akf,uy,N,asAddr,zA,tH,E];exact M r W s
       cases j
      cases j
     cases j
    cases j
   cases A
def agp(f:G->Sem H):∀(l:List G)(m:List H)(w:c5),Y l=Y m->(∀x y,(x,y)∈l.zip m->(f x).run P w=.ok y w)->∀j:Array H,(l.foldlM (λE x=>E.push <$> f x) j).run P w=.ok (j++m.toArray) w:=by
 intro l;induction l with
 |nil=>intro m w s _ j;cases m with
  |nil=>simp
  |cons=>simp at s
 |cons x l C=>
  intro m w s D j;rcases m with _|⟨y,m⟩;simp at s;simp only[QS,uy,FE,D x y ag,tH];rw[C m w (ak s) (λu v A=>D u v (av A))];congr 1;apply cL;simp
def U7{M:dy}{b:fP}{e:Env}{h:aB}(I:eG P T)(S:eQ M b h w)(M:ER b e z){j:List I7}(G:bQ (λr H=>Ey T r=Z H) fn.results.toList j)(E:results e h j=Z vs)(U:gI vs=cd):∃c,(Q4 fn z).run P w=.ok c w/\VR b (result vs) c:=by
 have⟨a,D,d⟩:=U6 I S M _ _ _ G E;have N:Y fn.results.toList=Y a:=by
  have M:=G.length;have M:=D.length;have M:∀(j:List I7)(vs:List aa),results e h j=Z vs->Y vs=Y j:=by
   intro j;induction j with
   |nil=>intro vs h;simp only[results,oN] at h;subst h;rfl
   |cons r j u=>
    intro vs h;cases r with
    |tmp t=>
     simp only[results] at h;split at h;rename_i l s;cases h;simp[u l s];cases h
    |cell j n=>
     simp only[results] at h
     repeat (split at h<;>try cases h)
     rename_i l s;simp[u l s]
  have:=M _ _ E;omega
 have E:(fn.results.mapM (akf z)).run P w=.ok ⟨a⟩ w:=by rw[E5,<-F4,agp _ _ a w N d];congr 1;apply cL;simp
 refine⟨if h:(⟨a⟩:Array aa).size=1 then(⟨a⟩:Array aa)[0] else .tuple ⟨a⟩,?_,?_⟩;rw[YZ];simp only[uy,E,tH,zA]
 .match vs,a,D with
  |[v],[c],.cons C .nil=>simpa [result] using C
  |[],[],.nil=>simpa [result] using VR.tuple (ρ:=b) .nil
  |N::c::vs,D::E::a,W=>
   have V:¬((⟨D::E::a⟩:Array aa).size=1):=ag
   rw[dif_neg V];simp only[result];have O:(N::c::vs).all rR=cd:=U;have conv:∀ {l m:List aa},bQ (VR b) l m->l.all rR=cd->bQ (AR b) l m:=by
    intro l m h;induction h with
    |nil=>intro _;exact .nil
    |cons C _ A=>
     intro s;simp only[gF,pU] at s;refine .cons ?_ (A s.2);cases C with
     |val h=>exact h
     |tuple=>simp[rR] at s
     |atl=>simp[rR] at s
   exact VR.tuple (conv W O)
end
end Go.AI
