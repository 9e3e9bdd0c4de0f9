/- Parts of the proof. -/
import GoSem.Dispatch
import Derived.Calls
import Derived.Below
import Derived.Laws.Rows
import Derived.Laws.CopyRow
import Derived.Laws.StructEq
import Derived.Laws.Append
import Derived.ChangeKeysEq
import Derived.Laws.Slices
import Derived.Laws.MakeOwn
import Derived.Laws.AppendOwn
open Array renaming ext'->b9,getElem?_eq_some_iff->db,getElem?_push->ki,length_toList->Af,range->z6
open BitVec renaming ofInt->cb
open Go renaming Addr->zG,BinOp->yc,Code->G7,Field->rW,Frame->ea,IntKind->bd,MapEntry->gH,Next->lY,Oper->cQ,Operand->aT,Program->bG,Result->zp,TypeDesc->aau,TypeId->cI,Value->aa,World->bQ,asInt->Ln,asIntOf->oc,run_firstCells_some->MU,sizeOf->oE,stepG->cG,step_lone_go->cp,typeInfo->fe,zeroValue->eG
open Go.Builtin renaming append_->c5,cap_->rr,firstCells->cf,lenOf->u2,len_->rn,nextslicecap->o9,zeroCells->ew
open Go.Instr renaming alloc->RB,box->V8,build->s8,buildSlice->sI,extract->Nt,fieldAt->M7,fill->TL,index->s0,indexAt->rb,loadAt->P6,makeFunc->L5,slice->RA,sliceAt->w_,sliceBound->il,sliceBounds->eZ,storeAt->M6,sureAddr->pN
open Go.Next renaming value->bI
open Go.Program renaming cellsOf->D6
open Go.Question renaming forced->oJ
open Go.Region renaming wanted->b0
open Go.Result renaming andThen_ok->B6
open Go.Sem renaming run->nE,run_bind->TD,run_ite->V7,run_pure->TB
open Int renaming le_trans->Tc,natCast_mul->MQ,natCast_nonneg->gF,ofNat->fo,ofNat_le->o7,ofNat_lt->zb,toNat_natCast->JV
open List.Nodup renaming length_le_of_subset->ra
open Nat renaming add_assoc->Ri,add_mul->V6,add_zero->Tb,beq->an,beq_refl->kt,ble->na,ble_eq_true_of_le->qV,blt->c6,blt_eq->fa,eq_of_beq_eq_true->lN,eq_zero_or_pos->F2,le_of_ble_eq_true->z7,le_of_eq->S7,le_refl->V4,le_trans->S6,lt_of_lt_of_le->FO,lt_or_ge->S5,min_eq_left->lE,mod_lt->Mw,mul_le_mul_right->BL,one_mul->wv,sub_mul->BD,zero_add->S0
open Ne renaming symm->cE
open Option.some renaming injEq->xw
open Prod.mk renaming injEq->Iu
open Option renaming some->Z,none->K,bind_eq_some_iff->wm,bind_some->r5,isSome_none->fX,isSome_some->fA,map_none->gj,map_some->E9
open Bool renaming false->cd,true->ck,and_eq_true->KD,false_eq_true->Er,not_eq_true'->Hp,not_true->P9,or_eq_true->lA,true_and->P8
open List renaming length->cz,all_cons->ef,all_eq_true->ga,all_map->yL,append_assoc->Gv,append_nil->Lg,drop_drop->hJ,drop_eq_nil_of_le->yu,eq_nil_of_length_eq_zero->s9,ext_getElem?->Gi,getElem?_append_left->wA,getElem?_append_right->vT,getElem?_drop->gw,getElem?_eq_getElem->x8,getElem?_eq_none->za,getElem?_map->F8,getElem?_replicate->yd,getElem?_set->F7,getElem?_take->D1,getElem?_toArray->lI,getElem_mem->I3,headD_cons->uo,length_append->Dz,length_filter_le->y7,length_map->Le,length_take->gv,map_cons->PJ,mem_append->Lb,mem_cons_of_mem->Ae,mem_cons_self->Ds,mem_filter->K7,mem_map->Rq,mem_map_of_mem->B3,mem_of_mem_take->Aa,mem_range->MK,range'->C3,set_set->Rn,size_toArray->F4,take_add_one->F3,take_append_drop->qn,take_length->I2,take_of_length_le->yt
open Go.Value renaming slice->dB,bool->dC,pointer->eU,int->fc,string->gX,agg->ix
open Go.IntKind renaming i64->ft,wrap_i64->B7
open Or renaming inl->jZ,inr->kd
set_option linter.all false
set_option maxHeartbeats 1000000
namespace Go.AI
theorem Q{α:Sort _}{a:α}:a=a:=.refl a
def ab {p:Prop} (h:p:=by omega):p:=h
def J {p:Prop} (h:p:=by simp):p:=h
def ag {p:Prop} (h:p:=by decide):p:=h
def ai {p q:Nat->Prop}:∀x,p x->q x->q x:=λ_ _ h=>h
def aj {p q:Prop} (h:p) (k:p->q:=by intro h;simpa using h):q:=k h
def ak {p q:Prop} (h:p) (k:p->q:=by intro h;simp;exact h):q:=k h
def au {p q:Prop} (h:p) (k:p->q:=by intro h;simp[h]):q:=k h
def av {p q:Prop} (h:p) (k:p->q:=by intro h;omega):q:=k h
variable{args:List aa}{f:Nat}{v:aa}
inductive Tr(α:Type) where
 |nil
 |node (v:Option α) (l r:Tr α)
namespace Tr
variable{a:Type}
def get:Tr a->Nat->Option a
 |.nil,_=>K
 |.node v l r,k=>
  match k with
  |0=>v
  |k+1=>bif an (k%2) 0 then l.get (k/2) else r.get (k/2)
def put:Nat->Tr a->Nat->Option a->Tr a
 |0,t,_,_=>t
 |f+1,.nil,k,x=>
  match k with
  |0=>.node x .nil .nil
  |k+1=>bif an (k%2) 0 then .node K (put f .nil (k/2) x) .nil else .node K .nil (put f .nil (k/2) x)
 |f+1,.node v l r,k,x=>
  match k with
  |0=>.node x l r
  |k+1=>bif an (k%2) 0 then .node v (put f l (k/2) x) r else .node v l (put f r (k/2) x)
def set(t:Tr a)(k:Nat)(x:a):Tr a:=put (k+1) t k (Z x)
def del(t:Tr a)(k:Nat):Tr a:=put (k+1) t k K
end Tr
abbrev Env:=Tr aa
def bY(e:Env)(t:Nat):aa:=(Tr.get e t).getD (.tuple #[])
inductive kW where
 |mv (x:aT)
 |pick (c a b:aT)
 |alloc (z:List aa)
 |box (x:aT)
 |build (z:List aa) (parts:List (Nat×Nat×aT))
 |uu (n:Nat) (z:List aa) (parts:List (Nat×Nat×aT))
 |load (n:Option Nat) (a:aT)
 |store (n:Nat) (a v:aT)
 |Bg (x:aT)
 |bin (op:yc) (n:List Nat) (x y:aT)
 |un (op:UnOp) (x:aT)
 |conv (k:bd) (x:aT)
 |Tu (f:FuncId) (caps:List aT)
 |QT
 |tn (z:List aa) (bytes:Nat) (len cap:aT)
 |slice (size:Nat) (x:aT) (lo hi mx:Option aT)
 |pb (off:Nat) (x:aT)
 |tP (arr:Option Nat) (size:Nat) (x i:aT)
 |index (arr:Option (Nat×Nat×Option Nat)) (x i:aT)
 |look (n:List Nat) (z:aa) (ok:Bool) (x i:aT)
 |aaj (n:List Nat) (z:aa) (m k:aT)
 |ad6 (m s v:aT)
 |ext (i:Nat) (x:aT)
 |call (f:aT) (args:List aT)
 |IF (x:aT)
 |Xw (x:aT)
 |append (z:List aa) (bytes:Nat) (pz:Bool) (s x:aT)
 |copy (size:Nat) (d s:aT)
 |clear (z:List aa) (x:aT)
 |RO (x:aT)
 |bad
 deriving Inhabited
structure cr where
 dst:Option Nat
 guard:Option (Nat×Bool)
 op:kW
 deriving Inhabited
inductive aD where
 |skip
 |ops (l:List cr)
 |draw (l:List (cr×List Nat))
 |seq (a b:aD)
 |cond (c:aT) (a b:aD)
 |block (id:Nat) (c:aD)
 |loop (c:aD)
 |Xe (f:aT) (ps:List Nat) (asg body:aD)
 |exit (id:Nat)
 |ret
 |bad
 deriving Inhabited
inductive Kn where
 |tmp (t:Nat)
 |cell (a:Nat) (n:Option Nat)
inductive Ys where
 |ready|busy|done (j:Option Nat)
inductive qe where
 |bZ (cells:List aa) (ro:Bool) (NH:Nat) (aIo:Nat)
 |loop (env:Env) (ps:List Nat) (asg body:aD) (st:Ys)
 |map (es:List (aa×aa))
 |itr
structure az where
 aw:Nat
 clock:Nat
 tr:Tr qe
def WF(h:az):Prop:=∀b o,h.tr.get b=Z o->b<h.aw
structure fm(h h':az):Prop where
 aw:h.aw<=h'.aw
 clock:h.clock<=h'.clock
 cg:∀b cs ro o s,b<h.aw->h'.tr.get b=Z (.bZ cs ro o s)->s<h.clock->h.tr.get b=Z (.bZ cs ro o s)
 wf:WF h->WF h'
 mp:∀b,b<h.aw->h'.tr.get b=Z (.map [])->h.tr.get b=Z (.map [])
inductive Prim where
 |no
 |run (p:List aa->az->Option (aa×az)) (hp:∀args h v h',p args h=Z (v,h')->fm h h')
 |WN
structure dm where
 res:List Kn
 body:aD
 CW:Prim:=.no
inductive bH where
 |normal
 |exit (id:Nat)
 |ret
def ev(e:Env):aT->aa
 |.tmp t=>bY e t
 |.const v=>v
 |.global g=>eU (Z ⟨g,0,K⟩)
 |.func f=>.func (.func f) #[] #[]
def ik(e:Env):Option Nat->aa->Env
 |none,_=>e
 |some t,v=>Tr.set e t v
def az.new(h:az)(o:qe):az:= {h with aw:=h.aw+1,tr:=h.tr.set h.aw o}
def aJ(h:az)(a:List aa)(u:Nat):az:=h.new (.bZ a cd u 0)
def agg(n:Option Nat)(a:List aa):Option aa:=
 match n with
 |some n=>if an (cz a) n then Z (ix ⟨a⟩) else K
 |none=>match a with
  |[v]=>Z v
  |_=>K
def width(n:Option Nat):Nat:=match n with|some n=>n|none=>1
def cy(h:az)(b a n:Nat):Option (List aa):=
 match h.tr.get b with
 |some (.bZ b _ _ _)=>let r:=(b.drop a).take n;if an (cz r) n then Z r else K
 |_=>K
def aX(b:List aa)(a:Nat)(c:List aa):List aa:=b.take a++c++b.drop (a+cz c)
def gK(h:az)(c b:Nat)(a:List aa):Option az:=
 match h.tr.get c with
 |some (.bZ d cd o _)=>
  if na (b+cz a) (cz d) then Z {h with clock:=h.clock+1,tr:=h.tr.set c (.bZ (aX d b a) cd o h.clock)} else K
 |_=>K
def cellsOf:aa->List aa
 |ix a=>a.toList
 |v=>[v]
def plain:aa->Bool
 |ix _=>cd
 |.tuple _=>cd
 |.chan _=>cd
 |_=>ck
def simple:aa->Bool
 |ix _=>cd
 |.tuple _=>cd
 |.chan _=>cd
 |.func _ _ _=>cd
 |_=>ck
def flat(v:aa):Option (List aa):=bif (cellsOf v).all plain then Z (cellsOf v) else K
def pI(e:Env):List aa->List (Nat×Nat×aT)->Option (List aa)
 |a,[]=>Z a
 |a,(c,n,x)::r=>match flat (ev e x) with
  |some b=>if an (cz b) n&&na (c+n) (cz a) then pI e (aX a c b) r else K
  |none=>K
def ky(z:List aa):Nat->List aa
 |0=>[]
 |n+1=>z++ky z n
def d_(k:Nat)(a b:aa):Option Bool:=
 match k,a,b with
 |0,dC a,dC b=>Z (a==b)
 |1,.int k a,.int u b=>if k=u then Z (a==b) else K
 |2,gX a,gX b=>Z (a==b)
 |_,_,_=>K
def cN:List Nat->List aa->List aa->Option Bool
 |[],[],[]=>Z ck
 |k::x,a::u,b::A=>match d_ k a b,cN x u A with
  |some x,Z y=>Z (x&&y)
  |_,_=>K
 |_,_,_=>K
def fV(c:List Nat)(a b:aa):Option Bool:=
 match a,b with
 |ix a,ix b=>match c with
  |9::c=>cN c a.toList b.toList
  |_=>K
 |a,b=>match c with
  |[3]=>match a,b with
   |dB K _ _,dB b _ _=>Z b.isNone
   |dB (Z _) _ _,dB K _ _=>Z cd
   |_,_=>K
  |[4]=>match a,b with
   |eU K,eU b=>Z b.isNone
   |eU (Z _),eU K=>Z cd
   |_,_=>K
  |[5]=>match a,b with
   |.map K,.map b=>Z b.isNone
   |.map (Z _),.map K=>Z cd
   |_,_=>K
  |[6]=>match a,b with
   |.nilFunc,.nilFunc=>Z ck
   |.nilFunc,.func _ _ _=>Z cd
   |.func _ _ _,.nilFunc=>Z cd
   |_,_=>K
  |[k]=>d_ k a b
  |_=>K
def jY(c:yc)(k:bd)(a b:Int):Option aa:=
 match c with
 |.add=>Z (.int k (k.wrap (a+b)))
 |.sub=>Z (.int k (k.wrap (a-b)))
 |.mul=>Z (.int k (k.wrap (a*b)))
 |.quo=>if b=0 then K else Z (.int k (k.wrap (a.tdiv b)))
 |.rem=>if b=0 then K else Z (.int k (a.tmod b))
 |.and=>Z (.int k (k.wrap (cb k.bits a &&& cb k.bits b).toNat))
 |.or=>Z (.int k (k.wrap (cb k.bits a ||| cb k.bits b).toNat))
 |.xor=>Z (.int k (k.wrap (cb k.bits a ^^^ cb k.bits b).toNat))
 |.andNot=>Z (.int k (k.wrap (cb k.bits a &&& ~~~(cb k.bits b)).toNat))
 |.eql=>Z (dC (a==b))
 |.neq=>Z (dC (a !=b))
 |.lss=>Z (dC (a<b))
 |.leq=>Z (dC (a<=b))
 |.gtr=>Z (dC (a>b))
 |.geq=>Z (dC (a>=b))
 |_=>K
def jN(c:yc)(k:bd)(a b:Int):Option aa:=
 if b<0 then K else
 match c with
 |.shl=>Z (.int k (k.wrap (a*2^(min b.toNat k.bits))))
 |.shr=>Z (.int k (a.fdiv (2^(min b.toNat k.bits))))
 |_=>K
def Hb(op:yc)(n:List Nat)(x y:aa):Option aa:=
 match op with
 |.shl=>match x,y with|.int k a,.int _ b=>jN .shl k a b|_,_=>K
 |.shr=>match x,y with|.int k a,.int _ b=>jN .shr k a b|_,_=>K
 |.eql=>match x,y with
  |.int k a,.int u b=>if k=u then jY .eql k a b else K
  |x,y=>match fV n x y with|some b=>Z (dC b)|none=>K
 |.neq=>match x,y with
  |.int k a,.int u b=>if k=u then jY .neq k a b else K
  |x,y=>match fV n x y with|some b=>Z (dC (!b))|none=>K
 |.gtr=>match x,y with
  |.int k a,.int u b=>if k=u then jY .gtr k a b else K
  |fc ft a,.chan (Z c)=>if a<=(c:Int) then Z (dC cd) else K
  |_,_=>K
 |op=>match x,y with|.int k a,.int u b=>if k=u then jY op k a b else K|_,_=>K
def Qu(k:UnOp)(x:aa):Option aa:=
 match k,x with
 |.neg,.int k n=>Z (.int k (k.wrap (0-n)))
 |.xor,.int k n=>Z (.int k (k.wrap (cb k.bits (if k.signed then-1 else k.max) ^^^ cb k.bits n).toNat))
 |.not,dC b=>Z (dC !b)
 |_,_=>K
def bound(e:Env)(x:Option aT)(u A:Nat):Option Nat:=
 match x with
 |none=>Z u
 |some x=>match ev e x with
  |.int _ (.ofNat i)=>if na i A then Z i else K
  |_=>K
def roomy(a:Nat):Bool:=na a 1099511627776
def news(h:az)(z:List aa)(n:Bool)(x:aa):Option (Nat×List aa):=
 match n,x with
 |true,.int _ (.ofNat n)=>if roomy n then Z (n,ky z n) else K
 |false,dB K n _=>if an n 0 then Z (0,[]) else K
 |false,dB (Z ⟨b,x,K⟩) n _=>if an n 0 then Z (0,[]) else match cy h b x (n*cz z) with
  |some z=>Z (n,z)
  |none=>K
 |_,_=>K
def eI(h:az)(z:List aa)(b:Nat)(s:aa)(n:Nat)(d:List aa):Option (aa×az):=
 match s with
 |dB c a u=>
  if c6 0 (cz z) then
  if an n 0 then(if na a u then Z (dB c a u,h) else K) else
  if roomy (a+n)&&roomy ((a+n)*b) then
   match c with
   |none=>if an a 0&&an u 0 then Z (dB (Z ⟨h.aw,0,K⟩) n n,aJ h d (cz z)) else K
   |some ⟨c,b,K⟩=>
    match h.tr.get c with
    |some (.bZ e cd o _)=>
     if na (a+n) u then
      match gK h c (b+a*cz z) d with
      |some r=>Z (dB (Z ⟨c,b,K⟩) (a+n) u,r)
      |none=>K
     else
      let r:=(e.drop b).take (a*cz z)
      if an (cz r) (a*cz z) then
       if an o 0|| !(an (b+u*o) (cz e)) then
        Z (dB (Z ⟨h.aw,0,K⟩) (a+n) (a+n),aJ h (r++d) (cz z))
       else if an o (cz z) then
        Z (dB (Z ⟨h.aw,0,K⟩) (a+n) (a+n),aJ {h with tr:=h.tr.del c} (r++d) (cz z))
       else K
      else K
    |_=>K
   |_=>K
  else K
  else K
 |_=>K
def zu(n:List Nat)(k:aa):List (aa×aa)->Option (Option aa)
 |[]=>Z K
 |(u,v)::r=>match fV n k u with
  |some ck=>Z (Z v)
  |some cd=>zu n k r
  |none=>K
def Jn:aa->Bool
 |ix a=>a.toList.all plain
 |k=>plain k
def tS:List Nat->aa->Bool
 |9::a,ix b=>an (cz b.toList) (cz a)
 |9::_,_=>cd
 |_,_=>ck
def CA(n:List Nat)(z k:aa):List (aa×aa)->Option (aa×Nat×List (aa×aa))
 |[]=>if Jn k&&plain z then Z (z,0,[(k,z)]) else K
 |(u,a)::r=>match fV n k u with
  |some ck=>if Jn k then Z (a,0,(k,a)::r) else K
  |some cd=>match CA n z k r with|some (v,i,A)=>Z (v,i+1,(u,a)::A)|none=>K
  |none=>K
def qY(e:Env)(l:List aT):List aa:=l.map (ev e)
def de(e:Env)(h:az):kW->Option (aa×az)
 |.mv x=>Z (ev e x,h)
 |.pick c a b=>match ev e c with
  |dC ck=>Z (ev e a,h)
  |dC cd=>Z (ev e b,h)
  |_=>K
 |.alloc z=>Z (eU (Z ⟨h.aw,0,K⟩),aJ h z 0)
 |.box x=>match flat (ev e x) with
  |some j=>Z (eU (Z ⟨h.aw,0,K⟩),aJ h j 0)
  |none=>K
 |.build z A=>match pI e z A with
  |some d=>Z (ix ⟨d⟩,h)
  |none=>K
 |.uu n z A=>match pI e z A with
  |some d=>Z (dB (Z ⟨h.aw,0,K⟩) n n,aJ h d 0)
  |none=>K
 |.load n a=>match ev e a with
  |eU (Z ⟨b,g,K⟩)=>match cy h b g (width n) with
   |some d=>match agg n d with|some v=>Z (v,h)|none=>K
   |none=>K
  |_=>K
 |.store n a v=>match ev e a with
  |eU (Z ⟨b,g,K⟩)=>match flat (ev e v) with
   |some j=>if an (cz j) n then match gK h b g j with
     |some k=>Z (.tuple #[],k)
     |none=>K
    else K
   |none=>K
  |_=>K
 |.Bg x=>match ev e x with
  |eU (Z a)=>Z (eU (Z a),h)
  |_=>K
 |.bin p n x y=>match Hb p n (ev e x) (ev e y) with
  |some v=>Z (v,h)
  |none=>K
 |.un p x=>match Qu p (ev e x) with
  |some v=>Z (v,h)
  |none=>K
 |.conv p x=>match ev e x with
  |.int _ n=>Z (.int p (p.wrap n),h)
  |_=>K
 |.Tu f E=>bif (qY e E).all simple then Z (.func (.func f) #[] ⟨qY e E⟩,h) else K
 |.QT=>Z (.map (Z h.aw),h.new (.map []))
 |.tn z C s D=>match ev e s,ev e D with
  |fc ft (.ofNat l),fc ft (.ofNat c)=>
   if na l c&&roomy (c*C)&&c6 0 (cz z)&&roomy c then Z (dB (Z ⟨h.aw,0,K⟩) l c,aJ h (ky z c) 0) else K
  |_,_=>K
 |.slice u x o H m=>match ev e x with
  |dB a s D=>
   match bound e m D D with
   |none=>K
   |some m=>match bound e H s m with
    |none=>K
    |some H=>match bound e o 0 H with
     |none=>K
     |some l=>match a with
      |none=>Z (dB K (H-l) (m-l),h)
      |some ⟨b,g,K⟩=>match h.tr.get b with
       |some (.bZ _ _ o _)=>bif an o 0||an o u then Z (dB (Z ⟨b,g+l*u,K⟩) (H-l) (m-l),h) else K
       |_=>K
      |_=>K
  |_=>K
 |.pb g x=>match ev e x with
  |eU (Z ⟨b,o,K⟩)=>Z (eU (Z ⟨b,o+g,K⟩),h)
  |_=>K
 |.tP l u x i=>match ev e i with
  |.int _ (.ofNat i)=>match l,ev e x with
   |some n,eU (Z ⟨b,o,K⟩)=>if c6 i n then Z (eU (Z ⟨b,o+i*u,K⟩),h) else K
   |none,dB (Z ⟨b,o,K⟩) s _=>if c6 i s then Z (eU (Z ⟨b,o+i*u,K⟩),h) else K
   |_,_=>K
  |_=>K
 |.index l x i=>match ev e i with
  |.int _ (.ofNat i)=>match l,ev e x with
   |some (s,u,n),ix d=>if c6 i s then match agg n ((d.toList.drop (i*u)).take (width n)) with
     |some v=>Z (v,h)
     |none=>K
    else K
   |none,gX s=>match s[i]? with
    |some b=>Z (.int .u8 b.toNat,h)
    |none=>K
   |_,_=>K
  |_=>K
 |.look n z H x i=>bif tS n (ev e i) then
  let r:=match ev e x with
   |.map K=>Z K
   |.map (Z r)=>match h.tr.get r with
    |some (.map l)=>zu n (ev e i) l
    |_=>K
   |_=>K
  match r with
  |none=>K
  |some K=>Z (if H then .tuple #[z,dC cd] else z,h)
  |some (Z v)=>Z (if H then .tuple #[v,dC ck] else v,h)
  else K
 |.aaj n z m p=>bif tS n (ev e p) then match ev e m with
  |.map (Z r)=>match h.tr.get r with
   |some (.map l)=>match CA n z (ev e p) l with
    |some (v,i,p)=>Z (.tuple #[v,fc ft i],{h with clock:=h.clock+1,tr:=h.tr.set r (.map p)})
    |none=>K
   |_=>K
  |_=>K
  else K
 |.ad6 m s v=>match ev e m with
  |.map (Z r)=>match ev e s with
   |fc ft (.ofNat i)=>match h.tr.get r with
    |some (.map l)=>match l[i]? with
     |some x=>if plain (ev e v) then Z (.tuple #[],{h with clock:=h.clock+1,tr:=h.tr.set r (.map (l.set i (x.1,ev e v)))}) else K
     |none=>K
    |_=>K
   |_=>K
  |_=>K
 |.ext i x=>match ev e x with
  |.tuple j=>match j.toList[i]? with
   |some v=>Z (v,h)
   |none=>K
  |_=>K
 |.IF x=>match ev e x with
  |dB _ n _=>Z (fc ft n,h)
  |_=>K
 |.Xw x=>match ev e x with
  |gX s=>Z (fc ft s.size,h)
  |_=>K
 |.append z C M s x=>match news h z M (ev e x) with
  |some (n,d)=>eI h z C (ev e s) n d
  |none=>K
 |.copy u M s=>match ev e M,ev e s with
  |dB M s _,dB O N _=>
   let n:=Nat.min N s
   if an n 0 then Z (fc ft 0,h) else
   match M,O with
   |some ⟨O,G,K⟩,Z ⟨U,I,K⟩=>match cy h U I (n*u) with
    |some d=>match gK h O G d with
     |some k=>Z (fc ft n,k)
     |none=>K
    |none=>K
   |_,_=>K
  |_,_=>K
 |.clear z x=>match ev e x with
  |dB a n _=>if an n 0 then Z (.tuple #[],h) else match a with
   |some ⟨b,g,K⟩=>match gK h b g (ky z n) with
    |some k=>Z (.tuple #[],k)
    |none=>K
   |_=>K
  |_=>K
 |.RO x=>match ev e x with
  |dB K _ c=>Z (fc ft c,h)
  |dB (Z ⟨b,_,K⟩) _ c=>match h.tr.get b with
   |some (.bZ _ _ o _)=>if an o 0 then Z (fc ft c,h) else Z (.chan (Z c),h)
   |_=>K
  |_=>K
 |.call _ _=>K
 |.bad=>K
abbrev R:=Option (bH×Env×az)
def params:Env->Nat->List aa->Env
 |e,_,[]=>e
 |e,i,v::r=>params (Tr.set e i v) (i+1) r
def results(e:Env)(h:az):List Kn->Option (List aa)
 |[]=>Z []
 |.tmp t::r=>match results e h r with|some l=>Z (bY e t::l)|none=>K
 |.cell a n::r=>match bY e a with
  |eU (Z ⟨b,a,K⟩)=>match cy h b a (width n) with
   |some a=>match agg n a with
    |some v=>match results e h r with|some l=>Z (v::l)|none=>K
    |none=>K
   |none=>K
  |_=>K
def tp:aa->Bool
 |.tuple _=>cd
 |.chan _=>cd
 |_=>ck
def result:List aa->aa
 |[v]=>v
 |l=>.tuple ⟨l⟩
def gV:List aa->Bool
 |[_]=>ck
 |l=>l.all tp
def gG:Env->List Nat->List aa->Option Env
 |e,[],[]=>Z e
 |e,t::u,v::a=>gG (Tr.set e t v) u a
 |_,_,_=>K
def R4:List aa->az->Option (aa×az)
 |[dB (Z ⟨a,_,K⟩) A _,dB (Z ⟨b,_,K⟩) u _],h=>
  match h.tr.get a,h.tr.get b with
  |some (.bZ _ cd _ _),Z (.bZ _ cd _ _)=>bif an A 0||an u 0|| !(an a b) then Z (dC cd,h) else K
  |_,_=>K
 |_,_=>K
section
variable(F:Nat->Option dm)(ih:aD->Env->az->R)
def pV(o:Bool)(f:Nat)(args:List aa)(h:az):Option (aa×az):=
 match F f with
 |none=>K
 |some b=>match b.CW with
  |.WN=>bif o then R4 args h else K
  |.run p _=>p args h
  |.no=>match ih b.body (params .nil 0 args) h with
   |some (.normal,u,a)|some (.ret,u,a)=>match results u a b.res with
    |some b=>bif gV b then Z (result b,a) else K
    |none=>K
   |_=>K
abbrev vk(f:Nat)(args:List aa)(h:az):Option (aa×az):=pV F ih cd f args h
def gJ(h:az)(l:Nat)(u:Env)(a:List Nat)(b c:aD)(d:Ys):az:= {h with tr:=h.tr.set l (.loop u a b c d)}
def ox(l:Nat)(h:az)(b:Ys)(v:Bool):Option (aa×az):=
 match h.tr.get l with
 |some (.loop C a A u .busy)=>Z (dC v,gJ h l C a A u b)
 |_=>K
def zD(l:Nat)(u:aD)(e:Env)(h:az):Option (aa×az):=
 match h.tr.get l with
 |some (.loop D a C A .ready)=>
  match ih u e (gJ h l D a C A .busy) with
  |some (.normal,_,h)=>ox l h .ready ck
  |some (.ret,_,h)=>ox l h (.done K) cd
  |some (.exit id,_,h)=>ox l h (.done (Z id)) cd
  |none=>K
 |_=>K
def uI(l:Nat)(args:List aa)(h:az):Option (aa×az):=
 match h.tr.get l with
 |some (.loop C e A u .ready)=>
  match gG C e args with
  |none=>K
  |some e=>match ih A e h with
   |some (.normal,e,h)=>zD ih l u e h
   |_=>K
 |_=>K
def fF(a:aa)(args:List aa)(h:az):Option (aa×az):=
 match a with
 |.func (.func f) first u=>pV F ih ck f (first.toList++args++u.toList) h
 |.func (.yield l) _ _=>uI ih l args h
 |_=>K
def wanted(e:Env):Option (Nat×Bool)->Bool
 |none=>ck
 |some (t,b)=>match bY e t with
  |dC c=>c==b
  |_=>cd
def dZ(o:cr)(e:Env)(h:az):Option (Env×az):=
 bif wanted e o.guard then
  match o.op with
  |.call f args=>match fF F ih (ev e f) (qY e args) h with
   |some (v,a)=>Z (ik e o.dst v,a)
   |none=>K
  |op=>match de e h op with
   |some (v,a)=>Z (ik e o.dst v,a)
   |none=>K
 else Z (ik e o.dst (.tuple #[]),h)
def Ap:List cr->Env->az->Option (Env×az)
 |[],e,h=>Z (e,h)
 |o::r,e,h=>match dZ F ih o e h with
  |some (e,h)=>Ap r e h
  |none=>K
def still(e:Env)(h:az)(a:Nat):List Nat->Bool
 |[]=>ck
 |t::r=>match bY e t with
  |eU (Z ⟨b,_,K⟩)=>match h.tr.get b with
   |some (.bZ _ _ _ s)=>na s a&&still e h a r
   |_=>cd
  |dB (Z ⟨b,_,K⟩) _ _=>match h.tr.get b with
   |some (.bZ _ _ _ s)=>na s a&&still e h a r
   |_=>cd
  |.map (Z b)=>match h.tr.get b with
   |some (.map [])=>still e h a r
   |_=>cd
  |.map K=>still e h a r
  |.tuple _=>still e h a r
  |eU K=>still e h a r
  |dB K _ _=>still e h a r
  |_=>cd
def nq(a:Nat):List (cr×List Nat)->Env->az->Option (Env×az)
 |[],e,h=>Z (e,h)
 |(o,u)::r,e,h=>match dZ F ih o e h with
  |some (e,h)=>bif still e h a u then nq a r e h else K
  |none=>K
def dp:aD->Env->az->R
 |.skip,e,h=>Z (.normal,e,h)
 |.ops l,e,h=>match Ap F ih l e h with
  |some (e,h)=>Z (.normal,e,h)
  |none=>K
 |.draw l,e,h=>match nq F ih h.clock l e {h with clock:=h.clock+1} with
  |some (e,h)=>Z (.normal,e,h)
  |none=>K
 |.seq a b,e,h=>match ih a e h with
  |some (.normal,e,h)=>ih b e h
  |r=>r
 |.cond c a b,e,h=>match ev e c with
  |dC ck=>ih a e h
  |dC cd=>ih b e h
  |_=>K
 |.block id c,e,h=>match ih c e h with
  |some (.exit i,e,h)=>bif an i id then Z (.normal,e,h) else Z (.exit i,e,h)
  |r=>r
 |.loop c,e,h=>match ih c e h with
  |some (.normal,e,h)=>ih (.loop c) e h
  |r=>r
 |.exit id,e,h=>Z (.exit id,e,h)
 |.ret,e,h=>Z (.ret,e,h)
 |.Xe f a C A,e,h=>match ev e f with
  |.func (.func g) first u=>match vk F ih g (first.toList++[.func (.yield h.aw) #[] #[]]++u.toList) (h.new (.loop e a C A .ready)) with
   |some (_,a)=>match a.tr.get h.aw with
    |some (.loop _ _ _ _ .ready)=>Z (.normal,e,{a with tr:=a.tr.del h.aw})
    |some (.loop _ _ _ _ (.done K))=>Z (.ret,e,{a with tr:=a.tr.del h.aw})
    |some (.loop _ _ _ _ (.done (Z id)))=>Z (.exit id,e,{a with tr:=a.tr.del h.aw})
    |_=>K
   |none=>K
  |_=>K
 |.bad,_,_=>K
end
def run(F:Nat->Option dm):Nat->aD->Env->az->R:=
 Nat.rec (λ_ _ _=>K) (λ_ a=>dp F a)
def call(F:Nat->Option dm)(u f:Nat)(args:List aa)(h:az):Option (aa×az):=vk F (run F u) f args h
section
variable{F:Nat->Option dm}{a:aD->Env->az->R}
def Mc{h A:az}(u:pV F a ck f args h=Z (v,A)):pV F a cd f args h=Z (v,A)\/∃b,F f=Z b/\b.CW=.WN/\R4 args h=Z (v,A):=by
 unfold pV at u⊢;rcases C:F f with _|b;rw[C] at u;cases u
 .rw[C] at u;dsimp only at u⊢;cases A:b.CW with
  |WN=>rw[A] at u;exact kd ⟨b,Q,A,u⟩
  |run p k=>rw[A] at u;exact jZ u
  |no=>rw[A] at u;exact jZ u
def Cx{h A:az}(u:pV F a cd f args h=Z (v,A)):pV F a ck f args h=Z (v,A):=by
 unfold pV at u⊢;rcases C:F f with _|h;rw[C] at u;cases u
 .rw[C] at u;dsimp only at u⊢;cases A:h.CW with
  |WN=>rw[A] at u;cases u
  |run p k=>rw[A] at u;exact u
  |no=>rw[A] at u;exact u
def Q3{h H:az}(u:R4 args h=Z (v,H)):v=dC cd/\H=h/\∃a H A c b I C E U O N G D M,args=[dB (Z ⟨a,H,K⟩) A c,dB (Z ⟨b,I,K⟩) C E]/\h.tr.get a=Z (.bZ U cd O N)/\h.tr.get b=Z (.bZ G cd D M)/\(A=0\/C=0\/a≠b):=by
 unfold R4 at u;split at u;rename_i a H A c b I C E;split at u;rename_i W O N V D M U M;cases D:(an A 0||an C 0|| !(an a b));rw[D] at u;cases u;rw[D] at u;cases u;refine⟨Q,Q,a,H,A,c,b,I,C,E,_,_,_,_,_,_,Q,U,M,?_⟩;simp only[lA,Hp] at D;rcases D with(h|h)|h;exact jZ (lN h);exact kd (jZ (lN h));exact kd (kd λe=>by rw[e,kt] at h;cases h);cases u;cases u
end
end Go.AI
namespace Go.AI
variable{i:Nat}{α:Type}
def aQ(l:List α)(i:Nat)(h:i<cz l:=by omega):∃x,l[i]?=Z x:=⟨_,x8 h⟩
def jh{l:List α}(h:i<cz l):l[i]?=Z l[i]:=x8 h
def cY{l:List α}{a:α} :l[i]?=Z a↔ ∃h:i<cz l,l[i]=a:=List.getElem?_eq_some_iff
def cO{l:List α}{a:α}(h:l[i]?=Z a):a∈l:=List.mem_of_getElem? h
def iG{l:List α}{a:α}(h:a∈l):∃i:Nat,l[i]?=Z a:=List.getElem?_of_mem h
def si:type_of% @B6:= @B6
def pJ:type_of% @run_underlying:= @run_underlying
def qO:type_of% @TD:= @TD
def zF:type_of% @TB:= @TB
def xh:type_of% @Rn:= @Rn
def KA:type_of% @B3:= @B3
def Bx:type_of% @Lg:= @Lg
def jv:type_of% @cond_true:= @cond_true
def A8:type_of% @cond_false:= @cond_false
def JT:type_of% @wm:= @wm
def fO:type_of% @F7:= @F7
def sq:type_of% @lN:= @lN
def fq:type_of% @V4:= @V4
def oy:type_of% @xw:= @xw
def xU:type_of% @za:= @za
def EK:type_of% @F2:= @F2
def gM:type_of% @F8:= @F8
def oD:type_of% @KD:= @KD
def kh:type_of% @F3:= @F3
def AN:type_of% @s9:= @s9
def mO:type_of% @I2:= @I2
def IX:type_of% @BL:= @BL
def xV:type_of% @Ae:= @Ae
def BT:type_of% @Gi:= @Gi
def Ik:type_of% @I3:= @I3
def MG:type_of% @wA:= @wA
def qN:type_of% @S6:= @S6
def OC:type_of% @vT:= @vT
def xf:type_of% @V6:= @V6
def BM:type_of% @Iu:= @Iu
def iY:type_of% @Ds:= @Ds
def Eo:type_of% @E9:= @E9
def Uz:type_of% @z7:= @z7
def OD:type_of% @FO:= @FO
def X0:type_of% @Dz:= @Dz
def IU:type_of% @Ri:= @Ri
def Kz:type_of% @S5:= @S5
def IV:type_of% @S0:= @S0
def IW:type_of% @y7:= @y7
def MD:type_of% @Gv:= @Gv
def xg:type_of% @PJ:= @PJ
def Qp:type_of% @yd:= @yd
def CL:type_of% @Er:= @Er
def Cy:type_of% @yu:= @yu
def tK:type_of% @yt:= @yt
def TP:type_of% @ra:= @ra
def A1:type_of% @Tb:= @Tb
def A0:type_of% @D1:= @D1
def O2:type_of% @List.sum_cons:= @List.sum_cons
def E0:type_of% @JV:= @JV
def ET:type_of% @Aa:= @Aa
def kg:type_of% @Lb:= @Lb
def kC:type_of% @Rq:= @Rq
def EL:type_of% @K7:= @K7
def AZ:type_of% @Le:= @Le
def OB:type_of% @MK:= @MK
def bK:type_of% @if_pos:= @if_pos
def bM:type_of% @if_neg:= @if_neg
@[simp] def t_(n:Nat):aT:=.tmp n
@[simp] def i_(n:Int):aT:=.const (fc ft n)
@[simp] def o_(d:Nat)(x:kW):cr:=⟨Z d,K,x⟩
@[simp] def u_(x:kW):cr:=⟨K,K,x⟩
@[simp] def q_(d c:Nat)(b:Bool)(x:kW):cr:=⟨Z d,Z (c,b),x⟩
@[simp] def m_(d s:Nat):cr:=⟨Z d,K,.mv (.tmp s)⟩
@[simp] def k_(d:Nat)(n:Int):cr:=⟨Z d,K,.mv (.const (fc ft n))⟩
@[simp] def l_(d a:Nat):cr:=⟨Z d,K,.load K (.tmp a)⟩
@[simp] def L_(d n a:Nat):cr:=⟨Z d,K,.load (Z n) (.tmp a)⟩
@[simp] def f_(d k a:Nat):cr:=⟨Z d,K,.pb k (.tmp a)⟩
@[simp] def a_(d k x i:Nat):cr:=⟨Z d,K,.tP K k (.tmp x) (.tmp i)⟩
@[simp] def s_(n a v:Nat):cr:=⟨K,K,.store n (.tmp a) (.tmp v)⟩
@[simp] def z_(d x:Nat):cr:=⟨Z d,K,.IF (.tmp x)⟩
@[simp] def B_(d:Nat)(a:yc)(x y:Nat):cr:=⟨Z d,K,.bin a [] (.tmp x) (.tmp y)⟩
@[simp] def C_(d:Nat)(a:yc)(x:Nat)(n:Int):cr:=⟨Z d,K,.bin a [] (.tmp x) (.const (fc ft n))⟩
@[simp] def F_(d f:Nat)(l:List aT):cr:=⟨Z d,K,.call (.func f) l⟩
@[simp] def x_(d x:Nat):cr:=⟨Z d,K,.box (.tmp x)⟩
@[simp] def D_(x:cr):cr×List Nat:=(x,[])
@[simp] def G_(l:List cr)(c:aD):aD:=.seq (.ops l) c
@[simp] def O_(l:List cr):aD:=.ops l
@[simp] def V_(l:List (cr×List Nat)):aD:=.draw l
@[simp] def J_(a b:aD):aD:=.seq a b
@[simp] def H_(c n:Nat):aD:=.cond (.tmp c) .skip (.exit n)
@[simp] def I_(c:Nat)(a b:aD):aD:=.cond (.tmp c) a b
@[simp] def P_(n:Nat)(a:aD):aD:=.block n a
@[simp] def Q_(n:Nat)(a:aD):aD:=.block n (.loop a)
@[simp] def b_(b:Bool):aT:=.const (dC b)
@[simp] def M_(d:Nat)(b:Bool):cr:=⟨Z d,K,.mv (.const (dC b))⟩
instance:Coe cr (cr×List Nat):=⟨λx=>(x,[])⟩
@[simp] def N_(c i n x b d:Nat)(X:aD):aD:=.seq (.ops [⟨Z c,K,.bin .lss [] (.tmp i) (.tmp n)⟩]) (.seq (.cond (.tmp c) .skip (.exit x)) (.seq (.block b X) (.ops [⟨Z d,K,.bin .add [] (.tmp i) (.const (fc ft 1))⟩,⟨Z i,K,.mv (.tmp d)⟩])))
@[simp] def v_(d:Nat)(z:List aa)(n a:Nat):cr:=⟨Z d,K,.uu 1 z [(0,(n,(.tmp a)))]⟩
@[simp] def A_(d:Nat)(z:List aa)(n a b:Nat):cr:=⟨Z d,K,.append z n cd (.tmp a) (.tmp b)⟩
@[simp] def X_(d:Nat)(o:yc)(a b:Nat):cr:=⟨Z d,K,.bin o [1] (.tmp a) (.tmp b)⟩
@[simp] def Y_(d:Nat)(o:yc)(a:Nat)(n:Int):cr:=⟨Z d,K,.bin o [1] (.tmp a) (.const (fc ft n))⟩
@[simp] def K_(d:Nat)(z:List aa):cr:=⟨Z d,K,.alloc z⟩
@[simp] def Z_(d:Nat):cr:=⟨Z d,K,.mv (.const (dB K 0 0))⟩
@[simp] def E_(d i a:Nat):cr:=⟨Z d,K,.ext i (.tmp a)⟩
@[simp] def n_(d a:Nat):cr:=⟨Z d,K,.Bg (.tmp a)⟩
@[simp] def Qa:List aa:=[(fc ft 0),(fc ft 0),(dC cd),(fc ft 0),(dC cd),(fc ft 0),(fc ft 0),(dB K 0 0)]
@[simp] def w1_:List aa:=[(dB K 0 0),(dB K 0 0),(fc ft 0),(dC cd),(fc ft 0),(dB K 0 0)]
@[simp] def R_(a k b i s:Nat)(t:List cr):List cr:=f_ a k b::l_ (a+1) a::m_ (a+2) i::a_ (a+3) s (a+1) (a+2)::t
@[simp] def U_(a k b:Nat)(t:List cr):List cr:=f_ a k b::l_ (a+1) a::z_ (a+2) (a+1)::t
@[simp] def W_(a k b:Nat)(t:List cr):List cr:=f_ a k b::l_ (a+1) a::t
@[simp] def T_(a i j s:Nat)(t:List cr):List cr:=m_ a i::m_ (a+1) j::a_ (a+2) s a (a+1)::t
@[simp] def rD_(a k b i s:Nat)(t:List (cr×List Nat)):List (cr×List Nat):=(f_ a k b,[])::(l_ (a+1) a,[])::(m_ (a+2) i,[])::(a_ (a+3) s (a+1) (a+2),[])::t
@[simp] def wD_(a k b:Nat)(t:List (cr×List Nat)):List (cr×List Nat):=(f_ a k b,[])::(l_ (a+1) a,[])::t
@[simp] def tD_(a i j s:Nat)(t:List (cr×List Nat)):List (cr×List Nat):=(m_ a i,[])::(m_ (a+1) j,[])::(a_ (a+2) s a (a+1),[])::t
@[simp] def S_(a g:Nat)(b:Bool):List kW->List cr->List cr
 |[],t=>t
 |x::l,t=>⟨Z a,Z (g,b),x⟩::S_ (a+1) g b l t
@[simp] def y_(a i c x b d:Nat)(p:List cr)(X:aD):aD:=.seq (.seq (.ops (m_ a i::(p++[⟨Z c,K,.bin .lss [] (.tmp a) (.tmp (c-1))⟩]))) (.cond (.tmp c) .skip (.exit x))) (.seq (.block b X) (.ops [⟨Z d,K,.mv (.tmp i)⟩,⟨Z (d+1),K,.bin .add [] (.tmp d) (.const (fc ft 1))⟩,⟨Z i,K,.mv (.tmp (d+1))⟩]))
@[simp] abbrev bU(e:Env)(k b:Nat):Prop:=bY e k=eU (Z ⟨b,0,K⟩)
@[simp] abbrev bC(e:Env)(k:Nat)(n:Int):Prop:=bY e k=fc ft n
@[simp] abbrev eR(h:az)(X:Nat)(cs:List aa)(s:Nat):Prop:=h.tr.get X=Z (.bZ cs cd 0 s)
@[simp] abbrev di(h:az)(X:Nat)(cs:List aa):Prop:=∃s,h.tr.get X=Z (.bZ cs cd 0 s)
namespace Tr
variable{α:Type}
def abN(x:Option α):∀(f:Nat)(t:Tr α)(k j:Nat),k<f->(put f t k x).get j=if j=k then x else t.get j:=by
 intro f;induction f with
 |zero=>intro t k j h;omega
 |succ f x=>
  intro t k j h;cases t with
  |nil=>
   cases k with
   |zero=>cases j with
    |zero=>simp[put,get]
    |succ j=>simp[put,get]
   |succ k=>
    have E:k/2<f:=ab
    cases j with
    |zero=>
     have:¬(0=k+1):=ab
     unfold put;dsimp only;cases A:an (k%2) 0<;>simp[get]
    |succ j=>
     unfold put;dsimp only;cases A:an (k%2) 0<;>cases u:an (j%2) 0<;>simp only[get,u,jv,A8,x _ _ _ E]
     .have D:k%2≠0:=by intro h;rw[h] at A;cases A
      have C:j%2≠0:=by intro h;rw[h] at u;cases u
      by_cases e:j=k;subst e;simp
      .have:j/2≠k/2:=ab
       simp[e,this]
     .have D:k%2≠0:=by intro h;rw[h] at A;cases A
      have C:=sq u;have:j≠k:=by rintro rfl;omega
      simp[this]
     .have D:=sq A;have C:j%2≠0:=by intro h;rw[h] at u;cases u
      have:j≠k:=by rintro rfl;omega
      simp[this]
     .have D:=sq A;have C:=sq u;by_cases e:j=k
      subst e;simp
      .have:j/2≠k/2:=ab
       simp[e,this]
  |node v l r=>
   cases k with
   |zero=>cases j with
    |zero=>simp[put,get]
    |succ j=>simp[put,get]
   |succ k=>
    have E:k/2<f:=ab
    cases j with
    |zero=>
     unfold put;dsimp only;cases A:an (k%2) 0<;>simp[get]
    |succ j=>
     unfold put;dsimp only;cases A:an (k%2) 0<;>cases u:an (j%2) 0<;>simp only[get,u,jv,A8,x _ _ _ E]
     .have D:k%2≠0:=by intro h;rw[h] at A;cases A
      have C:j%2≠0:=by intro h;rw[h] at u;cases u
      by_cases e:j=k;subst e;simp
      .have:j/2≠k/2:=ab
       simp[e,this]
     .have D:k%2≠0:=by intro h;rw[h] at A;cases A
      have C:=sq u;have:j≠k:=by rintro rfl;omega
      simp[this]
     .have D:=sq A;have C:j%2≠0:=by intro h;rw[h] at u;cases u
      have:j≠k:=by rintro rfl;omega
      simp[this]
     .have D:=sq A;have C:=sq u;by_cases e:j=k
      subst e;simp
      .have:j/2≠k/2:=ab
       simp[e,this]
def bN(t:Tr α)(k j:Nat)(x:α):(t.set k x).get j=if j=k then Z x else t.get j:=abN (Z x) _ t k j ab
def mT(t:Tr α)(k j:Nat):(t.del k).get j=if j=k then K else t.get j:=abN K _ t k j ab
end Tr
def Env.bN(e:Env)(k j:Nat)(v:aa):bY (Tr.set e k v) j=if j=k then v else bY e j:=by unfold bY;rw[Tr.bN];split<;>rfl
inductive bo{α β:Type}(R:α->β->Prop):List α->List β->Prop
 |nil:bo R [] []
 |cons {a b as' bs} (h:R a b) (hs:bo R as' bs):bo R (a::as') (b::bs)
namespace bo
variable{α c:Type}{R S:α->c->Prop}
def length{l:List α}{m:List c}(h:bo R l m):cz l=cz m:=by
 induction h with
 |nil=>rfl
 |cons _ _ m=>simp[m]
def mono{l:List α}{m:List c}(u:∀a b,R a b->S a b)(h:bo R l m):bo S l m:=by
 induction h with
 |nil=>exact .nil
 |cons h _ m=>exact .cons (u _ _ h) m
def app{l A:List α}{m u:List c}(h:bo R l m)(a:bo R A u):bo R (l++A) (m++u):=by
 induction h with
 |nil=>exact a
 |cons h _ a=>exact .cons h a
def take{l:List α}{m:List c}(h:bo R l m):∀n,bo R (l.take n) (m.take n):=by
 induction h with
 |nil=>intro n;simpa using .nil
 |cons h _ m=>intro n;cases n with
  |zero=>simpa using .nil
  |succ n=>simpa using .cons h (m n)
def drop{l:List α}{m:List c}(h:bo R l m):∀n,bo R (l.drop n) (m.drop n):=by
 induction h with
 |nil=>intro n;simpa using .nil
 |cons h u m=>intro n;cases n with
  |zero=>simpa using .cons h u
  |succ n=>simpa using m n
def get{l:List α}{m:List c}(h:bo R l m):∀ {i:Nat} {a:α},l[i]?=Z a->∃b,m[i]?=Z b/\R a b:=by
 induction h with
 |nil=>intro i a h;simp at h
 |cons h _ b=>
  intro i a a;cases i with
  |zero=>simp at a;subst a;exact⟨_,Q,h⟩
  |succ i=>simp at a;simpa using b a
def ap6{l:List α} :∀ {m:List c},cz l=cz m->(∀(i:Nat)(a:α)(b:c),l[i]?=Z a->m[i]?=Z b->R a b)->bo R l m:=by
 induction l with
 |nil=>intro m h _;cases m with
  |nil=>exact .nil
  |cons=>simp at h
 |cons a l l=>intro m h u;cases m with
  |nil=>simp at h
  |cons b m=>exact .cons (u 0 a b Q Q) (l (aj h) λi x y C A=>u (i+1) x y (aj C) (aj A))
end bo
structure Fc where
 bZ:Nat
 base:Nat
 len:Nat
 NH:Nat
 room:Nat
abbrev fZ:=Nat->Option Fc
def yo(r:Fc)(o c u:Nat)(b:zG)(a:Nat):Prop:=
 (b=⟨r.bZ,r.base+o,K⟩\/(a=0/\u=0))/\(a=u\/(r.NH≠0/\u<=a/\o+u*r.NH=r.len/\o+a*r.NH<=r.room))/\c<=u
inductive CR(ρ:fZ):aa->aa->Prop
 |bool (b:Bool):CR ρ (dC b) (dC b)
 |int (k:bd) (n:Int):CR ρ (.int k n) (.int k n)
 |str (s:ByteArray):CR ρ (gX s) (gX s)
 |zw:CR ρ (eU K) (eU K)
 |ptr {b o:Nat} {r:Fc} (h:ρ b=Z r):CR ρ (eU (Z ⟨b,o,K⟩)) (eU (Z ⟨r.bZ,r.base+o,K⟩))
 |gQ (n c:Nat):CR ρ (dB K n c) (dB K n c)
 |slice {b o len cap ccap:Nat} {ca:zG} {r:Fc} (h:ρ b=Z r) (hs:yo r o len cap ca ccap):CR ρ (dB (Z ⟨b,o,K⟩) len cap) (dB (Z ca) len ccap)
 |uC:CR ρ (.map K) (.map K)
 |map {m:Nat} {r:Fc} (h:ρ m=Z r):CR ρ (.map (Z m)) (.map (Z r.bZ))
 |vM:CR ρ .nilFunc .nilFunc
 |qE:CR ρ .nilIface .nilIface
inductive KR(ρ:fZ):aa->aa->Prop
 |cell {v c:aa} (h:CR ρ v c):KR ρ v c
 |fn (f:FuncId) {l m:List aa} (h:bo (CR ρ) l m):KR ρ (.func (.func f) #[] ⟨l⟩) (.func (.func f) #[] ⟨m⟩)
 |yield {l:Nat} {r:Fc} (h:ρ l=Z r):KR ρ (.func (.yield l) #[] #[]) (.func (.yield r.bZ) #[] #[])
inductive AR(ρ:fZ):aa->aa->Prop
 |cell {v c:aa} (h:KR ρ v c):AR ρ v c
 |agg {l m:List aa} (h:bo (KR ρ) l m):AR ρ (ix ⟨l⟩) (ix ⟨m⟩)
inductive VR(ρ:fZ):aa->aa->Prop
 |val {v c:aa} (h:AR ρ v c):VR ρ v c
 |tuple {l m:List aa} (h:bo (AR ρ) l m):VR ρ (.tuple ⟨l⟩) (.tuple ⟨m⟩)
 |atl {n m:Nat} (h:n<=m):VR ρ (.chan (Z n)) (fc ft m)
def fZ.le(a c:fZ):Prop:=∀b r,a b=Z r->c b=Z r
def fZ.le_refl(a:fZ):a.le a:=λ_ _ h=>h
def fZ.le_trans{a b c:fZ}(h:a.le b)(d:b.le c):a.le c:=λ_ _ x=>d _ _ (h _ _ x)
section
variable{a d:fZ}{v c:aa}
def CR.mono(u:a.le d)(h:CR a v c):CR d v c:=by
 cases h with
 |bool b=>exact .bool b
 |int k n=>exact .int k n
 |str s=>exact .str s
 |zw=>exact .zw
 |ptr h=>exact .ptr (u _ _ h)
 |gQ n c=>exact .gQ n c
 |slice h A=>exact .slice (u _ _ h) A
 |uC=>exact .uC
 |map h=>exact .map (u _ _ h)
 |vM=>exact .vM
 |qE=>exact .qE
def KR.mono(u:a.le d)(h:KR a v c):KR d v c:=by
 cases h with
 |cell h=>exact .cell (h.mono u)
 |fn f h=>exact .fn f (h.mono λ_ _=>CR.mono u)
 |yield h=>exact .yield (u _ _ h)
def AR.mono(u:a.le d)(h:AR a v c):AR d v c:=by
 cases h with
 |cell h=>exact .cell (h.mono u)
 |agg h=>exact .agg (h.mono λ_ _=>KR.mono u)
def VR.mono(u:a.le d)(h:VR a v c):VR d v c:=by
 cases h with
 |val h=>exact .val (h.mono u)
 |tuple h=>exact .tuple (h.mono λ_ _=>AR.mono u)
 |atl h=>exact .atl h
def CR.vr(h:CR a v c):VR a v c:=.val (.cell (.cell h))
def KR.vr(h:KR a v c):VR a v c:=.val (.cell h)
def VR.undef:VR a (.tuple #[]) (.tuple #[]):=.tuple .nil
def VR.bool(b:Bool):VR a (dC b) (dC b):=(CR.bool b).vr
def VR.int(k:bd)(n:Int):VR a (.int k n) (.int k n):=(CR.int k n).vr
def KR.plain(h:KR a v c):AI.plain v=ck/\AI.plain c=ck:=by
 cases h with
 |cell h=>cases h<;>exact⟨Q,Q⟩
 |fn=>exact⟨Q,Q⟩
 |yield=>exact⟨Q,Q⟩
def CR.vX(h:VR a v c)(u:simple v=ck):CR a v c:=by
 cases h with
 |tuple=>simp[simple] at u
 |atl=>simp[simple] at u
 |val h=>cases h with
  |agg=>simp[simple] at u
  |cell h=>cases h with
   |cell h=>exact h
   |fn=>simp[simple] at u
   |yield=>simp[simple] at u
def KR.Am(h:VR a v c)(u:AI.plain v=ck):KR a v c:=by
 cases h with
 |tuple=>simp[AI.plain] at u
 |atl=>simp[AI.plain] at u
 |val h=>cases h with
  |agg=>simp[AI.plain] at u
  |cell h=>exact h
def Vf(h:KR a v c):cellsOf v=[v]/\c.cells= #[c]:=by
 have:=h.plain;constructor;cases v<;>first|rfl|(simp[AI.plain] at this)
 cases c<;>first|rfl|(simp[AI.plain] at this)
def My{u:List aa}(h:VR a v c)(A:flat v=Z u):bo (KR a) u c.cells.toList:=by
 unfold flat at A;cases u:(cellsOf v).all AI.plain;simp[u] at A
 .simp[u] at A;subst A;cases h with
  |tuple=>simp[cellsOf,AI.plain] at u
  |atl=>simp[cellsOf,AI.plain] at u
  |val h=>cases h with
   |agg h=>simpa [cellsOf,Value.cells] using h
   |cell h=>
    have⟨C,D⟩:=Vf h;rw[C,D];exact .cons h .nil
end
def qe.rw:qe->Bool
 |.bZ _ u _ _=> !u
 |_=>ck
def gh(h:az)(b:Nat):Prop:=∃o,h.tr.get b=Z o/\o.rw=ck
end Go.AI
namespace Go.AI
variable{c U O p q v r z:aa}{W:zG}{E i j L len n off:Nat}{el t:cI}{S:List (aa×aa)}{f:FuncId}{fs:List rW}{B l m vs:List aa}{g V M:Option aT}{X:List gH}{ks:List Nat}{o:cQ}{op:yc}{ops:Array cQ}{F I:Array cI}{N vr:Bool}{w':bQ}{x y:aT}{G H:Type}
def on(b:ea)(a:Act)(u:List Item):ea:= {b with tmps:=a.tmps,todo:=u,defers:=a.defers,mode:=.run}
def acg(b:ea)(a:Act)(u:List Item):(on b a u).eval=a.eval:=by funext x;cases x<;>rfl
section
variable{P:bG}{b:ea}{a:Act}{k:List Item}{cs:List ea}{w:bQ}
def aqJ:step P (lone (on b a (.code .skip::k)) cs w)=.next (lone (on b a k) cs w):=
 cp (by simp[cG,stepG.exec,on])
def al7{l:Nat} :step P (lone (on b a (.code (.label l)::k)) cs w)=.next (lone (on b a k) cs w):=
 cp (by simp[cG,stepG.exec,on])
def ae4{id:Nat} :step P (lone (on b a (.inBlock id::k)) cs w)=.next (lone (on b a k) cs w):=
 cp (by simp[cG,stepG.exec,on])
def ae5{c:G7} :step P (lone (on b a (.inScope c::k)) cs w)=.next (lone (on b a k) cs w):=
 cp (by simp[cG,stepG.exec,on])
def Ud{c:G7} :step P (lone (on b a (.code (.scope c)::k)) cs w)=.next (lone (on b a (.code c:: .inScope c::k)) cs w):=
 cp (by simp[cG,stepG.exec,on])
def aiX{x y:G7} :step P (lone (on b a (.code (.seq x y)::k)) cs w)=.next (lone (on b a (.code x:: .code y::k)) cs w):=
 cp (by simp[cG,stepG.exec,on])
def aiT{c:aT}{x y:G7}{t:Bool}(h:a.eval c=dC t):step P (lone (on b a (.code (.cond c x y)::k)) cs w)=.next (lone (on b a (.code (if t then x else y)::k)) cs w):=
 cp (by have:=acg b a (.code (.cond c x y)::k);simp only[on] at this;simp[cG,stepG.exec,on,this,h])
def Lu{id:Nat}{c:G7} :step P (lone (on b a (.code (.block id c)::k)) cs w)=.next (lone (on b a (.code c:: .inBlock id::k)) cs w):=
 cp (by simp[cG,stepG.exec,on])
def Ub{c:G7} :step P (lone (on b a (.code (.loop c)::k)) cs w)=.next (lone (on b a (.code c:: .inLoop c::k)) cs w):=
 cp (by simp[cG,stepG.exec,on])
def aiV{c:G7} :step P (lone (on b a (.inLoop c::k)) cs w)=.next (lone (on b a (.code c:: .inLoop c::k)) cs w):=
 cp (by simp[cG,stepG.exec,on])
def aqI{id:Nat}{u:List Item}(h:exitTo id k=Z u):step P (lone (on b a (.code (.exit id)::k)) cs w)=.next (lone (on b a u) cs w):=
 cp (by simp[cG,stepG.exec,on,h])
def aiW{id:Nat}{ops:Array cQ} :step P (lone (on b a (.code (.region id ops cd)::k)) cs w)=.next (lone (on b a (.inRegion ops (List.range ops.size)::k)) cs w):=
 cp (by simp[cG,stepG.exec,on])
def aqH{id:Nat}{ops:Array cQ} :step P (lone (on b a (.code (.region id ops ck)::k)) cs w)=
   .next (lone (on b a (.inRegion ops (Region.schedule (P.follows .mixedOrders) ops (w.tape w.drawn (.order b.fn id)))::k)) cs {w with drawn:=w.drawn+1}):=
 cp (by simp[cG,stepG.exec,on,choose,nE,oJ,Question.cut])
def H8 :step P (lone (on b a (.inRegion ops []::k)) cs w)=.next (lone (on b a k) cs w):=
 cp (by simp[cG,stepG.exec,on])
def Du(b:ea)(a:Act)(ops:Array cQ)(i:Nat)(c:List Nat)(k:List Item)(v:aa):(on b a (.inRegion ops (i::c)::k)).finish v=on b (a.put ((ops[i]?).bind (·.dst)) v) (.inRegion ops c::k):=by
 cases h:(ops[i]?).bind (·.dst)<;>simp[Frame.finish,on,Act.put,h]
def Rl{cH:List Nat}(h:((ops[i]?).map (b0 · (yielded ops a.tmps))).getD cd=cd):step P (lone (on b a (.inRegion ops (i::cH)::k)) cs w)=
   .next (lone (on b (a.put ((ops[i]?).bind (·.dst)) undef) (.inRegion ops cH::k)) cs w):=by
 rw[<-Du];exact cp (by have c:=h;simp only[on] at*;simp[cG,stepG.exec,c])
def Op.yS:Op->Bool
 |.defer _=>ck
 |_=>cd
def Ig{c:List Nat}(D:ops[i]?=Z o)(C:b0 o (yielded ops a.tmps)=ck)(u:Op.yS o.op=cd):cG P ck { frame:=on b a (.inRegion ops (i::c)::k),callers:=cs,status:=.running,dying:=K } w=
   stepG.apply P ck (on b a (.inRegion ops (i::c)::k)) cs K (execOp a.eval o) w:=by
 have A:=acg b a (.inRegion ops (i::c)::k);simp only[on] at A;simp only[cG,stepG.exec,stepG.oper,Frame.oper?,on,D,C,A,Eo,Option.getD_some,if_true];split
 .next heq=>rw[heq] at u;simp[Op.yS] at u
 rfl
def Ue{c:List Nat}(A:ops[i]?=Z o)(D:b0 o (yielded ops a.tmps)=ck)(C:Op.yS o.op=cd)(E:(execOp a.eval o).run P w=.ok (.value v) w'):step P (lone (on b a (.inRegion ops (i::c)::k)) cs w)=.next (lone (on b (a.put o.dst v) (.inRegion ops c::k)) cs w'):=by
 refine cp ?_;have u:=Du b a ops i c k v;rw[A] at u;rw[Ig A D C];simp only[r5] at u;rw[<-u];simp[stepG.apply,E]
def acy{c:List Nat}(A:ops[i]?=Z o)(D:b0 o (yielded ops a.tmps)=ck)(C:Op.yS o.op=cd)(E:(execOp a.eval o).run P w=.ok .skip w'):step P (lone (on b a (.inRegion ops (i::c)::k)) cs w)=.next (lone (on b (a.put o.dst undef) (.inRegion ops c::k)) cs w'):=by
 refine cp ?_;have u:=Du b a ops i c k undef;rw[A] at u;rw[Ig A D C];simp only[r5] at u;rw[<-u];simp[stepG.apply,E]
def al6{d:List Nat}{c:Array aa}(C:ops[i]?=Z o)(A:b0 o (yielded ops a.tmps)=ck)(u:Op.yS o.op=cd)(D:(execOp a.eval o).run P w=.ok (.enter f c) w'):step P (lone (on b a (.inRegion ops (i::d)::k)) cs w)=
   .next (lone (Frame.enter P f c .normal) (on b a (.inRegion ops (i::d)::k)::cs) w'):=by
 refine cp ?_;rw[Ig C A u];simp[stepG.apply,D,on]
def al8{e:List Nat}{l f:Nat}{u:Array aa}{c d:G7}(D:ops[i]?=Z o)(C:b0 o (yielded ops a.tmps)=ck)(A:Op.yS o.op=cd)(E:(execOp a.eval o).run P w=.ok (.round l f u c d) w'):step P (lone (on b a (.inRegion ops (i::e)::k)) cs w)=
   .next (lone (Frame.round l f u c d .normal) (on b a (.inRegion ops (i::e)::k)::cs) w'):=by
 refine cp ?_;rw[Ig D C A];simp[stepG.apply,E]
end
def dw:aa->Bool
 |dC _|.int _ _|gX _|eU K|dB K _ _|.map K|.nilFunc|.nilIface=>ck
 |_=>cd
structure TI where
 u:aau
 size:Nat
 bytes:Nat
 zero:List aa
 agg:Bool
abbrev uK:=Nat->Option TI
def pP:aau->Bool
 |.struct _=>ck
 |.array _ _=>ck
 |_=>cd
structure zf(P:bG)(t:Nat)(i:TI):Prop where
 u:P.underlying t=Z i.u
 info:∃ti,P.info? t=Z ti/\ti.size=i.size/\ti.bytes=i.bytes/\∃z,ti.zero=Z z/\z.cells.toList=i.zero
 agg:i.agg=pP i.u
 zero:i.zero.all dw=ck
 plain:i.agg=cd->i.size=1
 len:cz i.zero=i.size
 held:∀fs,i.u=.struct fs->P.stoodInHeld t=cd
 one:i.agg=cd->∀ti z,P.info? t=Z ti->ti.zero=Z z->AI.plain z=ck
def eC(P:bG)(T:uK):Prop:=∀t i,T t=Z i->zf P t i
def se(T:uK):Nat->List rW->Option Nat
 |off,[]=>Z off
 |off,f::fs=>bif an f.offset off then match T f.type with
   |some i=>se T (off+i.size) fs
   |none=>K
  else K
def qB(k:Nat->Option (List Nat)):List rW->Option (List Nat)
 |[]=>Z []
 |f::fs=>bif f.name != "_" then match k f.type,qB k fs with
   |some a,Z b=>Z (a++b)
   |_,_=>K
  else K
def QF(ks:List Nat):Nat->List Nat
 |0=>[]
 |n+1=>ks++QF ks n
def kinds(T:uK):Nat->Nat->Option (List Nat)
 |0,_=>K
 |d+1,t=>match T t with
  |none=>K
  |some i=>match i.u with
   |.bool=>Z [0]
   |.int _=>Z [1]
   |.string=>Z [2]
   |.struct fs=>match se T 0 fs.toList with
    |some n=>bif an n i.size then qB (kinds T d) fs.toList else K
    |none=>K
   |.array n el=>match T el with
    |some e=>bif an (n*e.size) i.size then(match kinds T d el with|some ks=>Z (QF ks n)|none=>K) else K
    |none=>K
   |_=>K
section
variable(T:uK)
def GR(i:TI):Option Nat:=bif i.agg then Z i.size else K
def Dj(c:Call):kW:=
 match c.callee with
 |.value f=>.call f c.args.toList
 |.builtin .len=>match c.args.toList,c.argTypes.toList with
  |[x],[t]=>match T t with
   |some i=>match i.u with|.slice _=>.IF x|.string=>.Xw x|_=>.bad
   |none=>.bad
  |_,_=>.bad
 |.builtin .append=>match c.args.toList,c.argTypes.toList with
  |[s,x],[t,u]=>match T t,T u with
   |some i,Z A=>match i.u with
    |.slice el=>match T el with
     |some e=>match A.u with
      |.int _=>.append e.zero e.bytes ck s x
      |.slice _=>.append e.zero e.bytes cd s x
      |_=>.bad
     |none=>.bad
    |_=>.bad
   |_,_=>.bad
  |_,_=>.bad
 |.builtin .copy=>match c.args.toList,c.argTypes.toList with
  |[d,s],[t,_]=>match T t with
   |some i=>match i.u with
    |.slice el=>match T el with
     |some e=>.copy e.size d s
     |none=>.bad
    |_=>.bad
   |none=>.bad
  |_,_=>.bad
 |.builtin .clear=>match c.args.toList,c.argTypes.toList with
  |[x],[t]=>match T t with
   |some i=>match i.u with
    |.slice el=>match T el with
     |some e=>.clear e.zero x
     |none=>.bad
    |_=>.bad
   |none=>.bad
  |_,_=>.bad
 |.builtin .cap=>match c.args.toList,c.argTypes.toList with
  |[x],[t]=>match T t with
   |some i=>match i.u with|.slice _=>.RO x|_=>.bad
   |none=>.bad
  |_,_=>.bad
 |_=>.bad
def Bj(fs:List rW):List (Nat×aT)->Option (List (Nat×Nat×aT))
 |[]=>Z []
 |(i,x)::r=>match fs[i]? with
  |none=>K
  |some f=>match T f.type,Bj fs r with
   |some u,Z l=>Z ((f.offset,u.size,x)::l)
   |_,_=>K
def dR(o:Op):kW:=
 match o with
 |.move x=>.mv x
 |.assign x=>.mv x
 |.pick c a b=>.pick c a b
 |.alloc t=>match T t with|some i=>.alloc i.zero|none=>.bad
 |.box t x=>match T t with|some _=>.box x|none=>.bad
 |.build t F=>match T t with
  |some i=>match i.u with
   |.struct fs=>bif fs.toList.all λf=>(T f.type).isSome then match Bj T fs.toList F.toList with|some l=>.build i.zero l|none=>.bad else .bad
   |.array _ el=>match T el with
    |some e=>.build i.zero (F.toList.map λp=>(p.1*e.size,e.size,p.2))
    |none=>.bad
   |_=>.bad
  |none=>.bad
 |.buildSlice t n F=>match T t with
  |some i=>match i.u with
   |.slice el=>match T el with
    |some e=>bif na (n*e.size) 1000000&&an (cz e.zero) e.size then .uu n (ky e.zero n) (F.toList.map λp=>(p.1*e.size,e.size,p.2)) else .bad
    |none=>.bad
   |_=>.bad
  |none=>.bad
 |.load t a=>match T t with|some i=>.load (GR i) a|none=>.bad
 |.store t a v=>match T t with|some i=>.store i.size a v|none=>.bad
 |.nilCheck x=>.Bg x
 |.binOp op t x y _=>match op with
  |.eql|.neq=>match T t with
   |some i=>match i.u with
    |.slice _=>.bin op [3] x y
    |.pointer _=>.bin op [4] x y
    |.map _ _=>.bin op [5] x y
    |.func _ _ _=>.bin op [6] x y
    |.struct _=>match kinds T 9 t with|some ks=>.bin op (9::ks) x y|none=>.bad
    |.array _ _=>match kinds T 9 t with|some ks=>.bin op (9::ks) x y|none=>.bad
    |.bool=>.bin op [0] x y
    |.int _=>.bin op [1] x y
    |.string=>.bin op [2] x y
    |_=>.bad
   |none=>.bad
  |_=>.bin op [] x y
 |.unOp op _ x=>.un op x
 |.convert s d x=>match T s,T d with
  |some i,Z j=>match i.u,j.u with
   |.int _,.int k=>.conv k x
   |_,_=>.bad
  |_,_=>.bad
 |.makeFunc (.func f) first C=>bif first.isEmpty then .Tu f C.toList else .bad
 |.makeMap _ K=>.QT
 |.makeSlice t l c=>match T t with
  |some i=>match i.u with
   |.slice el=>match T el with
    |some e=>.tn e.zero e.bytes l c
    |none=>.bad
   |_=>.bad
  |none=>.bad
 |.slice t x V g M=>match T t with
  |some i=>match i.u with
   |.slice el=>match T el with
    |some e=>bif M.isSome&&g.isNone then .bad else .slice e.size x V g M
    |none=>.bad
   |_=>.bad
  |none=>.bad
 |.fieldAddr t x k=>match T t with
  |some i=>match i.u with
   |.struct fs=>match fs[k]? with
    |some f=>match T f.type with
     |some G=>bif an G.size 0 then .bad else .pb f.offset x
     |none=>.bad
    |none=>.bad
   |_=>.bad
  |none=>.bad
 |.indexAddr t x u=>match T t with
  |some i=>match i.u with
   |.slice el=>match T el with|some e=>.tP K e.size x u|none=>.bad
   |.array n el=>match T el with|some e=>.tP (Z n) e.size x u|none=>.bad
   |_=>.bad
  |none=>.bad
 |.index t x u=>match T t with
  |some i=>match i.u with
   |.string=>.index K x u
   |.array n el=>match T el with
    |some e=>.index (Z (n,e.size,GR e)) x u
    |none=>.bad
   |_=>.bad
  |none=>.bad
 |.extract x i=>.ext i x
 |.lookup t x u E=>match T t with
  |some i=>match i.u with
   |.map k el=>match T k,T el with
    |some D,Z A=>match D.u,A.zero,A.agg with
     |.struct _,[z],cd=>match kinds T 9 k with|some ks=>.look (9::ks) z E x u|none=>.bad
     |.array _ _,[z],cd=>match kinds T 9 k with|some ks=>.look (9::ks) z E x u|none=>.bad
     |_,_,_=>.bad
    |_,_=>.bad
   |_=>.bad
  |none=>.bad
 |.mapEntry t m k=>match T t with
  |some i=>match i.u with
   |.map L el=>match T L,T el with
    |some D,Z A=>match D.u,A.zero,A.agg with
     |.struct _,[z],cd=>match kinds T 9 L with|some ks=>.aaj (9::ks) z m k|none=>.bad
     |.array _ _,[z],cd=>match kinds T 9 L with|some ks=>.aaj (9::ks) z m k|none=>.bad
     |_,_,_=>.bad
    |_,_=>.bad
   |_=>.bad
  |none=>.bad
 |.entryStore _ m s x=>.ad6 m s x
 |.call c=>Dj T c
 |_=>.bad
def Sp:aa->Bool
 |ix a=>a.toList.all dw
 |.tuple a=>a.toList.isEmpty
 |v=>dw v
def c_(a:Nat):aT->Bool
 |.const v=>Sp v
 |.global g=>c6 g a
 |_=>ck
def Jw(ops:List cQ)(j:Nat):Option Nat:=match ops[j]? with|some o=>o.dst|none=>K
def zx(a n:Nat)(ops:List cQ)(o:cQ):Bool:=
 (match o.dst with|none=>ck|some d=>c6 d n)&&(match o.guard with|none=>ck|some (j,_)=>(Jw ops j).isSome)&&o.op.operands.toList.all (c_ a)
def guardOf(ops:List cQ)(o:cQ):Option (Nat×Bool):=match o.guard with|none=>K|some (j,b)=>Z ((Jw ops j).getD 0,b)
def cj(a n:Nat)(ops:List cQ)(o:cQ):cr:=
 bif zx a n ops o then { dst:=o.dst,guard:=guardOf ops o,op:=dR T o.op } else { dst:=K,guard:=K,op:=.bad }
def lf:G7->Bool
 |.seq a b=>lf a&&lf b
 |.cond _ a b=>lf a&&lf b
 |.block _ c=>lf c
 |.loop c=>lf c
 |.scope c=>lf c
 |.rangeFunc _ _ _ _=>cd
 |_=>ck
def dJ(a n:Nat)(u:Nat->List cQ->List (cr×List Nat)):G7->aD
 |.skip=>.skip
 |.region _ ops cd=>.ops (ops.toList.map (cj T a n ops.toList))
 |.region _ ops ck=>.draw (u n ops.toList)
 |.seq b d=>.seq (dJ a n u b) (dJ a n u d)
 |.cond c b d=>bif c_ a c then .cond c (dJ a n u b) (dJ a n u d) else .bad
 |.block id c=>.block id (dJ a n u c)
 |.loop c=>.loop (dJ a n u c)
 |.scope c=>dJ a n u c
 |.label _=>.skip
 |.rangeFunc f F b d=>bif c_ a f&&F.toList.all (c6 · n)&&lf b&&lf d then .Xe f F.toList (dJ a n u b) (dJ a n u d) else .bad
 |.exit id=>.exit id
 |.ret=>.ret
 |_=>.bad
end
def ER(a:fZ)(e:Env)(u:Array aa):Prop:=∀t,VR a (bY e t) (u.getD t undef)
def Rz:Ys->Loop->Prop
 |.ready,L=>L.state=.ready/\L.pending=K
 |.busy,L=>L.state=.busy
 |.done K,L=>L.state=.done/\L.pending=Z .ret
 |.done (Z id),L=>L.state=.done/\L.pending=Z (.exit id)
def afS(b:fZ)(r:Fc)(a:List aa)(d:Bool)(o:Nat)(w:bQ):Prop:=
 ∃(B:Array aa) (el:cI) (u:Nat×Nat),w.heap[r.bZ]?=Z (.cells B el u)/\r.len=cz a/\r.NH=o/\(r.base+r.room=B.size/\(o≠0->∀(j:Nat)(c:aa),r.len<=j->B[r.base+j]?=Z c->dw c=ck))/\(d=cd->u=(0,0))/\∀(j:Nat)(v:aa),a[j]?=Z v->∃c,B[r.base+j]?=Z c/\KR b v c
abbrev dH:=Nat->aD->G7->Prop
def af0(a:dH)(c:fZ)(r:Fc)(u:Env)(F:List Nat)(b d:aD)(e:Ys)(w:bQ):Prop:=
 ∃L:Loop,w.heap[r.bZ]?=Z (.loop L)/\ER c u L.tmps/\L.params.toList=F/\a L.tmps.size b L.assign/\a L.tmps.size d L.body/\(∀t∈F,t<L.tmps.size)/\Rz e L
def asm(a:fZ)(r:Fc)(S:List (aa×aa))(w:bQ):Prop:=
 ∃(X:Array gH) (b:Nat),w.heap[r.bZ]?=Z (.map X b)/\bo (λ(x:aa×aa) (y:gH)=>AR a x.1 y.key/\AR a x.2 y.val) S X.toList/\b=X.size/\∀(i:Nat)(y:gH),X[i]?=Z y->y.born=i
def jR(b:dH)(a:fZ)(r:Fc)(o:qe)(w:bQ):Prop:=
 match o with
 |.bZ A D op _=>afS a r A D op w
 |.loop C F A u D=>af0 b a r C F A u D w
 |.map S=>asm a r S w
 |.itr=>r.base=0/\w.heap[r.bZ]?=Z (.mapIter K 0 #[] 0)
structure ff(CC:dH)(ρ:fZ)(h:az)(w:bQ):Prop where
 low:∀b r,ρ b=Z r->b<h.aw/\r.bZ<w.heap.size
 obj:∀b r o,ρ b=Z r->h.tr.get b=Z o->jR CC ρ r o w
 inj:∀b b' r r' o,ρ b=Z r->ρ b'=Z r'->gh h b->h.tr.get b'=Z o->b≠b'->r.bZ≠r'.bZ
 wf:∀b o,h.tr.get b=Z o->b<h.aw
structure Ext(ρ:fZ)(h:az)(w:bQ)(ρ':fZ)(h':az)(w':bQ):Prop where
 le:ρ.le ρ'
 aw:h.aw<=h'.aw
 size:w.heap.size<=w'.heap.size
 os:w'.os=w.os
 tape:w'.tape=w.tape
 output:w'.output=w.output
 Ag:∀k,k<w.heap.size->(∀b r,ρ b=Z r->gh h b->r.bZ≠k)->w'.heap[k]?=w.heap[k]?
 own:∀b r,ρ' b=Z r->gh h' b->w.heap.size<=r.bZ\/∃b₀ r₀,ρ b₀=Z r₀/\gh h b₀/\r₀.bZ=r.bZ
 new:∀b r,ρ' b=Z r->ρ b=K->h.aw<=b
 live:∀b r o,ρ' b=Z r->h'.tr.get b=Z o->w.heap.size<=r.bZ\/∃b₀ r₀ o₀,ρ b₀=Z r₀/\h.tr.get b₀=Z o₀/\r₀.bZ=r.bZ
def Ext.refl(b:fZ)(h:az)(w:bQ):Ext b h w b h w:=
 ⟨b.le_refl,fq _,fq _,Q,Q,Q,λ_ _ _=>rfl,λb r u A=>kd ⟨b,r,u,A,Q⟩,λb r h a=>(by rw[h] at a;cases a),λb r o u C=>kd ⟨b,r,o,u,C,Q⟩⟩
def Ext.trans{u I k:fZ}{h W D:az}{w A c:bQ}(a:Ext u h w I W A)(b:Ext I W A k D c):Ext u h w k D c:=by refine⟨fZ.le_trans a.le b.le,qN a.aw b.aw,qN a.size b.size,b.os.trans a.os,b.tape.trans a.tape,b.output.trans a.output,?_,?_,?_,?_⟩;intro k A H;rw[b.Ag k (OD A a.size) ?_,a.Ag k A H];intro x r A M e;rcases a.own x r A M with h|⟨G,D,E,N,u⟩;omega;exact H G D E N (u.trans e);intro x r A M;rcases b.own x r A M with h|⟨G,D,E,N,u⟩;exact jZ (qN a.size h);rcases a.own G D E N with h|⟨c,V,C,k,U⟩;exact jZ (u▸h);exact kd ⟨c,V,C,k,U.trans u⟩;intro x r A H;rcases C:I x with _|k;exact qN a.aw (b.new x r A C);exact a.new x k C H;intro x r o A k;rcases b.live x r o A k with h|⟨G,D,A,E,b,u⟩;exact jZ (qN a.size h);rcases a.live G D A E b with h|⟨c,V,b,C,O,U⟩;exact jZ (u▸h);exact kd ⟨c,V,b,C,O,U.trans u⟩
def ER.mono{a b:fZ}{e:Env}{u:Array aa}(A:a.le b)(h:ER a e u):ER b e u:=λt=>(h t).mono A
def eB(b:Nat)(a:fZ):Prop:=∀g,g<b->∃r,a g=Z r/\r.bZ=g/\r.base=0
def kA{a:fZ}(h:dw v=ck):CR a v v:=by unfold dw at h;split at h;exact .bool _;exact .int _ _;exact .str _;exact .zw;exact .gQ _ _;exact .uC;exact .vM;exact .qE;cases h
def fQ{ρ:fZ} :∀ {l:List aa},l.all dw=ck->bo (KR ρ) l l
 |[],_=>.nil
 |v::l,h=>by simp only[ef,oD] at h;exact .cons (.cell (kA h.1)) (fQ h.2)
def Vj{a:fZ}(h:Sp v=ck):VR a v v:=by
 unfold Sp at h;split at h;rename_i a;exact .val (.agg (fQ h))
 .rename_i a;have⟨l⟩:=a;cases l with
  |nil=>exact .tuple .nil
  |cons=>simp at h
 exact(kA h).vr
def ER.eval{b:Nat}{u:fZ}{e:Env}{a:Act}(h:ER u e a.tmps)(E:eB b u):∀ {x:aT},c_ b x=ck->VR u (ev e x) (a.eval x)
 |.tmp t,_=>h t
 |.const _,u=>Vj u
 |.global g,u=>by have⟨r,A,D,C⟩:=E g (by simpa [c_,fa] using u);have:=CR.ptr (o:=0) A;rw[D,C] at this;exact this.vr
 |.func f,_=>(KR.fn f (l:=[]) (m:=[]) .nil).vr
def Ao(h:plain v=ck):v.oneCell'=ck:=by cases v<;>first|rfl|(simp[plain] at h)
def tv(b o n:Nat):(⟨b,o,K⟩:zG).add n=⟨b,o+n,K⟩:=by unfold Addr.add;split<;>simp_all
section
variable{P:bG}{d:dH}{ρ e:fZ}{h:az}{w w':bQ}
def jR.mono{r:Fc}{o:qe}(G:ρ.le e)(E:w'.heap[r.bZ]?=w.heap[r.bZ]?)(u:jR d ρ r o w):jR d e r o w':=by
 cases o with
 |bZ s V op s=>
  have⟨B,el,U,C,A,D,a,b,O⟩:=u;exact⟨B,el,U,E.trans C,A,D,a,b,λj v N=>let⟨c,hc,hr⟩:=O j v N;⟨c,hc,hr.mono G⟩⟩
 |loop b F M H b=>
  have⟨L,C,A,D⟩:=u;exact⟨L,E.trans C,A.mono G,D⟩
 |map S=>
  have⟨X,I,C,A,D⟩:=u;exact⟨X,I,E.trans C,A.mono λ_ _ ⟨a,b⟩=>⟨a.mono G,b.mono G⟩,D⟩
 |itr=>exact⟨u.1,E.trans u.2⟩
def eB.mono{a:Nat}(A:ρ.le e)(u:eB a ρ):eB a e:=λg C=>let⟨r,h,x⟩:=u g C;⟨r,A _ _ h,x⟩
structure Bq(k:Nat)(w w':bQ):Prop where
 os:w'.os=w.os
 tape:w'.tape=w.tape
 output:w'.output=w.output
 size:w'.heap.size=w.heap.size
 other:∀j,j≠k->w'.heap[j]?=w.heap[j]?
def Bq.row(g:Nat)(a:Array aa):Bq g w (w.setRow g a):=⟨Q,Q,Q,J,λj u=>setRow_other w g j a u⟩
def Bq.obj(g:Nat)(o:Obj):Bq g w {w with heap:=w.heap.setIfInBounds g o} :=
 ⟨Q,Q,Q,J,λj u=>by simp[cE u]⟩
def ff.drawn(S:ff d ρ h w)(n:Nat):ff d ρ h {w with drawn:=n} :=
 ⟨S.low,λb r o A u=>jR.mono ρ.le_refl (w':= {w with drawn:=n}) Q (S.obj b r o A u),S.inj,S.wf⟩
def Ext.drawn(n:Nat):Ext ρ h w ρ h {w with drawn:=n} :=
 ⟨ρ.le_refl,fq _,fq _,Q,Q,Q,λ_ _ _=>rfl,λb r u A=>kd ⟨b,r,u,A,Q⟩,λb r h a=>(by rw[h] at a;cases a),λb r o u C=>kd ⟨b,r,o,u,C,Q⟩⟩
def ff.clock(S:ff d ρ h w)(n:Nat):ff d ρ {h with clock:=n} w:=⟨S.low,S.obj,S.inj,S.wf⟩
def Ext.clock(n:Nat):Ext ρ h w ρ {h with clock:=n} w:=
 ⟨ρ.le_refl,fq _,fq _,Q,Q,Q,λ_ _ _=>rfl,λb r u A=>kd ⟨b,r,u,A,Q⟩,λb r h a=>(by rw[h] at a;cases a),λb r o u C=>kd ⟨b,r,o,u,C,Q⟩⟩
def ff.py(S:ff d ρ h w){b:Nat}{r:Fc}{o o':qe}(M:ρ b=Z r)(I:h.tr.get b=Z o)(a:o.rw=ck)(D:Bq r.bZ w w')(N:jR d ρ r o' w')(n:Nat):ff d ρ {h with clock:=n,tr:=h.tr.set b o'} w'/\Ext ρ h w ρ {h with clock:=n,tr:=h.tr.set b o'} w':=by
 have O:gh h b:=⟨o,I,a⟩;have a:∀x,gh {h with clock:=n,tr:=h.tr.set b o'} x->gh h x:=by rintro x⟨p,u,C⟩;simp only[Tr.bN] at u;by_cases A:x=b;subst A;exact O;rw[bM A] at u;exact⟨p,u,C⟩
 refine⟨⟨λx C A=>⟨(S.low x C A).1,by rw[D.size];exact(S.low x C A).2⟩,?_,?_,λx p u=>?_⟩,⟨ρ.le_refl,fq _,S7 D.size.symm,D.os,D.tape,D.output,?_,?_,?_,?_⟩⟩
 rotate_left 2
 simp only[Tr.bN] at u;by_cases A:x=b;subst A;exact S.wf _ _ I;rw[bM A] at u;exact S.wf x p u
 rotate_left 4
 intro x C p A u;simp only[Tr.bN] at u;by_cases E:x=b;subst E;rw[bK rfl] at u;cases u;rw[M] at A;cases A;exact N;rw[bM E] at u;exact jR.mono ρ.le_refl (D.other _ (S.inj b x r C p M A O u (cE E)).symm) (S.obj x C p A u);intro x y C W p A V H u U;simp only[Tr.bN] at u;by_cases G:y=b;subst G;exact S.inj x y C W o A V (a x H) I U;rw[bM G] at u;exact S.inj x y C W p A V (a x H) u U;intro k _ c;exact D.other k (λe=>c b r M O e.symm);intro x C A H;exact kd ⟨x,C,A,a x H,Q⟩;intro x C c a;rw[c] at a;cases a;intro x C p A u;simp only[Tr.bN] at u;by_cases E:x=b;subst E;exact kd ⟨x,C,o,A,I,Q⟩;rw[bM E] at u;exact kd ⟨x,C,p,A,u,Q⟩
def lv(ρ:fZ)(b:Nat)(r:Fc):fZ:=λx=>if x=b then Z r else ρ x
def yZ{b:Nat}{r:Fc}(A:ρ b=K):ρ.le (lv ρ b r):=by intro x C u;unfold lv;by_cases h:x=b;subst h;rw[A] at u;cases u;rw[bM h];exact u
def ff.fresh(S:ff d ρ h w):ρ h.aw=K:=by rcases e:ρ h.aw with _|r;rfl;have:=(S.low _ _ e).1;omega
def ff.add(S:ff d ρ h w){o:qe}{co:Obj}{im:Fc}(a:im.bZ=w.heap.size)(O:jR d (lv ρ h.aw im) im o (w.alloc co)):ff d (lv ρ h.aw im) (h.new o) (w.alloc co)/\Ext ρ h w (lv ρ h.aw im) (h.new o) (w.alloc co):=by
 have M:=yZ (r:=im) S.fresh;have b:(w.alloc co).heap.size=w.heap.size+1:=Array.size_push _;have E:∀k,k<w.heap.size->(w.alloc co).heap[k]?=w.heap[k]? :=by intro k D;show(w.heap.push co)[k]?=_;rw[ki,bM ab]
 have G:∀x A,lv ρ h.aw im x=Z A->(x=h.aw/\A=im)\/(x≠h.aw/\ρ x=Z A):=by intro x A u;unfold lv at u;by_cases e:x=h.aw;rw[bK e] at u;cases u;exact jZ ⟨e,Q⟩;rw[bM e] at u;exact kd ⟨e,u⟩
 have H:∀x,(h.new o).tr.get x=if x=h.aw then Z o else h.tr.get x:=λx=>Tr.bN _ _ _ _
 refine⟨⟨?_,?_,?_,λx p C=>?_⟩,⟨M,?_,ab,Q,Q,Q,λk D _=>E k D,?_,?_,?_⟩⟩
 rotate_left 3
 rw[H] at C;by_cases e:x=h.aw;subst e;simp[az.new];rw[bM e] at C;have:=S.wf x p C;simp only[az.new];omega
 rotate_left 4
 intro x A u;rcases G x A u with⟨rfl,rfl⟩|⟨D,u⟩;exact⟨by simp[az.new],by rw[b,a];omega⟩;have:=S.low x A u;exact⟨by simp only[az.new];omega,ab⟩
 intro x A p u C;rw[H] at C;rcases G x A u with⟨rfl,rfl⟩|⟨D,u⟩;rw[bK rfl] at C;cases C;exact O;rw[bM D] at C;exact jR.mono M (E _ (S.low x A u).2) (S.obj x A p u C);intro x y A b p u c U C D;rw[H] at C;rcases G x A u with⟨k,g⟩|⟨V,I⟩<;>rcases G y b c with⟨f,W⟩|⟨N,c⟩;exact absurd (k.trans f.symm) D;have:=(S.low y b c).2;rw[g,a];omega;have:=(S.low x A I).2;rw[W,a];omega;rw[bM N] at C;have⟨q,k,a⟩:=U;rw[H,bM V] at k;exact S.inj x y A b p I c ⟨q,k,a⟩ C D
 simp[az.new];intro x A u U;rcases G x A u with⟨rfl,rfl⟩|⟨D,u⟩;exact jZ ab;have⟨q,k,a⟩:=U;rw[H,bM D] at k;exact kd ⟨x,A,u,⟨q,k,a⟩,Q⟩;intro x A u a;rcases G x A u with⟨rfl,rfl⟩|⟨D,u⟩;exact fq _;rw[u] at a;cases a;intro x A p u C;rcases G x A u with⟨rfl,rfl⟩|⟨D,u⟩;exact jZ ab;rw[H,bM D] at C;exact kd ⟨x,A,p,u,C,Q⟩
def ff.less(S:ff d ρ h w)(b:Nat):ff d ρ {h with tr:=h.tr.del b} w/\Ext ρ h w ρ {h with tr:=h.tr.del b} w:=by
 have A:∀x p,({h with tr:=h.tr.del b} :az).tr.get x=Z p->h.tr.get x=Z p:=by intro x p u;simp only[Tr.mT] at u;by_cases e:x=b;rw[bK e] at u;cases u;rwa [bM e] at u
 refine⟨⟨S.low,λx r o u H=>S.obj x r o u (A x o H),λx y M N p u I ⟨q,D,E⟩ C b=>S.inj x y M N p u I ⟨q,A x q D,E⟩ (A y p C) b,λx p C=>S.wf x p (A x p C)⟩,⟨ρ.le_refl,fq _,fq _,Q,Q,Q,λ_ _ _=>rfl,λx r u ⟨q,D,E⟩=>kd ⟨x,r,u,⟨q,A x q D,E⟩,Q⟩,λx r D G=>(by rw[D] at G;cases G),λx r p u C=>kd ⟨x,r,p,u,A x p C,Q⟩⟩⟩
def ff.move(S:ff d ρ h w){b:Nat}{r im:Fc}{o u:qe}(I:ρ b=Z r)(i:h.tr.get b=Z o)(a:o.rw=ck)(U:im.bZ=r.bZ)(H:Bq r.bZ w w')(g:jR d (lv ρ h.aw im) im u w'):ff d (lv ρ h.aw im) (({h with tr:=h.tr.del b} :az).new u) w'/\Ext ρ h w (lv ρ h.aw im) (({h with tr:=h.tr.del b} :az).new u) w':=by
 have c:gh h b:=⟨o,i,a⟩;have V:=yZ (r:=im) S.fresh;have a:∀x D,lv ρ h.aw im x=Z D->(x=h.aw/\D=im)\/(x≠h.aw/\ρ x=Z D):=by intro x D A;unfold lv at A;by_cases e:x=h.aw;rw[bK e] at A;cases A;exact jZ ⟨e,Q⟩;rw[bM e] at A;exact kd ⟨e,A⟩
 have f:∀x,(({h with tr:=h.tr.del b} :az).new u).tr.get x=if x=h.aw then Z u else if x=b then K else h.tr.get x:=by intro x;simp only[az.new,Tr.bN,Tr.mT]
 have C:∀x p,x≠h.aw->(({h with tr:=h.tr.del b} :az).new u).tr.get x=Z p->x≠b/\h.tr.get x=Z p:=by intro x p A u;rw[f,bM A] at u;by_cases e:x=b;rw[bK e] at u;cases u;rw[bM e] at u;exact⟨e,u⟩
 refine⟨⟨?_,?_,?_,λx p u=>?_⟩,⟨V,by simp[az.new],S7 H.size.symm,H.os,H.tape,H.output,?_,?_,?_,?_⟩⟩
 rotate_left 3
 rw[f] at u;by_cases e:x=h.aw;subst e;simp[az.new];rw[bM e] at u;by_cases j:x=b;rw[bK j] at u;cases u;rw[bM j] at u;have:=S.wf x p u;simp only[az.new];omega
 rotate_left 4
 intro x D A;rcases a x D A with⟨rfl,rfl⟩|⟨G,A⟩;exact⟨by simp[az.new],by rw[U,H.size];exact(S.low b r I).2⟩;have:=S.low x D A;exact⟨by simp only[az.new];omega,by rw[H.size];exact this.2⟩
 intro x D p A u;rcases a x D A with⟨rfl,rfl⟩|⟨G,A⟩;rw[f,bK rfl] at u;cases u;exact g;have⟨f,u⟩:=C x p G u;exact jR.mono V (H.other _ (S.inj b x r D p I A c u (cE f)).symm) (S.obj x D p A u);intro x y D j p A s g u G;have⟨q,E,W⟩:=g;rcases a x D A with⟨m,n⟩|⟨k,l⟩<;>rcases a y j s with⟨t,s⟩|⟨N,M⟩;exact absurd (m.trans t.symm) G;have⟨O,u⟩:=C y p N u;rw[n,U];exact S.inj b y r j p I M c u (cE O);have⟨f,E⟩:=C x q k E;rw[s,U];exact S.inj x b D r o l I ⟨q,E,W⟩ i f;have⟨f,E⟩:=C x q k E;have⟨O,u⟩:=C y p N u;exact S.inj x y D j p l M ⟨q,E,W⟩ u G;intro k _ l;exact H.other k (λe=>l b r I c e.symm);intro x D A g;have⟨q,E,W⟩:=g;rcases a x D A with⟨rfl,rfl⟩|⟨G,A⟩;exact kd ⟨b,r,I,c,U.symm⟩;have⟨_,E⟩:=C x q G E;exact kd ⟨x,D,A,⟨q,E,W⟩,Q⟩;intro x D A c;rcases a x D A with⟨rfl,rfl⟩|⟨G,A⟩;exact fq _;rw[A] at c;cases c;intro x D p A u;rcases a x D A with⟨rfl,rfl⟩|⟨G,A⟩;exact kd ⟨b,r,o,I,i,U.symm⟩;have⟨_,u⟩:=C x p G u;exact kd ⟨x,D,p,A,u,Q⟩
def H0(S:ff d ρ h w){b off n:Nat}{r:Fc}{a:List aa}(G:ρ b=Z r)(C:cy h b off n=Z a):cz a=n/\∃B:List aa,bo (KR ρ) a B/\∀(j:Nat)(v:aa),B[j]?=Z v->w.cell? ((⟨r.bZ,r.base+off,K⟩:zG).add j)=Z v:=by
 unfold cy at C;split at C
 .rename_i a D op s I;by_cases D:cz ((a.drop off).take n)=n
  .simp only[D,kt] at C;simp only[if_true,oy] at C;subst C;refine⟨D,?_⟩;have⟨B,el,V,f,_,_,_,_,M⟩:=S.obj b r _ G I;have H:∀(j:Nat)(v:aa),((a.drop off).take n)[j]?=Z v->∃c,B[r.base+off+j]?=Z c/\KR ρ v c:=by intro j v u;rw[A0] at u;split at u;rw[gw] at u;have⟨c,A,E⟩:=M _ _ u;exact⟨c,by rw[<-A];congr 1;omega,E⟩;cases u
   refine⟨(B.toList.drop (r.base+off)).take n,?_,?_⟩
   .refine bo.ap6 ?_ ?_;rw[D];by_cases N:n=0;subst N;simp;have:((a.drop off).take n)[n-1]?=Z ((a.drop off).take n)[n-1]:=jh ab;have⟨c,A,_⟩:=H _ _ this;have b:=(db.1 A).1;simp;omega
    .intro i e c b A;have⟨U,O,E⟩:=H i e b;rw[A0] at A;split at A
     .rw[gw] at A;have:B.toList[r.base+off+i]?=Z U:=aj O
      rw[this] at A;cases A;exact E
     cases A
   .intro j v u;rw[A0] at u;split at u
    .rw[gw] at u;rw[tv];have:B[r.base+off+j]?=Z v:=aj u
     simp[World.cell?,f,this]
    cases u
  .have:an (cz ((a.drop off).take n)) n=cd:=by cases G:an (cz ((a.drop off).take n)) n;rfl;exact absurd (sq G) D
   simp only[this] at C;simp at C
 cases C
def EZ{a vs:List aa}(h:off+cz vs<=cz a):cz (aX a off vs)=cz a:=by simp[aX];omega
def pS{cs vs:List aa}(h:off+cz vs<=cz cs):(aX cs off vs)[j]?=if off<=j/\j<off+cz vs then vs[j-off]? else cs[j]? :=by unfold aX;by_cases u:j<off;rw[bM ab,MD,MG (by simp;omega),A0,bK u];by_cases A:j<off+cz vs;rw[bK ⟨ab,A⟩,MD,OC (by simp;omega),gv,lE ab,MG ab];rw[bM ab,OC (by simp;omega),X0,gv,lE ab,gw];congr 1;omega
def DP(S:ff d ρ h w){b off:Nat}{r:Fc}{vs u:List aa}{p:az}(E:ρ b=Z r)(C:gK h b off vs=Z p)(U:bo (KR ρ) vs u):∃w',(storeCells ⟨r.bZ,r.base+off,K⟩ u).run P w=.ok () w'/\ff d ρ p w'/\Ext ρ h w ρ p w':=by
 unfold gK at C;split at C
 .rename_i o op s a;by_cases H:off+cz vs<=cz o
  .rw[bK (qV H)] at C;cases C;have⟨B,el,n,q,W,p,N,m,M⟩:=S.obj b r _ E a;have I:n=(0,0):=m rfl;subst I;have F:=U.length;by_cases b:cz vs=0
   .have O:vs=[]:=AN b;have n:u=[]:=AN ab;subst O;subst n;refine⟨w,Q,ff.py S E a Q ⟨Q,Q,Q,Q,λ_ _=>rfl⟩ ?_ _⟩;have:aX o off []=o:=by simp[aX]
    rw[this];exact⟨B,el,(0,0),q,W,p,N,m,M⟩
   have z:r.base+off+0+cz u<=B.size:=by have:o[off+cz vs-1]?=Z o[off+cz vs-1]:=jh ab;have⟨c,A,_⟩:=M _ _ this;have X:=(db.1 A).1;omega
   have L:=run_storeCells_at (P:=P) r.bZ (r.base+off) el u 0 B w q z (λv X=>by have⟨i,g⟩:=iG X;have l:vs[i]?=Z (vs[i]'(by rw[F];exact(cY.1 g).1)):=jh _;have⟨c,A,G⟩:=U.get l;rw[g] at A;cases A;exact Ao G.plain.2);refine⟨_,L,?_⟩;refine ff.py S E a rfl (Bq.row _ _) ?_ _;have V:B.toList.take (r.base+off+0)++u++B.toList.drop (r.base+off+0+cz u)=aX B.toList (r.base+off) u:=by simp[aX]
   refine⟨_,el,(0,0),setRow_heap w r.bZ B _ el _ q,by rw[EZ H];exact W,p,⟨?_,?_⟩,λ_=>rfl,?_⟩
   rotate_left 1
   intro f j c D A;rw[V] at A;simp only[lI] at A;rw[pS (aj z),bM ab] at A;exact N.2 f j c D (aj A)
   rotate_left 1
   rw[N.1];simp only[F4,X0,gv,List.length_drop,Af];omega;intro j v D;rw[pS H] at D;rw[V];have p:=pS (cs:=B.toList) (vs:=u) (off:=r.base+off) (j:=r.base+j) (aj z);simp only[lI];rw[p];by_cases q:off<=j/\j<off+cz vs
   rw[bK q] at D;rw[bK ab];have⟨c,A,G⟩:=U.get D;exact⟨c,by rw[<-A];congr 1;omega,G⟩;rw[bM q] at D;rw[bM ab];have⟨c,A,G⟩:=M j v D;exact⟨c,aj A,G⟩
  .have:na (off+cz vs) (cz o)=cd:=by cases E:na (off+cz vs) (cz o);rfl;exact absurd (Uz E) H
   rw[this] at C;simp at C
 cases C
end
def Out(e:dH)(d:fZ)(h:az)(w:bQ)(v:aa)(b:az)(r:zp lY):Prop:=
 ∃a w' c,(r=.ok (.value c) w'\/(c=undef/\r=.ok .skip w'))/\VR a v c/\ff e a b w'/\Ext d h w a b w'
section
variable{P:bG}{d:dH}{ρ:fZ}{h:az}{w:bQ}{T:uK}{ng:Nat}{e:Env}{a:Act}
def Out.same(S:ff d ρ h w){r:zp lY}(A:r=.ok (.value c) w)(u:VR ρ v c):Out d ρ h w v h r:=
 ⟨ρ,w,c,jZ A,u,S,.refl ρ h w⟩
def fG{s:Sem aa}(u:s.run P w=.ok c w'):((do pure (bI (<-s))):Sem lY).run P w=.ok (.value c) w':=by simp[u]
def Fh{l:Array G}{x:G}(h:l[i]?=Z x):i<l.size:=(db.1 h).1
def PX(w:bQ)(o:Obj):(w.alloc o).heap[w.heap.size]?=Z o:=by show(w.heap.push o)[w.heap.size]?=Z o;simp
def HM(S:ff d ρ h w){A B cH:List aa}(E:bo (KR ρ) A B)(el:Nat)(C:Nat)(I:C≠0->∀c∈cH,dw c=ck):∃u:Fc,u.bZ=w.heap.size/\u.base=0/\u.len=cz A/\u.NH=C/\u.room=cz (B++cH)/\ff d (lv ρ h.aw u) (aJ h A C) (w.alloc (.cells ⟨B++cH⟩ el))/\Ext ρ h w (lv ρ h.aw u) (aJ h A C) (w.alloc (.cells ⟨B++cH⟩ el)):=by
 refine⟨⟨w.heap.size,0,cz A,C,cz (B++cH)⟩,Q,Q,Q,Q,Q,?_⟩;refine ff.add S rfl ?_;refine⟨_,_,_,PX w _,Q,Q,⟨IV _,?_⟩,λ_=>rfl,?_⟩;intro G j c D A;dsimp only at D A;rw[show(⟨B++cH⟩:Array aa)[0+j]?=(B++cH)[0+j]? by simp,IV,OC (by rw[<-E.length];exact D)] at A;exact I G c (cO A);intro j v D;have⟨c,A,H⟩:=E.get D;refine⟨c,?_,H.mono (yZ S.fresh)⟩;show(⟨B++cH⟩:Array aa)[0+j]?=Z c;rw[show(⟨B++cH⟩:Array aa)[0+j]?=(B++cH)[0+j]? by simp,IV,MG (cY.1 A).1,A]
def wh(ρ:fZ)(b:Nat)(r:Fc):lv ρ b r b=Z r:=by simp[lv]
def aco{a:Fc}(u:a.bZ=w.heap.size)(b:a.base=0):VR (lv ρ h.aw a) (eU (Z ⟨h.aw,0,K⟩)) (eU (Z ⟨w.heap.size,0,K⟩)):=by have:=CR.ptr (ρ:=lv ρ h.aw a) (o:=0) (wh ρ h.aw a);rw[u,b] at this;exact this.vr
def N9(el:cI)(v:aa):(newVar el v).run P w=.ok ⟨w.heap.size,0,K⟩ (w.alloc (.cells v.cells el)):=Q
def AB{t:Nat}{i:TI}(g:zf P t i):∃z,(eG t).run P w=.ok z w/\z.cells.toList=i.zero:=by have⟨D,u,_,_,z,A,C⟩:=g.info;exact⟨z,by simp[eG,fe,u,A],C⟩
def iQ{t:Nat}{i:TI}(g:zf P t i):(oE t).run P w=.ok i.size w/\P.cellsOf t=i.size:=by have⟨C,u,A,_⟩:=g.info;exact⟨by simp[oE,fe,u,A],by simp[D6,u,A]⟩
def vV{t:Nat}{i:TI}(g:zf P t i):(isAgg t).run P w=.ok i.agg w:=by simp only[isAgg,qO,pJ g.u,si,g.agg];cases i.u<;>rfl
def agh(v:aa)(l:List aa)(h:v.cells.toList=l):v.cells=⟨l++[]⟩:=by
 cases u:v.cells with
 |mk x=>rw[u] at h;simp at h;simp[h]
def ail(S:ff d ρ h w){t:Nat}{i:TI}(g:zf P t i):Out d ρ h w (eU (Z ⟨h.aw,0,K⟩)) (aJ h i.zero 0) (((do pure (bI (<-RB t ck (.tuple #[])))):Sem lY).run P w):=by
 have⟨z,G,C⟩:=AB (w:=w) g;have⟨H,E,D,_,_,_,A,u⟩:=HM (cH:=[]) S (fQ g.zero) t 0 (λh=>absurd Q h);rw[<-agh z _ C] at A u;refine⟨_,_,_,jZ (fG ?_),aco E D,A,u⟩;simp[RB,G,N9]
def aqe(S:ff d ρ h w){t:Nat}(D:VR ρ v c)(C:flat v=Z vs):Out d ρ h w (eU (Z ⟨h.aw,0,K⟩)) (aJ h vs 0) (((do pure (bI (<-V8 t c))):Sem lY).run P w):=by
 have⟨H,G,E,_,_,_,A,u⟩:=HM (cH:=[]) S (My D C) t 0 (λh=>absurd Q h);rw[<-agh c _ rfl] at A u;refine⟨_,_,_,jZ (fG ?_),aco G E,A,u⟩;simp[V8,N9]
def ach(S:ff d ρ h w){t:Nat}{i:TI}(g:zf P t i){b off:Nat}{r:Fc}{m:List aa}(M:ρ b=Z r)(p:cy h b off (width (GR i))=Z m)(u:agg (GR i) m=Z v):∃c,(loadVar t ⟨r.bZ,r.base+off,K⟩).run P w=.ok c w/\VR ρ v c:=by
 have⟨A,B,D,G⟩:=H0 S M p;have j:=(iQ (w:=w) g).1;cases C:i.agg
 .simp only[GR,C,A8,width] at A u
  match m,B,D,A with
  |[x],[y],.cons I .nil,_=>
   simp only[agg,oy] at u;subst u;have E:=G 0 y rfl;rw[tv,A1] at E;refine⟨y,?_,I.vr⟩;simp[loadVar,vV g,C,E]
 simp only[GR,C,jv,width] at A u;have H:=D.length;simp only[agg,A,kt,if_true,oy] at u;subst u;refine⟨ix B.toArray,?_,.val (.agg D)⟩;simp only[loadVar,qO,vV g,C,si,if_true,j];rw[<-A,H,run_loadCells_list w _ B G];rfl
def air(S:ff d ρ h w){t:Nat}{i:TI}(g:zf P t i){b off:Nat}{r:Fc}{a:az}(f:ρ b=Z r)(I:VR ρ v c)(E:flat v=Z vs)(e:cz vs=i.size)(C:gK h b off vs=Z a):∃w',(storeVar t ⟨r.bZ,r.base+off,K⟩ c).run P w=.ok () w'/\ff d ρ a w'/\Ext ρ h w ρ a w':=by
 have u:=My I E;obtain⟨w',A,D,G⟩:=DP S f C u;refine⟨w',?_,D,G⟩;have H:=(iQ (w:=w) g).1;have M:c.cells.size=i.size:=by rw[<-e,u.length];simp
 simp only[storeVar,qO,H,si,M,ne_eq,not_true_eq_false,if_false];simpa using A
def aiu{t:Nat}{i:TI}(g:zf P t i)(G:bo (KR ρ) l m)(u:agg (GR i) ((l.drop off).take (width (GR i)))=Z v):∃c,(part t ⟨m⟩ off).run P w=.ok c w/\VR ρ v c:=by
 have A:=(G.drop off).take (width (GR i));cases C:i.agg
 .simp only[GR,C,A8,width,agg] at u A;split at u
  .rename_i x I;cases u;rw[I] at A
   match D:(m.drop off).take 1,A with
   |[y],.cons E .nil=>
    refine⟨y,?_,E.vr⟩;have H:m[off]?=Z y:=by
     have:((m.drop off).take 1)[0]?=Z y:=by rw[D];rfl
     simpa [A0,gw] using this
    simp[part,vV g,C,H]
  cases u
 simp only[GR,C,jv,width,agg] at u A;split at u;cases u;refine⟨ix ⟨(m.drop off).take i.size⟩,?_,.val (.agg A)⟩;simp only[part,qO,vV g,C,si,if_true,(iQ (w:=w) g).1,zF];congr 2;simp;cases u
def Mu(A:ER ρ e a.tmps)(g:eB ng ρ)(C:Nat->Option (Nat×Nat)):∀(F:List (Nat×aT))(k:List (Nat×Nat×aT))(l m:List aa)(r:List aa),F.all (λp=>c_ ng p.2)=ck->bo (λ(p:Nat×aT) (q:Nat×Nat×aT)=>C p.1=Z (q.1,q.2.1)/\q.2.2=p.2) F k->bo (KR ρ) l m->pI e l k=Z r->∃s:List aa,TL C ⟨m⟩ (F.map λp=>(p.1,a.eval p.2))=Z ⟨s⟩/\bo (KR ρ) r s:=by
 intro F;induction F with
 |nil=>
  intro k l m r _ I C u;cases I;simp only[pI,oy] at u;subst u;exact⟨m,Q,C⟩
 |cons p F b=>
  intro k l m r G I C u;have⟨j,x⟩:=p;cases I with
  | @cons _ q _ k W H=>
  have⟨off,n,y⟩:=q;obtain⟨c,rfl⟩:=W;simp only[ef,oD] at G;simp only[pI] at u;split at u
  .rename_i vs f;split at u
   .rename_i D;simp only[oD] at D;have N:=sq D.1;have d:=Uz D.2;have D:=My (A.eval g G.1) f;have V:=C.length;have A:=D.length;have U:bo (KR ρ) (aX l off vs) (aX m off (a.eval y).cells.toList):=by unfold aX;rw[<-A];exact((C.take off).app D).app (C.drop _)
    have⟨s,C,E⟩:=b k _ _ r G.2 H U u;refine⟨s,?_,E⟩;rw[<-C];simp only[xg,TL,c];have s:(a.eval y).cells.size=n:=by rw[<-N,A];simp
    rw[bM (by simp[s];omega)];congr 1;have s:∀(vs:List aa)(k:Nat)(m:List aa),off+k+cz vs<=cz m->(vs.zipIdx k).foldl (λ(c:Array aa) (x:aa×Nat)=>c.setIfInBounds (off+x.2) x.1) ⟨m⟩=⟨aX m (off+k) vs⟩:=by
     intro vs;induction vs with
     |nil=>intro k m _;simp[aX]
     |cons v vs b=>
      intro k m O;simp only[List.zipIdx_cons,List.foldl_cons];have:(Array.setIfInBounds ⟨m⟩ (off+k) v)=⟨m.set (off+k) v⟩:=J
      rw[this,b (k+1) (m.set (off+k) v) (by simp at O⊢;omega)];congr 1;simp at O;apply BT;intro i;rw[pS (by simp;omega),pS (by simp;omega)];by_cases M:off+(k+1)<=i/\i<off+(k+1)+cz vs;rw[bK M,bK (by simp;omega)];rw[show i-(off+k)=(i-(off+(k+1)))+1 by omega];simp;rw[bM M];by_cases b:i=off+k;subst b;rw[bK J];simp[List.getElem?_set_self (show off+k<cz m by omega)];rw[bM (by simp;omega),List.getElem?_set_ne (cE b)]
    have:=s (a.eval y).cells.toList 0 m (by rw[A1,<-A,N,<-V];exact d);rw[<-Array.foldl_toList];simpa using this
   cases u
  cases u
end
def CB:∀ {ks A:List Nat} {a u b C:List aa} {x:Bool},cz a=cz ks->cz u=cz ks->cN (ks++A) (a++b) (u++C)=Z x->∃y z,cN ks a u=Z y/\cN A b C=Z z/\x=(y&&z):=by
 intro ks;induction ks with
 |nil=>
  intro A a u b C x E D h;cases a with
  |cons=>simp at E
  |nil=>cases u with
   |cons=>simp at D
   |nil=>exact⟨ck,x,Q,h,J⟩
 |cons k ks c=>
  intro A a u b C x E D h;cases a with
  |nil=>simp at E
  |cons v a=>cases u with
   |nil=>simp at D
   |cons r u=>
    simp only[List.cons_append,cN] at h;rcases G:d_ k v r with _|p;simp[G] at h;rcases H:cN (ks++A) (a++b) (u++C) with _|q;simp[G,H] at h;simp only[G,H,oy] at h;obtain⟨y,z,I,C,rfl⟩:=c (aj E) (aj D) H;refine⟨p&&y,z,by simp[cN,G,I],C,?_⟩;rw[<-h,Bool.and_assoc]
def gL:∀ {ks:List Nat} {a b:List aa} {x:Bool},cN ks a b=Z x->cz a=cz ks/\cz b=cz ks:=by
 intro ks;induction ks with
 |nil=>intro a b x h;cases a with
  |nil=>cases b with
   |nil=>exact⟨Q,Q⟩
   |cons=>simp[cN] at h
  |cons=>cases b<;>simp[cN] at h
 |cons k ks c=>
  intro a b x h;cases a with
  |nil=>simp[cN] at h
  |cons v a=>cases b with
   |nil=>simp[cN] at h
   |cons r b=>
    simp only[cN] at h;rcases u:d_ k v r with _|p;simp[u] at h;rcases A:cN ks a b with _|q;simp[u,A] at h;have:=c A;simp[this.1,this.2]
section
variable{P:bG}{T:uK}{a:fZ}
def Za{k:Nat}{x:Bool}(h:KR a v c)(b:KR a r U)(u:d_ k v r=Z x):d_ k c U=Z x:=by
 have:c=v/\U=r:=by
  unfold d_ at u;split at u
  .cases h with
   |cell h=>cases h;cases b with
    |cell b=>cases b;exact⟨Q,Q⟩
  .cases h with
   |cell h=>cases h;cases b with
    |cell b=>cases b;exact⟨Q,Q⟩
  .cases h with
   |cell h=>cases h;cases b with
    |cell b=>cases b;exact⟨Q,Q⟩
  cases u
 rw[this.1,this.2,u]
def yG:∀ {ks:List Nat} {l m A C:List aa} {x:Bool},bo (KR a) l m->bo (KR a) A C->cN ks l A=Z x->cN ks m C=Z x:=by
 intro ks;induction ks with
 |nil=>
  intro l m A C x h b u;cases h with
  |nil=>cases b with
   |nil=>exact u
   |cons=>simp[cN] at u
  |cons=>cases b<;>simp[cN] at u
 |cons k ks d=>
  intro l m A C x h b u;cases h with
  |nil=>simp[cN] at u
  | @cons v c l m H h=>cases b with
   |nil=>simp[cN] at u
   | @cons r U A C I G=>
    simp only[cN] at u⊢;rcases D:d_ k v r with _|p;simp[D] at u;rcases E:cN ks l A with _|q;simp[D,E] at u;rw[Za H I D,d h G E];simpa [D,E] using u
def valOf(i:TI)(l:List aa):aa:=bif i.agg then ix ⟨l⟩ else l.headD (.tuple #[])
def vZ{t:Nat}{i:TI}(g:zf P t i)(E:off+i.size<=cz m)(w:bQ):(part t ⟨m⟩ off).run P w=.ok (valOf i ((m.drop off).take i.size)) w:=by
 cases u:i.agg
 .have C:=g.plain u;have A:off<cz m:=ab
  simp only[part,qO,vV g,u,si,valOf,A8,C];rw[List.drop_eq_getElem_cons A];have D:(⟨m⟩:Array aa)[off]?=Z m[off]:=by rw[show(⟨m⟩:Array aa)[off]?=m[off]? by simp,jh A]
  rw[D];rfl
 simp only[part,qO,vV g,u,si,if_true,(iQ (w:=w) g).1,zF,valOf,jv];congr 2;simp
def Qc:∀ {fs:List rW} {off n:Nat},se T off fs=Z n->off<=n:=by
 intro fs;induction fs with
 |nil=>intro off n h;simp[se] at h;omega
 |cons f fs a=>
  intro off n h;simp only[se] at h;cases A:an f.offset off;simp[A] at h;simp only[A,jv] at h;rcases u:T f.type with _|i;simp[u] at h;simp only[u] at h;have:=a h;omega
def vK{k:Nat->Option (List Nat)}{f:rW}(h:qB k (f::fs)=Z ks):f.name≠ "_" /\∃a b,k f.type=Z a/\qB k fs=Z b/\ks=a++b:=by
 simp only[qB] at h;cases u:f.name != "_";simp[u] at h;simp only[u,jv] at h;refine⟨aj u,?_⟩;split at h;rename_i a b A C;cases h;exact⟨a,b,A,C,Q⟩;cases h
def C7(ks:List Nat):∀n,cz (QF ks n)=n*cz ks
 |0=>by simp[QF]
 |n+1=>by simp[QF,C7 ks n,xf,Nat.add_comm]
def vL:∀ {d t:Nat} {i:TI} {ks:List Nat},T t=Z i->eC P T->kinds T d t=Z ks->cz ks=i.size:=by
 intro d;induction d with
 |zero=>intro t i ks _ _ h;simp[kinds] at h
 |succ d b=>
  intro t i ks D I h;have g:=I t i D;simp only[kinds,D] at h;have D:=g.agg;split at h
  rename_i C;rw[C] at D;cases h;exact(g.plain D).symm;rename_i C;rw[C] at D;cases h;exact(g.plain D).symm;rename_i C;rw[C] at D;cases h;exact(g.plain D).symm
  .rename_i fs C;split at h
   .rename_i n V;cases u:an n i.size;simp[u] at h;simp only[u,jv] at h;rw[<-sq u];have c:∀(E:List rW)(off n:Nat)(ks:List Nat),se T off E=Z n->qB (kinds T d) E=Z ks->off+cz ks=n:=by
     intro E;induction E with
     |nil=>intro off n ks A G;simp[se] at A;simp[qB] at G;subst G;simpa using A
     |cons f E H=>
      intro off n ks A G;simp only[se] at A;cases u:an f.offset off;simp[u] at A;simp only[u,jv] at A;rcases D:T f.type with _|j;simp[D] at A;simp only[D] at A;obtain⟨_,a,e,U,M,rfl⟩:=vK G;have O:=b D I U;have e:=H _ _ _ A M;rw[X0,O];omega
    have:=c fs.toList 0 n ks V h;omega
   cases h
  rename_i n el C;split at h;rename_i e C;cases u:an (n*e.size) i.size;simp[u] at h;simp only[u,jv] at h;split at h;rename_i W N;cases h;rw[C7,b C I N,sq u];cases h;cases h;cases h
def Dq(O:eC P T):∀(d t:Nat)(i:TI)(u:Nat)(ks:List Nat),T t=Z i->kinds T d t=Z ks->d<=u->∀(l m:List aa)(x:Bool),cN ks l m=Z x->∀w,(Op.equalIn u t (valOf i l) (valOf i m)).run P w=.ok x w:=by
 intro d;induction d with
 |zero=>intro t i u ks _ h;simp[kinds] at h
 |succ d S=>
  intro t i u ks c A h l m x G w;obtain⟨u,rfl⟩:∃k,u=k+1:=⟨u-1,ab⟩;have g:=O t i c;simp only[kinds,c] at A;have e:=g.agg;have h:∀k:Nat,cN [k] l m=Z x->∃p q,l=[p]/\m=[q]/\d_ k p q=Z x:=by
   intro k G;have⟨N,M⟩:=gL G
   match l,m,N,M with
   |[p],[q],_,_=>
    refine⟨p,q,Q,Q,?_⟩;simp only[cN] at G;rcases C:d_ k p q with _|y;simp[C] at G;simpa [C] using G
  split at A;rename_i D;rw[D] at e;cases A;obtain⟨p,q,rfl,rfl,C⟩:=h _ G;simp only[valOf,e,pP,A8,uo];unfold d_ at C;split at C;cases C;exact run_equalIn_bool' w u t _ _ (by rw[g.u,D]);omega;omega;cases C;rename_i k D;rw[D] at e;cases A;obtain⟨p,q,rfl,rfl,C⟩:=h _ G;simp only[valOf,e,pP,A8,uo];unfold d_ at C;split at C;omega;split at C;rename_i b;subst b;cases C;exact run_equalIn_int w u t _ k _ _ (by rw[g.u,D]);cases C;omega;cases C;rename_i D;rw[D] at e;cases A;obtain⟨p,q,rfl,rfl,C⟩:=h _ G;simp only[valOf,e,pP,A8,uo];unfold d_ at C;split at C;omega;omega;cases C;rw[run_equalIn_string w u t _ _ (by rw[g.u,D]),beq_toListBytes];cases C
  .rename_i fs D;rw[D] at e;have h:P.underlying t=Z (.struct fs):=by rw[g.u,D]
   have W:P.fieldsOf t=fs:=by simp[Program.fieldsOf,h]
   simp only[valOf,e,pP,jv];rw[run_equalIn_struct w u t _ _ (by rw[W];exact h) (g.held fs D),W];split at A
   .rename_i n H;cases I:an n i.size;simp[I] at A;simp only[I,jv] at A;have r:∀(C:List rW)(off:Nat)(ks:List Nat),se T off C=Z n->qB (kinds T d) C=Z ks->n=cz l->n=cz m->∀y,cN ks (l.drop off) (m.drop off)=Z y->∀w,(Op.eqFields u ⟨l⟩ ⟨m⟩ C).run P w=.ok y w:=by
     intro C;induction C with
     |nil=>
      intro off ks H b v F y E w;simp only[se,oy] at H;simp only[qB,oy] at b;subst b;have N:l.drop off=[]:=Cy ab;have M:m.drop off=[]:=Cy ab;rw[N,M] at E;simp only[cN,oy] at E;subst E;rfl
     |cons f C X=>
      intro off ks H b v F y E w;simp only[se] at H;cases I:an f.offset off;simp[I] at H
      .simp only[I,jv] at H;have ak8:=sq I;rcases V:T f.type with _|j
       simp[V] at H
       .simp only[V] at H;obtain⟨VO,a,C,L,UB,rfl⟩:=vK b;have C:=O _ _ V;have B:=Qc H;have s:=vL V O L;have U:∀z:List aa,z.drop off=(z.drop off).take j.size++z.drop (off+j.size):=by intro z;rw[<-hJ,qn]
        rw[U l,U m] at E;obtain⟨p,q,s,o,rfl⟩:=CB (by simp;omega) (by simp;omega) E;simp only[Op.eqFields,ne_eq,VO,not_false_eq_true,if_true,qO,ak8,vZ C (m:=l) (show off+j.size<=cz l by omega),vZ C (m:=m) (show off+j.size<=cz m by omega),si]
        rw[S f.type j u a V L ab _ _ p s];simp only[si];cases p;simp;simp only[P9,CL,if_false,P8];exact X _ _ H UB v F q o w
    have F:=vL (d:=d+1) c O (ks:=ks) (by simp only[kinds,c,D,H,I,jv];exact A);have⟨N,M⟩:=gL G;have v:=sq I;exact r fs.toList 0 ks H A ab ab x (aj G) w
   cases A
  .rename_i n el D;rw[D] at e;have h:P.underlying t=Z (.array n el):=by rw[g.u,D]
   simp only[valOf,e,pP,jv];split at A
   .rename_i e c;cases I:an (n*e.size) i.size;simp[I] at A
    .simp only[I,jv] at A;split at A
     .rename_i v b;cases A;have D:=O el e c;obtain⟨d,d,L,_,_⟩:=D.info;have X:P.cellsOf el=e.size:=by rw[<-L];simp[D6,d]
      rw[run_equalIn_array w u ⟨l⟩ ⟨m⟩ h d,X,List.range_eq_range'];have F:=vL c O b;have⟨N,M⟩:=gL G;rw[C7,F] at N M;have r:∀(k j:Nat),j+k=n->∀y,cN (QF v k) (l.drop (j*e.size)) (m.drop (j*e.size))=Z y->∀w,(Op.eqItems u el e.size ⟨l⟩ ⟨m⟩ (C3 j k)).run P w=.ok y w:=by
       intro k;induction k with
       |zero=>
        intro j C y E w;have F:l.drop (j*e.size)=[]:=Cy (by rw[N];exact IX _ ab);have X:m.drop (j*e.size)=[]:=Cy (by rw[M];exact IX _ ab);rw[F,X] at E;simp only[QF,cN,oy] at E;subst E;rfl
       |succ k k=>
        intro j C y E w;have B:(j+1)*e.size<=n*e.size:=IX _ ab;rw[xf,wv] at B;have U:∀z:List aa,z.drop (j*e.size)=(z.drop (j*e.size)).take e.size++z.drop ((j+1)*e.size):=by intro z;rw[xf,wv,<-hJ,qn]
        rw[U l,U m] at E;obtain⟨p,q,s,o,rfl⟩:=CB (ks:=v) (by simp;omega) (by simp;omega) E;simp only[List.range'_succ,Op.eqItems,qO,vZ D (m:=l) (show j*e.size+e.size<=cz l by omega),vZ D (m:=m) (show j*e.size+e.size<=cz m by omega),si]
        rw[S el e u v c b ab _ _ p s];simp only[si];cases p;simp;simp only[P9,CL,if_false,P8];exact k (j+1) ab q o w
      exact r n 0 ab x (aj G) w
     cases A
   cases A
  cases A
def Hu(C:eC P T):∀(d t:Nat)(u:Nat)(ks:List Nat),kinds T d t=Z ks->d<=u->P.eqGuardType u t=cd:=by
 intro d;induction d with
 |zero=>intro t u ks h;simp[kinds] at h
 |succ d b=>
  intro t u ks A O;obtain⟨u,rfl⟩:∃k,u=k+1:=⟨u-1,ab⟩;simp only[kinds] at A;split at A;cases A
  .rename_i i N;have g:=C t i N;simp only[Program.eqGuardType,g.u];split at A
   rename_i C;rw[C];rename_i C;rw[C];rename_i C;rw[C]
   .rename_i fs C;rw[C];split at A
    .rename_i n U;cases E:an n i.size;simp[E] at A;simp only[E,jv] at A;dsimp only;rw[<-Array.any_toList];have c:∀(D:List rW)(ks:List Nat),qB (kinds T d) D=Z ks->(D.any λf=>f.name != "_" &&P.eqGuardType u f.type)=cd:=by
      intro D;induction D with
      |nil=>intro _ _;rfl
      |cons f D H=>
       intro ks G;have⟨_,a,d,D,M,_⟩:=vK G;rw[List.any_cons,H d M,b f.type u a D ab];simp
     exact c _ _ A
    cases A
   rename_i n el C;rw[C];dsimp only;split at A;rename_i e C;cases E:an (n*e.size) i.size;simp[E] at A;simp only[E,jv] at A;split at A;rename_i I G;exact b el u I G ab;cases A;cases A;cases A
end
section
variable{P:bG}{k:dH}{ρ:fZ}{h:az}{w:bQ}{T:uK}{b:Nat}{e:Env}{a:Act}{c:aa}
def VR.dN{k:bd}{n:Int}(h:VR ρ (.int k n) c):c=.int k n:=by
 cases h with
 |val h=>cases h with
  |cell h=>cases h with
   |cell h=>cases h;rfl
def VR.qq{b:Bool}(h:VR ρ (dC b) c):c=dC b:=by
 cases h with
 |val h=>cases h with
  |cell h=>cases h with
   |cell h=>cases h;rfl
def VR.Lv{s:ByteArray}(h:VR ρ (gX s) c):c=gX s:=by
 cases h with
 |val h=>cases h with
  |cell h=>cases h with
   |cell h=>cases h;rfl
def VR.HX{b o:Nat}(h:VR ρ (eU (Z ⟨b,o,K⟩)) c):∃r,ρ b=Z r/\c=eU (Z ⟨r.bZ,r.base+o,K⟩):=by
 cases h with
 |val h=>cases h with
  |cell h=>cases h with
   |cell h=>cases h with
    |ptr h=>exact⟨_,h,Q⟩
def VR.Gg(h:VR ρ (eU K) c):c=eU K:=by
 cases h with
 |val h=>cases h with
  |cell h=>cases h with
   |cell h=>cases h;rfl
def VR.NT{x:zG}(h:VR ρ (eU (Z x)) c):∃y,c=eU (Z y):=by
 cases h with
 |val h=>cases h with
  |cell h=>cases h with
   |cell h=>cases h with
    |ptr h=>exact⟨_,Q⟩
def VR.h_{b o n E:Nat}(h:VR ρ (dB (Z ⟨b,o,K⟩) n E) c):∃r W u,ρ b=Z r/\c=dB (Z W) n u/\yo r o n E W u:=by
 cases h with
 |val h=>cases h with
  |cell h=>cases h with
   |cell h=>cases h with
    |slice h A=>exact⟨_,_,_,h,Q,A⟩
def VR.j1(h:VR ρ (dB K n E) c):c=dB K n E:=by
 cases h with
 |val h=>cases h with
  |cell h=>cases h with
   |cell h=>cases h;rfl
def VR.wg{x:Option zG}(h:VR ρ (dB x n E) c):∃y u,c=dB y n u/\y.isNone=x.isNone:=by
 cases h with
 |val h=>cases h with
  |cell h=>cases h with
   |cell h=>cases h with
    |gQ=>exact⟨_,_,Q,Q⟩
    |slice h A=>exact⟨_,_,Q,Q⟩
def VR.Lk{x:Option Nat}(h:VR ρ (.map x) c):∃y,c=.map y/\y.isNone=x.isNone:=by
 cases h with
 |val h=>cases h with
  |cell h=>cases h with
   |cell h=>cases h with
    |uC=>exact⟨_,Q,Q⟩
    |map h=>exact⟨_,Q,Q⟩
def VR.yU(h:VR ρ .nilFunc c):c=.nilFunc:=by
 cases h with
 |val h=>cases h with
  |cell h=>cases h with
   |cell h=>cases h;rfl
def VR.Vy{fn:Fn}{x y:Array aa}(h:VR ρ (.func fn x y) c):∃u A C,c=.func u A C:=by
 cases h with
 |val h=>cases h with
  |cell h=>cases h with
   |cell h=>cases h
   |fn=>exact⟨_,_,_,Q⟩
   |yield=>exact⟨_,_,_,Q⟩
def VR.vB{l:Array aa}(h:VR ρ (ix l) c):∃m,c=ix ⟨m⟩/\bo (KR ρ) l.toList m:=by
 cases h with
 |val h=>cases h with
  |cell h=>exact absurd h.plain.1 (by simp[AI.plain])
  |agg h=>exact⟨_,Q,h⟩
def VR.akn(h:VR ρ (.chan (Z n)) c):∃m:Nat,c=fc ft m/\n<=m:=by
 cases h with
 |val h=>cases h with
  |cell h=>cases h with
   |cell h=>cases h
 |atl h=>exact⟨_,Q,h⟩
def VR.Rs{l:Array aa}(h:VR ρ (.tuple l) c):∃m,c=.tuple ⟨m⟩/\bo (AR ρ) l.toList m:=by
 cases h with
 |val h=>cases h with
  |cell h=>exact absurd h.plain.1 (by simp[AI.plain])
 |tuple h=>exact⟨_,Q,h⟩
def VR.agg{l m:List aa}(h:bo (KR ρ) l m):VR ρ (ix ⟨l⟩) (ix ⟨m⟩):=.val (.agg h)
def alN{x y z:aT}(S:ff k ρ h w)(D:ER ρ e a.tmps)(E:eB b ρ)(I:c_ b x=ck)(G:c_ b y=ck)(H:c_ b z=ck){C:az}(A:de e h (.pick x y z)=Z (v,C)):Out k ρ h w v C (((do pure (.value (if<-asBool (a.eval x) then a.eval y else a.eval z))):Sem lY).run P w):=by
 have C:=D.eval E I;simp only[de] at A;split at A;rename_i u;cases A;rw[u] at C;rw[C.qq];exact Out.same S (by simp[asBool]) (D.eval E G);rename_i u;cases A;rw[u] at C;rw[C.qq];exact Out.same S (by simp[asBool]) (D.eval E H);cases A
def xn{k:bd}{t:cI}{x y:Int}(u:jY op k x y=Z v):(binOp op t (.int k x) (.int k y)).run P w=.ok v w/\VR ρ v v:=by
 cases op<;>simp only[jY] at u<;>first
  |(cases u;exact⟨by simp[binOp,Op.intBits,Op.intCmp,Op.intArith],CR.vr (by constructor)⟩)
  |(split at u
    cases u;rename_i A;cases u;refine⟨?_,CR.vr (by constructor)⟩;simp[binOp,Op.intDiv,A])
  |(cases u;done)
def Ia{k C:bd}{t:cI}{x y:Int}(A:op=.shl\/op=.shr)(u:jN op k x y=Z v):(binOp op t (.int k x) (.int C y)).run P w=.ok v w/\VR ρ v v:=by
 unfold jN at u;split at u;cases u;rename_i D;rcases A with rfl|rfl<;>(cases u;refine⟨?_,CR.vr (by constructor)⟩;simp[binOp,Op.shift,D])
def dM(A:p≠ .nilIface)(u:∀l,p≠ ix l):(eqGuard op t x y p q).run P w=.ok () w:=by
 have C:(match p,q with
  |.nilIface,.nilIface=>False
  |ix _,ix _=>False
  |_,_=>True):=by
  cases p<;>first|trivial|(exact absurd Q A)|(exact absurd Q (u _))|(cases q<;>trivial)
 cases op<;>first
  |rfl
  |(cases p<;>first|rfl|(exact absurd rfl A)|(exact absurd rfl (u _))|(cases q<;>rfl))
def Pl(u:op≠ .eql)(A:op≠ .neq):(eqGuard op t x y p q).run P w=.ok () w:=by unfold eqGuard;cases op<;>first|rfl|(exact absurd Q u)|(exact absurd Q A)
def LA(T:uK)(t:Nat)(u:aau)(ks:List Nat):Prop:=
 (∃el,u=.slice el/\ks=[3])\/(∃el,u=.pointer el/\ks=[4])\/(∃k el,u=.map k el/\ks=[5])\/(∃F I vr,u=.func F I vr/\ks=[6])\/(∃(_:Unit) (A:List Nat),pP u=ck/\kinds T 9 t=Z A/\ks=9::A)\/(u=.bool/\ks=[0])\/(∃k,u=.int k/\ks=[1])\/(u=.string/\ks=[2])
section
variable{t:cI}{d:Nat}
def iC(A:P.underlying t=Z (.slice el))(n m C u:Nat)(y:Option zG):(Op.equalIn (d+1) t (dB K n m) (.slice y C u)).run P w=.ok y.isNone w:=by simp only[Op.equalIn,qO,pJ A,si,zF]
def jT(A:P.underlying t=Z (.slice el))(n m C u:Nat)(y:zG):(Op.equalIn (d+1) t (dB (Z y) n m) (.slice K C u)).run P w=.ok cd w:=by simp only[Op.equalIn,qO,pJ A,si,zF]
def pZ(u:P.underlying t=Z (.pointer el))(y:Option zG):(Op.equalIn (d+1) t (eU K) (.pointer y)).run P w=.ok y.isNone w:=by simp only[Op.equalIn,qO,pJ u,si,zF]
def p_(u:P.underlying t=Z (.pointer el))(y:zG):(Op.equalIn (d+1) t (eU (Z y)) (.pointer K)).run P w=.ok cd w:=by simp only[Op.equalIn,qO,pJ u,si,zF]
def Qi{k el:cI}(u:P.underlying t=Z (.map k el))(y:Option Nat):(Op.equalIn (d+1) t (.map K) (.map y)).run P w=.ok y.isNone w:=by simp only[Op.equalIn,qO,pJ u,si,zF]
def pY{k el:cI}(u:P.underlying t=Z (.map k el))(y:Nat):(Op.equalIn (d+1) t (.map (Z y)) (.map K)).run P w=.ok cd w:=by simp only[Op.equalIn,qO,pJ u,si,zF]
def ma(u:P.underlying t=Z (.func F I vr)):(Op.equalIn (d+1) t .nilFunc .nilFunc).run P w=.ok ck w:=by simp only[Op.equalIn,qO,pJ u,si,zF]
def mb(u:P.underlying t=Z (.func F I vr))(f:Fn)(x y:Array aa):(Op.equalIn (d+1) t .nilFunc (.func f x y)).run P w=.ok cd w:=by simp only[Op.equalIn,qO,pJ u,si,zF]
def mc(u:P.underlying t=Z (.func F I vr))(f:Fn)(x y:Array aa):(Op.equalIn (d+1) t (.func f x y) .nilFunc).run P w=.ok cd w:=by simp only[Op.equalIn,qO,pJ u,si,zF]
end
def me{b:Bool}(G:∀k n C u,¬(p=.int k n/\q=.int C u))(D:∀k n C u,¬(p=.float k n/\q=.float C u))(E:∀s I,¬(p=gX s/\q=gX I))(H:∀k n m C u s,¬(p=.complex k n m/\q=.complex C u s))(u:(Op.equalIn (9999+1) t p q).run P w=.ok b w):(binOp .eql t p q).run P w=.ok (dC b) w/\(binOp .neq t p q).run P w=.ok (dC (!b)) w:=by
 have A:(Op.equal t p q).run P w=.ok b w:=u;constructor
 .unfold binOp;split<;>first
   |(exact absurd ⟨Q,Q⟩ (G _ _ _ _))
   |(exact absurd ⟨Q,Q⟩ (D _ _ _ _))
   |(exact absurd ⟨Q,Q⟩ (E _ _))
   |(exact absurd ⟨Q,Q⟩ (H _ _ _ _ _ _))
   |contradiction
   |(simp only[qO,A,si,zF];done)
 .unfold binOp;split<;>first
   |(exact absurd ⟨Q,Q⟩ (G _ _ _ _))
   |(exact absurd ⟨Q,Q⟩ (D _ _ _ _))
   |(exact absurd ⟨Q,Q⟩ (E _ _))
   |(exact absurd ⟨Q,Q⟩ (H _ _ _ _ _ _))
   |contradiction
   |(simp only[qO,A,si,zF];done)
def Qj(O:eC P T){t:Nat}{i:TI}(V:T t=Z i)(D:LA T t i.u ks){b:Bool}(E:VR ρ v c)(C:VR ρ r U)(A:fV ks v r=Z b){x y:aT}{op:yc} :(eqGuard op t x y c U).run P w=.ok () w/\(binOp .eql t c U).run P w=.ok (dC b) w/\(binOp .neq t c U).run P w=.ok (dC (!b)) w:=by
 have g:=O t i V;have f:9<=P.depth:=by unfold Program.depth Made.depth;omega
 unfold fV at A;split at A
 .
  rename_i l d;obtain⟨m,rfl,d⟩:=E.vB;obtain⟨a,rfl,j⟩:=C.vB;rcases D with⟨_,_,rfl⟩|⟨_,_,rfl⟩|⟨_,_,_,rfl⟩|⟨_,_,_,_,rfl⟩|⟨fs,W,u,M,rfl⟩|⟨_,rfl⟩|⟨_,_,rfl⟩|⟨_,rfl⟩;cases A;cases A;cases A;cases A
  .have e:=yG d j A;have j:i.agg=ck:=by rw[g.agg,u]
   have d:=Dq O 9 t i 10000 W V M ab m a b e w;simp only[valOf,j,jv] at d;refine⟨run_eqGuard_agg w op t x y _ _ (Hu O 9 t P.depth W M f),?_,?_⟩;rw[run_eql_struct,d];rfl;rw[run_neq_struct,d];rfl
  cases A;cases A;cases A
 .rename_i d;have u:=g.u;split at A
  .
   have d:∃el,i.u=.slice el:=by rcases D with⟨el,h,_⟩|⟨_,_,h⟩|⟨_,_,_,h⟩|⟨_,_,_,_,h⟩|⟨_,_,_,_,h⟩|⟨_,h⟩|⟨_,_,h⟩|⟨_,h⟩<;>first|exact⟨_,h⟩|(simp at h;done)
   have⟨el,a⟩:=d;rw[a] at u;split at A;cases A;rw[E.j1];obtain⟨G,e,rfl,H⟩:=C.wg;refine⟨dM J J,me J J J J ?_⟩;rw[<-H];first|exact iC u _ _ _ _ _|exact Qi u _
   cases A;obtain⟨G,e,rfl,H⟩:=E.wg;rw[C.j1];refine⟨dM J J,?_⟩;rcases G with _|z;simp at H;exact me J J J J (by first|exact iC u _ _ _ _ _|exact jT u _ _ _ _ _|exact pZ u _|exact p_ u _|exact pY u _|exact ma u|exact mb u _ _ _|exact mc u _ _ _);cases A
  .
   have d:∃el,i.u=.pointer el:=by rcases D with⟨el,_,h⟩|⟨_,h,_⟩|⟨_,_,_,h⟩|⟨_,_,_,_,h⟩|⟨_,_,_,_,h⟩|⟨_,h⟩|⟨_,_,h⟩|⟨_,h⟩<;>first|exact⟨_,h⟩|(simp at h;done)
   have⟨el,a⟩:=d;rw[a] at u;split at A;rename_i z;cases A;rw[E.Gg];rcases z with _|z;rw[C.Gg];exact⟨dM J J,me J J J J (by first|exact iC u _ _ _ _ _|exact jT u _ _ _ _ _|exact pZ u _|exact p_ u _|exact pY u _|exact ma u|exact mb u _ _ _|exact mc u _ _ _)⟩;obtain⟨G,rfl⟩:=C.NT;exact⟨dM J J,me J J J J (by first|exact iC u _ _ _ _ _|exact jT u _ _ _ _ _|exact pZ u _|exact p_ u _|exact pY u _|exact ma u|exact mb u _ _ _|exact mc u _ _ _)⟩;cases A;obtain⟨G,rfl⟩:=E.NT;rw[C.Gg];exact⟨dM J J,me J J J J (by first|exact iC u _ _ _ _ _|exact jT u _ _ _ _ _|exact pZ u _|exact p_ u _|exact pY u _|exact ma u|exact mb u _ _ _|exact mc u _ _ _)⟩;cases A
  .
   have d:∃k el,i.u=.map k el:=by rcases D with⟨el,_,h⟩|⟨_,_,h⟩|⟨_,_,h,_⟩|⟨_,_,_,_,h⟩|⟨_,_,_,_,h⟩|⟨_,h⟩|⟨_,_,h⟩|⟨_,h⟩<;>first|exact⟨_,_,h⟩|(simp at h;done)
   have⟨k,el,a⟩:=d;rw[a] at u;split at A
   .cases A;obtain⟨e,rfl,N⟩:=E.Lk;obtain⟨G,rfl,H⟩:=C.Lk;rcases e with _|z;refine⟨dM J J,me J J J J ?_⟩;rw[<-H];first|exact iC u _ _ _ _ _|exact Qi u _
    simp at N
   .cases A;obtain⟨e,rfl,N⟩:=E.Lk;obtain⟨G,rfl,H⟩:=C.Lk;cases e with
    |none=>simp at N
    |some z=>cases G with
     |some z=>simp at H
     |none=>exact⟨dM J J,me J J J J (by first|exact iC u _ _ _ _ _|exact jT u _ _ _ _ _|exact pZ u _|exact p_ u _|exact pY u _|exact ma u|exact mb u _ _ _|exact mc u _ _ _)⟩
   cases A
  .
   have d:∃F I vr,i.u=.func F I vr:=by rcases D with⟨el,_,h⟩|⟨_,_,h⟩|⟨_,_,_,h⟩|⟨_,_,_,h,_⟩|⟨_,_,_,_,h⟩|⟨_,h⟩|⟨_,_,h⟩|⟨_,h⟩<;>first|exact⟨_,_,_,h⟩|(simp at h;done)
   have⟨F,I,vr,a⟩:=d;rw[a] at u;split at A;cases A;rw[E.yU,C.yU];exact⟨dM J J,me J J J J (by first|exact iC u _ _ _ _ _|exact jT u _ _ _ _ _|exact pZ u _|exact p_ u _|exact pY u _|exact ma u|exact mb u _ _ _|exact mc u _ _ _)⟩;cases A;obtain⟨_,_,_,rfl⟩:=C.Vy;rw[E.yU];exact⟨dM J J,me J J J J (by first|exact iC u _ _ _ _ _|exact jT u _ _ _ _ _|exact pZ u _|exact p_ u _|exact pY u _|exact ma u|exact mb u _ _ _|exact mc u _ _ _)⟩;cases A;obtain⟨_,_,_,rfl⟩:=E.Vy;rw[C.yU];exact⟨dM J J,me J J J J (by first|exact iC u _ _ _ _ _|exact jT u _ _ _ _ _|exact pZ u _|exact p_ u _|exact pY u _|exact ma u|exact mb u _ _ _|exact mc u _ _ _)⟩;cases A
  .
   unfold d_ at A;split at A
   .have a:i.u=.bool:=by rcases D with⟨el,_,h⟩|⟨_,_,h⟩|⟨_,_,_,h⟩|⟨_,_,_,_,h⟩|⟨_,_,_,_,h⟩|⟨h,_⟩|⟨_,_,h⟩|⟨_,h⟩<;>first|exact h|(simp at h;done)
    cases A;rw[E.qq,C.qq];rw[a] at u;exact⟨dM J J,me J J J J (run_equalIn_bool' w _ t _ _ u)⟩
   rw[E.dN,C.dN];split at A;rename_i M;subst M;cases A;refine⟨dM J J,?_,?_⟩;simp[binOp,Op.intCmp];simp only[binOp,ne_eq,not_true_eq_false,if_false,Op.intCmp,zF];rfl;cases A;cases A;rw[E.Lv,C.Lv];refine⟨dM J J,?_,?_⟩;simp[binOp,Op.stringOp,beq_toListBytes];simp[binOp,Op.stringOp,beq_toListBytes];cases A
  cases A
end
section
variable{P:bG}{b:dH}{ρ:fZ}{h s:az}{w:bQ}{T:uK}{d:Nat}{e:Env}{a:Act}{c v:aa}
def aaw{t:cI}(S:ff b ρ h w)(u:ER ρ e a.tmps)(O:eB d ρ)(C:c_ d x=ck)(U:c_ d y=ck)(H:op≠ .eql/\op≠ .neq)(G:de e h (.bin op ks x y)=Z (v,s)):Out b ρ h w v s (((do pure (bI (<-(do eqGuard op t x y (a.eval x) (a.eval y);binOp op t (a.eval x) (a.eval y))))):Sem lY).run P w):=by
 have A:=u.eval O C;have C:=u.eval O U;simp only[de] at G;split at G
 .rename_i r u;cases G;have c:(binOp op t (a.eval x) (a.eval y)).run P w=.ok v w/\VR ρ v v:=by
   unfold Hb at u;split at u;split at u;rename_i E D;rw[E] at A;rw[D] at C;rw[A.dN,C.dN];exact Ia (jZ Q) u;cases u;split at u;rename_i E D;rw[E] at A;rw[D] at C;rw[A.dN,C.dN];exact Ia (kd Q) u;cases u;exact absurd rfl H.1;exact absurd rfl H.2
   .split at u;rename_i E D;rw[E] at A;rw[D] at C;rw[A.dN,C.dN];split at u;rename_i I;subst I;exact xn u;cases u
    .rename_i N W E D;rw[E] at A;rw[D] at C;rw[A.dN];have⟨m,f,V⟩:=C.akn;rw[f];split at u
     .rename_i M;cases u;have f:decide (N>(m:Int))=cd:=by simp;omega
      have:=xn (op:=.gtr) (t:=t) (k:=ft) (x:=N) (y:=(m:Int)) (P:=P) (w:=w) (ρ:=ρ) (v:=dC cd) (by simp only[jY];rw[f]);exact this
     cases u
    cases u
   split at u;rename_i E D;rw[E] at A;rw[D] at C;rw[A.dN,C.dN];split at u;rename_i I;subst I;exact xn u;cases u;cases u
  refine Out.same S (fG ?_) c.2;simp only[qO,Pl H.1 H.2,si,c.1]
 cases G
def aeo(M:eC P T){i:TI}(S:ff b ρ h w)(u:ER ρ e a.tmps)(O:eB d ρ)(V:c_ d x=ck)(U:c_ d y=ck)(f:op=.eql\/op=.neq)(N:T t=Z i)(D:LA T t i.u ks)(E:de e h (.bin op ks x y)=Z (v,s)):Out b ρ h w v s (((do pure (bI (<-(do eqGuard op t x y (a.eval x) (a.eval y);binOp op t (a.eval x) (a.eval y))))):Sem lY).run P w):=by
 have A:=u.eval O V;have C:=u.eval O U;simp only[de] at E;split at E
 .rename_i r u;cases E;have c:(eqGuard op t x y (a.eval x) (a.eval y)).run P w=.ok () w/\(binOp op t (a.eval x) (a.eval y)).run P w=.ok v w/\VR ρ v v:=by
   rcases f with rfl|rfl
   .simp only[Hb] at u;split at u;rename_i f I;rw[f] at A;rw[I] at C;rw[A.dN,C.dN];split at u;rename_i G;subst G;exact⟨dM J J,xn u⟩;cases u
    .split at u;rename_i g H;cases u;have:=Qj (w:=w) M N D A C H (x:=x) (y:=y) (op:=.eql);exact⟨this.1,this.2.1,VR.bool _⟩
     cases u
   .simp only[Hb] at u;split at u;rename_i f I;rw[f] at A;rw[I] at C;rw[A.dN,C.dN];split at u;rename_i G;subst G;exact⟨dM J J,xn u⟩;cases u
    .split at u;rename_i g H;cases u;have:=Qj (w:=w) M N D A C H (x:=x) (y:=y) (op:=.neq);exact⟨this.1,this.2.2,VR.bool _⟩
     cases u
  refine Out.same S (fG ?_) c.2.2;simp only[qO,c.1,si,c.2.1]
 cases E
def awe{op:UnOp}(S:ff b ρ h w)(E:ER ρ e a.tmps)(G:eB d ρ)(H:c_ d x=ck)(D:de e h (.un op x)=Z (v,s)):Out b ρ h w v s (((do pure (bI (<-Op.unary op (a.eval x)))):Sem lY).run P w):=by
 have u:=E.eval G H;simp only[de] at D;split at D;rename_i r A;cases D;unfold Qu at A;split at A;rename_i C;cases A;rw[C] at u;rw[u.dN];exact Out.same S (fG (by simp[Op.unary,Op.intArith])) (VR.int _ _);rename_i C;cases A;rw[C] at u;rw[u.dN];exact Out.same S (fG (by simp[Op.unary,Op.intBits])) (VR.int _ _);rename_i C;cases A;rw[C] at u;rw[u.qq];exact Out.same S (fG (by simp[Op.unary])) (VR.bool _);cases A;cases D
def alJ(G:eC P T){c f:cI}{i j:TI}{ks k:bd}(M:T c=Z i)(I:T f=Z j)(A:i.u=.int ks)(C:j.u=.int k)(S:ff b ρ h w)(g:ER ρ e a.tmps)(N:eB d ρ)(O:c_ d x=ck)(u:de e h (.conv k x)=Z (v,s)):Out b ρ h w v s (((do pure (bI (<-convert c f (a.eval x)))):Sem lY).run P w):=by
 have D:=g.eval N O;simp only[de] at u;split at u;rename_i g;cases u;rw[g] at D;rw[D.dN];have E:=(G c i M).u;rw[A] at E;have H:=(G f j I).u;rw[C] at H;exact Out.same S (fG (by simp[convert,pJ E,pJ H,Conv.intToInt])) (VR.int _ _)
 cases u
def Ih(A:ER ρ e a.tmps)(C:eB d ρ):∀l:List aT,l.all (c_ d)=ck->bo (VR ρ) (qY e l) (l.map a.eval)
 |[],_=>.nil
 |x::l,u=>by simp only[ef,oD] at u;exact .cons (A.eval C u.1) (Ih A C l u.2)
def aa2(h:bo (VR ρ) l m):l.all simple=ck->bo (CR ρ) l m:=by
 induction h with
 |nil=>intro _;exact .nil
 |cons h _ a=>
  intro u;simp only[ef,oD] at u;exact .cons (CR.vX h u.1) (a u.2)
def alM{first c:Array aT}(S:ff b ρ h w)(D:ER ρ e a.tmps)(I:eB d ρ)(G:first.isEmpty=ck)(C:c.toList.all (c_ d)=ck)(u:de e h (.Tu f c.toList)=Z (v,s)):Out b ρ h w v s (((do pure (bI (<-L5 (.func f) (first.map a.eval) (c.map a.eval)))):Sem lY).run P w):=by
 have H:=Ih D I c.toList C;simp only[de] at u;cases C:(qY e c.toList).all simple;simp[C] at u;simp only[C,jv,oy,BM] at u;obtain⟨rfl,rfl⟩:=u;have A:first= #[]:=aj G
 subst A;refine Out.same S (c:=.func (.func f) #[] ⟨c.toList.map a.eval⟩) (fG ?_) (KR.fn f (aa2 H C)).vr;have E:c.map a.eval=⟨c.toList.map a.eval⟩:=by apply b9;simp
 simp[L5,E]
def aeq(S:ff b ρ h w)(E:ER ρ e a.tmps)(I:eB d ρ)(D:c_ d x=ck){c:cI}{pos:String}{C:Array Edge}{G:Option (Nat×Bool)}{u:Option Tmp}(A:de e h (.Bg x)=Z (v,s)):Out b ρ h w v s ((execOp a.eval { dst:=u,op:=.nilCheck x,type:=c,pos:=pos,after:=C,guard:=G }).run P w):=by
 have u:=E.eval I D;simp only[de] at A;split at A;rename_i y H;cases A;rw[H] at u;have⟨z,D⟩:=u.NT;refine Out.same S (c:=eU (Z z)) ?_ (by rw[D] at u;exact u);simp[execOp,D];cases A
def aqg(S:ff b ρ h w)(D:ER ρ e a.tmps)(M:eB d ρ)(N:c_ d x=ck)(A:de e h (.ext i x)=Z (v,s)):Out b ρ h w v s (((do pure (bI (<-Nt (a.eval x) i))):Sem lY).run P w):=by
 have C:=D.eval M N;simp only[de] at A;split at A
 .rename_i l f;split at A
  .rename_i u H;cases A;rw[f] at C;have⟨m,E,G⟩:=C.Rs;have⟨c,C,I⟩:=G.get H;rw[E];refine Out.same S (c:=c) (fG ?_) (.val I);have:(⟨m⟩:Array aa)[i]?=Z c:=by rw[<-C];simp
   simp[Nt,this]
  cases A
 cases A
def aqh(G:eC P T){i:TI}(f:T t=Z i)(I:i.u=.slice el){A:cI}(S:ff b ρ h w)(C:ER ρ e a.tmps)(c:eB d ρ)(D:c_ d x=ck)(u:de e h (.IF x)=Z (v,s)):Out b ρ h w v s (((do pure (bI (<-rn #[t] A #[a.eval x]))):Sem lY).run P w):=by
 have A:=C.eval c D;have g:=(G t i f).u;rw[I] at g;simp only[de] at u;split at u
 rename_i H;cases u;rw[H] at A;have⟨y,M,E,_⟩:=A.wg;rw[E];exact Out.same S (fG (by simp[rn,pJ g,goInt])) (VR.int _ _);cases u
def aqf(N:eC P T){i:TI}(O:T t=Z i)(V:i.u=.slice el){c:cI}(S:ff b ρ h w)(u:ER ρ e a.tmps)(j:eB d ρ)(k:c_ d x=ck)(A:de e h (.RO x)=Z (v,s)):Out b ρ h w v s (((do pure (bI (<-rr #[t] c #[a.eval x]))):Sem lY).run P w):=by
 have C:=u.eval j k;have g:=(N t i O).u;rw[V] at g;simp only[de] at A;split at A
 rename_i G;cases A;rw[G] at C;rw[C.j1];exact Out.same S (fG (by simp[rr,pJ g,goInt])) (VR.int _ _)
 .rename_i k off len E G;rw[G] at C;have⟨r,W,u,U,j,f⟩:=C.h_;rw[j];split at A
  .rename_i C C o C M;have D:=S.obj k r _ U M;obtain⟨B,C,C,_,_,C,_⟩:=D;have I:(rr #[t] c #[dB (Z W) len u]).run P w=.ok (fc ft u) w:=by simp[rr,pJ g,goInt]
   cases H:an o 0
   .simp only[H,CL,if_false] at A;cases A;have:E<=u:=by rcases f.2.1 with h|⟨_,h,_⟩;omega;exact h
    exact Out.same S (fG I) (.atl this)
   simp only[H,if_true] at A;cases A;have c:=sq H;have:u=E:=by rcases f.2.1 with h|⟨h,_⟩;exact h;exact absurd (C.trans c) h
   rw[this] at I⊢;exact Out.same S (fG I) (VR.int _ _)
  cases A
 cases A
def alO(E:eC P T){i:TI}(c:T t=Z i)(H:i.u=.string){A:cI}(S:ff b ρ h w)(C:ER ρ e a.tmps)(I:eB d ρ)(D:c_ d x=ck)(u:de e h (.Xw x)=Z (v,s)):Out b ρ h w v s (((do pure (bI (<-rn #[t] A #[a.eval x]))):Sem lY).run P w):=by
 have A:=C.eval I D;have g:=(E t i c).u;rw[H] at g;simp only[de] at u;split at u
 rename_i G;cases u;rw[G] at A;rw[A.Lv];exact Out.same S (fG (by simp[rn,pJ g,goInt])) (VR.int _ _);cases u
def ain(D:eC P T){i E:TI}{fs:Array rW}{f:rW}{k:Nat}(N:T t=Z i)(M:i.u=.struct fs)(I:fs[k]?=Z f)(A:T f.type=Z E)(U:E.size≠0)(S:ff b ρ h w)(G:ER ρ e a.tmps)(c:eB d ρ)(H:c_ d x=ck)(u:de e h (.pb f.offset x)=Z (v,s)):Out b ρ h w v s (((do pure (bI (<-M7 t (a.eval x) k))):Sem lY).run P w):=by
 have C:=G.eval c H;have g:=(D t i N).u;rw[M] at g;simp only[de] at u;split at u
 rename_i k o k;cases u;rw[k] at C;have⟨r,k,O⟩:=C.HX;rw[O];refine Out.same S (c:=eU (Z ⟨r.bZ,r.base+(o+f.offset),K⟩)) (fG ?_) (CR.ptr k).vr;simp[M7,pJ g,I,pN,fieldPlace,(iQ (w:=w) (D _ _ A)).1,U,tv,IU];cases u
def ND(G:eC P T){i D:TI}(V:T t=Z i)(A:i.u=.slice el)(j:T el=Z D)(S:ff b ρ h w)(I:ER ρ e a.tmps)(C:eB d ρ)(k:c_ d x=ck)(f:c_ d y=ck)(u:de e h (.tP K D.size x y)=Z (v,s)):Out b ρ h w v s (((do pure (bI (<-rb t (a.eval x) (a.eval y)))):Sem lY).run P w):=by
 have c:=I.eval C k;have H:=I.eval C f;have g:=(G t i V).u;rw[A] at g;simp only[de] at u;split at u
 .rename_i k n U;split at u;contradiction
  .rename_i A o len E _ N;by_cases C:n<len
   .have A:c6 n len=ck:=by simp[fa];exact C
    simp only[A,if_true,oy,BM] at u;obtain⟨rfl,rfl⟩:=u;rw[U] at H;rw[N] at c;rw[H.dN];obtain⟨r,W,f,f,k,⟨M,O,l⟩⟩:=c.h_;rw[k];have c:W=⟨r.bZ,r.base+o,K⟩:=by rcases M with h|⟨_,h⟩;exact h;omega
    subst c;refine Out.same S (c:=eU (Z ⟨r.bZ,r.base+(o+n*D.size),K⟩)) (fG ?_) (CR.ptr f).vr;have D:(0:Int)<=fo n/\fo n<(len:Int):=⟨gF n,by exact zb.2 C⟩;simp only[rb,oc,qO,zF,si,pJ g];rw[bK D];simp[(iQ (w:=w) (G _ _ j)).1,tv,IU]
   .have A:c6 n len=cd:=by cases A:c6 n len;rfl;exact absurd (by simpa [fa] using A) C
    simp[A] at u
  cases u
 cases u
def NC(E:eC P T){m:Nat}{i D:TI}(O:T t=Z i)(V:i.u=.array m el)(f:T el=Z D)(S:ff b ρ h w)(H:ER ρ e a.tmps)(I:eB d ρ)(A:c_ d x=ck)(C:c_ d y=ck)(u:de e h (.tP (Z m) D.size x y)=Z (v,s)):Out b ρ h w v s (((do pure (bI (<-rb t (a.eval x) (a.eval y)))):Sem lY).run P w):=by
 have c:=H.eval I A;have G:=H.eval I C;have g:=(E t i O).u;rw[V] at g;simp only[de] at u;split at u
 .rename_i k n N;split at u
  .rename_i C C o W j;cases W;by_cases C:n<m
   .have A:c6 n m=ck:=by simp[fa];exact C
    simp only[A,if_true,oy,BM] at u;obtain⟨rfl,rfl⟩:=u;rw[N] at G;rw[j] at c;rw[G.dN];have⟨r,U,j⟩:=c.HX;rw[j];refine Out.same S (c:=eU (Z ⟨r.bZ,r.base+(o+n*D.size),K⟩)) (fG ?_) (CR.ptr U).vr;have M:(0:Int)<=fo n/\fo n<(m:Int):=⟨gF n,by exact zb.2 C⟩;simp only[rb,oc,qO,zF,si,pJ g,pN];rw[bK M];simp[(iQ (w:=w) (E _ _ f)).1,tv,IU]
   .have A:c6 n m=cd:=by cases A:c6 n m;rfl;exact absurd (by simpa [fa] using A) C
    simp[A] at u
  contradiction;cases u
 cases u
def TG(I:eC P T){i:TI}(N:T t=Z i)(c:i.u=.string)(S:ff b ρ h w)(A:ER ρ e a.tmps)(E:eB d ρ)(D:c_ d x=ck)(H:c_ d y=ck)(u:de e h (.index K x y)=Z (v,s)):Out b ρ h w v s (((do pure (bI (<-s0 t (a.eval x) (a.eval y)))):Sem lY).run P w):=by
 have C:=A.eval E D;have D:=A.eval E H;have g:=(I t i N).u;rw[c] at g;simp only[de] at u;split at u
 .rename_i k n A;split at u;contradiction
  .rename_i c _ G;split at u;rename_i c O;cases u;rw[A] at D;rw[G] at C;rw[D.dN,C.Lv];refine Out.same S (fG ?_) (VR.int _ _);have M:(0:Int)<=fo n:=gF n;simp only[s0,oc,qO,zF,si,pJ g];simp only[M,if_true];have:(fo n).toNat=n:=Q;rw[this,O];rfl
   cases u
  cases u
 cases u
def TF(G:eC P T){i H:TI}(C:T t=Z i)(j:i.u=.array len el)(M:T el=Z H)(S:ff b ρ h w)(D:ER ρ e a.tmps)(N:eB d ρ)(k:c_ d x=ck)(f:c_ d y=ck)(A:de e h (.index (Z (len,H.size,GR H)) x y)=Z (v,s)):Out b ρ h w v s (((do pure (bI (<-s0 t (a.eval x) (a.eval y)))):Sem lY).run P w):=by
 have O:=D.eval N k;have I:=D.eval N f;have g:=(G t i C).u;rw[j] at g;simp only[de] at A;split at A
 .rename_i k n W;split at A
  .rename_i C C C l C f;cases C;by_cases D:n<len
   .have C:c6 n len=ck:=by simp[fa];exact D
    simp only[C,if_true] at A;split at A;rename_i u E;cases A;rw[W] at I;rw[f] at O;rw[I.dN];have⟨m,f,V⟩:=O.vB;have⟨c,k,j⟩:=aiu (w:=w) (G _ _ M) V E;rw[f];refine Out.same S (c:=c) (fG ?_) j;have U:(0:Int)<=fo n/\fo n<(len:Int):=⟨gF n,by exact zb.2 D⟩;simp only[s0,oc,qO,zF,si,pJ g];rw[bK U];simp only[qO,(iQ (w:=w) (G _ _ M)).1,si];exact k
    cases A
   .have C:c6 n len=cd:=by cases C:c6 n len;rfl;exact absurd (by simpa [fa] using C) D
    simp[C] at A
  contradiction;cases A
 cases A
end
section
variable{P:bG}{k:dH}{ρ:fZ}{h d:az}{w:bQ}{T:uK}{ng:Nat}{e:Env}{a:Act}{c v:aa}
def aio(I:eC P T){i:TI}(N:T t=Z i)(S:ff k ρ h w)(E:ER ρ e a.tmps)(b:eB ng ρ)(U:c_ ng x=ck)(A:de e h (.load (GR i) x)=Z (v,d)):Out k ρ h w v d (((do pure (bI (<-P6 t (a.eval x)))):Sem lY).run P w):=by
 have C:=E.eval b U;simp only[de] at A;split at A;rename_i b off b;split at A;rename_i u H;split at A;rename_i u M;cases A;rw[b] at C;have⟨r,b,O⟩:=C.HX;have⟨c,D,G⟩:=ach S (I t i N) b H M;rw[O];exact Out.same S (c:=c) (fG (by simp[P6,pN,D])) G;cases A;cases A;cases A
def aer(I:eC P T){i:TI}(M:T t=Z i)(S:ff k ρ h w)(A:ER ρ e a.tmps)(C:eB ng ρ)(U:c_ ng x=ck)(N:c_ ng y=ck)(u:de e h (.store i.size x y)=Z (v,d)):Out k ρ h w v d (((do M6 t (a.eval x) (a.eval y);pure Next.skip):Sem lY).run P w):=by
 have D:=A.eval C U;have b:=A.eval C N;simp only[de] at u;split at u
 rename_i A off A;split at u;rename_i vs E;split at u;rename_i C;split at u;rename_i c H;cases u;rw[A] at D;have⟨r,O,A⟩:=D.HX;have⟨w',V,W,G⟩:=air S (I t i M) O b E (sq C) H;rw[A];refine⟨ρ,w',undef,kd ⟨Q,?_⟩,VR.undef,W,G⟩;simp[M6,pN,V];cases u;cases u;cases u;cases u
def Hc(x:Sem G)(f:G->H):(f <$> x).run P w=(x.run P w).andThen λy w'=>.ok (f y) w':=Sem.run_map P w x f
def RM(f:G->Sem H)(g:G->H)(l:Array G)(E:∀x∈l.toList,(f x).run P w=.ok (g x) w):(l.mapM f).run P w=.ok (l.map g) w:=by
 have a:∀(m:List G)(u:Array H),(∀x∈m,(f x).run P w=.ok (g x) w)->(m.foldlM (λD x=>D.push <$> f x) u).run P w=.ok (u++(m.map g).toArray) w:=by
  intro m;induction m with
  |nil=>intro u _;simp
  |cons x m b=>
   intro u A;simp only[List.foldlM_cons,qO,Hc,A x J,si];rw[b _ (λy C=>A y (au C))];congr 1;apply b9;simp
 rw[Array.mapM_eq_foldlM,<-Array.foldlM_toList];rw[a l.toList #[] E];congr 1;apply b9;simp
def aaC :∀ {F:List (Nat×aT)} {a:List (Nat×Nat×aT)},Bj T fs F=Z a->(fs.all λf=>(T f.type).isSome)=ck->bo (λ(p:Nat×aT) (q:Nat×Nat×aT)=>((fs.map λf=>(f.offset,((T f.type).map (·.size)).getD 0)).toArray[p.1]?)=Z (q.1,q.2.1)/\q.2.2=p.2) F a:=by
 intro F;induction F with
 |nil=>intro a h _;simp only[Bj,oy] at h;subst h;exact .nil
 |cons p F b=>
  intro a h u;have⟨j,x⟩:=p;simp only[Bj] at h;split at h;cases h;rename_i f A;split at h;rename_i E l D C;cases h;refine .cons ⟨?_,Q⟩ (b C u);simp[A,D];cases h
def KP(H:eC P T){i:TI}{fs:Array rW}{F:Array (Nat×aT)}{b:List (Nat×Nat×aT)}(V:T t=Z i)(l:i.u=.struct fs)(c:(fs.toList.all λf=>(T f.type).isSome)=ck)(O:Bj T fs.toList F.toList=Z b)(S:ff k ρ h w)(m:ER ρ e a.tmps)(n:eB ng ρ)(j:(F.toList.map (·.2)).all (c_ ng)=ck)(C:de e h (.build i.zero b)=Z (v,d)):Out k ρ h w v d (((do pure (bI (<-s8 t (F.map λp=>(p.1,a.eval p.2))))):Sem lY).run P w):=by
 have g:=H t i V;have u:=g.u;rw[l] at u;simp only[de] at C;split at C
 .rename_i l A;cases C;have⟨z,W,o⟩:=AB (w:=w) g;have⟨s,I,N⟩:=Mu (ρ:=ρ) (a:=a) (ng:=ng) m n _ F.toList b i.zero i.zero l (by simpa [yL] using j) (aaC O c) (fQ g.zero) A;refine Out.same S (c:=ix ⟨s⟩) (fG ?_) (VR.agg N);have U:(fs.mapM λf=>(do pure (f.offset,<-oE f.type):Sem (Nat×Nat))).run P w=.ok (fs.map λf=>(f.offset,((T f.type).map (·.size)).getD 0)) w:=by refine RM _ _ fs ?_;intro f A;have D:=ga.1 c f A;obtain⟨A,A⟩:=Option.isSome_iff_exists.1 D;simp[(iQ (w:=w) (H _ _ A)).1,A]
  have M:z.cells=⟨i.zero⟩:=by apply b9;simpa using o
  have E:(F.map λp=>(p.1,a.eval p.2)).toList=F.toList.map λp=>(p.1,a.eval p.2):=J
  have G:(fs.toList.map λf=>(f.offset,((T f.type).map (·.size)).getD 0)).toArray=fs.map λf=>(f.offset,((T f.type).map (·.size)).getD 0):=by apply b9;simp
  rw[G] at I;simp only[s8,qO,W,si,pJ u,U,M,E,I,zF]
 cases C
def AM{el:TI} :∀F:List (Nat×aT),bo (λ(p:Nat×aT) (q:Nat×Nat×aT)=>(λi=>Z (i*el.size,el.size)) p.1=Z (q.1,q.2.1)/\q.2.2=p.2) F (F.map λp=>(p.1*el.size,el.size,p.2))
 |[]=>.nil
 |_::F=>.cons ⟨Q,Q⟩ (AM F)
def NB(E:eC P T){i u:TI}{F:Array (Nat×aT)}(O:T t=Z i)(N:i.u=.array n el)(U:T el=Z u)(S:ff k ρ h w)(G:ER ρ e a.tmps)(V:eB ng ρ)(D:(F.toList.map (·.2)).all (c_ ng)=ck)(C:de e h (.build i.zero (F.toList.map λp=>(p.1*u.size,u.size,p.2)))=Z (v,d)):Out k ρ h w v d (((do pure (bI (<-s8 t (F.map λp=>(p.1,a.eval p.2))))):Sem lY).run P w):=by
 have g:=E t i O;have A:=g.u;rw[N] at A;simp only[de] at C;split at C
 .rename_i f M;cases C;have⟨z,W,I⟩:=AB (w:=w) g;have⟨s,c,b⟩:=Mu (ρ:=ρ) (a:=a) (ng:=ng) G V (λi=>Z (i*u.size,u.size)) F.toList _ i.zero i.zero f (by simpa [yL] using D) (AM (el:=u) F.toList) (fQ g.zero) M;refine Out.same S (c:=ix ⟨s⟩) (fG ?_) (VR.agg b);have H:z.cells=⟨i.zero⟩:=by apply b9;simpa using I
  have D:(F.map λp=>(p.1,a.eval p.2)).toList=F.toList.map λp=>(p.1,a.eval p.2):=J
  simp only[s8,qO,W,si,pJ A,(iQ (w:=w) (E _ _ U)).1,H,D,c,zF]
 cases C
def uh(z:List aa):∀n,cz (ky z n)=n*cz z
 |0=>by simp[ky]
 |n+1=>by rw[ky,X0,uh z n,xf];omega
def WY(z:List aa):∀(n i:Nat),i<n*cz z->(ky z n)[i]?=z[i%cz z]?
 |0,i,h=>by simp at h
 |n+1,i,h=>by
  have u:0<cz z:=by
   cases u:cz z with
   |zero=>rw[u] at h;simp at h
   |succ k=>omega
  rw[ky];by_cases g:i<cz z;rw[MG g,Nat.mod_eq_of_lt g]
  .rw[OC ab,WY z n _ (by rw[xf] at h;omega)];congr 1
   conv=>rhs;rw[show i=(i-cz z)+cz z by omega,Nat.add_mod_right]
def DI{z:List aa}(C:0<cz z\/n=0):(ky z n)=((z6 (n*cz z)).map (λi=>(⟨z⟩:Array aa)[i%cz z]!)).toList:=by
 apply BT;intro i;by_cases g:i<n*cz z
 .have u:0<cz z:=by rcases C with h|h;exact h;subst h;simp at g
  have A:i%cz z<cz z:=Mw _ u;rw[WY z n i g];simp[g,A,getElem!_def]
 rw[xU (by rw[uh];omega),xU (by simp;omega)]
def km{z:List aa}(u:z.all dw=ck):∀n,(ky z n).all dw=ck
 |0=>rfl
 |n+1=>by rw[ky,List.all_append,u,km u n];rfl
def aep(N:eC P T){i u:TI}{F:Array (Nat×aT)}(A:T t=Z i)(D:i.u=.slice el)(c:T el=Z u)(l:n*u.size<=1000000)(S:ff k ρ h w)(l:ER ρ e a.tmps)(o:eB ng ρ)(m:(F.toList.map (·.2)).all (c_ ng)=ck)(H:de e h (.uu n (ky u.zero n) (F.toList.map λp=>(p.1*u.size,u.size,p.2)))=Z (v,d)):Out k ρ h w v d (((do pure (bI (<-sI t n (F.map λp=>(p.1,a.eval p.2))))):Sem lY).run P w):=by
 have g:=N t i A;have A:=g.u;rw[D] at A;have D:=N _ _ c;simp only[de] at H;split at H
 .rename_i c C;cases H;have⟨z,j,b⟩:=AB (w:=w) D;have M:z.cells=⟨u.zero⟩:=by apply b9;simpa using b
  have G:=D.len;have⟨s,b,f⟩:=Mu (ρ:=ρ) (a:=a) (ng:=ng) l o (λi=>Z (i*u.size,u.size)) F.toList _ _ _ c (by simpa [yL] using m) (AM (el:=u) F.toList) (fQ (km D.zero n)) C;obtain⟨C,l,c,_,_,_,O,C⟩:=HM (cH:=[]) S f el 0 (λh=>absurd Q h);rw[Bx] at O C;refine⟨_,_,dB (Z ⟨w.heap.size,0,K⟩) n n,jZ (fG ?_),?_,O,C⟩
  .have E:(F.map λp=>(p.1,a.eval p.2)).toList=F.toList.map λp=>(p.1,a.eval p.2):=J
   by_cases C:n*u.size=0
   .have f:ky u.zero n=[]:=AN (by rw[uh,G];exact C);rw[f] at b;simp only[sI,qO,pJ A,si,(iQ (w:=w) D).1,V7,C,if_true,zF,E];have f:((z6 0).map λi=>(#[]:Array aa)[i%(#[]:Array aa).size]!)=⟨[]⟩:=by apply b9;simp
    rw[f,b];rfl
   .have V:¬(n*u.size>2^24):=ab
    have U:=DI (z:=u.zero) (n:=n) (by
     by_cases I:0<cz u.zero;exact jZ I
     .right;have:cz u.zero=0:=ab
      rw[G] at this;rw[this] at C;simp at C)
    rw[G] at U;have W:z.cells.size=u.size:=by rw[M];simpa using G
    have f:((z6 (n*u.size)).map λi=>(⟨u.zero⟩:Array aa)[i%u.size]!)=⟨ky u.zero n⟩:=by apply b9;rw[<-U]
    simp only[sI,qO,pJ A,si,(iQ (w:=w) D).1,V7,V,if_false,C,j,zF,E,W];rw[M,f,b];rfl
  refine(CR.slice (wh _ _ _) ⟨jZ ?_,jZ Q,fq _⟩).vr;rw[l,c]
 cases H
def aax(A:eC P T){i C:TI}(j:T t=Z i)(m:i.u=.slice el)(f:T el=Z C)(S:ff k ρ h w)(N:ER ρ e a.tmps)(u:eB ng ρ)(n:c_ ng x=ck)(b:c_ ng y=ck)(D:de e h (.tn C.zero C.bytes x y)=Z (v,d)):Out k ρ h w v d (((do pure (bI (<-Instr.makeSlice t (a.eval x) (a.eval y)))):Sem lY).run P w):=by
 have g:=A t i j;have E:=g.u;rw[m] at E;have I:=A _ _ f;have W:=N.eval u n;have M:=N.eval u b;simp only[de] at D;split at D
 .rename_i l c j b;split at D
  .rename_i O;cases D;simp only[oD] at O;have⟨⟨⟨u,G⟩,A⟩,H⟩:=O;have u:=Uz u;have G:=Uz G;have H:=Uz H;have A:0<cz C.zero:=by simpa [fa] using A
   rw[j] at W;rw[b] at M;rw[W.dN,M.dN];have⟨V,b,n,j,z,o,m⟩:=I.info;have f:z.cells=⟨C.zero⟩:=by apply b9;simpa using m
   have U:=run_make (P:=P) w t el V z E b o ft ft (fo l) (fo c) (gF l) (o7.2 u)
    (by rw[j];show(C.bytes:Int)*(c:Int)<=_;rw[<-MQ,Nat.mul_comm];exact Tc (o7.2 G) ag) (by show(c:Int)<=_;exact Tc (o7.2 H) ag)
   have j:madeCells z.cells ((fo c).toNat*V.size)=⟨ky C.zero c++[]⟩:=by apply b9;rw[Bx,DI (jZ A),f];simp[madeCells,n,I.len]
   rw[j] at U;obtain⟨j,j,f,_,_,_,A,C⟩:=HM (cH:=[]) S (fQ (km I.zero c)) el 0 (λh=>absurd Q h);refine⟨_,_,dB (Z ⟨w.heap.size,0,K⟩) l c,jZ (fG U),?_,A,C⟩;refine(CR.slice (wh _ _ _) ⟨jZ ?_,jZ Q,u⟩).vr;rw[j,f]
  cases D
 cases D
end
def AQ{m n:Nat} :c6 m n=ck↔m<n:=by simp[fa]
section
variable{P:bG}{b:dH}{s:fZ}{h d:az}{w:bQ}{T:uK}{k:Nat}{e:Env}{a:Act}{c v:aa}
def Di{u n:Nat}{d:Nat}(G:ER s e a.tmps)(D:eB k s)(M:c_ k x=ck)(A:bound e (Z x) d u=Z n)(C:BoundsCode){y:Nat}(N:u<=y):n<=u/\(il (a.eval x) y C).run P w=.ok n w:=by
 have E:=G.eval D M;simp only[bound] at A;split at A
 .rename_i D i I;split at A;rename_i H;cases A;have D:=Uz H;refine⟨D,?_⟩;rw[I] at E;rw[E.dN];have u:(0:Int)<=fo n/\fo n<=(y:Int):=⟨gF n,o7.2 ab⟩;simp only[il,oc,qO,zF,si];rw[bK u];rfl
  cases A
 cases A
def LV(O:ER s e a.tmps)(U:eB k s)(n:(V.toList).all (c_ k)=ck)(j:(g.toList).all (c_ k)=ck)(i:(M.toList).all (c_ k)=ck)(h:(M.isSome&&g.isNone)=cd){len A b m u l:Nat}(f:A<=b)(N:bound e M A A=Z m)(c:bound e g len m=Z u)(d:bound e V 0 u=Z l):∃C,(eZ ck len b (V.map a.eval) (g.map a.eval) (M.map a.eval)).run P w=.ok (l,u,C) w/\l<=u/\(g.isSome->u<=m)/\((M.isSome/\C=m/\m<=A)\/(M=K/\m=A/\C=b)):=by
 have A:∀(C:Nat),m<=C->(M.isSome->C=m)->(match M.map a.eval with
   |some v=>il v b (if ck then .slice3Acap else .slice3Alen)
   |none=>(pure b:Sem Nat)).run P w=.ok C w->(eZ ck len b (V.map a.eval) (g.map a.eval) (M.map a.eval)).run P w=.ok (l,u,C) w/\l<=u/\(g.isSome->u<=m):=by
  intro C D o H;have E:(match g.map a.eval,M.map a.eval with
    |some v,Z _=>il v C .slice3B
    |some v,K=>il v C (if ck then .sliceAcap else .sliceAlen)
    |none,K=>(pure len:Sem Nat)
    |none,Z _=>stuck "Slice: max without high").run P w=.ok u w/\(g.isSome->u<=m):=by
   rcases g with _|x;rcases M with _|_;simp only[bound,oy] at c;subst c;exact⟨Q,J⟩;simp at h
   .have I:c_ k x=ck:=aj j
    rcases M with _|y;have:=Di (P:=P) (w:=w) O U I c .sliceAcap D;exact⟨this.2,λ_=>this.1⟩;have:=Di (P:=P) (w:=w) O U I c .slice3B D;exact⟨this.2,λ_=>this.1⟩
  have C:(match V.map a.eval with
    |some v=>il v u (if(M.map a.eval).isSome then .slice3C else .sliceB)
    |none=>(pure 0:Sem Nat)).run P w=.ok l w/\l<=u:=by
   rcases V with _|x;simp only[bound,oy] at d;subst d;exact⟨Q,Nat.zero_le _⟩;have I:c_ k x=ck:=aj n
   have:=Di (P:=P) (w:=w) O U I d (if(M.map a.eval).isSome then .slice3C else .sliceB) (fq u);exact⟨this.2,this.1⟩
  refine⟨?_,C.2,E.2⟩;have D:=E.1;have G:=C.1;clear E C N c d;rcases M with _|M<;>rcases g with _|g<;>rcases V with _|V<;>
   simp only[gj,Eo,fX,fA,zF,Result.ok.injEq,and_true,run_stuck,reduceCtorEq,if_true,if_false,CL] at H D G<;>
   first
    |(subst H;subst D;subst G;rfl)
    |(subst H;subst D;simp only[eZ,gj,Eo,fX,fA,if_true,if_false,CL,qO,zF,G,si];done)
    |(subst H;subst G;simp only[eZ,gj,Eo,fX,fA,if_true,if_false,CL,qO,zF,D,si];done)
    |(subst H;simp only[eZ,gj,Eo,fX,fA,if_true,if_false,CL,qO,zF,D,G,si];done)
    |(subst G;simp only[eZ,gj,Eo,fX,fA,if_true,if_false,CL,qO,zF,H,D,si];done)
    |(simp only[eZ,gj,Eo,fX,fA,if_true,if_false,CL,qO,zF,H,D,G,si];done)
 rcases M with _|x;simp only[bound,oy] at N;subst N;have⟨D,d,W⟩:=A b f J rfl;exact⟨b,D,d,W,kd ⟨Q,Q,Q⟩⟩;have I:c_ k x=ck:=aj i
 have b:=Di (P:=P) (w:=w) O U I N .slice3Acap f;have⟨D,d,W⟩:=A m (fq m) (λ_=>rfl) b.2;exact⟨m,D,d,W,jZ ⟨Q,Q,b.1⟩⟩
def aiq(z:eC P T){i c:TI}(L:T t=Z i)(j:i.u=.slice el)(f:T el=Z c)(A:(M.isSome&&g.isNone)=cd)(S:ff b s h w)(p:ER s e a.tmps)(q:eB k s)(X:c_ k x=ck)(O:(V.toList).all (c_ k)=ck)(D:(g.toList).all (c_ k)=ck)(Kc:(M.toList).all (c_ k)=ck)(u:de e h (.slice c.size x V g M)=Z (v,d)):Out b s h w v d (((do pure (bI (<-w_ t (a.eval x) (V.map a.eval) (g.map a.eval) (M.map a.eval)))):Sem lY).run P w):=by
 have n:=(z t i L).u;rw[j] at n;have L:=(iQ (w:=w) (z _ _ f)).1;have z:=p.eval q X;simp only[de] at u;split at u
 .rename_i f len E j;split at u;cases u
  .rename_i m f;split at u;cases u
   .rename_i X U;split at u;cases u
    .rename_i l h3;rw[j] at z;split at u
     .cases u;rw[z.j1];have⟨N,j,hlh,_,G⟩:=LV (P:=P) (w:=w) p q O D Kc A (fq E) f U h3;have C:N=m:=by rcases G with⟨_,h,_⟩|⟨_,h,d⟩<;>omega
      subst C;refine Out.same S (fG ?_) (CR.gQ _ _).vr;simp only[w_,RA,qO,pJ n,si,j,L,zF,gj];congr 2;split<;>rfl
     .rename_i b' off;split at u
      .rename_i C C o C ho;cases C:an o 0||an o c.size;simp[C] at u
       .simp only[C,jv,oy,BM] at u;obtain⟨rfl,rfl⟩:=u;have⟨r,W,F,hr,hc,⟨Pq,H,hle⟩⟩:=z.h_;obtain⟨B,z,z,_,z,z,_,_,_⟩:=S.obj b' r _ hr ho;have MM:E<=F:=by rcases H with h|⟨_,h,_,_⟩<;>omega
        have⟨N,j,hlh,hhm,G⟩:=LV (P:=P) (w:=w) p q O D Kc A MM f U h3;have D:X<=m:=by rcases g with _|y;simp only[bound,oy] at U;rcases G with⟨D,_⟩|⟨_,h,_⟩;rw[D] at A;simp at A;omega;exact hhm rfl
        rw[hc];refine Out.same S (c:=dB (Z (if N=l then W else W.add (l*c.size))) (X-l) (N-l)) (fG ?_) (CR.slice hr ⟨?_,?_,?_⟩).vr;simp only[w_,RA,qO,pJ n,si,j,L,zF];congr 2;split<;>simp
        .by_cases L:N=l;right;rcases G with⟨_,h,_⟩|⟨_,h,d⟩<;>omega
         .left;rw[bM L];have L:W=⟨r.bZ,r.base+off,K⟩:=by rcases Pq with h|⟨f,U⟩;exact h;rcases G with⟨_,h,_⟩|⟨_,h,d⟩<;>omega
          rw[L,tv,IU]
        .rcases G with⟨_,h,_⟩|⟨_,h,d⟩;left;omega
         .rcases H with f|⟨f,L,L,j⟩;left;omega
          .right;have I:r.NH=c.size:=by rw[z];simp only[lA] at C;rcases C with h|h;exact absurd (z.trans (sq h)) f;exact sq h
           refine⟨f,ab,?_,?_⟩;rw[<-I,h,BD,<-L];have:l*r.NH<=E*r.NH:=IX _ ab;omega
           rw[<-I,d,BD];have:l*r.NH<=F*r.NH:=IX _ ab;omega
        omega
      cases u
     cases u
 cases u
def PM(P:bG)(w:bQ)(A:cI)(u:Nat)(el:cI)(x:aa)(n:Nat)(B:List aa):Prop:=
 (∃C E G,P.underlying A=Z (.slice C)/\x=dB E n G/\∀k,(cf u n x).run P {w with drawn:=k} =.ok ⟨B⟩ {w with drawn:=k})\/(∃k D,P.underlying A=Z (.int D)/\x=.int k (n:Int)/\n<=1099511627776/\∃z,(∀w',(eG el).run P w'=.ok z w')/\cz z.cells.toList=u/\B=ky z.cells.toList n)
def aif(U:eC P T){el O:cI}{I M:TI}(a:T el=Z I)(A:T O=Z M)(d:if N then ∃k,M.u=.int k else ∃E,M.u=.slice E)(S:ff b s h w){x y:aa}(q:VR s x y){L:List aa}(u:news h I.zero N x=Z (n,L)):∃B,bo (KR s) L B/\cz L=n*I.size/\PM P w O I.size el y n B:=by
 have G:=U _ _ a;have D:=(U _ _ A).u;unfold news at u;split at u
 .
  rename_i k m;split at u
  .rename_i c;cases u;obtain⟨a,f⟩:=aj d
   rw[f] at D;rw[q.dN];refine⟨_,fQ (km G.zero n),by rw[uh,G.len],kd ⟨k,a,D,Q,Uz c,?_⟩⟩;obtain⟨t,l,p,j,z,o,V⟩:=G.info;exact⟨z,λw'=>by simp[eG,fe,l,o],by rw[V];exact G.len,by rw[V]⟩
  cases u
 .
  rename_i m _;split at u
  .rename_i A;cases u;have A:=sq A;subst A;obtain⟨E,C⟩:=aj d
   rw[C] at D;rw[q.j1];exact⟨[],.nil,J,jZ ⟨E,K,_,D,Q,λk=>by simp[cf]⟩⟩
  cases u
 .
  rename_i j off m _;obtain⟨E,C⟩:=aj d
  rw[C] at D;obtain⟨r,W,H,F,d,⟨p,L,v⟩⟩:=q.h_;rw[d];split at u;rename_i A;cases u;have A:=sq A;subst A;exact⟨[],.nil,J,jZ ⟨E,_,_,D,Q,λk=>by simp[cf,loadCells,loadCellsFrom]⟩⟩
  .rename_i A;split at u
   .rename_i j i;cases u;have j:n≠0:=by intro e;rw[e] at A;exact A rfl
    have f:W=⟨r.bZ,r.base+off,K⟩:=by rcases p with h|⟨_,h⟩;exact h;omega
    subst f;obtain⟨g,B,a,l⟩:=H0 S F i;refine⟨B,a,by rw[g,G.len],jZ ⟨E,_,_,D,Q,λk=>?_⟩⟩;have:=MU (P:=P) {w with drawn:=k} I.size n ⟨r.bZ,r.base+off,K⟩ n H B (by rw[<-a.length,g,G.len]) l;exact this
   cases u
 cases u
def KT{z:Array aa}{m:Nat}(E:z.toList.all dw=ck)(A:c∈(ew z m).toList):dw c=ck:=by
 simp only[ew,Array.toList_map,kC] at A;obtain⟨i,g,rfl⟩:=A;have u:i<m*z.size:=aj g
 have C:0<z.size:=by rcases EK z.size with h|h;rw[h] at u;simp at u;exact h
 have D:i%z.size<z.size:=Mw _ C;rw[getElem!_pos z _ D];exact ga.1 E _ J
def vQ{t b ty el:cI}{u:TI}(L:zf P el u)(p:P.underlying t=Z (.slice el)){sa:Option zG}{len ccap n:Nat}{x:aa}(X:PM P w b u.size el x n B)(g:cz B=n*u.size)(yO:0<u.size)(q:n*u.bytes<=1099511627776):(len+n<=ccap->(c5 #[t,b] ty #[dB sa len ccap,x]).run P w=
   (((match sa with|some j=>storeCells (j.add (len*u.size)) B|none=>pure ()):Sem Unit).run P w).andThen λ_ w'=>.ok (dB sa (len+n) ccap) w')/\(ccap<len+n->(len+n)*u.bytes<=1099511627776->len+n<=1099511627776->∀I:List aa,cz I=len*u.size->(∀k,(cf u.size len (dB sa len ccap)).run P {w with drawn:=k} =.ok ⟨I⟩ {w with drawn:=k})->∃(T:Nat) (F:List aa),len+n<=T/\cz F=(T-(len+n))*u.size/\(∀c∈F,dw c=ck)/\(c5 #[t,b] ty #[dB sa len ccap,x]).run P w=.ok (dB (Z ⟨w.heap.size,0,K⟩) (len+n) T) (({w with drawn:=w.drawn+1} :bQ).alloc (.cells ⟨(I++B)++F⟩ el))):=by
 have⟨i,E,v,b,z,U,r⟩:=L.info;have o:z.cells.size=u.size:=by have:=L.len;rw[<-r] at this;simpa using this
 have y:∀(m:Nat),∀c∈(ew z.cells m).toList,dw c=ck:=by intro m c d;have C:=L.zero;rw[<-r] at C;exact KT C d
 rcases X with⟨S,e,L,G,rfl,a⟩|⟨k,l,G,rfl,S,M,d,F,T⟩
 .have l:(cf u.size n (dB e n L)).run P w=.ok ⟨B⟩ w:=by have:=a w.drawn;exact this
  constructor;intro V;rcases sa with _|j;simp[c5,pJ p,pJ G,oE,fe,E,v,u2,V,l];simp[c5,pJ p,pJ G,oE,fe,E,v,u2,V,l]
  .intro W s S I f A;have H:¬(len+n<=ccap):=ab
   have D:¬(9223372036854775807<((len:Int)+(n:Int))):=ab
   have C:¬(281474976710656<o9 (len+n) ccap*i.bytes):=by rw[b];have:=growslice_fits (bytes:=u.bytes) W ab;omega
   have l:(cf u.size n (dB e n L)).run P w.drew=.ok ⟨B⟩ w.drew:=a (w.drawn+1);have X:(cf u.size len (dB sa len ccap)).run P w.drew=.ok ⟨I⟩ w.drew:=A (w.drawn+1);refine⟨grownCap w (len+n) ccap el,(ew z.cells (grownCap w (len+n) ccap el-(len+n))).toList,grownCap_ge w _ _ _,?_,y _,?_⟩
   have:=size_zeroCells z.cells (grownCap w (len+n) ccap el-(len+n));rw[o] at this;simpa using this;simp[c5,pJ p,pJ G,oE,fe,eG,E,v,U,u2,H,D,C,oJ,l,X,newRow,grownCap];congr 2;apply b9;simp[MD]
 .have e:bd.i64.wrap (n:Int)=n:=by rw[B7];omega
  have a:¬((n:Int)<0):=ab
  have N:¬(281474976710656<(n:Int)*(u.bytes:Int)):=by have:((n*u.bytes:Nat):Int)<=1099511627776:=o7.2 q;rw[MQ] at this;omega
  have q:=d w;have l:M=z:=by
   have L:(eG el).run P w=.ok z w:=by simp[eG,fe,E,U]
   rw[q] at L;injection L
  subst l;have r:n*u.size=0->B=[]:=λh=>AN (by rw[g,h]);have g:(ew M.cells n)=⟨B⟩:=by apply b9;rw[T,DI (jZ (by rw[F];exact yO)),F];have:M.cells=⟨M.cells.toList⟩:=Q;simp[ew,o]
  have q:n*u.size=0↔n=0:=by constructor;intro h;rcases Nat.mul_eq_zero.1 h with h|h;exact h;omega;rintro rfl;simp
  have d:bd.i64.wrap 0=0:=by rw[B7];omega
  by_cases F:n=0
  .subst F;have T:B=[]:=r J;subst T;constructor
   .intro V;have r:len<=ccap:=ab
    rcases sa with _|j;simp[c5,pJ p,pJ G,oE,fe,E,v,Ln,oc,d,r,storeCells];simp[c5,pJ p,pJ G,oE,fe,E,v,Ln,oc,d,r,storeCells]
   .intro W s S I f A;have H:¬(len+0<=ccap):=ab
    have L:¬(len<=ccap):=ab
    have D:¬(9223372036854775807<(len:Int)):=ab
    have C:¬(281474976710656<o9 len ccap*i.bytes):=by rw[b];have:=growslice_fits (bytes:=u.bytes) W ab;simp only[A1] at this;omega
    have X:(cf u.size len (.slice sa len ccap)).run P w.drew=.ok ⟨I⟩ w.drew:=A (w.drawn+1);refine⟨grownCap w (len+0) ccap el,(ew M.cells (grownCap w (len+0) ccap el-(len+0))).toList,grownCap_ge w _ _ _,?_,y _,?_⟩;have:=size_zeroCells M.cells (grownCap w (len+0) ccap el-(len+0));rw[o] at this;simpa using this;simp[c5,pJ p,pJ G,oE,fe,eG,E,v,U,Ln,oc,d,L,D,C,oJ,X,newRow,grownCap];congr 2;apply b9;simp
  .have T:¬(n*u.size=0):=λh=>F (q.1 h);have O:¬(u.size=0):=ab
   constructor;intro V;rcases sa with _|j;simp[c5,pJ p,pJ G,oE,fe,eG,E,v,b,U,Ln,oc,e,a,N,V,F,O,g];simp[c5,pJ p,pJ G,oE,fe,eG,E,v,b,U,Ln,oc,e,a,N,V,F,O,g];intro l;exact absurd l T
   .intro W s S I f A;have H:¬(len+n<=ccap):=ab
    have D:¬(9223372036854775807<((len:Int)+(n:Int))):=ab
    have C:¬(281474976710656<o9 (len+n) ccap*u.bytes):=av (growslice_fits (bytes:=u.bytes) W ab)
    have X:(cf u.size len (dB sa len ccap)).run P w.drew=.ok ⟨I⟩ w.drew:=A (w.drawn+1);refine⟨grownCap w (len+n) ccap el,(ew M.cells (grownCap w (len+n) ccap el-(len+n))).toList,grownCap_ge w _ _ _,?_,y _,?_⟩;have:=size_zeroCells M.cells (grownCap w (len+n) ccap el-(len+n));rw[o] at this;simpa using this;simp[c5,pJ p,pJ G,oE,fe,eG,E,v,b,U,Ln,oc,e,a,N,H,D,C,F,O,oJ,X,newRow,grownCap,g];rw[bM T];congr 3;apply b9;simp[MD]
end
section
variable{P:bG}{s:dH}{d:fZ}{h b:az}{w:bQ}{T:uK}{u:Nat}{e:Env}{a:Act}{c v:aa}
def VR.aa3{x:zG}(h:VR d (dB (Z x) n E) c):∃b o r W u,x=⟨b,o,K⟩/\d b=Z r/\c=dB (Z W) n u/\yo r o n E W u:=by
 cases h with
 |val h=>cases h with
  |cell h=>cases h with
   |cell h=>cases h with
    |slice h A=>exact⟨_,_,_,_,_,Q,h,Q,A⟩
def yo.FP{r:Fc}{o len u a:Nat}(h:yo r o len u W a):u<=a:=by rcases h.2.1 with h|⟨_,h,_⟩<;>omega
def yo.addr{r:Fc}{o len u a:Nat}(h:yo r o len u W a)(A:0<a):W=⟨r.bZ,r.base+o,K⟩:=by rcases h.1 with h|⟨h,_⟩;exact h;omega
def ff.drew(S:ff s d h w):ff s d h ({w with drawn:=w.drawn+1} :bQ):=S.drawn _
def Qt(S:ff s d h w){b B a:List aa}{el n A u:Nat}(D:bo (KR d) b B)(E:cz b=n*u)(W:0<u)(G:n<=A)(M:cz a=(A-n)*u)(N:∀c∈a,dw c=ck):∃e,VR e (dB (Z ⟨h.aw,0,K⟩) n n) (dB (Z ⟨w.heap.size,0,K⟩) n A)/\ff s e (aJ h b u) (({w with drawn:=w.drawn+1} :bQ).alloc (.cells ⟨B++a⟩ el))/\Ext d h w e (aJ h b u) (({w with drawn:=w.drawn+1} :bQ).alloc (.cells ⟨B++a⟩ el)):=by
 have⟨V,b,H,U,C,f,e,O⟩:=HM (cH:=a) S.drew D el u (λ_=>N);have I:cz (B++a)=A*u:=by rw[X0,<-D.length,E,M,BD];have:n*u<=A*u:=IX _ G;omega
 refine⟨_,(CR.slice (wh _ _ _) ⟨jZ ?_,kd ⟨ab,G,?_,?_⟩,fq _⟩).vr,e,(Ext.drawn _).trans O⟩;rw[b,H];rw[U,C,E];omega;rw[C,f,I];omega
def QX(f:eC P T){t t' k el:cI}{i D C:TI}(z:T t=Z i)(l:i.u=.slice el)(m:T el=Z C)(ZV:T t'=Z D)(F:if N then ∃X,D.u=.int X else ∃Sx,D.u=.slice Sx)(S:ff s d h w)(A:ER d e a.tmps)(q:eB u d)(hx:c_ u x=ck)(L:c_ u y=ck)(D:de e h (.append C.zero C.bytes N x y)=Z (v,b)):Out s d h w v b (((do pure (bI (<-c5 #[t,t'] k #[a.eval x,a.eval y]))):Sem lY).run P w):=by
 have p:=(f t i z).u;rw[l] at p;have V:=f _ _ m;have U:=V.len;have z:=A.eval q hx;have sr:=A.eval q L;simp only[de] at D;split at D
 .rename_i n cs A;have⟨B,L,Dx,E⟩:=aif f m ZV F S sr A;have O:cz B=n*C.size:=by rw[<-L.length,Dx]
  unfold eI at D;split at D
  .rename_i F len H m;rw[m] at z;split at D
   .rename_i A;have q:0<C.size:=by rw[<-U];exact AQ.1 A
    split at D
    .
     rename_i f;have f:=sq f;subst f;split at D
     .rename_i A;have A:=Uz A;cases D;have JY:B=[]:=AN (by rw[O];simp);subst JY;rcases F with _|A
      have F:=z.j1;rw[F] at z⊢;have:=(vQ (t:=t) (ty:=k) V p (sa:=K) (len:=len) (ccap:=H) E O q J).1 ab;exact Out.same S (fG (this.trans Q)) z
      obtain⟨b',o,r,W,A,rfl,F,m,G⟩:=z.aa3;have hle:=G.FP;rw[m] at z⊢;have:=(vQ (t:=t) (ty:=k) V p (sa:=Z W) (len:=len) (ccap:=A) E O q J).1 ab;exact Out.same S (fG (this.trans Q)) z
     cases D
    .rename_i vo;have aGK:0<n:=by rcases EK n with h|h;subst h;exact absurd rfl vo;exact h
     split at D
     .rename_i nC;simp only[oD] at nC;have zn:=Uz nC.1;have ZN:=Uz nC.2;have ZG:n*C.bytes<=1099511627776:=qN (IX _ ab) ZN;split at D
      .
       split at D;rename_i f;simp only[oD] at f;have Q1:=sq f.1;have JY:=sq f.2;subst Q1;subst JY;cases D;rw[z.j1];have⟨Nx,cH,g1,g2,g4,g3⟩:=(vQ (t:=t) (ty:=k) V p (sa:=K) (len:=0) (ccap:=0) E O q ZG).2 ab ZN zn [] J (λX=>by simp[cf]);rw[IV] at g1 g2 g3;have⟨ρ',I,MR,jx⟩:=Qt (el:=el) S L Dx q g1 g2 g4;rw[U];exact⟨ρ',_,_,jZ (fG g3),I,MR,jx⟩
       cases D
      .rename_i b' off;split at D
       .rename_i cg o f ho;have⟨r,W,A,F,m,G⟩:=z.h_;have f:=G.FP;have z:=G.2.2;obtain⟨f,Sx,z,q1,q2,q3,q4,z,q6⟩:=S.obj b' r _ F ho;have hfr:=z rfl;subst hfr;rw[m];split at D
        .
         rename_i z;have z:=Uz z;split at D
         rename_i h'' hw;cases D;have⟨w',fB,S',E'⟩:=DP (P:=P) S F hw L;have:=(vQ (t:=t) (ty:=k) V p (sa:=Z W) (len:=len) (ccap:=A) E O q ZG).1 ab;refine⟨d,w',dB (Z W) (len+n) A,jZ (fG ?_),(CR.slice F ⟨G.1,G.2.1,z⟩).vr,S',E'⟩;rw[this];dsimp only;rw[G.addr ab,tv,IU,<-U,fB];rfl
         cases D
        .rename_i ahj;have ahj:H<len+n:=by rcases Kz H (len+n) with h|h;exact h;exact absurd (qV h) ahj
         dsimp only at D;by_cases apu:an (cz ((cg.drop off).take (len*cz C.zero))) (len*cz C.zero)=ck
         .rw[bK apu] at D;have zI:=sq apu;have dg:cy h b' off (len*C.size)=Z ((cg.drop off).take (len*C.size)):=by unfold cy;rw[ho];rw[U] at zI;simp only[zI,kt,if_true]
          have⟨CO,Gj,Pr,hoc⟩:=H0 S F dg;have apf:cz Gj=len*C.size:=by rw[<-Pr.length,CO]
          have aoY:∀X,(cf C.size len (dB (Z W) len A)).run P {w with drawn:=X} =.ok ⟨Gj⟩ {w with drawn:=X} :=by
           intro X;by_cases JY:0<A;rw[G.addr JY];exact MU (P:=P) {w with drawn:=X} C.size len ⟨r.bZ,r.base+off,K⟩ len A Gj apf hoc
           .have Q1:len=0:=ab
            subst Q1;have:Gj=[]:=AN (by rw[apf];simp);subst this;simp[cf,loadCells,loadCellsFrom]
          have JZ:=Pr.app L;have qm:cz ((cg.drop off).take (len*C.size)++cs)=(len+n)*C.size:=by rw[X0,CO,Dx,xf]
          have grow:∀(X:az),(ff s d X w/\Ext d h w d X w)->X.aw=h.aw->A<len+n->Out s d h w (dB (Z ⟨h.aw,0,K⟩) (len+n) (len+n)) (aJ X ((cg.drop off).take (len*C.size)++cs) C.size)
             (((do pure (bI (<-c5 #[t,t'] k #[dB (Z W) len A,a.eval y]))):Sem lY).run P w):=by
           intro X ⟨S1,X⟩ J0 iK;have⟨Nx,cH,g1,g2,g4,g3⟩:=(vQ (t:=t) (ty:=k) V p (sa:=Z W) (len:=len) (ccap:=A) E O q ZG).2 iK ZN zn Gj apf aoY;have⟨ρ',I,MR,jx⟩:=Qt (el:=el) S1 JZ qm q g1 g2 g4;rw[J0] at I;exact⟨ρ',_,_,jZ (fG g3),I,MR,X.trans jx⟩
          split at D;rename_i ahb;cases D;rw[U];refine grow h ⟨S,.refl d h w⟩ rfl ?_;rcases G.2.1 with X|⟨X,h6,h7,_⟩;omega;exfalso;simp only[lA,Hp] at ahb;rcases ahb with M|M;exact X (q3.trans (sq M));rw[q3,q2] at h7;rw[h7,kt] at M;cases M
          .rename_i aGL;split at D
           .rename_i W';have W':=sq W';cases D;rw[U];by_cases iK:A<len+n
            exact grow _ (S.less b') rfl iK
            .
             have ZO:len+n<=A:=ab
             have adH:r.NH=C.size:=by rw[q3,W',U]
             have halt:off+A*r.NH<=r.room:=by rcases G.2.1 with X|⟨_,_,_,M⟩;omega;exact M
             have ZD:off+H*r.NH=r.len:=by rcases G.2.1 with X|⟨_,_,M,_⟩;omega;exact M
             have X:H*C.size<=(len+n)*C.size:=IX _ ab;rw[adH] at halt ZD;have amR:=G.addr (show 0<A by omega);have X:(len+n)*C.size<=A*C.size:=IX _ ZO;rw[xf] at X;have z:r.base+(off+len*C.size)+0+cz B<=f.size:=by rw[O,<-q4.1];omega
             have fB:=run_storeCells_at (P:=P) r.bZ (r.base+(off+len*C.size)) Sx B 0 f w q1 z (λX hm=>by have⟨i,g⟩:=iG hm;have hx:cs[i]?=Z (cs[i]'(by rw[L.length];exact(cY.1 g).1)):=jh _;have⟨c,m,hkr⟩:=L.get hx;rw[g] at m;cases m;exact Ao hkr.plain.2);have aBF:=(vQ (t:=t) (ty:=k) V p (sa:=Z W) (len:=len) (ccap:=A) E O q ZG).1 ZO;have k:f.toList.take (r.base+(off+len*C.size)+0)++B++f.toList.drop (r.base+(off+len*C.size)+0+cz B)=aX f.toList (r.base+(off+len*C.size)) B:=by simp[aX]
             rw[k] at fB;have m:r.base+(off+len*C.size)+cz B<=cz f.toList:=aj z
             have z:jR s (lv d h.aw ⟨r.bZ,r.base+off,(len+n)*C.size,C.size,r.room-off⟩) ⟨r.bZ,r.base+off,(len+n)*C.size,C.size,r.room-off⟩
               (.bZ ((cg.drop off).take (len*C.size)++cs) cd C.size 0) (w.setRow r.bZ (aX f.toList (r.base+(off+len*C.size)) B).toArray):=by
              refine⟨_,Sx,(0,0),setRow_heap w r.bZ f _ Sx _ q1,qm.symm,Q,⟨?_,?_⟩,λ_=>rfl,?_⟩
              rotate_left 1
              intro f j X q l;dsimp only at q l;simp only[lI] at l;have k:=q;rw[xf] at k;rw[pS m,bM ab] at l;exact q4.2 ab (off+j) X ab (by simpa [IU] using l)
              rotate_left 1
              have q4:=q4.1;simp only[F4,EZ m,Af];omega;intro j X q;simp only[lI];rw[pS m];by_cases p:j<len*C.size;rw[bM ab];rw[MG (by rw[CO];exact p),A0,bK p,gw] at q;have⟨c,f,k⟩:=q6 _ _ q;exact⟨c,by rw[<-f];simp[IU],k.mono (yZ S.fresh)⟩;rw[OC (by rw[CO];omega),CO] at q;have⟨c,f,k⟩:=L.get q;have X:=(cY.1 f).1;rw[bK ab];refine⟨c,?_,k.mono (yZ S.fresh)⟩;rw[<-f];congr 1;omega
             have⟨S',E'⟩:=ff.move S F ho rfl (im:=⟨r.bZ,r.base+off,(len+n)*C.size,C.size,r.room-off⟩) rfl (Bq.row _ _) z;refine⟨_,_,dB (Z W) (len+n) A,jZ (fG ?_),(CR.slice (wh _ _ _) ⟨jZ ?_,kd ⟨by show C.size≠0;omega,ZO,by show 0+(len+n)*C.size=(len+n)*C.size;omega,by show 0+A*C.size<=r.room-off;omega⟩,fq _⟩).vr,S',E'⟩;rw[aBF];dsimp only;rw[amR,tv,IU,fB];rfl;rw[amR];rfl
           cases D
         rw[bM apu] at D;cases D
       cases D
      cases D
     cases D
   cases D
  cases D
 cases D
end
section
variable{P:bG}{b:dH}{d:fZ}{h k:az}{w:bQ}{T:uK}{s:Nat}{e:Env}{a:Act}{c v:aa}
def VR.Tq{x:Nat}(h:VR d (.map (Z x)) c):∃r,d x=Z r/\c=.map (Z r.bZ):=by
 have:=CR.vX h rfl;cases this with
 |map k=>exact⟨_,k,Q⟩
def VR.aaq(h:VR d (.map K) c):c=.map K:=by
 have:=CR.vX h rfl;cases this with
 |uC=>rfl
def BX(d:fZ)(x:aa×aa)(y:gH):Prop:=AR d x.1 y.key/\AR d x.2 y.val
@[simp] def arH(v:aa):tS [1] v=ck:=rfl
def acW{X:Array gH}{k v:aa}(h:∀(i:Nat)(y:gH),X[i]?=Z y->y.born=i):∀(i:Nat)(y:gH),(X.push { key:=k,val:=v,born:=X.size })[i]?=Z y->y.born=i:=by intro i y u;rw[ki] at u;split at u;rename_i e;cases u;exact e.symm;exact h i y u
def JL{X:Array gH}{f:gH->gH}(C:∀e,(f e).born=e.born)(h:∀(i:Nat)(y:gH),X[i]?=Z y->y.born=i):∀(i:Nat)(y:gH),(X.modify j f)[i]?=Z y->y.born=i:=by intro i y u;rw[Array.getElem?_modify] at u;split at u;rcases A:X[i]? with _|e;rw[A] at u;cases u;rw[A] at u;cases u;rw[C];exact h i e A;exact h i y u
def Zb{l:Array aa}{y:aa}{t:Bool}(h:fV (9::ks) (ix l) y=Z t):∃u,y=ix u/\cN ks l.toList u.toList=Z t:=by
 cases y with
 |agg u=>exact⟨u,Q,h⟩
 |_=>
  exfalso;unfold fV at h;rcases ks with _|⟨a,ks⟩;simp[d_] at h;simp at h
def ae6{k:Nat}(h:d_ k p q=Z ck)(n:Nat):Instr.sameBits n p q=ck:=by unfold d_ at h;split at h;cases n<;>simpa [Instr.sameBits] using h;split at h;rename_i u;subst u;cases n<;>simpa [Instr.sameBits] using h;cases h;cases n<;>simpa [Instr.sameBits] using h;cases h
def aaZ :∀ {ks:List Nat} {l m:List aa},cN ks l m=Z ck->(l.zip m).all (λx=>Instr.sameBits n x.1 x.2)=ck:=by
 intro ks;induction ks with
 |nil=>
  intro l m h;have⟨u,A⟩:=gL h
  match l,m,u,A with
  |[],[],_,_=>rfl
 |cons k ks a=>
  intro l m h;have⟨u,A⟩:=gL h
  match l,m,u,A with
  |p::l,q::m,_,_=>
   simp only[cN] at h;split at h;rename_i x y D C;simp only[oy,oD] at h;obtain⟨rfl,rfl⟩:=h;simp only[List.zip_cons_cons,ef,oD];exact⟨ae6 D n,a C⟩;cases h
def Xs(h:cN ks l m=Z ck)(n:Nat):Instr.sameBits (n+1) (ix ⟨l⟩) (ix ⟨m⟩)=ck:=by have⟨u,A⟩:=gL h;have:=aaZ (n:=n) h;simp only[Instr.sameBits,oD];exact⟨by simp[u,A],this⟩
def YI(a b:ByteArray):(a==b)=(b==a):=by
 cases a with|mk a=>cases b with|mk b=>
 show(a==b)=(b==a);exact BEq.comm
def Ht:∀ {ks:List Nat} {l m:List aa} {t:Bool},cN ks l m=Z t->cN ks m l=Z t:=by
 intro ks;induction ks with
 |nil=>
  intro l m t h;have⟨C,A⟩:=gL h
  match l,m,C,A with
  |[],[],_,_=>exact h
 |cons k ks a=>
  intro l m t h;have⟨C,A⟩:=gL h
  match l,m,C,A with
  |p::l,q::m,_,_=>
   simp only[cN] at h⊢;split at h
   .rename_i x y u E;have e:d_ k q p=Z x:=by unfold d_ at u⊢;split at u;cases u;simp[Bool.beq_comm];split at u;rename_i D;subst D;cases u;rw[bK rfl];refine congrArg Z ?_;rw[Bool.eq_iff_iff];simp only[beq_iff_eq];exact eq_comm;cases u;rename_i H G;cases u;exact congrArg Z (YI _ _);cases u
    rw[e,a E];exact h
   cases h
def ahU(c:eC P T):∀(d t:Nat)(i:TI)(u:Nat)(ks:List Nat),T t=Z i->kinds T d t=Z ks->d<=u->∀(l:List aa),cz l=i.size->∀(b:Bool)(w:bQ),(Instr.checkKey b u t (valOf i l)).run P w=.ok () w:=by
 intro d;induction d with
 |zero=>intro t i u ks _ h;simp[kinds] at h
 |succ d s=>
  intro t i u ks o A C l C b w;obtain⟨u,rfl⟩:∃k,u=k+1:=⟨u-1,ab⟩;have g:=c t i o;have C:=g.u;simp only[kinds,o] at A;have M:=g.agg;split at A
  rename_i E;rw[E] at C;unfold Instr.checkKey;simp[pJ C];rename_i E;rw[E] at C;unfold Instr.checkKey;simp[pJ C];rename_i E;rw[E] at C;unfold Instr.checkKey;simp[pJ C]
  .rename_i fs E;rw[E] at M C;split at A
   .rename_i n G;cases H:an n i.size;simp[H] at A;simp only[H,jv] at A;have y:=sq H;have o:∀(I:List rW)(off:Nat)(ks:List Nat),se T off I=Z n->qB (kinds T d) I=Z ks->∀w,(forIn I PUnit.unit (λf r=>do
       if f.name≠ "_" then do
        Instr.checkKey b u f.type (<-part f.type ⟨l⟩ f.offset)
        pure (ForInStep.yield PUnit.unit)
       else pure (ForInStep.yield PUnit.unit)):Sem PUnit).run P w=.ok PUnit.unit w:=by
     intro I;induction I with
     |nil=>intro off ks _ _ w;simp
     |cons f I z=>
      intro off ks G O w;simp only[se] at G;cases D:an f.offset off;simp[D] at G
      .simp only[D,jv] at G;have v:=sq D;rcases D:T f.type with _|j
       simp[D] at G;simp only[D] at G;obtain⟨v,a,p,B,m,rfl⟩:=vK O;have q:=Qc G;have V:=vZ (c f.type j D) (m:=l) (off:=f.offset) ab w;have W:cz ((l.drop f.offset).take j.size)=j.size:=by simp;omega
       have U:=s f.type j u a D B ab _ W b w;have N:=z (off+j.size) p G m w;rw[List.forIn_cons];simp only[v,ne_eq,not_false_eq_true,if_true,qO,V,si,U,zF];exact N
    simp only[valOf,M,pP,jv];unfold Instr.checkKey;simp only[qO,pJ C,si];have h:=o fs.toList 0 ks G A w;rw[Array.forIn_toList] at h;simp at h;simp[h]
   cases A
  .rename_i n el E;rw[E] at M C;split at A
   .rename_i e D;cases H:an (n*e.size) i.size;simp[H] at A
    .simp only[H,jv] at A;have y:=sq H;split at A
     .rename_i y O;have o:∀(L:List Nat),(∀j∈L,j<n)->∀w,(forIn L PUnit.unit (λj r=>do
         Instr.checkKey b u el (<-part el ⟨l⟩ (j*(<-oE el)))
         pure (ForInStep.yield PUnit.unit)):Sem PUnit).run P w=.ok PUnit.unit w:=by
       intro L;induction L with
       |nil=>intro _ w;simp
       |cons j L v=>
        intro p w;have m:=p j (iY ..);have q:j*e.size+e.size<=cz l:=by have:(j+1)*e.size<=n*e.size:=IX _ m;rw[xf] at this;omega
        have V:=vZ (c el e D) (m:=l) (off:=j*e.size) q w;have W:cz ((l.drop (j*e.size)).take e.size)=e.size:=by simp;omega
        have U:=s el e u y D O ab _ W b w;have N:=v (λx u=>p x (xV _ u)) w;have p:=(iQ (w:=w) (c el e D)).1;rw[List.forIn_cons];simp only[qO,p,V,si,U,zF];exact N
      simp only[valOf,M,pP,jv];unfold Instr.checkKey;simp only[qO,pJ C,si];have h:=o (C3 0 n) (λj m=>by simp at m;omega) w;simp at h;simp[h]
     cases A
   cases A
  cases A
def ahZ(I:eC P T){A:TI}(e:T L=Z A)(H:kinds T 9 L=Z ks)(b:A.agg=ck)(E:bo (KR d) l m)(W:bo (BX d) S X):∀ {u:Option aa} (i:Nat),zu (9::ks) (ix ⟨l⟩) S=Z u->(u=K/\∀w,(Instr.findAsking L (ix ⟨m⟩) X i).run P w=.ok K w)\/∃v j O,u=Z v/\(∀w,(Instr.findAsking L (ix ⟨m⟩) X i).run P w=.ok (Z (j,O)) w)/\AR d v O:=by
 induction W with
 |nil=>intro u i h;cases h;exact jZ ⟨Q,λw=>by simp[Instr.findAsking]⟩
 | @cons x y S X D c c=>
  have⟨f,r⟩:=x;have⟨C,G⟩:=D;intro u i h;simp only[zu] at h;have a:∀t,fV (9::ks) (ix ⟨l⟩) f=Z t->∀w,(Op.equal L (ix ⟨m⟩) y.key).run P w=.ok t w:=by intro t u w;obtain⟨⟨f⟩,rfl,M⟩:=Zb u;have⟨V,N,U⟩:=(VR.val C).vB;have C:=yG E U M;have:=Dq I 9 L A 10000 ks e H ab m V t C w;simp only[valOf,b,jv] at this;rw[N];exact this
  split at h;rename_i u;cases h;refine kd ⟨r,i,y.val,Q,λw=>?_,G⟩;simp[Instr.findAsking,a _ u];rename_i u;rcases c (i+1) h with⟨rfl,C⟩|⟨v,j,O,rfl,C,c⟩;exact jZ ⟨Q,λw=>by simp[Instr.findAsking,a _ u,C]⟩;exact kd ⟨v,j,O,Q,λw=>by simp[Instr.findAsking,a _ u,C],c⟩;cases h
def zW(u:(∃fs,P.underlying L=Z (.struct fs))\/∃n el,P.underlying L=Z (.array n el)){r:Option (Nat×aa)}(h:∀w,(Instr.findAsking L c X 0).run P w=.ok r w)(w:bQ):(Instr.findKey L c X).run P w=.ok r w:=by rcases X with _|⟨x,X⟩;have:=h w;simp[Instr.findAsking] at this;rcases u with⟨fs,u⟩|⟨n,el,u⟩<;>simp[Instr.findKey,pJ u,Instr.findNow,this];rcases u with⟨fs,u⟩|⟨n,el,u⟩<;>simp[Instr.findKey,pJ u,Instr.findNow,Instr.sameNow,h]
def Wn(D:eC P T){u:TI}(E:T L=Z u)(C:kinds T 9 L=Z ks)(A:u.agg=ck)(G:cz m=cz ks)(b:Bool)(w:bQ):(Instr.checkKey b 10000 L (ix ⟨m⟩)).run P w=.ok () w:=by have:=ahU D 9 L u 10000 ks E C ab m (by rw[G];exact vL E D C) b w;simpa only[valOf,A,jv] using this
def bo.Lj{R:G->H->Prop}{l:List G}{m:List H}(h:bo R l m):cz l=cz m:=by
 induction h with
 |nil=>rfl
 |cons _ _ a=>simp[a]
def WI(G:eC P T){t L el:cI}{i U H:TI}{I:Bool}(D:T t=Z i)(p:i.u=.map L el)(F:T L=Z U)(JZ:kinds T 9 L=Z ks)(Y':U.agg=ck)(C:(∃fs,U.u=.struct fs)\/∃n el,U.u=.array n el)(g:T el=Z H)(hz:H.zero=[z])(f:H.agg=cd)(S':ff b d h w)(hE:ER d e a.tmps)(hG:eB s d)(hx:c_ s x=ck)(hy:c_ s y=ck)(u:de e h (.look (9::ks) z I x y)=Z (v,k)):Out b d h w v k (((do pure (bI (<-Instr.lookup t (a.eval x) (a.eval y) I))):Sem lY).run P w):=by
 have B:=(G t i D).u;rw[p] at B;have D:(∃fs,P.underlying L=Z (.struct fs))\/∃n el,P.underlying L=Z (.array n el):=by have:=(G L U F).u;rcases C with⟨fs,e⟩|⟨n,el,e⟩;exact jZ ⟨fs,by rw[this,e]⟩;exact kd ⟨n,el,by rw[this,e]⟩
 have⟨C,p,QE⟩:=AB (P:=P) (w:=w) (G el H g);have Yf:C=z:=by
  obtain⟨ti,o,A,A,A,k4,k5⟩:=(G el H g).info;have:=(G el H g).one f ti A o k4;have f:A=C:=by
   have:(eG el).run P w=.ok A w:=by simp[eG,fe,o,k4]
   rw[this] at p;cases p;rfl
  subst f;have o:A.cells.toList=[A]:=by cases A<;>first|rfl|(simp[AI.plain] at this)
  rw[o,hz] at QE;simpa using QE
 subst Yf;have A:dw C=ck:=by have:=(G el H g).zero;rw[hz] at this;simpa using this
 have W:AR d C C:=.cell (.cell (kA A));have gZ:=hE.eval hG hx;have g:=hE.eval hG hy;have⟨l,A,o⟩:∃l,ev e y=ix ⟨l⟩/\cz l=cz ks:=by
  cases A:ev e y with
  |agg lk=>
   have⟨l⟩:=lk;refine⟨l,Q,?_⟩;cases M:tS (9::ks) (ev e y);simp[de,M] at u;rw[A] at M;exact sq M
  |_=>simp[de,A,tS] at u
 have M:tS (9::ks) (ev e y)=ck:=by rw[A];show an (cz l) (cz ks)=ck;rw[o];exact kt _
 rw[A] at g;have⟨m,em,Ps⟩:=g.vB;have hml:cz m=cz ks:=by rw[<-o];exact(bo.Lj Ps).symm
 have E:=λg w=>Wn G F JZ Y' hml g w;have key:∀(S:List (aa×aa))(X:Array gH),bo (BX d) S X.toList->∀r,zu (9::ks) (ev e y) S=Z r->(∀(o:Sem (Array gH)),o.run P w=.ok X w->True)->∃c,(match r with|none=>VR d (if I then .tuple #[C,dC cd] else C) c|some v=>VR d (if I then .tuple #[v,dC ck] else v) c)/\((do
     Instr.checkKey X.isEmpty 10000 L (a.eval y)
     let(v,bD)<-match<-Instr.findKey L (a.eval y) X.toList with
      |some (_,v)=>pure (v,ck)
      |none=>pure (<-eG el,cd)
     pure (if I then aa.tuple #[v,dC bD] else v)):Sem aa).run P w=.ok c w:=by
  intro S X ha r o _;rw[A] at o;rw[em];rcases ahZ G F JZ Y' Ps ha 0 o with⟨rfl,V⟩|⟨v,j,O,rfl,V,A⟩;cases I;exact⟨C,.val W,by simp[E,zW D V,p]⟩;exact⟨.tuple #[C,dC cd],.tuple (.cons W (.cons (.cell (.cell (.bool _))) .nil)),by simp[E,zW D V,p]⟩;cases I;exact⟨O,.val A,by simp[E,zW D V]⟩;exact⟨.tuple #[O,dC ck],.tuple (.cons A (.cons (.cell (.cell (.bool _))) .nil)),by simp[E,zW D V]⟩
 cases D:ev e x with
 |map m=>
  rw[D] at gZ;rcases m with _|g;have f:=gZ.aaq;simp only[de,D,M,jv] at u;cases u;have⟨c,C,N⟩:=key [] #[] .nil K rfl (λ_ _=>trivial);refine Out.same S' (c:=c) (fG ?_) C;rw[f];simp only[Instr.lookup,qO,pJ B,zp.andThen];simp[qO,zp.andThen] at N⊢;exact N
  .have⟨r,o,f⟩:=gZ.Tq;simp only[de,D,M,jv] at u;rcases A:h.tr.get g with _|p;simp[A] at u
   .cases p with
    |map S=>
     simp only[A] at u;have⟨X,F,p,ha,Dx,I7⟩:=S'.obj g r _ o A;rcases g:zu (9::ks) (ev e y) S with _|q;simp[g] at u;have⟨c,C,N⟩:=key S X ha q g (λ_ _=>trivial);have o:VR d v c/\k=h:=by rcases q with _|q;simp only[g] at u;cases u;exact⟨C,Q⟩;simp only[g] at u;cases u;exact⟨C,Q⟩
     obtain⟨C,rfl⟩:=o;refine Out.same S' (c:=c) (fG ?_) C;rw[f];have f:(getObj r.bZ).run P w=.ok (.map X F) w:=by simp[getObj,nE,p]
     simp only[Instr.lookup,qO,pJ B,zp.andThen,f];simp[qO,zp.andThen] at N⊢;exact N
    |_=>simp[A] at u
 |_=>simp[de,D] at u
def akA(U:eC P T){I:TI}(p:T L=Z I)(k:kinds T 9 L=Z ks)(f:I.agg=ck)(E:bo (KR d) l m){z C:aa}(u:AR d z C)(c:bo (BX d) S X):∀ {v:aa} {n:Nat} {A:List (aa×aa)} (i:Nat),CA (9::ks) z (ix ⟨l⟩) S=Z (v,n,A)->((∀w,(Instr.findAsking L (ix ⟨m⟩) X i).run P w=.ok K w)/\v=z/\n=cz X/\∀b,bo (BX d) A (X++[{ key:=ix ⟨m⟩,val:=C,born:=b }]))\/∃y,(∀w,(Instr.findAsking L (ix ⟨m⟩) X i).run P w=.ok (Z (i+n,y.val)) w)/\X[n]?=Z y/\Instr.sameBits 10000 y.key (ix ⟨m⟩)=ck/\AR d v y.val/\bo (BX d) A (X.modify n λe=> {e with key:=ix ⟨m⟩}):=by
 induction c with
 |nil=>
  intro v n A i h;simp only[CA] at h;split at h;cases h;exact jZ ⟨λw=>by simp[Instr.findAsking],Q,Q,λb=>.cons ⟨.agg E,u⟩ .nil⟩;cases h
 | @cons x y S X N c o=>
  have⟨W,r⟩:=x;have⟨H,C⟩:=N;intro v n A i h;simp only[CA] at h;have A:∀t,fV (9::ks) (ix ⟨l⟩) W=Z t->(∀w,(Op.equal L (ix ⟨m⟩) y.key).run P w=.ok t w)/\(t=ck->Instr.sameBits 10000 y.key (ix ⟨m⟩)=ck):=by
   intro t u;obtain⟨⟨a⟩,rfl,a⟩:=Zb u;have⟨j,D,g⟩:=(VR.val H).vB;have M:=yG E g a;refine⟨λw=>?_,?_⟩
   have:=Dq U 9 L I 10000 ks p k ab m j t M w;simp only[valOf,f,jv] at this;rw[D];exact this;rintro rfl;rw[D];exact Xs (Ht M) 9999
  split at h;rename_i u;split at h;cases h;exact kd ⟨y,λw=>by simp[Instr.findAsking,(A _ u).1],Q,(A _ u).2 Q,C,.cons ⟨.agg E,C⟩ c⟩;cases h;rename_i u;split at h;rename_i c c c a;cases h;rcases o (i+1) a with⟨a,f,D,G⟩|⟨V,a,c,O,j,G⟩;exact jZ ⟨λw=>by simp[Instr.findAsking,(A _ u).1,a],f,au D,λb=>.cons ⟨H,C⟩ (G b)⟩;refine kd ⟨V,λw=>?_,aj c,O,j,?_⟩;simp[Instr.findAsking,(A _ u).1,a];omega;exact .cons ⟨H,C⟩ G;cases h;cases h
def aci(C:eC P T){t L el:cI}{i M E:TI}(lu:T t=Z i)(hu:i.u=.map L el)(HD:T L=Z M)(JZ:kinds T 9 L=Z ks)(Q1:M.agg=ck)(ZC:(∃fs,M.u=.struct fs)\/∃n el,M.u=.array n el)(p:T el=Z E)(hz:E.zero=[z])(rz:E.agg=cd)(S1:ff b d h w)(hE:ER d e a.tmps)(hG:eB s d)(hx:c_ s x=ck)(hy:c_ s y=ck)(A:de e h (.aaj (9::ks) z x y)=Z (v,k)):Out b d h w v k (((do pure (bI (<-Instr.mapEntry t (a.eval x) (a.eval y)))):Sem lY).run P w):=by
 have D:=(C t i lu).u;rw[hu] at D;have N:(∃fs,P.underlying L=Z (.struct fs))\/∃n el,P.underlying L=Z (.array n el):=by have:=(C L M HD).u;rcases ZC with⟨fs,e⟩|⟨n,el,e⟩;exact jZ ⟨fs,by rw[this,e]⟩;exact kd ⟨n,el,by rw[this,e]⟩
 have⟨G,Tf,QE⟩:=AB (P:=P) (w:=w) (C el E p);have Yf:G=z:=by
  have⟨j,u,F,c,I,g,f⟩:=(C el E p).info;have:=(C el E p).one rz j I u g;have e1:I=G:=by
   have:(eG el).run P w=.ok I w:=by simp[eG,fe,u,g]
   rw[this] at Tf;cases Tf;rfl
  subst e1;have B:I.cells.toList=[I]:=by cases I<;>first|rfl|(simp[AI.plain] at this)
  rw[B,hz] at QE;simpa using QE
 subst Yf;have Wa:dw G=ck:=by have:=(C el E p).zero;rw[hz] at this;simpa using this
 have O:AR d G G:=.cell (.cell (kA Wa));have gZ:=hE.eval hG hx;have sr:=hE.eval hG hy;have⟨l,u,GH⟩:∃l,ev e y=ix ⟨l⟩/\cz l=cz ks:=by
  cases u:ev e y with
  |agg g=>
   have⟨l⟩:=g;refine⟨l,Q,?_⟩;cases U:tS (9::ks) (ev e y);simp[de,U] at A;rw[u] at U;exact sq U
  |_=>simp[de,u,tS] at A
 have U:tS (9::ks) (ev e y)=ck:=by rw[u];show an (cz l) (cz ks)=ck;rw[GH];exact kt _
 rw[u] at sr;have⟨m,em,Ps⟩:=sr.vB;have hml:cz m=cz ks:=by rw[<-GH];exact(bo.Lj Ps).symm
 have W:=λg w=>Wn C HD JZ Q1 hml g w;cases B:ev e x with
 |map m=>
  rw[B] at gZ;rcases m with _|g;simp[de,B] at A
  .have⟨r,hr,e1⟩:=gZ.Tq;simp only[de,B,U,jv] at A;rcases H:h.tr.get g with _|ob;simp[H] at A
   .cases ob with
    |map S=>
     simp only[H] at A;rw[u] at A;rcases D':CA (9::ks) G (ix ⟨l⟩) S with _|q;simp[D'] at A
     .have⟨v0,n,j⟩:=q;simp only[D'] at A;cases A;have⟨X,c,hw,ha,f,I7⟩:=S1.obj g r _ hr H;have I8:(getObj r.bZ).run P w=.ok (.map X c) w:=by simp[getObj,nE,hw]
      have V:∀o,(setObj r.bZ o).run P w=.ok () {w with heap:=w.heap.setIfInBounds r.bZ o} :=by intro o;simp[setObj,nE,hw]
      have eQ:∀o,({w with heap:=w.heap.setIfInBounds r.bZ o} :bQ).heap[r.bZ]?=Z o:=by intro o;have:=Fh hw;simp[this]
      rw[e1,em];rcases akA C HD JZ Q1 Ps O ha 0 D' with⟨hf,rfl,hn,F⟩|⟨y',hf,hyj,CP,hvr,F⟩
      .have⟨S',E'⟩:=S1.py hr H rfl (Bq.obj (w:=w) r.bZ (.map (X.push { key:=(ix ⟨m⟩),val:=v0,born:=c }) (c+1))) (o':=.map j) ⟨_,_,eQ _,by show bo (BX d) j _;simpa using F c,au f,by rw[f];exact acW I7⟩ (h.clock+1);have hnc:n=c:=by rw[hn,f];simp
       refine⟨d,_,.tuple #[v0,fc ft n],jZ (fG ?_),.tuple (.cons O (.cons (.cell (.cell (.int _ _))) .nil)),S',E'⟩;simp[Instr.mapEntry,pJ D,I8,W,zW N hf,V,Tf,goInt,hnc]
      .have⟨S',E'⟩:=S1.py hr H rfl (Bq.obj (w:=w) r.bZ (.map (X.modify n λe=> {e with key:=(ix ⟨m⟩)}) c)) (o':=.map j) ⟨_,_,eQ _,by show bo (BX d) j _;simpa using F,au f,JL (λ_=>rfl) I7⟩ (h.clock+1);have Kc:X[n]?=Z y':=aj hyj
       have X9:=I7 n y' Kc;refine⟨d,_,.tuple #[y'.val,fc ft n],jZ (fG ?_),.tuple (.cons hvr (.cons (.cell (.cell (.int _ _))) .nil)),S',E'⟩;simp[Instr.mapEntry,pJ D,I8,W,zW N hf,V,Kc,Instr.keyThatStays,CP,goInt,X9]
    |_=>simp[H] at A
 |_=>simp[de,B] at A
def UX(C:bo (BX d) S X):∀ {i:Nat} {x:aa×aa} {v O:aa},S[i]?=Z x->AR d v O->bo (BX d) (S.set i (x.1,v)) (X.modify i λe=> {e with val:=O}):=by
 induction C with
 |nil=>intro i x v O h;simp at h
 | @cons x y S X u D a=>
  intro i E v O h A;cases i with
  |zero=>simp at h;subst h;exact .cons ⟨u.1,A⟩ D
  |succ i=>exact .cons u (a (aj h) A)
def alL{t:cI}{x y z:aT}(g:ff b d h w)(D:ER d e a.tmps)(G:eB s d)(B:c_ s x=ck)(A:c_ s y=ck)(i:c_ s z=ck)(u:de e h (.ad6 x y z)=Z (v,k)):∃w',v=.tuple #[]/\(Instr.entryStore t (a.eval x) (a.eval y) (a.eval z)).run P w=.ok () w'/\ff b d k w'/\Ext d h w d k w':=by
 have U:=D.eval G B;have N:=D.eval G A;have A:=D.eval G i;simp only[de] at u;split at u
 .rename_i i p;split at u
  .rename_i n f;split at u
   .rename_i S D;split at u
    .rename_i q M;split at u
     .rename_i B;cases u;rw[p] at U;rw[f] at N;have⟨r,f,T⟩:=U.Tq;have p:a.eval y=fc ft (n:Nat):=by have C:=CR.vX N rfl;generalize a.eval y=c at C;cases C;rfl
      have⟨X,V,E,W,m,C⟩:=g.obj i r _ f D;have L:(getObj r.bZ).run P w=.ok (.map X V) w:=by simp[getObj,nE,E]
      have H:∀o,(setObj r.bZ o).run P w=.ok () {w with heap:=w.heap.setIfInBounds r.bZ o} :=by intro o;simp[setObj,nE,E]
      have l:∀o,({w with heap:=w.heap.setIfInBounds r.bZ o} :bQ).heap[r.bZ]?=Z o:=by intro o;have:=Fh E;simp[this]
      have F:=bo.Lj W;have i:n<X.size:=by have O:=(cY.mp M).1;rw[F] at O;simpa using O
      have I:X.findIdx? (λe=>(e.born:Int)==(n:Int))=Z n:=by rw[Array.findIdx?_eq_some_iff_getElem];refine⟨i,?_,λj F=>?_⟩;have:=C n X[n] (Array.getElem?_eq_getElem i);simp[this];have:=C j X[j] (Array.getElem?_eq_getElem ab);simp[this];omega
      have⟨F,i⟩:=g.py f D rfl (Bq.obj (w:=w) r.bZ (.map (X.modify n λe=> {e with val:=a.eval z}) V)) (o':=.map (S.set n (q.1,ev e z))) ⟨_,_,l _,by show bo (BX d) _ _;simpa using UX W M (.cell (KR.Am A B)),au m,JL (λ_=>rfl) C⟩ (h.clock+1);refine⟨_,Q,?_,F,i⟩;rw[T,p];simp[Instr.entryStore,L,Ln,oc,zp.andThen,I,H]
     cases u
    cases u
   cases u
  cases u
 cases u
end
end Go.AI
