/- Parts of the proof. -/
import Derived.Shelf.SlSortCmp.NoneTotal
import Derived.Test.YtdhnndleffachaaGreatDoorP01
import Derived.ProofKit
import Derived.WideKeyArgs
import Derived.Test.YtdhnndleffachaaGreatDoorP00
import Derived.OpenShut
import Derived.Test.YtdhnndleffachaaGreatDoorProg
import Derived.KernelRfl
set_option linter.all false
set_option maxHeartbeats 1000000
namespace Go.AI
open Go.Sort Go.Shelf Go.Proofs
variable{F:Nat->Option cV}{P:Program}{Pw args cs l l' vs wT z zc:List Value}{T:ta}{W:World}{b f g k m n ng off:Nat}{dr:tB}{e e':Env}{h h' h1:az}{op:BinOp}{r:Bool}{v v' x x':Value}
abbrev Px:=Fin 1000000×(Bool×Int)
def te(x:Px):List Value:=[.int .i64 (x.1.1:Int),.bool x.2.1,.int .i64 x.2.2]
def kQ(xs:List Px):List Value:=xs.flatMap te
def cf3(x y:Px):Int:=(x.1.1:Int)-(y.1.1:Int)
def Up3(c:List Px):Prop:=c.Pairwise fun x y=>x.1.1<y.1.1
def axZ:SWO (ltOf cf3) where
 irrefl x:=by simp[ltOf,cf3]
 trans x y z h1 c:=by have h1:=of_decide_eq_true h1;have c:=of_decide_eq_true c;refine decide_eq_true ?_;unfold cf3 at*;omega
 ntrans x y z h1 c:=by have h1:=of_decide_eq_false h1;have c:=of_decide_eq_false c;refine decide_eq_false ?_;unfold cf3 at*;omega
def kD:∀c:List Px,(kQ c).length=c.length*3
 |[]=>rfl
 |x::c=>by have:=kD c;show(te x++kQ c).length=_;simp[te,this];omega
def LS:∀ {xs j:List Px},kQ xs=kQ j->xs=j
 |[],[],_=>rfl
 |[],y::j,h=>by cases h
 |x::xs,[],h=>by cases h
 |(a,b,c)::xs,(o,u,s)::j,h=>by have h:te (a,b,c)++kQ xs=te (o,u,s)++kQ j:=h;simp[te] at h;obtain⟨h1,p,A,q⟩:=h;have:a=o:=Fin.ext ab;rw[this,p,A,LS q]
def Qu:∀(xs:List Px)(j:Nat),j<xs.length*3->(kQ xs)[j]?=(te (xs[j/3]?.getD default))[j%3]?
 |x::xs,j,h=>by show(te x++kQ xs)[j]?=_;by_cases c:j<3;rw[Iw (by simpa [te] using c),show j/3=0 by omega,show j%3=j by omega];rfl;have e:=Qu xs (j-3) (by simp at h;omega);rw[Ke (by simp[te];omega),show(te x).length=3 from rfl,e,show j/3=(j-3)/3+1 by omega,show(j-3)%3=j%3 by omega];rfl
def abn(d:Array Px)(j:Nat)(h:j<d.size*3):(kQ d.toList)[j]?=some (flatK te 3 d)[j]! :=by
 rw[Qu _ _ (aj h),get_flatK _ _ _ _ h];have e:d.toList[j/3]?.getD default=d[j/3]! :=by rw[getElem!_def,Array.getElem?_toList];cases d[j/3]? <;>rfl
 rw[e];generalize d[j/3]! =x;have:j%3<3:=Nat.mod_lt _ ab;obtain h|h|h:j%3=0\/j%3=1\/j%3=2:=ab
 all_goals rw[h];rfl
def zA{xs:List Px}(h:v∈kQ xs):v.oneCell'=true/\∀(ρ:fJ)(c:Value),KR ρ v c↔c=v:=by
 obtain⟨x,_,h⟩:=List.mem_flatMap.1 h;have key:∀(ρ:fJ)(c:Value),KR ρ v c↔c=v:=fun ρ c=>by
  simp[te] at h;rcases h with rfl|rfl|rfl
  all_goals
   constructor
   .intro k;cases k with
    |cell k=>cases k;rfl
   .rintro rfl
    first|exact .cell (.int _ _)|exact .cell (.bool _)
 refine⟨?_,key⟩;simp[te] at h;rcases h with rfl|rfl|rfl<;>rfl
structure ahW(g:Nat)(args:List Value)(h h':az)(b c s o:Nat)(xs ys:List Px):Prop where
 a:args=[.slice (some ⟨b,0,none⟩) xs.length c,.func (.func g) #[] #[]]
 hb:h.tr.get b=some (.bZ (kQ xs) false o s)
 ne:xs≠[]
 lt:xs.length<1000000
 p:ys.Perm xs
 u:Up3 ys
 w:fU h b 0 (kQ ys)=some h'
open Classical in
noncomputable def JX(g:Nat)(args:List Value)(h:az):Option (Value×az):=
 if args=[.slice none 0 0,.func (.func g) #[] #[]] then some (.tuple #[],h)
 else if H:∃h' b c s o j p,ahW g args h h' b c s o j p then some (.tuple #[],H.choose) else none
def JY(j:JX g args h=some (v,h')):v=.tuple #[]/\((args=[.slice none 0 0,.func (.func g) #[] #[]]/\h'=h)\/∃b c s o p q,ahW g args h h' b c s o p q):=by
 unfold JX at j;split at j;rename_i e;cases j;exact⟨rfl,.inl ⟨e,rfl⟩⟩
 .split at j;rename_i H;have:=H.choose_spec;cases j;exact⟨rfl,.inr this⟩
  cases j
def JZ(j:JX g args h=some (v,h')):eO h h':=by obtain⟨_,⟨_,rfl⟩|⟨b,c,s,o,p,q,S⟩⟩:=JY j;exact .refl _;exact .write S.w
section
variable{CC:dx}{ρ:fJ}{h:az}{w:World}
def eM.grown(S:eM CC ρ h w)(j:Array Obj):eM CC ρ h (Sort.grow w j)/\Ext ρ h w ρ h (Sort.grow w j):=by
 have c:∀k,k<w.heap.size->(Sort.grow w j).heap[k]?=w.heap[k]? :=fun k p=>by show(w.heap++j)[k]?=_;rw[Array.getElem?_append_left p]
 have sz:w.heap.size<=(Sort.grow w j).heap.size:=ae
 exact⟨⟨fun b r hb=>⟨(S.low b r hb).1,Kf (S.low b r hb).2 sz⟩,fun b r o hb q=>iT.mono ρ.le_refl (c _ (S.low b r hb).2) (S.obj b r o hb q),S.inj,S.wf⟩,⟨ρ.le_refl,fh _,sz,rfl,rfl,rfl,fun k p _=>c k p,fun b r hb s=>.inr ⟨b,r,hb,s,rfl⟩,fun b r h h'=>(by rw[h] at h';cases h'),fun b r o hb q=>.inr ⟨b,r,o,hb,q,rfl⟩⟩⟩
def ZQ{ρ0:Ren}(L:SlLaysF0.n6 P ρ0)(hf:ρ0.f 6=f)(aE:∀w,(isAgg (ρ0.t 24)).run P w=.ok true w)(zE:∀w,(Go.sizeOf (ρ0.t 24)).run P w=.ok 3 w)(eg:∀args w,(callFunc g args).run P w=.ok (.enter g args) w)(cl:∀(x y:Px)(W:World),Calls P g #[.agg (te x).toArray,.agg (te y).toArray] W fun e M=>e=.returned (.int .i64 (cf3 x y))/\∃q os,M=Sort.grow (W.drewN q) os)(Mb:∃fn,P.funcs[f]?=some fn/\fn.body.isSome=true/\(fn.name== "runtime.NumGoroutine")=false):Nc P T ng dr f (JX g):=by
 intro args h v h' J dF ρ w S hG ha cs;obtain⟨fn,f1,f2,f3⟩:=Mb;have G:=JY J;clear J;obtain⟨rfl,J⟩:=G;have Q:∀ {c:Value},VR ρ (.func (.func g) #[] #[]) c->c=.func (.func g) #[] #[]:=fun k=>by
  cases k with
  |val k=>cases k with
   |cell k=>cases k with
    |cell k=>cases k
    |fn f k=>cases k;rfl
 rcases J with⟨rfl,rfl⟩|⟨b,c,s,o,u,Y,Z⟩
 .cases ha with
  |cons h1 ha=>cases ha with
   |cons I ha=>cases ha with
    |nil=>
     have:=CR.Fu h1 rfl;cases this with
     |fW=>
      rw[Q I];obtain⟨e,M,fr,⟨rfl,rfl⟩,D,E,hl⟩:=AnyF.slices_SortFunc_none L none 0 (.func (.func g) #[] #[]) w cs;rw[hf] at D E;exact⟨fn,ρ,M,_,fr,f1,f2,f3,D,E,hl,.tuple .nil,S,.refl _ _ _⟩
 .obtain⟨rfl,hb,ne,lt,hp,hu,V⟩:=Z;cases ha with
  |cons h1 ha=>cases ha with
   |cons I ha=>cases ha with
    |nil=>
     rw[Q I];obtain⟨r,ca,O,hρ,Mg,rfl⟩:=gm h1;have dJ:0<u.length:=List.length_pos_iff.2 ne;have KS:ca=⟨r.bZ,r.base,none⟩:=by rcases Mg.1 with e|⟨_,e⟩;exact e;have:=Mg.2.2;omega
     subst KS;obtain⟨fK,el,fz,SX,yb,yX,⟨kS,Up⟩,Wn,zG⟩:=S.obj b r _ hρ hb;have hfz:fz=(0,0):=Wn rfl;subst hfz;have cell:∀j,j<u.length*3->fK[r.base+j]?=some (flatK te 3 u.toArray)[j]! :=fun j p=>by have e:=abn u.toArray j (aj p);simp only[List.toList_toArray] at e;obtain⟨c,h1,I⟩:=zG j _ e;rw[h1,((zA (cN e)).2 ρ c).1 I]
     have H:HoldsK te 3 w r.bZ r.base u.toArray:=fun j p=>by
      have p:j<u.length*3:=aj p
      refine⟨?_,?_⟩;unfold World.cell?;rw[SX];simpa using cell j p;unfold World.frozen?;rw[SX];simp
     have hblk:=(S.low b r hρ).2;obtain⟨e,M,fr,⟨rfl,A,n,os,hP,hS,rfl⟩,D,E,hl⟩:=AnyQ.slices_SortFunc L 3 aE zE te (fun _=>rfl) (fun x v J=>(zA (xs:=[x]) (by simpa [kQ] using J)).1) cf3 axZ g #[] r.bZ r.base O u.toArray w eg (fun m os dk _ x y=>cl x y _) H hblk (by simp;omega) cs;rw[hf] at D E;have N:A.size=u.length:=aj hP.1
     have K:A.toList.Perm u:=by have:=hP.2.2;rw[show(u.toArray.extract 0 u.toArray.size)=u.toArray by simp,show(A.extract 0 u.toArray.size)=A by rw[show u.toArray.size=A.size from hP.1.symm];simp] at this;simpa using this
     have hdu:A.toList=Y:=by
      refine List.Perm.eq_of_pairwise (le:=fun x y=>x.1.1<=y.1.1) (fun x y hx hy h1 I=>?_) ?_ (hu.imp fun h=>Nat.le_of_lt h) (K.trans hp.symm)
      .have kG:=(K.trans hp.symm).subset hx;obtain⟨i,G⟩:=iI kG;obtain⟨j,p⟩:=iI hy;have li:=(di.mp G);have lj:=(di.mp p);rcases Nat.lt_trichotomy i j with h|h|h
       have:=List.pairwise_iff_getElem.1 hu i j li.1 lj.1 h;rw[li.2,lj.2] at this;omega;subst h;rw[G] at p;cases p;rfl;have:=List.pairwise_iff_getElem.1 hu j i lj.1 li.1 h;rw[li.2,lj.2] at this;omega
      refine List.pairwise_iff_getElem.2 fun i j G p Wo=>?_;have:=hS i j (Nat.zero_le _) Wo (by simp at p⊢;omega);simp at G p;rw[getElem!_pos A j p,getElem!_pos A i G] at this;have:=of_decide_eq_false this;unfold cf3 at this;simp only[Array.getElem_toList];omega
     have yU:Y.length=u.length:=hp.length_eq;unfold fU at V;rw[hb] at V;simp only[kD] at V;rw[bM (by rw[yU];simp)] at V;cases V;have u6:bg (kQ u) 0 (kQ Y)=kQ Y:=by unfold bg;rw[List.take_zero,XH (by simp[kD,yU])];simp
     rw[u6];have U:(flatK te 3 A).size=u.length*3:=by simp[N]
     obtain⟨S1,E1⟩:=S.drawn (w.drawn+n) |>.tz (w':=putRowK te 3 (Sort.ahead w n) r.bZ r.base A) (o':=.bZ (kQ Y) false o h.clock) hρ hb rfl ⟨rfl,rfl,rfl,by simp[putRowK,putRow,mapBlock,Sort.ahead],fun j p=>by simp[putRowK,putRow,mapBlock,Sort.ahead,Array.getElem?_modify,Ne.symm p]⟩ (by
      refine⟨putCells id r.base (flatK te 3 A) fK,el,(0,0),?_,by rw[yb,kD,kD,yU],yX,⟨by rw[kS];simp[putCells],fun ho j c p D=>?_⟩,fun _=>rfl,fun j v p=>?_⟩;simp[putRowK,putRow,mapBlock,Sort.ahead,Array.getElem?_modify,SX,onCells]
      .refine Up ho j c p ?_;rw[yb,kD] at p;simp only[putCells,Array.getElem?_mapIdx] at D;cases hx:fK[r.base+j]? with
       |none=>rw[hx] at D;cases D
       |some x=>
        rw[hx] at D;simp only[Cx] at D;rwa [bU (by rw[U];omega)] at D
      .have hj3:j<u.length*3:=by have:=(di.mp p).1;rw[kD,yU] at this;exact this
       have e:=abn A j (by rw[N];exact hj3);rw[hdu,p] at e;refine⟨v,?_,((zA (cN p)).2 ρ v).2 rfl⟩;simp only[putCells,Array.getElem?_mapIdx];have hcj:=cell j hj3;rw[hcj];simp only[Cx];rw[bM (by rw[U];omega),Nat.add_sub_cancel_left];simp[<-Option.some.inj e]) (h.clock+1)
     obtain⟨S2,E2⟩:=S1.grown os;exact⟨fn,ρ,_,_,fr,f1,f2,f3,D,E,hl,.tuple .nil,S2,((Ext.drawn (w.drawn+n)).trans E1).trans E2⟩
end
noncomputable def Kb(F:Nat->Option cV)(fs g:Nat)(f:Nat):Option cV:=bif Nat.beq f fs then some ⟨[],.bad,.run (JX g) fun _ _ _ _=>JZ⟩ else F f
def SA{fs g:Nat}(j:GO P T ng dr F)(c:Nc P T ng dr fs (JX g)):GO P T ng dr (Kb F fs g):=by
 intro f o h;unfold Kb at h;cases hb:Nat.beq f fs with
 |true=>
  rw[hb] at h;cases h;rw[rz hb];exact c
 |false=>rw[hb] at h;exact j f o h
def Kept(W c:World):Prop:=c.os=W.os/\c.output=W.output/\W.heap.size<=c.heap.size/\∀i,i<W.heap.size->c.heap[i]?=W.heap[i]?
def Kept.keptBut{W j:World}(h:Kept W j)(c:MemPlace->Prop):W.keptBut j c:=by
 refine⟨h.1,h.2.1,fun i p=>?_⟩;rw[h.2.2.2 i p];cases y:W.heap[i]? with
 |none=>rfl
 |some o=>
  cases o with
  |cells s t A=>exact⟨rfl,rfl,rfl,fun _ _=>rfl⟩
  |map u q=>exact .inr ⟨rfl,rfl⟩
  |_=>rfl
def Kept.sameAt{W j:World}(h:Kept W j){p:MemPlace}(c:p.block<W.heap.size):W.sameAt j p:=by
 cases p with
 |cell b off=>simp only[World.sameAt,World.cell?,h.2.2.2 b c]
 |map b=>exact h.2.2.2 b c
def Kept.frozen{W c:World}(h:Kept W c){b off:Nat}(hb:b<W.heap.size):c.frozen? ⟨b,off,none⟩=W.frozen? ⟨b,off,none⟩:=by simp only[World.frozen?,h.2.2.2 b hb]
section
variable{P:Program}{T:ta}{ng:Nat}{F:Nat->Option cV}
def law_read(A:GO P T ng (fF T ng) F)(s:eE P T){args o:List Value}(H:bc F f args h (fun v _=>v=.bool true)){ρ:fJ}(S:eM (ik T ng (fF T ng)) ρ h W)(K:dX ng ρ)(ha:All2 (VR ρ) args o)(O:∀b,¬fI h b):Calls P f ⟨o⟩ W (fun e Q=>e=.returned (.bool true)/\Kept W Q):=by
 obtain⟨n,v,h',I,rfl⟩:=H;intro M;obtain⟨fn,U,p,c,D,_,_,_,q,y,N,u,_,j⟩:=Cq A s I S K ha M;have G:=u.nQ;subst G;exact⟨.returned (.bool true),p,D,⟨rfl,j.os,j.output,j.size,fun i J=>j.xj i J (fun b r _ E=>absurd E (O b))⟩,q,y,N⟩
end
section
open Go.ChangeShapes Go.WideShapes Go.ChangeAt
variable{H:Type}{enc:TypeId×Value->H}{P:Program}
def post_of_read{f:Func}{s:ChangeSpec}{q fresh o A:Bool}{W E:World}{args:Array Value}{ds gs:List (DataW H)}{c:List MemPlace}(J:DataW.Whole enc P f.params.toList s.vars q W args.toList ds gs c)(G:∀(b:Nat)(D:Nat->Bool)(N:Bool),DataW.TrodAll enc P E b D N f.resultTypes.toList (v.resultList f.resultTypes.size) (s.fn H (ds++gs)).results [])(M:∀D:Nat->Bool,(∀p∈c,D p.block=true)->DataW.TrodAll enc P E 0 D true f.params.toList args.toList (s.fn H (ds++gs)).args c)(I:∀D:Nat->Bool,(∀p∈c,D p.block=true)->DataW.TrodVars enc P E D s.vars (s.fn H (ds++gs)).vars [])(K:Kept W E)(O:∀(j:Nat)(t:TypeId)(r:Value),f.resultTypes[j]?=some t->(v.resultList f.resultTypes.size)[j]?=some r->Value.okWide P E .any 0 t r):s.post enc P f q fresh o A W args v E:=by
 have y:∀p∈c,(fun b=>decide (b<W.heap.size)) p.block=true:=fun p u=>aj (J.lt p u)
 refine⟨ds,gs,c,[],c,[],J,G _ _ _,M _ y,I _ y,World.keptBut_mono (fun p u=>⟨u,.inr (.inl u)⟩) (K.keptBut _),fun _=>?_⟩;have Q:=J.lt;obtain⟨_,_,_,_,_,V,U⟩:=J;refine⟨O,_,_,([]++c)++[],⟨[]++c,[],trodAll_append (M _ (fun _ _=>rfl)) (G _ _ _),I _ (fun _ _=>rfl),rfl,?_,?_⟩,?_⟩
 intro b off u;simp only[List.nil_append,Bc] at u;rw[K.frozen (b:=b) (Q (.cell b off) u)];exact V b off u;intro ha;simpa using U ha;intro p u _;simpa using u
end
structure Sf where
 n:Nat
 d:Nat
 dc:Nat
 D:Nat->Prop
 fk:Nat->Bool
 gk:Nat->Bool
 new:∀b,n<=b->D b
 gl:∀g,gk g=true->g<n/\D g
def Sf.sh(S:Sf)(b:Nat):Nat:=if b<S.n then b else b+S.d
def Sf.Vm(S:Sf){a b:Nat}(h:S.sh a=S.sh b):a=b:=by unfold Sf.sh at h;(repeat' split at h)<;>omega
inductive VS(S:Sf):Value->Value->Prop
 |bool (b:Bool):VS S (.bool b) (.bool b)
 |int (k:IntKind) (m:Int):VS S (.int k m) (.int k m)
 |str (s:ByteArray):VS S (.string s) (.string s)
 |wz:VS S (.pointer none) (.pointer none)
 |ptr {b:Nat} (o:Nat) (h:S.D b):VS S (.pointer (some ⟨b,o,none⟩)) (.pointer (some ⟨S.sh b,o,none⟩))
 |fW (l c:Nat):VS S (.slice none l c) (.slice none l c)
 |slice {b:Nat} (o l c:Nat) (h:S.D b):VS S (.slice (some ⟨b,o,none⟩) l c) (.slice (some ⟨S.sh b,o,none⟩) l c)
 |uv:VS S (.map none) (.map none)
 |chan (c:Option Nat):VS S (.chan c) (.chan c)
 |tg:VS S .nilFunc .nilFunc
 |oh:VS S .nilIface .nilIface
 |fn {f:Nat} {a a' b b':List Value} (hf:S.fk f=true) (h1:All2 (VS S) a a') (h2:All2 (VS S) b b'):VS S (.func (.func f) ⟨a⟩ ⟨b⟩) (.func (.func f) ⟨a'⟩ ⟨b'⟩)
 |yield {l:Nat} (h:S.D l):VS S (.func (.yield l) #[] #[]) (.func (.yield (S.sh l)) #[] #[])
 |agg {a a':List Value} (h:All2 (VS S) a a'):VS S (.agg ⟨a⟩) (.agg ⟨a'⟩)
 |tuple {a a':List Value} (h:All2 (VS S) a a'):VS S (.tuple ⟨a⟩) (.tuple ⟨a'⟩)
def Rm:Value->Bool
 |.bool _=>true
 |.int _ _=>true
 |.string _=>true
 |.pointer none=>true
 |.slice none _ _=>true
 |.map none=>true
 |.nilFunc=>true
 |.nilIface=>true
 |_=>false
def okV:Value->Bool
 |.agg cs=>cs.toList.all Rm
 |.tuple cs=>cs.toList.all Rm
 |v=>Rm v
section
variable{S:Sf}
def UT(h:Rm v=true):VS S v v:=by unfold Rm at h;split at h;exact .bool _;exact .int _ _;exact .str _;exact .wz;exact .fW _ _;exact .uv;exact .tg;exact .oh;cases h
def yn:∀ {l:List Value},l.all Rm=true->All2 (VS S) l l
 |[],_=>.nil
 |v::l,h=>by rw[List.all_cons,oD] at h;exact .cons (UT h.1) (yn h.2)
def ajZ(h:okV v=true):VS S v v:=by unfold okV at h;split at h;rename_i cs;obtain⟨l⟩:=cs;exact .agg (yn h);rename_i cs;obtain⟨l⟩:=cs;exact .tuple (yn h);exact UT h
def zN(S:Sf):Operand->Bool
 |.tmp _=>true
 |.const v=>okV v
 |.global g=>S.gk g
 |.func f=>S.fk f
def afU(S:Sf)(l:List Operand):Bool:=l.all (zN S)
def okP(S:Sf)(l:List (Nat×Nat×Operand)):Bool:=l.all fun x=>zN S x.2.2
def okQ(S:Sf):Option Operand->Bool
 |none=>true
 |some x=>zN S x
def ES(S:Sf)(e e':Env):Prop:=∀t,VS S (bH e t) (bH e' t)
def ES.set{e e':Env}(w:ES S e e'){v v':Value}(h:VS S v v')(t:Nat):ES S (Tr.set e t v) (Tr.set e' t v'):=fun u=>by rw[Env.bN,Env.bN];split;exact h;exact w u
def ES.put(w:ES S e e')(h:VS S v v'):∀t,ES S (gy e t v) (gy e' t v')
 |none=>w
 |some t=>w.set h t
def VS.undef:VS S (.tuple #[]) (.tuple #[]):=.tuple .nil
def ES.nil:ES S .nil .nil:=fun _=>VS.undef
def ES.ev{e e':Env}(w:ES S e e'){x:Operand}(h:zN S x=true):VS S (AI.ev e x) (AI.ev e' x):=by
 cases x with
 |tmp t=>exact w t
 |const v=>exact ajZ h
 |global g=>
  have:=S.gl g h;have c:S.sh g=g:=by unfold Sf.sh;rw[bM this.1]
  have r:=VS.ptr (S:=S) (b:=g) 0 this.2;rw[c] at r;exact r
 |func f=>exact .fn h .nil .nil
def ES.pr{e e':Env}(w:ES S e e'):∀ {l:List Operand},afU S l=true->All2 (VS S) (AI.pr e l) (AI.pr e' l)
 |[],_=>.nil
 |x::l,h=>by unfold afU at h;rw[List.all_cons,oD] at h;exact .cons (w.ev h.1) (ES.pr w h.2)
end
def vG(S:Sf):jQ->Bool
 |.mv x=>zN S x
 |.pick c a b=>zN S c&&zN S a&&zN S b
 |.alloc z=>z.all Rm
 |.box x=>zN S x
 |.build z p=>z.all Rm&&okP S p
 |.fm _ z p=>z.all Rm&&okP S p
 |.load _ a=>zN S a
 |.store _ a v=>zN S a&&zN S v
 |.yk x=>zN S x
 |.bin _ _ x y=>zN S x&&zN S y
 |.un _ x=>zN S x
 |.conv _ x=>zN S x
 |.uk f j=>S.fk f&&afU S j
 |.gG z _ l c=>z.all Rm&&zN S l&&zN S c
 |.slice _ x a b c=>zN S x&&okQ S a&&okQ S b&&okQ S c
 |.cq _ x=>zN S x
 |.fw _ _ x i=>zN S x&&zN S i
 |.index _ x i=>zN S x&&zN S i
 |.ext _ x=>zN S x
 |.call f args=>zN S f&&afU S args
 |.nu x=>zN S x
 |.JS x=>zN S x
 |.append z _ _ s x=>z.all Rm&&zN S s&&zN S x
 |.copy _ d s=>zN S d&&zN S s
 |.bad=>true
 |_=>false
def Le(S:Sf):aG->Bool
 |.skip=>true
 |.ops l=>l.all fun o=>vG S o.op
 |.draw l=>l.all fun o=>vG S o.1.op
 |.seq a b=>Le S a&&Le S b
 |.cond c a b=>zN S c&&Le S a&&Le S b
 |.block _ c=>Le S c
 |.loop c=>Le S c
 |.Ko f _ a b=>zN S f&&Le S a&&Le S b
 |.exit _=>true
 |.ret=>true
 |.bad=>true
inductive OS(S:Sf):oZ->oZ->Prop
 |bZ {a a':List Value} (ro:Bool) (o:Nat) {s s':Nat} (h:All2 (VS S) a a') (hs:s'<=s+S.dc):OS S (.bZ a ro o s) (.bZ a' ro o s')
 |loop {e e':Env} (ps:List Nat) {asg body:aG} (st:Tc) (h:ES S e e') (h1:Le S asg=true) (h2:Le S body=true):OS S (.loop e ps asg body st) (.loop e' ps asg body st)
 |aAt:OS S (.map []) (.map [])
structure HS(S:Sf)(h h':az):Prop where
 n:S.n<=h.aw
 aw:h'.aw=h.aw+S.d
 clock:h'.clock=h.clock+S.dc
 at_:∀b o,S.D b->h.tr.get b=some o->(∃es,o=.map es/\es≠[])\/∃o',h'.tr.get (S.sh b)=some o'/\OS S o o'
section
variable{S:Sf}{h h' h1:az}
def HS.bZ(w:HS S h h'){b:Nat}(p:S.D b){a:List Value}{ro:Bool}{o s:Nat}(hb:h.tr.get b=some (.bZ a ro o s)):∃j c,h'.tr.get (S.sh b)=some (.bZ j ro o c)/\All2 (VS S) a j/\c<=s+S.dc:=by
 rcases w.at_ b _ p hb with⟨y,e,_⟩|⟨A,q,r⟩;cases e
 .cases r with
  |bZ ro o h u=>exact⟨_,_,q,h,u⟩
def HS.shn(w:HS S h h'):S.sh h.aw=h'.aw:=by unfold Sf.sh;rw[bU (av w.n),w.aw]
def HS.dn(w:HS S h h'):S.D h.aw:=S.new _ w.n
def HS.set(w:HS S h h'){b:Nat}{o o':oZ}(r:OS S o o')(k:Nat):HS S {h with clock:=h.clock+k,tr:=h.tr.set b o} {h' with clock:=h'.clock+k,tr:=h'.tr.set (S.sh b) o'} :=by refine⟨w.n,w.aw,by dsimp only;rw[w.clock];omega,fun c x p j=>?_⟩;dsimp only at j⊢;rw[Tr.bN] at j;rw[Tr.bN];by_cases e:c=b;subst e;rw[bM rfl] at j;cases j;exact .inr ⟨o',by rw[bM rfl],r⟩;rw[bU e] at j;rw[bU (fun q=>e (S.Vm q))];exact w.at_ c x p j
def HS.apY(w:HS S h h'){o o':oZ}(r:OS S o o'):HS S {h with tr:=h.tr.set b o} {h' with tr:=h'.tr.set (S.sh b) o'} :=by have:=w.set (b:=b) r 0;simpa using this
def HS.del(w:HS S h h')(b:Nat):HS S {h with tr:=h.tr.del b} {h' with tr:=h'.tr.del (S.sh b)} :=by refine⟨w.n,w.aw,w.clock,fun c x o j=>?_⟩;dsimp only at j⊢;rw[Tr.kE] at j;rw[Tr.kE];by_cases e:c=b;rw[bM e] at j;cases j;rw[bU e] at j;rw[bU (fun p=>e (S.Vm p))];exact w.at_ c x o j
def HS.new(w:HS S h h'){o o':oZ}(r:OS S o o'):HS S (h.new o) (h'.new o'):=by refine⟨Nat.le_succ_of_le w.n,by show h'.aw+1=h.aw+1+S.d;rw[w.aw];omega,w.clock,fun c x p j=>?_⟩;unfold az.new at j⊢;dsimp only at j⊢;rw[Tr.bN] at j;rw[Tr.bN,<-w.shn];by_cases e:c=h.aw;subst e;rw[bM rfl] at j;cases j;exact .inr ⟨o',by rw[bM rfl],r⟩;rw[bU e] at j;rw[bU (fun q=>e (S.Vm q))];exact w.at_ c x p j
def HS.aK(w:HS S h h'){a c:List Value}(r:All2 (VS S) a c)(o:Nat):HS S (AI.aK h a o) (AI.aK h' c o):=w.new (.bZ false o r (Nat.zero_le _))
def HS.ptr(w:HS S h h')(o:Nat):VS S (.pointer (some ⟨h.aw,o,none⟩)) (.pointer (some ⟨h'.aw,o,none⟩)):=by have:=VS.ptr (S:=S) o w.dn;rwa [w.shn] at this
def HS.slice(w:HS S h h')(o l c:Nat):VS S (.slice (some ⟨h.aw,o,none⟩) l c) (.slice (some ⟨h'.aw,o,none⟩) l c):=by have:=VS.slice (S:=S) o l c w.dn;rwa [w.shn] at this
def HS.tick(w:HS S h h'):HS S {h with clock:=h.clock+1} {h' with clock:=h'.clock+1} :=⟨w.n,w.aw,by show h'.clock+1=h.clock+1+S.dc;rw[w.clock];omega,w.at_⟩
def Ax(w:HS S h h')(p:S.D b)(c:cD h b off m=some cs):∃wT,cD h' (S.sh b) off m=some wT/\All2 (VS S) cs wT:=by
 unfold cD at c⊢;split at c
 .rename_i a D o s hb;obtain⟨A,y,u,r,_⟩:=w.bZ p hb;rw[u];dsimp only at c⊢;have j:=(r.drop off).take m;rw[<-j.length];split at c
  rename_i q;cases c;rw[bM q];exact⟨_,rfl,j⟩;cases c
 cases c
def MT{a c vs Pw:List Value}(r:All2 (VS S) a c)(q:All2 (VS S) vs Pw)(off:Nat):All2 (VS S) (bg a off vs) (bg c off Pw):=by unfold bg;rw[<-q.length];exact((r.take off).app q).app (r.drop _)
def CW(w:HS S h h')(p:S.D b)(q:All2 (VS S) vs Pw)(c:fU h b off vs=some h1):∃j,fU h' (S.sh b) off Pw=some j/\HS S h1 j:=by unfold fU at c⊢;split at c;rename_i a o s hb;obtain⟨D,A,y,r,_⟩:=w.bZ p hb;rw[y];dsimp only at c⊢;rw[<-q.length,<-r.length];split at c;rename_i u;cases c;rw[bM u];exact⟨_,rfl,w.set (.bZ false o (MT r q off) (by rw[w.clock];exact fh _)) 1⟩;cases c;cases c
def VS.plain{v v':Value}(r:VS S v v'):AI.plain v'=AI.plain v:=by cases r<;>rfl
def VS.simple{v v':Value}(r:VS S v v'):AI.simple v'=AI.simple v:=by cases r<;>rfl
def VS.qm{v v':Value}(r:VS S v v'):AI.qm v'=AI.qm v:=by cases r<;>rfl
def Th{p:Value->Bool}(c:∀v v',VS S v v'->p v'=p v)(r:All2 (VS S) l l'):l'.all p=l.all p:=by
 induction r with
 |nil=>rfl
 |cons x _ ih=>rw[List.all_cons,List.all_cons,ih,c _ _ x]
def VS.cells(r:VS S v v'):All2 (VS S) (cellsOf v) (cellsOf v'):=by
 cases r with
 |agg h=>exact h
 |bool b=>exact .cons (.bool b) .nil
 |int k m=>exact .cons (.int k m) .nil
 |str s=>exact .cons (.str s) .nil
 |wz=>exact .cons .wz .nil
 |ptr o h=>exact .cons (.ptr o h) .nil
 |fW l c=>exact .cons (.fW l c) .nil
 |slice o l c h=>exact .cons (.slice o l c h) .nil
 |uv=>exact .cons .uv .nil
 |chan c=>exact .cons (.chan c) .nil
 |tg=>exact .cons .tg .nil
 |oh=>exact .cons .oh .nil
 |fn p h1 j=>exact .cons (.fn p h1 j) .nil
 |yield h=>exact .cons (.yield h) .nil
 |tuple h=>exact .cons (.tuple h) .nil
def NV(r:VS S v v')(c:flat v=some vs):∃Pw,flat v'=some Pw/\All2 (VS S) vs Pw:=by
 unfold flat at c⊢;have e:=Th (p:=AI.plain) (fun _ _ r=>r.plain) r.cells;rw[e];cases j:(cellsOf v).all AI.plain with
 |true=>rw[j] at c;cases c;exact⟨_,rfl,r.cells⟩
 |false=>rw[j] at c;cases c
def Tf{n:Option Nat}(r:All2 (VS S) cs wT)(ha:agg n cs=some v):∃v',agg n wT=some v'/\VS S v v':=by
 unfold agg at ha⊢;cases n with
 |some n=>
  dsimp only at ha⊢;rw[<-r.length];split at ha;rename_i c;cases ha;rw[bM c];exact⟨_,rfl,.agg r⟩;cases ha
 |none=>
  dsimp only at ha⊢;cases r with
  |nil=>cases ha
  |cons x q=>
   cases q with
   |nil=>cases ha;exact⟨_,rfl,x⟩
   |cons _ _=>cases ha
def EP{e e':Env}(w:ES S e e'):∀ {p:List (Nat×Nat×Operand)} {cs wT r:List Value},okP S p=true->All2 (VS S) cs wT->mK e cs p=some r->∃s,mK e' wT p=some s/\All2 (VS S) r s
 |[],cs,wT,r,_,q,c=>by cases c;exact⟨_,rfl,q⟩
 |(off,n,x)::p,cs,wT,r,j,q,c=>by
  unfold okP at j;rw[List.all_cons,oD] at j;unfold mK at c⊢;cases o:flat (AI.ev e x) with
  |none=>rw[o] at c;cases c
  |some vs=>
   rw[o] at c;obtain⟨Pw,A,u⟩:=NV (w.ev j.1) o;rw[A];dsimp only at c⊢;rw[<-u.length,<-q.length];split at c;rename_i y;rw[bM y];exact EP w j.2 (MT q u off) c;cases c
def OK{z:List Value}(c:z.all Rm=true):∀n,All2 (VS S) (jn z n) (jn z n)
 |0=>.nil
 |n+1=>(yn c).app (OK c n)
end
section
variable{S:Sf}{h h' h1:az}
def LJ{a p b q:Value}(o:VS S a p)(j:VS S b q)(c:iH k a b=some r):iH k p q=some r:=by unfold iH at c;split at c;cases o;cases j;exact c;cases o;cases j;exact c;cases o;cases j;exact c;cases c
def Ik:∀ {ks:List Nat} {a o b s:List Value} {r:Bool},All2 (VS S) a o->All2 (VS S) b s->de ks a b=some r->de ks o s=some r
 |[],_,_,_,_,_,.nil,.nil,c=>c
 |[],_,_,_,_,_,.cons _ _,_,c=>by simp[de] at c
 |[],_,_,_,_,_,.nil,.cons _ _,c=>by simp[de] at c
 |_::_,_,_,_,_,_,.nil,_,c=>by simp[de] at c
 |_::_,_,_,_,_,_,.cons _ _,.nil,c=>by simp[de] at c
 |k::ks,_,_,_,_,r,.cons x E,.cons y D,c=>by
  rename_i u I A G v v' vs Pw;unfold de at c⊢;cases h1:iH k u v with
  |none=>simp only[h1] at c;cases c
  |some p=>
   cases j:de ks A vs with
   |none=>simp only[h1,j] at c;cases c
   |some q=>
    simp only[h1,j] at c;simp only[LJ x y h1,Ik E D j];exact c
def Qq{ks:List Nat}{a q b s:Value}(j:VS S a q)(o:VS S b s)(c:vt ks a b=some r):vt ks q s=some r:=by
 unfold vt at c;split at c
 .cases j with
  |agg ha=>
   cases o with
   |agg hb=>
    unfold vt;dsimp only at c⊢;split at c;exact Ik ha hb c;cases c
 .rename_i E;split at c;split at c;cases j;cases o<;>exact c;cases j;cases o;exact c;cases c;split at c;cases j;cases o<;>exact c;cases j;cases o;exact c;cases c;split at c;cases j;cases o<;>exact c;cases j;cases c;split at c;cases j;cases o;exact c;cases j;cases o<;>exact c;cases j<;>cases o<;>exact c;cases c
  .rename_i k u D A y;have p:=LJ j o c;unfold iH at c;split at c
   cases j;cases o;exact p;cases j;cases o;exact p;cases j;cases o;exact p;cases c
  cases c
def Am{k:IntKind}{a b:Int}(hb:jc op k a b=some v):VS S v v:=by
 unfold jc at hb;split at hb
 all_goals first
  |(cases hb<;>first|exact .int _ _|exact .bool _)
  |(split at hb<;>cases hb<;>first|exact .int _ _|exact .bool _)
def GH{k:IntKind}{a b:Int}(hb:ov op k a b=some v):VS S v v:=by unfold ov at hb;split at hb;cases hb;split at hb;cases hb;exact .int _ _;cases hb;exact .int _ _;cases hb
def aeW{n:List Nat}{x x' y y' v:Value}(c:VS S x x')(j:VS S y y')(hb:Du op n x y=some v):Du op n x' y'=some v/\VS S v v:=by
 cases op with
 |eql=>
  simp only[Du] at hb⊢;split at hb;cases c;cases j;split at hb;rename_i o;exact⟨by dsimp only;rw[bM o];exact hb,Am hb⟩;cases hb
  .rename_i s;cases p:vt n x y with
   |none=>rw[p] at hb;cases hb
   |some r=>
    rw[p] at hb;have q:=Qq c j p;cases hb;refine⟨?_,.bool _⟩;split
    cases c;cases j;exact(s _ _ _ _ rfl rfl).elim;rw[q]
 |neq=>
  simp only[Du] at hb⊢;split at hb;cases c;cases j;split at hb;rename_i o;exact⟨by dsimp only;rw[bM o];exact hb,Am hb⟩;cases hb
  .rename_i s;cases p:vt n x y with
   |none=>rw[p] at hb;cases hb
   |some r=>
    rw[p] at hb;have q:=Qq c j p;cases hb;refine⟨?_,.bool _⟩;split
    cases c;cases j;exact(s _ _ _ _ rfl rfl).elim;rw[q]
 |gtr=>
  simp only[Du] at hb⊢;split at hb;cases c;cases j;split at hb;rename_i o;exact⟨by dsimp only;rw[bM o];exact hb,Am hb⟩;cases hb;cases c;cases j;split at hb;rename_i o;cases hb;exact⟨by dsimp only;rw[bM o],.bool _⟩;cases hb;cases hb
 |shl=>
  simp only[Du] at hb⊢;split at hb;cases c;cases j;exact⟨hb,GH hb⟩;cases hb
 |shr=>
  simp only[Du] at hb⊢;split at hb;cases c;cases j;exact⟨hb,GH hb⟩;cases hb
 |_=>
  simp only[Du] at hb⊢;split at hb;cases c;cases j;split at hb;rename_i o;exact⟨by dsimp only;rw[bM o];exact hb,Am hb⟩;cases hb;cases hb
def akE{op:UnOp}(c:VS S x x')(hb:unV op x=some v):unV op x'=some v/\VS S v v:=by unfold unV at hb;split at hb;cases c;cases hb;exact⟨rfl,.int _ _⟩;cases c;cases hb;exact⟨rfl,.int _ _⟩;cases c;cases hb;exact⟨rfl,.bool _⟩;cases hb
def HW(w:ES S e e'){x:Option Operand}(o:okQ S x=true){j c r:Nat}(hb:bound e x j c=some r):bound e' x j c=some r:=by
 cases x with
 |none=>exact hb
 |some x=>
  have p:=w.ev (x:=x) o;unfold bound at hb⊢;dsimp only at hb⊢;generalize AI.ev e x=u at*;generalize AI.ev e' x=u' at*;split at hb;cases p;exact hb;cases hb
def afR(w:HS S h h')(y:z.all Rm=true){q:Bool}(p:VS S x x')(c:news h z q x=some (n,cs)):∃wT,news h' z q x'=some (n,wT)/\All2 (VS S) cs wT:=by unfold news at c;split at c;cases p;split at c;rename_i j;cases c;exact⟨_,by simp[news,j],OK y _⟩;cases c;cases p;split at c;rename_i j;cases c;exact⟨[],by simp[news,j],.nil⟩;cases c;cases p;rename_i s;split at c;rename_i j;cases c;exact⟨[],by simp[news,j],.nil⟩;rename_i j;split at c;rename_i o;cases c;obtain⟨wT,u,r⟩:=Ax w s o;exact⟨wT,by unfold news;simp only[j,u];rfl,r⟩;cases c;cases c
def Tl(w:HS S h h'){bytes:Nat}{s G:Value}(J:VS S s G)(A:All2 (VS S) cs wT)(ha:dy h z bytes s n cs=some (v,h1)):∃v' U,dy h' z bytes G n wT=some (v',U)/\VS S v v'/\HS S h1 U:=by
 unfold dy at ha;split at ha
 .rename_i a len Z;split at ha
  .rename_i q;split at ha
   .rename_i p;split at ha
    .rename_i V;cases ha;cases J with
     |fW=>exact⟨_,_,by simp[dy,q,p,V],.fW _ _,w⟩
     |slice o l c u=>exact⟨_,_,by simp[dy,q,p,V],.slice _ _ _ u,w⟩
    cases ha
   .rename_i p;split at ha
    .rename_i D;split at ha;cases J;split at ha;rename_i hl;cases ha;exact⟨_,_,by unfold dy;dsimp only;rw[bM q,bU p,bM D,bM hl],w.slice _ _ _,w.aK A _⟩;cases ha
     .rename_i b off;cases J with
      |slice o l c u=>
      split at ha
      .rename_i cn o s hb;obtain⟨Q,G,N,I,_⟩:=w.bZ u hb;split at ha
       .rename_i j;cases K:fU h b (off+len*z.length) cs with
        |none=>rw[K] at ha;cases ha
        |some h2=>
         rw[K] at ha;cases ha;obtain⟨xZ,E,w2⟩:=CW w u A K;exact⟨_,_,by unfold dy;dsimp only;rw[bM q,bU p,bM D,N];dsimp only;rw[bM j,E],.slice _ _ _ u,w2⟩
       .rename_i j;have y:=(I.drop off).take (len*z.length);dsimp only at ha;split at ha
        rename_i Y;split at ha;rename_i M;cases ha;exact⟨_,_,by unfold dy;dsimp only;rw[bM q,bU p,bM D,N];dsimp only;rw[bU j,<-y.length,bM Y,<-I.length,bM M],w.slice _ _ _,w.aK (y.app A) _⟩;rename_i M;split at ha;rename_i O;cases ha;exact⟨_,_,by unfold dy;dsimp only;rw[bM q,bU p,bM D,N];dsimp only;rw[bU j,<-y.length,bM Y,<-I.length,bU M,bM O],w.slice _ _ _,(w.del b).aK (y.app A) _⟩;cases ha;cases ha
      cases ha
     cases ha
    cases ha
  cases ha
 cases ha
end
section
variable{S:Sf}{h h' h1:az}{e e':Env}
def aj2(w:HS S h h')(A:ES S e e'){op:jQ}(q:vG S op=true)(j:c_ e h op=some (v,h1)):∃v' V,c_ e' h' op=some (v',V)/\VS S v v'/\HS S h1 V:=by
 cases op with
 |mv x=>cases j;exact⟨_,_,rfl,A.ev q,w⟩
 |pick c a b=>
  simp only[vG,oD] at q;have K:=A.ev q.1.1;simp only[c_] at j⊢;generalize ev e c=u at*;generalize ev e' c=u' at*;split at j
  cases K;cases j;exact⟨_,_,rfl,A.ev q.1.2,w⟩;cases K;cases j;exact⟨_,_,rfl,A.ev q.2,w⟩;cases j
 |alloc z=>cases j;exact⟨_,_,rfl,w.ptr 0,w.aK (yn q) 0⟩
 |box x=>
  have D:=A.ev (x:=x) q;simp only[c_] at j⊢;cases E:flat (ev e x) with
  |none=>rw[E] at j;cases j
  |some vs=>
   rw[E] at j;obtain⟨Pw,O,r⟩:=NV D E;rw[O];cases j;exact⟨_,_,rfl,w.ptr 0,w.aK r 0⟩
 |build z p=>
  simp only[vG,oD] at q;simp only[c_] at j⊢;cases E:mK e z p with
  |none=>rw[E] at j;cases j
  |some cs=>
   rw[E] at j;obtain⟨wT,O,r⟩:=EP A q.2 (yn q.1) E;rw[O];cases j;exact⟨_,_,rfl,.agg r,w⟩
 |fm n z p=>
  simp only[vG,oD] at q;simp only[c_] at j⊢;cases E:mK e z p with
  |none=>rw[E] at j;cases j
  |some cs=>
   rw[E] at j;obtain⟨wT,O,r⟩:=EP A q.2 (yn q.1) E;rw[O];cases j;exact⟨_,_,rfl,w.slice 0 n n,w.aK r 0⟩
 |load n a=>
  have ra:=A.ev (x:=a) q;simp only[c_] at j⊢;generalize ev e a=u at*;generalize ev e' a=u' at*;split at j
  .rename_i b off;cases ra with
   |ptr o G=>
    cases hr:cD h b off (width n) with
    |none=>rw[hr] at j;cases j
    |some cs=>
     rw[hr] at j;obtain⟨wT,KV,r⟩:=Ax w G hr;dsimp only at j⊢;rw[KV];dsimp only;cases N:agg n cs with
     |none=>rw[N] at j;cases j
     |some v2=>
      rw[N] at j;obtain⟨Z,J,r2⟩:=Tf r N;rw[J];cases j;exact⟨_,_,rfl,r2,w⟩
  cases j
 |store n a x=>
  simp only[vG,oD] at q;have ra:=A.ev q.1;have D:=A.ev q.2;simp only[c_] at j⊢;generalize ev e a=u at*;generalize ev e' a=u' at*;split at j
  .rename_i b off;cases ra with
   |ptr o G=>
    cases E:flat (ev e x) with
    |none=>rw[E] at j;cases j
    |some vs=>
     rw[E] at j;obtain⟨Pw,O,r⟩:=NV D E;dsimp only at j⊢;rw[O];dsimp only;rw[<-r.length];split at j
     .rename_i hl;rw[bM hl];cases hw:fU h b off vs with
      |none=>rw[hw] at j;cases j
      |some Y=>
       rw[hw] at j;obtain⟨xZ,Q,w2⟩:=CW w G r hw;rw[Q];cases j;exact⟨_,_,rfl,VS.undef,w2⟩
     cases j
  cases j
 |yk x=>
  have D:=A.ev (x:=x) q;simp only[c_] at j⊢;generalize ev e x=u at*;generalize ev e' x=u' at*;split at j
  .cases D with
   |ptr o G=>cases j;exact⟨_,_,rfl,.ptr o G,w⟩
  cases j
 |bin op n x y=>
  simp only[vG,oD] at q;simp only[c_] at j⊢;cases hb:Du op n (ev e x) (ev e y) with
  |none=>rw[hb] at j;cases j
  |some r=>
   rw[hb] at j;obtain⟨ia,rv⟩:=aeW (S:=S) (A.ev q.1) (A.ev q.2) hb;rw[ia];cases j;exact⟨_,_,rfl,rv,w⟩
 |un op x=>
  simp only[c_] at j⊢;cases hb:unV op (ev e x) with
  |none=>rw[hb] at j;cases j
  |some r=>
   rw[hb] at j;obtain⟨ia,rv⟩:=akE (S:=S) (A.ev (x:=x) q) hb;rw[ia];cases j;exact⟨_,_,rfl,rv,w⟩
 |conv k x=>
  have D:=A.ev (x:=x) q;simp only[c_] at j⊢;generalize ev e x=u at*;generalize ev e' x=u' at*;split at j;cases D;cases j;exact⟨_,_,rfl,.int _ _,w⟩;cases j
 |uk f caps=>
  simp only[vG,oD] at q;have K:=A.pr q.2;simp only[c_] at j⊢;rw[Th (p:=AI.simple) (fun _ _ r=>r.simple) K];cases hs:(pr e caps).all AI.simple with
  |false=>rw[hs] at j;cases j
  |true=>rw[hs] at j;cases j;exact⟨_,_,rfl,.fn q.1 .nil K,w⟩
 |gG z U l c=>
  simp only[vG,oD] at q;have rl:=A.ev q.1.2;have K:=A.ev q.2;simp only[c_] at j⊢;generalize ev e l=u at*;generalize ev e' l=u' at*;generalize ev e c=t at*;generalize ev e' c=t' at*;split at j
  cases rl;cases K;split at j;rename_i M;cases j;exact⟨_,_,by dsimp only;rw[bM M],w.slice _ _ _,w.aK (OK q.1.1 _) 0⟩;cases j;cases j
 |slice I x lo hi mx=>
  simp only[vG,oD] at q;have D:=A.ev q.1.1.1;simp only[c_] at j⊢;generalize ev e x=u at*;generalize ev e' x=u' at*;split at j
  .rename_i a len cap;cases h1:bound e mx cap cap with
   |none=>rw[h1] at j;cases j
   |some m=>
    rw[h1] at j;dsimp only at j;cases Y:bound e hi len m with
    |none=>rw[Y] at j;cases j
    |some hh=>
     rw[Y] at j;dsimp only at j;cases h3:bound e lo 0 hh with
     |none=>rw[h3] at j;cases j
     |some l=>
      rw[h3] at j;dsimp only at j;have V:=HW A q.2 h1;have xZ:=HW A q.1.2 Y;have h3':=HW A q.1.1.2 h3;split at j
      cases D;cases j;exact⟨_,_,by dsimp only;rw[V];dsimp only;rw[xZ];dsimp only;rw[h3'],.fW _ _,w⟩
      .rename_i b off;cases D with
       |slice o l2 c2 G=>
        split at j
        .rename_i cs ro o s hb;obtain⟨wT,s',ia,_,_⟩:=w.bZ G hb;cases M:(Nat.beq o 0||Nat.beq o I) with
         |false=>rw[M] at j;cases j
         |true=>
          rw[M] at j;cases j;exact⟨_,_,by dsimp only;rw[V];dsimp only;rw[xZ];dsimp only;rw[h3'];dsimp only;rw[ia];dsimp only;rw[M];rfl,.slice _ _ _ G,w⟩
        cases j
      cases j
  cases j
 |cq off x=>
  have D:=A.ev (x:=x) q;simp only[c_] at j⊢;generalize ev e x=u at*;generalize ev e' x=u' at*;split at j
  .cases D with
   |ptr o G=>cases j;exact⟨_,_,rfl,.ptr _ G,w⟩
  cases j
 |fw arr I x i=>
  simp only[vG,oD] at q;have D:=A.ev q.1;have ri:=A.ev q.2;simp only[c_] at j⊢;generalize ev e x=u at*;generalize ev e' x=u' at*;generalize ev e i=t at*;generalize ev e' i=t' at*;split at j
  .cases ri;split at j
   .cases D with
    |ptr o G=>
     split at j;rename_i M;cases j;exact⟨_,_,by dsimp only;rw[bM M],.ptr _ G,w⟩;cases j
   .cases D with
    |slice o l c G=>
     split at j;rename_i M;cases j;exact⟨_,_,by dsimp only;rw[bM M],.ptr _ G,w⟩;cases j
   cases j
  cases j
 |index arr x i=>
  simp only[vG,oD] at q;have D:=A.ev q.1;have ri:=A.ev q.2;simp only[c_] at j⊢;generalize ev e x=u at*;generalize ev e' x=u' at*;generalize ev e i=t at*;generalize ev e' i=t' at*;split at j
  .cases ri;split at j
   .cases D with
    |agg r=>
     split at j;rename_i M;dsimp only at j⊢;split at j;rename_i v2 N;obtain⟨Z,J,r2⟩:=Tf ((r.drop _).take _) N;cases j;exact⟨_,_,by rw[bM M,J],r2,w⟩;cases j;cases j
   .cases D with
    |str s=>
     split at j;rename_i bb N;cases j;exact⟨_,_,by dsimp only;rw[N],.int _ _,w⟩;cases j
   cases j
  cases j
 |ext i x=>
  have D:=A.ev (x:=x) q;simp only[c_] at j⊢;generalize ev e x=u at*;generalize ev e' x=u' at*;split at j
  .cases D with
   |tuple r=>
    dsimp only at j⊢;split at j;rename_i v2 N;obtain⟨Z,J,r2⟩:=r.get N;cases j;exact⟨_,_,by rw[J],r2,w⟩;cases j
  cases j
 |nu x=>
  have D:=A.ev (x:=x) q;simp only[c_] at j⊢;generalize ev e x=u at*;generalize ev e' x=u' at*;split at j;cases j;cases D<;>exact⟨_,_,rfl,.int _ _,w⟩;cases j
 |JS x=>
  have D:=A.ev (x:=x) q;simp only[c_] at j⊢;generalize ev e x=u at*;generalize ev e' x=u' at*;split at j;cases D;cases j;exact⟨_,_,rfl,.int _ _,w⟩;cases j
 |append z U mw s x=>
  simp only[vG,oD] at q;simp only[c_] at j⊢;cases hn:news h z mw (ev e x) with
  |none=>rw[hn] at j;cases j
  |some r=>
   obtain⟨n,cs⟩:=r;rw[hn] at j;obtain⟨wT,SQ,K⟩:=afR w q.1.1 (A.ev q.2) hn;rw[SQ];exact Tl w (A.ev q.1.2) K j
 |copy I d s=>
  simp only[vG,oD] at q;have rd:=A.ev q.1;have rs:=A.ev q.2;simp only[c_] at j⊢;generalize ev e d=u at*;generalize ev e' d=u' at*;generalize ev e s=t at*;generalize ev e' s=t' at*;split at j
  .rename_i da dn dc sa sn sc;split at j;rename_i hz;cases j;cases rd<;>cases rs<;>exact⟨_,_,by dsimp only;rw[bM hz],.int _ _,w⟩
   .rename_i hz;split at j
    .cases rd with
     |slice o1 l1 c1 hd1=>
      cases rs with
      |slice o2 l2 c2 Gk=>
       split at j;rename_i cs hr;obtain⟨wT,KV,K⟩:=Ax w Gk hr;split at j;rename_i Y hw;obtain⟨xZ,Q,w2⟩:=CW w hd1 K hw;cases j;exact⟨_,_,by dsimp only;rw[bU hz,KV];dsimp only;rw[Q],.int _ _,w2⟩;cases j;cases j
    cases j
  cases j
 |call f args=>cases j
 |bad=>cases j
 |_=>cases q
end
def FSh(S:Sf)(F:Nat->Option cV):Prop:=∀f fn,S.fk f=true->F f=some fn->(match fn.zQ with|.no=>True|_=>False)/\Le S fn.body=true
def RSh(S:Sf)(ih:aG->Env->az->R):Prop:=∀c e h e' h' x p h1,Le S c=true->ES S e e'->HS S h h'->ih c e h=some (x,p,h1)->∃o j,ih c e' h'=some (x,o,j)/\ES S p o/\HS S h1 j
section
variable{S:Sf}{F:Nat->Option cV}{ih:aG->Env->az->R}
def MG:∀ {l l':List Value} {e e':Env} (i:Nat),ES S e e'->All2 (VS S) l l'->ES S (params e i l) (params e' i l')
 |_,_,_,_,_,w,.nil=>w
 |_,_,_,_,i,w,.cons x c=>MG (i+1) (w.set x i) c
def Ek:∀ {ps:List Nat} {l l':List Value} {e e' r:Env},ES S e e'->All2 (VS S) l l'->fP e ps l=some r->∃j,fP e' ps l'=some j/\ES S r j
 |[],_,_,_,_,_,w,.nil,c=>by cases c;exact⟨_,rfl,w⟩
 |[],_,_,_,_,_,_,.cons _ _,c=>by cases c
 |_::_,_,_,_,_,_,_,.nil,c=>by cases c
 |t::ps,_,_,_,_,_,w,.cons x o,c=>by unfold fP at c⊢;exact Ek (w.set x t) o c
def yr{h h':az}(w:HS S h h'){e e':Env}(j:ES S e e'):∀ {l:List GM} {r:List Value},results e h l=some r->∃A,results e' h' l=some A/\All2 (VS S) r A
 |[],r,c=>by cases c;exact⟨_,rfl,.nil⟩
 |.tmp t::l,r,c=>by unfold results at c⊢;split at c;rename_i vs p;obtain⟨Pw,q,s⟩:=yr w j p;cases c;rw[q];exact⟨_,rfl,.cons (j t) s⟩;cases c
 |.cell a n::l,r,c=>by
  unfold results at c⊢;have G:=j a;generalize bH e a=u at*;generalize bH e' a=u' at*;split at c
  .rename_i b off;cases G with
   |ptr o D=>
    dsimp only;split at c;rename_i cs M;obtain⟨wT,I,J⟩:=Ax w D M;rw[I];dsimp only;split at c;rename_i v K;obtain⟨v',y,s⟩:=Tf J K;rw[y];dsimp only;split at c;rename_i vs p;obtain⟨Pw,q,E⟩:=yr w j p;cases c;rw[q];exact⟨_,rfl,.cons s E⟩;cases c;cases c;cases c
  cases c
def MO(r:All2 (VS S) l l'):VS S (result l) (result l'):=by
 unfold result;cases r with
 |nil=>exact .tuple .nil
 |cons x c=>
  cases c with
  |nil=>exact x
  |cons y j=>exact .tuple (.cons x (.cons y j))
def Gu(r:All2 (VS S) l l'):fZ l'=fZ l:=by
 unfold fZ;cases r with
 |nil=>rfl
 |cons x c=>
  cases c with
  |nil=>rfl
  |cons y j=>exact Th (fun _ _ r=>r.qm) (.cons x (.cons y j))
def H7(O:FSh S F)(H:RSh S ih){o:Bool}(Q:S.fk f=true)(w:HS S h h')(N:All2 (VS S) args zc)(c:mW F ih o f args h=some (v,h1)):∃v' I,mW F ih o f zc h'=some (v',I)/\VS S v v'/\HS S h1 I:=by
 unfold mW at c⊢;cases D:F f with
 |none=>rw[D] at c;cases c
 |some fn=>
  rw[D] at c;obtain⟨y,hb⟩:=O f fn Q D;dsimp only at c⊢;cases j:fn.zQ with
  |Rv=>rw[j] at y;exact y.elim
  |run p k=>rw[j] at y;exact y.elim
  |no=>
   rw[j] at c;dsimp only at c⊢;cases E:ih fn.body (params .nil 0 args) h with
   |none=>rw[E] at c;cases c
   |some x=>
    obtain⟨x,K,J⟩:=x;obtain⟨V,Y,U,M,A⟩:=H _ _ _ _ _ _ _ _ hb (MG 0 ES.nil N) w E;rw[E] at c;rw[U];cases x with
    |exit id=>cases c
    |normal=>
     dsimp only at c⊢;cases q:results K J fn.res with
     |none=>rw[q] at c;cases c
     |some vs=>
      rw[q] at c;obtain⟨Pw,G,s⟩:=yr A M q;rw[G];dsimp only at c⊢;rw[Gu s];cases u:fZ vs with
      |false=>rw[u] at c;cases c
      |true=>rw[u] at c;cases c;exact⟨_,_,rfl,MO s,A⟩
    |ret=>
     dsimp only at c⊢;cases q:results K J fn.res with
     |none=>rw[q] at c;cases c
     |some vs=>
      rw[q] at c;obtain⟨Pw,G,s⟩:=yr A M q;rw[G];dsimp only at c⊢;rw[Gu s];cases u:fZ vs with
      |false=>rw[u] at c;cases c
      |true=>rw[u] at c;cases c;exact⟨_,_,rfl,MO s,A⟩
def HS.loop{h h':az}(w:HS S h h'){l:Nat}(o:S.D l){c:Env}{ps:List Nat}{asg body:aG}{st:Tc}(q:h.tr.get l=some (.loop c ps asg body st)):∃j,h'.tr.get (S.sh l)=some (.loop j ps asg body st)/\ES S c j/\Le S asg=true/\Le S body=true:=by
 rcases w.at_ l _ o q with⟨u,e,_⟩|⟨y,p,r⟩;cases e
 .cases r with
  |loop ps st h h1 s=>exact⟨_,p,h,h1,s⟩
def Fy(w:HS S h h'){l:Nat}(p:S.D l){st:Tc}{b:Bool}(c:lY l h st b=some (v,h1)):∃v' j,lY (S.sh l) h' st b=some (v',j)/\VS S v v'/\HS S h1 j:=by unfold lY at c⊢;split at c;rename_i q s u o y;obtain⟨I,D,A,G,E⟩:=w.loop p y;rw[D];cases c;exact⟨_,_,rfl,.bool _,w.apY (.loop s st A G E)⟩;cases c
def Zu(H:RSh S ih)(w:HS S h h'){l:Nat}(s:S.D l){c:aG}(U:Le S c=true)(N:ES S e e')(o:wH ih l c e h=some (v,h1)):∃v' D,wH ih (S.sh l) c e' h'=some (v',D)/\VS S v v'/\HS S h1 D:=by
 unfold wH at o⊢;split at o
 .rename_i q u p j J;obtain⟨K,E,M,I,G⟩:=w.loop s J;rw[E];dsimp only;have Q:HS S (fT h l q u p j .busy) (fT h' (S.sh l) K u p j .busy):=w.apY (.loop u .busy M I G);cases A:ih c e (fT h l q u p j .busy) with
  |none=>rw[A] at o;cases o
  |some x=>
   obtain⟨x,e1,V⟩:=x;obtain⟨Y,Z,O,_,y⟩:=H _ _ _ _ _ _ _ _ U N Q A;rw[A] at o;rw[O];cases x with
   |normal=>exact Fy y s o
   |ret=>exact Fy y s o
   |exit id=>exact Fy y s o
 cases o
def Zw(H:RSh S ih)(w:HS S h h'){l:Nat}(u:S.D l)(D:All2 (VS S) args zc)(c:rJ ih l args h=some (v,h1)):∃v' y,rJ ih (S.sh l) zc h'=some (v',y)/\VS S v v'/\HS S h1 y:=by
 unfold rJ at c⊢;split at c
 .rename_i o I j A M;obtain⟨Ij,G,O,K,J⟩:=w.loop u M;rw[G];dsimp only;cases p:fP o I args with
  |none=>rw[p] at c;cases c
  |some e=>
   obtain⟨e2,N,Q⟩:=Ek O D p;rw[p] at c;rw[N];dsimp only at c⊢;cases q:ih j e h with
   |none=>rw[q] at c;cases c
   |some x=>
    obtain⟨x,e1,V⟩:=x;obtain⟨Y,Z,U,s,E⟩:=H _ _ _ _ _ _ _ _ K Q w q;rw[q] at c;rw[U];cases x with
    |normal=>exact Zu H E u J s c
    |ret=>cases c
    |exit id=>cases c
 cases c
def aa5(A:FSh S F)(H:RSh S ih){fv c:Value}(q:VS S fv c)(p:All2 (VS S) args zc)(w:HS S h h')(j:e_ F ih fv args h=some (v,h1)):∃v' o,e_ F ih c zc h'=some (v',o)/\VS S v v'/\HS S h1 o:=by
 unfold e_ at j;split at j
 .cases q with
  |fn u h1 y=>exact H7 A H u w ((h1.app p).app y) j
 .cases q with
  |yield s=>exact Zw H w s p j
 cases j
def Z2(c:ES S e e')(g:Option (Nat×Bool)):wanted e' g=wanted e g:=by
 cases g with
 |none=>rfl
 |some g=>
  obtain⟨t,b⟩:=g;unfold wanted;have r:=c t;dsimp only;generalize bH e t=u at*;generalize bH e' t=u' at*;cases r<;>rfl
def Rr(K:FSh S F)(H:RSh S ih){o:bX}(p:vG S o.op=true){e e' A:Env}(j:ES S e e')(w:HS S h h')(c:dM F ih o e h=some (A,h1)):∃E D,dM F ih o e' h'=some (E,D)/\ES S A E/\HS S h1 D:=by
 unfold dM at c⊢;rw[Z2 j];cases y:wanted e o.guard with
 |false=>rw[y] at c;cases c;exact⟨_,_,rfl,j.put VS.undef _,w⟩
 |true=>
  rw[y] at c;simp only[kA] at c⊢;split at c
  .rename_i f args G;rw[G] at p;simp only[vG,oD] at p;cases hb:e_ F ih (ev e f) (pr e args) h with
   |none=>rw[hb] at c;cases c
   |some x=>
    obtain⟨v,I⟩:=x;obtain⟨v',J,s,u,q⟩:=aa5 K H (j.ev p.1) (j.pr p.2) w hb;rw[hb] at c;rw[s];cases c;exact⟨_,_,rfl,j.put u _,q⟩
  .rename_i op M;cases hb:c_ e h o.op with
   |none=>rw[hb] at c;cases c
   |some x=>
    obtain⟨v,I⟩:=x;obtain⟨v',J,s,u,q⟩:=aj2 w j p hb;rw[hb] at c;rw[s];cases c;exact⟨_,_,rfl,j.put u _,q⟩
def WL(y:FSh S F)(H:RSh S ih):∀ {l:List bX} {e e' p:Env} {h h' h1:az},(l.all fun o=>vG S o.op)=true->ES S e e'->HS S h h'->xu F ih l e h=some (p,h1)->∃u s,xu F ih l e' h'=some (u,s)/\ES S p u/\HS S h1 s
 |[],_,_,_,_,_,_,_,q,w,c=>by cases c;exact⟨_,_,rfl,q,w⟩
 |o::l,e,e',p,h,h',h1,j,q,w,c=>by
  rw[List.all_cons,oD] at j;unfold xu at c⊢;cases hb:dM F ih o e h with
  |none=>rw[hb] at c;cases c
  |some x=>
   obtain⟨K,I⟩:=x;obtain⟨A,J,G,D,E⟩:=Rr y H j.1 q w hb;rw[hb] at c;rw[G];exact WL y H j.2 D E c
def uN{e e':Env}{h h':az}(p:ES S e e')(w:HS S h h'){k:Nat} :∀ {l:List Nat},still e h k l=true->still e' h' (k+S.dc) l=true
 |[],_=>rfl
 |t::l,j=>by
  unfold still at j⊢;have r:=p t;generalize bH e t=u at*;generalize bH e' t=u' at*;cases r with
  |ptr o q=>
   dsimp only at j⊢;split at j;rename_i cs E G s hb;obtain⟨wT,D,A,_,y⟩:=w.bZ q hb;rw[A];dsimp only;rw[oD] at j⊢;exact⟨Nat.ble_eq_true_of_le (av (Ph j.1)),uN p w j.2⟩;cases j
  |slice o ll c q=>
   dsimp only at j⊢;split at j;rename_i cs E G s hb;obtain⟨wT,D,A,_,y⟩:=w.bZ q hb;rw[A];dsimp only;rw[oD] at j⊢;exact⟨Nat.ble_eq_true_of_le (av (Ph j.1)),uN p w j.2⟩;cases j
  |uv=>exact uN p w j
  |tuple _=>exact uN p w j
  |wz=>exact uN p w j
  |fW _ _=>exact uN p w j
  |_=>cases j
def Qi(E:FSh S F)(H:RSh S ih){k:Nat} :∀ {l:List (bX×List Nat)} {e e' p:Env} {h h' h1:az},(l.all fun o=>vG S o.1.op)=true->ES S e e'->HS S h h'->kP F ih k l e h=some (p,h1)->∃y u,kP F ih (k+S.dc) l e' h'=some (y,u)/\ES S p y/\HS S h1 u
 |[],_,_,_,_,_,_,_,q,w,c=>by cases c;exact⟨_,_,rfl,q,w⟩
 |(o,nZ)::l,e,e',p,h,h',h1,j,q,w,c=>by
  rw[List.all_cons,oD] at j;unfold kP at c⊢;cases hb:dM F ih o e h with
  |none=>rw[hb] at c;cases c
  |some x=>
   obtain⟨K,I⟩:=x;obtain⟨G,M,J,A,D⟩:=Rr E H j.1 q w hb;rw[hb] at c;rw[J];dsimp only at c⊢;cases s:still K I k nZ with
   |false=>rw[s] at c;cases c
   |true=>
    rw[s] at c;rw[uN A D s];exact Qi E H j.2 A D c
def adK(O:FSh S F)(H:RSh S ih):RSh S (cX F ih):=by
 intro c e h e' h' x e1 h1 q s w j;cases c with
 |skip=>cases j;exact⟨_,_,rfl,s,w⟩
 |ret=>cases j;exact⟨_,_,rfl,s,w⟩
 |exit id=>cases j;exact⟨_,_,rfl,s,w⟩
 |bad=>cases j
 |ops l=>
  unfold cX at j⊢;dsimp only at j⊢;cases hb:xu F ih l e h with
  |none=>rw[hb] at j;cases j
  |some x=>
   obtain⟨N,J⟩:=x;obtain⟨D,I,A,p,o⟩:=WL O H q s w hb;rw[hb] at j;rw[A];cases j;exact⟨_,_,rfl,p,o⟩
 |draw l=>
  unfold cX at j⊢;dsimp only at j⊢;cases hb:kP F ih h.clock l e {h with clock:=h.clock+1} with
  |none=>rw[hb] at j;cases j
  |some x=>
   obtain⟨N,J⟩:=x;obtain⟨D,I,A,p,o⟩:=Qi O H q s w.tick hb;rw[<-w.clock] at A;rw[hb] at j;rw[A];cases j;exact⟨_,_,rfl,p,o⟩
 |seq a b=>
  simp only[Le,oD] at q;unfold cX at j⊢;dsimp only at j⊢;cases hb:ih a e h with
  |none=>rw[hb] at j;cases j
  |some y=>
   obtain⟨y,N,J⟩:=y;obtain⟨D,I,A,p,o⟩:=H _ _ _ _ _ _ _ _ q.1 s w hb;rw[hb] at j;rw[A];cases y with
   |normal=>exact H _ _ _ _ _ _ _ _ q.2 p o j
   |exit id=>cases j;exact⟨_,_,rfl,p,o⟩
   |ret=>cases j;exact⟨_,_,rfl,p,o⟩
 |cond c a b=>
  simp only[Le,oD] at q;have Z:=s.ev q.1.1;unfold cX at j⊢;dsimp only at j⊢;generalize ev e c=u at*;generalize ev e' c=u' at*;split at j
  cases Z;exact H _ _ _ _ _ _ _ _ q.1.2 s w j;cases Z;exact H _ _ _ _ _ _ _ _ q.2 s w j;cases j
 |block id c=>
  unfold cX at j⊢;dsimp only at j⊢;cases hb:ih c e h with
  |none=>rw[hb] at j;cases j
  |some y=>
   obtain⟨y,N,J⟩:=y;obtain⟨D,I,A,p,o⟩:=H _ _ _ _ _ _ _ _ (show Le S c=true from q) s w hb;rw[hb] at j;rw[A];cases y with
   |normal=>cases j;exact⟨_,_,rfl,p,o⟩
   |ret=>cases j;exact⟨_,_,rfl,p,o⟩
   |exit i=>
    dsimp only at j⊢;cases U:Nat.beq i id with
    |true=>rw[U] at j;cases j;exact⟨_,_,rfl,p,o⟩
    |false=>rw[U] at j;cases j;exact⟨_,_,rfl,p,o⟩
 |loop c=>
  unfold cX at j⊢;dsimp only at j⊢;cases hb:ih c e h with
  |none=>rw[hb] at j;cases j
  |some y=>
   obtain⟨y,N,J⟩:=y;obtain⟨D,I,A,p,o⟩:=H _ _ _ _ _ _ _ _ (show Le S c=true from q) s w hb;rw[hb] at j;rw[A];cases y with
   |normal=>exact H _ _ _ _ _ _ _ _ q p o j
   |exit id=>cases j;exact⟨_,_,rfl,p,o⟩
   |ret=>cases j;exact⟨_,_,rfl,p,o⟩
 |Ko f Q K E=>
  simp only[Le,oD] at q;have rf:=s.ev q.1.1;unfold cX at j⊢;dsimp only at j⊢;generalize ev e f=u at*;generalize ev e' f=u' at*;split at j
  .rename_i g first Y
   cases rf with
   |fn hf r1 r2=>
    rename_i a a' b b';dsimp only at j⊢;have ry:VS S (.func (.yield h.aw) #[] #[]) (.func (.yield h'.aw) #[] #[]):=by have:=VS.yield (S:=S) w.dn;rwa [w.shn] at this
    cases hb:su F ih g (a++[Value.func (.yield h.aw) #[] #[]]++b) (h.new (.loop e Q K E .ready)) with
    |none=>rw[hb] at j;cases j
    |some y=>
     obtain⟨y,J⟩:=y;obtain⟨y',I,A,_,o⟩:=H7 O H hf (w.new (.loop Q .ready s q.1.2 q.2)) ((r1.app (.cons ry .nil)).app r2) hb;have pz:su F ih g (a'++[Value.func (.yield h'.aw) #[] #[]]++b') (h'.new (.loop e' Q K E .ready))=some (y',I):=A;rw[hb] at j;rw[pz];dsimp only at j⊢;split at j
     rename_i M;obtain⟨V,G,_⟩:=o.loop w.dn M;rw[w.shn] at G;rw[G];cases j;have:=o.del h.aw;rw[w.shn] at this;exact⟨_,_,rfl,s,this⟩
     rename_i M;obtain⟨V,G,_⟩:=o.loop w.dn M;rw[w.shn] at G;rw[G];cases j;have:=o.del h.aw;rw[w.shn] at this;exact⟨_,_,rfl,s,this⟩
     rename_i M;obtain⟨V,G,_⟩:=o.loop w.dn M;rw[w.shn] at G;rw[G];cases j;have:=o.del h.aw;rw[w.shn] at this;exact⟨_,_,rfl,s,this⟩
     cases j
  cases j
def adu(c:FSh S F):∀k,RSh S (run F k)
 |0=>fun _ _ _ _ _ _ _ _ _ _ _ j=>by cases j
 |k+1=>adK c (adu c k)
def aeY(j:FSh S F)(o:S.fk f=true)(w:HS S h h')(p:All2 (VS S) args zc)(q:call F k f args h=some (v,h1)):∃v' c,call F k f zc h'=some (v',c)/\VS S v v'/\HS S h1 c:=H7 j (adu j k) o w p q
end
def mI(n:Nat)(v:Value):Prop:=Rm v=true\/(∃b o,v=.pointer (some ⟨b,o,none⟩)/\b<n)\/∃b o l c,v=.slice (some ⟨b,o,none⟩) l c/\b<n
def mI.mono(h:mI n v)(l:n<=m):mI m v:=by rcases h with h|⟨b,o,e,h⟩|⟨b,o,k,c,e,h⟩;exact .inl h;exact .inr (.inl ⟨b,o,e,Kf h l⟩);exact .inr (.inr ⟨b,o,k,c,e,Kf h l⟩)
def ahH(n:Nat)(v:Value):Prop:=mI n v\/∃cs,v=.agg ⟨cs⟩/\∀c∈cs,mI n c
def HB(h:az):Prop:=∀b o,h.tr.get b=some o->∃cs c op s,o=.bZ cs c op s/\∀v∈cs,mI h.aw v
def Ab{α:Type}{R:α->α->Prop} :∀ {l:List α},(∀v∈l,R v v)->All2 R l l
 |[],_=>.nil
 |v::l,h=>.cons (h v (h_)) (Ab fun u c=>h u (uQ _ c))
def vL(h0 ha hb:az)(fk:Nat->Bool)(h1:0<h0.aw)(j:h0.aw<=ha.aw):Sf:=
 ⟨ha.aw,hb.aw-ha.aw,hb.clock-ha.clock,fun b=>ha.aw<=b\/b<h0.aw,fk,fun g=>Nat.beq g 0,fun _ h=>.inl h,fun g c=>by have:=rz c;subst this;exact⟨Kf h1 j,.inr h1⟩⟩
section
variable{h0 ha hb:az}{fk:Nat->Bool}{p1:0<h0.aw}{p2:h0.aw<=ha.aw}
def FB(h:b<h0.aw):(vL h0 ha hb fk p1 p2).sh b=b:=by unfold Sf.sh;exact bM (Kf h p2)
def EN(h:mI h0.aw v):VS (vL h0 ha hb fk p1 p2) v v:=by rcases h with h|⟨b,o,rfl,h⟩|⟨b,o,l,c,rfl,h⟩;exact UT h;have:=VS.ptr (S:=vL h0 ha hb fk p1 p2) o (.inr h);rwa [FB h] at this;have:=VS.slice (S:=vL h0 ha hb fk p1 p2) o l c (.inr h);rwa [FB h] at this
def adX(h:ahH h0.aw v):VS (vL h0 ha hb fk p1 p2) v v:=by rcases h with h|⟨cs,rfl,h⟩;exact EN h;exact .agg (Ab fun v c=>EN (h v c))
def adF(C:HB h0)(I:cr h0)(g0:ay aZ h0 ha)(j:ay aZ ha hb):HS (vL h0 ha hb fk p1 p2) ha hb:=by
 refine⟨fh _,?_,?_,fun b o u c=>?_⟩;have:=j.aw;show hb.aw=ha.aw+(hb.aw-ha.aw);omega
 have:=j.clock;show hb.clock=ha.clock+(hb.clock-ha.clock);omega
 .have E:=g0.ok.wf b o c;have q:b<h0.aw:=by rcases u with h|h;exact absurd h (by show ¬ha.aw<=b;omega);exact h
  have p:=g0.same b q (fun h=>h);have y:=j.same b E (fun h=>h);rw[p] at c;obtain⟨cs,D,op,s,rfl,G⟩:=C b o c;refine .inr ⟨_,by rw[FB q,y,p];exact c,.bZ D op (Ab fun v A=>EN (G v A)) (Nat.le_add_right _ _)⟩
end
def ajX{S:Sf}(r:VS S v v')(h:Rm v=true):v'=v:=by cases r<;>first|rfl|cases h
def Ox{S:Sf} :∀ {l l':List Value},All2 (VS S) l l'->l.all Rm=true->l'=l
 |_,_,.nil,_=>rfl
 |_,_,.cons x c,h=>by rw[List.all_cons,oD] at h;rw[ajX x h.1,Ox c h.2]
def ajY{S:Sf}(r:VS S v v')(h:okV v=true):v'=v:=by
 cases r with
 |agg q=>rw[Ox q h]
 |tuple q=>rw[Ox q h]
 |_=>first|rfl|cases h
def frame{h0 ha hb:az}(fk:Nat->Bool)(p1:0<h0.aw)(C:HB h0)(I:cr h0)(g0:ay aZ h0 ha)(j:ay aZ ha hb)(p:FSh (vL h0 ha hb fk p1 g0.aw) F)(c:fk f=true)(A:∀v∈args,ahH h0.aw v){V:Value}(y:okV V=true)(D:bc F f args ha (fun v _=>v=V)):bc F f args hb (fun v _=>v=V):=by obtain⟨n,v,h',E,rfl⟩:=D;obtain⟨v',o,q,G,_⟩:=aeY p c (adF C I g0 j) (Ab fun u s=>adX (A u s)) E;exact⟨n,v',o,q,ajY G y⟩
def bc.both{c o:Value->az->Prop}(a:bc F f args h c)(b:bc F f args h o):bc F f args h (fun v h'=>c v h'/\o v h'):=by obtain⟨n,v,h1,y,s⟩:=a;obtain⟨m,u,D,q,A⟩:=b;have j:=H6 (rK (Nat.le_max_left n m)) y;have p:=H6 (rK (Nat.le_max_right n m)) q;rw[j] at p;cases p;exact⟨_,v,h1,j,s,A⟩
def codeOk(F:Nat->Option cV)(S:Sf)(f:Nat):Bool:=match F f with
 |some fn=>(match fn.zQ with|.no=>true|_=>false)&&Le S fn.body
 |none=>true
def aik{S:Sf}(l:List Nat)(j:∀f,S.fk f=true->f∈l)(h:l.all (codeOk F S)=true):FSh S F:=by
 intro f fn o q;have:=List.all_eq_true.1 h f (j f o);unfold codeOk at this;rw[q] at this;dsimp only at this;rw[oD] at this;refine⟨?_,this.2⟩;cases c:fn.zQ with
 |no=>trivial
 |run p k=>rw[c] at this;cases this.1
 |Rv=>rw[c] at this;cases this.1
end Go.AI
namespace Go.AI
open Go.ChangeShapes Go.WideShapes
variable{a:Addr}{h:az}{k:Option Nat}{v:Value}{ρ:fJ}
inductive Ty where
 |bool
 |int (k:IntKind)
 |str
 |unit
 |pair (a b:Ty)
 |sl (e:Ty)
namespace Ty
def sz:Ty->Nat
 |.bool=>1
 |.int _=>1
 |.str=>1
 |.unit=>0
 |.pair a b=>a.sz+b.sz
 |.sl _=>1
def den:Ty->Type
 |.bool=>Bool
 |.int _=>Int
 |.str=>ByteArray
 |.unit=>Unit
 |.pair a b=>a.den×b.den
 |.sl e=>List e.den
def rep(e:Ty):Nat->Ty
 |0=>.unit
 |n+1=>.pair e (e.rep n)
end Ty
def aD{α:Type}(R:List Value->α->Prop)(sz:Nat)(h:az)(v:Value)(xs:List α):Prop:=
 ∃a c,v=.slice a xs.length c/\((xs=[]/\(a=none\/∃b off,a=some ⟨b,off,none⟩))\/∃b off cs j o s,a=some ⟨b,off,none⟩/\h.tr.get b=some (.bZ cs j o s)/\∀i x,xs[i]?=some x->((cs.drop (off+i*sz)).take sz).length=sz/\R ((cs.drop (off+i*sz)).take sz) x)
def rep:(T:Ty)->az->List Value->T.den->Prop
 |.bool,_,cs,b=>cs=[.bool b]
 |.int k,_,cs,n=>cs=[.int k n]
 |.str,_,cs,s=>cs=[.string s]
 |.unit,_,cs,_=>cs=[]
 |.pair a b,h,cs,(x,y)=>∃j c,cs=j++c/\rep a h j x/\rep b h c y
 |.sl e,h,cs,o=>∃v,cs=[v]/\aD (rep e h) e.sz h v o
def aD.mono{α:Type}{R q:List Value->α->Prop}{sz:Nat}{h h':az}{xs:List α}(s:aD R sz h v xs)(y:cr h)(g:ay aZ h h')(D:∀c x,R c x->q c x):aD q sz h' v xs:=by obtain⟨a,j,rfl,s⟩:=s;refine⟨a,j,rfl,?_⟩;rcases s with s|⟨b,off,cs,A,o,st,rfl,hb,p⟩;exact .inl s;exact .inr ⟨b,off,cs,A,o,st,rfl,g.get y hb,fun i x u=>⟨(p i x u).1,D _ _ (p i x u).2⟩⟩
def xz:∀ {T:Ty} {h h':az} {cs:List Value} {y:T.den},cr h->ay aZ h h'->rep T h cs y->rep T h' cs y
 |.bool,_,_,_,_,_,_,r=>r
 |.int _,_,_,_,_,_,_,r=>r
 |.str,_,_,_,_,_,_,r=>r
 |.unit,_,_,_,_,_,_,r=>r
 |.pair a b,_,_,_,(x,y),c,g,⟨u,o,e,q,j⟩=>⟨u,o,e,xz c g q,xz c g j⟩
 |.sl e,_,_,_,_,c,g,⟨v,p,s⟩=>⟨v,p,s.mono c g fun _ _ r=>xz c g r⟩
def Hw:∀ {T:Ty} {h:az} {cs:List Value} {y:T.den},rep T h cs y->cs.length=T.sz
 |.bool,_,_,_,r=>by rw[show _=[_] from r];rfl
 |.int _,_,_,_,r=>by rw[show _=[_] from r];rfl
 |.str,_,_,_,r=>by rw[show _=[_] from r];rfl
 |.unit,_,_,_,r=>by rw[show _=[] from r];rfl
 |.pair a b,_,_,(x,y),⟨q,p,e,o,c⟩=>by rw[e,LV,Hw o,Hw c];rfl
 |.sl e,_,_,_,⟨v,j,_⟩=>by rw[j];rfl
def Bd(k:Option Nat):(T:Ty)->T.den->Prop
 |.bool,_=>True
 |.int _,_=>True
 |.str,_=>True
 |.unit,_=>True
 |.pair a b,(x,y)=>Bd k a x/\Bd k b y
 |.sl e,(xs:List e.den)=>(∀K,k=some K->xs.length<=K)/\∀x∈xs,Bd k e x
section
variable(P:Program)
def mu(f:TypeId->Option Ty):Nat->List Field->Option (Ty×Nat)
 |off,[]=>some (.unit,off)
 |off,x::c=>bif Nat.beq x.offset off then match f x.type with
   |none=>none
   |some a=>bif Nat.beq a.sz (P.cellsOf x.type) then match mu f (off+a.sz) c with
     |some (b,n)=>some (.pair a b,n)
     |none=>none
    else none
  else none
def tyOf:Nat->TypeId->Option Ty
 |0,_=>none
 |d+1,t=>match P.underlying t with
  |some .bool=>some .bool
  |some (.int k)=>some (.int k)
  |some .string=>some .str
  |some (.slice e)=>match tyOf d e with
   |some a=>bif Nat.blt 0 (P.bytesOf e)&&(Nat.beq a.sz (P.cellsOf e)&&Nat.blt 0 a.sz) then some (.sl a) else none
   |none=>none
  |some (.struct fs)=>match mu P (tyOf d) 0 fs.toList with
   |some (a,n)=>bif Nat.beq n (P.cellsOf t) then some a else none
   |none=>none
  |some (.array n e)=>match tyOf d e with
   |some a=>bif Nat.beq a.sz (P.cellsOf e)&&Nat.beq (n*a.sz) (P.cellsOf t) then some (a.rep n) else none
   |none=>none
  |_=>none
end
def xP{a b:Nat}(h:Nat.beq a b=true):a=b:=rz h
def KG(h:du v=true):Rm v=true:=by unfold du at h;split at h<;>first|rfl|cases h
structure BT(CC:dx)(ρ:fJ)(h:az)(w:World):Prop where
 ok:cr h
 ro:∀b,¬fI h b
 S8:eM CC ρ h w
 cl:HB h
section
variable{H:Type}{enc:TypeId×Value->H}{P:Program}{w:World}{held:Bool}{CC:dx}
def BT.add(L:BT CC ρ h w){bZ p:Nat}{acs:List Value}{D:Array Value}{el:TypeId}{Z:Nat×Nat}(hb:w.heap[bZ]?=some (.cells D el Z))(agZ:p<=D.size)(hk:∀(j:Nat)(v:Value),acs[j]?=some v->∃c,D[p+j]?=some c/\KR ρ v c)(Gj:∀v∈acs,mI h.aw v):∃y,ρ.le y/\y h.aw=some ⟨bZ,p,acs.length,0,D.size-p⟩/\BT CC y (h.new (.bZ acs true 0 0)) w/\ay aZ h (h.new (.bZ acs true 0 0)):=by
 have Mf:ρ h.aw=none:=by
  cases u:ρ h.aw with
  |none=>rfl
  |some r=>exact absurd (L.S8.low _ _ u).1 ab
 let y:fJ:=fun b=>if b=h.aw then some ⟨bZ,p,acs.length,0,D.size-p⟩ else ρ b
 have G:ρ.le y:=by intro b r u;show(if b=h.aw then _ else ρ b)=some r;rw[bU (by rintro rfl;rw[Mf] at u;cases u)];exact u
 have Y:y h.aw=some ⟨bZ,p,acs.length,0,D.size-p⟩:=by show(if h.aw=h.aw then _ else _)=_;rw[bM rfl]
 have I:∀b,(h.new (.bZ acs true 0 0)).tr.get b=if b=h.aw then some (.bZ acs true 0 0) else h.tr.get b:=by intro b;simp[az.new,Tr.bN]
 have V:cr (h.new (.bZ acs true 0 0)):=by
  refine⟨fun b o hb=>?_,fun b cs M o s hb=>?_⟩
  .rw[I] at hb;show b<h.aw+1;split at hb
   omega;exact Nat.lt_succ_of_lt (L.ok.wf b o hb)
  rw[I] at hb;split at hb;cases hb;exact Nat.zero_le _;exact L.ok.st b cs M o s hb
 have IF:∀b,¬fI (h.new (.bZ acs true 0 0)) b:=by rintro b⟨o,q,u⟩;rw[I] at q;split at q;cases q;cases u;exact L.ro b ⟨o,q,u⟩
 have Q:ay aZ h (h.new (.bZ acs true 0 0)):=by refine⟨Nat.le_succ _,fh _,fun b hb _=>?_,V⟩;rw[I,bU ab]
 refine⟨y,G,Y,⟨V,IF,⟨fun b r u=>?_,fun b r o u q=>?_,fun b b' r r' o _ _ hw=>absurd hw (IF b),fun b o q=>V.wf b o q⟩,fun b o q=>?_⟩,Q⟩
 .by_cases e:b=h.aw;rw[e] at u;rw[Y] at u;cases u;exact⟨by rw[e];exact Nat.lt_succ_self _,(Array.getElem?_eq_some_iff.mp hb).1⟩
  .have K:ρ b=some r:=by
    have:y b=ρ b:=by show(if b=h.aw then _ else ρ b)=_;rw[bU e]
    rw[<-this];exact u
   exact⟨Nat.lt_succ_of_lt (L.S8.low _ _ K).1,(L.S8.low _ _ K).2⟩
 .rw[I] at q;by_cases e:b=h.aw;rw[bM e] at q;cases q;rw[e,Y] at u;cases u;exact⟨D,el,Z,hb,rfl,rfl,⟨by dsimp only;omega,fun h=>absurd rfl h⟩,(fun h=>by cases h),fun j v E=>by obtain⟨c,J,A⟩:=hk j v E;exact⟨c,J,A.mono G⟩⟩
  .rw[bU e] at q;have K:ρ b=some r:=by
    have:y b=ρ b:=by show(if b=h.aw then _ else ρ b)=_;rw[bU e]
    rw[<-this];exact u
   have U:=L.S8.obj b r o K q;cases o with
   |bZ cs M op st=>
    obtain⟨c2,O,N,h1,h2,h3,h4,h5,h6⟩:=U;exact⟨c2,O,N,h1,h2,h3,h4,h5,fun j v E=>by obtain⟨c,J,A⟩:=h6 j v E;exact⟨c,J,A.mono G⟩⟩
   |loop=>exact absurd ⟨_,q,rfl⟩ (L.ro b)
   |itr=>exact absurd ⟨_,q,rfl⟩ (L.ro b)
   |map=>exact absurd ⟨_,q,rfl⟩ (L.ro b)
 rw[I] at q;by_cases e:b=h.aw;rw[bM e] at q;cases q;exact⟨_,_,_,_,rfl,fun v E=>(Gj v E).mono (Nat.le_succ _)⟩;rw[bU e] at q;obtain⟨cs,M,op,s,rfl,J⟩:=L.cl b o q;exact⟨_,_,_,_,rfl,fun v E=>(J v E).mono (Nat.le_succ _)⟩
def Laid(k:Option Nat)(CC:dx)(w:World)(T:Ty)(ρ:fJ)(h:az)(cs:List Value):Prop:=
 ∃j h' c y,ρ.le j/\ay aZ h h'/\BT CC j h' w/\All2 (KR j) c cs/\rep T h' c y/\Bd k T y/\∀v∈c,mI h'.aw v
def WB(k:Option Nat)(P:Program)(t:TypeId)(d:DataW H):Prop:=∀K,k=some K->∀n∈d.weights P t,n<=K
def VC{k:Option Nat}{P:Program}{e:TypeId}{K:Nat}(o:k=some K):∀ {l:List (DataW H)},(∀n∈DataW.weightsAll P e l,n<=K)->∀ {i:Nat} {d:DataW H},l[i]?=some d->WB k P e d
 |[],_,_,_,c=>by simp at c
 |x::l,h,i,d,c=>by
  rw[DataW.weightsAll] at h;cases i with
  |zero=>
   simp at c;subst c;intro q p n j;rw[o] at p;cases p;exact h n (List.mem_append_left _ j)
  |succ i=>exact VC o (fun n j=>h n (List.mem_append_right _ j)) (aj c)
def Xa{P:Program}{K:Nat} :∀ {ts:List TypeId} {l:List (DataW H)},(∀n∈DataW.weightsEach P ts l,n<=K)->∀ {i:Nat} {t:TypeId} {d:DataW H},ts[i]?=some t->l[i]?=some d->∀n∈d.weights P t,n<=K
 |[],_,_,_,_,_,j,_=>by simp at j
 |_::_,[],_,_,_,_,_,c=>by simp at c
 |u::ts,x::l,h,i,t,d,j,c=>by
  rw[DataW.weightsEach] at h;cases i with
  |zero=>
   simp at c j;subst c j;exact fun n o=>h n (List.mem_append_left _ o)
  |succ i=>exact Xa (fun n o=>h n (List.mem_append_right _ o)) (aj j) (aj c)
def Mn{a b:Ty}{o p:List Value}(h1:Laid k CC w a ρ h o)(G:∀j h',BT CC j h' w->Laid k CC w b j h' p):Laid k CC w (.pair a b) ρ h (o++p):=by obtain⟨M,V,q,K,l1,Q,y,A,I,D,O⟩:=h1;obtain⟨J,E,s,y2,u,c,L2,Z,Y,U,N⟩:=G M V y;exact⟨J,E,q++s,(K,y2),fJ.le_trans l1 u,Q.trans c,L2,(A.mono fun _ _ h=>h.mono u).app Z,⟨q,s,rfl,xz y.ok c I,Y⟩,⟨D,U⟩,fun v hv=>by rcases jS.1 hv with h|h;exact(O v h).mono c.aw;exact N v h⟩
def Q4{k:Option Nat}{e:Ty} :∀ {css:List (List Value)} {ρ:fJ} {h:az},BT CC ρ h w->(∀cs∈css,∀j h',BT CC j h' w->Laid k CC w e j h' cs)->∃j h' s A,ρ.le j/\ay aZ h h'/\BT CC j h' w/\All2 (All2 (KR j)) s css/\All2 (rep e h') s A/\(∀y∈A,Bd k e y)/\∀p∈s,∀v∈p,mI h'.aw v
 |[],ρ,h,L,_=>⟨ρ,h,[],[],ρ.le_refl,.refl L.ok,L,.nil,.nil,fun y o=>(by cases o),fun p h=>(by cases h)⟩
 |cs::css,ρ,h,L,H=>by
  obtain⟨ρ1,m1,a1,O,l1,V,G,I,M,J,U⟩:=H cs (h_ ..) ρ h L;obtain⟨N,K,a2,y2,E,q,L2,k2,Z,Y,Q⟩:=Q4 G (fun c hc=>H c (uQ _ hc));exact⟨N,K,a1::a2,O::y2,fJ.le_trans l1 E,V.trans q,L2,.cons (I.mono fun _ _ h=>h.mono E) k2,.cons (xz G.ok q M) Z,fun y o=>by
   rcases List.mem_cons.1 o with rfl|o;exact J;exact Y y o,fun p u v D=>by
   rcases List.mem_cons.1 u with rfl|h;exact(U v D).mono q.aw;exact Q p h v D⟩
def Lw{α β:Type}{R:α->β->Prop} :∀ {l:List (List α)} {m:List (List β)},All2 (All2 R) l m->All2 R l.flatten m.flatten
 |_,_,.nil=>.nil
 |_,_,.cons h c=>aj (h.app (Lw c))
def vu{α:Type}{sz:Nat} :∀ {l:List (List α)} {i:Nat} {c:List α},(∀c∈l,c.length=sz)->l[i]?=some c->(l.flatten.drop (i*sz)).take sz=c
 |[],i,c,_,h=>by simp at h
 |x::l,0,c,j,h=>by cases h;have:=j x (h_ ..);simp[List.take_append,this]
 |x::l,i+1,c,j,h=>by
  have o:=j x (h_ ..);have h':l[i]?=some c:=aj h
  rw[List.flatten_cons,List.drop_append,XH (by rw[o,uP];omega),List.nil_append,o,show(i+1)*sz-sz=i*sz by rw[uP];omega];exact vu (fun c p=>j c (uQ _ p)) h'
def Qv{α:Type}{sz:Nat}(s:0<sz):∀ {l:List (List α)} {j:Nat} {c:α},(∀c∈l,c.length=sz)->l.flatten[j]?=some c->∃x,l[j/sz]?=some x/\x[j%sz]?=some c
 |[],j,c,_,h=>by simp at h
 |x::l,j,c,q,h=>by have A:=q x (h_ ..);rw[List.flatten_cons] at h;by_cases p:j<sz;rw[Iw ab] at h;exact⟨x,by rw[Nat.div_eq_of_lt p];rfl,by rw[Nat.mod_eq_of_lt p];exact h⟩;rw[Ke ab,A] at h;obtain⟨y,u,o⟩:=Qv s (fun c o=>q c (uQ _ o)) h;refine⟨y,?_,?_⟩;rw[Nat.div_eq j sz,bM ⟨s,ab⟩];simpa using u;rw[Nat.mod_eq_sub_mod ab];exact o
def Q8{α β:Type}{f:α->Option β} :∀ {l:List α} {r:List β},l.mapM f=some r->r.length=l.length/\∀(i:Nat)(a:α)(b:β),l[i]?=some a->r[i]?=some b->f a=some b
 |[],r,h=>by simp at h;subst h;simp
 |a::l,r,h=>by
  rw[List.mapM_cons] at h;simp only[Option.bind_eq_bind,Ev,Option.pure_def,mL] at h;obtain⟨b,hb,q,c,rfl⟩:=h;obtain⟨h1,p⟩:=Q8 c;refine⟨au h1,fun i x y o j=>?_⟩;cases i with
  |zero=>simp at o j;subst o;subst j;exact hb
  |succ i=>exact p i x y (aj o) (aj j)
def EO{n:Nat}{cs:List Value}(h:w.cells? 0 a n=some cs):cs.length=n/\∀k c,cs[k]?=some c->w.cell? (a.add k)=some c:=by unfold World.cells? at h;rw[bM (Nat.zero_le _)] at h;obtain⟨h1,o⟩:=Q8 h;simp at h1;refine⟨h1,fun k c j=>?_⟩;have p:=(di.mp j).1;exact o k k c (by rw[List.getElem?_range ab]) j
def Wa(h:w.cell? a=some v):a.spot=none/\∃c el o,w.heap[a.block]?=some (.cells c el o)/\c[a.off]?=some v:=by unfold World.cell? at h;split at h;rename_i c el o q;split at h;cases h;rename_i p;exact⟨by cases j:a.spot with|none=>rfl|some _=>rw[j] at p;simp at p,c,el,o,q,h⟩;cases h
def Gc{α:Type}{R:Nat->α->Prop} :∀ {n:Nat},(∀i,i<n->∃x,R i x)->∃l:List α,l.length=n/\∀i x,l[i]?=some x->R i x
 |0,_=>⟨[],rfl,ae⟩
 |n+1,h=>by
  obtain⟨l,j,o⟩:=Gc (n:=n) fun i s=>h i ab;obtain⟨x,p⟩:=h n ab;refine⟨l++[x],au j,fun i y c=>?_⟩;by_cases e:i<n;rw[Iw ab] at c;exact o i y c
  .have q:=(di.mp c).1;simp[j] at q;have:i=n:=ab
   subst this;rw[Ke ab,j,Nat.sub_self] at c;cases c;exact p
def GK{f:TypeId->Option Ty} :∀ {c:List Field} {off n:Nat} {T:Ty},mu P f off c=some (T,n)->off<=n
 |[],off,n,T,h=>by simp[mu] at h;omega
 |x::c,off,n,T,h=>by
  unfold mu at h;cases hb:Nat.beq x.offset off with
  |false=>rw[hb] at h;cases h
  |true=>
   rw[hb] at h;simp only[kA] at h;cases ha:f x.type with
   |none=>rw[ha] at h;cases h
   |some a=>
    rw[ha] at h;dsimp only at h;cases o:Nat.beq a.sz (P.cellsOf x.type) with
    |false=>rw[o] at h;cases h
    |true=>
     rw[o] at h;simp only[kA] at h;cases j:mu P f (off+a.sz) c with
     |none=>rw[j] at h;cases h
     |some q=>
      obtain⟨b,m⟩:=q;rw[j] at h;cases h;have:=GK j;omega
def Lv(a:Addr)(n:Nat):(a.add n).block=a.block:=by unfold Addr.add;split<;>rfl
def VV(a:Addr)(n:Nat):(a.add n).off=a.off+n:=by unfold Addr.add;split;rename_i h;rw[h];rfl;rfl
def Mo(L:BT CC ρ h w):Laid k CC w .unit ρ h []:=⟨ρ,h,[],(),ρ.le_refl,.refl L.ok,L,.nil,rfl,trivial,fun v c=>(by cases c)⟩
def Oo{k:Option Nat} :∀ {d:Nat} {t:TypeId} {T:Ty},tyOf P d t=some T->∀ {n:Nat} {cs:List Value} {x:DataW H×List MemPlace} {ρ:fJ} {h:az},DataW.trod enc P w 0 (fun _=>true) held n t cs=some x->WB k P t x.1->BT CC ρ h w->(∃(k:Nat) (fK:Array Value) (el:TypeId) (fr:Nat×Nat),w.heap[k]?=some (.cells fK el fr))->Laid k CC w T ρ h cs:=by
 intro d;induction d with
 |zero=>intro t T u;simp[tyOf] at u
 |succ d ih=>
  intro t T u n cs x ρ h hx hW L eQ;unfold tyOf at u;split at u;rename_i I;cases u;obtain⟨b,rfl,_⟩:=DataW.trod_bool I hx;exact⟨ρ,h,[.bool b],b,ρ.le_refl,.refl L.ok,L,.cons (.cell (.bool b)) .nil,rfl,trivial,fun v D=>by rw[List.mem_singleton.1 D];exact .inl rfl⟩;rename_i ki I;cases u;obtain⟨m,rfl,_⟩:=DataW.trod_int I hx;exact⟨ρ,h,[.int ki m],m,ρ.le_refl,.refl L.ok,L,.cons (.cell (.int ki m)) .nil,rfl,trivial,fun v D=>by rw[List.mem_singleton.1 D];exact .inl rfl⟩;rename_i I;cases u;obtain⟨s,rfl,_⟩:=DataW.trod_string I hx;exact⟨ρ,h,[.string s],s,ρ.le_refl,.refl L.ok,L,.cons (.cell (.str s)) .nil,rfl,trivial,fun v D=>by rw[List.mem_singleton.1 D];exact .inl rfl⟩
  .rename_i e I;split at u
   .rename_i a ha;cases hb:(Nat.blt 0 (P.bytesOf e)&&(Nat.beq a.sz (P.cellsOf e)&&Nat.blt 0 a.sz)) with
    |false=>rw[hb] at u;cases u
    |true=>
     rw[hb] at u;cases u;simp only[oD] at hb;have yW:0<P.bytesOf e:=by simpa [Nat.blt_eq] using hb.1
     have vy:=xP hb.2.1;have Uj:0<a.sz:=by simpa [Nat.blt_eq] using hb.2.2
     rcases DataW.trod_slice I hx with⟨rfl,_⟩|⟨G,len,V,p,cj,m,rfl,rfl,N,_,Wq,_,lh,he,Y,_⟩;exact⟨ρ,h,[.slice none 0 0],[],ρ.le_refl,.refl L.ok,L,.cons (.cell (.fW 0 0)) .nil,⟨_,rfl,none,0,rfl,.inl ⟨rfl,.inl rfl⟩⟩,⟨fun _ _=>Nat.zero_le _,fun y o=>by cases o⟩,fun v D=>by rw[List.mem_singleton.1 D];exact .inl rfl⟩
     .obtain⟨yb,Y⟩:=Y rfl;rw[<-vy] at he Y;have hWs:∀K,k=some K->len<=K/\∀n∈DataW.weightsAll P e (p.map (·.1)),n<=K:=by
       intro K M;have U:∀n∈DataW.weights P t (.slice (p.map (·.1)) (cj.map (·.1))),n<=K:=by have:=hW K M;rw[N] at this;exact this
       rw[DataW.weights,I] at U;simp only[KM,List.mem_cons,jS] at U;have h1:=U _ (.inl rfl);refine⟨?_,fun n hn=>U n (.inr (.inl hn))⟩;have h2:(p.length+cj.length)*1<=(p.length+cj.length)*P.bytesOf e:=Nat.mul_le_mul_left _ yW;omega
      have hWe:∀i,i<len->∀y,p[i]?=some y->WB k P e y.1:=by intro i _ y o K M;exact VC M (hWs K M).2 (i:=i) (d:=y.1) (au o) K M
      have one:∀i,i<V->∃Q y,w.cells? 0 (G.add (i*a.sz)) a.sz=some Q/\DataW.trod enc P w 0 (fun _=>true) held m e Q=some y/\(i<len->WB k P e y.1):=by
       intro i O;have o:∃y,(w.cells? 0 (G.add (i*a.sz)) a.sz).bind (DataW.trod enc P w 0 (fun _=>true) held m e)=some y/\(i<len->WB k P e y.1):=by by_cases gh:i<len;have h1:=he i gh;obtain⟨y,o⟩:=aV p i;rw[o] at h1;exact⟨_,h1,fun hl=>hWe i hl y o⟩;have h1:=Y (i-len) ab;rw[show len+(i-len)=i by omega,g_ ab] at h1;exact⟨_,h1,fun hl=>absurd hl gh⟩
       obtain⟨y,o,E⟩:=o;rw[Ev] at o;obtain⟨Q,J,o⟩:=o;exact⟨Q,y,J,o,E⟩
      by_cases Gi:V=0
      .subst Gi;have QF:len=0:=ab
       subst QF;obtain⟨kb,fK,el,fr,hk⟩:=eQ;obtain⟨ρ',hle,IJ,L',g⟩:=L.add (acs:=[]) hk (Nat.zero_le _) (fun j v D=>by simp at D) (fun v D=>by cases D);exact⟨ρ',_,[.slice (some ⟨h.aw,0,none⟩) 0 0],[],hle,g,L',.cons (.cell (.slice IJ ⟨.inr ⟨rfl,rfl⟩,.inl rfl,fh _⟩)) .nil,⟨_,rfl,_,0,rfl,.inl ⟨rfl,.inr ⟨_,_,rfl⟩⟩⟩,⟨fun _ _=>Nat.zero_le _,fun y o=>by cases o⟩,fun v D=>by rw[List.mem_singleton.1 D];exact .inr (.inr ⟨_,_,_,_,rfl,Nat.lt_succ_self _⟩)⟩
      .obtain⟨c0,y0,au2,_⟩:=one 0 ab;obtain⟨QF,hg0⟩:=EO au2;have abT:=hg0 0 (c0[0]'ab) (g_ ab);have anV:(G.add (0*a.sz)).add 0=G:=by simp[Addr.add]
       rw[anV] at abT;obtain⟨hsp,fK,el,fr,Z,E6⟩:=Wa abT;have agZ:G.off<=fK.size:=Nat.le_of_lt (Array.getElem?_eq_some_iff.mp E6).1;have had:G=⟨G.block,G.off,none⟩:=by cases G;simp at hsp;simp[hsp]
       obtain⟨css,Gj,Hn⟩:=Gc (n:=len) (R:=fun i Q=>w.cells? 0 (G.add (i*a.sz)) a.sz=some Q/\∃y,DataW.trod enc P w 0 (fun _=>true) held m e Q=some y/\WB k P e y.1) (fun i O=>by obtain⟨Q,y,h1,h2,h3⟩:=one i ab;exact⟨Q,h1,y,h2,h3 O⟩);have dJ:∀c∈css,c.length=a.sz:=by intro c J;obtain⟨i,O,rfl⟩:=List.mem_iff_getElem.mp J;exact(EO (Hn i _ (g_ O)).1).1
       obtain⟨ρ1,m1,PH,ys,l1,g1,L1,k1,r1,b1,o1⟩:=Q4 (k:=k) (e:=a) L (css:=css) (fun c J ρ' h' L'=>by obtain⟨i,O,rfl⟩:=List.mem_iff_getElem.mp J;obtain⟨_,y,o,E⟩:=Hn i _ (g_ O);exact ih ha o E L' eQ);have Wm:=Lw k1;obtain⟨ρ2,l2,IJ,L2,g2⟩:=L1.add (acs:=PH.flatten) Z agZ (fun j v D=>by
        obtain⟨c,J,hkr⟩:=Wm.get D;obtain⟨Q,hci,hck⟩:=Qv Uj dJ J;have an4:=(EO (Hn _ _ hci).1).2 _ _ hck;obtain⟨_,ccs2,el2,fr2,pz,aog⟩:=Wa an4;have anY:((G.add (j/a.sz*a.sz)).add (j%a.sz)).block=G.block:=by rw[Lv,Lv]
        have aot:((G.add (j/a.sz*a.sz)).add (j%a.sz)).off=G.off+(j/a.sz*a.sz)+j%a.sz:=by rw[VV,VV]
        rw[anY,Z] at pz;cases pz;refine⟨c,?_,hkr⟩;rw[aot,EV,Nat.mul_comm,Nat.div_add_mod] at aog;exact aog) (fun v D=>by
        obtain⟨as_,has,hva⟩:=List.mem_flatten.1 D;exact o1 as_ has v hva)
       have yU:ys.length=len:=by rw[<-r1.length,k1.length,Gj]
       refine⟨ρ2,_,[.slice (some ⟨m1.aw,0,none⟩) len V],ys,fJ.le_trans l1 l2,g1.trans g2,L2,.cons (.cell (.slice IJ ⟨.inl had,.inl rfl,Wq⟩)) .nil,⟨_,rfl,_,V,by rw[yU],.inr ⟨m1.aw,0,PH.flatten,true,0,0,rfl,by simp[az.new,Tr.bN],fun i y o=>?_⟩⟩,⟨fun K M=>by rw[yU];exact(hWs K M).1,b1⟩,fun v D=>by rw[List.mem_singleton.1 D];exact .inr (.inr ⟨_,_,_,_,rfl,Nat.lt_succ_self _⟩)⟩;have gh:=(di.mp o).1;have hai:i<PH.length:=by rw[r1.length];exact gh
       obtain⟨y',Km,aoC⟩:=r1.get (g_ hai);rw[o] at Km;cases Km;have x5:∀c∈PH,c.length=a.sz:=by intro c J;obtain⟨i,O,rfl⟩:=List.mem_iff_getElem.mp J;obtain⟨y,_,hrp⟩:=r1.get (g_ O);exact Hw hrp
       have Kg:=vu x5 (g_ hai);rw[Hj,Kg];exact⟨Hw aoC,xz L1.ok g2 aoC⟩
   cases u
  .rename_i fs I;split at u
   .rename_i a m A;cases hb:Nat.beq m (P.cellsOf t) with
    |false=>rw[hb] at u;cases u
    |true=>
     rw[hb] at u;cases u;obtain⟨xs,kf,rfl,N,Gj,xG,BI⟩:=DataW.trod_struct I hx;have key:∀(fl:List Field)(off m:Nat)(T:Ty)(ρ:fJ)(h:az),(∀f∈fl,∃y,DataW.trod enc P w 0 (fun _=>true) held kf f.type ((cs.drop f.offset).take (P.cellsOf f.type))=some y/\WB k P f.type y.1)->mu P (tyOf P d) off fl=some (T,m)->m<=cs.length->BT CC ρ h w->Laid k CC w T ρ h ((cs.drop off).take (m-off)):=by
      intro fl;induction fl with
      |nil=>
       intro off m T ρ h _ A _ L;simp only[mu,mL,Aj] at A;obtain⟨rfl,rfl⟩:=A;rw[Nat.sub_self,List.take_zero];exact Mo L
      |cons f fl ihf=>
       intro off m T ρ h o A hm L;unfold mu at A;cases hb:Nat.beq f.offset off with
       |false=>rw[hb] at A;cases A
       |true=>
        rw[hb] at A;simp only[kA] at A;have ajd:=xP hb;cases ha:tyOf P d f.type with
        |none=>rw[ha] at A;cases A
        |some a=>
         rw[ha] at A;dsimp only at A;cases J:Nat.beq a.sz (P.cellsOf f.type) with
         |false=>rw[J] at A;cases A
         |true=>
          rw[J] at A;simp only[kA] at A;have vy:=xP J;cases Y:mu P (tyOf P d) (off+a.sz) fl with
          |none=>rw[Y] at A;cases A
          |some q=>
           obtain⟨b,m'⟩:=q;rw[Y] at A;cases A;have hle:=GK Y;obtain⟨y,yT,E⟩:=o f (h_ ..);rw[ajd,<-vy] at yT;have u6:(cs.drop off).take (m-off)=(cs.drop off).take a.sz++(cs.drop (off+a.sz)).take (m-(off+a.sz)):=by rw[<-List.drop_drop,show m-off=a.sz+(m-(off+a.sz)) by omega,List.take_add]
           rw[u6];exact Mn (ih ha yT E L eQ) fun ρ' h' L'=>ihf _ _ _ _ _ (fun g hg=>o g (uQ _ hg)) Y hm L'
     have:=key fs.toList 0 m T ρ h (fun f A=>by
      obtain⟨i,O,rfl⟩:=List.mem_iff_getElem.mp A;have h1:=BI i (fs.toList[i]) ae;obtain⟨y,o⟩:=aV xs i (by rw[xG];simpa using O);rw[o] at h1;refine⟨_,h1,fun K M=>?_⟩;have U:∀n∈DataW.weights P t (.agg (xs.map (·.1))),n<=K:=by have:=hW K M;rw[N] at this;exact this
      rw[DataW.weights,I] at U;exact Xa U (i:=i) (by simp;exact⟨_,Array.getElem?_eq_getElem (aj O),ae⟩) (au o)) A (by rw[Gj,xP hb];exact fh _) L
     rw[xP hb,<-Gj] at this;simpa using this
   cases u
  .rename_i m e I;split at u
   .rename_i a ha;cases hb:(Nat.beq a.sz (P.cellsOf e)&&Nat.beq (m*a.sz) (P.cellsOf t)) with
    |false=>rw[hb] at u;cases u
    |true=>
     rw[hb] at u;cases u;simp only[oD] at hb;have vy:=xP hb.1;have awk:=xP hb.2;obtain⟨xs,kf,rfl,N,Gj,xG,BI⟩:=DataW.trod_array I hx;rw[<-vy] at BI;have key:∀(q off:Nat)(ρ:fJ)(h:az),off+q=m->BT CC ρ h w->Laid k CC w (a.rep q) ρ h (cs.drop (off*a.sz)):=by
      intro q;induction q with
      |zero=>
       intro off ρ h hoq L;rw[XH (by rw[Gj,<-awk];exact CX _ ab)];exact Mo L
      |succ q ihq=>
       intro off ρ h hoq L;have h1:=BI off ab;obtain⟨y,o⟩:=aV xs off;rw[o] at h1;have E:WB k P e y.1:=by
        intro K M;have U:∀n∈DataW.weights P t (.agg (xs.map (·.1))),n<=K:=by have:=hW K M;rw[N] at this;exact this
        rw[DataW.weights,I] at U;exact VC M U (i:=off) (au o) K M
       have u6:cs.drop (off*a.sz)=(cs.drop (off*a.sz)).take a.sz++cs.drop ((off+1)*a.sz):=by rw[uP,Nat.one_mul,<-List.drop_drop,List.take_append_drop]
       rw[u6];exact Mn (ih ha h1 E L eQ) fun ρ' h' L'=>ihq (off+1) ρ' h' ab L'
     have:=key m 0 ρ h ab L;simpa using this
   cases u
  cases u
end
end Go.AI
namespace Go.AI
variable{b:Bool}{op:jQ}{t:Nat}
section
variable{F:Nat->Option cV}{R:Env->az->Prop}{e:Env}{h:az}{l:List bX}{d:Option Nat}{k:Nat}{m:List (bX×List Nat)}{nZ:List Nat}
def MD{R:Env->az->Prop}(p:bH e t=.tuple #[]):Da F ⟨d,some (t,b),op⟩ e h R↔R (gy e d (.tuple #[])) h:=by
 have o:wanted e (some (t,b))=false:=by simp[wanted,p]
 have key:∀n,dM F (run F n) ⟨d,some (t,b),op⟩ e h=some (gy e d (.tuple #[]),h):=by intro n;unfold dM;dsimp only;rw[o];rfl
 constructor;rintro⟨n,e',h',j,c⟩;rw[key] at j;cases j;exact c;intro c;exact⟨0,_,_,key 0,c⟩
@[simp ↓] def aAO(c:bH e t=.tuple #[]):bm F (⟨d,some (t,b),op⟩::l) e h R↔bm F l (gy e d (.tuple #[])) h R:=by rw[tu,MD c]
@[simp ↓] def axz(c:bH e t=.tuple #[]):cu F k ((⟨d,some (t,b),op⟩,nZ)::m) e h R↔(still (gy e d (.tuple #[])) h k nZ=true/\cu F k m (gy e d (.tuple #[])) h R):=by rw[pP,MD c]
end
end Go.AI
namespace Go.AI
open Go.ChangeShapes Go.WideShapes Go.ChangeAt
def J2(agg:Bool)(acs:List Value):Value:=bif agg then .agg ⟨acs⟩ else acs.headD (.tuple #[])
def aggT(P:Program)(t:TypeId):Bool:=match P.underlying t with
 |some (.struct _)=>true
 |some (.array _ _)=>true
 |_=>false
section
variable{H:Type}{enc:TypeId×Value->H}{P:Program}{w:World}{held:Bool}{CC:dx}
def LaidV(k:Option Nat)(CC:dx)(w:World)(agg:Bool)(T:Ty)(ρ:fJ)(h:az)(v:Value):Prop:=
 ∃j h' c y,ρ.le j/\ay aZ h h'/\BT CC j h' w/\VR j (J2 agg c) v/\rep T h' c y/\Bd k T y/\∀v∈c,mI h'.aw v
def laidV_of{k:Option Nat}{d:Nat}{t:TypeId}{T:Ty}{p:Nat}{v:Value}{E:DataW H}{ps:List MemPlace}{ρ:fJ}{h:az}(q:tyOf P d t=some T)(j:Value.okWide P w .any p t v)(A:DataW.Trod enc P w 0 (fun _=>true) held t v E ps)(J:WB k P t E)(L:BT CC ρ h w)(I:∃(k:Nat) (O:Array Value) (el:TypeId) (N:Nat×Nat),w.heap[k]?=some (.cells O el N)):LaidV k CC w (aggT P t) T ρ h v:=by
 obtain⟨n,A⟩:=A;obtain⟨D,h',o,y,l,g,G,s,r⟩:=Oo q A J L I;refine⟨D,h',o,y,l,g,G,?_,r⟩;unfold J2;have u:aggT P t=false->(∀cs,v≠ .agg cs)->VR D (bif aggT P t then .agg ⟨o⟩ else o.headD (.tuple #[])) v:=by
  intro ha U;have V:v.cells.toList=[v]:=by cases v<;>first|rfl|exact absurd rfl (U _)
  rw[V] at s;rw[ha];cases s with
  |cons K Z=>exact K.vr
 cases d with
 |zero=>simp[tyOf] at q
 |succ d=>
  unfold tyOf at q;split at q;rename_i c;obtain⟨b,rfl⟩:=okWide_bool c j;exact u (by simp[aggT,c]) (fun _ e=>by cases e);rename_i Y c;obtain⟨b,rfl⟩:=okWide_int c j;exact u (by simp[aggT,c]) (fun _ e=>by cases e);rename_i c;obtain⟨b,rfl⟩:=okWide_string c j;exact u (by simp[aggT,c]) (fun _ e=>by cases e);rename_i e c;obtain⟨a,len,M,rfl⟩:=okWide_slice c j;exact u (by simp[aggT,c]) (fun _ e=>by cases e)
  .rename_i fs c;simp only[Value.okWide,c] at j;obtain⟨cs,rfl,_⟩:=j;have ha:aggT P t=true:=by simp[aggT,c]
   rw[ha];obtain⟨Q⟩:=cs;exact .val (.agg s)
  .rename_i m e c;simp only[Value.okWide,c] at j;obtain⟨cs,rfl,_⟩:=j;have ha:aggT P t=true:=by simp[aggT,c]
   rw[ha];obtain⟨Q⟩:=cs;exact .val (.agg s)
  cases q
def lain_heap1{cs:List Value}(G:∀v∈cs,du v=true){w:World}(p:∃el A,w.heap[0]?=some (.cells ⟨cs⟩ el A)):BT CC (fun b=>if b=0 then some ⟨0,0,cs.length,0,cs.length⟩ else none) (L8 cs) w:=by
 obtain⟨el,A,p⟩:=p;have q:∀b o,(L8 cs).tr.get b=some o->b=0/\o=.bZ cs true 0 0:=by
  intro b o h;cases b with
  |zero=>simp only[L8,Tr.get,mL] at h;exact⟨rfl,h.symm⟩
  |succ b=>
   simp only[L8,Tr.get] at h;cases hb:Nat.beq (b%2) 0<;>rw[hb] at h<;>simp at h
 have E:∀b,¬fI (L8 cs) b:=by rintro b⟨o,y,D⟩;rw[(q b o y).2] at D;cases D
 refine⟨⟨fun b o h=>?_,fun b c J o s h=>?_⟩,E,⟨fun b r h=>?_,fun b r o h y=>?_,fun b K r I o _ _ p=>absurd p (E b),fun b o h=>?_⟩,fun b o h=>?_⟩;rw[(q b o h).1];exact Nat.zero_lt_one;have:=(q b _ h).2;cases this;exact fh _
 by_cases e:b=0;simp only[e,if_true,mL] at h;subst h;subst e;exact⟨Nat.zero_lt_one,(Array.getElem?_eq_some_iff.mp p).1⟩;simp[e] at h;obtain⟨rfl,rfl⟩:=q b o y;simp only[if_true,mL] at h;subst h;exact⟨⟨cs⟩,el,A,p,rfl,rfl,ae,(fun h=>by cases h),fun j v u=>⟨v,aj u,.cell (qh (G v (cN u)))⟩⟩;rw[(q b o h).1];exact Nat.zero_lt_one;exact⟨_,_,_,_,(q b o h).2,fun v u=>.inl (KG (G v u))⟩
end
end Go.AI
namespace Go.Proofs.YtdhnndleffachaaGreatDoor
open Go.AI
noncomputable def funcAt(f:Nat):Option Func:=Tryz.prog.funcs[f]?
def XD:∀f fn,funcAt f=some fn->Tryz.prog.funcs[f]?=some fn:=fun _ _ h=>h
noncomputable def FF0:Nat->Option cV:=Pd (N0 Tryz.prog 1 funcAt) 218
noncomputable def FF1:Nat->Option cV:=Ka FF0 166 2
noncomputable def FF:Nat->Option cV:=Kb FF1 197 198
set_option maxRecDepth 100000
def iw:aG:=(y_ 32 8 36 0 1 37 (U_ 33 1 1 []) (V_ (jP 39 1 6 (m_ 41 8::m_ 42 7::wL 43 1 1 8 4 [L_ 47 4 46,F_ 48 18 [t_ 42,t_ 47],(F_ 49 17 [t_ 48],[39]),a_ 50 4 40 41,s_ 4 50 49]))))
def nM:aG:=(G_ [x_ 1 0,M_ 2 false] (J_ (G_ [L_ 9 2 1,F_ 10 11 [t_ 9]] (I_ 10 (G_ [M_ 2 true] .ret) .skip)) (G_ [L_ 12 2 1,F_ 13 12 [t_ 12],m_ 11 13,E_ 14 0 11,E_ 15 1 11,K_ 3 w9_,K_ 4 J8,s_ 2 3 14,s_ 2 4 15] (G_ [L_ 16 2 1,F_ 17 13 [t_ 16],K_ 5 J8,s_ 2 5 17] (J_ (G_ (W_ 18 0 5 [Y_ 20 .neq 19 0]) (I_ 20 (G_ (L_ 21 2 4::L_ 22 2 5::o_ 23 (.bin .eql [9,1,1] (t_ 21) (t_ 22))::m_ 24 23::S_ 25 24 true [.load (some 2) (t_ 3),.call (.func 14) [t_ 25]] [o_ 27 (.pick (t_ 24) (t_ 26) (b_ false)),m_ 2 27]) .ret) .skip)) (G_ [L_ 28 2 1,F_ 29 15 [t_ 28],K_ 6 w9_,s_ 2 6 29] (G_ [L_ 30 2 1,F_ 31 16 [t_ 30],m_ 7 31] (J_ (G_ [k_ 8 0] (Q_ 0 iw)) (G_ [L_ 51 2 1,L_ 52 2 3,L_ 53 2 4,L_ 54 2 6,F_ 55 19 [t_ 51,t_ 52,t_ 53,t_ 54],m_ 2 55] .ret)))))))))
theorem k_k(n:Nat)l c(h:FF n=some ⟨l,c,.no⟩:=by kernel_rfl):FF n=some ⟨l,c,.no⟩:=h
def xS:=k_k 3 [.tmp 2] nM
def ji:aG:=(y_ 13 5 21 2 3 22 (R_ 14 1 1 3 4 (U_ 18 3 17 [])) (V_ (m_ 24 4::wL 25 1 1 3 4 (wL 29 3 28 5 6 (jP 33 0 32 (z_ 35 34::B_ 36 .add 24 35::wL 37 1 1 3 4 (wL 41 3 40 5 6 (jP 45 1 44 [z_ 47 46,B_ 48 .add 36 47,m_ 4 48]))))))))
def ot:aG:=(y_ 6 3 10 0 1 11 (U_ 7 1 1 []) (G_ [k_ 4 0] (J_ (G_ [k_ 5 0] (Q_ 2 ji)) (G_ (R_ 49 1 1 3 4 (U_ 53 3 52 (C_ 56 .gtr 55 24::m_ 57 56::S_ 58 57 false [.mv (t_ 4),.bin .gtr [] (t_ 58) (i_ 120)] [o_ 60 (.pick (t_ 57) (b_ true) (t_ 59))]))) (I_ 60 (G_ [M_ 2 true] .ret) .skip)))))
def qC:aG:=(G_ [x_ 1 0,M_ 2 false] (J_ (G_ [k_ 3 0] (Q_ 0 ot)) (G_ (U_ 61 1 1 [C_ 64 .gtr 63 10,m_ 2 64]) .ret)))
def zr:=k_k 11 [.tmp 2] qC
def Lz:aG:=(G_ [x_ 1 0,K_ 2 w9_,K_ 3 J8] (J_ (G_ [L_ 6 2 1,F_ 7 13 [t_ 6],K_ 4 J8,s_ 2 4 7] (G_ [L_ 8 2 4,o_ 9 (.build J8 []),o_ 10 (.bin .neq [9,1,1] (t_ 8) (t_ 9))] (I_ 10 (J_ (V_ [o_ 11 (.build w9_ []),L_ 12 2 4,(s_ 2 2 11,[4]),s_ 2 3 12]) .ret) .skip))) (G_ [L_ 13 2 1,F_ 14 30 [t_ 13],K_ 5 zZ,s_ 1 5 14] (G_ [L_ 15 2 1,o_ 16 (.uk 32 [t_ 5]),F_ 17 31 [t_ 15,t_ 16],E_ 18 0 17,E_ 19 1 17,s_ 2 2 18,s_ 2 3 19] .ret))))
def Xq:=k_k 12 [(.cell 2 (some 2)),(.cell 3 (some 2))] Lz
def BM:aG:=(N_ 17 16 15 0 1 28 (G_ [m_ 18 16,a_ 19 4 14 16,L_ 20 4 19,K_ 5 C6,m_ 4 18,s_ 4 5 20] (G_ [L_ 21 4 5,F_ 22 35 [t_ 21],m_ 6 22] (G_ [m_ 23 6,Y_ 24 .neq 23 0] (I_ 24 (G_ [m_ 25 6,m_ 26 4,F_ 27 36 [t_ 25,t_ 26],s_ 2 2 27] .ret) .skip)))))
def FV:aG:=(G_ [x_ 1 0,K_ 2 J8] (J_ (G_ [L_ 7 2 1,F_ 8 34 [t_ 7],K_ 3 J8,s_ 2 3 8] (G_ [L_ 9 2 3,o_ 10 (.build J8 []),o_ 11 (.bin .neq [9,1,1] (t_ 9) (t_ 10))] (I_ 11 (G_ [L_ 12 2 3,s_ 2 2 12] .ret) .skip))) (J_ (G_ (U_ 13 1 1 [k_ 16 0]) (Q_ 0 BM)) (G_ [o_ 29 (.build J8 []),s_ 2 2 29] .ret))))
def PX:=k_k 13 [.cell 2 (some 2)] FV
def tV:aG:=(G_ [x_ 1 0,M_ 2 false] (G_ (U_ 3 0 1 (Y_ 6 .eql 5 0::m_ 7 6::S_ 8 7 true [.cq 1 (t_ 1),.load none (t_ 8),.nu (t_ 9),.bin .eql [1] (t_ 10) (i_ 0)] [o_ 12 (.pick (t_ 7) (t_ 11) (b_ false)),m_ 2 12])) .ret))
def Co:=k_k 14 [.tmp 2] tV
def kh:aG:=(y_ 30 6 34 2 3 35 (U_ 31 1 1 []) (V_ (jP 37 1 3 (wL 39 1 1 6 4 [L_ 43 4 42,(F_ 44 37 [t_ 43],[37]),v_ 45 C6 4 44,A_ 46 C6 56 38 45,f_ 47 1 3,s_ 1 47 46]))))
def kj:aG:=(y_ 7 4 11 0 1 12 (U_ 8 0 1 []) (G_ (R_ 14 0 1 4 3 [L_ 18 3 17,K_ 5 Vz,s_ 3 5 18]) (G_ (o_ 19 (.fm 0 [] [])::W_ 20 2 5 [A_ 22 zZ 8 19 21,f_ 23 2 5,s_ 1 23 22]) (O_ (W_ 24 0 3 [L_ 26 3 5,v_ 27 Vz 3 26,A_ 28 Vz 48 25 27,f_ 29 0 3,s_ 1 29 28])))))
def tO:aG:=(G_ [x_ 1 0,K_ 2 w9_] (G_ [K_ 3 w9_] (J_ (G_ [k_ 4 0] (Q_ 0 kj)) (J_ (G_ [k_ 6 0] (Q_ 2 kh)) (G_ [L_ 48 2 3,s_ 2 2 48] .ret)))))
def Ch:=k_k 15 [.cell 2 (some 2)] tO
def pH:aG:=(y_ 5 4 9 0 1 10 (U_ 6 0 1 []) (O_ (m_ 12 3::R_ 13 0 1 4 3 (W_ 17 1 16 [B_ 19 .add 12 18,m_ 3 19]))))
def sg:aG:=(.seq (.ops [⟨(some 1),none,(.box (.tmp 0))⟩,⟨(some 2),none,(.mv (.const (.int .i64 0)))⟩]) (.seq (.ops [⟨(some 3),none,(.mv (.const (.int .i64 0)))⟩]) (.seq (.seq (.ops [⟨(some 4),none,(.mv (.const (.int .i64 0)))⟩]) (.block 0 (.loop pH))) (.seq (.ops [⟨(some 20),none,(.mv (.tmp 3))⟩,⟨(some 2),none,(.mv (.tmp 20))⟩]) .ret))))
def AX:=k_k 16 [.tmp 2] sg
def qN:aG:=(P_ 1 (G_ [L_ 9 4 3,F_ 10 40 [t_ 9],m_ 4 10] (J_ (G_ [m_ 11 4,C_ 12 .lss 11 0] (I_ 12 (G_ [L_ 13 4 3,F_ 14 41 [t_ 13],s_ 4 2 14] .ret) .skip)) (O_ [L_ 15 4 3,m_ 16 4,F_ 17 42 [t_ 15,t_ 16],s_ 4 3 17]))))
def tN:aG:=(G_ [x_ 1 0,K_ 2 C6] (J_ (V_ [L_ 5 4 1,L_ 6 4 1,K_ 3 C6,(F_ 7 39 [t_ 6],[1]),(F_ 8 38 [t_ 5,t_ 7],[3]),s_ 4 3 8]) (Q_ 0 qN)))
def Cg:=k_k 17 [.cell 2 (some 4)] tN
def km:aG:=(y_ 172 18 180 14 15 181 (R_ 173 3 13 14 6 (U_ 177 1 176 [])) (G_ (R_ 183 3 13 14 6 (R_ 187 1 186 18 8 [L_ 191 8 190,K_ 19 Pc,s_ 8 19 191])) (G_ (m_ 192 0::L_ 193 8 19::F_ 194 43 [t_ 192,t_ 193]::o_ 195 (.un .not (t_ 194))::m_ 196 195::S_ 197 196 false [.mv (t_ 5),.cq 1 (t_ 19),.load none (t_ 198),.fw none 1 (t_ 197) (t_ 199),.load none (t_ 200)] [o_ 202 (.pick (t_ 196) (b_ true) (t_ 201))]) (I_ 202 (O_ [m_ 203 17,L_ 204 8 19,v_ 205 Pc 8 204,A_ 206 Pc 80 203 205,m_ 17 206]) .skip))))
def ko:aG:=(y_ 136 16 144 12 13 145 (R_ 137 3 13 14 6 (U_ 141 0 140 [])) (G_ (m_ 147 5::R_ 148 3 13 14 6 (R_ 152 0 151 16 2 (W_ 156 0 155 [a_ 158 1 147 157,l_ 159 158]))) (I_ 159 (O_ (m_ 160 15::R_ 161 3 13 14 6 (R_ 165 0 164 16 2 [L_ 169 2 168,v_ 170 Sy 2 169,A_ 171 Sy 32 160 170,m_ 15 171]))) .skip)))
def kq:aG:=(y_ 129 14 133 10 11 134 (U_ 130 3 13 []) (G_ [Z_ 15] (J_ (G_ [k_ 16 0] (Q_ 12 ko)) (G_ [Z_ 17] (J_ (G_ [k_ 18 0] (Q_ 14 km)) (G_ (W_ 207 3 13 [m_ 209 14,m_ 210 15,a_ 211 6 208 209,f_ 212 0 211,s_ 1 212 210]) (O_ (W_ 213 3 13 [m_ 215 14,m_ 216 17,a_ 217 6 214 215,f_ 218 1 217,s_ 1 218 216]))))))))
def kr:aG:=(y_ 98 12 101 8 9 102 [m_ 99 9,z_ 100 99] (G_ (T_ 104 9 12 2 (W_ 107 0 106 (m_ 109 108::S_ 110 109 true [.mv (t_ 5),.mv (t_ 9),.mv (t_ 12),.fw none 2 (t_ 111) (t_ 112),.cq 1 (t_ 113),.load none (t_ 114),.fw none 1 (t_ 110) (t_ 115),.load none (t_ 116),.un .not (t_ 117)] [o_ 119 (.pick (t_ 109) (t_ 118) (b_ false))]))) (I_ 119 (G_ (m_ 120 5::T_ 121 9 12 2 (W_ 124 1 123 [a_ 126 1 120 125,u_ (.store 1 (t_ 126) (b_ true))])) (O_ [M_ 6 true])) .skip)))
def kt:aG:=(y_ 74 11 78 6 7 79 (U_ 75 0 8 []) (G_ (m_ 81 5::R_ 82 0 8 11 2 (W_ 86 0 85 [a_ 88 1 81 87,l_ 89 88])) (I_ 89 (O_ (m_ 90 9::R_ 91 0 8 11 2 (W_ 95 1 94 [A_ 97 vQ 16 90 96,m_ 9 97]))) .skip)))
def ku:aG:=(y_ 40 10 44 4 5 45 (U_ 41 1 8 []) (G_ (m_ 47 0::R_ 48 1 8 10 8 (L_ 52 8 51::F_ 53 43 [t_ 47,t_ 52]::o_ 54 (.un .not (t_ 53))::m_ 55 54::S_ 56 55 false [.mv (t_ 5),.cq 1 (t_ 8),.load none (t_ 57),.mv (t_ 10),.fw none 8 (t_ 58) (t_ 59),.cq 1 (t_ 60),.load none (t_ 61),.fw none 1 (t_ 56) (t_ 62),.load none (t_ 63)] [o_ 65 (.pick (t_ 55) (b_ true) (t_ 64))])) (I_ 65 (O_ (m_ 66 9::R_ 67 1 8 10 8 [L_ 71 8 70,F_ 72 44 [t_ 71],A_ 73 vQ 16 66 72,m_ 9 73])) .skip)))
def kv:aG:=(y_ 24 7 28 2 3 29 (U_ 25 3 3 []) (G_ (R_ 31 3 3 7 6 [L_ 35 6 34,K_ 8 CV,s_ 6 8 35]) (G_ [f_ 36 2 8,f_ 37 1 36,L_ 38 2 37,v_ 39 vQ 2 38,m_ 9 39] (J_ (G_ [k_ 10 0] (Q_ 4 ku)) (J_ (G_ [k_ 11 0] (Q_ 6 kt)) (G_ [k_ 12 0] (Q_ 8 kr)))))))
def kx:aG:=(.seq (.seq (.ops [⟨(some 23),none,(.mv (.tmp 6))⟩]) (.cond (.tmp 23) .skip (.exit 0))) (.block 1 (.seq (.ops [⟨(some 6),none,(.mv (.const (.bool false)))⟩]) (.seq (.ops [⟨(some 7),none,(.mv (.const (.int .i64 0)))⟩]) (.block 2 (.loop kv))))))
def tS:aG:=(G_ [x_ 3 1,K_ 4 C6] (G_ (W_ 20 2 3 [o_ 22 (.gG [(.bool false)] 1 (t_ 21) (t_ 21)),m_ 5 22]) (J_ (G_ [M_ 6 true] (Q_ 0 kx)) (G_ [L_ 127 4 3,F_ 128 37 [t_ 127],K_ 13 C6,s_ 4 13 128] (J_ (G_ [k_ 14 0] (Q_ 10 kq)) (G_ [L_ 219 4 13,s_ 4 4 219] .ret))))))
def Cl:=k_k 18 [.cell 4 (some 4)] tS
def pC:aG:=(y_ 10 9 14 0 1 15 (U_ 11 1 7 []) (G_ (R_ 17 1 7 9 4 [L_ 21 4 20,F_ 22 45 [t_ 21]]) (I_ 22 (J_ (V_ [L_ 23 2 6,m_ 24 9,(F_ 25 46 [(i_ 10),t_ 24],[6]),o_ 26 (.bin .eql [9,1,1] (t_ 23) (t_ 25)),m_ 27 26,q_ 28 27 true (.load (some 2) (t_ 5)),q_ 29 27 true (.call (.func 14) [t_ 28]),o_ 30 (.pick (t_ 27) (t_ 29) (b_ false)),m_ 8 30]) .ret) .skip)))
def rS:aG:=(G_ [x_ 4 0,x_ 5 1,x_ 6 2,x_ 7 3,M_ 8 false] (J_ (G_ [k_ 9 0] (Q_ 0 pC)) (G_ (L_ 31 2 6::o_ 32 (.build J8 [])::o_ 33 (.bin .eql [9,1,1] (t_ 31) (t_ 32))::m_ 34 33::S_ 35 34 true [.load (some 2) (t_ 5),.load (some 2) (t_ 7),.call (.func 47) [t_ 35,t_ 36]] [o_ 38 (.pick (t_ 34) (t_ 37) (b_ false)),m_ 8 38]) .ret)))
def AM:=k_k 19 [.tmp 8] rS
def zU:aG:=(N_ 10 9 8 0 1 17 (G_ [a_ 11 3 7 9,L_ 12 3 11,K_ 5 Vz,s_ 3 5 12] (O_ (m_ 13 3::W_ 14 1 5 [B_ 16 .add 13 15,m_ 3 16]))))
def Dt:aG:=(G_ [x_ 1 0,k_ 2 0] (G_ [k_ 3 0] (J_ (G_ (U_ 6 0 1 [k_ 9 0]) (Q_ 0 zU)) (G_ [m_ 18 3,m_ 2 18] .ret))))
def Ny:=k_k 30 [.tmp 2] Dt
def uL:aG:=(N_ 39 38 37 2 3 57 (G_ [m_ 40 38,a_ 41 4 36 38,L_ 42 4 41,K_ 9 C6,m_ 8 40,s_ 4 9 42] (G_ [m_ 43 1,L_ 44 4 9,F_ 45 69 [t_ 44],o_ 46 (.call (t_ 43) [t_ 45]),s_ 4 9 46] (J_ (G_ [L_ 47 4 9,F_ 48 70 [t_ 47]] (I_ 48 (G_ [o_ 49 (.build w9_ []),m_ 50 8,F_ 51 36 [(i_ 10),t_ 50],s_ 2 4 49,s_ 2 5 51] .ret) .skip)) (O_ (W_ 52 1 2 [m_ 54 8,L_ 55 4 9,a_ 56 4 53 54,s_ 4 56 55]))))))
def uM:aG:=(N_ 18 17 16 0 1 30 (G_ [m_ 19 17,a_ 20 3 15 17,L_ 21 3 20,K_ 7 Vz,m_ 6 19,s_ 3 7 21] (V_ (jP 22 0 2 (m_ 24 6::jP 25 2 7 [(F_ 27 67 [t_ 26],[22]),a_ 28 3 23 24,f_ 29 2 28,s_ 1 29 27])))))
def Dq:aG:=(G_ [x_ 2 0,K_ 4 w9_,K_ 5 J8] (G_ (W_ 10 0 2 [F_ 12 66 [t_ 11],f_ 13 0 2,s_ 1 13 12]) (J_ (G_ (U_ 14 0 2 [k_ 17 0]) (Q_ 0 uM)) (G_ (W_ 31 1 2 [F_ 33 68 [t_ 32],f_ 34 1 2,s_ 1 34 33]) (J_ (G_ (U_ 35 1 2 [k_ 38 0]) (Q_ 2 uL)) (G_ [L_ 58 2 2,o_ 59 (.build J8 []),s_ 2 4 58,s_ 2 5 59] .ret))))))
def Nw:=k_k 31 [(.cell 4 (some 2)),(.cell 5 (some 2))] Dq
def FT:aG:=(G_ [x_ 2 0,K_ 3 C6] (G_ [l_ 4 1,L_ 5 4 2,F_ 6 33 [t_ 4,t_ 5],s_ 4 3 6] .ret))
def PU:=k_k 32 [.cell 3 (some 4)] FT
def wC:aG:=(N_ 15 14 13 0 1 37 (G_ [m_ 16 14,a_ 17 6 12 14,L_ 18 6 17,K_ 7 CV,m_ 6 16,s_ 6 7 18] (J_ (V_ (jP 19 3 3 (m_ 21 6::jP 22 0 7 [o_ 24 (.uk 73 [t_ 5]),(F_ 25 72 [t_ 23,t_ 24],[19]),a_ 26 6 20 21,f_ 27 0 26,s_ 1 27 25]))) (V_ (jP 28 3 3 (m_ 30 6::jP 31 1 7 [o_ 33 (.uk 75 [t_ 2,t_ 5]),(F_ 34 74 [t_ 32,t_ 33],[28]),a_ 35 6 29 30,f_ 36 1 35,s_ 1 36 34]))))))
def FR:aG:=(G_ [x_ 2 0,x_ 3 1,K_ 4 C6] (G_ [l_ 8 2,L_ 9 4 3,F_ 10 71 [t_ 8,t_ 9],K_ 5 Sw,s_ 1 5 10] (J_ (G_ (U_ 11 3 3 [k_ 14 0]) (Q_ 0 wC)) (G_ [L_ 38 4 3,F_ 39 77 [t_ 38],s_ 4 4 39] .ret))))
def PT:=k_k 33 [.cell 4 (some 4)] FR
def uz:aG:=(N_ 108 107 106 5 6 122 (G_ [m_ 109 107,a_ 110 4 105 107,L_ 111 4 110,K_ 13 C6,m_ 12 109,s_ 4 13 111] (G_ [L_ 112 2 1,L_ 113 4 13,o_ 114 (.build agq [(0,(2,(t_ 112))),(2,(4,(t_ 113)))]),K_ 14 agq,s_ 7 14 114] (G_ [L_ 115 7 14,F_ 116 82 [t_ 115],m_ 15 116] (G_ [m_ 117 15,Y_ 118 .neq 117 0] (I_ 118 (G_ [m_ 119 15,m_ 120 12,F_ 121 36 [t_ 119,t_ 120],s_ 2 2 121] .ret) .skip))))))
def uA:aG:=(N_ 83 82 81 3 4 103 (G_ [m_ 84 82,a_ 85 4 80 82,L_ 86 4 85,K_ 9 C6,m_ 8 84,s_ 4 9 86] (G_ [L_ 87 2 1,L_ 88 4 9,o_ 89 (.build agq [(0,(2,(t_ 87))),(2,(4,(t_ 88)))]),K_ 10 agq,s_ 7 10 89] (J_ (G_ [L_ 90 7 10,m_ 91 3,F_ 92 81 [t_ 90,t_ 91],m_ 11 92] (G_ [m_ 93 11,Y_ 94 .neq 93 0] (I_ 94 (G_ [m_ 95 11,m_ 96 8,F_ 97 36 [t_ 95,t_ 96],s_ 2 2 97] .ret) .skip))) (O_ (m_ 98 3::W_ 99 0 9 [v_ 101 agr 1 100,A_ 102 agr 16 98 101,m_ 3 102]))))))
def Iv:aG:=(P_ 2 (G_ (W_ 37 0 6 [F_ 39 78 [t_ 38],o_ 40 (.un .not (t_ 39)),m_ 36 40]) (I_ 36 (O_ [k_ 7 12]) (G_ (m_ 42 3::W_ 43 0 6 [F_ 45 79 [t_ 42,t_ 44],m_ 41 45]) (I_ 41 (O_ [k_ 7 7]) (G_ (W_ 47 1 6 [F_ 49 80 [t_ 48,(i_ 1),(i_ 200)],o_ 50 (.un .not (t_ 49)),m_ 46 50]) (I_ 46 (O_ [k_ 7 3]) (G_ (U_ 52 2 6 (W_ 55 1 6 [B_ 57 .gtr 54 56,m_ 51 57])) (I_ 51 (O_ [k_ 7 9]) (G_ (m_ 59 4::W_ 60 1 6 [B_ 62 .add 59 61,C_ 63 .gtr 62 200,m_ 58 63]) (I_ 58 (O_ [k_ 7 10]) .skip)))))))))))
def abv:aG:=(J_ (G_ [m_ 64 7,Y_ 65 .neq 64 0] (I_ 65 (G_ [m_ 66 7,m_ 67 5,F_ 68 36 [t_ 66,t_ 67],s_ 2 2 68] .ret) .skip)) (G_ (m_ 69 3::W_ 70 0 6 [v_ 72 agr 1 71,A_ 73 agr 16 69 72,m_ 3 73]) (O_ (m_ 74 4::W_ 75 1 6 [B_ 77 .add 74 76,m_ 4 77]))))
def uB:aG:=(N_ 32 31 30 0 1 78 (G_ [m_ 33 31,a_ 34 3 29 31,L_ 35 3 34,K_ 6 Vz,m_ 5 33,s_ 3 6 35] (G_ [k_ 7 0] (J_ Iv abv))))
def Dg:aG:=(G_ [x_ 1 0,K_ 2 J8] (J_ (G_ (U_ 17 0 1 (C_ 20 .gtr 19 10::m_ 21 20::S_ 22 21 false [.cq 1 (t_ 1),.load none (t_ 22),.nu (t_ 23),.bin .gtr [] (t_ 24) (i_ 10)] [o_ 26 (.pick (t_ 21) (b_ true) (t_ 25))])) (I_ 26 (G_ [F_ 27 36 [(i_ 2),(i_ 0)],s_ 2 2 27] .ret) .skip)) (G_ [Z_ 3] (G_ [k_ 4 0] (J_ (G_ (U_ 28 0 1 [k_ 31 0]) (Q_ 0 uB)) (J_ (G_ (U_ 79 1 1 [k_ 82 0]) (Q_ 3 uA)) (J_ (G_ (U_ 104 1 1 [k_ 107 0]) (Q_ 5 uz)) (G_ (W_ 123 1 1 [F_ 125 83 [t_ 124,(.func 84)],m_ 16 125]) (J_ (G_ [m_ 126 16,C_ 127 .lss 126 0] (I_ 127 (G_ [F_ 128 36 [(i_ 6),(i_ 0)],s_ 2 2 128] .ret) .skip)) (J_ (G_ (R_ 129 1 1 16 4 (W_ 133 1 132 [C_ 135 .gtr 134 0])) (I_ 135 (G_ [m_ 136 16,F_ 137 36 [(i_ 5),t_ 136],s_ 2 2 137] .ret) .skip)) (G_ [o_ 138 (.build J8 []),s_ 2 2 138] .ret)))))))))))
def Nn:=k_k 34 [.cell 2 (some 2)] Dg
def BC:aG:=(G_ [x_ 1 0,k_ 2 0] (J_ (V_ (L_ 4 4 1::L_ 5 4 1::o_ 7 (.build J8 [(0,(1,(.const (.int .i64 (Int.negSucc 0))))),(1,(1,(.const (.int .i64 (Int.negSucc 0)))))])::v_ 8 J8 2 7::jP 9 2 1 [(F_ 6 85 [t_ 5],[8,9]),(F_ 11 86 [t_ 8,t_ 10],[1]),(⟨(some 12),none,(.build [(.string ⟨⟨[]⟩⟩),(.int .i64 0),(.int .i64 0),(.slice none 0 0),(.slice none 0 0),(.slice none 0 0)] [(0,(4,(t_ 4))),(4,(1,(t_ 6))),(5,(1,(t_ 11)))])⟩,[]),x_ 13 12,m_ 3 13])) (J_ (P_ 0 (J_ (V_ (L_ 15 4 1::jP 18 3 1 [z_ 20 19,(F_ 16 87 [t_ 15],[18]),z_ 17 16,B_ 21 .lss 17 20,m_ 14 21])) (I_ 14 (G_ [k_ 2 5] .ret) (G_ [m_ 23 3,F_ 24 88 [t_ 23],o_ 25 (.un .not (t_ 24)),m_ 22 25] (I_ 22 (G_ [k_ 2 7] .ret) (G_ [m_ 27 3,F_ 28 89 [t_ 27],o_ 29 (.un .not (t_ 28)),m_ 26 29] (I_ 26 (G_ [k_ 2 6] .ret) .skip))))))) (G_ [k_ 2 0] .ret))))
def KC:=k_k 35 [.tmp 2] BC
def Dj:aG:=(G_ [K_ 4 J8] (G_ [m_ 5 0,m_ 6 1,o_ 7 (.build J8 [(0,(1,(t_ 5))),(1,(1,(t_ 6)))]),s_ 2 4 7] .ret))
def Nr:=k_k 36 [.cell 4 (some 2)] Dj
def ka:aG:=(y_ 12 4 16 0 1 17 (U_ 13 3 1 []) (V_ (jP 19 3 3 (wL 21 3 1 4 6 [L_ 25 6 24,(F_ 26 90 [t_ 25],[19]),v_ 27 CV 6 26,A_ 28 CV 96 20 27,f_ 29 3 3,s_ 1 29 28]))))
def tK:aG:=(G_ [x_ 1 0,K_ 2 C6] (G_ (W_ 5 0 1 (W_ 7 1 1 (W_ 9 2 1 [o_ 11 (.build C6 [(0,(1,(t_ 6))),(1,(1,(t_ 8))),(2,(1,(t_ 10)))]),K_ 3 C6,s_ 4 3 11]))) (J_ (G_ [k_ 4 0] (Q_ 0 ka)) (G_ [L_ 30 4 3,s_ 4 2 30] .ret))))
def Cd:=k_k 37 [.cell 2 (some 4)] tK
def kc:aG:=(y_ 88 13 93 6 7 94 (f_ 89 2 7::U_ 90 3 89 []) (V_ (f_ 96 2 7::jP 97 3 96 (m_ 99 13::m_ 100 1::f_ 101 2 7::wL 102 3 101 13 1 [l_ 106 105,(F_ 107 92 [t_ 100,t_ 106],[97]),a_ 108 1 98 99,s_ 1 108 107]))))
def kd:aG:=(y_ 54 11 57 4 5 58 [m_ 55 9,z_ 56 55] (G_ (m_ 60 1::T_ 61 9 11 3 (W_ 64 0 63 [F_ 66 92 [t_ 60,t_ 65],m_ 12 66])) (G_ [m_ 67 12,C_ 68 .geq 67 0] (I_ 68 (O_ (m_ 69 10::m_ 70 12::T_ 71 9 11 3 [f_ 74 1 73,L_ 75 2 74,o_ 76 (.build w7_ [(0,(1,(t_ 70))),(1,(2,(t_ 75)))]),v_ 77 w7_ 3 76,A_ 78 w7_ 24 69 77,m_ 10 78])) .skip))))
def ke:aG:=(y_ 36 8 40 2 3 41 (U_ 37 0 7 []) (J_ (V_ (L_ 43 4 2::Vs 44 1 6 1 (l_ 47 46::wL 48 0 7 8 2 [L_ 52 2 51,F_ 53 91 [t_ 43,t_ 47,t_ 52],m_ 9 53]))) (G_ [Z_ 10] (J_ (G_ [k_ 11 0] (Q_ 4 kd)) (V_ (jP 79 0 7 [m_ 81 8,m_ 82 10,m_ 83 1,z_ 84 83,(F_ 85 93 [t_ 82,t_ 84],[79]),a_ 86 2 80 81,f_ 87 1 86,s_ 1 87 85]))))))
def kg:aG:=(y_ 21 6 24 0 1 25 [m_ 22 1,z_ 23 22] (J_ (V_ (jP 27 3 2 (Vs 29 1 6 1 [l_ 32 31,a_ 33 6 28 32,L_ 34 6 33,K_ 7 CV,(F_ 35 90 [t_ 34],[7]),s_ 6 7 35]))) (J_ (G_ [k_ 8 0] (Q_ 2 ke)) (J_ (G_ [k_ 13 0] (Q_ 6 kc)) (O_ (W_ 109 3 5 [L_ 111 6 7,v_ 112 CV 6 111,A_ 113 CV 96 110 112,f_ 114 3 5,s_ 1 114 113]))))))
def tL:aG:=(G_ [x_ 2 0,K_ 4 C6] (G_ (W_ 14 0 2 (W_ 16 1 2 (W_ 18 2 2 [o_ 20 (.build C6 [(0,(1,(t_ 15))),(1,(1,(t_ 17))),(2,(1,(t_ 19)))]),K_ 5 C6,s_ 4 5 20]))) (J_ (G_ [k_ 6 0] (Q_ 0 kg)) (G_ [L_ 115 4 5,s_ 4 4 115] .ret))))
def Ce:=k_k 38 [.cell 4 (some 4)] tL
def pF:aG:=(J_ (G_ [m_ 15 6,C_ 16 .geq 15 0] (H_ 16 0)) (J_ (P_ 1 (O_ (m_ 19 5::T_ 20 4 6 1 [l_ 23 22,v_ 24 zZ 1 23,A_ 25 zZ 8 19 24,m_ 5 25]))) (O_ [m_ 17 6,C_ 18 .sub 17 1,m_ 6 18])))
def r_:aG:=(G_ [x_ 1 0,Z_ 2] (G_ [L_ 8 4 1,F_ 9 94 [t_ 8,(i_ 0),(.const (.slice none 0 0)),(.const (.slice none 0 0))],m_ 7 9,E_ 10 0 7,E_ 11 1 7,m_ 3 10,m_ 4 11] (G_ [Z_ 5] (J_ (G_ [m_ 12 4,z_ 13 12,C_ 14 .sub 13 1,m_ 6 14] (Q_ 0 pF)) (G_ [m_ 26 5,m_ 2 26] .ret)))))
def AT:=k_k 39 [.tmp 2] r_
def pI:aG:=(J_ (G_ [m_ 9 3,C_ 10 .geq 9 0] (H_ 10 0)) (J_ (P_ 1 (G_ (R_ 13 3 1 3 6 [f_ 17 2 16,L_ 18 4 17,K_ 4 ags,s_ 4 4 18]) (J_ (V_ (jP 19 0 4 [Y_ 21 .eql 20 2,m_ 22 21,q_ 23 22 true (.cq 3 (t_ 4)),q_ 24 22 true (.load none (t_ 23)),q_ 25 22 true (.fw none 1 (t_ 24) (i_ 0)),q_ 26 22 true (.load none (t_ 25)),q_ 27 22 true (.mv (t_ 3)),q_ 28 22 true (.bin .neq [1] (t_ 26) (t_ 27)),o_ 29 (.pick (t_ 22) (t_ 28) (b_ false)),m_ 30 29,q_ 31 30 true (.cq 3 (t_ 1)),q_ 32 30 true (.load none (t_ 31)),q_ 33 30 true (.cq 3 (t_ 4)),q_ 34 30 true (.load none (t_ 33)),q_ 35 30 true (.fw none 1 (t_ 34) (i_ 0)),q_ 36 30 true (.load none (t_ 35)),q_ 37 30 true (.fw none 6 (t_ 32) (t_ 36)),q_ 38 30 true (.cq 0 (t_ 37)),q_ 39 30 true (.load none (t_ 38)),q_ 40 30 true (.nu (t_ 39)),q_ 41 30 true (.bin .eql [1] (t_ 40) (i_ 0)),o_ 42 (.pick (t_ 30) (t_ 41) (b_ false)),m_ 43 42,q_ 44 43 true (.load (some 4) (t_ 1)),q_ 45 43 true (.cq 3 (t_ 4)),q_ 46 43 true (.load none (t_ 45)),q_ 47 43 true (.fw none 1 (t_ 46) (i_ 0)),q_ 48 43 true (.load none (t_ 47)),q_ 49 43 true (.call (.func 63) [t_ 44,t_ 48]),q_ 50 43 true (.nu (t_ 49)),q_ 51 43 true (.bin .eql [1] (t_ 50) (i_ 1)),o_ 52 (.pick (t_ 43) (t_ 51) (b_ false))])) (I_ 52 (G_ [m_ 53 3,m_ 2 53] .ret) .skip)))) (O_ [m_ 11 3,C_ 12 .sub 11 1,m_ 3 12])))
def si:aG:=(G_ [x_ 1 0,k_ 2 0] (J_ (G_ (U_ 5 3 1 [C_ 8 .sub 7 1,m_ 3 8]) (Q_ 0 pI)) (G_ [k_ 2 (Int.negSucc 0)] .ret)))
def AY:=k_k 40 [.tmp 2] si
def r9:aG:=(G_ [x_ 1 0,K_ 2 C6] (J_ (V_ [L_ 5 4 1,L_ 6 4 1,K_ 3 C6,(F_ 7 39 [t_ 6],[1]),(F_ 8 38 [t_ 5,t_ 7],[3]),s_ 4 3 8]) (G_ [L_ 9 4 3,F_ 10 95 [t_ 9],m_ 4 10] (G_ [L_ 11 4 3,m_ 12 4,F_ 13 96 [t_ 11,t_ 12],s_ 4 3 13] (G_ [m_ 14 4,z_ 15 14,f_ 16 2 3,s_ 1 16 15] (G_ [L_ 17 4 3,s_ 4 2 17] .ret))))))
def AS:=k_k 41 [.cell 2 (some 4)] r9
def jj:aG:=(y_ 115 12 119 6 7 120 (U_ 116 3 6 []) (G_ [m_ 122 12,m_ 123 5,X_ 124 .neq 122 123] (I_ 124 (O_ [m_ 125 11,m_ 126 12,v_ 127 zZ 1 126,A_ 128 zZ 8 125 127,m_ 11 128]) .skip)))
def jk:aG:=(y_ 54 10 57 4 5 58 [m_ 55 9,z_ 56 55] (G_ (T_ 60 9 10 3 (W_ 63 0 62 [m_ 65 5,X_ 66 .eql 64 65])) (I_ 66 (O_ [m_ 67 9,m_ 68 10,m_ 69 1,a_ 70 3 67 68,f_ 71 0 70,s_ 1 71 69]) .skip)))
def jl:aG:=(y_ 31 8 39 2 3 40 (R_ 32 3 6 7 6 (U_ 36 0 35 [])) (J_ (V_ (L_ 42 4 2::m_ 43 7::wL 44 3 2 7 6 (wL 48 0 47 8 2 [L_ 52 2 51,F_ 53 91 [t_ 42,t_ 43,t_ 52],m_ 9 53]))) (J_ (G_ [k_ 10 0] (Q_ 4 jk)) (V_ (wL 72 3 6 7 6 (jP 76 0 75 (m_ 78 8::m_ 79 9::jP 80 3 2 [z_ 82 81,(F_ 83 93 [t_ 79,t_ 82],[72,76]),a_ 84 2 77 78,f_ 85 1 84,s_ 1 85 83])))))))
def jm:aG:=(y_ 24 7 28 0 1 29 (U_ 25 3 6 []) (G_ [k_ 8 0] (Q_ 2 jl)))
def qD:aG:=(G_ [x_ 2 0,K_ 4 C6] (G_ (R_ 13 3 2 1 6 (f_ 17 2 16::W_ 18 3 17 [o_ 20 (.fw none 1 (t_ 19) (i_ 0)),l_ 21 20,m_ 5 21])) (G_ [L_ 22 4 2,F_ 23 37 [t_ 22],K_ 6 C6,s_ 4 6 23] (J_ (G_ [k_ 7 0] (Q_ 0 jm)) (J_ (V_ (jP 86 3 6 (m_ 88 1::wL 89 3 6 1 6 (jP 93 1 92 (wL 95 3 6 5 6 (jP 99 1 98 [(A_ 101 Pc 80 94 100,[86]),a_ 102 6 87 88,f_ 103 1 102,s_ 1 103 101])))))) (J_ (V_ (jP 104 3 6 (m_ 106 1::wL 107 3 6 5 6 [f_ 111 2 110,L_ 112 4 111,a_ 113 6 105 106,f_ 114 2 113,s_ 4 114 112]))) (G_ [Z_ 11] (J_ (G_ [k_ 12 0] (Q_ 6 jj)) (G_ (W_ 129 3 6 [m_ 131 5,o_ 132 (.build ags [(0,(1,(i_ 1)))]),a_ 133 6 130 131,f_ 134 2 133,s_ 4 134 132]) (G_ [L_ 135 4 6,m_ 136 11,F_ 137 38 [t_ 135,t_ 136],s_ 4 4 137] .ret))))))))))
def zu:=k_k 42 [.cell 4 (some 4)] qD
def sf:aG:=(G_ [x_ 3 1,M_ 4 false] (J_ (G_ (W_ 5 0 3 (Y_ 7 .eql 6 5::m_ 8 7::S_ 9 8 false [.cq 0 (t_ 3),.load none (t_ 9),.bin .eql [1] (t_ 10) (i_ 6)] [o_ 12 (.pick (t_ 8) (b_ true) (t_ 11))])) (I_ 12 (G_ (f_ 13 4 3::W_ 14 0 13 (o_ 16 (.un .not (t_ 15))::m_ 17 16::S_ 18 17 true [.cq 4 (t_ 3),.cq 1 (t_ 18),.load none (t_ 19),.bin .neq [1] (t_ 20) (i_ 0)] [o_ 22 (.pick (t_ 17) (t_ 21) (b_ false)),m_ 4 22])) .ret) .skip)) (J_ (G_ (W_ 23 0 3 [Y_ 25 .eql 24 18]) (I_ 25 (G_ (f_ 26 2 3::W_ 27 0 26 (o_ 29 (.un .not (t_ 28))::m_ 30 29::S_ 31 30 true [.cq 2 (t_ 3),.cq 1 (t_ 31),.load none (t_ 32),.bin .geq [] (t_ 33) (i_ 0)] (o_ 35 (.pick (t_ 30) (t_ 34) (b_ false))::m_ 36 35::S_ 37 36 true [.cq 2 (t_ 3),.cq 1 (t_ 37),.load none (t_ 38),.mv (t_ 0),.bin .lss [] (t_ 39) (t_ 40)] [o_ 42 (.pick (t_ 36) (t_ 41) (b_ false)),m_ 4 42]))) .ret) .skip)) (G_ (W_ 43 0 3 (C_ 45 .geq 44 1::m_ 46 45::S_ 47 46 true [.cq 0 (t_ 3),.load none (t_ 47),.bin .leq [] (t_ 48) (i_ 17)] [o_ 50 (.pick (t_ 46) (t_ 49) (b_ false)),m_ 4 50])) .ret))))
def AW:=k_k 43 [.tmp 4] sf
def tP:aG:=(G_ [x_ 1 0,Z_ 2] (G_ [Z_ 3] (J_ (P_ 0 (G_ (W_ 5 0 1 [Y_ 7 .eql 6 21,m_ 4 7]) (I_ 4 .skip (G_ (W_ 9 0 1 [Y_ 11 .eql 10 20,m_ 8 11]) (I_ 8 (O_ (m_ 12 3::W_ 13 7 1 [A_ 15 vQ 16 12 14,m_ 3 15])) (G_ (W_ 17 0 1 (C_ 19 .geq 18 2::m_ 20 19::S_ 21 20 true [.cq 0 (t_ 1),.load none (t_ 21),.bin .leq [] (t_ 22) (i_ 15)] (o_ 24 (.pick (t_ 20) (t_ 23) (b_ false))::m_ 25 24::S_ 26 25 false [.cq 0 (t_ 1),.load none (t_ 26),.bin .eql [1] (t_ 27) (i_ 19)] [o_ 29 (.pick (t_ 25) (b_ true) (t_ 28)),m_ 16 29]))) (I_ 16 (O_ [m_ 30 3,f_ 31 2 1,L_ 32 2 31,f_ 33 4 1,L_ 34 2 33,o_ 35 (.fm 2 [(.bool false),(.int .i64 0),(.bool false),(.int .i64 0)] [(0,(2,(t_ 32))),(2,(2,(t_ 34)))]),A_ 36 vQ 16 30 35,m_ 3 36]) (G_ (W_ 38 0 1 (C_ 40 .geq 39 1::m_ 41 40::S_ 42 41 true [.cq 0 (t_ 1),.load none (t_ 42),.bin .leq [] (t_ 43) (i_ 22)] [o_ 45 (.pick (t_ 41) (t_ 44) (b_ false)),m_ 37 45])) (I_ 37 (O_ [m_ 46 3,f_ 47 2 1,L_ 48 2 47,v_ 49 vQ 2 48,A_ 50 vQ 16 46 49,m_ 3 50]) .skip))))))))) (G_ [m_ 51 3,m_ 2 51] .ret))))
def Ci:=k_k 44 [.tmp 2] tP
def r6:aG:=(G_ [x_ 1 0,M_ 2 false] (G_ (U_ 3 3 1 (C_ 6 .gtr 5 40::m_ 7 6::S_ 8 7 false [.load (some 4) (t_ 1),.call (.func 97) [t_ 8],.bin .gtr [] (t_ 9) (i_ 300)] (o_ 11 (.pick (t_ 7) (b_ true) (t_ 10))::m_ 12 11::S_ 13 12 false [.cq 2 (t_ 1),.load none (t_ 13),.bin .gtr [] (t_ 14) (i_ 100)] [o_ 16 (.pick (t_ 12) (b_ true) (t_ 15)),m_ 2 16]))) .ret))
def AQ:=k_k 45 [.tmp 2] r6
def sr:aG:=(G_ [K_ 4 J8] (G_ [m_ 5 0,m_ 6 1,o_ 7 (.build J8 [(0,(1,(t_ 5))),(1,(1,(t_ 6)))]),s_ 2 4 7] .ret))
def Ba:=k_k 46 [.cell 4 (some 2)] sr
def pJ:aG:=(y_ 21 5 25 0 1 26 (U_ 22 1 2 []) (J_ (V_ (wL 28 1 2 5 4 (L_ 32 4 31::wL 33 1 3 5 4 [L_ 37 4 36,F_ 38 99 [t_ 32,t_ 37],o_ 39 (.un .not (t_ 38))]))) (I_ 39 (G_ [M_ 4 false] .ret) .skip)))
def ss:aG:=(G_ [x_ 2 0,x_ 3 1,M_ 4 false] (J_ (G_ (W_ 6 0 2 (W_ 8 0 3 (F_ 10 98 [t_ 7,t_ 9]::o_ 11 (.un .not (t_ 10))::m_ 12 11::S_ 13 12 false [.cq 1 (t_ 2),.load none (t_ 13),.nu (t_ 14),.cq 1 (t_ 3),.load none (t_ 16),.nu (t_ 17),.bin .neq [1] (t_ 15) (t_ 18)] [o_ 20 (.pick (t_ 12) (b_ true) (t_ 19))]))) (I_ 20 (G_ [M_ 4 false] .ret) .skip)) (J_ (G_ [k_ 5 0] (Q_ 0 pJ)) (G_ [M_ 4 true] .ret))))
def Bb:=k_k 47 [.tmp 4] ss
set_option maxRecDepth 100000
def pD:aG:=(y_ 7 6 11 0 1 12 (U_ 8 3 2 []) (G_ (R_ 14 3 2 6 6 (f_ 18 2 17::W_ 19 3 18 [m_ 21 1,F_ 22 104 [t_ 20,t_ 21]])) (I_ 22 (O_ [m_ 23 5,m_ 24 6,v_ 25 zZ 1 24,A_ 26 zZ 8 23 25,m_ 5 26]) .skip)))
def rU:aG:=(.seq (.ops [⟨(some 2),none,(.box (.tmp 0))⟩,⟨(some 4),none,(.mv (.const (.slice none 0 0)))⟩]) (.seq (.ops [⟨(some 5),none,(.mv (.const (.slice none 0 0)))⟩]) (.seq (.seq (.ops [⟨(some 6),none,(.mv (.const (.int .i64 0)))⟩]) (.block 0 (.loop pD))) (.seq (.ops [⟨(some 27),none,(.mv (.tmp 5))⟩,⟨(some 4),none,(.mv (.tmp 27))⟩]) .ret))))
def AN:=k_k 63 [.tmp 4] rU
def kX:aG:=(G_ [Z_ 2] (J_ (G_ [m_ 3 0,o_ 4 (.bin .eql [3] (t_ 3) (.const (.slice none 0 0)))] (I_ 4 (G_ [Z_ 2] .ret) .skip)) (G_ [o_ 5 (.fm 0 [] []),m_ 6 0,A_ 7 Vz 48 5 6,m_ 2 7] .ret)))
def kY:=k_k 66 [.tmp 2] kX
def xN:aG:=(G_ [Z_ 2] (J_ (G_ [m_ 3 0,o_ 4 (.bin .eql [3] (t_ 3) (.const (.slice none 0 0)))] (I_ 4 (G_ [Z_ 2] .ret) .skip)) (G_ [o_ 5 (.fm 0 [] []),m_ 6 0,A_ 7 zZ 8 5 6,m_ 2 7] .ret)))
def nW:=k_k 67 [.tmp 2] xN
def nJ:aG:=(G_ [Z_ 2] (J_ (G_ [m_ 3 0,o_ 4 (.bin .eql [3] (t_ 3) (.const (.slice none 0 0)))] (I_ 4 (G_ [Z_ 2] .ret) .skip)) (G_ [o_ 5 (.fm 0 [] []),m_ 6 0,A_ 7 C6 56 5 6,m_ 2 7] .ret)))
def nV:=k_k 68 [.tmp 2] nJ
def uI:aG:=(N_ 50 49 48 4 5 62 (G_ [m_ 51 49,a_ 52 8 47 49,L_ 53 8 52,K_ 8 Pc,m_ 7 51,s_ 8 8 53] (V_ (jP 54 1 4 (m_ 56 7::jP 57 7 8 [(F_ 59 128 [t_ 58],[54]),a_ 60 8 55 56,f_ 61 7 60,s_ 1 61 59])))))
def uJ:aG:=(N_ 29 28 27 2 3 41 (G_ [m_ 30 28,a_ 31 2 26 28,L_ 32 2 31,K_ 6 Sy,m_ 5 30,s_ 2 6 32] (V_ (jP 33 0 4 (m_ 35 5::jP 36 1 6 [(F_ 38 128 [t_ 37],[33]),a_ 39 2 34 35,f_ 40 1 39,s_ 1 40 38])))))
def uK:aG:=(N_ 17 16 15 0 1 74 (G_ [m_ 18 16,a_ 19 6 14 16,L_ 20 6 19,K_ 4 CV,m_ 3 18,s_ 6 4 20] (G_ (W_ 21 0 4 [F_ 23 127 [t_ 22],f_ 24 0 4,s_ 1 24 23]) (J_ (G_ (U_ 25 0 4 [k_ 28 0]) (Q_ 2 uJ)) (G_ (W_ 42 1 4 [F_ 44 129 [t_ 43],f_ 45 1 4,s_ 1 45 44]) (J_ (G_ (U_ 46 1 4 [k_ 49 0]) (Q_ 4 uI)) (G_ (f_ 63 2 4::W_ 64 3 63 [F_ 66 67 [t_ 65],f_ 67 2 4,f_ 68 3 67,s_ 1 68 66]) (O_ (W_ 69 3 1 [m_ 71 3,L_ 72 6 4,a_ 73 6 70 71,s_ 6 73 72])))))))))
def Dp:aG:=(G_ [x_ 1 0,K_ 2 C6] (G_ (W_ 9 3 1 [F_ 11 126 [t_ 10],f_ 12 3 1,s_ 1 12 11]) (J_ (G_ (U_ 13 3 1 [k_ 16 0]) (Q_ 0 uK)) (G_ [L_ 75 4 1,s_ 4 2 75] .ret))))
def Nv:=k_k 69 [.cell 2 (some 4)] Dp
def yH:aG:=(N_ 10 9 8 0 1 22 (G_ [a_ 11 6 7 9,L_ 12 6 11,K_ 5 CV,s_ 6 5 12] (O_ (m_ 13 3::U_ 14 0 5 (U_ 17 1 5 [B_ 20 .add 16 19,B_ 21 .add 13 20,m_ 3 21])))))
def BB:aG:=(G_ [x_ 1 0,M_ 2 false] (G_ [k_ 3 0] (J_ (G_ (U_ 6 3 1 [k_ 9 0]) (Q_ 0 yH)) (G_ (U_ 23 3 1 (C_ 26 .gtr 25 40::m_ 27 26::S_ 28 27 false [.mv (t_ 3),.bin .gtr [] (t_ 28) (i_ 300)] (o_ 30 (.pick (t_ 27) (b_ true) (t_ 29))::m_ 31 30::S_ 32 31 false [.cq 2 (t_ 1),.load none (t_ 32),.bin .gtr [] (t_ 33) (i_ 100)] [o_ 35 (.pick (t_ 31) (b_ true) (t_ 34)),m_ 2 35]))) .ret))))
def KB:=k_k 70 [.tmp 2] BB
def rD:aG:=(N_ 30 29 28 2 3 42 (G_ [a_ 31 8 27 29,L_ 32 8 31,K_ 11 Pc,s_ 8 11 32] (J_ (G_ [m_ 33 0,L_ 34 8 11,F_ 35 76 [t_ 33,t_ 34]] (I_ 35 (.exit 3) .skip)) (G_ [L_ 36 8 11,F_ 37 132 [t_ 36]] (P_ 4 (.Ko (t_ 37) [38] (O_ [K_ 12 vQ,s_ 2 12 38]) (P_ 5 (O_ [l_ 39 7,L_ 40 2 12,o_ 41 (.call (t_ 39) [t_ 40])]))))))))
def rE:aG:=(N_ 23 22 21 0 1 48 (G_ [a_ 24 6 20 22,L_ 25 6 24,K_ 9 CV,s_ 6 9 25] (J_ (G_ (U_ 26 1 9 [k_ 29 0]) (Q_ 2 rD)) (O_ [l_ 43 7,f_ 44 2 9,f_ 45 1 44,L_ 46 2 45,o_ 47 (.call (t_ 43) [t_ 46])]))))
def Bz:aG:=(G_ [x_ 3 1,Z_ 4] (G_ (W_ 13 2 3 [o_ 15 (.gG [(.bool false)] 1 (t_ 14) (t_ 14)),K_ 5 Sw,s_ 1 5 15]) (G_ [L_ 16 4 3,F_ 17 130 [t_ 16],K_ 6 Sw,s_ 1 6 17] (G_ [o_ 7 (.alloc [.nilFunc])] (G_ [o_ 18 (.uk 131 [t_ 5,t_ 6,t_ 7]),s_ 1 7 18] (J_ (G_ (U_ 19 3 3 [k_ 22 0]) (Q_ 0 rE)) (G_ [l_ 49 5,m_ 4 49] .ret)))))))
def Kz:=k_k 71 [.tmp 4] Bz
def kK:aG:=(y_ 16 6 19 0 1 20 [m_ 17 0,z_ 18 17] (G_ (T_ 22 0 6 2 [L_ 25 2 24,K_ 7 Sy,s_ 2 7 25]) (G_ [m_ 26 1,L_ 27 2 7,o_ 28 (.call (t_ 26) [t_ 27]),o_ 29 (.un .not (t_ 28))] (I_ 29 (G_ [m_ 30 0,m_ 31 5,L_ 32 2 7,a_ 33 2 30 31,s_ 2 33 32] (O_ [m_ 34 5,C_ 35 .add 34 1,m_ 5 35])) .skip))))
def me:aG:=(G_ [Z_ 4] (G_ [m_ 8 0,m_ 9 1,F_ 10 133 [t_ 8,t_ 9],m_ 5 10] (J_ (G_ [m_ 11 5,o_ 12 (.bin .eql [1] (t_ 11) (.const (.int .i64 (Int.negSucc 0))))] (I_ 12 (G_ [m_ 13 0,m_ 4 13] .ret) .skip)) (J_ (G_ [m_ 14 5,C_ 15 .add 14 1,m_ 6 15] (Q_ 0 kK)) (G_ [m_ 36 0,m_ 37 5,o_ 38 (.slice 2 (t_ 36) (some (t_ 37)) none none),u_ (.clear Sy (t_ 38))] (G_ [m_ 39 0,m_ 40 5,o_ 41 (.slice 2 (t_ 39) none (some (t_ 40)) none),m_ 4 41] .ret))))))
def mh:=k_k 72 [.tmp 4] me
def Bx:aG:=(G_ [x_ 2 0,M_ 3 false] (G_ (l_ 4 1::W_ 5 0 2 [a_ 7 1 4 6,l_ 8 7,o_ 9 (.un .not (t_ 8)),m_ 3 9]) .ret))
def Kx:=k_k 73 [.tmp 3] Bx
def kJ:aG:=(y_ 16 6 19 0 1 20 [m_ 17 0,z_ 18 17] (G_ (T_ 22 0 6 8 [L_ 25 8 24,K_ 7 Pc,s_ 8 7 25]) (G_ [m_ 26 1,L_ 27 8 7,o_ 28 (.call (t_ 26) [t_ 27]),o_ 29 (.un .not (t_ 28))] (I_ 29 (G_ [m_ 30 0,m_ 31 5,L_ 32 8 7,a_ 33 8 30 31,s_ 8 33 32] (O_ [m_ 34 5,C_ 35 .add 34 1,m_ 5 35])) .skip))))
def mc:aG:=(G_ [Z_ 4] (G_ [m_ 8 0,m_ 9 1,F_ 10 134 [t_ 8,t_ 9],m_ 5 10] (J_ (G_ [m_ 11 5,o_ 12 (.bin .eql [1] (t_ 11) (.const (.int .i64 (Int.negSucc 0))))] (I_ 12 (G_ [m_ 13 0,m_ 4 13] .ret) .skip)) (J_ (G_ [m_ 14 5,C_ 15 .add 14 1,m_ 6 15] (Q_ 0 kJ)) (G_ [m_ 36 0,m_ 37 5,o_ 38 (.slice 8 (t_ 36) (some (t_ 37)) none none),u_ (.clear Pc (t_ 38))] (G_ [m_ 39 0,m_ 40 5,o_ 41 (.slice 8 (t_ 39) none (some (t_ 40)) none),m_ 4 41] .ret))))))
def mg:=k_k 74 [.tmp 4] mc
def By:aG:=(G_ [x_ 3 0,M_ 4 false] (G_ (l_ 5 1::L_ 6 8 3::F_ 7 76 [t_ 5,t_ 6]::m_ 8 7::S_ 9 8 true [.load none (t_ 2),.cq 1 (t_ 3),.load none (t_ 10),.fw none 1 (t_ 9) (t_ 11),.load none (t_ 12),.un .not (t_ 13)] [o_ 15 (.pick (t_ 8) (t_ 14) (b_ false)),m_ 4 15]) .ret))
def Ky:=k_k 75 [.tmp 4] By
def zg:aG:=(G_ [x_ 3 1,M_ 4 false] (J_ (P_ 0 (G_ (W_ 6 0 3 (Y_ 8 .eql 7 5::m_ 9 8::S_ 10 9 false [.cq 0 (t_ 3),.load none (t_ 10),.bin .eql [1] (t_ 11) (i_ 6)] [o_ 13 (.pick (t_ 9) (b_ true) (t_ 12)),m_ 5 13])) (I_ 5 (G_ (f_ 14 4 3::W_ 15 0 14 (o_ 17 (.un .not (t_ 16))::m_ 18 17::S_ 19 18 true [.cq 4 (t_ 3),.cq 1 (t_ 19),.load none (t_ 20),.bin .neq [1] (t_ 21) (i_ 0)] [o_ 23 (.pick (t_ 18) (t_ 22) (b_ false)),m_ 4 23])) .ret) (G_ (W_ 25 0 3 [Y_ 27 .eql 26 18,m_ 24 27]) (I_ 24 (G_ (f_ 28 2 3::W_ 29 0 28 (o_ 31 (.un .not (t_ 30))::m_ 32 31::S_ 33 32 true [.cq 2 (t_ 3),.cq 1 (t_ 33),.load none (t_ 34),.mv (t_ 0),.bin .sub [] (t_ 36) (i_ 1),.call (.func 80) [t_ 35,(i_ 0),t_ 37]] [o_ 39 (.pick (t_ 32) (t_ 38) (b_ false)),m_ 4 39])) .ret) .skip))))) (G_ (W_ 40 0 3 [F_ 42 80 [t_ 41,(i_ 1),(i_ 17)],m_ 4 42]) .ret)))
def H0:=k_k 76 [.tmp 4] zg
def FW:aG:=(G_ [x_ 1 0,K_ 2 C6] (J_ (V_ [L_ 3 4 1,L_ 4 4 1,(F_ 5 138 [t_ 4],[1]),F_ 6 137 [t_ 3,t_ 5],F_ 7 136 [t_ 6],F_ 8 135 [t_ 7],s_ 4 2 8]) .ret))
def PY:=k_k 77 [.cell 2 (some 4)] FW
def BK:aG:=(N_ 16 15 14 0 1 52 (G_ [m_ 17 15,m_ 3 17] (G_ [m_ 18 0,m_ 19 3,o_ 20 (.index none (t_ 18) (t_ 19)),m_ 4 20] (G_ (m_ 21 4::o_ 22 (.bin .geq [] (t_ 21) (.const (.int .u8 97)))::m_ 23 22::S_ 24 23 true [.mv (t_ 4),.bin .leq [] (t_ 24) (.const (.int .u8 122))] (o_ 26 (.pick (t_ 23) (t_ 25) (b_ false))::m_ 27 26::S_ 28 27 false [.mv (t_ 4),.bin .geq [] (t_ 28) (.const (.int .u8 65)),.mv (t_ 29)] (S_ 31 30 true [.mv (t_ 4),.bin .leq [] (t_ 31) (.const (.int .u8 90))] (q_ 33 27 false (.pick (t_ 30) (t_ 32) (b_ false))::o_ 34 (.pick (t_ 27) (b_ true) (t_ 33))::m_ 35 34::S_ 36 35 false [.mv (t_ 4),.bin .eql [1] (t_ 36) (.const (.int .u8 95))] (o_ 38 (.pick (t_ 35) (b_ true) (t_ 37))::m_ 39 38::S_ 40 39 false [.mv (t_ 3),.bin .gtr [] (t_ 40) (i_ 0),.mv (t_ 41)] (S_ 43 42 true [.mv (t_ 4),.bin .geq [] (t_ 43) (.const (.int .u8 48))] (S_ 45 39 false [.pick (t_ 42) (t_ 44) (b_ false),.mv (t_ 45)] (S_ 47 46 true [.mv (t_ 4),.bin .leq [] (t_ 47) (.const (.int .u8 57))] [q_ 49 39 false (.pick (t_ 46) (t_ 48) (b_ false)),o_ 50 (.pick (t_ 39) (b_ true) (t_ 49)),o_ 51 (.un .not (t_ 50))])))))))) (I_ 51 (G_ [M_ 2 false] .ret) .skip)))))
def FP:aG:=(G_ [M_ 2 false] (J_ (G_ (m_ 5 0::o_ 6 (.JS (t_ 5))::C_ 7 .lss 6 1::m_ 8 7::S_ 9 8 false [.mv (t_ 0),.JS (t_ 9),.bin .gtr [] (t_ 10) (i_ 12)] [o_ 12 (.pick (t_ 8) (b_ true) (t_ 11))]) (I_ 12 (G_ [M_ 2 false] .ret) .skip)) (J_ (G_ [m_ 13 0,o_ 14 (.JS (t_ 13)),k_ 15 0] (Q_ 0 BK)) (G_ [M_ 2 true] .ret))))
def PR:=k_k 78 [.tmp 2] FP
def iA:aG:=(G_ [M_ 4 false] (G_ [m_ 5 0,m_ 6 1,F_ 7 139 [t_ 5,t_ 6],C_ 8 .geq 7 0,m_ 4 8] .ret))
def pa:=k_k 79 [.tmp 4] iA
def Bw:aG:=(G_ [M_ 6 false] (G_ (m_ 7 0::m_ 8 1::B_ 9 .geq 7 8::m_ 10 9::S_ 11 10 true [.mv (t_ 0),.mv (t_ 2),.bin .leq [] (t_ 11) (t_ 12)] [o_ 14 (.pick (t_ 10) (t_ 13) (b_ false)),m_ 6 14]) .ret))
def Kw:=k_k 80 [.tmp 6] Bw
def pB:aG:=(N_ 13 12 11 0 1 25 (G_ [a_ 14 6 10 12,L_ 15 6 14,K_ 7 CV,s_ 6 7 15] (O_ (m_ 16 5::U_ 17 0 7 (U_ 20 1 7 [B_ 23 .add 19 22,B_ 24 .add 16 23,m_ 5 24])))))
def rN:aG:=(G_ [x_ 2 0,k_ 4 0] (G_ [k_ 5 0] (J_ (G_ (f_ 8 2 2::U_ 9 3 8 [k_ 12 0]) (Q_ 0 pB)) (J_ (P_ 2 (G_ (f_ 27 2 2::W_ 28 0 27 [F_ 30 78 [t_ 29],o_ 31 (.un .not (t_ 30)),m_ 26 31]) (I_ 26 (G_ [k_ 4 12] .ret) (G_ (m_ 33 1::f_ 34 2 2::W_ 35 0 34 [F_ 37 79 [t_ 33,t_ 36],m_ 32 37]) (I_ 32 (G_ [k_ 4 7] .ret) (G_ (f_ 39 2 2::W_ 40 1 39 (F_ 42 80 [t_ 41,(i_ 0),(i_ 6)]::o_ 43 (.un .not (t_ 42))::m_ 44 43::S_ 45 44 false [.cq 2 (t_ 2),.cq 2 (t_ 45),.load none (t_ 46),.cq 2 (t_ 2),.cq 1 (t_ 48),.load none (t_ 49),.call (.func 80) [t_ 47,t_ 50,(i_ 100)],.un .not (t_ 51)] [o_ 53 (.pick (t_ 44) (b_ true) (t_ 52)),m_ 38 53])) (I_ 38 (G_ [k_ 4 3] .ret) (G_ (f_ 55 2 2::U_ 56 3 55 (F_ 59 80 [t_ 58,(i_ 1),(i_ 40)]::o_ 60 (.un .not (t_ 59))::m_ 61 60::S_ 62 61 false [.mv (t_ 5),.bin .gtr [] (t_ 62) (i_ 300)] [o_ 64 (.pick (t_ 61) (b_ true) (t_ 63)),m_ 54 64])) (I_ 54 (G_ [k_ 4 2] .ret) .skip))))))))) (G_ [k_ 4 0] .ret)))))
def AJ:=k_k 81 [.tmp 4] rN
def jD:aG:=(N_ 62 61 60 6 7 71 (G_ [a_ 63 8 59 61,L_ 64 8 63,K_ 12 Pc,s_ 8 12 64] (G_ [L_ 65 7 1,L_ 66 8 12,F_ 67 143 [t_ 65,t_ 66],m_ 13 67] (G_ [m_ 68 13,Y_ 69 .neq 68 0] (I_ 69 (G_ [m_ 70 13,m_ 2 70] .ret) .skip)))))
def jE:aG:=(N_ 47 46 45 4 5 57 (G_ [a_ 48 2 44 46,L_ 49 2 48,K_ 9 Sy,s_ 2 9 49] (G_ [L_ 50 7 1,m_ 51 6,L_ 52 2 9,F_ 53 142 [t_ 50,t_ 51,t_ 52],m_ 10 53] (G_ [m_ 54 10,Y_ 55 .neq 54 0] (I_ 55 (G_ [m_ 56 10,m_ 2 56] .ret) .skip)))))
def jF:aG:=(N_ 39 38 37 2 3 72 (G_ [m_ 40 38,a_ 41 6 36 38,L_ 42 6 41,K_ 7 CV,m_ 6 40,s_ 6 7 42] (J_ (G_ (U_ 43 0 7 [k_ 46 0]) (Q_ 4 jE)) (G_ (U_ 58 1 7 [k_ 61 0]) (Q_ 6 jD)))))
def jG:aG:=(N_ 19 18 17 0 1 29 (G_ [a_ 20 6 16 18,L_ 21 6 20,K_ 4 CV,s_ 6 4 21] (G_ [L_ 22 7 1,f_ 23 2 4,L_ 24 4 23,F_ 25 140 [t_ 22,t_ 24],m_ 5 25] (G_ [m_ 26 5,Y_ 27 .neq 26 0] (I_ 27 (G_ [m_ 28 5,m_ 2 28] .ret) .skip)))))
def rM:aG:=(G_ [x_ 1 0,k_ 2 0] (J_ (G_ (f_ 14 2 1::U_ 15 3 14 [k_ 18 0]) (Q_ 0 jG)) (G_ [f_ 30 2 1,L_ 31 4 30,F_ 32 141 [t_ 31],f_ 33 6 1,s_ 1 33 32] (J_ (G_ (f_ 34 2 1::U_ 35 3 34 [k_ 38 0]) (Q_ 2 jF)) (G_ [k_ 2 0] .ret)))))
def AG:=k_k 82 [.tmp 2] rM
def fY:aG:=(N_ 9 8 7 0 1 18 (G_ [m_ 10 8,m_ 5 10] (G_ (m_ 11 1::T_ 12 0 5 4 [L_ 15 4 14,o_ 16 (.call (t_ 11) [t_ 15])]) (I_ 16 (G_ [m_ 17 5,m_ 4 17] .ret) .skip))))
def gq:aG:=(.seq (.ops [⟨(some 4),none,(.mv (.const (.int .i64 0)))⟩]) (.seq (.seq (.ops [⟨(some 6),none,(.mv (.tmp 0))⟩,⟨(some 7),none,(.nu (.tmp 6))⟩,⟨(some 8),none,(.mv (.const (.int .i64 0)))⟩]) (.block 0 (.loop fY))) (.seq (.ops [⟨(some 4),none,(.mv (.const (.int .i64 (Int.negSucc 0))))⟩]) .ret)))
def kZ:=k_k 83 [.tmp 4] gq
def ze:aG:=(G_ [x_ 1 0,M_ 2 false] (G_ (W_ 3 0 1 [⟨(some 5),none,(.bin .eql [2] (t_ 4) (.const (.string ⟨⟨[109,97,105,110]⟩⟩)))⟩,m_ 2 5]) .ret))
def HY:=k_k 84 [.tmp 2] ze
def uF:aG:=(N_ 56 55 54 6 7 74 (G_ [a_ 57 1 53 55,l_ 58 57,m_ 14 58] (P_ 8 (G_ (T_ 65 5 14 1 [l_ 68 67,C_ 69 .lss 68 0,m_ 64 69]) (I_ 64 .skip (G_ [m_ 71 12,C_ 72 .lss 71 0,m_ 70 72] (I_ 70 (O_ [m_ 73 14,m_ 12 73]) (O_ [m_ 59 5,m_ 60 4,m_ 61 12,m_ 62 14,F_ 63 145 [t_ 59,t_ 60,t_ 61,t_ 62],m_ 12 63]))))))))
def j7:aG:=(N_ 47 46 45 4 5 85 (G_ [a_ 48 1 44 46,l_ 49 48,m_ 11 49] (G_ [k_ 12 (Int.negSucc 0)] (J_ (G_ (T_ 50 8 11 1 [l_ 53 52,z_ 54 53,k_ 55 0]) (Q_ 6 uF)) (G_ (T_ 75 5 11 1 [l_ 78 77,m_ 79 12,X_ 80 .neq 78 79]) (I_ 80 (O_ [m_ 81 5,m_ 82 11,m_ 83 12,a_ 84 1 81 82,s_ 1 84 83,M_ 9 true]) .skip))))))
def uG:aG:=(J_ (G_ [m_ 42 9] (H_ 42 2)) (P_ 3 (G_ [M_ 9 false] (G_ [m_ 43 3,o_ 44 (.slice 1 (t_ 43) (some (i_ 1)) none none),z_ 45 44,k_ 46 0] (Q_ 4 j7)))))
def uH:aG:=(N_ 29 28 27 0 1 37 (G_ [m_ 30 28,a_ 31 1 26 28,l_ 32 31,m_ 6 30,m_ 7 32] (O_ [m_ 33 4,m_ 34 7,m_ 35 6,a_ 36 1 33 34,s_ 1 36 35])))
def Dl:aG:=(G_ [x_ 1 0,Z_ 2] (G_ [L_ 15 4 1,F_ 16 138 [t_ 15],m_ 3 16] (G_ (U_ 17 3 1 [o_ 20 (.gG zZ 8 (t_ 19) (t_ 19)),m_ 4 20]) (G_ (o_ 21 (.fm 1 zZ [(0,(1,(.const (.int .i64 (Int.negSucc 0)))))])::U_ 22 3 1 [F_ 25 144 [t_ 21,t_ 24],m_ 5 25]) (J_ (G_ [m_ 26 3,z_ 27 26,k_ 28 0] (Q_ 0 uH)) (G_ [m_ 38 5,o_ 39 (.fw none 1 (t_ 38) (i_ 0)),u_ (.store 1 (t_ 39) (i_ 0))] (G_ [L_ 40 4 1,F_ 41 101 [t_ 40],m_ 8 41] (J_ (G_ [M_ 9 true] (Q_ 2 uG)) (G_ [m_ 86 5,o_ 87 (.fw none 1 (t_ 86) (i_ 0)),u_ (.store 1 (t_ 87) (.const (.int .i64 (Int.negSucc 0))))] (G_ [m_ 88 5,m_ 2 88] .ret))))))))))
def Nu:=k_k 85 [.tmp 2] Dl
def jx:aG:=(J_ (G_ [m_ 34 8,m_ 35 7,z_ 36 35,B_ 37 .lss 34 36] (H_ 37 0)) (P_ 1 (V_ [m_ 38 8,m_ 39 7,m_ 40 8,o_ 41 (.slice 2 (t_ 39) (some (t_ 40)) none none),m_ 42 7,m_ 43 8,o_ 44 (.slice 2 (t_ 42) none (some (t_ 43)) none),o_ 45 (.copy 2 (t_ 41) (t_ 44)),B_ 46 .add 38 45,m_ 8 46])))
def jR:aG:=(G_ [Z_ 4] (J_ (G_ [m_ 9 1,C_ 10 .lss 9 0] (I_ 10 (O_ [⟨(some 11),none,.bad⟩,⟨none,none,.bad⟩]) .skip)) (G_ [m_ 13 0,z_ 14 13,o_ 15 (.conv .u64 (t_ 14)),m_ 16 1,o_ 17 (.conv .u64 (t_ 16)),F_ 18 146 [t_ 15,t_ 17],m_ 12 18,E_ 19 0 12,E_ 20 1 12,m_ 5 19,m_ 6 20] (J_ (G_ (m_ 21 5::o_ 22 (.bin .gtr [] (t_ 21) (.const (.int .u64 0)))::m_ 23 22::S_ 24 23 false [.mv (t_ 6),.bin .gtr [] (t_ 24) (.const (.int .u64 9223372036854775807))] [o_ 26 (.pick (t_ 23) (b_ true) (t_ 25))]) (I_ 26 (O_ [⟨(some 27),none,.bad⟩,⟨none,none,.bad⟩]) .skip)) (G_ [m_ 28 6,o_ 29 (.conv .i64 (t_ 28)),o_ 30 (.gG J8 16 (t_ 29) (t_ 29)),m_ 7 30] (G_ [m_ 31 7,m_ 32 0,o_ 33 (.copy 2 (t_ 31) (t_ 32)),m_ 8 33] (J_ (Q_ 0 jx) (G_ [m_ 47 7,m_ 4 47] .ret))))))))
def fQ:=k_k 86 [.tmp 4] jR
def Dr:aG:=(G_ [x_ 1 0,Z_ 2] (G_ [K_ 3 Sw] (G_ (U_ 6 3 1 [o_ 9 (.gG [(.bool false)] 1 (t_ 8) (t_ 8)),K_ 4 Sw,s_ 1 4 9]) (G_ [o_ 5 (.alloc [.nilFunc])] (G_ [o_ 10 (.uk 147 [t_ 4,t_ 1,t_ 5,t_ 3]),s_ 1 5 10] (G_ [l_ 11 5,o_ 12 (.call (t_ 11) [(i_ 0)])] (G_ [l_ 13 3,m_ 2 13] .ret)))))))
def Nx:=k_k 87 [.tmp 2] Dr
def jf:aG:=(N_ 57 56 55 6 7 75 (G_ [m_ 58 56,a_ 59 8 54 56,L_ 60 8 59,K_ 10 Pc,m_ 9 58,s_ 8 10 60] (O_ (W_ 61 1 10 (C_ 63 .lss 62 0::m_ 64 63::S_ 65 64 false [.mv (t_ 0),.cq 1 (t_ 10),.load none (t_ 66),.mv (t_ 5),.mv (t_ 9),.call (.func 149) [t_ 65,t_ 67,t_ 68,t_ 69]] [o_ 71 (.pick (t_ 64) (b_ true) (t_ 70)),m_ 72 71,q_ 73 72 true (.mv (t_ 3)),o_ 74 (.pick (t_ 72) (t_ 73) (b_ false)),m_ 3 74])))))
def jg:aG:=(N_ 41 40 39 4 5 52 (G_ [a_ 42 2 38 40,L_ 43 2 42,K_ 8 Sy,s_ 2 8 43] (O_ (m_ 44 0::W_ 45 0 8 [m_ 47 5,F_ 48 149 [t_ 44,t_ 46,t_ 47,(.const (.int .i64 (Int.negSucc 0)))],m_ 49 48,q_ 50 49 true (.mv (t_ 3)),o_ 51 (.pick (t_ 49) (t_ 50) (b_ false)),m_ 3 51]))))
def om:aG:=(N_ 33 32 31 2 3 76 (G_ [m_ 34 32,a_ 35 6 30 32,L_ 36 6 35,K_ 6 CV,m_ 5 34,s_ 6 6 36] (J_ (G_ (U_ 37 0 6 [k_ 40 0]) (Q_ 4 jg)) (G_ (U_ 53 1 6 [k_ 56 0]) (Q_ 6 jf)))))
def jh:aG:=(N_ 17 16 15 0 1 25 (G_ [m_ 18 16,m_ 4 18] (O_ [m_ 19 0,m_ 20 4,F_ 21 149 [t_ 19,t_ 20,(i_ 0),(.const (.int .i64 (Int.negSucc 0)))],m_ 22 21,q_ 23 22 true (.mv (t_ 3)),o_ 24 (.pick (t_ 22) (t_ 23) (b_ false)),m_ 3 24])))
def qB:aG:=(G_ [M_ 2 false] (G_ [M_ 3 true] (J_ (G_ (m_ 11 0::n_ 12 11::f_ 13 0 12::W_ 14 1 13 [k_ 16 0]) (Q_ 0 jh)) (J_ (G_ (m_ 26 0::n_ 27 26::f_ 28 0 27::U_ 29 3 28 [k_ 32 0]) (Q_ 2 om)) (G_ [m_ 77 3,m_ 2 77] .ret)))))
def zq:=k_k 88 [.tmp 2] qB
def j8:aG:=(N_ 73 72 71 6 7 86 (G_ [m_ 74 72,a_ 75 8 70 72,L_ 76 8 75,K_ 11 zZ,K_ 12 Pc,s_ 1 11 74,s_ 8 12 76] (G_ [L_ 77 8 12,F_ 78 132 [t_ 77]] (P_ 8 (.Ko (t_ 78) [79] (O_ [K_ 13 vQ,s_ 2 13 79]) (P_ 9 (G_ [l_ 80 1,L_ 81 2 13,l_ 82 4,l_ 83 11,F_ 84 150 [t_ 80,t_ 81,t_ 82,t_ 83],o_ 85 (.un .not (t_ 84))] (I_ 85 (G_ [u_ (.store 1 (t_ 2) (b_ false))] .ret) .skip))))))))
def j9:aG:=(N_ 41 40 39 4 5 67 (G_ [m_ 42 40,a_ 43 2 38 40,L_ 44 2 43,K_ 9 vQ,m_ 8 42,s_ 2 9 44] (G_ [m_ 45 3,l_ 46 4,a_ 47 1 45 46,l_ 48 47,m_ 49 8,a_ 50 1 48 49,l_ 51 50,m_ 10 51] (J_ (V_ (l_ 52 1::L_ 53 2 9::m_ 54 10::l_ 55 1::n_ 56 55::f_ 57 0 56::wL 58 3 57 10 6 (jP 62 1 61 [z_ 64 63,F_ 65 150 [t_ 52,t_ 53,t_ 54,t_ 64],o_ 66 (.un .not (t_ 65))]))) (I_ 66 (G_ [u_ (.store 1 (t_ 2) (b_ false))] .ret) .skip)))))
def j_:aG:=(N_ 34 33 32 2 3 68 (G_ [a_ 35 2 31 33,L_ 36 2 35,K_ 7 Sy,s_ 2 7 36] (G_ (U_ 37 1 7 [k_ 40 0]) (Q_ 4 j9))))
def qL:aG:=(N_ 26 25 24 0 1 97 (G_ [m_ 27 25,a_ 28 6 23 25,L_ 29 6 28,K_ 4 zZ,K_ 5 CV,s_ 1 4 27,s_ 6 5 29] (J_ (G_ (U_ 30 0 5 [k_ 33 0]) (Q_ 2 j_)) (J_ (G_ (U_ 69 1 5 [k_ 72 0]) (Q_ 6 j8)) (G_ (l_ 87 1::f_ 88 2 5::f_ 89 1 88::L_ 90 2 89::l_ 91 4::U_ 92 1 5 [F_ 95 150 [t_ 87,t_ 90,t_ 91,t_ 94],o_ 96 (.un .not (t_ 95))]) (I_ 96 (G_ [u_ (.store 1 (t_ 2) (b_ false))] .ret) .skip))))))
def tJ:aG:=(G_ [x_ 1 0,o_ 2 (.alloc [(.bool false)])] (G_ [l_ 14 1,n_ 15 14,f_ 16 0 15,L_ 17 4 16,F_ 18 101 [t_ 17],m_ 3 18] (J_ (G_ (l_ 19 1::n_ 20 19::f_ 21 0 20::U_ 22 3 21 [k_ 25 0]) (Q_ 0 qL)) (G_ [u_ (.store 1 (t_ 2) (b_ true))] .ret))))
def Cc:=k_k 89 [.cell 2 none] tJ
def jH:aG:=(y_ 47 5 51 2 3 52 (U_ 48 1 1 []) (G_ (R_ 54 1 1 5 8 [L_ 58 8 57,K_ 6 Pc,s_ 8 6 58]) (G_ (o_ 59 (.fm 0 [] [])::W_ 60 7 6 [A_ 62 vQ 16 59 61,f_ 63 7 6,s_ 1 63 62]) (O_ (W_ 64 1 3 [L_ 66 8 6,v_ 67 Pc 8 66,A_ 68 Pc 80 65 67,f_ 69 1 3,s_ 1 69 68])))))
def jI:aG:=(y_ 20 4 24 0 1 25 (U_ 21 0 1 []) (V_ (jP 27 0 3 (wL 29 0 1 4 2 (jP 33 0 32 (o_ 35 (.fm 0 [] [])::wL 36 0 1 4 2 (jP 40 1 39 [(A_ 42 vQ 16 35 41,[27,29,33]),o_ 43 (.build Sy [(0,(1,(t_ 34))),(1,(1,(t_ 42)))]),v_ 44 Sy 2 43,A_ 45 Sy 32 28 44,f_ 46 0 3,s_ 1 46 45])))))))
def rV:aG:=(G_ [x_ 1 0,K_ 2 CV] (J_ (V_ (f_ 7 2 1::jP 8 0 7 (f_ 10 2 1::f_ 11 1 10::L_ 12 2 11::o_ 13 (.fm 0 [] [])::f_ 14 2 1::jP 15 3 14 [K_ 3 CV,(A_ 17 zZ 8 13 16,[8,11,3]),o_ 18 (.build ags [(0,(1,(t_ 9))),(1,(2,(t_ 12))),(3,(1,(t_ 17)))]),o_ 19 (.build CV [(2,(4,(t_ 18)))]),s_ 6 3 19]))) (J_ (G_ [k_ 4 0] (Q_ 0 jI)) (J_ (G_ [k_ 5 0] (Q_ 2 jH)) (G_ [L_ 70 6 3,s_ 6 2 70] .ret)))))
def AO:=k_k 90 [.cell 2 (some 6)] rV
def pE:aG:=(y_ 13 9 16 0 1 17 [m_ 14 7,z_ 15 14] (V_ (m_ 19 8::Vs 20 7 9 1 (l_ 23 22::wL 24 1 5 9 2 [L_ 28 2 27,o_ 29 (.build w7_ [(0,(1,(t_ 23))),(1,(2,(t_ 28)))]),v_ 30 w7_ 3 29,A_ 31 w7_ 24 19 30,m_ 8 31]))))
def rZ:aG:=(G_ [x_ 3 0,x_ 5 2,Z_ 6] (G_ [L_ 10 4 3,m_ 11 1,F_ 12 63 [t_ 10,t_ 11],m_ 7 12] (G_ [Z_ 8] (J_ (G_ [k_ 9 0] (Q_ 0 pE)) (G_ [m_ 32 8,m_ 6 32] .ret)))))
def AP:=k_k 91 [.tmp 6] rZ
def pG:aG:=(y_ 6 5 9 0 1 10 [m_ 7 0,z_ 8 7] (G_ (T_ 12 0 5 1 [l_ 15 14,m_ 16 1,X_ 17 .eql 15 16]) (I_ 17 (G_ [m_ 18 5,m_ 4 18] .ret) .skip)))
def se:aG:=(.seq (.ops [⟨(some 4),none,(.mv (.const (.int .i64 0)))⟩]) (.seq (.seq (.ops [⟨(some 5),none,(.mv (.const (.int .i64 0)))⟩]) (.block 0 (.loop pG))) (.seq (.ops [⟨(some 4),none,(.mv (.const (.int .i64 (Int.negSucc 0))))⟩]) .ret)))
def AU:=k_k 92 [.tmp 4] se
def lM:aG:=(y_ 13 7 16 2 3 17 [m_ 14 0,z_ 15 14] (G_ (T_ 19 0 7 3 (W_ 22 0 21 [m_ 24 6,X_ 25 .eql 23 24])) (I_ 25 (G_ (m_ 26 5::T_ 27 0 7 3 [f_ 30 1 29,L_ 31 2 30,v_ 32 vQ 2 31,A_ 33 vQ 16 26 32,m_ 5 33]) (.exit 2)) .skip)))
def sZ:aG:=(y_ 8 6 10 0 1 11 [m_ 9 1] (G_ [k_ 7 0] (Q_ 2 lM)))
def vo:aG:=(.seq (.ops [⟨(some 4),none,(.mv (.const (.slice none 0 0)))⟩]) (.seq (.ops [⟨(some 5),none,(.mv (.const (.slice none 0 0)))⟩]) (.seq (.seq (.ops [⟨(some 6),none,(.mv (.const (.int .i64 0)))⟩]) (.block 0 (.loop sZ))) (.seq (.ops [⟨(some 34),none,(.mv (.tmp 5))⟩,⟨(some 4),none,(.mv (.tmp 34))⟩]) .ret))))
def DB:=k_k 93 [.tmp 4] vo
def qO:aG:=(J_ (G_ [m_ 28 11,C_ 29 .geq 28 0] (H_ 29 0)) (J_ (P_ 1 (G_ (m_ 32 2::T_ 33 10 11 1 [l_ 36 35,F_ 37 104 [t_ 32,t_ 36],o_ 38 (.un .not (t_ 37))]) (I_ 38 (V_ (L_ 40 4 4::Vs 41 10 11 1 [l_ 44 43,m_ 45 2,m_ 46 3,F_ 47 94 [t_ 40,t_ 44,t_ 45,t_ 46],m_ 39 47,E_ 48 0 39,E_ 49 1 39,m_ 2 48,m_ 3 49])) .skip))) (O_ [m_ 30 11,C_ 31 .sub 30 1,m_ 11 31])))
def tQ:aG:=(G_ [x_ 4 0,Z_ 8,Z_ 9] (G_ [o_ 12 (.fm 0 [] []),m_ 13 2,A_ 14 zZ 8 12 13,m_ 15 1,v_ 16 zZ 1 15,A_ 17 zZ 8 14 16,m_ 2 17] (G_ (R_ 18 3 4 1 6 (f_ 22 2 21::W_ 23 3 22 [m_ 10 24])) (J_ (G_ [m_ 25 10,z_ 26 25,C_ 27 .sub 26 1,m_ 11 27] (Q_ 0 qO)) (G_ [m_ 50 2,o_ 51 (.fm 0 [] []),m_ 52 3,A_ 53 zZ 8 51 52,m_ 54 1,v_ 55 zZ 1 54,A_ 56 zZ 8 53 55,m_ 8 50,m_ 9 56] .ret)))))
def Cj:=k_k 94 [(.tmp 8),(.tmp 9)] tQ
def lx:aG:=(y_ 91 10 99 10 11 100 (R_ 92 3 1 9 6 (U_ 96 0 95 [])) (O_ (m_ 102 3::R_ 103 3 1 9 6 (R_ 107 0 106 10 2 (W_ 111 1 110 [F_ 113 152 [t_ 102,t_ 112],m_ 3 113])))))
def lz:aG:=(y_ 84 9 88 8 9 89 (U_ 85 3 1 []) (G_ [k_ 10 0] (Q_ 10 lx)))
def lC:aG:=(y_ 48 8 52 6 7 53 (U_ 49 1 6 []) (G_ (m_ 55 3::R_ 56 1 6 8 8 [L_ 60 8 59,F_ 61 44 [t_ 60],F_ 62 152 [t_ 55,t_ 61],m_ 3 62]) (G_ (R_ 63 1 6 8 8 (W_ 67 1 66 [C_ 69 .geq 68 0])) (I_ 69 (O_ (m_ 70 3::R_ 71 1 6 8 8 (W_ 75 1 74 [F_ 77 151 [t_ 70,t_ 76],m_ 3 77]))) .skip))))
def lD:aG:=(y_ 33 7 37 4 5 38 (U_ 34 0 6 []) (O_ (m_ 40 3::R_ 41 0 6 7 2 (W_ 45 0 44 [F_ 47 151 [t_ 40,t_ 46],m_ 3 47]))))
def lJ:aG:=(y_ 21 5 25 2 3 26 (U_ 22 3 1 []) (G_ (R_ 28 3 1 5 6 [L_ 32 6 31,K_ 6 CV,s_ 6 6 32]) (J_ (G_ [k_ 7 0] (Q_ 4 lD)) (J_ (G_ [k_ 8 0] (Q_ 6 lC)) (O_ [m_ 78 3,f_ 79 2 6,f_ 80 1 79,L_ 81 2 80,v_ 82 vQ 2 81,F_ 83 152 [t_ 78,t_ 82],m_ 3 83])))))
def lK:aG:=(y_ 11 4 14 0 1 15 (W_ 12 1 1 []) (O_ [m_ 17 3,m_ 18 4,v_ 19 zZ 1 18,A_ 20 zZ 8 17 19,m_ 3 20]))
def vn:aG:=(.seq (.ops [⟨(some 1),none,(.box (.tmp 0))⟩,⟨(some 2),none,(.mv (.const (.slice none 0 0)))⟩]) (.seq (.ops [⟨(some 3),none,(.mv (.const (.slice none 0 0)))⟩]) (.seq (.seq (.ops [⟨(some 4),none,(.mv (.const (.int .i64 0)))⟩]) (.block 0 (.loop lK))) (.seq (.seq (.ops [⟨(some 5),none,(.mv (.const (.int .i64 0)))⟩]) (.block 2 (.loop lJ))) (.seq (.seq (.ops [⟨(some 9),none,(.mv (.const (.int .i64 0)))⟩]) (.block 8 (.loop lz))) (.seq (.ops [⟨(some 114),none,(.mv (.tmp 3))⟩,⟨(some 2),none,(.mv (.tmp 114))⟩]) .ret))))))
def DA:=k_k 95 [.tmp 2] vn
set_option maxRecDepth 100000
def iL:aG:=(y_ 109 11 117 8 9 118 (R_ 110 1 7 10 8 (U_ 114 7 113 [])) (V_ (wL 120 1 7 10 8 (jP 124 7 123 (m_ 126 11::wL 127 1 7 10 8 (wL 131 7 130 11 2 [L_ 135 2 134,m_ 136 1,(F_ 137 153 [t_ 135,t_ 136],[120,124]),a_ 138 2 125 126,s_ 2 138 137]))))))
def iM:aG:=(y_ 76 10 80 6 7 81 (U_ 77 1 7 []) (J_ (V_ (jP 83 1 7 (m_ 85 10::wL 86 1 7 10 8 [f_ 90 2 89,L_ 91 2 90,m_ 92 1,(F_ 93 153 [t_ 91,t_ 92],[83]),a_ 94 8 84 85,f_ 95 2 94,s_ 2 95 93]))) (J_ (V_ (jP 96 1 7 (m_ 98 10::wL 99 1 7 10 8 [f_ 103 4 102,L_ 104 2 103,m_ 105 1,(F_ 106 153 [t_ 104,t_ 105],[96]),a_ 107 8 97 98,f_ 108 4 107,s_ 2 108 106]))) (J_ (G_ [k_ 11 0] (Q_ 8 iL)) (G_ (R_ 139 1 7 10 8 (W_ 143 1 142 [C_ 145 .geq 144 0])) (I_ 145 (V_ (jP 146 1 7 (m_ 148 10::m_ 149 1::wL 150 1 7 10 8 (jP 154 1 153 [(F_ 156 92 [t_ 149,t_ 155],[146]),a_ 157 8 147 148,f_ 158 1 157,s_ 1 158 156])))) .skip))))))
def iN:aG:=(y_ 46 9 54 4 5 55 (R_ 47 0 7 8 2 (U_ 51 1 50 [])) (V_ (wL 57 0 7 8 2 (jP 61 1 60 (m_ 63 9::wL 64 0 7 8 2 (wL 68 1 67 9 2 [L_ 72 2 71,m_ 73 1,(F_ 74 153 [t_ 72,t_ 73],[57,61]),a_ 75 2 62 63,s_ 2 75 74]))))))
def iO:aG:=(y_ 26 8 30 2 3 31 (U_ 27 0 7 []) (J_ (V_ (jP 33 0 7 (m_ 35 8::m_ 36 1::wL 37 0 7 8 2 (jP 41 0 40 [(F_ 43 92 [t_ 36,t_ 42],[33]),a_ 44 2 34 35,f_ 45 0 44,s_ 1 45 43])))) (G_ [k_ 9 0] (Q_ 4 iN))))
def iP:aG:=(y_ 14 6 18 0 1 19 (U_ 15 3 5 []) (G_ (R_ 21 3 5 6 6 [L_ 25 6 24,K_ 7 CV,s_ 6 7 25]) (J_ (G_ [k_ 8 0] (Q_ 2 iO)) (J_ (G_ [k_ 10 0] (Q_ 6 iM)) (G_ [f_ 159 2 7,f_ 160 1 159,L_ 161 2 160,m_ 162 1,F_ 163 153 [t_ 161,t_ 162],f_ 164 2 7,f_ 165 1 164,s_ 2 165 163] (O_ (W_ 166 3 5 [m_ 168 6,L_ 169 6 7,a_ 170 6 167 168,s_ 6 170 169])))))))
def pt:aG:=(G_ [x_ 2 0,K_ 4 C6] (G_ [L_ 12 4 2,F_ 13 37 [t_ 12],K_ 5 C6,s_ 4 5 13] (J_ (G_ [k_ 6 0] (Q_ 0 iP)) (G_ [L_ 171 4 5,s_ 4 4 171] .ret))))
def yL:=k_k 96 [.cell 4 (some 4)] pt
def qM:aG:=(y_ 5 4 9 0 1 10 (U_ 6 3 1 []) (V_ (m_ 12 3::wL 13 3 1 4 6 (jP 17 0 16 (z_ 19 18::B_ 20 .add 12 19::wL 21 3 1 4 6 (jP 25 1 24 [z_ 27 26,B_ 28 .add 20 27,m_ 3 28]))))))
def tM:aG:=(.seq (.ops [⟨(some 1),none,(.box (.tmp 0))⟩,⟨(some 2),none,(.mv (.const (.int .i64 0)))⟩]) (.seq (.ops [⟨(some 3),none,(.mv (.const (.int .i64 0)))⟩]) (.seq (.seq (.ops [⟨(some 4),none,(.mv (.const (.int .i64 0)))⟩]) (.block 0 (.loop qM))) (.seq (.ops [⟨(some 29),none,(.mv (.tmp 3))⟩,⟨(some 2),none,(.mv (.tmp 29))⟩]) .ret))))
def Cf:=k_k 97 [.tmp 2] tM
def nq:aG:=(y_ 11 5 14 0 1 15 [m_ 12 0,z_ 13 12] (J_ (V_ (Vs 17 0 5 3 (jP 20 0 19 (Vs 22 1 5 3 (jP 25 0 24 [o_ 27 (.bin .neq [2] (t_ 21) (t_ 26)),m_ 28 27,q_ 29 28 false (.mv (t_ 0)),q_ 30 28 false (.mv (t_ 5)),q_ 31 28 false (.fw none 3 (t_ 29) (t_ 30)),q_ 32 28 false (.cq 1 (t_ 31)),q_ 33 28 false (.load none (t_ 32)),q_ 34 28 false (.mv (t_ 1)),q_ 35 28 false (.mv (t_ 5)),q_ 36 28 false (.fw none 3 (t_ 34) (t_ 35)),q_ 37 28 false (.cq 1 (t_ 36)),q_ 38 28 false (.load none (t_ 37)),q_ 39 28 false (.bin .neq [1] (t_ 33) (t_ 38)),o_ 40 (.pick (t_ 28) (b_ true) (t_ 39)),m_ 41 40,q_ 42 41 false (.mv (t_ 0)),q_ 43 41 false (.mv (t_ 5)),q_ 44 41 false (.fw none 3 (t_ 42) (t_ 43)),q_ 45 41 false (.cq 2 (t_ 44)),q_ 46 41 false (.load none (t_ 45)),q_ 47 41 false (.mv (t_ 1)),q_ 48 41 false (.mv (t_ 5)),q_ 49 41 false (.fw none 3 (t_ 47) (t_ 48)),q_ 50 41 false (.cq 2 (t_ 49)),q_ 51 41 false (.load none (t_ 50)),q_ 52 41 false (.call (.func 154) [t_ 46,t_ 51]),q_ 53 41 false (.un .not (t_ 52)),o_ 54 (.pick (t_ 41) (b_ true) (t_ 53))]))))) (I_ 54 (G_ [M_ 4 false] .ret) .skip)))
def px:aG:=(G_ [M_ 4 false] (J_ (G_ [m_ 6 0,z_ 7 6,m_ 8 1,z_ 9 8,X_ 10 .neq 7 9] (I_ 10 (G_ [M_ 4 false] .ret) .skip)) (J_ (G_ [k_ 5 0] (Q_ 0 nq)) (G_ [M_ 4 true] .ret))))
def yN:=k_k 98 [.tmp 4] px
def qP:aG:=(y_ 34 5 38 0 1 39 (U_ 35 3 2 []) (J_ (V_ (wL 41 3 2 5 6 (L_ 45 6 44::wL 46 3 3 5 6 [L_ 50 6 49,F_ 51 155 [t_ 45,t_ 50],o_ 52 (.un .not (t_ 51))]))) (I_ 52 (G_ [M_ 4 false] .ret) .skip)))
def tT:aG:=(G_ [x_ 2 0,x_ 3 1,M_ 4 false] (J_ (G_ (W_ 6 0 2 (W_ 8 0 3 (o_ 10 (.bin .neq [2] (t_ 7) (t_ 9))::m_ 11 10::S_ 12 11 false [.cq 1 (t_ 2),.load none (t_ 12),.cq 1 (t_ 3),.load none (t_ 14),.bin .neq [1] (t_ 13) (t_ 15)] (o_ 17 (.pick (t_ 11) (b_ true) (t_ 16))::m_ 18 17::S_ 19 18 false [.cq 2 (t_ 2),.load none (t_ 19),.cq 2 (t_ 3),.load none (t_ 21),.bin .neq [1] (t_ 20) (t_ 22)] (o_ 24 (.pick (t_ 18) (b_ true) (t_ 23))::m_ 25 24::S_ 26 25 false [.cq 3 (t_ 2),.load none (t_ 26),.nu (t_ 27),.cq 3 (t_ 3),.load none (t_ 29),.nu (t_ 30),.bin .neq [1] (t_ 28) (t_ 31)] [o_ 33 (.pick (t_ 25) (b_ true) (t_ 32))]))))) (I_ 33 (G_ [M_ 4 false] .ret) .skip)) (J_ (G_ [k_ 5 0] (Q_ 0 qP)) (G_ [M_ 4 true] .ret))))
def Cm:=k_k 99 [.tmp 4] tT
def rF:aG:=(N_ 25 24 23 2 3 38 (G_ [a_ 26 1 22 24,l_ 27 26,m_ 7 27] (O_ (m_ 28 3::m_ 29 7::T_ 30 3 7 1 [l_ 33 32,m_ 34 4,v_ 35 zZ 1 34,A_ 36 zZ 8 33 35,a_ 37 1 28 29,s_ 1 37 36]))))
def yG:aG:=(N_ 16 15 14 0 1 39 (G_ [m_ 17 15,a_ 18 6 13 15,L_ 19 6 18,K_ 5 CV,m_ 4 17,s_ 6 5 19] (G_ (f_ 20 2 5::U_ 21 3 20 [k_ 24 0]) (Q_ 2 rF))))
def BA:aG:=(G_ [x_ 1 0,Z_ 2] (G_ (U_ 8 3 1 [o_ 11 (.gG Sw 24 (t_ 10) (t_ 10)),m_ 3 11]) (J_ (G_ (U_ 12 3 1 [k_ 15 0]) (Q_ 0 yG)) (G_ [m_ 40 3,m_ 2 40] .ret))))
def KA:=k_k 101 [.tmp 2] BA
def sQ:aG:=(y_ 6 5 9 0 1 10 [m_ 7 0,z_ 8 7] (G_ (T_ 12 0 5 1 [l_ 15 14,m_ 16 1,X_ 17 .eql 15 16]) (I_ 17 (G_ [M_ 4 true] .ret) .skip)))
def vm:aG:=(.seq (.ops [⟨(some 4),none,(.mv (.const (.bool false)))⟩]) (.seq (.seq (.ops [⟨(some 5),none,(.mv (.const (.int .i64 0)))⟩]) (.block 0 (.loop sQ))) (.seq (.ops [⟨(some 4),none,(.mv (.const (.bool false)))⟩]) .ret)))
def Dz:=k_k 104 [.tmp 4] vm
def mB:aG:=(G_ [Z_ 2] (J_ (G_ [m_ 3 0,o_ 4 (.bin .eql [3] (t_ 3) (.const (.slice none 0 0)))] (I_ 4 (G_ [Z_ 2] .ret) .skip)) (G_ [o_ 5 (.fm 0 [] []),m_ 6 0,A_ 7 CV 96 5 6,m_ 2 7] .ret)))
def mF:=k_k 126 [.tmp 2] mB
def pL:aG:=(G_ [Z_ 2] (J_ (G_ [m_ 3 0,o_ 4 (.bin .eql [3] (t_ 3) (.const (.slice none 0 0)))] (I_ 4 (G_ [Z_ 2] .ret) .skip)) (G_ [o_ 5 (.fm 0 [] []),m_ 6 0,A_ 7 Sy 32 5 6,m_ 2 7] .ret)))
def pO:=k_k 127 [.tmp 2] pL
def pM:aG:=(G_ [Z_ 2] (J_ (G_ [m_ 3 0,o_ 4 (.bin .eql [3] (t_ 3) (.const (.slice none 0 0)))] (I_ 4 (G_ [Z_ 2] .ret) .skip)) (G_ [o_ 5 (.fm 0 [] []),m_ 6 0,A_ 7 vQ 16 5 6,m_ 2 7] .ret)))
def iF:=k_k 128 [.tmp 2] pM
def pK:aG:=(G_ [Z_ 2] (J_ (G_ [m_ 3 0,o_ 4 (.bin .eql [3] (t_ 3) (.const (.slice none 0 0)))] (I_ 4 (G_ [Z_ 2] .ret) .skip)) (G_ [o_ 5 (.fm 0 [] []),m_ 6 0,A_ 7 Pc 80 5 6,m_ 2 7] .ret)))
def pN:=k_k 129 [.tmp 2] pK
def uD:aG:=(N_ 38 37 36 4 5 51 (G_ [a_ 39 8 35 37,L_ 40 8 39,K_ 9 Pc,s_ 8 9 40] (G_ (W_ 41 1 9 [C_ 43 .geq 42 0]) (I_ 43 (V_ (m_ 44 3::jP 45 1 9 [L_ 47 8 9,F_ 48 132 [t_ 47],(F_ 49 191 [t_ 48],[45]),a_ 50 1 44 46,s_ 1 50 49])) .skip))))
def uE:aG:=(N_ 24 23 22 2 3 33 (G_ [a_ 25 2 21 23,L_ 26 2 25,K_ 7 Sy,s_ 2 7 26] (O_ (m_ 27 3::W_ 28 0 7 (W_ 30 1 7 [a_ 32 1 27 29,s_ 1 32 31])))))
def zT:aG:=(N_ 17 16 15 0 1 52 (G_ [a_ 18 6 14 16,L_ 19 6 18,K_ 5 CV,s_ 6 5 19] (J_ (G_ (U_ 20 0 5 [k_ 23 0]) (Q_ 2 uE)) (G_ (U_ 34 1 5 [k_ 37 0]) (Q_ 4 uD)))))
def Dk:aG:=(G_ [x_ 1 0,Z_ 2] (G_ (W_ 10 2 1 [o_ 12 (.gG Sw 24 (t_ 11) (t_ 11)),m_ 3 12]) (J_ (G_ (U_ 13 3 1 [k_ 16 0]) (Q_ 0 zT)) (G_ [m_ 53 3,m_ 2 53] .ret))))
def Ns:=k_k 130 [.tmp 2] Dk
def vI:aG:=(N_ 28 27 26 0 1 34 (G_ [a_ 29 2 25 27,L_ 30 2 29,K_ 6 vQ,s_ 2 6 30] (O_ [l_ 31 3,L_ 32 2 6,o_ 33 (.call (t_ 31) [t_ 32])])))
def qY:aG:=(G_ [x_ 4 0] (J_ (G_ (W_ 7 0 4 (o_ 9 (.un .not (t_ 8))::m_ 10 9::S_ 11 10 false [.load none (t_ 1),.cq 1 (t_ 4),.load none (t_ 12),.fw none 1 (t_ 11) (t_ 13),.load none (t_ 14)] [o_ 16 (.pick (t_ 10) (b_ true) (t_ 15))])) (I_ 16 .ret .skip)) (G_ (l_ 17 1::W_ 18 1 4 [a_ 20 1 17 19,u_ (.store 1 (t_ 20) (b_ true))]) (G_ (l_ 21 2::W_ 22 1 4 [a_ 24 1 21 23,l_ 25 24,z_ 26 25,k_ 27 0]) (Q_ 0 vI)))))
def yC:=k_k 131 [] qY
def FQ:aG:=(.seq (.ops [⟨(some 1),none,(.box (.tmp 0))⟩,⟨(some 2),none,(.mv (.const .nilFunc))⟩]) (.seq (.ops [⟨(some 3),none,(.uk 192 [(.tmp 1)])⟩,⟨(some 2),none,(.mv (.tmp 3))⟩]) .ret))
def PS:=k_k 132 [.tmp 2] FQ
def lv:aG:=(N_ 9 8 7 0 1 18 (G_ [m_ 10 8,m_ 5 10] (G_ (m_ 11 1::T_ 12 0 5 2 [L_ 15 2 14,o_ 16 (.call (t_ 11) [t_ 15])]) (I_ 16 (G_ [m_ 17 5,m_ 4 17] .ret) .skip))))
def mD:aG:=(.seq (.ops [⟨(some 4),none,(.mv (.const (.int .i64 0)))⟩]) (.seq (.seq (.ops [⟨(some 6),none,(.mv (.tmp 0))⟩,⟨(some 7),none,(.nu (.tmp 6))⟩,⟨(some 8),none,(.mv (.const (.int .i64 0)))⟩]) (.block 0 (.loop lv))) (.seq (.ops [⟨(some 4),none,(.mv (.const (.int .i64 (Int.negSucc 0))))⟩]) .ret)))
def mH:=k_k 133 [.tmp 4] mD
def lu:aG:=(N_ 9 8 7 0 1 18 (G_ [m_ 10 8,m_ 5 10] (G_ (m_ 11 1::T_ 12 0 5 8 [L_ 15 8 14,o_ 16 (.call (t_ 11) [t_ 15])]) (I_ 16 (G_ [m_ 17 5,m_ 4 17] .ret) .skip))))
def mC:aG:=(.seq (.ops [⟨(some 4),none,(.mv (.const (.int .i64 0)))⟩]) (.seq (.seq (.ops [⟨(some 6),none,(.mv (.tmp 0))⟩,⟨(some 7),none,(.nu (.tmp 6))⟩,⟨(some 8),none,(.mv (.const (.int .i64 0)))⟩]) (.block 0 (.loop lu))) (.seq (.ops [⟨(some 4),none,(.mv (.const (.int .i64 (Int.negSucc 0))))⟩]) .ret)))
def mG:=k_k 134 [.tmp 4] mC
def pX:aG:=(N_ 165 164 163 18 19 176 (G_ [m_ 166 164,a_ 167 2 162 164,L_ 168 2 167,K_ 22 vQ,m_ 21 166,s_ 2 22 168] (V_ (jP 169 7 20 [m_ 171 21,m_ 172 3,L_ 173 2 22,(F_ 174 195 [t_ 172,t_ 173],[169]),a_ 175 2 170 171,s_ 2 175 174]))))
def VF:aG:=(V_ [m_ 151 3,f_ 152 2 20,L_ 153 2 152,m_ 155 3,f_ 156 4 20,L_ 157 2 156,(F_ 154 195 [t_ 151,t_ 153],[156]),f_ 159 2 20,F_ 158 195 [t_ 155,t_ 157],s_ 2 159 154,f_ 160 4 20,s_ 2 160 158])
def VE:aG:=(O_ (W_ 185 1 14 [m_ 187 19,L_ 188 8 20,a_ 189 8 186 187,s_ 8 189 188]))
def pY:aG:=(N_ 147 146 145 16 17 190 (G_ [m_ 148 146,a_ 149 8 144 146,L_ 150 8 149,K_ 20 Pc,m_ 19 148,s_ 8 20 150] (J_ VF (J_ (G_ (U_ 161 7 20 [k_ 164 0]) (Q_ 18 pX)) (J_ (G_ (W_ 177 1 20 [C_ 179 .geq 178 0]) (I_ 179 (O_ (m_ 180 3::W_ 181 1 20 [F_ 183 194 [t_ 180,t_ 182],f_ 184 1 20,s_ 1 184 183])) .skip)) VE)))))
def pZ:aG:=(N_ 130 129 128 14 15 141 (G_ [m_ 131 129,a_ 132 2 127 129,L_ 133 2 132,K_ 18 vQ,m_ 17 131,s_ 2 18 133] (V_ (jP 134 1 16 [m_ 136 17,m_ 137 3,L_ 138 2 18,(F_ 139 195 [t_ 137,t_ 138],[134]),a_ 140 2 135 136,s_ 2 140 139]))))
def p8:aG:=(N_ 113 112 111 12 13 142 (G_ [m_ 114 112,a_ 115 2 110 112,L_ 116 2 115,K_ 16 Sy,m_ 15 114,s_ 2 16 116] (J_ (V_ (jP 117 0 14 (m_ 119 15::m_ 120 3::jP 121 0 16 [(F_ 123 194 [t_ 120,t_ 122],[117]),a_ 124 2 118 119,f_ 125 0 124,s_ 1 125 123]))) (G_ (U_ 126 1 16 [k_ 129 0]) (Q_ 14 pZ)))))
def VB:aG:=(V_ (jP 191 3 1 [m_ 193 13,m_ 194 3,f_ 195 2 14,f_ 196 1 195,L_ 197 2 196,(F_ 198 195 [t_ 194,t_ 197],[191]),a_ 199 6 192 193,f_ 200 2 199,f_ 201 1 200,s_ 2 201 198]))
def p_:aG:=(N_ 105 104 103 10 11 202 (G_ [m_ 106 104,a_ 107 6 102 104,L_ 108 6 107,K_ 14 CV,m_ 13 106,s_ 6 14 108] (J_ (G_ (U_ 109 0 14 [k_ 112 0]) (Q_ 12 p8)) (J_ (G_ (U_ 143 1 14 [k_ 146 0]) (Q_ 16 pY)) VB))))
def qa:aG:=(N_ 80 79 78 8 9 86 (G_ [a_ 81 2 77 79,L_ 82 2 81,K_ 12 vQ,s_ 2 12 82] (O_ [m_ 83 3,L_ 84 2 12,F_ 85 195 [t_ 83,t_ 84]])))
def qb:aG:=(N_ 65 64 63 6 7 94 (G_ [a_ 66 8 62 64,L_ 67 8 66,K_ 10 Pc,s_ 8 10 67] (G_ [m_ 68 3,f_ 69 2 10,L_ 70 2 69,F_ 71 195 [t_ 68,t_ 70]] (G_ [m_ 72 3,f_ 73 4 10,L_ 74 2 73,F_ 75 195 [t_ 72,t_ 74]] (J_ (G_ (U_ 76 7 10 [k_ 79 0]) (Q_ 8 qa)) (G_ (W_ 87 1 10 [C_ 89 .geq 88 0]) (I_ 89 (O_ (m_ 90 3::W_ 91 1 10 [F_ 93 194 [t_ 90,t_ 92]])) .skip)))))))
def qc:aG:=(N_ 53 52 51 4 5 60 (G_ [a_ 54 2 50 52,L_ 55 2 54,K_ 8 Sy,s_ 2 8 55] (O_ (m_ 56 3::W_ 57 0 8 [F_ 59 194 [t_ 56,t_ 58]]))))
def qd:aG:=(N_ 46 45 44 2 3 100 (G_ [a_ 47 6 43 45,L_ 48 6 47,K_ 6 CV,s_ 6 6 48] (J_ (G_ (U_ 49 0 6 [k_ 52 0]) (Q_ 4 qc)) (J_ (G_ (U_ 61 1 6 [k_ 64 0]) (Q_ 6 qb)) (O_ [m_ 95 3,f_ 96 2 6,f_ 97 1 96,L_ 98 2 97,F_ 99 195 [t_ 95,t_ 98]])))))
def qe:aG:=(N_ 36 35 34 0 1 41 (G_ [m_ 37 35,m_ 4 37] (O_ [m_ 38 3,m_ 39 4,F_ 40 194 [t_ 38,t_ 39]])))
def zh:aG:=(G_ [x_ 1 0,K_ 2 C6] (J_ (V_ [L_ 23 4 1,L_ 24 4 1,(F_ 25 138 [t_ 24],[1]),F_ 26 137 [t_ 23,t_ 25],s_ 4 1 26]) (G_ (o_ 27 (.fm 1 zZ [(0,(1,(.const (.int .i64 (Int.negSucc 0)))))])::W_ 28 2 1 [F_ 30 144 [t_ 27,t_ 29],o_ 31 (.build [(.slice none 0 0),(.int .i64 0)] [(0,(1,(t_ 30)))]),x_ 32 31,m_ 3 32]) (J_ (G_ (W_ 33 1 1 [k_ 35 0]) (Q_ 0 qe)) (J_ (G_ (U_ 42 3 1 [k_ 45 0]) (Q_ 2 qd)) (J_ (G_ (U_ 101 3 1 [k_ 104 0]) (Q_ 10 p_)) (G_ (m_ 203 3::n_ 204 203::W_ 205 1 204 [f_ 207 2 1,s_ 1 207 206]) (G_ [L_ 208 4 1,s_ 4 2 208] .ret))))))))
def H4:=k_k 135 [.cell 2 (some 4)] zh
def Tq:aG:=(V_ (m_ 54 4::m_ 55 4::n_ 56 55::jP 57 1 56 (jP 59 1 6 [A_ 61 Pc 80 58 60,n_ 62 54,f_ 63 1 62,s_ 1 63 61])))
def Nz:aG:=(G_ [m_ 64 5,m_ 65 3,F_ 66 196 [t_ 1,t_ 64,t_ 65]] (G_ [m_ 67 4,f_ 68 2 6,L_ 69 4 68,n_ 70 67,f_ 71 2 70,s_ 4 71 69] (O_ (W_ 72 3 1 [m_ 74 5,o_ 75 (.build ags [(0,(1,(i_ 1)))]),o_ 76 (.build CV [(2,(4,(t_ 75)))]),a_ 77 6 73 74,s_ 6 77 76]))))
def oq:aG:=(J_ (G_ (m_ 18 4::n_ 19 18::f_ 20 2 19::W_ 21 0 20 [Y_ 23 .eql 22 2]) (H_ 23 2)) (P_ 3 (G_ (m_ 24 4::n_ 25 24::f_ 26 2 25::W_ 27 3 26 [o_ 29 (.fw none 1 (t_ 28) (i_ 0)),l_ 30 29,m_ 5 30]) (G_ (R_ 31 3 1 5 6 [L_ 35 6 34,K_ 6 CV,s_ 6 6 35]) (J_ (G_ (m_ 36 5::m_ 37 3::X_ 38 .eql 36 37::m_ 39 38::S_ 40 39 false [.cq 0 (t_ 6),.load none (t_ 40),.nu (t_ 41),.bin .gtr [] (t_ 42) (i_ 0)] (o_ 44 (.pick (t_ 39) (b_ true) (t_ 43))::m_ 45 44::S_ 46 45 false [.load (some 4) (t_ 1),.call (.func 101) [t_ 46],.mv (t_ 5),.fw none 1 (t_ 47) (t_ 48),.load none (t_ 49),.nu (t_ 50),.bin .gtr [] (t_ 51) (i_ 1)] [o_ 53 (.pick (t_ 45) (b_ true) (t_ 52))])) (I_ 53 (.exit 2) .skip)) (J_ Tq Nz))))))
def vJ:aG:=(y_ 7 3 11 0 1 12 (U_ 8 3 1 []) (G_ (R_ 14 3 1 3 6 [m_ 4 17]) (Q_ 2 oq)))
def yB:aG:=(G_ [x_ 1 0,K_ 2 C6] (J_ (G_ [k_ 3 0] (Q_ 0 vJ)) (G_ [L_ 78 4 1,s_ 4 2 78] .ret)))
def GY:=k_k 136 [.cell 2 (some 4)] yB
set_option maxRecDepth 100000
def wD:aG:=(N_ 123 122 121 10 11 136 (G_ [m_ 124 122,a_ 125 1 120 122,l_ 126 125,m_ 21 124,m_ 22 126] (V_ (f_ 127 2 12::jP 128 3 127 (m_ 130 21::Vs 131 5 22 1 [l_ 134 133,a_ 135 1 129 130,s_ 1 135 134])))))
def mr:aG:=(N_ 98 97 96 8 9 116 (G_ [a_ 99 3 95 97,L_ 100 3 99,K_ 20 w7_,s_ 3 20 100] (V_ (jP 101 0 12 (m_ 103 13::wL 104 0 12 13 2 (jP 108 1 107 [f_ 110 1 20,L_ 111 2 110,v_ 112 vQ 2 111,(A_ 113 vQ 16 109 112,[101]),a_ 114 2 102 103,f_ 115 1 114,s_ 1 115 113]))))))
def qn:aG:=(N_ 65 64 63 6 7 87 (G_ [m_ 66 64,a_ 67 2 62 64,L_ 68 2 67,K_ 17 vQ,m_ 16 66,s_ 2 17 68] (G_ (m_ 69 5::T_ 70 8 11 1 [l_ 73 72,m_ 74 16,a_ 75 1 73 74,l_ 76 75,a_ 77 1 69 76,l_ 78 77,m_ 18 78]) (G_ [m_ 79 18,C_ 80 .geq 79 0] (I_ 80 (O_ [m_ 81 15,m_ 82 18,L_ 83 2 17,o_ 84 (.build w7_ [(0,(1,(t_ 82))),(1,(2,(t_ 83)))]),v_ 85 w7_ 3 84,A_ 86 w7_ 24 81 85,m_ 15 86]) .skip)))))
def wE:aG:=(N_ 57 56 55 4 5 117 (G_ [m_ 58 56,a_ 59 2 54 56,L_ 60 2 59,K_ 14 Sy,m_ 13 58,s_ 2 14 60] (G_ [Z_ 15] (J_ (G_ (U_ 61 1 14 [k_ 64 0]) (Q_ 6 qn)) (G_ [m_ 88 15,F_ 89 197 [t_ 88,(.func 198)]] (G_ (R_ 90 0 12 13 2 [f_ 94 1 93,u_ (.store 1 (t_ 94) (.const (.slice none 0 0)))]) (G_ [m_ 95 15,z_ 96 95,k_ 97 0] (Q_ 8 mr))))))))
def wF:aG:=(N_ 45 44 43 2 3 141 (G_ [a_ 46 1 42 44,l_ 47 46,m_ 11 47] (G_ (R_ 48 3 2 11 6 [L_ 52 6 51,K_ 12 CV,s_ 6 12 52]) (J_ (G_ (U_ 53 0 12 [k_ 56 0]) (Q_ 4 wE)) (J_ (G_ (f_ 118 2 12::U_ 119 3 118 [k_ 122 0]) (Q_ 10 wD)) (O_ [m_ 137 9,L_ 138 6 12,v_ 139 CV 6 138,A_ 140 CV 96 137 139,m_ 9 140]))))))
def wG:aG:=(N_ 31 30 29 0 1 39 (G_ [m_ 32 30,a_ 33 1 28 30,l_ 34 33,m_ 6 32,m_ 7 34] (O_ [m_ 35 5,m_ 36 7,m_ 37 6,a_ 38 1 35 36,s_ 1 38 37])))
def FX:aG:=(G_ [x_ 2 0,K_ 4 C6] (G_ (o_ 23 (.fm 1 zZ [(0,(1,(.const (.int .i64 (Int.negSucc 0)))))])::U_ 24 3 2 [F_ 27 144 [t_ 23,t_ 26],m_ 5 27]) (J_ (G_ [m_ 28 1,z_ 29 28,k_ 30 0] (Q_ 0 wG)) (G_ [L_ 40 4 2,F_ 41 101 [t_ 40],m_ 8 41] (G_ [Z_ 9] (J_ (G_ [m_ 42 1,z_ 43 42,k_ 44 0] (Q_ 2 wF)) (G_ [m_ 142 9,f_ 143 3 2,s_ 1 143 142] (G_ [L_ 144 4 2,s_ 4 4 144] .ret))))))))
def PZ:=k_k 137 [.cell 4 (some 4)] FX
def yz:aG:=(G_ [x_ 1 0,Z_ 2] (G_ [L_ 4 4 1,F_ 5 87 [t_ 4],m_ 3 5] (G_ [m_ 6 3,F_ 7 199 [t_ 6]] (G_ [m_ 8 3,m_ 2 8] .ret))))
def GV:=k_k 138 [.tmp 2] yz
def iK:aG:=(N_ 9 8 7 0 1 18 (G_ [m_ 10 8,m_ 5 10] (G_ (m_ 11 1::T_ 12 0 5 1 [l_ 15 14,o_ 16 (.bin .eql [2] (t_ 11) (t_ 15))]) (I_ 16 (G_ [m_ 17 5,m_ 4 17] .ret) .skip))))
def jq:aG:=(.seq (.ops [⟨(some 4),none,(.mv (.const (.int .i64 0)))⟩]) (.seq (.seq (.ops [⟨(some 6),none,(.mv (.tmp 0))⟩,⟨(some 7),none,(.nu (.tmp 6))⟩,⟨(some 8),none,(.mv (.const (.int .i64 0)))⟩]) (.block 0 (.loop iK))) (.seq (.ops [⟨(some 4),none,(.mv (.const (.int .i64 (Int.negSucc 0))))⟩]) .ret)))
def qZ:=k_k 139 [.tmp 4] jq
def tF:aG:=(G_ [x_ 2 0,x_ 3 1,k_ 4 0] (J_ (P_ 0 (G_ (W_ 6 0 3 [F_ 8 80 [t_ 7,(i_ 1),(i_ 3)],o_ 9 (.un .not (t_ 8)),m_ 5 9]) (I_ 5 (G_ [k_ 4 4] .ret) (J_ (V_ (jP 11 3 3 (z_ 13 12::jP 14 0 3 [o_ 16 (.fw (some 4) 1 (.global 0) (t_ 15)),l_ 17 16,X_ 18 .neq 13 17,m_ 10 18]))) (I_ 10 (G_ [k_ 4 9] .ret) (G_ (W_ 20 3 3 [o_ 22 (.uk 201 [t_ 2]),F_ 23 200 [t_ 21,t_ 22],m_ 19 23]) (I_ 19 (G_ [k_ 4 3] .ret) (J_ (V_ (jP 25 0 3 [Y_ 27 .eql 26 3,m_ 28 27,q_ 29 28 true (.cq 3 (t_ 3)),q_ 30 28 true (.load none (t_ 29)),q_ 31 28 true (.fw none 1 (t_ 30) (i_ 0)),q_ 32 28 true (.load none (t_ 31)),q_ 33 28 true (.cq 3 (t_ 3)),q_ 34 28 true (.load none (t_ 33)),q_ 35 28 true (.fw none 1 (t_ 34) (i_ 1)),q_ 36 28 true (.load none (t_ 35)),q_ 37 28 true (.bin .eql [1] (t_ 32) (t_ 36)),o_ 38 (.pick (t_ 28) (t_ 37) (b_ false)),m_ 39 38,q_ 40 39 false (.cq 0 (t_ 3)),q_ 41 39 false (.load none (t_ 40)),q_ 42 39 false (.bin .eql [1] (t_ 41) (i_ 2)),q_ 43 39 false (.mv (t_ 42)),q_ 44 43 true (.cq 1 (t_ 3)),q_ 45 43 true (.load (some 2) (t_ 44)),q_ 46 43 true (.build vQ []),q_ 47 43 true (.bin .neq [9,0,1] (t_ 45) (t_ 46)),q_ 48 39 false (.pick (t_ 43) (t_ 47) (b_ false)),o_ 49 (.pick (t_ 39) (b_ true) (t_ 48)),m_ 24 49])) (I_ 24 (G_ [k_ 4 5] .ret) .skip))))))))) (G_ [L_ 50 7 2,f_ 51 1 3,L_ 52 2 51,F_ 53 202 [t_ 50,t_ 52],m_ 4 53] .ret)))
def B7:=k_k 140 [.tmp 4] tF
def uC:aG:=(N_ 25 24 23 2 3 38 (G_ [a_ 26 1 22 24,l_ 27 26,m_ 7 27] (O_ (m_ 28 3::m_ 29 7::T_ 30 3 7 1 [l_ 33 32,m_ 34 4,v_ 35 zZ 1 34,A_ 36 zZ 8 33 35,a_ 37 1 28 29,s_ 1 37 36]))))
def zR:aG:=(N_ 16 15 14 0 1 39 (G_ [m_ 17 15,a_ 18 6 13 15,L_ 19 6 18,K_ 5 CV,m_ 4 17,s_ 6 5 19] (G_ (f_ 20 2 5::U_ 21 3 20 [k_ 24 0]) (Q_ 2 uC))))
def Dh:aG:=(G_ [x_ 1 0,Z_ 2] (G_ (U_ 8 3 1 [o_ 11 (.gG Sw 24 (t_ 10) (t_ 10)),m_ 3 11]) (J_ (G_ (U_ 12 3 1 [k_ 15 0]) (Q_ 0 zR)) (G_ [m_ 40 3,m_ 2 40] .ret))))
def Np:=k_k 141 [.tmp 2] Dh
def qK:aG:=(N_ 34 33 32 0 1 43 (G_ [a_ 35 2 31 33,L_ 36 2 35,K_ 9 vQ,s_ 2 9 36] (G_ [L_ 37 7 3,L_ 38 2 9,F_ 39 202 [t_ 37,t_ 38],m_ 10 39] (G_ [m_ 40 10,Y_ 41 .neq 40 0] (I_ 41 (G_ [m_ 42 10,m_ 6 42] .ret) .skip)))))
def tH:aG:=(G_ [x_ 3 0,x_ 5 2,k_ 6 0] (J_ (G_ [m_ 11 1,Y_ 12 .eql 11 0] (I_ 12 (G_ [k_ 6 5] .ret) .skip)) (J_ (G_ (L_ 13 7 3::W_ 14 0 5 [F_ 16 203 [t_ 13,t_ 15],m_ 7 16]) (G_ [m_ 17 7,Y_ 18 .neq 17 0] (I_ 18 (G_ [m_ 19 7,m_ 6 19] .ret) .skip))) (J_ (J_ (V_ (jP 20 1 5 (z_ 22 21::wL 23 6 3 1 1 [l_ 27 26,z_ 28 27,X_ 29 .neq 22 28]))) (I_ 29 (G_ [k_ 6 9] .ret) .skip)) (J_ (G_ (U_ 30 1 5 [k_ 33 0]) (Q_ 0 qK)) (G_ [k_ 6 0] .ret))))))
def Ca:=k_k 142 [.tmp 6] tH
def Uw:List bX:=[⟨(some 18),none,(.cq 0 (.tmp 5))⟩,⟨(some 19),none,(.load none (.tmp 18))⟩,⟨(some 20),none,(.un .not (.tmp 19))⟩,⟨(some 21),none,(.mv (.tmp 20))⟩,⟨(some 22),(some (21,true)),(.cq 1 (.tmp 3))⟩,⟨(some 23),(some (21,true)),(.load none (.tmp 22))⟩,⟨(some 24),(some (21,true)),(.bin .neq [1] (.tmp 23) (.const (.int .i64 (Int.negSucc 0))))⟩,⟨(some 25),none,(.pick (.tmp 21) (.tmp 24) (.const (.bool false)))⟩,⟨(some 26),none,(.mv (.tmp 25))⟩,⟨(some 27),(some (26,false)),(.cq 1 (.tmp 5))⟩,⟨(some 28),(some (26,false)),(.load none (.tmp 27))⟩,⟨(some 29),(some (26,false)),(.un .not (.tmp 28))⟩,⟨(some 30),(some (26,false)),(.mv (.tmp 29))⟩,⟨(some 31),(some (30,true)),(.cq 2 (.tmp 3))⟩,⟨(some 32),(some (30,true)),(.load (some 2) (.tmp 31))⟩,⟨(some 33),(some (30,true)),(.build vQ [])⟩,⟨(some 34),(some (30,true)),(.bin .neq [9,0,1] (.tmp 32) (.tmp 33))⟩,⟨(some 35),(some (26,false)),(.pick (.tmp 30) (.tmp 34) (.const (.bool false)))⟩,⟨(some 36),none,(.pick (.tmp 26) (.const (.bool true)) (.tmp 35))⟩,⟨(some 37),none,(.mv (.tmp 36))⟩,⟨(some 38),(some (37,false)),(.cq 2 (.tmp 5))⟩,⟨(some 39),(some (37,false)),(.load none (.tmp 38))⟩,⟨(some 40),(some (37,false)),(.un .not (.tmp 39))⟩,⟨(some 41),(some (37,false)),(.mv (.tmp 40))⟩,⟨(some 42),(some (41,true)),(.cq 4 (.tmp 3))⟩,⟨(some 43),(some (41,true)),(.load (some 2) (.tmp 42))⟩,⟨(some 44),(some (41,true)),(.build vQ [])⟩,⟨(some 45),(some (41,true)),(.bin .neq [9,0,1] (.tmp 43) (.tmp 44))⟩,⟨(some 46),(some (37,false)),(.pick (.tmp 41) (.tmp 45) (.const (.bool false)))⟩,⟨(some 47),none,(.pick (.tmp 37) (.const (.bool true)) (.tmp 46))⟩,⟨(some 48),none,(.mv (.tmp 47))⟩,⟨(some 49),(some (48,false)),(.load none (.tmp 6))⟩,⟨(some 50),(some (48,false)),(.un .not (.tmp 49))⟩,⟨(some 51),(some (48,false)),(.mv (.tmp 50))⟩,⟨(some 52),(some (51,true)),(.cq 6 (.tmp 3))⟩,⟨(some 53),(some (51,true)),(.load none (.tmp 52))⟩,⟨(some 54),(some (51,true)),(.bin .neq [1] (.tmp 53) (.const (.int .i64 0)))⟩,⟨(some 55),(some (51,true)),(.mv (.tmp 54))⟩,⟨(some 56),(some (55,false)),(.cq 7 (.tmp 3))⟩,⟨(some 57),(some (55,false)),(.load none (.tmp 56))⟩,⟨(some 58),(some (55,false)),(.nu (.tmp 57))⟩,⟨(some 59),(some (55,false)),(.bin .gtr [] (.tmp 58) (.const (.int .i64 0)))⟩,⟨(some 60),(some (51,true)),(.pick (.tmp 55) (.const (.bool true)) (.tmp 59))⟩,⟨(some 61),(some (48,false)),(.pick (.tmp 51) (.tmp 60) (.const (.bool false)))⟩,⟨(some 62),none,(.pick (.tmp 48) (.const (.bool true)) (.tmp 61))⟩]
def Oi:aG:=(J_ (G_ (W_ 63 0 5 (m_ 65 64::S_ 66 65 true [.load none (t_ 6),.mv (t_ 66)] (S_ 68 67 true [.cq 1 (t_ 3),.load none (t_ 68),.bin .eql [1] (t_ 69) (.const (.int .i64 (Int.negSucc 0)))] (S_ 71 65 true [.pick (t_ 67) (t_ 70) (b_ false),.un .not (t_ 71)] [o_ 73 (.pick (t_ 65) (t_ 72) (b_ false))])))) (I_ 73 (G_ (L_ 74 7 2::W_ 75 1 3 [F_ 77 203 [t_ 74,t_ 76],m_ 7 77]) (G_ [m_ 78 7,Y_ 79 .neq 78 0] (I_ 79 (G_ [m_ 80 7,m_ 4 80] .ret) .skip))) .skip)) (G_ [o_ 81 (.uk 205 [t_ 2,t_ 3]),o_ 82 (.uk 206 [t_ 2,t_ 3]),o_ 83 (.uk 207 [t_ 6,t_ 3,t_ 2]),o_ 84 (.fm 3 [.nilFunc,.nilFunc,.nilFunc] [(0,(1,(t_ 81))),(1,(1,(t_ 82))),(2,(1,(t_ 83)))]),F_ 85 204 [t_ 84],m_ 4 85] .ret))
def tG:aG:=(G_ [x_ 2 0,x_ 3 1,k_ 4 0] (J_ (G_ (W_ 8 0 3 [F_ 10 80 [t_ 9,(i_ 1),(i_ 22)],o_ 11 (.un .not (t_ 10))]) (I_ 11 (G_ [k_ 4 4] .ret) .skip)) (G_ (W_ 12 0 3 [F_ 14 193 [t_ 13],K_ 5 w8_,s_ 3 5 14]) (G_ (W_ 15 0 3 [Y_ 17 .eql 16 20,o_ 6 (.alloc [(.bool false)]),s_ 1 6 17]) (J_ (J_ (.ops Uw) (I_ 62 (G_ [k_ 4 5] .ret) .skip)) Oi)))))
def B9:=k_k 143 [.tmp 4] tG
def va:aG:=(J_ (G_ [m_ 34 8,m_ 35 7,z_ 36 35,B_ 37 .lss 34 36] (H_ 37 0)) (P_ 1 (V_ [m_ 38 8,m_ 39 7,m_ 40 8,o_ 41 (.slice 1 (t_ 39) (some (t_ 40)) none none),m_ 42 7,m_ 43 8,o_ 44 (.slice 1 (t_ 42) none (some (t_ 43)) none),o_ 45 (.copy 1 (t_ 41) (t_ 44)),B_ 46 .add 38 45,m_ 8 46])))
def wP:aG:=(G_ [Z_ 4] (J_ (G_ [m_ 9 1,C_ 10 .lss 9 0] (I_ 10 (O_ [⟨(some 11),none,.bad⟩,⟨none,none,.bad⟩]) .skip)) (G_ [m_ 13 0,z_ 14 13,o_ 15 (.conv .u64 (t_ 14)),m_ 16 1,o_ 17 (.conv .u64 (t_ 16)),F_ 18 146 [t_ 15,t_ 17],m_ 12 18,E_ 19 0 12,E_ 20 1 12,m_ 5 19,m_ 6 20] (J_ (G_ (m_ 21 5::o_ 22 (.bin .gtr [] (t_ 21) (.const (.int .u64 0)))::m_ 23 22::S_ 24 23 false [.mv (t_ 6),.bin .gtr [] (t_ 24) (.const (.int .u64 9223372036854775807))] [o_ 26 (.pick (t_ 23) (b_ true) (t_ 25))]) (I_ 26 (O_ [⟨(some 27),none,.bad⟩,⟨none,none,.bad⟩]) .skip)) (G_ [m_ 28 6,o_ 29 (.conv .i64 (t_ 28)),o_ 30 (.gG zZ 8 (t_ 29) (t_ 29)),m_ 7 30] (G_ [m_ 31 7,m_ 32 0,o_ 33 (.copy 1 (t_ 31) (t_ 32)),m_ 8 33] (J_ (Q_ 0 va) (G_ [m_ 47 7,m_ 4 47] .ret))))))))
def mV:=k_k 144 [.tmp 4] wP
def Ea:aG:=(J_ (G_ [m_ 9 2,m_ 10 3,X_ 11 .neq 9 10] (H_ 11 0)) (P_ 1 (J_ (J_ (V_ (Vs 12 1 2 1 (l_ 15 14::Vs 16 1 3 1 [l_ 19 18,B_ 20 .lss 15 19]))) (I_ 20 (O_ [m_ 21 3,m_ 22 2,m_ 2 21,m_ 3 22]) .skip)) (O_ (T_ 23 0 2 1 [l_ 26 25,m_ 2 26])))))
def HO:aG:=(.seq (.ops [⟨(some 8),none,(.mv (.const (.int .i64 0)))⟩]) (.seq (.block 0 (.loop Ea)) (.seq (.ops [⟨(some 27),none,(.mv (.tmp 2))⟩,⟨(some 8),none,(.mv (.tmp 27))⟩]) .ret)))
def To:=k_k 145 [.tmp 8] HO
def yA:aG:=(G_ [o_ 4 (.mv (.const (.int .u64 0))),o_ 5 (.mv (.const (.int .u64 0)))] (J_ (.cond (b_ false) (G_ [m_ 11 0,o_ 12 (.conv .u32 (t_ 11)),m_ 13 1,o_ 14 (.conv .u32 (t_ 13)),F_ 15 208 [t_ 12,t_ 14],m_ 10 15,E_ 16 0 10,E_ 17 1 10,m_ 6 16,m_ 7 17] (G_ [m_ 18 6,o_ 19 (.conv .u64 (t_ 18)),m_ 20 7,o_ 21 (.conv .u64 (t_ 20)),m_ 4 19,m_ 5 21] .ret)) .skip) (G_ [m_ 23 0,m_ 24 1,F_ 25 209 [t_ 23,t_ 24],m_ 22 25,E_ 26 0 22,E_ 27 1 22,m_ 8 26,m_ 9 27] (G_ [m_ 28 8,m_ 29 9,m_ 4 28,m_ 5 29] .ret))))
def GX:=k_k 146 [(.tmp 4),(.tmp 5)] yA
def zf:aG:=(G_ [l_ 8 1,m_ 9 0,a_ 10 1 8 9,u_ (.store 1 (t_ 10) (b_ true))] (J_ (G_ (R_ 11 3 2 0 6 (f_ 15 2 14::W_ 16 3 15 [F_ 18 148 [t_ 17]])) (P_ 0 (.Ko (t_ 18) [19,20] (O_ [m_ 7 20]) (P_ 1 (G_ [l_ 21 1,m_ 22 7,a_ 23 1 21 22,l_ 24 23,o_ 25 (.un .not (t_ 24))] (I_ 25 (O_ [l_ 26 3,m_ 27 7,o_ 28 (.call (t_ 26) [t_ 27])]) .skip)))))) (O_ [l_ 29 4,m_ 30 0,v_ 31 zZ 1 30,A_ 32 zZ 8 29 31,s_ 1 4 32])))
def HZ:=k_k 147 [] zf
def kO:aG:=(.seq (.ops [⟨(some 1),none,(.box (.tmp 0))⟩,⟨(some 2),none,(.mv (.const .nilFunc))⟩]) (.seq (.ops [⟨(some 3),none,(.uk 210 [(.tmp 1)])⟩,⟨(some 2),none,(.mv (.tmp 3))⟩]) .ret))
def uY:=k_k 148 [.tmp 2] kO
def rR:aG:=(G_ [M_ 8 false] (J_ (G_ (m_ 9 0::n_ 10 9::R_ 11 5 10 1 2 (W_ 15 0 14 [C_ 17 .geq 16 0])) (I_ 17 (G_ [M_ 8 false] .ret) .skip)) (G_ (m_ 18 0::n_ 19 18::W_ 20 5 19 [m_ 22 1,m_ 23 2,m_ 24 3,o_ 25 (.build J8 [(0,(1,(t_ 23))),(1,(1,(t_ 24)))]),a_ 26 2 21 22,s_ 2 26 25]) (G_ [M_ 8 true] .ret))))
def AL:=k_k 149 [.tmp 8] rR
def rQ:aG:=(G_ [x_ 5 1,M_ 8 false] (J_ (G_ (W_ 10 0 5 [o_ 12 (.un .not (t_ 11))]) (I_ 12 (G_ [M_ 8 true] .ret) .skip)) (J_ (V_ (m_ 13 0::n_ 14 13::jP 15 5 14 (jP 17 1 5 [a_ 19 2 16 18,L_ 20 2 19,K_ 9 J8,s_ 2 9 20]))) (J_ (P_ 0 (G_ (W_ 22 0 9 [C_ 24 .lss 23 0,m_ 21 24]) (I_ 21 (G_ [M_ 8 false] .ret) (G_ (W_ 26 0 9 [m_ 28 2,X_ 29 .eql 27 28,m_ 25 29]) (I_ 25 (G_ (W_ 30 1 9 [m_ 32 3,B_ 33 .lss 31 32,m_ 8 33]) .ret) .skip))))) (J_ (V_ (m_ 34 0::n_ 35 34::jP 36 4 35 (jP 38 0 9 [m_ 40 2,F_ 41 211 [t_ 37,t_ 39,t_ 40],m_ 8 41]))) .ret)))))
def AK:=k_k 150 [.tmp 8] rQ
def tR:aG:=(G_ [Z_ 4] (J_ (G_ [m_ 5 0,m_ 6 1,F_ 7 104 [t_ 5,t_ 6]] (I_ 7 (G_ [m_ 8 0,m_ 4 8] .ret) .skip)) (G_ [m_ 9 0,m_ 10 1,v_ 11 zZ 1 10,A_ 12 zZ 8 9 11,m_ 4 12] .ret)))
def Ck:=k_k 151 [.tmp 4] tR
def np:aG:=(y_ 6 5 9 0 1 10 [m_ 7 1,z_ 8 7] (G_ (T_ 12 1 5 2 (W_ 15 0 14 [])) (I_ 16 (O_ (m_ 17 0::T_ 18 1 5 2 (W_ 21 1 20 [F_ 23 151 [t_ 17,t_ 22],m_ 0 23]))) .skip)))
def pw:aG:=(.seq (.ops [⟨(some 4),none,(.mv (.const (.slice none 0 0)))⟩]) (.seq (.seq (.ops [⟨(some 5),none,(.mv (.const (.int .i64 0)))⟩]) (.block 0 (.loop np))) (.seq (.ops [⟨(some 24),none,(.mv (.tmp 0))⟩,⟨(some 4),none,(.mv (.tmp 24))⟩]) .ret)))
def yM:=k_k 152 [.tmp 4] pw
def sk:aG:=(G_ [x_ 2 0,K_ 4 vQ] (J_ (G_ (W_ 5 0 2 []) (I_ 6 (G_ (m_ 7 1::W_ 8 1 2 [F_ 10 92 [t_ 7,t_ 9],o_ 11 (.build vQ [(0,(1,(b_ true))),(1,(1,(t_ 10)))]),s_ 2 4 11]) .ret) .skip)) (G_ [L_ 12 2 2,s_ 2 4 12] .ret)))
def AZ:=k_k 153 [.cell 4 (some 2)] sk
def qQ:aG:=(y_ 11 5 14 0 1 15 [m_ 12 0,z_ 13 12] (J_ (V_ (Vs 17 0 5 1 (l_ 20 19::Vs 21 1 5 1 [l_ 24 23,X_ 25 .neq 20 24]))) (I_ 25 (G_ [M_ 4 false] .ret) .skip)))
def tU:aG:=(G_ [M_ 4 false] (J_ (G_ [m_ 6 0,z_ 7 6,m_ 8 1,z_ 9 8,X_ 10 .neq 7 9] (I_ 10 (G_ [M_ 4 false] .ret) .skip)) (J_ (G_ [k_ 5 0] (Q_ 0 qQ)) (G_ [M_ 4 true] .ret))))
def Cn:=k_k 154 [.tmp 4] tU
def jJ:aG:=(y_ 59 6 63 2 3 64 (U_ 60 1 2 []) (J_ (V_ (wL 66 1 2 6 8 (L_ 70 8 69::wL 71 1 3 6 8 [L_ 75 8 74,F_ 76 213 [t_ 70,t_ 75],o_ 77 (.un .not (t_ 76))]))) (I_ 77 (G_ [M_ 4 false] .ret) .skip)))
def jK:aG:=(y_ 23 5 27 0 1 28 (U_ 24 0 2 []) (J_ (V_ (wL 30 0 2 5 2 (jP 34 0 33 (wL 36 0 3 5 2 (jP 40 0 39 [X_ 42 .neq 35 41,m_ 43 42,q_ 44 43 false (.cq 0 (t_ 2)),q_ 45 43 false (.load none (t_ 44)),q_ 46 43 false (.mv (t_ 5)),q_ 47 43 false (.fw none 2 (t_ 45) (t_ 46)),q_ 48 43 false (.cq 1 (t_ 47)),q_ 49 43 false (.load none (t_ 48)),q_ 50 43 false (.cq 0 (t_ 3)),q_ 51 43 false (.load none (t_ 50)),q_ 52 43 false (.mv (t_ 5)),q_ 53 43 false (.fw none 2 (t_ 51) (t_ 52)),q_ 54 43 false (.cq 1 (t_ 53)),q_ 55 43 false (.load none (t_ 54)),q_ 56 43 false (.call (.func 212) [t_ 49,t_ 55]),q_ 57 43 false (.un .not (t_ 56)),o_ 58 (.pick (t_ 43) (b_ true) (t_ 57))]))))) (I_ 58 (G_ [M_ 4 false] .ret) .skip)))
def sq:aG:=(G_ [x_ 2 0,x_ 3 1,M_ 4 false] (J_ (G_ (U_ 7 0 2 (U_ 10 0 3 (X_ 13 .neq 9 12::m_ 14 13::S_ 15 14 false [.cq 1 (t_ 2),.load none (t_ 15),.nu (t_ 16),.cq 1 (t_ 3),.load none (t_ 18),.nu (t_ 19),.bin .neq [1] (t_ 17) (t_ 20)] [o_ 22 (.pick (t_ 14) (b_ true) (t_ 21))]))) (I_ 22 (G_ [M_ 4 false] .ret) .skip)) (J_ (G_ [k_ 5 0] (Q_ 0 jK)) (J_ (G_ [k_ 6 0] (Q_ 2 jJ)) (G_ (f_ 78 2 2::W_ 79 0 78 (f_ 81 2 3::W_ 82 0 81 (X_ 84 .eql 80 83::m_ 85 84::S_ 86 85 true [.cq 2 (t_ 2),.cq 1 (t_ 86),.load (some 2) (t_ 87),.cq 2 (t_ 3),.cq 1 (t_ 89),.load (some 2) (t_ 90),.bin .eql [9,0,1] (t_ 88) (t_ 91)] (o_ 93 (.pick (t_ 85) (t_ 92) (b_ false))::m_ 94 93::S_ 95 94 true [.cq 2 (t_ 2),.cq 3 (t_ 95),.load none (t_ 96),.cq 2 (t_ 3),.cq 3 (t_ 98),.load none (t_ 99),.call (.func 154) [t_ 97,t_ 100]] [o_ 102 (.pick (t_ 94) (t_ 101) (b_ false)),m_ 4 102])))) .ret)))))
def A8:=k_k 155 [.tmp 4] sq
def mq:aG:=(N_ 9 8 7 0 1 18 (G_ [m_ 10 8,m_ 5 10] (G_ (m_ 11 1::T_ 12 0 5 1 [l_ 15 14,X_ 16 .eql 11 15]) (I_ 16 (G_ [m_ 17 5,m_ 4 17] .ret) .skip))))
def nK:aG:=(.seq (.ops [⟨(some 4),none,(.mv (.const (.int .i64 0)))⟩]) (.seq (.seq (.ops [⟨(some 6),none,(.mv (.tmp 0))⟩,⟨(some 7),none,(.nu (.tmp 6))⟩,⟨(some 8),none,(.mv (.const (.int .i64 0)))⟩]) (.block 0 (.loop mq))) (.seq (.ops [⟨(some 4),none,(.mv (.const (.int .i64 (Int.negSucc 0))))⟩]) .ret)))
def xR:=k_k 162 [.tmp 4] nK
def pc:FF 166=some ⟨[],.bad,.run (rmV 2) fun _ _ _ _=>MP⟩:=by kernel_rfl
def iB:aG:=(G_ [Z_ 6] (G_ [m_ 8 0,m_ 9 1,m_ 10 2,m_ 11 0,z_ 12 11,o_ 13 (.slice 2 (t_ 8) (some (t_ 9)) (some (t_ 10)) (some (t_ 12)))] (J_ (G_ [m_ 14 1,m_ 15 2,X_ 16 .eql 14 15] (I_ 16 (G_ [m_ 17 0,m_ 6 17] .ret) .skip)) (G_ [m_ 18 0,z_ 19 18,m_ 7 19] (J_ (V_ [m_ 20 0,m_ 21 1,o_ 22 (.slice 2 (t_ 20) none (some (t_ 21)) none),m_ 23 0,m_ 24 2,o_ 25 (.slice 2 (t_ 23) (some (t_ 24)) none none),A_ 26 vQ 16 22 25,m_ 0 26]) (G_ [m_ 27 0,m_ 28 0,z_ 29 28,m_ 30 7,o_ 31 (.slice 2 (t_ 27) (some (t_ 29)) (some (t_ 30)) none),u_ (.clear vQ (t_ 31))] (G_ [m_ 32 0,m_ 6 32] .ret)))))))
def pb:=k_k 167 [.tmp 6] iB
def mb:aG:=(.seq (.ops [⟨(some 2),none,(.mv (.const (.slice none 0 0)))⟩]) (.seq (.ops [⟨(some 3),none,(.mv (.tmp 0))⟩,⟨(some 4),none,(.call (.func 243) [(.const (.slice none 0 0)),(.tmp 3)])⟩,⟨(some 2),none,(.mv (.tmp 4))⟩]) .ret))
def vY:=k_k 191 [.tmp 2] mb
def rC:aG:=(N_ 33 32 31 0 1 40 (G_ [a_ 34 2 30 32,L_ 35 2 34,K_ 5 vQ,s_ 2 5 35] (G_ [m_ 36 0,L_ 37 2 5,o_ 38 (.call (t_ 36) [t_ 37]),o_ 39 (.un .not (t_ 38))] (I_ 39 .ret .skip))))
def Bv:aG:=(G_ (W_ 6 0 1 [F_ 8 193 [t_ 7],K_ 3 w8_,s_ 3 3 8]) (J_ (G_ (W_ 9 1 3 (m_ 11 10::S_ 12 11 true [.mv (t_ 0),.cq 2 (t_ 1),.load (some 2) (t_ 13),.call (t_ 12) [t_ 14],.un .not (t_ 15)] (o_ 17 (.pick (t_ 11) (t_ 16) (b_ false))::m_ 18 17::S_ 19 18 false [.cq 2 (t_ 3),.load none (t_ 19),.mv (t_ 20)] (S_ 22 21 true [.mv (t_ 0),.cq 4 (t_ 1),.load (some 2) (t_ 23),.call (t_ 22) [t_ 24],.un .not (t_ 25)] [q_ 27 18 false (.pick (t_ 21) (t_ 26) (b_ false)),o_ 28 (.pick (t_ 18) (b_ true) (t_ 27))])))) (I_ 28 .ret .skip)) (G_ (U_ 29 7 1 [k_ 32 0]) (Q_ 0 rC))))
def Kv:=k_k 192 [] Bv
def Bu:aG:=(G_ [K_ 2 w8_] (J_ (P_ 0 (G_ (m_ 4 0::Y_ 5 .eql 4 1::m_ 6 5::S_ 7 6 false [.mv (t_ 0),.bin .eql [1] (t_ 7) (i_ 16)] (o_ 9 (.pick (t_ 6) (b_ true) (t_ 8))::m_ 10 9::S_ 11 10 false [.mv (t_ 0),.bin .eql [1] (t_ 11) (i_ 17)] (o_ 13 (.pick (t_ 10) (b_ true) (t_ 12))::m_ 14 13::S_ 15 14 false [.mv (t_ 0),.bin .eql [1] (t_ 15) (i_ 18)] [o_ 17 (.pick (t_ 14) (b_ true) (t_ 16)),m_ 3 17]))) (I_ 3 (G_ [o_ 18 (.build w8_ [(0,(1,(b_ true))),(1,(1,(b_ true))),(2,(1,(b_ false)))]),s_ 3 2 18] .ret) (G_ (m_ 20 0::C_ 21 .geq 20 2::m_ 22 21::S_ 23 22 true [.mv (t_ 0),.bin .leq [] (t_ 23) (i_ 15)] [o_ 25 (.pick (t_ 22) (t_ 24) (b_ false)),m_ 19 25]) (I_ 19 (G_ [o_ 26 (.build w8_ [(0,(1,(b_ true))),(1,(1,(b_ true))),(2,(1,(b_ true)))]),s_ 3 2 26] .ret) (G_ [m_ 28 0,Y_ 29 .eql 28 19,m_ 27 29] (I_ 27 (G_ [o_ 30 (.build w8_ [(0,(1,(b_ false))),(1,(1,(b_ true))),(2,(1,(b_ true)))]),s_ 3 2 30] .ret) (G_ (m_ 32 0::Y_ 33 .eql 32 20::m_ 34 33::S_ 35 34 false [.mv (t_ 0),.bin .eql [1] (t_ 35) (i_ 21)] [o_ 37 (.pick (t_ 34) (b_ true) (t_ 36)),m_ 31 37]) (I_ 31 (G_ [o_ 38 (.build w8_ [(0,(1,(b_ true))),(1,(1,(b_ false))),(2,(1,(b_ false)))]),s_ 3 2 38] .ret) (G_ [m_ 40 0,Y_ 41 .eql 40 22,m_ 39 41] (I_ 39 (G_ [o_ 42 (.build w8_ [(0,(1,(b_ false))),(1,(1,(b_ true))),(2,(1,(b_ false)))]),s_ 3 2 42] .ret) .skip))))))))))) (G_ [o_ 43 (.build w8_ []),s_ 3 2 43] .ret)))
def Ku:=k_k 193 [.cell 2 (some 3)] Bu
def vk:aG:=(G_ [k_ 4 0] (J_ (G_ (m_ 5 0::n_ 6 5::R_ 7 0 6 1 1 [l_ 11 10,C_ 12 .lss 11 0]) (I_ 12 (J_ (V_ (m_ 13 0::n_ 14 13::jP 15 0 14 (m_ 17 1::m_ 18 0::n_ 19 18::jP 20 1 19 [a_ 22 1 16 17,s_ 1 22 21]))) (O_ (m_ 23 0::n_ 24 23::W_ 25 1 24 [C_ 27 .add 26 1,n_ 28 23,f_ 29 1 28,s_ 1 29 27]))) .skip)) (G_ (m_ 30 0::n_ 31 30::R_ 32 0 31 1 1 [l_ 36 35,m_ 4 36]) .ret)))
def Dy:=k_k 194 [.tmp 4] vk
def wQ:aG:=(G_ [x_ 3 1,K_ 4 vQ] (J_ (G_ (W_ 5 0 3 []) (I_ 6 (O_ (m_ 7 0::W_ 8 1 3 [F_ 10 194 [t_ 7,t_ 9],f_ 11 1 3,s_ 1 11 10])) .skip)) (G_ [L_ 12 2 3,s_ 2 4 12] .ret)))
def EM:=k_k 195 [.cell 4 (some 2)] wQ
def OI:aG:=(V_ (m_ 79 0::n_ 80 79::wL 81 3 80 8 6 (jP 85 0 84 (m_ 87 13::jP 88 1 14 [m_ 90 9,m_ 91 9,C_ 92 .add 91 1,m_ 94 10,L_ 95 2 15,v_ 96 vQ 2 95,(F_ 93 167 [t_ 89,t_ 90,t_ 92],[15,96]),(F_ 97 166 [t_ 93,t_ 94,t_ 96],[81,85]),a_ 98 2 86 87,f_ 99 1 98,s_ 1 99 97]))))
def rG:aG:=(N_ 70 69 68 4 5 100 (G_ [m_ 71 69,a_ 72 2 67 69,L_ 73 2 72,K_ 14 Sy,m_ 13 71,s_ 2 14 73] (G_ (R_ 74 1 14 9 2 [L_ 78 2 77,K_ 15 vQ,s_ 2 15 78]) OI)))
def rH:aG:=(N_ 46 45 44 2 3 59 (G_ [a_ 47 1 43 45,l_ 48 47,m_ 12 48] (G_ (m_ 49 12::m_ 50 2::B_ 51 .lss 49 50::m_ 52 51::S_ 53 52 true [.mv (t_ 12),.mv (t_ 1),.bin .neq [1] (t_ 53) (t_ 54)] [o_ 56 (.pick (t_ 52) (t_ 55) (b_ false))]) (I_ 56 (O_ [m_ 57 10,C_ 58 .add 57 1,m_ 10 58]) .skip))))
def yI:aG:=(N_ 31 30 29 0 1 101 (G_ [a_ 32 1 28 30,l_ 33 32,m_ 8 33] (G_ (T_ 34 6 8 1 [l_ 37 36,m_ 38 1,F_ 39 162 [t_ 37,t_ 38],m_ 9 39]) (G_ [k_ 10 0] (J_ (G_ (T_ 40 6 8 1 [l_ 43 42,z_ 44 43,k_ 45 0]) (Q_ 2 rH)) (G_ (m_ 60 0::n_ 61 60::R_ 62 3 61 8 6 (U_ 66 0 65 [k_ 69 0])) (Q_ 4 rG)))))))
def BE:aG:=(G_ [m_ 16 0,n_ 17 16,L_ 18 4 17,F_ 19 101 [t_ 18],m_ 6 19] (G_ (m_ 20 0::n_ 21 20::R_ 22 3 21 1 6 (f_ 26 2 25::U_ 27 3 26 [k_ 30 0])) (Q_ 0 yI)))
def KD:=k_k 196 [] BE
set_option maxRecDepth 100000
def gU:aG:=(J_ (G_ [m_ 7 2,m_ 8 3,B_ 9 .lss 7 8] (H_ 9 0)) (J_ (P_ 1 (V_ (m_ 14 0::m_ 15 2::m_ 16 0::m_ 17 3::Vs 18 0 3 1 (l_ 21 20::Vs 22 0 2 1 [l_ 25 24,a_ 26 1 14 15,s_ 1 26 21,a_ 27 1 16 17,s_ 1 27 25])))) (O_ [m_ 10 2,C_ 11 .add 10 1,m_ 12 3,C_ 13 .sub 12 1,m_ 2 11,m_ 3 13])))
def mf:aG:=(G_ [m_ 4 0,z_ 5 4,C_ 6 .sub 5 1,k_ 2 0,m_ 3 6] (Q_ 0 gU))
def vZ:=k_k 199 [] mf
def iU:aG:=(G_ [M_ 4 false] (G_ [m_ 5 0,m_ 6 1,F_ 7 246 [t_ 5,t_ 6],C_ 8 .geq 7 0,m_ 4 8] .ret))
def qE:=k_k 200 [.tmp 4] iU
def qw:aG:=(G_ [M_ 3 false] (G_ (m_ 4 0::f_ 5 2 1::U_ 6 3 5 [C_ 9 .sub 8 1,F_ 10 80 [t_ 4,(i_ 1),t_ 9],o_ 11 (.un .not (t_ 10)),m_ 3 11]) .ret))
def zj:=k_k 201 [.tmp 3] qw
def tI:aG:=(G_ [x_ 2 0,x_ 3 1,k_ 4 0] (J_ (G_ (W_ 5 0 3 (m_ 7 6::S_ 8 7 true [.cq 1 (t_ 3),.load none (t_ 8),.cq 2 (t_ 2),.cq 2 (t_ 10),.load none (t_ 11),.bin .sub [] (t_ 12) (i_ 1),.call (.func 80) [t_ 9,(i_ 0),t_ 13],.un .not (t_ 14)] [o_ 16 (.pick (t_ 7) (t_ 15) (b_ false))])) (I_ 16 (G_ [k_ 4 3] .ret) .skip)) (G_ [k_ 4 0] .ret)))
def Cb:=k_k 202 [.tmp 4] tI
def tE:aG:=(G_ [x_ 2 0,k_ 4 0] (J_ (G_ (m_ 5 1::f_ 6 2 2::W_ 7 2 6 [C_ 9 .sub 8 1,F_ 10 80 [t_ 5,(i_ 0),t_ 9],o_ 11 (.un .not (t_ 10))]) (I_ 11 (G_ [k_ 4 3] .ret) .skip)) (G_ [k_ 4 0] .ret)))
def BY:=k_k 203 [.tmp 4] tE
def zS:aG:=(N_ 9 8 7 0 1 17 (G_ [a_ 10 1 6 8,l_ 11 10,m_ 4 11] (G_ [m_ 12 4,o_ 13 (.call (t_ 12) []),m_ 5 13] (G_ [m_ 14 5,Y_ 15 .neq 14 0] (I_ 15 (G_ [m_ 16 5,m_ 2 16] .ret) .skip)))))
def Di:aG:=(.seq (.ops [⟨(some 2),none,(.mv (.const (.int .i64 0)))⟩]) (.seq (.seq (.ops [⟨(some 6),none,(.mv (.tmp 0))⟩,⟨(some 7),none,(.nu (.tmp 6))⟩,⟨(some 8),none,(.mv (.const (.int .i64 0)))⟩]) (.block 0 (.loop zS))) (.seq (.ops [⟨(some 2),none,(.mv (.const (.int .i64 0)))⟩]) .ret)))
def Nq:=k_k 204 [.tmp 2] Di
def qx:aG:=(G_ [k_ 2 0] (G_ [L_ 3 7 0,f_ 4 2 1,L_ 5 2 4,F_ 6 202 [t_ 3,t_ 5],m_ 2 6] .ret))
def zk:=k_k 205 [.tmp 2] qx
def qy:aG:=(G_ [k_ 2 0] (G_ [L_ 3 7 0,f_ 4 4 1,L_ 5 2 4,F_ 6 202 [t_ 3,t_ 5],m_ 2 6] .ret))
def zm:=k_k 206 [.tmp 2] qy
def oi:aG:=(N_ 37 36 35 1 2 46 (G_ [a_ 38 2 34 36,L_ 39 2 38,K_ 5 vQ,s_ 2 5 39] (G_ [L_ 40 7 2,L_ 41 2 5,F_ 42 202 [t_ 40,t_ 41],m_ 6 42] (G_ [m_ 43 6,Y_ 44 .neq 43 0] (I_ 44 (G_ [m_ 45 6,m_ 3 45] .ret) .skip)))))
def qz:aG:=(G_ [k_ 3 0] (J_ (P_ 0 (G_ [l_ 8 0,o_ 9 (.un .not (t_ 8)),m_ 7 9] (I_ 7 (G_ [k_ 3 0] .ret) (G_ (W_ 11 6 1 (f_ 13 0 2::U_ 14 1 13 [C_ 17 .sub 16 1,F_ 18 80 [t_ 12,(i_ 0),t_ 17],o_ 19 (.un .not (t_ 18)),m_ 10 19])) (I_ 10 (G_ [k_ 3 3] .ret) (J_ (V_ (jP 21 7 1 (z_ 23 22::f_ 24 0 2::jP 25 1 24 (jP 27 6 1 (a_ 29 4 26 28::jP 30 1 29 [X_ 32 .neq 23 31,m_ 20 32]))))) (I_ 20 (G_ [k_ 3 9] .ret) .skip))))))) (J_ (G_ (U_ 33 7 1 [k_ 36 0]) (Q_ 1 oi)) (G_ [k_ 3 0] .ret))))
def zn:=k_k 207 [.tmp 3] qz
def vj:aG:=(G_ [o_ 4 (.mv (.const (.int .u64 0))),o_ 5 (.mv (.const (.int .u64 0)))] (G_ [m_ 14 0,o_ 15 (.bin .and [] (t_ 14) (.const (.int .u64 4294967295))),m_ 6 15] (G_ [m_ 16 0,o_ 17 (.bin .shr [] (t_ 16) (.const (.int .u64 32))),m_ 7 17] (G_ [m_ 18 1,o_ 19 (.bin .and [] (t_ 18) (.const (.int .u64 4294967295))),m_ 8 19] (G_ [m_ 20 1,o_ 21 (.bin .shr [] (t_ 20) (.const (.int .u64 32))),m_ 9 21] (G_ [m_ 22 6,m_ 23 8,B_ 24 .mul 22 23,m_ 10 24] (G_ [m_ 25 7,m_ 26 8,B_ 27 .mul 25 26,m_ 28 10,o_ 29 (.bin .shr [] (t_ 28) (.const (.int .u64 32))),B_ 30 .add 27 29,m_ 11 30] (G_ [m_ 31 11,o_ 32 (.bin .and [] (t_ 31) (.const (.int .u64 4294967295))),m_ 12 32] (G_ [m_ 33 11,o_ 34 (.bin .shr [] (t_ 33) (.const (.int .u64 32))),m_ 13 34] (G_ [m_ 35 12,m_ 36 6,m_ 37 9,B_ 38 .mul 36 37,B_ 39 .add 35 38,m_ 12 39] (G_ [m_ 40 7,m_ 41 9,B_ 42 .mul 40 41,m_ 43 13,B_ 44 .add 42 43,m_ 45 12,o_ 46 (.bin .shr [] (t_ 45) (.const (.int .u64 32))),B_ 47 .add 44 46,m_ 4 47] (G_ [m_ 48 0,m_ 49 1,B_ 50 .mul 48 49,m_ 5 50] .ret))))))))))))
def Dx:=k_k 209 [(.tmp 4),(.tmp 5)] vj
def iX:aG:=(J_ (G_ [m_ 7 3,C_ 8 .geq 7 0] (H_ 8 0)) (J_ (P_ 1 (G_ [m_ 11 0,m_ 12 3,l_ 13 1,m_ 14 3,a_ 15 1 13 14,l_ 16 15,o_ 17 (.call (t_ 11) [t_ 12,t_ 16]),o_ 18 (.un .not (t_ 17))] (I_ 18 .ret .skip))) (O_ [m_ 9 3,C_ 10 .sub 9 1,m_ 3 10])))
def jM:aG:=(G_ [l_ 4 1,z_ 5 4,C_ 6 .sub 5 1,m_ 3 6] (Q_ 0 iX))
def td:=k_k 210 [] jM
def BL:aG:=(J_ (G_ (m_ 7 2::C_ 8 .geq 7 0::m_ 9 8::S_ 10 9 true [.mv (t_ 2),.mv (t_ 1),.bin .neq [1] (t_ 10) (t_ 11)] [o_ 13 (.pick (t_ 9) (t_ 12) (b_ false))]) (H_ 13 0)) (P_ 1 (O_ (T_ 14 0 2 1 [l_ 17 16,m_ 2 17]))))
def FU:aG:=(G_ [M_ 6 false] (J_ (Q_ 0 BL) (G_ [m_ 18 1,m_ 19 2,X_ 20 .eql 18 19,m_ 6 20] .ret)))
def PV:=k_k 211 [.tmp 6] FU
def qR:aG:=(y_ 11 5 14 0 1 15 [m_ 12 0,z_ 13 12] (J_ (V_ (Vs 17 0 5 2 (L_ 20 2 19::Vs 21 1 5 2 [L_ 24 2 23,o_ 25 (.bin .neq [9,0,1] (t_ 20) (t_ 24))]))) (I_ 25 (G_ [M_ 4 false] .ret) .skip)))
def tW:aG:=(G_ [M_ 4 false] (J_ (G_ [m_ 6 0,z_ 7 6,m_ 8 1,z_ 9 8,X_ 10 .neq 7 9] (I_ 10 (G_ [M_ 4 false] .ret) .skip)) (J_ (G_ [k_ 5 0] (Q_ 0 qR)) (G_ [M_ 4 true] .ret))))
def Cp:=k_k 212 [.tmp 4] tW
def vp:aG:=(G_ [x_ 2 0,x_ 3 1,M_ 4 false] (G_ (W_ 5 0 2 (W_ 7 0 3 (X_ 9 .eql 6 8::m_ 10 9::S_ 11 10 true [.cq 1 (t_ 2),.load none (t_ 11),.cq 1 (t_ 3),.load none (t_ 13),.bin .eql [1] (t_ 12) (t_ 14)] (o_ 16 (.pick (t_ 10) (t_ 15) (b_ false))::m_ 17 16::S_ 18 17 true [.cq 2 (t_ 2),.load (some 2) (t_ 18),.cq 2 (t_ 3),.load (some 2) (t_ 20),.bin .eql [9,0,1] (t_ 19) (t_ 21)] (o_ 23 (.pick (t_ 17) (t_ 22) (b_ false))::m_ 24 23::S_ 25 24 true [.cq 4 (t_ 2),.load (some 2) (t_ 25),.cq 4 (t_ 3),.load (some 2) (t_ 27),.bin .eql [9,0,1] (t_ 26) (t_ 28)] (o_ 30 (.pick (t_ 24) (t_ 29) (b_ false))::m_ 31 30::S_ 32 31 true [.cq 6 (t_ 2),.load none (t_ 32),.cq 6 (t_ 3),.load none (t_ 34),.bin .eql [1] (t_ 33) (t_ 35)] (o_ 37 (.pick (t_ 31) (t_ 36) (b_ false))::m_ 38 37::S_ 39 38 true [.cq 7 (t_ 2),.load none (t_ 39),.cq 7 (t_ 3),.load none (t_ 41),.call (.func 212) [t_ 40,t_ 42]] [o_ 44 (.pick (t_ 38) (t_ 43) (b_ false)),m_ 4 44]))))))) .ret))
def DC:=k_k 213 [.tmp 4] vp
def gP:aG:=(G_ [x_ 2 0,Z_ 4] (J_ (G_ [m_ 6 1] (P_ 0 (.Ko (t_ 6) [7] (O_ [K_ 5 vQ,s_ 2 5 7]) (P_ 1 (O_ [l_ 8 2,L_ 9 2 5,v_ 10 vQ 2 9,A_ 11 vQ 16 8 10,s_ 1 2 11]))))) (G_ [l_ 12 2,m_ 4 12] .ret)))
def mE:=k_k 243 [.tmp 4] gP
def jw:aG:=(N_ 9 8 7 0 1 18 (G_ [m_ 10 8,m_ 5 10] (G_ (m_ 11 1::T_ 12 0 5 1 [l_ 15 14,o_ 16 (.call (t_ 11) [t_ 15])]) (I_ 16 (G_ [m_ 17 5,m_ 4 17] .ret) .skip))))
def jX:aG:=(.seq (.ops [⟨(some 4),none,(.mv (.const (.int .i64 0)))⟩]) (.seq (.seq (.ops [⟨(some 6),none,(.mv (.tmp 0))⟩,⟨(some 7),none,(.nu (.tmp 6))⟩,⟨(some 8),none,(.mv (.const (.int .i64 0)))⟩]) (.block 0 (.loop jw))) (.seq (.ops [⟨(some 4),none,(.mv (.const (.int .i64 (Int.negSucc 0))))⟩]) .ret)))
def tY:=k_k 246 [.tmp 4] jX
set_option maxRecDepth 100000
end Go.Proofs.YtdhnndleffachaaGreatDoor

namespace Go.Proofs.YtdhnndleffachaaGreatDoor
open Go.AI
variable{C X i s1 s2 sz:Nat}{an bn dst fn op:Int}{ar br:Bool}{h:az}{α:Type}
def fE(h:az)(a b c:Int):bc FF 80 [.int .i64 a,.int .i64 b,.int .i64 c] h (fun v h'=>v=.bool (decide (b<=a)&&decide (a<=c))/\h'=h):=by refine bc.of Kw ?_;unfold Bw;by_cases h1:b<=a<;>by_cases j:a<=c<;>simp[h1,j]
def j4(h:az)(c:cr h)(a b:Int):bc FF 36 [.int .i64 a,.int .i64 b] h (fun v h'=>v=.agg #[.int .i64 a,.int .i64 b]/\ay aZ h h'):=by
 refine bc.of Nr ?_;unfold Dj;simp
 repeat (first|exact .refl c|apply ay.new|refine ay.put ?_ ae ae)
def dK(op:Int):Bool×Bool×Bool:=
 if op=1\/op=16\/op=17\/op=18 then(true,true,false) else
 if 2<=op/\op<=15 then(true,true,true) else
 if op=19 then(false,true,true) else
 if op=20\/op=21 then(true,false,false) else
 if op=22 then(false,true,false) else(false,false,false)
def nO{a b:Int}(h:¬a=b):(a==b)=false:=aj h
def GD(h:az)(c:cr h)(op:Int):bc FF 193 [.int .i64 op] h (fun v h'=>v=.agg #[.bool (dK op).1,.bool (dK op).2.1,.bool (dK op).2.2]/\ay aZ h h'):=by
 refine bc.of Ku ?_;unfold Bu;by_cases p:op=1
 .subst p;simp[dK];repeat (first|exact .refl c|apply ay.new|refine ay.put ?_ ae ae)
 by_cases s:op=16
 .subst s;simp[dK];repeat (first|exact .refl c|apply ay.new|refine ay.put ?_ ae ae)
 by_cases q:op=17
 .subst q;simp[dK];repeat (first|exact .refl c|apply ay.new|refine ay.put ?_ ae ae)
 by_cases u:op=18
 .subst u;simp[dK];repeat (first|exact .refl c|apply ay.new|refine ay.put ?_ ae ae)
 by_cases o:op=19
 .subst o;simp[dK];repeat (first|exact .refl c|apply ay.new|refine ay.put ?_ ae ae)
 by_cases A:op=20
 .subst A;simp[dK];repeat (first|exact .refl c|apply ay.new|refine ay.put ?_ ae ae)
 by_cases y:op=21
 .subst y;simp[dK];repeat (first|exact .refl c|apply ay.new|refine ay.put ?_ ae ae)
 by_cases j:op=22
 .subst j;simp[dK];repeat (first|exact .refl c|apply ay.new|refine ay.put ?_ ae ae)
 have E:=nO p;have J:=nO s;have G:=nO q;have K:=nO u;have O:=nO o;have U:=nO A;have V:=nO y;have Q:=nO j;by_cases D:2<=op
 .by_cases N:op<=15
  .have:dK op=(true,true,true):=by unfold dK;rw[bU ab,bM ⟨D,N⟩]
   simp[E,J,G,K,p,s,q,u,D,N,this]
   repeat (first|exact .refl c|apply ay.new|refine ay.put ?_ ae ae)
  .have M:15<op:=ab
   have:dK op=(false,false,false):=by unfold dK;rw[bU ab,bU ab,bU o,bU ab,bU j]
   simp[E,J,G,K,O,U,V,Q,p,s,q,u,o,A,y,j,D,N,M,this]
   repeat (first|exact .refl c|apply ay.new|refine ay.put ?_ ae ae)
 .have I:op<2:=ab
  have:dK op=(false,false,false):=by unfold dK;rw[bU ab,bU ab,bU o,bU ab,bU j]
  simp[E,J,G,K,O,U,V,Q,p,s,q,u,o,A,y,j,D,I,this]
  repeat (first|exact .refl c|apply ay.new|refine ay.put ?_ ae ae)
def aJ(op dst:Int)(ar:Bool)(an:Int)(br:Bool)(bn:Int)(fn:Int)(args:Value):List Value:=[.int .i64 op,.int .i64 dst,.bool ar,.int .i64 an,.bool br,.int .i64 bn,.int .i64 fn,args]
def dW(aI op:Int)(ar:Bool)(an:Int)(br:Bool)(bn:Int):Bool:=
 if op=5\/op=6 then !br&&decide (bn≠0) else if op=18 then !ar&&(decide (0<=an)&&decide (an<=aI-1)) else decide (1<=op)&&decide (op<=17)
def JC(h:az)(c:cr h)(aI op dst an bn fn:Int)(ar br:Bool)(D:Option Addr)(al y:Nat)(E:0<=aI/\aI<1000000000):bc FF 76 [.int .i64 aI,.agg ⟨aJ op dst ar an br bn fn (.slice D al y)⟩] h (fun v h'=>v=.bool (dW aI op ar an br bn)/\ay aZ h h'):=by
 refine bc.of H0 ?_;unfold zg;have s:=cg (aI-1) ab ab;by_cases p:op=5
 .subst p;cases br with
  |true=>simp[aJ,dW];exact aN c _ _
  |false=>
   by_cases hb:bn=0;subst hb;simp[aJ,dW];exact aN c _ _;simp[aJ,dW,hb];exact aN c _ _
 by_cases o:op=6
 .subst o;cases br with
  |true=>simp[aJ,dW];exact aN c _ _
  |false=>
   by_cases hb:bn=0;subst hb;simp[aJ,dW];exact aN c _ _;simp[aJ,dW,hb];exact aN c _ _
 have u:=nO p;have A:=nO o;by_cases j:op=18
 .subst j;cases ar with
  |true=>simp[aJ,dW];exact aN c _ _
  |false=>
   simp[aJ,dW,s];refine bm.call (aj (fE _ an 0 (aI-1))) ?_;rintro _ h'⟨rfl,rfl⟩;simp;exact aN c _ _
 have q:=nO j;simp[aJ,u,A,q,p,o,j];refine bm.call (aj (fE _ op 1 17)) ?_;rintro _ h'⟨rfl,rfl⟩;simp[dW,p,o,j];exact aN c _ _
structure SV where
 a:Option Addr
 l:Nat
 c:Nat
def SV.v(s:SV):Value:=.slice s.a s.l s.c
@[simp] def SV.yJ(s:SV):s.v=.slice s.a s.l s.c:=rfl
def cK:SV:=⟨none,0,0⟩
structure GI where
 op:Int
 dst:Int
 a:Bool×Int
 b:Bool×Int
 fn:Int
 args:List (Bool×Int)
structure GP where
 dst:Int
 row:List (Bool×Int)
structure GB where
 bD:List GP
 list:List GI
 kind:Int
 on:Bool×Int
 to:List Int
structure GF where
 name:ByteArray
 params:Int
 aB:Int
 blocks:List GB
structure GG where
 name:ByteArray
 size:Int
 init:List Int
structure GU where
 globals:List GG
 funcs:List GF
def vR(c:List Value)(v:Bool×Int):Prop:=c=[.bool v.1,.int .i64 v.2]
def nR(c:List Value)(n:Int):Prop:=c=[.int .i64 n]
def iR(h:az)(c:List Value)(x:GI):Prop:=∃A:SV,c=aJ x.op x.dst x.a.1 x.a.2 x.b.1 x.b.2 x.fn A.v/\aD vR 2 h A.v x.args
def pR(h:az)(c:List Value)(p:GP):Prop:=∃A:SV,c=[.int .i64 p.dst,A.v]/\aD vR 2 h A.v p.row
def bR(h:az)(c:List Value)(b:GB):Prop:=∃P L T:SV,c=[P.v,L.v,.int .i64 b.kind,.bool b.on.1,.int .i64 b.on.2,T.v]/\aD (pR h) 2 h P.v b.bD/\aD (iR h) 8 h L.v b.list/\aD nR 1 h T.v b.to
def fR(h:az)(c:List Value)(f:GF):Prop:=∃B:SV,c=[.string f.name,.int .i64 f.params,.int .i64 f.aB,B.v]/\aD (bR h) 6 h B.v f.blocks
def gR(h:az)(c:List Value)(g:GG):Prop:=∃I:SV,c=[.string g.name,.int .i64 g.size,I.v]/\aD nR 1 h I.v g.init
def uR(h:az)(G F:SV)(u:GU):Prop:=aD (gR h) 3 h G.v u.globals/\aD (fR h) 4 h F.v u.funcs
def iR.mono{h h':az}(j:cr h)(g:ay aZ h h'){c:List Value}{x:GI}(r:iR h c x):iR h' c x:=by obtain⟨A,e,s⟩:=r;exact⟨A,e,s.mono j g fun _ _ h=>h⟩
def pR.mono{h h':az}(j:cr h)(g:ay aZ h h'){c:List Value}{x:GP}(r:pR h c x):pR h' c x:=by obtain⟨A,e,s⟩:=r;exact⟨A,e,s.mono j g fun _ _ h=>h⟩
def bR.mono{h h':az}(j:cr h)(g:ay aZ h h'){c:List Value}{x:GB}(r:bR h c x):bR h' c x:=by obtain⟨P,L,T,e,s1,s2,o⟩:=r;exact⟨P,L,T,e,s1.mono j g fun _ _ r=>r.mono j g,s2.mono j g fun _ _ r=>r.mono j g,o.mono j g fun _ _ h=>h⟩
def fR.mono{h h':az}(j:cr h)(g:ay aZ h h'){c:List Value}{x:GF}(r:fR h c x):fR h' c x:=by obtain⟨A,e,s⟩:=r;exact⟨A,e,s.mono j g fun _ _ r=>r.mono j g⟩
def gR.mono{h h':az}(j:cr h)(g:ay aZ h h'){c:List Value}{x:GG}(r:gR h c x):gR h' c x:=by obtain⟨A,e,s⟩:=r;exact⟨A,e,s.mono j g fun _ _ h=>h⟩
abbrev qg(h:az)(B:SV)(bs:List GB):Prop:=aD (bR h) 6 h B.v bs
def qg.mono{h h':az}{B:SV}{bs:List GB}(s:qg h B bs)(c:cr h)(g:ay aZ h h'):qg h' B bs:=aD.mono s c g fun _ _ r=>r.mono c g
def uR.mono{h h':az}{G F:SV}{u:GU}(r:uR h G F u)(c:cr h)(g:ay aZ h h'):uR h' G F u:=
 ⟨r.1.mono c g fun _ _ r=>r.mono c g,r.2.mono c g fun _ _ r=>r.mono c g⟩
structure At{α:Type}(R:List Value->α->Prop)(sz:Nat)(h:az)(L:SV)(n:Nat)(i:Nat)(x:α)(b off:Nat)(c:List Value):Prop where
 a:L.a=some ⟨b,off,none⟩
 l:L.l=n
 len:c.length=sz
 r:R c x
 cn:Old b h
 rd:∀h':az,h'.tr.get b=h.tr.get b->∀k m,k+m<=sz->cD h' b (off+i*sz+k) m=some ((c.drop k).take m)
def aD.len{R:List Value->α->Prop}{L:SV}{xs:List α}(s:aD R sz h L.v xs):L.l=xs.length:=by obtain⟨a,c,e,_⟩:=s;simp at e;exact e.2.1
def aD.at{α:Type}{R:List Value->α->Prop}{sz:Nat}{h:az}(u:cr h){L:SV}{xs:List α}(s:aD R sz h L.v xs){i:Nat}{x:α}(q:xs[i]?=some x):∃b off c,At R sz h L xs.length i x b off c:=by
 obtain⟨a,D,e,s⟩:=s;simp at e;rcases s with⟨rfl,_⟩|⟨b,off,cs,I,o,st,rfl,hb,y⟩;simp at q
 .obtain⟨p,A⟩:=y i x q;refine⟨b,off,_,e.1,e.2.1,p,A,u.cn hb,fun h' e' k m G=>?_⟩;have E:=p;simp at E;have j:m=0\/off+i*sz+k+m<=cs.length:=ab
  rcases j with rfl|j;unfold cD;rw[e',hb];simp;rw[fD (e'.trans hb) j,List.drop_take,List.take_take,List.drop_drop];congr 2;omega
def dp:List GB->Nat
 |[]=>0
 |b::c=>b.bD.length+b.list.length+dp c
def ui{bs:List GB}{j:Nat}{b:GB}(h:bs[j]?=some b):dp (bs.take (j+1))=dp (bs.take j)+(b.bD.length+b.list.length):=by
 induction bs generalizing j with
 |nil=>simp at h
 |cons x bs ih=>
  cases j with
  |zero=>simp at h;subst h;simp[dp]
  |succ j=>
   simp at h;have:=ih h;simp only[List.take_succ_cons,dp];omega
def Fits(bs:List GB):Prop:=bs.length<=140737488355328/\∀b∈bs,b.bD.length<=140737488355328/\b.list.length<=140737488355328
def wrap_add(a b:Int):IntKind.i64.wrap (IntKind.i64.wrap a+b)=IntKind.i64.wrap (a+b):=by simp only[IntKind.wrap,IntKind.signed,IntKind.bits];simp;omega
def IX:∀ {bs:List GB},Fits bs->dp bs<=bs.length*281474976710656
 |[],_=>by simp[dp]
 |b::bs,h=>by have:=IX (bs:=bs) ⟨by have:=h.1;simp at this;omega,fun b hb=>h.2 b (.tail _ hb)⟩;have:=h.2 b (.head _);simp only[dp,List.length_cons];omega
def M7{bs:List GB}(h:Fits bs)(c:bs.length<=40):IntKind.i64.wrap (dp bs:Int)=(dp bs:Int):=by have:=IX h;exact cg _ ab ab
structure Small(u:GU):Prop where
 fs:u.funcs.length<=140737488355328
 bs:∀f∈u.funcs,Fits f.blocks
def VK(f:GF):Prop:=f.blocks.length<=24/\dp f.blocks<=120
def aD.later{R:List Value->α->Prop}(o:cr h){L:SV}{xs:List α}(s:aD R sz h L.v xs){x:α}(j:xs[i]?=some x):∃b off c,L.a=some ⟨b,off,none⟩/\i<xs.length/\c.length=sz/\R c x/\Old b h/\∀h':az,ay aZ h h'->∀k m,k+m<=sz->cD h' b (off+i*sz+k) m=some ((c.drop k).take m):=by
 obtain⟨b,off,c,w⟩:=aD.at o s j;exact⟨b,off,c,w.a,(di.mp j).1,w.len,w.r,w.cn,fun h' g=>w.rd h' (g.got w.cn)⟩
def X5{h s:az}(ok:cr h){G F:SV}{u:GU}{B:SV}{f:GF}(hi:u.funcs[i]?=some f)(hF:∃b off,F.a=some ⟨b,off,none⟩/\F.l=u.funcs.length/\∀h',ay aZ h h'->cD h' b (off+i*4+3) 1=some [B.v])(hB:qg h B f.blocks)(hm:Fits f.blocks){U:Nat}(hU:fC s U [G.v,F.v] 0)(M:ay aZ h s){e:Env}{QQ:bK->Env->az->Prop}(y:cm e 1 U)(D:bJ e 3 i)(p:bJ e 4 0)(E:bJ e 5 0)(C:∀e' h',ay aZ s h'->cm e' 1 U->bJ e' 3 i->bJ e' 4 (IntKind.i64.wrap (dp f.blocks:Int))->QQ (.exit 2) e' h'):aO FF (.loop ji) e s QQ:=by
 obtain⟨b,off,Z,Y,cZ⟩:=hF;have dT:=aD.len hB;refine aO.loop (fun m e A=>∃j:Nat,m=f.blocks.length-j/\j<=f.blocks.length/\cm e 1 U/\bJ e 3 i/\bJ e 4 (IntKind.i64.wrap (dp (f.blocks.take j):Int))/\bJ e 5 j/\ay aZ s A) ?_ (n:=f.blocks.length)
  ⟨0,rfl,ab,y,D,by simp[p,dp,cg],E,.refl M.ok⟩
 rintro m e A⟨j,rfl,hj,y,D,p,E,q⟩;have N:=M.trans q;have K:=q.get M.ok hU;have I:=cZ A N;have gh:=(di.mp hi).1;unfold ji;by_cases bk:j<f.blocks.length
 .have J:f.blocks[j]?=some f.blocks[j]:=g_ bk;generalize f.blocks[j]=x at J;obtain⟨b2,YN,c,fp,_,Gj,hc,oB2,Ha⟩:=aD.later ok hB J;obtain⟨P,L,T,rfl,sP,sL,sT⟩:=hc;have V:=Ha A N 0 1 ag;have Q:=Ha A N 1 1 ag;have gY:=aD.len sP;have jt:=aD.len sL;have O:=ui J;have hf:=hm.2 x (cN J);have wa:=hm.1;simp[-ax] at V Q I;obtain⟨o,X6⟩:∃o,o=j+1:=⟨_,rfl⟩;have wj:IntKind.i64.wrap ((j:Int)+1)=(o:Int):=by rw[cg _ ab ab];omega
  have oU:=q.ok.cn K;have Ho:=q.ok.st _ _ _ _ _ K;have w2:IntKind.i64.wrap ((dp (f.blocks.take j):Int)+(x.bD.length:Int)+(x.list.length:Int))=IntKind.i64.wrap ((dp (f.blocks.take o):Nat):Int):=by rw[X6,O];congr 1;omega
  simp[y,D,p,E,aF K,aQ,Z,Y,gh,I,dT,fp,bk,V,Q,-ax,gY,jt,wrap_add,w2,wj];exact⟨f.blocks.length-o,ab,o,rfl,ab,rfl,rfl,q.tick⟩
 .have:j=f.blocks.length:=ab
  subst this;rw[jT] at p;simp[-ax] at I;simp[y,D,p,E,aF K,Z,Y,gh,I,dT,-ax];exact C _ _ q (au y) (au D) (au p)
def Uc(ok:cr h){G F:SV}{u:GU}(hu:uR h G F u)(sm:Small u):bc FF 11 [.agg ⟨[G.v,F.v]⟩] h (fun v h'=>ay aZ h h'/\∃hv:Bool,v=.bool hv/\(hv=false->u.funcs.length<=10/\∀f∈u.funcs,VK f)):=by
 have o:=aD.len hu.2;refine bc.of zr ?_;unfold qC;simp;have g0:=aN ok [G.v,F.v] 0;refine aO.loop (fun m e E=>∃i:Nat,m=u.funcs.length-i/\i<=u.funcs.length/\cm e 1 h.aw/\bJ e 3 i/\ay aZ h E/\E.tr.get h.aw=some (.bZ [G.v,F.v] false 0 0)/\∀f∈u.funcs.take i,VK f) ?_ (n:=u.funcs.length)
  ⟨0,rfl,ab,ae,ae,aj g0,ae,ae⟩
 rintro m e E⟨i,rfl,hi,I,O,y,hU,Y⟩;unfold ot;have s:=hU;simp at s;by_cases q:i<u.funcs.length
 .have N:u.funcs[i]?=some u.funcs[i]:=g_ q;have hm:=Be q;generalize u.funcs[i]=f at N hm;have hb:=sm.bs f hm;obtain⟨b,off,c,A,_,_,⟨B,rfl,hB⟩,_,cZ⟩:=aD.later ok hu.2 N;simp[I,O,s,o,q];refine X5 ok N ⟨b,off,A,o,fun h' g=>cZ h' g 3 1 ag⟩ hB hb (G:=G) (U:=h.aw) hU y (au I) (au O) ae ae ?_;intro e3 h3 g3 Q V J;have K:=y.trans g3;have D:=g3.get y.ok s;have M:=cZ h3 K 3 1 ag;have dT:=aD.len hB;simp[-ax] at M;have hs:=D;have hfs:=sm.fs;have wi:=cg (i+1) ab ab;have xj:¬24<f.blocks.length->¬120<dp f.blocks->∀f∈u.funcs.take (i+1),VK f:=by intro h1 E f' Pq;rw[lg,N] at Pq;rcases jS.1 Pq with h|h;exact Y f' h;simp at h;subst h;exact⟨ab,ab⟩
  by_cases k1:24<f.blocks.length
  .have j:(24:Int)<f.blocks.length:=ab
   simp[Q,V,J,aF D,A,o,q,M,dT,j,-ax];exact K
  .have j:¬(24:Int)<f.blocks.length:=ab
   rw[M7 hb ab] at J;by_cases k2:120<dp f.blocks
   .have p:(120:Int)<dp f.blocks:=ab
    simp[Q,V,J,aF D,A,o,q,M,dT,j,p,-ax];exact K
   .have p:¬(120:Int)<dp f.blocks:=ab
    simp[Q,V,J,aF D,A,o,q,M,dT,j,p,wi,-ax];exact⟨u.funcs.length-(i+1),ab,i+1,rfl,ab,ae,K,by rw[D,A,o],xj k1 k2⟩
 .have:i=u.funcs.length:=ab
  subst this;rw[jT] at Y;by_cases k:10<u.funcs.length
  .have Z:(10:Int)<u.funcs.length:=ab
   simp[I,O,s,o,Z];exact y
  .have Z:¬(10:Int)<u.funcs.length:=ab
   simp[I,O,s,o,Z];exact⟨y,ab,Y⟩
def MA(o:cr h)(G F:SV):bc FF 14 [.agg ⟨[G.v,F.v]⟩] h (fun v h'=>v=.bool (decide (G.l=0)&&decide (F.l=0))/\ay aZ h h'):=by
 refine bc.of Co ?_;unfold tV;have g0:=aN o [G.v,F.v] 0;simp at g0;by_cases c:G.l=0
 .by_cases j:F.l=0;simp[c,j];simpa [c,j] using g0
  .have p:((F.l:Int)==0)=false:=by simp;omega
   simp[c,j,p];simpa [c] using g0
 .have q:((G.l:Int)==0)=false:=by simp;omega
  simp[c,q];exact g0
def bx(gs fs:SV)(name:ByteArray)(params aB:Int)(blocks ah:SV):List Value:=[gs.v,fs.v,.string name,.int .i64 params,.int .i64 aB,blocks.v,ah.v]
def He(aB:Int)(r:Bool)(n:Int):Int:=if r=true/\¬(0<=n/\n<=aB-1) then 3 else 0
def NR(aB n:Int):Int:=if ¬(0<=n/\n<=aB-1) then 3 else 0
section
variable{gs fs blocks ah:SV}{name:ByteArray}{params aB:Int}
def zX(h:az)(q:cr h)(A:0<=aB/\aB<1000000)(r:Bool)(n:Int):bc FF 202 [.agg ⟨bx gs fs name params aB blocks ah⟩,.agg ⟨[.bool r,.int .i64 n]⟩] h (fun v h'=>v=.int .i64 (He aB r n)/\ay aZ h h'):=by
 refine bc.of Cb ?_;unfold tI;have o:=cg (aB-1) ab ab;have p:=(aN q (bx gs fs name params aB blocks ah) 0);have c:=p.new [.bool r,.int .i64 n] 0;cases r with
 |false=>simp[bx,He];simpa [bx] using c
 |true=>
  simp[bx,o];refine bm.call (aj (fE _ n 0 (aB-1))) ?_;rintro _ h'⟨rfl,u⟩;subst u;by_cases h1:0<=n
  .by_cases j:n<=aB-1;simp[h1,j,He];simpa [bx] using c
   .have y:aB-1<n:=ab
    simp[h1,j,y,He];simpa [bx] using c
  .have s:n<0:=ab
   simp[h1,s,He];simpa [bx] using c
def Ig(h:az)(p:cr h)(y:0<=aB/\aB<1000000)(n:Int):bc FF 203 [.agg ⟨bx gs fs name params aB blocks ah⟩,.int .i64 n] h (fun v h'=>v=.int .i64 (NR aB n)/\ay aZ h h'):=by
 refine bc.of BY ?_;unfold tE;have o:=cg (aB-1) ab ab;have c:=(aN p (bx gs fs name params aB blocks ah) 0);simp[bx,o];refine bm.call (aj (fE _ n 0 (aB-1))) ?_;rintro _ h'⟨rfl,s⟩;subst s;by_cases h1:0<=n
 .by_cases j:n<=aB-1;simp[h1,j,NR];simpa [bx] using c
  .have u:aB-1<n:=ab
   simp[h1,j,u,NR];simpa [bx] using c
 .have q:n<0:=ab
  simp[h1,q,NR];simpa [bx] using c
def Yk(j:cr h)(p:0<=aB/\aB<1000000){args:SV}(o:fC h C (bx gs fs name params aB blocks ah) s1)(c:fC h X (aJ op dst ar an br bn fn args.v) s2):bc FF 205 [.pointer (some ⟨C,0,none⟩),.pointer (some ⟨X,0,none⟩)] h (fun v h'=>v=.int .i64 (He aB ar an)/\ay aZ h h'):=by
 refine bc.of zk ?_;unfold qx;simp[o,c,bx,aJ];refine bm.call (by simpa [bx] using zX (gs:=gs) (fs:=fs) (name:=name) (params:=params) (blocks:=blocks) (ah:=ah) h j p ar an) ?_;rintro _ h'⟨rfl,g⟩;simp;exact g
def Yl(j:cr h)(p:0<=aB/\aB<1000000){args:SV}(o:fC h C (bx gs fs name params aB blocks ah) s1)(c:fC h X (aJ op dst ar an br bn fn args.v) s2):bc FF 206 [.pointer (some ⟨C,0,none⟩),.pointer (some ⟨X,0,none⟩)] h (fun v h'=>v=.int .i64 (He aB br bn)/\ay aZ h h'):=by
 refine bc.of zm ?_;unfold qy;simp[o,c,bx,aJ];refine bm.call (by simpa [bx] using zX (gs:=gs) (fs:=fs) (name:=name) (params:=params) (blocks:=blocks) (ah:=ah) h j p br bn) ?_;rintro _ h'⟨rfl,g⟩;simp;exact g
end
end Go.Proofs.YtdhnndleffachaaGreatDoor
