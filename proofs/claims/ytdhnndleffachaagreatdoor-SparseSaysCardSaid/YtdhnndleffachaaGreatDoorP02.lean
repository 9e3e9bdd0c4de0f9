/- Parts of the proof. -/
import Derived.Test.YtdhnndleffachaaGreatDoorP01
import Derived.Shelf.SlSortCmp.NoneTotal
import Derived.ProofKit
import Derived.WideKeyArgs
import Derived.Test.YtdhnndleffachaaGreatDoorP00
import Derived.OpenShut
import Derived.Test.YtdhnndleffachaaGreatDoorProg
import Derived.KernelRfl
open Array renaming getElem?_mapIdx->y5,getElem?_modify->yN
open Go.Addr renaming add->OA
open Go renaming DataW->En,Func->G6,IntKind->bd,MemPlace->zt,Operand->aT,Program->bG,TypeId->cI,Value->aa,World->bQ
open Go.DataW renaming TrodAll->N3,trod->rk,weights->lW,weightsAll->sK,weightsEach->Eg
open Go.Sort renaming ahead->we,grow->sU
open Go.World renaming cell?->zo,frozen?->MY
open Int renaming negSucc->JW
open Nat renaming beq->an,ble_eq_true_of_le->qV,blt->c6,blt_eq->fa,le_add_right->pe,le_max_left->lC,le_max_right->kp,le_of_lt->qj,le_succ->dd,lt_succ_of_lt->sC,lt_succ_self->oU,mul_le_mul->sn,sub_self->rf,zero_le->hQ,zero_lt_one->ur
open Ne renaming symm->cE
open Option.some renaming inj->gD
open Option renaming some->Z,none->K
open Bool renaming false->cd,true->ck
open List renaming length->cz,all_cons->ef,drop_append->gB,drop_append_of_le_length->nv,drop_drop->hJ,flatten_cons->Gb,length_drop->uc,length_take->gv,mem_append_left->aW,mem_append_right->af,mem_cons->bn,mem_singleton->bl,nil_append->pn,pairwise_iff_getElem->kn,take_add->rA,take_append_of_le_length->gb,take_zero->lH
open Go.Value renaming slice->dB,bool->dC,pointer->eU,int->fc,string->gX,agg->ix,func->TA,okWide->rK
open Go.IntKind renaming i64->ft
open Or renaming inl->jZ,inr->kd
set_option linter.all false
set_option maxHeartbeats 1000000
namespace Go.AI
variable{F:Nat->Option dm}{S:Nat->Prop}{g cs a t z:List aa}{b bytes f H W i k len o off s B xs:Nat}{c v:aa}{fov:dm}{h h' d:az}{C:fZ}
section
variable{F:Nat->Option dm}{m:bH->Env->az->Prop}{e:Env}{h:az}
def Mm(h:az)(l:Nat):az:= {h with tr:=h.tr.del l}
def BY(l:Nat)(e:Env)(m:bH->Env->az->Prop)(h:az):Prop:=
 match h.tr.get l with
 |some (.loop _ _ _ _ .ready)=>m .normal e (Mm h l)
 |some (.loop _ _ _ _ (.done K))=>m .ret e (Mm h l)
 |some (.loop _ _ _ _ (.done (Z id)))=>m (.exit id) e (Mm h l)
 |_=>False
def aK.Xe{f:aT}{q:List Nat}{a b:aD}{g:Nat}{first caps:Array aa}(u:ev e f=.func (.func g) first caps)(H:aY F g (first.toList++[.func (.yield h.aw) #[] #[]]++caps.toList) (h.new (.loop e q a b .ready)) (λ_ h'=>BY h.aw e m h')):aK F (.Xe f q a b) e h m:=by
 obtain⟨n,v,h',y,p⟩:=H;have j:run F (n+1) (.Xe f q a b) e h=(match h'.tr.get h.aw with
    |some (.loop _ _ _ _ .ready)=>Z (.normal,e,{h' with tr:=h'.tr.del h.aw})
    |some (.loop _ _ _ _ (.done K))=>Z (.ret,e,{h' with tr:=h'.tr.del h.aw})
    |some (.loop _ _ _ _ (.done (Z id)))=>Z (.exit id,e,{h' with tr:=h'.tr.del h.aw})
    |_=>K):=by
  rw[fL];unfold dp;dsimp only;rw[u];dsimp only;rw[y];rfl
 unfold BY at p;split at p;rename_i q;rw[q] at j;exact⟨n+1,_,_,_,j,p⟩;rename_i q;rw[q] at j;exact⟨n+1,_,_,_,j,p⟩;rename_i q;rw[q] at j;exact⟨n+1,_,_,_,j,p⟩;exact p.elim
def af8(l:Nat)(j:Env)(e:List Nat)(f g:aD)(R:aa->az->Prop):bH->Env->az->Prop
 |.normal,_,h=>(∃a b c d,h.tr.get l=Z (.loop a b c d .busy)/\a=j/\b=e/\c=f/\d=g)/\R (dC ck) (gJ h l j e f g .ready)
 |.ret,_,h=>(∃a b c d,h.tr.get l=Z (.loop a b c d .busy)/\a=j/\b=e/\c=f/\d=g)/\R (dC cd) (gJ h l j e f g (.done K))
 |.exit id,_,h=>(∃a b c d,h.tr.get l=Z (.loop a b c d .busy)/\a=j/\b=e/\c=f/\d=g)/\R (dC cd) (gJ h l j e f g (.done (Z id)))
def fh.yield{l:Nat}{j:Env}{p:List Nat}{c n:aD}{a b:Array aa}{g:List aa}{R:aa->az->Prop}{G:Env}(M:h.tr.get l=Z (.loop j p c n .ready))(U:gG j p g=Z G)(H:aK F c G h (λx I D=>x=.normal/\D.tr.get l=Z (.loop j p c n .ready)/\aK F n I (gJ D l j p c n .busy) (af8 l j p c n R))):fh F (.func (.yield l) a b) g h R:=by
 obtain⟨n,x,I,D,N,rfl,A,m,y,I,O,u,p⟩:=H;have E:=uJ (lC n m) _ _ _ _ N;have V:=uJ (kp n m) _ _ _ _ u;have D:fF F (run F (max n m)) (.func (.yield l) a b) g h=(match(y,I,O) with
   |(.normal,_,h)=>ox l h .ready ck
   |(.ret,_,h)=>ox l h (.done K) cd
   |(.exit id,_,h)=>ox l h (.done (Z id)) cd:Option (aa×az)):=by
  clear p;unfold fF;dsimp only;unfold uI;rw[M];dsimp only;rw[U];dsimp only;rw[E];dsimp only;unfold zD;rw[A];dsimp only;simp only[V];cases y<;>rfl
 cases y with
 |normal=>
  obtain⟨⟨_,_,_,_,q,rfl,rfl,rfl,rfl⟩,p⟩:=p;exact⟨max n m,_,_,by rw[D];dsimp only;unfold ox;rw[q],p⟩
 |ret=>
  obtain⟨⟨_,_,_,_,q,rfl,rfl,rfl,rfl⟩,p⟩:=p;exact⟨max n m,_,_,by rw[D];dsimp only;unfold ox;rw[q],p⟩
 |exit id=>
  obtain⟨⟨_,_,_,_,q,rfl,rfl,rfl,rfl⟩,p⟩:=p;exact⟨max n m,_,_,by rw[D];dsimp only;unfold ox;rw[q],p⟩
end
def ch(n:Int)(h: -9223372036854775808<=n)(h':n<9223372036854775808):bd.i64.wrap n=n:=by simp only[bd.wrap,bd.signed,bd.bits];simp;omega
def yq{t:Type}{E:e7 t}(u:cu h){n0 bytes:Nat}{v w:aa}{xs j:List t}(p:cz z=E.sz)(a:bm E n0 h v xs)(M:bp E h w j)(G:cz xs+cz j<1000000)(N:bytes<=1000)(I:n0<=h.aw):∃x h',js h z bytes cd v w=Z (x,h')/\bm E n0 h' x (xs++j)/\ay (bx v) h h':=by
 unfold js;rw[HN p M];dsimp only;have q:=E.pos;have T:E.sz≠0:=ab
 rcases j with _|⟨y,j⟩;refine⟨v,h,?_,aj a,.refl u⟩;rcases a with⟨rfl,rfl⟩|⟨b,s,rfl,_,_,_⟩;simp[eI,p,q];simp[eI,p,q]
 .have D:roomy (cz xs+(cz j+1))=ck:=by simp[roomy];simp at G;omega
  have A:roomy ((cz xs+(cz j+1))*bytes)=ck:=by have:(cz xs+(cz j+1))*bytes<=1000000*1000:=sn (by simp at G;omega) N;simp[roomy];omega
  rcases a with⟨rfl,rfl⟩|⟨b,s,rfl,F,g,V⟩;simp only[List.length_nil,IV] at D A;refine⟨dB (Z ⟨h.aw,0,K⟩) (cz j+1) (cz j+1),aJ h (E.flat (y::j)) E.sz,?_,kd ⟨h.aw,0,J,J,J,I⟩,(aO u _ _).cm⟩;simp[eI,p,q,D,A]
  .refine⟨dB (Z ⟨h.aw,0,K⟩) (cz xs+(cz j+1)) (cz xs+(cz j+1)),aJ {h with tr:=h.tr.del b} (E.flat xs++E.flat (y::j)) E.sz,?_,kd ⟨h.aw,0,J,?_,J,I⟩,?_⟩
   .have O:¬(cz xs)+(cz j+1)<=cz xs:=ab
    have U:(E.flat xs).take (cz xs*E.sz)=E.flat xs:=tK J;simp[eI,p,q,D,A,F,O,U,T]
   have:=bX {h with tr:=h.tr.del b} (E.flat xs++E.flat (y::j)) E.sz;rw[e7.fK];exact this;refine((pc u b).cU ?_).trans (aO (pc u b).ok _ _).cm;rintro x _ rfl;exact⟨_,_,_,Q⟩
def Old(b:Nat)(h:az):Prop:=b<h.aw
def Old.lt(o:Old b h):b<h.aw:=o
@[simp] def afO(h:az)(cs:List aa)(o:Nat):Old h.aw (aJ h cs o):=oU _
@[simp] def ael(h:az)(cs:List aa)(o:Nat):Old h.aw (aJ h cs o)=True:=J
@[simp] def ayj(b:Nat)(h:az)(c off:Nat)(cs a:List aa)(o:Nat):Old b (put h c off cs a o)↔Old b h:=Iff.rfl
@[simp] def awd(b:Nat)(h:az):Old b (tick h)↔Old b h:=Iff.rfl
@[simp] def aqb(H:Old b h):Old b (aJ h cs o):=sC H
@[simp] def aD1(H:Old b h):(b=h.aw)=False:=by have:b<h.aw:=H;exact propext ⟨λe=>ab,False.elim⟩
@[simp] def ayh(H:Old b h):(h.aw=b)=False:=by have:b<h.aw:=H;exact propext ⟨λe=>ab,False.elim⟩
@[simp] def ayi(H:Old b h):(b=h.aw+k)=False:=by have:b<h.aw:=H;exact propext ⟨λe=>ab,False.elim⟩
@[simp] def awc(H:Old b h):(h.aw+k=b)=False:=by have:b<h.aw:=H;exact propext ⟨λe=>ab,False.elim⟩
def ay.cg(g:ay S h h')(H:Old b h):Old b h':=OD H g.aw
def ay.got(g:ay aR h h')(H:Old b h):h'.tr.get b=h.tr.get b:=g.same b H (λh=>h)
def cu.cg(j:cu h){o:qe}(a:h.tr.get b=Z o):Old b h:=j.wf _ _ a
def ay.var{h p:az}(g:ay S h p)(j a:List aa):ay S h (AI.put (AI.aJ p j 0) p.aw 0 j a 0):=
 (g.new j 0).put ⟨_,bX _ _ _⟩ (jZ g.aw)
def ME(H:Old b h)(cs:List aa)(o:Nat):(aJ h cs o).tr.get b=h.tr.get b:=by rw[CF,bM (by intro e;have:=H.lt;omega)]
def bj(H:Old b h)(cs:List aa)(o off n:Nat):cy (aJ h cs o) b off n=cy h b off n:=by unfold cy;rw[CF,bM (by intro e;have:=H.lt;omega)]
def cn{b c:Nat}(H:¬b=c)(cs a:List aa)(o off j n:Nat):cy (put h c j cs a o) b off n=cy h b off n:=by unfold cy;rw[dO,bM H]
def aB{n:Bool}(a:h.tr.get b=Z (.bZ cs n o s))(off n:Nat):cy h b off n=if off+n<=cz cs then Z ((cs.drop off).take n) else if n=0 then Z [] else K:=by rw[ax,a]
def aH(h:az)(b j:Nat)(cs a:List aa)(o off n:Nat):cy (put h b j cs a o) b off n=if off+n<=cz (aX cs j a) then Z (((aX cs j a).drop off).take n) else if n=0 then Z [] else K:=
 aB (aZ h b j cs a o) off n
def eY(h:az)(cs:List aa)(o off n:Nat):cy (aJ h cs o) h.aw off n=if off+n<=cz cs then Z ((cs.drop off).take n) else if n=0 then Z [] else K:=
 aB (bX h cs o) off n
def F9(o:qe)(H:Old b h):(h.new o).tr.get b=h.tr.get b:=by simp only[az.new,Tr.bN];rw[bM (by intro e;have:=H.lt;omega)]
def BY.ready{l:Nat}{f:Env}{e:bH->Env->az->Prop}{h:az}{a:Env}{b:List Nat}{c d:aD}(j:h.tr.get l=Z (.loop a b c d .ready))(H:e .normal f (Mm h l)):BY l f e h:=by unfold BY;rw[j];exact H
section
variable{F:Nat->Option dm}{n:bH->Env->az->Prop}{R:Env->az->Prop}{e:Env}{h:az}{l:List cr}{k:Nat}{m:List (cr×List Nat)}
def aK.cut{c:aD}(P:az->Prop)(j:P d)(a:∀h',P h'->aK F c e h' n):aK F c e d n:=a d j
def bh.cut(P:az->Prop)(j:P d)(a:∀h',P h'->bh F l e h' R):bh F l e d R:=a d j
def bS.cut(P:az->Prop)(j:P d)(a:∀h',P h'->bS F k m e h' R):bS F k m e d R:=a d j
def bS.call{d:Option Nat}{f:Nat}{g:List aT}{a:List Nat}{V:aa->az->Prop}(H:aY F f (qY e g) h V)(b:∀v h',V v h'->still (ik e d v) h' k a=ck/\bS F k m (ik e d v) h' R):bS F k ((⟨d,K,.call (.func f) g⟩,a)::m) e h R:=by rw[alW];have⟨n,v,h',p,j⟩:=H;refine⟨n,v,h',?_,b v h' j⟩;have:=Cx p;simpa [ev,AI.fF] using this
end
def yQ(z:List aa)(o bytes H W:Nat):aD:=(G_ [o_ 6 (.mv (.const (dB K 0 0)))] (G_ [m_ 10 0,m_ 11 1,o_ 12 (.slice o (t_ 10) (Z (t_ 11)) K K)] (G_ [m_ 13 2,z_ 14 13,m_ 7 14] (J_ (G_ [m_ 15 7,o_ 16 (.bin .eql [1] (t_ 15) (i_ 0))] (I_ 16 (G_ [m_ 17 0,m_ 6 17] .ret) .skip)) (G_ [m_ 18 0,z_ 19 18,m_ 8 19] (J_ (G_ [m_ 20 1,m_ 21 8,o_ 22 (.bin .eql [1] (t_ 20) (t_ 21))] (I_ 22 (G_ [m_ 23 0,m_ 24 2,o_ 25 (.append z bytes cd (t_ 23) (t_ 24)),m_ 6 25] .ret) .skip)) (J_ (G_ [m_ 26 8,m_ 27 7,B_ 28 .add 26 27,m_ 29 0,o_ 30 (.RO (t_ 29)),B_ 31 .gtr 28 30] (I_ 31 (G_ [m_ 32 0,m_ 33 1,o_ 34 (.slice o (t_ 32) K (Z (t_ 33)) K),m_ 35 8,m_ 36 7,B_ 37 .add 35 36,m_ 38 1,B_ 39 .sub 37 38,o_ 40 (.append z bytes ck (t_ 34) (t_ 39)),m_ 9 40] (G_ [m_ 41 9,m_ 42 1,o_ 43 (.slice o (t_ 41) (Z (t_ 42)) K K),m_ 44 2,o_ 45 (.copy o (t_ 43) (t_ 44))] (J_ (V_ [D_ (m_ 46 9),D_ (m_ 47 1),D_ (m_ 48 7),D_ (B_ 49 .add 47 48),(o_ 50 (.slice o (t_ 46) (Z (t_ 49)) K K),[]),D_ (m_ 51 0),D_ (m_ 52 1),(o_ 53 (.slice o (t_ 51) (Z (t_ 52)) K K),[]),(o_ 54 (.copy o (t_ 50) (t_ 53)),[])]) (G_ [m_ 55 9,m_ 6 55] .ret)))) .skip)) (G_ [m_ 56 0,m_ 57 8,m_ 58 7,B_ 59 .add 57 58,o_ 60 (.slice o (t_ 56) K (Z (t_ 59)) K),m_ 0 60] (J_ (G_ [m_ 61 2,m_ 62 0,m_ 63 1,m_ 64 7,B_ 65 .add 63 64,o_ 66 (.slice o (t_ 62) (Z (t_ 65)) K K),o_ 67 (.call (.func H) [t_ 61,t_ 66]),o_ 68 (.un .not (t_ 67))] (I_ 68 (J_ (V_ [D_ (m_ 69 0),D_ (m_ 70 1),D_ (m_ 71 7),D_ (B_ 72 .add 70 71),(o_ 73 (.slice o (t_ 69) (Z (t_ 72)) K K),[]),D_ (m_ 74 0),D_ (m_ 75 1),(o_ 76 (.slice o (t_ 74) (Z (t_ 75)) K K),[]),(o_ 77 (.copy o (t_ 73) (t_ 76)),[])]) (G_ [m_ 78 0,m_ 79 1,o_ 80 (.slice o (t_ 78) (Z (t_ 79)) K K),m_ 81 2,o_ 82 (.copy o (t_ 80) (t_ 81))] (G_ [m_ 83 0,m_ 6 83] .ret))) .skip)) (G_ [m_ 84 0,m_ 85 8,o_ 86 (.slice o (t_ 84) (Z (t_ 85)) K K),m_ 87 2,o_ 88 (.copy o (t_ 86) (t_ 87))] (G_ [m_ 89 0,m_ 90 1,o_ 91 (.slice o (t_ 89) (Z (t_ 90)) K K),m_ 92 7,o_ 93 (.call (.func W) [t_ 91,t_ 92])] (G_ [m_ 94 0,m_ 6 94] .ret))))))))))))
def aM(cs a:List aa)(off i len o:Nat):List aa:=(cs.drop off).take (i*o)++a++(cs.drop (off+i*o)).take ((len-i)*o)
def apP(j:cz a=o)(G:i<len)(A:off+(len+1)*o<=cz cs):aX (aX cs (off+(i+1)*o) ((cs.drop (off+i*o)).take ((len-i)*o))) (off+i*o) a=cs.take off++aM cs a off i len o++cs.drop (off+(len+1)*o):=by
 have E:(i+1)*o=i*o+o:=by rw[xf];omega
 have y:(len+1)*o=len*o+o:=by rw[xf];omega
 have D:i*o+(len-i)*o=len*o:=by rw[<-xf];congr 1;omega
 have u:cz ((cs.drop (off+i*o)).take ((len-i)*o))=(len-i)*o:=by simp;omega
 unfold aX aM;rw[u,j];have p:(cs.take (off+(i+1)*o)++(cs.drop (off+i*o)).take ((len-i)*o)++cs.drop (off+(i+1)*o+(len-i)*o)).take (off+i*o)=cs.take off++(cs.drop off).take (i*o):=by rw[MD,gb (by simp;omega),List.take_take,Nat.min_eq_left ab,rA]
 have q:(cs.take (off+(i+1)*o)++(cs.drop (off+i*o)).take ((len-i)*o)++cs.drop (off+(i+1)*o+(len-i)*o)).drop (off+i*o+o)=(cs.drop (off+i*o)).take ((len-i)*o)++cs.drop (off+(len+1)*o):=by
  rw[MD,gB,gv,Nat.min_eq_left ab,show off+i*o+o-(off+(i+1)*o)=0 by omega,List.drop_zero,Cy (by simp;omega),pn,show off+(i+1)*o+(len-i)*o=off+(len+1)*o by omega]
 rw[p,q];simp only[MD]
def ahK(P:F f=Z ⟨[.tmp 6],yQ z o bytes H W,.no⟩)(N:F H=Z fov)(G:fov.CW=.WN)(j:0<o){b off len j i x y L:Nat}(T:i<len)(c:len<j)(c:len<1000000)(c:eR h b cs s)(r:off+j*o<=cz cs)(r:h.tr.get x=Z (.bZ t cd B xs))(q:cy h x y o=Z a)(S:b≠x):aY F f [dB (Z ⟨b,off,K⟩) len j,fc ft i,dB (Z ⟨x,y,K⟩) 1 L] h (λv h'=>v=dB (Z ⟨b,off,K⟩) (len+1) j/\h'.aw=h.aw/\h.clock<=h'.clock/\(∀y,y<h.aw->y≠b->h'.tr.get y=h.tr.get y)/\∃L,h'.tr.get b=Z (.bZ (cs.take off++aM cs a off i len o++cs.drop (off+(len+1)*o)) cd 0 L)):=by
 have⟨L,D⟩:∃L,L=len+1:=⟨_,Q⟩;have⟨I,n⟩:∃I,I=i+1:=⟨_,Q⟩;rw[<-D];have O:bd.i64.wrap ((len:Int)+1)=(L:Int):=by rw[ch _ ab ab];omega
 have k:bd.i64.wrap ((i:Int)+1)=(I:Int):=by rw[ch _ ab ab];omega
 have l:((i:Int)==(len:Int))=cd:=by simp;omega
 have E:¬j<L:=ab
 have p:L<=j:=ab
 have m:i<=len:=ab
 have g:i<=L:=ab
 have d:I<=L:=ab
 have w:Nat.min 1 (L-i)=1:=by show min 1 (L-i)=1;omega
 have U:Nat.min (L-i) (L-I)=len-i:=by show min (L-i) (L-I)=len-i;omega
 have C:¬len-i=0:=ab
 have A:i*o+(len-i)*o=len*o:=by rw[<-xf];congr 1;omega
 have A:L*o=len*o+o:=by rw[D,xf];omega
 have A:I*o=i*o+o:=by rw[n,xf];omega
 have A:L*o<=j*o:=IX _ p;have A:cz a=o:=by unfold cy at q;rw[r] at q;dsimp only at q;split at q;rename_i j;cases q;exact sq j;cases q
 have X:cy h b (off+i*o) ((len-i)*o)=Z ((cs.drop (off+i*o)).take ((len-i)*o)):=dx c ab;have V:cz ((cs.drop (off+i*o)).take ((len-i)*o))=(len-i)*o:=by simp;omega
 have L:min ((len-i)*o) (cz cs-(off+i*o))=(len-i)*o:=ab
 have M:off+I*o+(len-i)*o<=cz cs:=ab
 have j:cz (aX cs (off+I*o) ((cs.drop (off+i*o)).take ((len-i)*o)))=cz cs:=by simp[aX];omega
 have I:off+i*o+o<=cz cs:=ab
 have u:¬x=b:=λe=>S e.symm;refine aY.of P ?_;unfold yQ;simp[O,k,l,E,p,m,g,d,w,U,C,c];refine bh.fF (V:=λv h'=>v=dC cd/\h'=h) (fh.WN N G (v:=.bool cd) (h':=h) ?_ ⟨Q,Q⟩) ?_
 .have G:an x b=cd:=by cases e:an x b;rfl;exact absurd (sq e) u
  simp[R4,r,c,G]
 rintro _ h'⟨rfl,e⟩;subst e;simp[O,k,l,E,p,m,g,d,w,U,C,c,X,aI,cn,q,A,V,L,M,j,I,u,-ax];refine⟨ab,λy _ y=>au y,?_⟩;rw[n,D,apP A T (by rw[<-D];omega)];simp only[MD]
def zr(o:Nat)(g:List aa)(h:az):Option (aa×az):=
 match g with
 |[dB (Z ⟨b,off,K⟩) len j,fc ft (.ofNat i),dB (Z ⟨x,p,K⟩) m _]=>
  match h.tr.get b,h.tr.get x with
  |some (.bZ cs cd c _),Z (.bZ _ cd _ _)=>
   if an len j&&c6 i len&&an m 1&&an c o&&an (off+j*o) (cz cs)&& !(an b x)&&c6 len 1000000 then
    match cy h x p o with
    |some a=>Z (dB (Z ⟨h.aw+8,0,K⟩) (len+1) (len+1),aJ {h with aw:=h.aw+8,tr:=h.tr.del b} (aM cs a off i len o) o)
    |none=>K
   else K
  |_,_=>K
 |_=>K
section
variable{P:bG}{m:dH}{C e:fZ}{h j:az}{w l:bQ}
def agq(k:KR C v c)(j:dw v=ck):dw c=ck:=by
 cases k with
 |cell k=>cases k<;>first|exact j|cases j
 |fn=>cases j
 |yield=>cases j
end
section
variable{P:bG}{T:uK}{e:Nat}{F:Nat->Option dm}
def Yz{a b c:aa}{l:List aa}(h:bo (VR C) [a,b,c] l):∃x y z,l=[x,y,z]/\VR C a x/\VR C b y/\VR C c z:=by
 cases h with
 |cons d h=>cases h with
  |cons j h=>cases h with
   |cons p h=>cases h with
    |nil=>exact⟨_,_,_,Q,d,j,p⟩
def h_{b o len p:Nat}(h:VR C (dB (Z ⟨b,o,K⟩) len p) c):∃r q j,C b=Z r/\yo r o len p q j/\c=dB (Z q) len j:=by
 have:=CR.vX h rfl;cases this with
 |slice h' u=>exact⟨_,_,_,h',u,Q⟩
end
def Ut(F:Nat->Option dm)(H:Nat)(f:Nat):Option dm:=bif an f H then Z ⟨[],.bad,.WN⟩ else F f
section
variable{P:bG}{T:uK}{e:Nat}{F:Nat->Option dm}
def abm{a:wq}(p:Kq P T e a F)(j:Zr P T H):Kq P T e a (Ut F H):=by intro f q h;unfold Ut at h;cases a:an f H;rw[a] at h;exact p f q h;rw[a] at h;cases h;rw[sq a];exact j
end
def alk(O:F f=Z ⟨[.tmp 6],yQ z o bytes H W,.no⟩)(N:cz z=o)(U:0<o)(M:bytes<=1000){b off len j x D y:Nat}(c:len<j)(c:len<1000000)(c:eR h b cs s)(A:off+j*o<=cz cs)(A:h.tr.get x=Z (.bZ t cd B xs))(p:cy h x D o=Z a):aY F f [dB (Z ⟨b,off,K⟩) len j,fc ft len,dB (Z ⟨x,D,K⟩) 1 y] h (λv h'=>v=dB (Z ⟨b,off,K⟩) (len+1) j/\h'.aw=h.aw/\h.clock<=h'.clock/\(∀y,y<h.aw->y≠b->h'.tr.get y=h.tr.get y)/\∃G,h'.tr.get b=Z (.bZ (aX cs (off+len*o) a) cd 0 G)):=by
 have⟨L,q⟩:∃L,L=len+1:=⟨_,Q⟩;rw[<-q];have E:L<=j:=ab
 have u:L*o=len*o+o:=by rw[q,xf];omega
 have u:L*o<=j*o:=IX _ E;have u:cz a=o:=by unfold cy at p;rw[A] at p;dsimp only at p;split at p;rename_i j;cases p;exact sq j;cases p
 have I:roomy L=ck:=by simp[roomy];omega
 have j:roomy (L*bytes)=ck:=by have:L*bytes<=1000000*1000:=sn ab M;simp[roomy];omega
 have M:off+len*o+o<=cz cs:=ab
 refine aY.of O ?_;unfold yQ;simp[N,U,c,A,p,js,news,eI,<-q,I,j,E,gK,u,M,-ax];exact⟨λy _ V=>by simp[Tr.bN,V],h.clock,by simp[Tr.bN]⟩
def QG(G:F f=Z ⟨[.tmp 6],yQ z o bytes H W,.no⟩)(u:F H=Z fov)(V:fov.CW=.WN)(k:cz z=o)(e:0<o)(g:bytes<=1000){b off len j i x N xc:Nat}(I:i<=len)(I:len<j)(E:len<1000000)(c:eR h b cs s)(M:off+j*o<=cz cs)(A:h.tr.get x=Z (.bZ t cd B xs))(p:cy h x N o=Z a)(q:b≠x):aY F f [dB (Z ⟨b,off,K⟩) len j,fc ft i,dB (Z ⟨x,N,K⟩) 1 xc] h (λv h'=>v=dB (Z ⟨b,off,K⟩) (len+1) j/\h'.aw=h.aw/\h.clock<=h'.clock/\(∀y,y<h.aw->y≠b->h'.tr.get y=h.tr.get y)/\∃O,h'.tr.get b=Z (.bZ (cs.take off++aM cs a off i len o++cs.drop (off+(len+1)*o)) cd 0 O)):=by
 rcases Kz i len with d|d;exact ahK G u V e d I E c M A p q
 .have:i=len:=ab
  subst this;have U:(i+1)*o=i*o+o:=by rw[xf];omega
  have D:(i+1)*o<=j*o:=IX _ ab;have D:cz a=o:=by unfold cy at p;rw[A] at p;dsimp only at p;split at p;rename_i j;cases p;exact sq j;cases p
  have j:cs.take off++aM cs a off i i o++cs.drop (off+(i+1)*o)=aX cs (off+i*o) a:=by unfold aM aX;rw[rf,Nat.zero_mul,lH,Bx,<-MD,<-rA,D,U,IU]
  rw[j];exact alk G k e g I E c M A p
def L6(o:Nat)(g:List aa)(h:az):Option (aa×az):=
 match g with
 |[dB (Z ⟨b,off,K⟩) len j,fc ft (.ofNat i),dB (Z ⟨x,p,K⟩) m _]=>
  match h.tr.get b,h.tr.get x with
  |some (.bZ cs cd c _),Z (.bZ _ cd _ _)=>
   if Nat.ble i len&&c6 len j&&an m 1&&(an c o||an c 0)&&Nat.ble (off+j*o) (cz cs)&& !(an b x)&&c6 len 1000000 then
    match cy h x p o with
    |some a=>Z (dB (Z ⟨b,off,K⟩) (len+1) j,{put h b off cs (aM cs a off i len o) c with aw:=h.aw+8})
    |none=>K
   else K
  |_,_=>K
 |_=>K
def acw(p:L6 o g h=Z (v,h')):∃b off len j i x q u cs c s t B xs a,g=[dB (Z ⟨b,off,K⟩) len j,fc ft (.ofNat i),dB (Z ⟨x,q,K⟩) 1 u]/\h.tr.get b=Z (.bZ cs cd c s)/\h.tr.get x=Z (.bZ t cd B xs)/\i<=len/\len<j/\(c=o\/c=0)/\off+j*o<=cz cs/\b≠x/\len<1000000/\cy h x q o=Z a/\v=dB (Z ⟨b,off,K⟩) (len+1) j/\h'= {put h b off cs (aM cs a off i len o) c with aw:=h.aw+8} :=by
 unfold L6 at p;split at p
 .rename_i b off len j i x q m u;split at p
  .rename_i cs c s t B xs f O;split at p
   .rename_i A;simp only[oD,Bool.not_eq_true',Bool.or_eq_true] at A;have⟨⟨⟨⟨⟨⟨d,E⟩,N⟩,G⟩,e⟩,y⟩,I⟩:=A;split at p;rename_i a M;cases p;have D:=sq N;subst D;refine⟨b,off,len,j,i,x,q,u,cs,c,s,t,B,xs,a,Q,f,O,Uz d,by simpa [fa] using E,G.imp sq sq,Uz e,?_,by simpa [fa] using I,M,Q,Q⟩;rintro rfl;rw[Nat.beq_refl] at y;cases y
    cases p
   cases p
  cases p
 cases p
def Rg(u:L6 o g h=Z (v,h')):fm h h':=by
 obtain⟨b,off,len,E,i,x,x,M,cs,j,s,t,B,xs,a,_,c,_,_,_,_,_,_,_,_,_,rfl⟩:=acw u;have q:∀y,({put h b off cs (aM cs a off i len o) j with aw:=h.aw+8} :az).tr.get y=if y=b then Z (.bZ (aX cs off (aM cs a off i len o)) cd j h.clock) else h.tr.get y:=by intro y;simp only[put,Tr.bN]
 refine⟨pe _ _,dd _,?_,?_,?_⟩;intro y j I O G A j N;rw[q] at j;by_cases e:y=b;rw[bK e] at j;cases j;omega;rwa [bM e] at j
 .intro p y D j;rw[q] at j;show y<h.aw+8;by_cases e:y=b
  have:=p b _ c;omega;rw[bM e] at j;have:=p y D j;omega
 intro y A j;rw[q] at j;by_cases e:y=b;rw[bK e] at j;cases j;rwa [bM e] at j
section
variable{l:dH}{C:fZ}{h h':az}{w:bQ}
def ff.swap(S:ff l C h w){r E:Fc}{I q:qe}(v:C k=Z E)(c:h.tr.get k=Z I)(V:I.rw=ck)(t:C b=Z r)(N:r.bZ=E.bZ)(g:h'.tr.get b=Z q)(B:jR l C r q w)(U:h.aw<=h'.aw)(D:∀y o,y≠b->h'.tr.get y=Z o->y≠k/\∃A,h.tr.get y=Z A/\o=A):ff l C h' w/\Ext C h w C h' w:=by
 have T:gh h k:=⟨I,c,V⟩;refine⟨⟨λx p j=>⟨OD (S.low x p j).1 U,(S.low x p j).2⟩,?_,?_,?_⟩,⟨C.le_refl,U,fq _,Q,Q,Q,λ_ _ _=>rfl,?_,λx r d G=>(by rw[d] at G;cases G),?_⟩⟩;intro x p o j u;by_cases e:x=b;subst e;rw[t] at j;cases j;rw[g] at u;cases u;exact B;obtain⟨_,A,d,rfl⟩:=D x o e u;exact S.obj x p o j d;intro x y p X o j O ⟨q,V,M⟩ u eV;by_cases m:x=b;subst m;rw[t] at j;cases j;obtain⟨G,A,d,rfl⟩:=D y o (cE eV) u;rw[N];exact S.inj k y E X o v O T d (cE G);obtain⟨H,B,L,rfl⟩:=D x q m V;by_cases m:y=b;subst m;rw[t] at O;cases O;rw[N];exact S.inj x k p E I j v ⟨q,L,M⟩ c H;obtain⟨G,A,d,rfl⟩:=D y o m u;exact S.inj x y p X o j O ⟨q,L,M⟩ d eV;intro x o j;by_cases e:x=b;subst e;exact OD (S.low x r t).1 U;obtain⟨_,A,d,rfl⟩:=D x o e j;exact OD (S.wf x o d) U;intro x p j ⟨q,V,M⟩;by_cases e:x=b;subst e;rw[t] at j;cases j;exact kd ⟨k,E,v,T,N.symm⟩;obtain⟨_,A,d,rfl⟩:=D x q e V;exact kd ⟨x,p,j,⟨q,d,M⟩,Q⟩;intro x p o j u;by_cases e:x=b;subst e;rw[t] at j;cases j;exact kd ⟨k,E,I,v,c,N.symm⟩;obtain⟨_,A,d,rfl⟩:=D x o e u;exact kd ⟨x,p,o,j,d,Q⟩
end
def Z1(u:i<=len)(p:cz a=o)(q:off+len*o<=cz cs):cs.take off++aM cs a off i len o++cs.drop (off+(len+1)*o)=aX cs off (aM cs a off i len o)/\cz (aM cs a off i len o)=(len+1)*o:=by
 have d:i*o+(len-i)*o=len*o:=by rw[<-xf];congr 1;omega
 have j:cz (aM cs a off i len o)=(len+1)*o:=by simp only[aM,X0,gv,uc,p,xf];omega
 exact⟨by unfold aX;rw[j],j⟩
section
variable{P:bG}{T:uK}{l:Nat}{F:Nat->Option dm}
def aeO(hF:Kq P T l (fY T l) F)(hT:eC P T)(hf:F f=Z ⟨[.tmp 6],yQ z o bytes H W,.no⟩)(hfo:F H=Z fov)(Is:fov.CW=.WN)(hz:cz z=o)(ho:0<o)(Gc:bytes<=1000):RD P T l (fY T l) f (L6 o):=by
 intro g h v h' hv I C w' S hG y gm;obtain⟨b,off,len,cap,i,x',xo,xc,cs,D,s,t,B,xs,a,rfl,w,n,hi,MM,m,O,hbx,ZH,I,rfl,rfl⟩:=acw hv;obtain⟨u,c1,c2,rfl,m,d,h2⟩:=Yz y;obtain⟨r,ca,q,x,k,rfl⟩:=h_ m;have E:cz a=o:=by unfold cy at I;rw[n] at I;dsimp only at I;split at I;rename_i M;cases I;exact sq M;cases I
 have e:len*o+o=(len+1)*o:=by rw[xf];omega
 have G:(len+1)*o<=cap*o:=IX _ MM;have⟨yj,fI⟩:=Z1 (cs:=cs) (off:=off) hi E ab;have u:=S.wf _ _ w;have M:=S.wf _ _ n;have u:=S.obj b r _ x w;rcases EK D with rfl|e
 .obtain⟨n',v2,yK,hr,rfl,ZF,SX,VU,s',N⟩:=QG (F:=F) hf hfo Is hz ho Gc (h:=h) (b:=b) (off:=off) (xc:=xc) hi MM ZH w O n I hbx;have⟨fn,O,L,c,M',g1,g2,g3,g4,g5,g6,g7,m,U⟩:=FN hF hT hr S hG y gm;rw[yj] at N;have A:=U.le b r x;have hO:jR (jc T l (fY T l)) O r (.bZ (aX cs off (aM cs a off i len o)) cd 0 h.clock) L:=by have:=m.obj b r _ A N;exact this
  have⟨S3,E3⟩:=m.swap (h':= {put h b off cs (aM cs a off i len o) 0 with aw:=h.aw+8}) A N rfl A rfl (by simp[put,Tr.bN]) hO (by rw[ZF];exact pe _ _) (λy o' V G=>by simp only[put,Tr.bN] at G;rw[bM V] at G;exact⟨V,o',by rw[VU y (S.wf y _ G) V];exact G,Q⟩);exact⟨fn,O,L,c,M',g1,g2,g3,g4,g5,g6,g7,S3,U.trans E3⟩
 .have p:D=o:=ab
  subst p;have⟨p,el,fr,hw,j,Gf,⟨nC,M⟩,hfr,e⟩:=u;have j:r.len<=r.room:=by have⟨c,X,_⟩:=e (cz cs-1) _ (jh ab);have:=(Array.getElem?_eq_some_iff.mp X).1;omega
  have am_:cz (p.toList.drop (r.base+r.len))=r.room-r.len:=by simp;omega
  have auL:cz (cs++p.toList.drop (r.base+r.len))=r.room:=by rw[X0,am_];omega
  have avm:∀j v,(p.toList.drop (r.base+r.len))[j]?=Z v->dw v=ck/\p[r.base+(r.len+j)]?=Z v:=by
   intro j v u;rw[List.getElem?_drop] at u;have E:p[r.base+(r.len+j)]?=Z v:=by rw[<-IU];simpa using u
   exact⟨M ab (r.len+j) v ab E,E⟩
  let E:Fc:=⟨r.bZ,r.base,r.room,0,r.room⟩
  have M:=yZ (r:=E) S.fresh;have aCw:jR (jc T l (fY T l)) (lv C h.aw E) E (.bZ (cs++p.toList.drop (r.base+r.len)) cd 0 0) w':=by refine⟨p,el,fr,hw,auL.symm,Q,⟨nC,λh=>absurd Q h⟩,hfr,λj v u=>?_⟩;by_cases bg:j<cz cs;rw[MG bg] at u;have⟨c,X,hk⟩:=e j v u;exact⟨c,X,hk.mono M⟩;rw[OC ab] at u;have⟨X,e⟩:=avm _ _ u;refine⟨v,?_,.cell (kA X)⟩;rw[<-e];show p[r.base+j]?=_;congr 1;omega
  have⟨S1,E1⟩:=S.move (im:=E) x w rfl rfl ⟨Q,Q,Q,Q,λ_ _=>rfl⟩ aCw;have w:∀y,(({h with tr:=h.tr.del b} :az).new (.bZ (cs++p.toList.drop (r.base+r.len)) cd 0 0)).tr.get y=if y=h.aw then Z (.bZ (cs++p.toList.drop (r.base+r.len)) cd 0 0) else if y=b then K else h.tr.get y:=by intro y;simp only[az.new,Tr.bN,Tr.mT]
  have hn1:(({h with tr:=h.tr.del b} :az).new (.bZ (cs++p.toList.drop (r.base+r.len)) cd 0 0)).aw=h.aw+1:=Q;generalize e:({h with tr:=h.tr.del b} :az).new (.bZ (cs++p.toList.drop (r.base+r.len)) cd 0 0)=nu at*;have SU:nu.tr.get h.aw=Z (.bZ (cs++p.toList.drop (r.base+r.len)) cd 0 0):=by rw[w,bK rfl]
  have hx1:nu.tr.get x'=Z (.bZ t cd B xs):=by rw[w,bM ab,bM (cE hbx)];exact n
  have aC7:cy nu x' xo D=Z a:=by rw[<-I];unfold cy;rw[hx1,n]
  have Pq:ca=⟨r.bZ,r.base+off,K⟩:=by rcases k.1 with e|⟨_,e⟩;exact e;omega
  have I:cap<=q:=by rcases k.2.1 with e|e;omega;omega
  have n:off+q*D<=r.room:=by rcases k.2.1 with e|⟨_,_,_,e⟩;rw[e];omega;rw[Gf] at e;exact e
  have I:bo (VR (lv C h.aw E)) [dB (Z ⟨h.aw,off,K⟩) len q,fc ft (.ofNat i),dB (Z ⟨x',xo,K⟩) 1 xc] [dB (Z ca) len q,c1,c2]:=by refine .cons (CR.vr (.slice (r:=E) (by simp[lv]) ⟨.inl Pq,jZ Q,ab⟩)) (.cons (d.mono M) (.cons (h2.mono M) .nil))
  have hG1:=hG.mono M;obtain⟨n',v2,yK,hr,rfl,ZF,SX,VU,s',N⟩:=QG (F:=F) hf hfo Is hz ho Gc (h:=nu) (b:=h.aw) (off:=off) (i:=i) (xc:=xc) hi (show len<q by omega) ZH SU (by rw[auL];exact n) hx1 aC7 ab;have⟨fn,O,L,c,M',g1,g2,g3,g4,g5,g6,g7,m,U⟩:=FN hF hT hr S1 hG1 I gm;obtain⟨r2,I,as1,A,n,rfl⟩:=h_ g7;have I:r2=E:=by have:=U.le h.aw E (by simp[lv]);rw[this] at A;cases A;rfl
  subst I;have E:aM (cs++p.toList.drop (r.base+r.len)) a off i len D=aM cs a off i len D:=by
   have I:i*D+(len-i)*D=len*D:=by rw[<-xf];congr 1;omega
   unfold aM;rw[nv ab,nv ab,gb (by simp;omega),gb (by simp;omega)]
  have I:(cs++p.toList.drop (r.base+r.len)).take off++aM (cs++p.toList.drop (r.base+r.len)) a off i len D++(cs++p.toList.drop (r.base+r.len)).drop (off+(len+1)*D)=aX cs off (aM cs a off i len D)++p.toList.drop (r.base+r.len):=by rw[E,<-yj,gb ab,nv ab];simp only[MD]
  rw[I] at N;have hlc:cz (aX cs off (aM cs a off i len D))=cz cs:=by rw[<-yj];simp only[X0,gv,uc,fI];omega
  obtain⟨E,el2,aAI,hw2,I,_,⟨I,_⟩,hfr2,u'⟩:=m.obj _ _ _ A N;have hρb:O b=Z r:=U.le b r (M b r x);have hO:jR (jc T l (fY T l)) O r (.bZ (aX cs off (aM cs a off i len D)) cd D h.clock) L:=by
   refine⟨E,el2,aAI,hw2,ab,Gf,⟨I,λ_ j c u X=>?_⟩,hfr2,λj v u=>?_⟩
   .have x:=(Array.getElem?_eq_some_iff.mp X).1;have M:r.base+r.room=E.size:=I;have⟨v,hv⟩:=aQ (p.toList.drop (r.base+r.len)) (j-cz cs) (by rw[am_];omega);have x:(aX cs off (aM cs a off i len D)++p.toList.drop (r.base+r.len))[j]?=Z v:=by rw[OC ab,hlc];exact hv
    have⟨I,UC,p⟩:=u' _ _ x;have M:E[r.base+j]?=Z I:=UC;rw[X] at M;cases M;exact agq p (avm _ _ hv).1
   have bg:=(cY.mp u).1;exact u' j v (by rw[MG bg];exact u)
  have⟨S3,E3⟩:=m.swap (h':= {put h b off cs (aM cs a off i len D) D with aw:=h.aw+8}) A N rfl hρb rfl (by simp[put,Tr.bN]) hO (by rw[ZF,hn1];show h.aw+1<=h.aw+8;omega) (λy o' V G=>by simp only[put,Tr.bN] at G;rw[bM V] at G;have X:=S.wf y _ G;exact⟨ab,o',by rw[VU y ab ab,w,bM ab,bM V];exact G,Q⟩);refine⟨fn,O,L,_,M',g1,g2,g3,g4,g5,g6,CR.vr (.slice (r:=r) hρb ⟨?_,?_,MM⟩),S3,(E1.trans U).trans E3⟩;rcases n.1 with e|⟨_,e⟩;exact .inl e;omega
  .have:as1=q:=by rcases n.2.1 with e|⟨e,_⟩;exact e;exact absurd rfl e
   rw[this];exact k.2.1
def Ox(F:Nat->Option dm)(j o:Nat)(f:Nat):Option dm:=bif an f j then Z ⟨[],.bad,.run (L6 o) λ_ _ _ _=>Rg⟩ else F f
def XS(p:Kq P T l (fY T l) F)(A:eC P T)(q:F f=Z ⟨[.tmp 6],yQ z o bytes H W,.no⟩)(j:F H=Z fov)(E:fov.CW=.WN)(G:cz z=o)(u:0<o)(y:bytes<=1000):Kq P T l (fY T l) (Ox F f o):=by
 intro g D h;unfold Ox at h;cases a:an g f;rw[a] at h;exact p g D h;rw[a] at h;cases h;rw[sq a];exact aeO p A q j E G u y
def aY.run{F:Nat->Option dm}{f:Nat}{j:List Kn}{u:aD}{p:List aa->az->Option (aa×az)}{k:∀g h v h',p g h=Z (v,h')->fm h h'}{g:List aa}{h h':az}{v:aa}{R:aa->az->Prop}(q:F f=Z ⟨j,u,.run p k⟩)(u:p g h=Z (v,h'))(H:R v h'):aY F f g h R:=
 ⟨0,v,h',by simp only[vk,pV,q];exact u,H⟩
end
end Go.AI
namespace Go.AI
open Go.Sort Go.Shelf Go.Proofs
variable{o i args X l a C L z:List aa}{F:Nat->Option dm}{P:bG}{T:uK}{W:bQ}{b f g k m n s off:Nat}{O:wq}{e e':Env}{h h' h1:az}{op:BinOp}{r:Bool}{v B x G:aa}
abbrev UL:=Fin 1000000×(Bool×Int)
def vE(x:UL):List aa:=[fc ft (x.1.1:Int),dC x.2.1,fc ft x.2.2]
def nr(a:List UL):List aa:=a.flatMap vE
def KN(x y:UL):Int:=(x.1.1:Int)-(y.1.1:Int)
def Up3(j:List UL):Prop:=j.Pairwise λx y=>x.1.1<y.1.1
def aET:SWO (ltOf KN) where
 irrefl x:=by simp[ltOf,KN]
 trans x y z h1 j:=by have h1:=of_decide_eq_true h1;have j:=of_decide_eq_true j;refine decide_eq_true ?_;unfold KN at*;omega
 ntrans x y z h1 j:=by have h1:=of_decide_eq_false h1;have j:=of_decide_eq_false j;refine decide_eq_false ?_;unfold KN at*;omega
def mS:∀a:List UL,cz (nr a)=cz a*3
 |[]=>rfl
 |x::a=>by have:=mS a;show(vE x++nr a).length=_;simp[vE,this];omega
def Qn:∀ {c j:List UL},nr c=nr j->c=j
 |[],[],_=>rfl
 |[],y::j,h=>by cases h
 |x::c,[],h=>by cases h
 |(a,b,q)::c,(p,D,A)::j,h=>by have h:vE (a,b,q)++nr c=vE (p,D,A)++nr j:=h;simp[vE] at h;have⟨h1,q,E,u⟩:=h;have:a=p:=Fin.ext ab;rw[this,q,E,Qn u]
def Vv:∀(a:List UL)(j:Nat),j<cz a*3->(nr a)[j]?=(vE (a[j/3]?.getD default))[j%3]?
 |x::a,j,h=>by show(vE x++nr a)[j]?=_;by_cases p:j<3;rw[MG (by simpa [vE] using p),show j/3=0 by omega,show j%3=j by omega];rfl;have e:=Vv a (j-3) (by simp at h;omega);rw[OC (by simp[vE];omega),show(vE x).length=3 from Q,e,show j/3=(j-3)/3+1 by omega,show(j-3)%3=j%3 by omega];rfl
def agF(d:Array UL)(j:Nat)(h:j<d.size*3):(nr d.toList)[j]?=Z (flatK vE 3 d)[j]! :=by
 rw[Vv _ _ (aj h),get_flatK _ _ _ _ h];have e:d.toList[j/3]?.getD default=d[j/3]! :=by rw[getElem!_def,Array.getElem?_toList];cases d[j/3]? <;>rfl
 rw[e];generalize d[j/3]! =x;have:j%3<3:=Nat.mod_lt _ ab;obtain h|h|h:j%3=0\/j%3=1\/j%3=2:=ab
 all_goals rw[h];rfl
def CE{xs:List UL}(h:v∈nr xs):v.oneCell'=ck/\∀(a:fZ)(c:aa),KR a v c↔c=v:=by
 have⟨x,_,h⟩:=List.mem_flatMap.1 h;have b:∀(a:fZ)(c:aa),KR a v c↔c=v:=λa c=>by
  simp[vE] at h;rcases h with rfl|rfl|rfl
  all_goals
   constructor
   .intro k;cases k with
    |cell k=>cases k;rfl
   .rintro rfl
    first|exact .cell (.int _ _)|exact .cell (.bool _)
 refine⟨?_,b⟩;simp[vE] at h;rcases h with rfl|rfl|rfl<;>rfl
structure anM(g:Nat)(args:List aa)(h h':az)(b c s o:Nat)(xs ys:List UL):Prop where
 a:args=[dB (Z ⟨b,0,K⟩) (cz xs) c,.func (.func g) #[] #[]]
 hb:h.tr.get b=Z (.bZ (nr xs) cd o s)
 ne:xs≠[]
 lt:cz xs<1000000
 p:ys.Perm xs
 u:Up3 ys
 w:gK h b 0 (nr ys)=Z h'
open Classical in
noncomputable def Of(g:Nat)(args:List aa)(h:az):Option (aa×az):=
 if args=[dB K 0 0,.func (.func g) #[] #[]] then Z (.tuple #[],h)
 else if H:∃h' b c s o a j,anM g args h h' b c s o a j then Z (.tuple #[],H.choose) else K
def Og(j:Of g args h=Z (v,h')):v=.tuple #[]/\((args=[dB K 0 0,.func (.func g) #[] #[]]/\h'=h)\/∃b c s o H p,anM g args h h' b c s o H p):=by
 unfold Of at j;split at j;rename_i e;cases j;exact⟨Q,jZ ⟨e,Q⟩⟩
 .split at j;rename_i H;have:=H.choose_spec;cases j;exact⟨Q,kd this⟩
  cases j
def Oh(j:Of g args h=Z (v,h')):fm h h':=by obtain⟨_,⟨_,rfl⟩|⟨b,c,s,o,S,p,S⟩⟩:=Og j;exact .refl _;exact .write S.w
section
variable{c:dH}{d:fZ}{h:az}{w:bQ}
def ff.grown(S:ff c d h w)(p:Array Obj):ff c d h (sU w p)/\Ext d h w d h (sU w p):=by
 have j:∀k,k<w.heap.size->(sU w p).heap[k]?=w.heap[k]? :=λk q=>by show(w.heap++p)[k]?=_;rw[Array.getElem?_append_left q]
 have sz:w.heap.size<=(sU w p).heap.size:=J
 exact⟨⟨λb r a=>⟨(S.low b r a).1,OD (S.low b r a).2 sz⟩,λb r o a u=>jR.mono d.le_refl (j _ (S.low b r a).2) (S.obj b r o a u),S.inj,S.wf⟩,⟨d.le_refl,fq _,sz,Q,Q,Q,λk q _=>j k q,λb r a y=>kd ⟨b,r,a,y,Q⟩,λb r h h'=>(by rw[h] at h';cases h'),λb r o a u=>kd ⟨b,r,o,a,u,Q⟩⟩⟩
def afb{y:Ren}(L:SlLaysF0.n6 P y)(hf:y.f 6=f)(aE:∀w,(isAgg (y.t 24)).run P w=.ok ck w)(zE:∀w,(Go.sizeOf (y.t 24)).run P w=.ok 3 w)(eg:∀args w,(callFunc g args).run P w=.ok (.enter g args) w)(cl:∀(x y:UL)(W:bQ),Calls P g #[ix (vE x).toArray,ix (vE y).toArray] W λe M=>e=.returned (fc ft (KN x y))/\∃q t,M=sU (W.drewN q) t)(E:∃fn,P.funcs[f]?=Z fn/\fn.body.isSome=ck/\(fn.name== "runtime.NumGoroutine")=cd):RD P T s O f (Of g):=by
 intro args h v h' I q d w S q j X;have⟨fn,f1,f2,f3⟩:=E;have E:=Og I;clear I;obtain⟨rfl,I⟩:=E;have F:∀ {c:aa},VR d (.func (.func g) #[] #[]) c->c=.func (.func g) #[] #[]:=λk=>by
  cases k with
  |val k=>cases k with
   |cell k=>cases k with
    |cell k=>cases k
    |fn f k=>cases k;rfl
 rcases I with⟨rfl,rfl⟩|⟨b,c,q,o,a,q,H⟩
 .cases j with
  |cons h1 j=>cases j with
   |cons G j=>cases j with
    |nil=>
     have:=CR.vX h1 rfl;cases this with
     |gQ=>
      rw[F G];obtain⟨e,M,B,⟨rfl,rfl⟩,A,D,N⟩:=AnyF.slices_SortFunc_none L K 0 (.func (.func g) #[] #[]) w X;rw[hf] at A D;exact⟨fn,d,M,_,B,f1,f2,f3,A,D,N,.tuple .nil,S,.refl _ _ _⟩
 .obtain⟨rfl,z,C,V,V,U,l⟩:=H;cases j with
  |cons h1 j=>cases j with
   |cons G j=>cases j with
    |nil=>
     rw[F G];obtain⟨r,H,O',F,j,rfl⟩:=h_ h1;have u:0<cz a:=List.length_pos_iff.2 C;have C:H=⟨r.bZ,r.base,K⟩:=by rcases j.1 with e|⟨_,e⟩;exact e;have:=j.2.2;omega
     subst C;have⟨H,el,j,C,zI,xW,⟨nC,ZR⟩,hfr,u⟩:=S.obj b r _ F z;have p:j=(0,0):=hfr rfl;subst p;have cell:∀j,j<cz a*3->H[r.base+j]?=Z (flatK vE 3 a.toArray)[j]! :=λj p=>by have e:=agF a.toArray j (aj p);simp only[List.toList_toArray] at e;have⟨c,h1,G⟩:=u j _ e;rw[h1,((CE (cO e)).2 d c).1 G]
     have H':HoldsK vE 3 w r.bZ r.base a.toArray:=λj p=>by
      have p:j<cz a*3:=aj p
      refine⟨?_,?_⟩;unfold zo;rw[C];simpa using cell j p;unfold MY;rw[C];simp
     have hblk:=(S.low b r F).2;obtain⟨e,M,B,⟨rfl,u,n,t,M,hS,rfl⟩,A,D,N⟩:=AnyQ.slices_SortFunc L 3 aE zE vE (λ_=>rfl) (λx v I=>(CE (xs:=[x]) (by simpa [nr] using I)).1) KN aET g #[] r.bZ r.base O' a.toArray w eg (λm t I _ x y=>cl x y _) H' hblk (by simp;omega) X;rw[hf] at A D;have N':u.size=cz a:=aj M.1
     have J':u.toList.Perm a:=by have:=M.2.2;rw[show(a.toArray.extract 0 a.toArray.size)=a.toArray by simp,show(u.extract 0 a.toArray.size)=u by rw[show a.toArray.size=u.size from M.1.symm];simp] at this;simpa using this
     have hdu:u.toList=q:=by
      refine List.Perm.eq_of_pairwise (le:=λx y=>x.1.1<=y.1.1) (λx y I M h1 G=>?_) ?_ (U.imp λh=>qj h) (J'.trans V.symm)
      .have y:=(J'.trans V.symm).subset I;have⟨i,E⟩:=iG y;have⟨j,p⟩:=iG M;have y:=(cY.mp E);have M:=(cY.mp p);rcases Nat.lt_trichotomy i j with h|h|h
       have:=kn.1 U i j y.1 M.1 h;rw[y.2,M.2] at this;omega;subst h;rw[E] at p;cases p;rfl;have:=kn.1 U j i M.1 y.1 h;rw[y.2,M.2] at this;omega
      refine kn.2 λi j E p M=>?_;have:=hS i j (hQ _) M (by simp at p⊢;omega);simp at E p;rw[getElem!_pos u j p,getElem!_pos u i E] at this;have:=of_decide_eq_false this;unfold KN at this;simp only[Array.getElem_toList];omega
     have E:cz q=cz a:=V.length_eq;unfold gK at l;rw[z] at l;simp only[mS] at l;rw[bK (by rw[E];simp)] at l;cases l;have V:aX (nr a) 0 (nr q)=nr q:=by unfold aX;rw[lH,Cy (by simp[mS,E])];simp
     rw[V];have V:(flatK vE 3 u).size=cz a*3:=by simp[N']
     have⟨M,l⟩:=S.drawn (w.drawn+n) |>.py (w':=putRowK vE 3 (we w n) r.bZ r.base u) (o':=.bZ (nr q) cd o h.clock) F z rfl ⟨Q,Q,Q,by simp[putRowK,putRow,mapBlock,we],λj p=>by simp[putRowK,putRow,mapBlock,we,yN,cE p]⟩ (by
      refine⟨putCells id r.base (flatK vE 3 u) H,el,(0,0),?_,by rw[zI,mS,mS,E],xW,⟨by rw[nC];simp[putCells],λz j c p A=>?_⟩,λ_=>rfl,λj v p=>?_⟩;simp[putRowK,putRow,mapBlock,we,yN,C,onCells];refine ZR z j c p ?_;rw[zI,mS] at p;simp only[putCells,y5] at A;rcases I:H[r.base+j]? with _|x;rw[I] at A;cases A;rw[I] at A;simp only[Eo] at A;rwa [bM (by rw[V];omega)] at A
      .have I:j<cz a*3:=by have:=(cY.mp p).1;rw[mS,E] at this;exact this
       have e:=agF u j (by rw[N'];exact I);rw[hdu,p] at e;refine⟨v,?_,((CE (cO p)).2 d v).2 Q⟩;simp only[putCells,y5];have p:=cell j I;rw[p];simp only[Eo];rw[bK (by rw[V];omega),Nat.add_sub_cancel_left];simp[<-gD e]) (h.clock+1)
     have⟨p,V⟩:=M.grown t;exact⟨fn,d,_,_,B,f1,f2,f3,A,D,N,.tuple .nil,p,((Ext.drawn (w.drawn+n)).trans l).trans V⟩
end
noncomputable def Oy(F:Nat->Option dm)(a g:Nat)(f:Nat):Option dm:=bif an f a then Z ⟨[],.bad,.run (Of g) λ_ _ _ _=>Oh⟩ else F f
def XT{a g:Nat}(p:Kq P T s O F)(j:RD P T s O a (Of g)):Kq P T s O (Oy F a g):=by intro f q h;unfold Oy at h;cases b:an f a;rw[b] at h;exact p f q h;rw[b] at h;cases h;rw[sq b];exact j
def Kept(W j:bQ):Prop:=j.os=W.os/\j.output=W.output/\W.heap.size<=j.heap.size/\∀i,i<W.heap.size->j.heap[i]?=W.heap[i]?
def Kept.keptBut{W p:bQ}(h:Kept W p)(j:zt->Prop):W.keptBut p j:=by
 refine⟨h.1,h.2.1,λi q=>?_⟩;rw[h.2.2.2 i q];rcases D:W.heap[i]? with _|o;rfl
 .cases o with
  |cells y t E=>exact⟨Q,Q,Q,λ_ _=>rfl⟩
  |map A u=>exact kd ⟨Q,Q⟩
  |_=>rfl
def Kept.sameAt{W q:bQ}(h:Kept W q){p:zt}(j:p.block<W.heap.size):W.sameAt q p:=by
 cases p with
 |cell b off=>simp only[World.sameAt,zo,h.2.2.2 b j]
 |map b=>exact h.2.2.2 b j
def Kept.frozen{W j:bQ}(h:Kept W j){b off:Nat}(a:b<W.heap.size):j.frozen? ⟨b,off,K⟩=W.frozen? ⟨b,off,K⟩:=by simp only[MY,h.2.2.2 b a]
section
variable{P:bG}{T:uK}{s:Nat}{F:Nat->Option dm}
def law_read(I:Kq P T s (fY T s) F)(D:eC P T){args p:List aa}(H:aY F f args h (λv _=>v=dC ck)){j:fZ}(S:ff (jc T s (fY T s)) j h W)(V:eB s j)(u:bo (VR j) args p)(N:∀b,¬gh h b):Calls P f ⟨p⟩ W (λe p=>e=.returned (dC ck)/\Kept W p):=by
 obtain⟨n,v,h',O,rfl⟩:=H;intro y;obtain⟨p,p,q,c,U,_,_,_,A,G,p,E,_,j⟩:=FN I D O S V u y;have u:=E.qq;subst u;exact⟨.returned (dC ck),q,U,⟨Q,j.os,j.output,j.size,λi U=>j.Ag i U (λb r _ M=>absurd M (N b))⟩,A,G,p⟩
end
section
open Go.ChangeShapes Go.WideShapes Go.ChangeAt
variable{H:Type}{c:cI×aa->H}{P:bG}
def post_of_read{f:G6}{s:ChangeSpec}{y D u E:Bool}{W I:bQ}{args:Array aa}{d a:List (En H)}{q:List zt}(N:DataW.Whole c P f.params.toList s.vars y W args.toList d a q)(M:∀(b:Nat)(G:Nat->Bool)(V:Bool),N3 c P I b G V f.resultTypes.toList (v.resultList f.resultTypes.size) (s.fn H (d++a)).results [])(U:∀G:Nat->Bool,(∀p∈q,G p.block=ck)->N3 c P I 0 G ck f.params.toList args.toList (s.fn H (d++a)).args q)(e:∀G:Nat->Bool,(∀p∈q,G p.block=ck)->DataW.TrodVars c P I G s.vars (s.fn H (d++a)).vars [])(O:Kept W I)(g:∀(j:Nat)(t:cI)(r:aa),f.resultTypes[j]?=Z t->(v.resultList f.resultTypes.size)[j]?=Z r->rK P I .any 0 t r):s.post c P f y D u E W args v I:=by
 have D:∀p∈q,(λb=>decide (b<W.heap.size)) p.block=ck:=λp A=>aj (N.lt p A)
 refine⟨d,a,q,[],q,[],N,M _ _ _,U _ D,e _ D,World.keptBut_mono (λp A=>⟨A,kd (jZ A)⟩) (O.keptBut _),λ_=>?_⟩;have D:=N.lt;have⟨_,_,_,_,_,a,d⟩:=N;refine⟨g,_,_,([]++q)++[],⟨[]++q,[],trodAll_append (U _ (λ_ _=>rfl)) (M _ _ _),e _ (λ_ _=>rfl),Q,?_,?_⟩,?_⟩
 intro b off A;simp only[pn,Bx] at A;rw[O.frozen (b:=b) (D (.cell b off) A)];exact a b off A;intro a;simpa using d a;intro p A _;simpa using A
end
structure Sf where
 n:Nat
 d:Nat
 dc:Nat
 D:Nat->Prop
 fk:Nat->Bool
 gk:Nat->Bool
 new:∀b,n<=b->D b
 gl:∀g,gk g=ck->g<n/\D g
def Sf.sh(S:Sf)(b:Nat):Nat:=if b<S.n then b else b+S.d
def Sf.aa1(S:Sf){a b:Nat}(h:S.sh a=S.sh b):a=b:=by unfold Sf.sh at h;(repeat' split at h)<;>omega
inductive VS(S:Sf):aa->aa->Prop
 |bool (b:Bool):VS S (dC b) (dC b)
 |int (k:bd) (m:Int):VS S (.int k m) (.int k m)
 |str (s:ByteArray):VS S (gX s) (gX s)
 |zw:VS S (eU K) (eU K)
 |ptr {b:Nat} (o:Nat) (h:S.D b):VS S (eU (Z ⟨b,o,K⟩)) (eU (Z ⟨S.sh b,o,K⟩))
 |gQ (l c:Nat):VS S (dB K l c) (dB K l c)
 |slice {b:Nat} (o l c:Nat) (h:S.D b):VS S (dB (Z ⟨b,o,K⟩) l c) (dB (Z ⟨S.sh b,o,K⟩) l c)
 |uC:VS S (.map K) (.map K)
 |chan (c:Option Nat):VS S (.chan c) (.chan c)
 |vM:VS S .nilFunc .nilFunc
 |qE:VS S .nilIface .nilIface
 |fn {f:Nat} {a a' b b':List aa} (hf:S.fk f=ck) (h1:bo (VS S) a a') (h2:bo (VS S) b b'):VS S (.func (.func f) ⟨a⟩ ⟨b⟩) (.func (.func f) ⟨a'⟩ ⟨b'⟩)
 |yield {l:Nat} (h:S.D l):VS S (.func (.yield l) #[] #[]) (.func (.yield (S.sh l)) #[] #[])
 |agg {a a':List aa} (h:bo (VS S) a a'):VS S (ix ⟨a⟩) (ix ⟨a'⟩)
 |tuple {a a':List aa} (h:bo (VS S) a a'):VS S (.tuple ⟨a⟩) (.tuple ⟨a'⟩)
def UJ:aa->Bool
 |dC _=>ck
 |.int _ _=>ck
 |gX _=>ck
 |eU K=>ck
 |dB K _ _=>ck
 |.map K=>ck
 |.nilFunc=>ck
 |.nilIface=>ck
 |_=>cd
def TM:aa->Bool
 |ix X=>X.toList.all UJ
 |.tuple X=>X.toList.all UJ
 |v=>UJ v
section
variable{S:Sf}
def aav(h:UJ v=ck):VS S v v:=by unfold UJ at h;split at h;exact .bool _;exact .int _ _;exact .str _;exact .zw;exact .gQ _ _;exact .uC;exact .vM;exact .qE;cases h
def Bh:∀ {l:List aa},l.all UJ=ck->bo (VS S) l l
 |[],_=>.nil
 |v::l,h=>by rw[ef,oD] at h;exact .cons (aav h.1) (Bh h.2)
def aqa(h:TM v=ck):VS S v v:=by unfold TM at h;split at h;rename_i X;have⟨l⟩:=X;exact .agg (Bh h);rename_i X;have⟨l⟩:=X;exact .tuple (Bh h);exact aav h
def BS(S:Sf):aT->Bool
 |.tmp _=>ck
 |.const v=>TM v
 |.global g=>S.gk g
 |.func f=>S.fk f
def XZ(S:Sf)(l:List aT):Bool:=l.all (BS S)
def W0(S:Sf)(l:List (Nat×Nat×aT)):Bool:=l.all λx=>BS S x.2.2
def WS(S:Sf):Option aT->Bool
 |none=>ck
 |some x=>BS S x
def ES(S:Sf)(e e':Env):Prop:=∀t,VS S (bY e t) (bY e' t)
def ES.set{e e':Env}(w:ES S e e'){v B:aa}(h:VS S v B)(t:Nat):ES S (Tr.set e t v) (Tr.set e' t B):=λu=>by rw[Env.bN,Env.bN];split;exact h;exact w u
def ES.put(w:ES S e e')(h:VS S v B):∀t,ES S (ik e t v) (ik e' t B)
 |none=>w
 |some t=>w.set h t
def VS.undef:VS S (.tuple #[]) (.tuple #[]):=.tuple .nil
def ES.nil:ES S .nil .nil:=λ_=>VS.undef
def ES.ev{e e':Env}(w:ES S e e'){x:aT}(h:BS S x=ck):VS S (AI.ev e x) (AI.ev e' x):=by
 cases x with
 |tmp t=>exact w t
 |const v=>exact aqa h
 |global g=>
  have:=S.gl g h;have j:S.sh g=g:=by unfold Sf.sh;rw[bK this.1]
  have r:=VS.ptr (S:=S) (b:=g) 0 this.2;rw[j] at r;exact r
 |func f=>exact .fn h .nil .nil
def ES.qY{e e':Env}(w:ES S e e'):∀ {l:List aT},XZ S l=ck->bo (VS S) (AI.qY e l) (AI.qY e' l)
 |[],_=>.nil
 |x::l,h=>by unfold XZ at h;rw[ef,oD] at h;exact .cons (w.ev h.1) (ES.qY w h.2)
end
def Iv(S:Sf):kW->Bool
 |.mv x=>BS S x
 |.pick c a b=>BS S c&&BS S a&&BS S b
 |.alloc z=>z.all UJ
 |.box x=>BS S x
 |.build z p=>z.all UJ&&W0 S p
 |.uu _ z p=>z.all UJ&&W0 S p
 |.load _ a=>BS S a
 |.store _ a v=>BS S a&&BS S v
 |.Bg x=>BS S x
 |.bin _ _ x y=>BS S x&&BS S y
 |.un _ x=>BS S x
 |.conv _ x=>BS S x
 |.Tu f j=>S.fk f&&XZ S j
 |.tn z _ l c=>z.all UJ&&BS S l&&BS S c
 |.slice _ x a b c=>BS S x&&WS S a&&WS S b&&WS S c
 |.pb _ x=>BS S x
 |.tP _ _ x i=>BS S x&&BS S i
 |.index _ x i=>BS S x&&BS S i
 |.ext _ x=>BS S x
 |.call f args=>BS S f&&XZ S args
 |.IF x=>BS S x
 |.Xw x=>BS S x
 |.append z _ _ s x=>z.all UJ&&BS S s&&BS S x
 |.copy _ d s=>BS S d&&BS S s
 |.clear z x=>z.all UJ&&BS S x
 |.RO x=>BS S x
 |.bad=>ck
 |_=>cd
def PC(S:Sf):aD->Bool
 |.skip=>ck
 |.ops l=>l.all λo=>Iv S o.op
 |.draw l=>l.all λo=>Iv S o.1.op
 |.seq a b=>PC S a&&PC S b
 |.cond c a b=>BS S c&&PC S a&&PC S b
 |.block _ c=>PC S c
 |.loop c=>PC S c
 |.Xe f _ a b=>BS S f&&PC S a&&PC S b
 |.exit _=>ck
 |.ret=>ck
 |.bad=>ck
inductive OS(S:Sf):qe->qe->Prop
 |bZ {a a':List aa} (ro:Bool) (o:Nat) {s s':Nat} (h:bo (VS S) a a') (hs:s'<=s+S.dc):OS S (.bZ a ro o s) (.bZ a' ro o s')
 |loop {e e':Env} (ps:List Nat) {asg body:aD} (st:Ys) (h:ES S e e') (h1:PC S asg=ck) (h2:PC S body=ck):OS S (.loop e ps asg body st) (.loop e' ps asg body st)
 |aHD:OS S (.map []) (.map [])
structure HS(S:Sf)(h h':az):Prop where
 n:S.n<=h.aw
 aw:h'.aw=h.aw+S.d
 clock:h'.clock=h.clock+S.dc
 at_:∀b o,S.D b->h.tr.get b=Z o->(∃es,o=.map es/\es≠[])\/∃o',h'.tr.get (S.sh b)=Z o'/\OS S o o'
section
variable{S:Sf}{h h' h1:az}
def HS.bZ(w:HS S h h'){b:Nat}(q:S.D b){a:List aa}{c:Bool}{o s:Nat}(u:h.tr.get b=Z (.bZ a c o s)):∃p j,h'.tr.get (S.sh b)=Z (.bZ p c o j)/\bo (VS S) a p/\j<=s+S.dc:=by
 rcases w.at_ b _ q u with⟨A,e,_⟩|⟨D,u,r⟩;cases e
 .cases r with
  |bZ c o h y=>exact⟨_,_,u,h,y⟩
def HS.KF(w:HS S h h'):S.sh h.aw=h'.aw:=by unfold Sf.sh;rw[bM (av w.n),w.aw]
def HS.dn(w:HS S h h'):S.D h.aw:=S.new _ w.n
def HS.set(w:HS S h h'){b:Nat}{o a:qe}(r:OS S o a)(k:Nat):HS S {h with clock:=h.clock+k,tr:=h.tr.set b o} {h' with clock:=h'.clock+k,tr:=h'.tr.set (S.sh b) a} :=by refine⟨w.n,w.aw,by dsimp only;rw[w.clock];omega,λc x p j=>?_⟩;dsimp only at j⊢;rw[Tr.bN] at j;rw[Tr.bN];by_cases e:c=b;subst e;rw[bK rfl] at j;cases j;exact kd ⟨a,by rw[bK rfl],r⟩;rw[bM e] at j;rw[bM (λq=>e (S.aa1 q))];exact w.at_ c x p j
def HS.awB(w:HS S h h'){o a:qe}(r:OS S o a):HS S {h with tr:=h.tr.set b o} {h' with tr:=h'.tr.set (S.sh b) a} :=by have:=w.set (b:=b) r 0;simpa using this
def HS.del(w:HS S h h')(b:Nat):HS S {h with tr:=h.tr.del b} {h' with tr:=h'.tr.del (S.sh b)} :=by refine⟨w.n,w.aw,w.clock,λc x p j=>?_⟩;dsimp only at j⊢;rw[Tr.mT] at j;rw[Tr.mT];by_cases e:c=b;rw[bK e] at j;cases j;rw[bM e] at j;rw[bM (λq=>e (S.aa1 q))];exact w.at_ c x p j
def HS.new(w:HS S h h'){o a:qe}(r:OS S o a):HS S (h.new o) (h'.new a):=by refine⟨Nat.le_succ_of_le w.n,by show h'.aw+1=h.aw+1+S.d;rw[w.aw];omega,w.clock,λc x p j=>?_⟩;unfold az.new at j⊢;dsimp only at j⊢;rw[Tr.bN] at j;rw[Tr.bN,<-w.KF];by_cases e:c=h.aw;subst e;rw[bK rfl] at j;cases j;exact kd ⟨a,by rw[bK rfl],r⟩;rw[bM e] at j;rw[bM (λq=>e (S.aa1 q))];exact w.at_ c x p j
def HS.aJ(w:HS S h h'){a j:List aa}(r:bo (VS S) a j)(o:Nat):HS S (AI.aJ h a o) (AI.aJ h' j o):=w.new (.bZ cd o r (hQ _))
def HS.ptr(w:HS S h h')(o:Nat):VS S (eU (Z ⟨h.aw,o,K⟩)) (eU (Z ⟨h'.aw,o,K⟩)):=by have:=VS.ptr (S:=S) o w.dn;rwa [w.KF] at this
def HS.slice(w:HS S h h')(o l c:Nat):VS S (dB (Z ⟨h.aw,o,K⟩) l c) (dB (Z ⟨h'.aw,o,K⟩) l c):=by have:=VS.slice (S:=S) o l c w.dn;rwa [w.KF] at this
def HS.tick(w:HS S h h'):HS S {h with clock:=h.clock+1} {h' with clock:=h'.clock+1} :=⟨w.n,w.aw,by show h'.clock+1=h.clock+1+S.dc;rw[w.clock];omega,w.at_⟩
def DG(w:HS S h h')(q:S.D b)(j:cy h b off m=Z X):∃C,cy h' (S.sh b) off m=Z C/\bo (VS S) X C:=by
 unfold cy at j⊢;split at j
 .rename_i a E o s p;have⟨D,A,u,r,_⟩:=w.bZ q p;rw[u];dsimp only at j⊢;have p:=(r.drop off).take m;rw[<-p.length];split at j
  rename_i y;cases j;rw[bK y];exact⟨_,Q,p⟩;cases j
 cases j
def Rm{a j L i:List aa}(r:bo (VS S) a j)(q:bo (VS S) L i)(off:Nat):bo (VS S) (aX a off L) (aX j off i):=by unfold aX;rw[<-q.length];exact((r.take off).app q).app (r.drop _)
def Bs(w:HS S h h')(u:S.D b)(q:bo (VS S) L i)(j:gK h b off L=Z h1):∃p,gK h' (S.sh b) off i=Z p/\HS S h1 p:=by unfold gK at j⊢;split at j;rename_i a o s p;have⟨E,D,y,r,_⟩:=w.bZ u p;rw[y];dsimp only at j⊢;rw[<-q.length,<-r.length];split at j;rename_i A;cases j;rw[bK A];exact⟨_,Q,w.set (.bZ cd o (Rm r q off) (by rw[w.clock];exact fq _)) 1⟩;cases j;cases j
def VS.plain{v B:aa}(r:VS S v B):AI.plain B=AI.plain v:=by cases r<;>rfl
def VS.simple{v B:aa}(r:VS S v B):AI.simple B=AI.simple v:=by cases r<;>rfl
def VS.tp{v B:aa}(r:VS S v B):AI.tp B=AI.tp v:=by cases r<;>rfl
def YA{p:aa->Bool}(j:∀v B,VS S v B->p B=p v)(r:bo (VS S) l a):a.all p=l.all p:=by
 induction r with
 |nil=>rfl
 |cons x _ b=>rw[ef,ef,b,j _ _ x]
def VS.cells(r:VS S v B):bo (VS S) (cellsOf v) (cellsOf B):=by
 cases r with
 |agg h=>exact h
 |bool b=>exact .cons (.bool b) .nil
 |int k m=>exact .cons (.int k m) .nil
 |str s=>exact .cons (.str s) .nil
 |zw=>exact .cons .zw .nil
 |ptr o h=>exact .cons (.ptr o h) .nil
 |gQ l c=>exact .cons (.gQ l c) .nil
 |slice o l c h=>exact .cons (.slice o l c h) .nil
 |uC=>exact .cons .uC .nil
 |chan c=>exact .cons (.chan c) .nil
 |vM=>exact .cons .vM .nil
 |qE=>exact .cons .qE .nil
 |fn p h1 j=>exact .cons (.fn p h1 j) .nil
 |yield h=>exact .cons (.yield h) .nil
 |tuple h=>exact .cons (.tuple h) .nil
def SE(r:VS S v B)(j:flat v=Z L):∃i,flat B=Z i/\bo (VS S) L i:=by
 unfold flat at j⊢;have e:=YA (p:=AI.plain) (λ_ _ r=>r.plain) r.cells;rw[e];cases q:(cellsOf v).all AI.plain
 rw[q] at j;cases j;rw[q] at j;cases j;exact⟨_,Q,r.cells⟩
def Yx{n:Option Nat}(r:bo (VS S) X C)(a:agg n X=Z v):∃B,agg n C=Z B/\VS S v B:=by unfold agg at a⊢;rcases n with _|n;dsimp only at a⊢;rcases r with _|⟨x,q⟩;cases a;rcases q with _|⟨_,_⟩;cases a;exact⟨_,Q,x⟩;cases a;dsimp only at a⊢;rw[<-r.length];split at a;rename_i j;cases a;rw[bK j];exact⟨_,Q,.agg r⟩;cases a
def IP{e e':Env}(w:ES S e e'):∀ {p:List (Nat×Nat×aT)} {X C r:List aa},W0 S p=ck->bo (VS S) X C->pI e X p=Z r->∃A,pI e' C p=Z A/\bo (VS S) r A
 |[],X,C,r,_,q,j=>by cases j;exact⟨_,Q,q⟩
 |(off,n,x)::p,X,C,r,u,q,j=>by unfold W0 at u;rw[ef,oD] at u;unfold pI at j⊢;rcases y:flat (AI.ev e x) with _|L;rw[y] at j;cases j;rw[y] at j;have⟨i,G,D⟩:=SE (w.ev u.1) y;rw[G];dsimp only at j⊢;rw[<-D.length,<-q.length];split at j;rename_i E;rw[bK E];exact IP w u.2 (Rm q D off) j;cases j
def Lt{z:List aa}(j:z.all UJ=ck):∀n,bo (VS S) (ky z n) (ky z n)
 |0=>.nil
 |n+1=>(Bh j).app (Lt j n)
end
section
variable{S:Sf}{h h' h1:az}
def Qh{a u b y:aa}(q:VS S a u)(p:VS S b y)(j:d_ k a b=Z r):d_ k u y=Z r:=by unfold d_ at j;split at j;cases q;cases p;exact j;cases q;cases p;exact j;cases q;cases p;exact j;cases j
def Mt:∀ {c:List Nat} {a D b E:List aa} {r:Bool},bo (VS S) a D->bo (VS S) b E->cN c a b=Z r->cN c D E=Z r
 |[],_,_,_,_,_,.nil,.nil,j=>j
 |[],_,_,_,_,_,.cons _ _,_,j=>by simp[cN] at j
 |[],_,_,_,_,_,.nil,.cons _ _,j=>by simp[cN] at j
 |_::_,_,_,_,_,_,.nil,_,j=>by simp[cN] at j
 |_::_,_,_,_,_,_,.cons _ _,.nil,j=>by simp[cN] at j
 |k::c,_,_,_,_,r,.cons x E,.cons y I,j=>by rename_i u M G A v B L i;unfold cN at j⊢;rcases h1:d_ k u v with _|p;simp only[h1] at j;cases j;rcases A:cN c G L with _|q;simp only[h1,A] at j;cases j;simp only[h1,A] at j;simp only[Qh x y h1,Mt E I A];exact j
def Vs{u:List Nat}{a y b A:aa}(p:VS S a y)(q:VS S b A)(j:fV u a b=Z r):fV u y A=Z r:=by
 unfold fV at j;split at j
 .cases p with
  |agg u=>
   cases q with
   |agg A=>
    unfold fV;dsimp only at j⊢;split at j;exact Mt u A j;cases j
 .rename_i u;split at j;split at j;cases p;cases q<;>exact j;cases p;cases q;exact j;cases j;split at j;cases p;cases q<;>exact j;cases p;cases q;exact j;cases j;split at j;cases p;cases q<;>exact j;cases p;cases j;split at j;cases p;cases q;exact j;cases p;cases q<;>exact j;cases p<;>cases q<;>exact j;cases j
  .rename_i k D I G E;have u:=Qh p q j;unfold d_ at j;split at j
   cases p;cases q;exact u;cases p;cases q;exact u;cases p;cases q;exact u;cases j
  cases j
def DA{k:bd}{a b:Int}(c:jY op k a b=Z v):VS S v v:=by
 unfold jY at c;split at c
 all_goals first
  |(cases c<;>first|exact .int _ _|exact .bool _)
  |(split at c<;>cases c<;>first|exact .int _ _|exact .bool _)
def Kj{k:bd}{a b:Int}(c:jN op k a b=Z v):VS S v v:=by unfold jN at c;split at c;cases c;split at c;cases c;exact .int _ _;cases c;exact .int _ _;cases c
def akp{n:List Nat}{x G y q v:aa}(j:VS S x G)(p:VS S y q)(a:Hb op n x y=Z v):Hb op n G q=Z v/\VS S v v:=by
 cases op with
 |eql=>
  simp only[Hb] at a⊢;split at a;cases j;cases p;split at a;rename_i q;exact⟨by dsimp only;rw[bK q];exact a,DA a⟩;cases a
  .rename_i D;rcases u:fV n x y with _|r;rw[u] at a;cases a
   .rw[u] at a;have A:=Vs j p u;cases a;refine⟨?_,.bool _⟩;split
    cases j;cases p;exact(D _ _ _ _ Q Q).elim;rw[A]
 |neq=>
  simp only[Hb] at a⊢;split at a;cases j;cases p;split at a;rename_i q;exact⟨by dsimp only;rw[bK q];exact a,DA a⟩;cases a
  .rename_i D;rcases u:fV n x y with _|r;rw[u] at a;cases a
   .rw[u] at a;have A:=Vs j p u;cases a;refine⟨?_,.bool _⟩;split
    cases j;cases p;exact(D _ _ _ _ Q Q).elim;rw[A]
 |gtr=>
  simp only[Hb] at a⊢;split at a;cases j;cases p;split at a;rename_i q;exact⟨by dsimp only;rw[bK q];exact a,DA a⟩;cases a;cases j;cases p;split at a;rename_i q;cases a;exact⟨by dsimp only;rw[bK q],.bool _⟩;cases a;cases a
 |shl=>
  simp only[Hb] at a⊢;split at a;cases j;cases p;exact⟨a,Kj a⟩;cases a
 |shr=>
  simp only[Hb] at a⊢;split at a;cases j;cases p;exact⟨a,Kj a⟩;cases a
 |_=>
  simp only[Hb] at a⊢;split at a;cases j;cases p;split at a;rename_i q;exact⟨by dsimp only;rw[bK q];exact a,DA a⟩;cases a;cases a
def aqS{op:UnOp}(j:VS S x G)(a:Qu op x=Z v):Qu op G=Z v/\VS S v v:=by unfold Qu at a;split at a;cases j;cases a;exact⟨Q,.int _ _⟩;cases j;cases a;exact⟨Q,.int _ _⟩;cases j;cases a;exact⟨Q,.bool _⟩;cases a
def LU(w:ES S e e'){x:Option aT}(y:WS S x=ck){j p r:Nat}(a:bound e x j p=Z r):bound e' x j p=Z r:=by rcases x with _|x;exact a;have q:=w.ev (x:=x) y;unfold bound at a⊢;dsimp only at a⊢;generalize AI.ev e x=u at*;generalize AI.ev e' x=u' at*;split at a;cases q;exact a;cases a
def alF(w:HS S h h')(E:z.all UJ=ck){y:Bool}(u:VS S x G)(j:news h z y x=Z (n,X)):∃C,news h' z y G=Z (n,C)/\bo (VS S) X C:=by unfold news at j;split at j;cases u;split at j;rename_i p;cases j;exact⟨_,by simp[news,p],Lt E _⟩;cases j;cases u;split at j;rename_i p;cases j;exact⟨[],by simp[news,p],.nil⟩;cases j;cases u;rename_i A;split at j;rename_i p;cases j;exact⟨[],by simp[news,p],.nil⟩;rename_i p;split at j;rename_i q;cases j;have⟨C,D,r⟩:=DG w A q;exact⟨C,by unfold news;simp only[p,D];rfl,r⟩;cases j;cases j
def YF(w:HS S h h'){p:Nat}{s N:aa}(O:VS S s N)(G:bo (VS S) X C)(c:eI h z p s n X=Z (v,h1)):∃B q,eI h' z p N n C=Z (B,q)/\VS S v B/\HS S h1 q:=by
 unfold eI at c;split at c
 .rename_i a y q;split at c
  .rename_i q;split at c
   .rename_i p;split at c
    .rename_i A;cases c;cases O with
     |gQ=>exact⟨_,_,by simp[eI,q,p,A],.gQ _ _,w⟩
     |slice o l j u=>exact⟨_,_,by simp[eI,q,p,A],.slice _ _ _ u,w⟩
    cases c
   .rename_i p;split at c
    .rename_i E;split at c;cases O;split at c;rename_i A;cases c;exact⟨_,_,by unfold eI;dsimp only;rw[bK q,bM p,bK E,bK A],w.slice _ _ _,w.aJ G _⟩;cases c
     .rename_i b off;cases O with
      |slice o l j u=>
      split at c
      .rename_i j o s j;obtain⟨M,N,N,M,_⟩:=w.bZ u j;split at c;rename_i j;rcases U:gK h b (off+y*cz z) X with _|I;rw[U] at c;cases c;rw[U] at c;cases c;obtain⟨I,I,D⟩:=Bs w u G U;exact⟨_,_,by unfold eI;dsimp only;rw[bK q,bM p,bK E,N];dsimp only;rw[bK j,I],.slice _ _ _ u,D⟩
       .rename_i j;have D:=(M.drop off).take (y*cz z);dsimp only at c;split at c
        rename_i y;split at c;rename_i V;cases c;exact⟨_,_,by unfold eI;dsimp only;rw[bK q,bM p,bK E,N];dsimp only;rw[bM j,<-D.length,bK y,<-M.length,bK V],w.slice _ _ _,w.aJ (D.app G) _⟩;rename_i V;split at c;rename_i u;cases c;exact⟨_,_,by unfold eI;dsimp only;rw[bK q,bM p,bK E,N];dsimp only;rw[bM j,<-D.length,bK y,<-M.length,bM V,bK u],w.slice _ _ _,(w.del b).aJ (D.app G) _⟩;cases c;cases c
      cases c
     cases c
    cases c
  cases c
 cases c
end
section
variable{S:Sf}{h h' h1:az}{e e':Env}
def aqd(w:HS S h h')(A:ES S e e'){op:kW}(q:Iv S op=ck)(j:de e h op=Z (v,h1)):∃B N,de e' h' op=Z (B,N)/\VS S v B/\HS S h1 N:=by
 cases op with
 |mv x=>cases j;exact⟨_,_,Q,A.ev q,w⟩
 |pick g a b=>
  simp only[Iv,oD] at q;have O:=A.ev q.1.1;simp only[de] at j⊢;generalize ev e g=u at*;generalize ev e' g=u' at*;split at j
  cases O;cases j;exact⟨_,_,Q,A.ev q.1.2,w⟩;cases O;cases j;exact⟨_,_,Q,A.ev q.2,w⟩;cases j
 |alloc z=>cases j;exact⟨_,_,Q,w.ptr 0,w.aJ (Bh q) 0⟩
 |box x=>
  have D:=A.ev (x:=x) q;simp only[de] at j⊢;rcases G:flat (ev e x) with _|L;rw[G] at j;cases j;rw[G] at j;have⟨i,p,r⟩:=SE D G;rw[p];cases j;exact⟨_,_,Q,w.ptr 0,w.aJ r 0⟩
 |build z y=>
  simp only[Iv,oD] at q;simp only[de] at j⊢;rcases G:pI e z y with _|X;rw[G] at j;cases j;rw[G] at j;have⟨C,p,r⟩:=IP A q.2 (Bh q.1) G;rw[p];cases j;exact⟨_,_,Q,.agg r,w⟩
 |uu n z y=>
  simp only[Iv,oD] at q;simp only[de] at j⊢;rcases G:pI e z y with _|X;rw[G] at j;cases j;rw[G] at j;have⟨C,p,r⟩:=IP A q.2 (Bh q.1) G;rw[p];cases j;exact⟨_,_,Q,w.slice 0 n n,w.aJ r 0⟩
 |load n a=>
  have y:=A.ev (x:=a) q;simp only[de] at j⊢;generalize ev e a=u at*;generalize ev e' a=u' at*;split at j
  .rename_i b off;cases y with
   |ptr o E=>
    rcases F:cy h b off (width n) with _|X;rw[F] at j;cases j;rw[F] at j;have⟨C,Pu,r⟩:=DG w E F;dsimp only at j⊢;rw[Pu];dsimp only;rcases V:agg n X with _|v2;rw[V] at j;cases j;rw[V] at j;have⟨v2',M,P⟩:=Yx r V;rw[M];cases j;exact⟨_,_,Q,P,w⟩
  cases j
 |store n a x=>
  simp only[Iv,oD] at q;have y:=A.ev q.1;have D:=A.ev q.2;simp only[de] at j⊢;generalize ev e a=u at*;generalize ev e' a=u' at*;split at j
  .rename_i b off;cases y with
   |ptr o E=>
    rcases G:flat (ev e x) with _|L;rw[G] at j;cases j;rw[G] at j;have⟨i,p,r⟩:=SE D G;dsimp only at j⊢;rw[p];dsimp only;rw[<-r.length];split at j;rename_i p;rw[bK p];rcases p:gK h b off L with _|y;rw[p] at j;cases j;rw[p] at j;have⟨H,I,T⟩:=Bs w E r p;rw[I];cases j;exact⟨_,_,Q,VS.undef,T⟩;cases j
  cases j
 |Bg x=>
  have D:=A.ev (x:=x) q;simp only[de] at j⊢;generalize ev e x=u at*;generalize ev e' x=u' at*;split at j
  .cases D with
   |ptr o E=>cases j;exact⟨_,_,Q,.ptr o E,w⟩
  cases j
 |bin op n x d=>
  simp only[Iv,oD] at q;simp only[de] at j⊢;rcases c:Hb op n (ev e x) (ev e d) with _|r;rw[c] at j;cases j;rw[c] at j;have⟨d,U⟩:=akp (S:=S) (A.ev q.1) (A.ev q.2) c;rw[d];cases j;exact⟨_,_,Q,U,w⟩
 |un op x=>
  simp only[de] at j⊢;rcases c:Qu op (ev e x) with _|r;rw[c] at j;cases j;rw[c] at j;have⟨d,U⟩:=aqS (S:=S) (A.ev (x:=x) q) c;rw[d];cases j;exact⟨_,_,Q,U,w⟩
 |conv k x=>
  have D:=A.ev (x:=x) q;simp only[de] at j⊢;generalize ev e x=u at*;generalize ev e' x=u' at*;split at j;cases D;cases j;exact⟨_,_,Q,.int _ _,w⟩;cases j
 |Tu f W=>
  simp only[Iv,oD] at q;have O:=A.qY q.2;simp only[de] at j⊢;rw[YA (p:=AI.simple) (λ_ _ r=>r.simple) O];cases U:(qY e W).all AI.simple
  rw[U] at j;cases j;rw[U] at j;cases j;exact⟨_,_,Q,.fn q.1 .nil O,w⟩
 |tn z bytes l g=>
  simp only[Iv,oD] at q;have U:=A.ev q.1.2;have O:=A.ev q.2;simp only[de] at j⊢;generalize ev e l=u at*;generalize ev e' l=u' at*;generalize ev e g=t at*;generalize ev e' g=t' at*;split at j
  cases U;cases O;split at j;rename_i U;cases j;exact⟨_,_,by dsimp only;rw[bK U],w.slice _ _ _,w.aJ (Lt q.1.1 _) 0⟩;cases j;cases j
 |slice W x lo hi mx=>
  simp only[Iv,oD] at q;have D:=A.ev q.1.1.1;simp only[de] at j⊢;generalize ev e x=u at*;generalize ev e' x=u' at*;split at j
  .rename_i a len cap;rcases h1:bound e mx cap cap with _|m;rw[h1] at j;cases j
   .rw[h1] at j;dsimp only at j;rcases y:bound e hi len m with _|hh;rw[y] at j;cases j
    .rw[y] at j;dsimp only at j;rcases h3:bound e lo 0 hh with _|l;rw[h3] at j;cases j
     .rw[h3] at j;dsimp only at j;have N:=LU A q.2 h1;have H:=LU A q.1.2 y;have h3':=LU A q.1.1.2 h3;split at j
      cases D;cases j;exact⟨_,_,by dsimp only;rw[N];dsimp only;rw[H];dsimp only;rw[h3'],.gQ _ _,w⟩
      .rename_i b off;cases D with
       |slice o l2 c2 E=>
        split at j;rename_i X ro o s c;have⟨C,s',d,_,_⟩:=w.bZ E c;cases U:(an o 0||an o W);rw[U] at j;cases j;rw[U] at j;cases j;exact⟨_,_,by dsimp only;rw[N];dsimp only;rw[H];dsimp only;rw[h3'];dsimp only;rw[d];dsimp only;rw[U];rfl,.slice _ _ _ E,w⟩;cases j
      cases j
  cases j
 |pb off x=>
  have D:=A.ev (x:=x) q;simp only[de] at j⊢;generalize ev e x=u at*;generalize ev e' x=u' at*;split at j
  .cases D with
   |ptr o E=>cases j;exact⟨_,_,Q,.ptr _ E,w⟩
  cases j
 |tP arr W x N=>
  simp only[Iv,oD] at q;have D:=A.ev q.1;have ri:=A.ev q.2;simp only[de] at j⊢;generalize ev e x=u at*;generalize ev e' x=u' at*;generalize ev e N=t at*;generalize ev e' N=t' at*;split at j
  .cases ri;split at j
   .cases D with
    |ptr o E=>
     split at j;rename_i U;cases j;exact⟨_,_,by dsimp only;rw[bK U],.ptr _ E,w⟩;cases j
   .cases D with
    |slice o l g E=>
     split at j;rename_i U;cases j;exact⟨_,_,by dsimp only;rw[bK U],.ptr _ E,w⟩;cases j
   cases j
  cases j
 |index arr x N=>
  simp only[Iv,oD] at q;have D:=A.ev q.1;have ri:=A.ev q.2;simp only[de] at j⊢;generalize ev e x=u at*;generalize ev e' x=u' at*;generalize ev e N=t at*;generalize ev e' N=t' at*;split at j
  .cases ri;split at j
   .cases D with
    |agg r=>
     split at j;rename_i U;dsimp only at j⊢;split at j;rename_i v2 V;have⟨v2',M,P⟩:=Yx ((r.drop _).take _) V;cases j;exact⟨_,_,by rw[bK U,M],P,w⟩;cases j;cases j
   .cases D with
    |str s=>
     split at j;rename_i U V;cases j;exact⟨_,_,by dsimp only;rw[V],.int _ _,w⟩;cases j
   cases j
  cases j
 |ext N x=>
  have D:=A.ev (x:=x) q;simp only[de] at j⊢;generalize ev e x=u at*;generalize ev e' x=u' at*;split at j
  .cases D with
   |tuple r=>
    dsimp only at j⊢;split at j;rename_i v2 V;have⟨v2',M,P⟩:=r.get V;cases j;exact⟨_,_,by rw[M],P,w⟩;cases j
  cases j
 |IF x=>
  have D:=A.ev (x:=x) q;simp only[de] at j⊢;generalize ev e x=u at*;generalize ev e' x=u' at*;split at j;cases j;cases D<;>exact⟨_,_,Q,.int _ _,w⟩;cases j
 |Xw x=>
  have D:=A.ev (x:=x) q;simp only[de] at j⊢;generalize ev e x=u at*;generalize ev e' x=u' at*;split at j;cases D;cases j;exact⟨_,_,Q,.int _ _,w⟩;cases j
 |append z bytes P s x=>
  simp only[Iv,oD] at q;simp only[de] at j⊢;rcases N:news h z P (ev e x) with _|r;rw[N] at j;cases j;have⟨n,X⟩:=r;rw[N] at j;have⟨C,P,O⟩:=alF w q.1.1 (A.ev q.2) N;rw[P];exact YF w (A.ev q.1.2) O j
 |copy W N s=>
  simp only[Iv,oD] at q;have W:=A.ev q.1;have P:=A.ev q.2;simp only[de] at j⊢;generalize ev e N=u at*;generalize ev e' N=u' at*;generalize ev e s=t at*;generalize ev e' s=t' at*;split at j
  .rename_i N N N N N N;split at j;rename_i N;cases j;cases W<;>cases P<;>exact⟨_,_,by dsimp only;rw[bK N],.int _ _,w⟩
   .rename_i N;split at j
    .cases W with
     |slice W W W W=>
      cases P with
      |slice P l2 c2 P=>
       split at j;rename_i X F;have⟨C,Pu,O⟩:=DG w P F;split at j;rename_i y p;have⟨H,I,T⟩:=Bs w W O p;cases j;exact⟨_,_,by dsimp only;rw[bM N,Pu];dsimp only;rw[I],.int _ _,T⟩;cases j;cases j
    cases j
  cases j
 |clear z x=>
  simp only[Iv,oD] at q;have D:=A.ev q.2;simp only[de] at j⊢;generalize ev e x=u at*;generalize ev e' x=u' at*;split at j
  .split at j;rename_i N;cases j;cases D<;>exact⟨_,_,by dsimp only;rw[bK N],VS.undef,w⟩
   .rename_i N;split at j
    .cases D with
     |slice o l g E=>
      split at j;rename_i y p;have⟨H,I,T⟩:=Bs w E (Lt q.1 _) p;cases j;exact⟨_,_,by dsimp only;rw[bM N,I],VS.undef,T⟩;cases j
    cases j
  cases j
 |RO x=>
  have D:=A.ev (x:=x) q;simp only[de] at j⊢;generalize ev e x=u at*;generalize ev e' x=u' at*;split at j;cases D;cases j;exact⟨_,_,Q,.int _ _,w⟩
  .cases D with
   |slice o l g E=>
    split at j;rename_i X ro o s c;have⟨C,s',d,_,_⟩:=w.bZ E c;split at j;rename_i N;cases j;exact⟨_,_,by dsimp only;rw[d];dsimp only;rw[bK N],.int _ _,w⟩;rename_i N;cases j;exact⟨_,_,by dsimp only;rw[d];dsimp only;rw[bM N],.chan _,w⟩;cases j
  cases j
 |call f args=>cases j
 |bad=>cases j
 |_=>cases q
end
def Ip(S:Sf)(F:Nat->Option dm):Prop:=∀f a,S.fk f=ck->F f=Z a->(match a.CW with|.no=>True|_=>False)/\PC S a.body=ck
def KW(S:Sf)(a:aD->Env->az->R):Prop:=∀c e h e' h' x q h1,PC S c=ck->ES S e e'->HS S h h'->a c e h=Z (x,q,h1)->∃p j,a c e' h'=Z (x,p,j)/\ES S q p/\HS S h1 j
section
variable{S:Sf}{F:Nat->Option dm}{d:aD->Env->az->R}
def Q4:∀ {l a:List aa} {e e':Env} (i:Nat),ES S e e'->bo (VS S) l a->ES S (params e i l) (params e' i a)
 |_,_,_,_,_,w,.nil=>w
 |_,_,_,_,i,w,.cons x b=>Q4 (i+1) (w.set x i) b
def H9:∀ {C:List Nat} {l a:List aa} {e e' r:Env},ES S e e'->bo (VS S) l a->gG e C l=Z r->∃p,gG e' C a=Z p/\ES S r p
 |[],_,_,_,_,_,w,.nil,j=>by cases j;exact⟨_,Q,w⟩
 |[],_,_,_,_,_,_,.cons _ _,j=>by cases j
 |_::_,_,_,_,_,_,_,.nil,j=>by cases j
 |t::C,_,_,_,_,_,w,.cons x p,j=>by unfold gG at j⊢;exact H9 (w.set x t) p j
def Bl{h h':az}(w:HS S h h'){e e':Env}(p:ES S e e'):∀ {l:List Kn} {r:List aa},results e h l=Z r->∃E,results e' h' l=Z E/\bo (VS S) r E
 |[],r,j=>by cases j;exact⟨_,Q,.nil⟩
 |.tmp t::l,r,j=>by unfold results at j⊢;split at j;rename_i L y;have⟨i,q,A⟩:=Bl w p y;cases j;rw[q];exact⟨_,Q,.cons (p t) A⟩;cases j
 |.cell a n::l,r,j=>by
  unfold results at j⊢;have E:=p a;generalize bY e a=u at*;generalize bY e' a=u' at*;split at j
  .rename_i b off;cases E with
   |ptr o G=>
    dsimp only;split at j;rename_i X U;have⟨C,N,M⟩:=DG w G U;rw[N];dsimp only;split at j;rename_i v O;have⟨B,D,A⟩:=Yx M O;rw[D];dsimp only;split at j;rename_i L y;have⟨i,q,I⟩:=Bl w p y;cases j;rw[q];exact⟨_,Q,.cons A I⟩;cases j;cases j;cases j
  cases j
def Rf(r:bo (VS S) l a):VS S (result l) (result a):=by unfold result;rcases r with _|⟨x,y⟩;exact .tuple .nil;rcases y with _|⟨y,j⟩;exact x;exact .tuple (.cons x (.cons y j))
def Ka(r:bo (VS S) l a):gV a=gV l:=by unfold gV;rcases r with _|⟨x,y⟩;rfl;rcases y with _|⟨y,j⟩;rfl;exact YA (λ_ _ r=>r.tp) (.cons x (.cons y j))
def Mb(I:Ip S F)(H:KW S d){a:Bool}(q:S.fk f=ck)(w:HS S h h')(V:bo (VS S) args o)(j:pV F d a f args h=Z (v,h1)):∃B N,pV F d a f o h'=Z (B,N)/\VS S v B/\HS S h1 N:=by
 unfold pV at j⊢;rcases G:F f with _|a;rw[G] at j;cases j
 .rw[G] at j;have⟨D,N⟩:=I f a q G;dsimp only at j⊢;cases q:a.CW with
  |WN=>rw[q] at D;exact D.elim
  |run p k=>rw[q] at D;exact D.elim
  |no=>
   rw[q] at j;dsimp only at j⊢;rcases I:d a.body (params .nil 0 args) h with _|x;rw[I] at j;cases j
   .have⟨x,O,M⟩:=x;obtain⟨D,D,D,U,E⟩:=H _ _ _ _ _ _ _ _ N (Q4 0 ES.nil V) w I;rw[I] at j;rw[D];cases x with
    |exit id=>cases j
    |normal=>
     dsimp only at j⊢;rcases u:results O M a.res with _|L;rw[u] at j;cases j;rw[u] at j;have⟨i,D,A⟩:=Bl E U u;rw[D];dsimp only at j⊢;rw[Ka A];cases y:gV L;rw[y] at j;cases j;rw[y] at j;cases j;exact⟨_,_,Q,Rf A,E⟩
    |ret=>
     dsimp only at j⊢;rcases u:results O M a.res with _|L;rw[u] at j;cases j;rw[u] at j;have⟨i,D,A⟩:=Bl E U u;rw[D];dsimp only at j⊢;rw[Ka A];cases y:gV L;rw[y] at j;cases j;rw[y] at j;cases j;exact⟨_,_,Q,Rf A,E⟩
def HS.loop{h h':az}(w:HS S h h'){l:Nat}(q:S.D l){j:Env}{a:List Nat}{b c:aD}{f:Ys}(y:h.tr.get l=Z (.loop j a b c f)):∃p,h'.tr.get (S.sh l)=Z (.loop p a b c f)/\ES S j p/\PC S b=ck/\PC S c=ck:=by
 rcases w.at_ l _ q y with⟨D,e,_⟩|⟨E,u,r⟩;cases e
 .cases r with
  |loop a f h h1 A=>exact⟨_,u,h,h1,A⟩
def Jq(w:HS S h h'){l:Nat}(u:S.D l){a:Ys}{b:Bool}(j:ox l h a b=Z (v,h1)):∃B p,ox (S.sh l) h' a b=Z (B,p)/\VS S v B/\HS S h1 p:=by unfold ox at j⊢;split at j;rename_i y A E q G;have⟨N,D,I,M,p⟩:=w.loop u G;rw[D];cases j;exact⟨_,_,Q,.bool _,w.awB (.loop A a I M p)⟩;cases j
def aeQ(H:KW S d)(w:HS S h h'){l:Nat}(A:S.D l){j:aD}(b:PC S j=ck)(a:ES S e e')(q:zD d l j e h=Z (v,h1)):∃B I,zD d (S.sh l) j e' h'=Z (B,I)/\VS S v B/\HS S h1 I:=by
 unfold zD at q⊢;split at q
 .rename_i y D u p U;have⟨M,I,V,O,N⟩:=w.loop A U;rw[I];dsimp only;have I:HS S (gJ h l y D u p .busy) (gJ h' (S.sh l) M D u p .busy):=w.awB (.loop D .busy V O N);rcases G:d j e (gJ h l y D u p .busy) with _|x
  rw[G] at q;cases q
  .obtain⟨x,p,p⟩:=x;obtain⟨p,p,p,_,E⟩:=H _ _ _ _ _ _ _ _ b a I G;rw[G] at q;rw[p];cases x with
   |normal=>exact Jq E A q
   |ret=>exact Jq E A q
   |exit id=>exact Jq E A q
 cases q
def aeS(H:KW S d)(w:HS S h h'){l:Nat}(D:S.D l)(I:bo (VS S) args o)(j:uI d l args h=Z (v,h1)):∃B G,uI d (S.sh l) o h'=Z (B,G)/\VS S v B/\HS S h1 G:=by
 unfold uI at j⊢;split at j
 .rename_i q N p E V;obtain⟨u,u,y,U,O⟩:=w.loop D V;rw[u];dsimp only;rcases u:gG q N args with _|e;rw[u] at j;cases j
  .obtain⟨N,M,N⟩:=H9 y I u;rw[u] at j;rw[M];dsimp only at j⊢;rcases y:d p e h with _|x;rw[y] at j;cases j
   .obtain⟨x,p,p⟩:=x;obtain⟨p,p,M,A,p⟩:=H _ _ _ _ _ _ _ _ U N w y;rw[y] at j;rw[M];cases x with
    |normal=>exact aeQ H p D O A j
    |ret=>cases j
    |exit id=>cases j
 cases j
def agp(G:Ip S F)(H:KW S d){q j:aa}(y:VS S q j)(u:bo (VS S) args o)(w:HS S h h')(p:fF F d q args h=Z (v,h1)):∃B q,fF F d j o h'=Z (B,q)/\VS S v B/\HS S h1 q:=by
 unfold fF at p;split at p
 .cases y with
  |fn D h1 E=>exact Mb G H D w ((h1.app u).app E) p
 .cases y with
  |yield A=>exact aeS H w A u p
 cases p
def afs(j:ES S e e')(g:Option (Nat×Bool)):wanted e' g=wanted e g:=by rcases g with _|g;rfl;have⟨t,b⟩:=g;unfold wanted;have r:=j t;dsimp only;generalize bY e t=u at*;generalize bY e' t=u' at*;cases r<;>rfl
def WK(N:Ip S F)(H:KW S d){o:cr}(q:Iv S o.op=ck){e e' E:Env}(p:ES S e e')(w:HS S h h')(j:dZ F d o e h=Z (E,h1)):∃I G,dZ F d o e' h'=Z (I,G)/\ES S E I/\HS S h1 G:=by unfold dZ at j⊢;rw[afs p];cases D:wanted e o.guard;rw[D] at j;cases j;exact⟨_,_,Q,p.put VS.undef _,w⟩;rw[D] at j;simp only[jv] at j⊢;split at j;rename_i f args a;rw[a] at q;simp only[Iv,oD] at q;rcases a:fF F d (ev e f) (qY e args) h with _|x;rw[a] at j;cases j;have⟨v,M⟩:=x;have⟨B,O,u,A,y⟩:=agp N H (p.ev q.1) (p.qY q.2) w a;rw[a] at j;rw[u];cases j;exact⟨_,_,Q,p.put A _,y⟩;rename_i op U;rcases a:de e h o.op with _|x;rw[a] at j;cases j;have⟨v,M⟩:=x;have⟨B,O,u,A,y⟩:=aqd w p q a;rw[a] at j;rw[u];cases j;exact⟨_,_,Q,p.put A _,y⟩
def acj(y:Ip S F)(H:KW S d):∀ {l:List cr} {e e' q:Env} {h h' h1:az},(l.all λo=>Iv S o.op)=ck->ES S e e'->HS S h h'->Ap F d l e h=Z (q,h1)->∃D A,Ap F d l e' h'=Z (D,A)/\ES S q D/\HS S h1 A
 |[],_,_,_,_,_,_,_,u,w,j=>by cases j;exact⟨_,_,Q,u,w⟩
 |o::l,e,e',q,h,h',h1,p,u,w,j=>by rw[ef,oD] at p;unfold Ap at j⊢;rcases q:dZ F d o e h with _|x;rw[q] at j;cases j;have⟨O,M⟩:=x;have⟨I,N,G,E,A⟩:=WK y H p.1 u w q;rw[q] at j;rw[G];exact acj y H p.2 E A j
def xQ{e e':Env}{h h':az}(p:ES S e e')(w:HS S h h'){k:Nat} :∀ {l:List Nat},still e h k l=ck->still e' h' (k+S.dc) l=ck
 |[],_=>rfl
 |t::l,j=>by
  unfold still at j⊢;have r:=p t;generalize bY e t=u at*;generalize bY e' t=u' at*;cases r with
  |ptr o q=>
   dsimp only at j⊢;split at j;rename_i X E G s t;have⟨C,D,y,_,A⟩:=w.bZ q t;rw[y];dsimp only;rw[oD] at j⊢;exact⟨qV (av (Uz j.1)),xQ p w j.2⟩;cases j
  |slice o a c q=>
   dsimp only at j⊢;split at j;rename_i X E G s t;have⟨C,D,y,_,A⟩:=w.bZ q t;rw[y];dsimp only;rw[oD] at j⊢;exact⟨qV (av (Uz j.1)),xQ p w j.2⟩;cases j
  |uC=>exact xQ p w j
  |tuple _=>exact xQ p w j
  |zw=>exact xQ p w j
  |gQ _ _=>exact xQ p w j
  |_=>cases j
def Vm(D:Ip S F)(H:KW S d){k:Nat} :∀ {l:List (cr×List Nat)} {e e' q:Env} {h h' h1:az},(l.all λo=>Iv S o.1.op)=ck->ES S e e'->HS S h h'->nq F d k l e h=Z (q,h1)->∃I E,nq F d (k+S.dc) l e' h'=Z (I,E)/\ES S q I/\HS S h1 E
 |[],_,_,_,_,_,_,_,u,w,j=>by cases j;exact⟨_,_,Q,u,w⟩
 |(o,E)::l,e,e',q,h,h',h1,p,u,w,j=>by rw[ef,oD] at p;unfold nq at j⊢;rcases y:dZ F d o e h with _|x;rw[y] at j;cases j;have⟨O,N⟩:=x;have⟨M,U,q,A,G⟩:=WK D H p.1 u w y;rw[y] at j;rw[q];dsimp only at j⊢;cases y:still O N k E;rw[y] at j;cases j;rw[y] at j;rw[xQ A G y];exact Vm D H p.2 A G j
def ai8(U:Ip S F)(H:KW S d):KW S (dp F d):=by
 intro k e h e' h' x A h1 A D w j;cases k with
 |skip=>cases j;exact⟨_,_,Q,D,w⟩
 |ret=>cases j;exact⟨_,_,Q,D,w⟩
 |exit id=>cases j;exact⟨_,_,Q,D,w⟩
 |bad=>cases j
 |ops l=>
  unfold dp at j⊢;dsimp only at j⊢;rcases c:Ap F d l e h with _|x;rw[c] at j;cases j;have⟨V,N⟩:=x;have⟨G,M,E,q,p⟩:=acj U H A D w c;rw[c] at j;rw[E];cases j;exact⟨_,_,Q,q,p⟩
 |draw l=>
  unfold dp at j⊢;dsimp only at j⊢;rcases c:nq F d h.clock l e {h with clock:=h.clock+1} with _|x;rw[c] at j;cases j;have⟨V,N⟩:=x;have⟨G,M,E,q,p⟩:=Vm U H A D w.tick c;rw[<-w.clock] at E;rw[c] at j;rw[E];cases j;exact⟨_,_,Q,q,p⟩
 |seq a b=>
  simp only[PC,oD] at A;unfold dp at j⊢;dsimp only at j⊢;rcases c:d a e h with _|y;rw[c] at j;cases j
  .have⟨y,V,N⟩:=y;have⟨G,M,E,q,p⟩:=H _ _ _ _ _ _ _ _ A.1 D w c;rw[c] at j;rw[E];cases y with
   |normal=>exact H _ _ _ _ _ _ _ _ A.2 q p j
   |exit id=>cases j;exact⟨_,_,Q,q,p⟩
   |ret=>cases j;exact⟨_,_,Q,q,p⟩
 |cond k a b=>
  simp only[PC,oD] at A;have I:=D.ev A.1.1;unfold dp at j⊢;dsimp only at j⊢;generalize ev e k=u at*;generalize ev e' k=u' at*;split at j
  cases I;exact H _ _ _ _ _ _ _ _ A.1.2 D w j;cases I;exact H _ _ _ _ _ _ _ _ A.2 D w j;cases j
 |block id k=>
  unfold dp at j⊢;dsimp only at j⊢;rcases c:d k e h with _|y;rw[c] at j;cases j
  .have⟨y,V,N⟩:=y;have⟨G,M,E,q,p⟩:=H _ _ _ _ _ _ _ _ (show PC S k=ck from A) D w c;rw[c] at j;rw[E];cases y with
   |normal=>cases j;exact⟨_,_,Q,q,p⟩
   |ret=>cases j;exact⟨_,_,Q,q,p⟩
   |exit i=>
    dsimp only at j⊢;cases I:an i id;rw[I] at j;cases j;exact⟨_,_,Q,q,p⟩;rw[I] at j;cases j;exact⟨_,_,Q,q,p⟩
 |loop k=>
  unfold dp at j⊢;dsimp only at j⊢;rcases c:d k e h with _|y;rw[c] at j;cases j
  .have⟨y,V,N⟩:=y;have⟨G,M,E,q,p⟩:=H _ _ _ _ _ _ _ _ (show PC S k=ck from A) D w c;rw[c] at j;rw[E];cases y with
   |normal=>exact H _ _ _ _ _ _ _ _ A q p j
   |exit id=>cases j;exact⟨_,_,Q,q,p⟩
   |ret=>cases j;exact⟨_,_,Q,q,p⟩
 |Xe f q O I=>
  simp only[PC,oD] at A;have k:=D.ev A.1.1;unfold dp at j⊢;dsimp only at j⊢;generalize ev e f=u at*;generalize ev e' f=u' at*;split at j
  .rename_i g first V
   cases k with
   |fn n k r=>
    rename_i a m b V;dsimp only at j⊢;have o:VS S (.func (.yield h.aw) #[] #[]) (.func (.yield h'.aw) #[] #[]):=by have:=VS.yield (S:=S) w.dn;rwa [w.KF] at this
    rcases c:vk F d g (a++[TA (.yield h.aw) #[] #[]]++b) (h.new (.loop e q O I .ready)) with _|y;rw[c] at j;cases j
    .have⟨y,N⟩:=y;have⟨y,M,E,_,p⟩:=Mb U H n (w.new (.loop q .ready D A.1.2 A.2)) ((k.app (.cons o .nil)).app r) c;have U:vk F d g (m++[TA (.yield h'.aw) #[] #[]]++V) (h'.new (.loop e' q O I .ready))=Z (y,M):=E;rw[c] at j;rw[U];dsimp only at j⊢;split at j
     rename_i U;have⟨E,c,_⟩:=p.loop w.dn U;rw[w.KF] at c;rw[c];cases j;have:=p.del h.aw;rw[w.KF] at this;exact⟨_,_,Q,D,this⟩
     rename_i U;have⟨E,c,_⟩:=p.loop w.dn U;rw[w.KF] at c;rw[c];cases j;have:=p.del h.aw;rw[w.KF] at this;exact⟨_,_,Q,D,this⟩
     rename_i U;have⟨E,c,_⟩:=p.loop w.dn U;rw[w.KF] at c;rw[c];cases j;have:=p.del h.aw;rw[w.KF] at this;exact⟨_,_,Q,D,this⟩
     cases j
  cases j
def aiO(j:Ip S F):∀k,KW S (run F k)
 |0=>λ_ _ _ _ _ _ _ _ _ _ _ p=>by cases p
 |k+1=>ai8 j (aiO j k)
def akr(p:Ip S F)(q:S.fk f=ck)(w:HS S h h')(u:bo (VS S) args o)(y:call F k f args h=Z (v,h1)):∃B j,call F k f o h'=Z (B,j)/\VS S v B/\HS S h1 j:=Mb p (aiO p k) q w u y
end
def pE(n:Nat)(v:aa):Prop:=UJ v=ck\/(∃b o,v=eU (Z ⟨b,o,K⟩)/\b<n)\/∃b o l c,v=dB (Z ⟨b,o,K⟩) l c/\b<n
def pE.mono(h:pE n v)(l:n<=m):pE m v:=by rcases h with h|⟨b,o,e,h⟩|⟨b,o,k,c,e,h⟩;exact jZ h;exact kd (jZ ⟨b,o,e,OD h l⟩);exact kd (kd ⟨b,o,k,c,e,OD h l⟩)
def anx(n:Nat)(v:aa):Prop:=pE n v\/∃X,v=ix ⟨X⟩/\∀c∈X,pE n c
def Lx(h:az):Prop:=∀b o,h.tr.get b=Z o->∃X j op s,o=.bZ X j op s/\∀v∈X,pE h.aw v
def Df{a:Type}{R:a->a->Prop} :∀ {l:List a},(∀v∈l,R v v)->bo R l l
 |[],_=>.nil
 |v::l,h=>.cons (h v (iY)) (Df λu j=>h u (xV _ j))
def yX(c a d:az)(e:Nat->Bool)(h1:0<c.aw)(p:c.aw<=a.aw):Sf:=
 ⟨a.aw,d.aw-a.aw,d.clock-a.clock,λb=>a.aw<=b\/b<c.aw,e,λg=>an g 0,λ_ h=>jZ h,λg j=>by have:=sq j;subst this;exact⟨OD h1 p,kd h1⟩⟩
section
variable{t d w:az}{M:Nat->Bool}{N:0<t.aw}{H:t.aw<=d.aw}
def Jv(h:b<t.aw):(yX t d w M N H).sh b=b:=by unfold Sf.sh;exact bK (OD h H)
def II(h:pE t.aw v):VS (yX t d w M N H) v v:=by rcases h with h|⟨b,o,rfl,h⟩|⟨b,o,l,c,rfl,h⟩;exact aav h;have:=VS.ptr (S:=yX t d w M N H) o (kd h);rwa [Jv h] at this;have:=VS.slice (S:=yX t d w M N H) o l c (kd h);rwa [Jv h] at this
def ajg(h:anx t.aw v):VS (yX t d w M N H) v v:=by rcases h with h|⟨X,rfl,h⟩;exact II h;exact .agg (Df λv j=>II (h v j))
def ai1(C:Lx t)(a:cu t)(a:ay aR t d)(p:ay aR d w):HS (yX t d w M N H) d w:=by
 refine⟨fq _,?_,?_,λb o y j=>?_⟩;have:=p.aw;show w.aw=d.aw+(w.aw-d.aw);omega
 have:=p.clock;show w.clock=d.clock+(w.clock-d.clock);omega
 .have G:=a.ok.wf b o j;have u:b<t.aw:=by rcases y with h|h;exact absurd h (by show ¬d.aw<=b;omega);exact h
  have q:=a.same b u (λh=>h);have A:=p.same b G (λh=>h);rw[q] at j;obtain⟨X,E,op,s,rfl,I⟩:=C b o j;refine kd ⟨_,by rw[Jv u,A,q];exact j,.bZ E op (Df λv D=>II (I v D)) (pe _ _)⟩
end
def ap9{S:Sf}(r:VS S v B)(h:UJ v=ck):B=v:=by cases r<;>first|rfl|cases h
def Tx{S:Sf} :∀ {l a:List aa},bo (VS S) l a->l.all UJ=ck->a=l
 |_,_,.nil,_=>rfl
 |_,_,.cons x b,h=>by rw[ef,oD] at h;rw[ap9 x h.1,Tx b h.2]
def ap_{S:Sf}(r:VS S v B)(h:TM v=ck):B=v:=by
 cases r with
 |agg q=>rw[Tx q h]
 |tuple q=>rw[Tx q h]
 |_=>first|rfl|cases h
def frame{a b c:az}(V:Nat->Bool)(j:0<a.aw)(C:Lx a)(E:cu a)(d:ay aR a b)(q:ay aR b c)(N:Ip (yX a b c V j d.aw) F)(j:V f=ck)(p:∀v∈args,anx a.aw v){V:aa}(I:TM V=ck)(D:aY F f args b (λv _=>v=V)):aY F f args c (λv _=>v=V):=by obtain⟨n,v,h',V,rfl⟩:=D;have⟨B,A,y,M,_⟩:=akr N j (ai1 C E d q) (Df λu G=>ajg (p u G)) V;exact⟨n,B,A,y,ap_ M I⟩
def aY.both{j q:aa->az->Prop}(a:aY F f args h j)(b:aY F f args h q):aY F f args h (λv h'=>j v h'/\q v h'):=by have⟨n,v,h1,E,D⟩:=a;have⟨m,u,I,A,G⟩:=b;have p:=Ma (uJ (lC n m)) E;have y:=Ma (uJ (kp n m)) A;rw[p] at y;cases y;exact⟨_,v,h1,p,D,G⟩
def codeOk(F:Nat->Option dm)(S:Sf)(f:Nat):Bool:=match F f with
 |some a=>(match a.CW with|.no=>ck|_=>cd)&&PC S a.body
 |none=>ck
def aoc{S:Sf}(l:List Nat)(q:∀f,S.fk f=ck->f∈l)(h:l.all (codeOk F S)=ck):Ip S F:=by
 intro f S u y;have:=List.all_eq_true.1 h f (q f u);unfold codeOk at this;rw[y] at this;dsimp only at this;rw[oD] at this;refine⟨?_,this.2⟩;cases j:S.CW with
 |no=>trivial
 |run p k=>rw[j] at this;cases this.1
 |WN=>rw[j] at this;cases this.1
end Go.AI
namespace Go.AI
open Go.ChangeShapes Go.WideShapes
variable{a:Addr}{h:az}{k:Option Nat}{v:aa}{ρ:fZ}
inductive Ty where
 |bool
 |int (k:bd)
 |str
 |unit
 |pair (a b:Ty)
 |sl (e:Ty)
namespace Ty
def sz:Ty->Nat
 |.bool=>1
 |.int _=>1
 |.str=>1
 |.unit=>0
 |.pair a b=>a.sz+b.sz
 |.sl _=>1
def den:Ty->Type
 |.bool=>Bool
 |.int _=>Int
 |.str=>ByteArray
 |.unit=>Unit
 |.pair a b=>a.den×b.den
 |.sl e=>List e.den
def rep(e:Ty):Nat->Ty
 |0=>.unit
 |n+1=>.pair e (e.rep n)
end Ty
def ad{c:Type}(R:List aa->c->Prop)(sz:Nat)(h:az)(v:aa)(e:List c):Prop:=
 ∃a j,v=dB a (cz e) j/\((e=[]/\(a=K\/∃c b,a=Z ⟨c,b,K⟩))\/∃c b d p o s,a=Z ⟨c,b,K⟩/\h.tr.get c=Z (.bZ d p o s)/\∀i x,e[i]?=Z x->cz ((d.drop (b+i*sz)).take sz)=sz/\R ((d.drop (b+i*sz)).take sz) x)
def rep:(T:Ty)->az->List aa->T.den->Prop
 |.bool,_,b,c=>b=[dC c]
 |.int k,_,b,n=>b=[.int k n]
 |.str,_,b,s=>b=[gX s]
 |.unit,_,b,_=>b=[]
 |.pair a c,h,b,(x,y)=>∃p j,b=p++j/\rep a h p x/\rep c h j y
 |.sl e,h,b,y=>∃v,b=[v]/\ad (rep e h) e.sz h v y
def ad.mono{s:Type}{R q:List aa->s->Prop}{sz:Nat}{h b:az}{p:List s}(s:ad R sz h v p)(y:cu h)(g:ay aR h b)(D:∀c x,R c x->q c x):ad q sz b v p:=by obtain⟨a,j,rfl,s⟩:=s;refine⟨a,j,Q,?_⟩;rcases s with s|⟨b,u,j,A,o,q,rfl,i,p⟩;exact jZ s;exact kd ⟨b,u,j,A,o,q,Q,g.get y i,λi x u=>⟨(p i x u).1,D _ _ (p i x u).2⟩⟩
def Ax:∀ {T:Ty} {h r:az} {j:List aa} {y:T.den},cu h->ay aR h r->rep T h j y->rep T r j y
 |.bool,_,_,_,_,_,_,r=>r
 |.int _,_,_,_,_,_,_,r=>r
 |.str,_,_,_,_,_,_,r=>r
 |.unit,_,_,_,_,_,_,r=>r
 |.pair a b,_,_,_,(x,y),j,g,⟨D,q,e,A,p⟩=>⟨D,q,e,Ax j g A,Ax j g p⟩
 |.sl e,_,_,_,_,j,g,⟨v,u,s⟩=>⟨v,u,s.mono j g λ_ _ r=>Ax j g r⟩
def Lq:∀ {T:Ty} {h:az} {r:List aa} {y:T.den},rep T h r y->cz r=T.sz
 |.bool,_,_,_,r=>by rw[show _=[_] from r];rfl
 |.int _,_,_,_,r=>by rw[show _=[_] from r];rfl
 |.str,_,_,_,r=>by rw[show _=[_] from r];rfl
 |.unit,_,_,_,r=>by rw[show _=[] from r];rfl
 |.pair a b,_,_,(x,y),⟨A,u,e,q,j⟩=>by rw[e,X0,Lq q,Lq j];rfl
 |.sl e,_,_,_,⟨v,p,_⟩=>by rw[p];rfl
def Bd(k:Option Nat):(T:Ty)->T.den->Prop
 |.bool,_=>True
 |.int _,_=>True
 |.str,_=>True
 |.unit,_=>True
 |.pair a b,(x,y)=>Bd k a x/\Bd k b y
 |.sl e,(b:List e.den)=>(∀c,k=Z c->cz b<=c)/\∀x∈b,Bd k e x
section
variable(P:bG)
def px(f:cI->Option Ty):Nat->List Field->Option (Ty×Nat)
 |off,[]=>Z (.unit,off)
 |off,x::b=>bif an x.offset off then match f x.type with
   |none=>K
   |some a=>bif an a.sz (P.cellsOf x.type) then match px f (off+a.sz) b with
     |some (b,n)=>Z (.pair a b,n)
     |none=>K
    else K
  else K
def tyOf:Nat->cI->Option Ty
 |0,_=>K
 |d+1,t=>match P.underlying t with
  |some .bool=>Z .bool
  |some (.int k)=>Z (.int k)
  |some .string=>Z .str
  |some (.slice e)=>match tyOf d e with
   |some a=>bif c6 0 (P.bytesOf e)&&(an a.sz (P.cellsOf e)&&c6 0 a.sz) then Z (.sl a) else K
   |none=>K
  |some (.struct n)=>match px P (tyOf d) 0 n.toList with
   |some (a,n)=>bif an n (P.cellsOf t) then Z a else K
   |none=>K
  |some (.array n e)=>match tyOf d e with
   |some a=>bif an a.sz (P.cellsOf e)&&an (n*a.sz) (P.cellsOf t) then Z (a.rep n) else K
   |none=>K
  |_=>K
end
def AP{a b:Nat}(h:an a b=ck):a=b:=sq h
def Pf(h:dw v=ck):UJ v=ck:=by unfold dw at h;split at h<;>first|rfl|cases h
structure Fe(CC:dH)(ρ:fZ)(h:az)(w:bQ):Prop where
 ok:cu h
 ro:∀b,¬gh h b
 Yk:ff CC ρ h w
 cl:Lx h
section
variable{H:Type}{r:cI×aa->H}{P:bG}{w:bQ}{o:Bool}{l:dH}
def Fe.add(L:Fe l ρ h w){bZ p:Nat}{acs:List aa}{y:Array aa}{I:cI}{A:Nat×Nat}(a:w.heap[bZ]?=Z (.cells y I A))(M:p<=y.size)(M:∀(j:Nat)(v:aa),acs[j]?=Z v->∃c,y[p+j]?=Z c/\KR ρ v c)(g:∀v∈acs,pE h.aw v):∃u,ρ.le u/\u h.aw=Z ⟨bZ,p,cz acs,0,y.size-p⟩/\Fe l u (h.new (.bZ acs ck 0 0)) w/\ay aR h (h.new (.bZ acs ck 0 0)):=by
 have D:ρ h.aw=K:=by rcases q:ρ h.aw with _|r;rfl;exact absurd (L.Yk.low _ _ q).1 ab
 let u:fZ:=λb=>if b=h.aw then Z ⟨bZ,p,cz acs,0,y.size-p⟩ else ρ b
 have E:ρ.le u:=by intro b r q;show(if b=h.aw then _ else ρ b)=Z r;rw[bM (by rintro rfl;rw[D] at q;cases q)];exact q
 have D:u h.aw=Z ⟨bZ,p,cz acs,0,y.size-p⟩:=by show(if h.aw=h.aw then _ else _)=_;rw[bK rfl]
 have G:∀b,(h.new (.bZ acs ck 0 0)).tr.get b=if b=h.aw then Z (.bZ acs ck 0 0) else h.tr.get b:=by intro b;simp[az.new,Tr.bN]
 have U:cu (h.new (.bZ acs ck 0 0)):=by
  refine⟨λb o a=>?_,λb f N o s a=>?_⟩
  .rw[G] at a;show b<h.aw+1;split at a
   omega;exact sC (L.ok.wf b o a)
  rw[G] at a;split at a;cases a;exact hQ _;exact L.ok.st b f N o s a
 have e:∀b,¬gh (h.new (.bZ acs ck 0 0)) b:=by rintro b⟨o,p,q⟩;rw[G] at p;split at p;cases p;cases q;exact L.ro b ⟨o,p,q⟩
 have d:ay aR h (h.new (.bZ acs ck 0 0)):=by refine⟨dd _,fq _,λb a _=>?_,U⟩;rw[G,bM ab]
 refine⟨u,E,D,⟨U,e,⟨λb r q=>?_,λb r o q p=>?_,λb O r O o _ _ O=>absurd O (e b),λb o p=>U.wf b o p⟩,λb o p=>?_⟩,d⟩
 .by_cases e:b=h.aw;rw[e] at q;rw[D] at q;cases q;exact⟨by rw[e];exact oU _,(Array.getElem?_eq_some_iff.mp a).1⟩
  .have d:ρ b=Z r:=by
    have:u b=ρ b:=by show(if b=h.aw then _ else ρ b)=_;rw[bM e]
    rw[<-this];exact q
   exact⟨sC (L.Yk.low _ _ d).1,(L.Yk.low _ _ d).2⟩
 .rw[G] at p;by_cases e:b=h.aw;rw[bK e] at p;cases p;rw[e,D] at q;cases q;exact⟨y,I,A,a,Q,Q,⟨by dsimp only;omega,λh=>absurd Q h⟩,(λh=>by cases h),λj v D=>by have⟨c,I,A⟩:=M j v D;exact⟨c,I,A.mono E⟩⟩
  .rw[bM e] at p;have d:ρ b=Z r:=by
    have:u b=ρ b:=by show(if b=h.aw then _ else ρ b)=_;rw[bM e]
    rw[<-this];exact q
   have M:=L.Yk.obj b r o d p;cases o with
   |bZ f N k d=>
    have⟨y,V,O,u,d,U,q,a,i⟩:=M;exact⟨y,V,O,u,d,U,q,a,λj v D=>by have⟨c,I,A⟩:=i j v D;exact⟨c,I,A.mono E⟩⟩
   |loop=>exact absurd ⟨_,p,Q⟩ (L.ro b)
   |itr=>exact absurd ⟨_,p,Q⟩ (L.ro b)
   |map=>exact absurd ⟨_,p,Q⟩ (L.ro b)
 rw[G] at p;by_cases e:b=h.aw;rw[bK e] at p;cases p;exact⟨_,_,_,_,Q,λv D=>(g v D).mono (dd _)⟩;rw[bM e] at p;obtain⟨f,N,k,s,rfl,I⟩:=L.cl b o p;exact⟨_,_,_,_,Q,λv D=>(I v D).mono (dd _)⟩
def Laid(k:Option Nat)(l:dH)(w:bQ)(T:Ty)(ρ:fZ)(h:az)(b:List aa):Prop:=
 ∃p a j y,ρ.le p/\ay aR h a/\Fe l p a w/\bo (KR p) j b/\rep T a j y/\Bd k T y/\∀v∈j,pE a.aw v
def WB(k:Option Nat)(P:bG)(t:cI)(d:En H):Prop:=∀a,k=Z a->∀n∈d.weights P t,n<=a
def abl{k:Option Nat}{P:bG}{e:cI}{j:Nat}(q:k=Z j):∀ {l:List (En H)},(∀n∈sK P e l,n<=j)->∀ {i:Nat} {d:En H},l[i]?=Z d->WB k P e d
 |[],_,_,_,j=>by simp at j
 |x::l,h,i,d,j=>by
  rw[sK] at h;cases i with
  |zero=>
   simp at j;subst j;intro y u n p;rw[q] at u;cases u;exact h n (aW _ p)
  |succ i=>exact abl q (λn p=>h n (af _ p)) (aj j)
def acF{P:bG}{p:Nat} :∀ {q:List cI} {l:List (En H)},(∀n∈Eg P q l,n<=p)->∀ {i:Nat} {t:cI} {d:En H},q[i]?=Z t->l[i]?=Z d->∀n∈d.weights P t,n<=p
 |[],_,_,_,_,_,p,_=>by simp at p
 |_::_,[],_,_,_,_,_,j=>by simp at j
 |u::q,x::l,h,i,t,d,p,j=>by
  rw[Eg] at h;cases i with
  |zero=>
   simp at j p;subst j p;exactλn q=>h n (aW _ q)
  |succ i=>exact acF (λn q=>h n (af _ q)) (aj p) (aj j)
def QK{a b:Ty}{q u:List aa}(N:Laid k l w a ρ h q)(c:∀p A,Fe l p A w->Laid k l w b p A u):Laid k l w (.pair a b) ρ h (q++u):=by have⟨U,p,y,O,f,q,L1,E,M,G,u⟩:=N;have⟨N,I,A,g,D,j,L2,e,d,b,V⟩:=c U p L1;exact⟨N,I,y++A,(O,g),fZ.le_trans f D,q.trans j,L2,(E.mono λ_ _ h=>h.mono D).app e,⟨y,A,Q,Ax L1.ok j M,d⟩,⟨G,b⟩,λv b=>by rcases kg.1 b with h|h;exact(u v h).mono j.aw;exact V v h⟩
def Wo{k:Option Nat}{e:Ty} :∀ {css:List (List aa)} {ρ:fZ} {h:az},Fe l ρ h w->(∀b∈css,∀j a,Fe l j a w->Laid k l w e j a b)->∃j a A E,ρ.le j/\ay aR h a/\Fe l j a w/\bo (bo (KR j)) A css/\bo (rep e a) A E/\(∀y∈E,Bd k e y)/\∀q∈A,∀v∈q,pE a.aw v
 |[],ρ,h,L,_=>⟨ρ,h,[],[],ρ.le_refl,.refl L.ok,L,.nil,.nil,λy p=>(by cases p),λq h=>(by cases h)⟩
 |b::css,ρ,h,L,H=>by
  obtain⟨a,a,j,V,c,G,L1,D,O,M,a⟩:=H b (iY ..) ρ h L;have⟨U,N,d,i,I,u,L2,E,A,b,L⟩:=Wo L1 (λf g=>H f (xV _ g));exact⟨U,N,j::d,V::i,fZ.le_trans c I,G.trans u,L2,.cons (D.mono λ_ _ h=>h.mono I) E,.cons (Ax L1.ok u O) A,λy p=>by
   rcases bn.1 p with rfl|p;exact M;exact b y p,λq D v G=>by
   rcases bn.1 D with rfl|h;exact(a v G).mono u.aw;exact L q h v G⟩
def PV{m a:Type}{R:m->a->Prop} :∀ {l:List (List m)} {m:List (List a)},bo (bo R) l m->bo R l.flatten m.flatten
 |_,_,.nil=>.nil
 |_,_,.cons h j=>aj (h.app (PV j))
def SD{j:Type}{sz:Nat} :∀ {l:List (List j)} {i:Nat} {c:List j},(∀c∈l,cz c=sz)->l[i]?=Z c->(l.flatten.drop (i*sz)).take sz=c
 |[],i,c,_,h=>by simp at h
 |x::l,0,c,j,h=>by cases h;have:=j x (iY ..);simp[List.take_append,this]
 |x::l,i+1,c,j,h=>by
  have p:=j x (iY ..);have a:l[i]?=Z c:=aj h
  rw[Gb,gB,Cy (by rw[p,xf];omega),pn,p,show(i+1)*sz-sz=i*sz by rw[xf];omega];exact SD (λc q=>j c (xV _ q)) a
def Vw{u:Type}{sz:Nat}(A:0<sz):∀ {l:List (List u)} {j:Nat} {c:u},(∀c∈l,cz c=sz)->l.flatten[j]?=Z c->∃x,l[j/sz]?=Z x/\x[j%sz]?=Z c
 |[],j,c,_,h=>by simp at h
 |x::l,j,c,u,h=>by have E:=u x (iY ..);rw[Gb] at h;by_cases q:j<sz;rw[MG ab] at h;exact⟨x,by rw[Nat.div_eq_of_lt q];rfl,by rw[Nat.mod_eq_of_lt q];exact h⟩;rw[OC ab,E] at h;have⟨y,D,p⟩:=Vw A (λc p=>u c (xV _ p)) h;refine⟨y,?_,?_⟩;rw[Nat.div_eq j sz,bK ⟨A,ab⟩];simpa using D;rw[Nat.mod_eq_sub_mod ab];exact p
def Wv{b q:Type}{f:b->Option q} :∀ {l:List b} {r:List q},l.mapM f=Z r->cz r=cz l/\∀(i:Nat)(a:b)(b:q),l[i]?=Z a->r[i]?=Z b->f a=Z b
 |[],r,h=>by simp at h;subst h;simp
 |a::l,r,h=>by
  rw[List.mapM_cons] at h;simp only[Option.bind_eq_bind,JT,Option.pure_def,oy] at h;obtain⟨b,b,A,j,rfl⟩:=h;have⟨q,u⟩:=Wv j;refine⟨au q,λi x y q p=>?_⟩;cases i with
  |zero=>simp at q p;subst q;subst p;exact b
  |succ i=>exact u i x y (aj q) (aj p)
def IJ{n:Nat}{b:List aa}(h:w.cells? 0 a n=Z b):cz b=n/\∀k c,b[k]?=Z c->w.cell? (a.add k)=Z c:=by unfold World.cells? at h;rw[bK (hQ _)] at h;have⟨b,p⟩:=Wv h;simp at b;refine⟨b,λk c j=>?_⟩;have q:=(cY.mp j).1;exact p k k c (by rw[List.getElem?_range ab]) j
def abH(h:w.cell? a=Z v):a.spot=K/\∃j b q,w.heap[a.block]?=Z (.cells j b q)/\j[a.off]?=Z v:=by unfold zo at h;split at h;rename_i j b q y;split at h;cases h;rename_i u;exact⟨by cases p:a.spot with|none=>rfl|some _=>rw[p] at u;simp at u,j,b,q,y,h⟩;cases h
def JR{p:Type}{R:Nat->p->Prop} :∀ {n:Nat},(∀i,i<n->∃x,R i x)->∃l:List p,cz l=n/\∀i x,l[i]?=Z x->R i x
 |0,_=>⟨[],Q,J⟩
 |n+1,h=>by
  have⟨l,p,q⟩:=JR (n:=n) λi D=>h i ab;have⟨x,A⟩:=h n ab;refine⟨l++[x],au p,λi y j=>?_⟩;by_cases e:i<n;rw[MG ab] at j;exact q i y j
  .have u:=(cY.mp j).1;simp[p] at u;have:i=n:=ab
   subst this;rw[OC ab,p,rf] at j;cases j;exact A
def Kl{f:cI->Option Ty} :∀ {j:List Field} {b n:Nat} {T:Ty},px P f b j=Z (T,n)->b<=n
 |[],b,n,T,h=>by simp[px] at h;omega
 |x::j,b,n,T,h=>by unfold px at h;cases T:an x.offset b;rw[T] at h;cases h;rw[T] at h;simp only[jv] at h;rcases u:f x.type with _|a;rw[u] at h;cases h;rw[u] at h;dsimp only at h;cases u:an a.sz (P.cellsOf x.type);rw[u] at h;cases h;rw[u] at h;simp only[jv] at h;rcases p:px P f (b+a.sz) j with _|q;rw[p] at h;cases h;have⟨b,m⟩:=q;rw[p] at h;cases h;have:=Kl p;omega
def PT(a:Addr)(n:Nat):(a.add n).block=a.block:=by unfold OA;split<;>rfl
def abC(a:Addr)(n:Nat):(a.add n).off=a.off+n:=by unfold OA;split;rename_i h;rw[h];rfl;rfl
def QL(L:Fe l ρ h w):Laid k l w .unit ρ h []:=⟨ρ,h,[],(),ρ.le_refl,.refl L.ok,L,.nil,Q,trivial,λv j=>(by cases j)⟩
def Tn{k:Option Nat} :∀ {u:Nat} {t:cI} {T:Ty},tyOf P u t=Z T->∀ {n:Nat} {j:List aa} {x:En H×List zt} {ρ:fZ} {h:az},rk r P w 0 (λ_=>ck) o n t j=Z x->WB k P t x.1->Fe l ρ h w->(∃(k:Nat) (F:Array aa) (b:cI) (X:Nat×Nat),w.heap[k]?=Z (.cells F b X))->Laid k l w T ρ h j:=by
 intro u;induction u with
 |zero=>intro t T A;simp[tyOf] at A
 |succ u ih=>
  intro t T A n j x ρ h C hW L eV;unfold tyOf at A;split at A;rename_i f;cases A;obtain⟨b',rfl,_⟩:=DataW.trod_bool f C;exact⟨ρ,h,[dC b'],b',ρ.le_refl,.refl L.ok,L,.cons (.cell (.bool b')) .nil,Q,trivial,λv E=>by rw[bl.1 E];exact jZ Q⟩;rename_i x f;cases A;obtain⟨m,rfl,_⟩:=DataW.trod_int f C;exact⟨ρ,h,[.int x m],m,ρ.le_refl,.refl L.ok,L,.cons (.cell (.int x m)) .nil,Q,trivial,λv E=>by rw[bl.1 E];exact jZ Q⟩;rename_i f;cases A;obtain⟨s,rfl,_⟩:=DataW.trod_string f C;exact⟨ρ,h,[gX s],s,ρ.le_refl,.refl L.ok,L,.cons (.cell (.str s)) .nil,Q,trivial,λv E=>by rw[bl.1 E];exact jZ Q⟩
  .rename_i e f;split at A
   .rename_i a B;cases c:(c6 0 (P.bytesOf e)&&(an a.sz (P.cellsOf e)&&c6 0 a.sz));rw[c] at A;cases A
    .rw[c] at A;cases A;simp only[oD] at c;have M:0<P.bytesOf e:=by simpa [fa] using c.1
     have S:=AP c.2.1;have ZL:0<a.sz:=by simpa [fa] using c.2.2
     rcases DataW.trod_slice f C with⟨rfl,_⟩|⟨I,D,ZH,G,i,m,rfl,rfl,W,_,hlc,_,s,x,s,_⟩;exact⟨ρ,h,[dB K 0 0],[],ρ.le_refl,.refl L.ok,L,.cons (.cell (.gQ 0 0)) .nil,⟨_,Q,K,0,Q,jZ ⟨Q,jZ Q⟩⟩,⟨λ_ _=>hQ _,λy p=>by cases p⟩,λv E=>by rw[bl.1 E];exact jZ Q⟩
     .have⟨d,s⟩:=s rfl;rw[<-S] at x s;have hWs:∀d,k=Z d->D<=d/\∀n∈sK P e (G.map (·.1)),n<=d:=by
       intro d N;have q:∀n∈lW P t (.slice (G.map (·.1)) (i.map (·.1))),n<=d:=by have:=hW d N;rw[W] at this;exact this
       rw[lW,f] at q;simp only[AZ,bn,kg] at q;have g:=q _ (jZ Q);refine⟨?_,λn V=>q n (kd (jZ V))⟩;have h2:(cz G+cz i)*1<=(cz G+cz i)*P.bytesOf e:=Nat.mul_le_mul_left _ M;omega
      have M:∀i,i<D->∀y,G[i]?=Z y->WB k P e y.1:=by intro i _ y p d N;exact abl N (hWs d N).2 (i:=i) (d:=y.1) (au p) d N
      have one:∀i,i<ZH->∃V y,w.cells? 0 (I.add (i*a.sz)) a.sz=Z V/\rk r P w 0 (λ_=>ck) o m e V=Z y/\(i<D->WB k P e y.1):=by
       intro i U;have p:∃y,(w.cells? 0 (I.add (i*a.sz)) a.sz).bind (rk r P w 0 (λ_=>ck) o m e)=Z y/\(i<D->WB k P e y.1):=by by_cases fI:i<D;have g:=x i fI;have⟨y,p⟩:=aQ G i;rw[p] at g;exact⟨_,g,λG=>M i G y p⟩;have g:=s (i-D) ab;rw[show D+(i-D)=i by omega,jh ab] at g;exact⟨_,g,λG=>absurd G fI⟩
       have⟨y,p,G⟩:=p;rw[JT] at p;have⟨V,M,p⟩:=p;exact⟨V,y,M,p,G⟩
      by_cases x:ZH=0
      .subst x;have hl0:D=0:=ab
       subst hl0;have⟨x,F,b,X,z⟩:=eV;have⟨O,hle,MS,x,g'⟩:=L.add (acs:=[]) z (hQ _) (λz v E=>by simp at E) (λv E=>by cases E);exact⟨O,_,[dB (Z ⟨h.aw,0,K⟩) 0 0],[],hle,g',x,.cons (.cell (.slice MS ⟨.inr ⟨Q,Q⟩,jZ Q,fq _⟩)) .nil,⟨_,Q,_,0,Q,jZ ⟨Q,kd ⟨_,_,Q⟩⟩⟩,⟨λ_ _=>hQ _,λy p=>by cases p⟩,λv E=>by rw[bl.1 E];exact kd (kd ⟨_,_,_,_,Q,oU _⟩)⟩
      .have⟨c0,y0,aBM,_⟩:=one 0 ab;have⟨hl0,hg0⟩:=IJ aBM;have ag9:=hg0 0 (c0[0]'ab) (jh ab);have auv:(I.add (0*a.sz)).add 0=I:=by simp[OA]
       rw[auv] at ag9;obtain⟨hsp,F,b,X,hblk,b⟩:=abH ag9;have amS:I.off<=F.size:=qj (Array.getElem?_eq_some_iff.mp b).1;have had:I=⟨I.block,I.off,K⟩:=by cases I;simp at hsp;simp[hsp]
       have⟨css,F,K9⟩:=JR (n:=D) (R:=λi V=>w.cells? 0 (I.add (i*a.sz)) a.sz=Z V/\∃y,rk r P w 0 (λ_=>ck) o m e V=Z y/\WB k P e y.1) (λi U=>by have⟨V,y,g,h2,b⟩:=one i ab;exact⟨V,g,y,h2,b U⟩);have dL:∀b∈css,cz b=a.sz:=by intro b M;obtain⟨i,U,rfl⟩:=List.mem_iff_getElem.mp M;exact(IJ (K9 i _ (jh U)).1).1
       obtain⟨X,m1,X,ys,l1,g1,L1,k1,r1,b1,o1⟩:=Wo (k:=k) (e:=a) L (css:=css) (λb M O h' x=>by obtain⟨i,U,rfl⟩:=List.mem_iff_getElem.mp M;have⟨_,y,p,G⟩:=K9 i _ (jh U);exact ih B p G x eV);have abU:=PV k1;have⟨ρ2,l2,MS,L2,g2⟩:=L1.add (acs:=X.flatten) hblk amS (λz v E=>by
        have⟨b,M,hkr⟩:=abU.get E;obtain⟨V,hci,V⟩:=Vw ZL dL M;have auG:=(IJ (K9 _ _ hci).1).2 _ _ V;obtain⟨_,V,V,V,V,auU⟩:=abH auG;have auz:((I.add (z/a.sz*a.sz)).add (z%a.sz)).block=I.block:=by rw[PT,PT]
        have au7:((I.add (z/a.sz*a.sz)).add (z%a.sz)).off=I.off+(z/a.sz*a.sz)+z%a.sz:=by rw[abC,abC]
        rw[auz,hblk] at V;cases V;refine⟨b,?_,hkr⟩;rw[au7,IU,Nat.mul_comm,Nat.div_add_mod] at auU;exact auU) (λv E=>by
        have⟨I,z,V⟩:=List.mem_flatten.1 E;exact o1 I z v V)
       have I:cz ys=D:=by rw[<-r1.length,k1.length,F]
       refine⟨ρ2,_,[dB (Z ⟨m1.aw,0,K⟩) D ZH],ys,fZ.le_trans l1 l2,g1.trans g2,L2,.cons (.cell (.slice MS ⟨.inl had,jZ Q,hlc⟩)) .nil,⟨_,Q,_,ZH,by rw[I],kd ⟨m1.aw,0,X.flatten,ck,0,0,Q,by simp[az.new,Tr.bN],λi y p=>?_⟩⟩,⟨λd N=>by rw[I];exact(hWs d N).1,b1⟩,λv E=>by rw[bl.1 E];exact kd (kd ⟨_,_,_,_,Q,oU _⟩)⟩;have fI:=(cY.mp p).1;have E:i<cz X:=by rw[r1.length];exact fI
       obtain⟨I,D,I⟩:=r1.get (jh E);rw[p] at D;cases D;have V:∀b∈X,cz b=a.sz:=by intro b M;obtain⟨i,U,rfl⟩:=List.mem_iff_getElem.mp M;have⟨y,_,D⟩:=r1.get (jh U);exact Lq D
       have D:=SD V (jh E);rw[IV,D];exact⟨Lq I,Ax L1.ok g2 I⟩
   cases A
  .rename_i fs f;split at A
   .rename_i a m D;cases c:an m (P.cellsOf t);rw[c] at A;cases A;rw[c] at A;cases A;obtain⟨I,kf,rfl,W,F,yP,X⟩:=DataW.trod_struct f C;have V:∀(z:List Field)(b m:Nat)(T:Ty)(ρ:fZ)(h:az),(∀E∈z,∃y,rk r P w 0 (λ_=>ck) o kf E.type ((j.drop E.offset).take (P.cellsOf E.type))=Z y/\WB k P E.type y.1)->px P (tyOf P u) b z=Z (T,m)->m<=cz j->Fe l ρ h w->Laid k l w T ρ h ((j.drop b).take (m-b)):=by
     intro z;induction z with
     |nil=>
      intro b m T ρ h _ D _ L;simp only[px,oy,BM] at D;obtain⟨rfl,rfl⟩:=D;rw[rf,lH];exact QL L
     |cons E z ihf=>
      intro b m T ρ h p D hm L;unfold px at D;cases c:an E.offset b;rw[c] at D;cases D
      .rw[c] at D;simp only[jv] at D;have ak8:=AP c;rcases B:tyOf P u E.type with _|a
       rw[B] at D;cases D
       .rw[B] at D;dsimp only at D;cases M:an a.sz (P.cellsOf E.type);rw[M] at D;cases D
        .rw[M] at D;simp only[jv] at D;have S:=AP M;rcases s:px P (tyOf P u) (b+a.sz) z with _|u
         rw[s] at D;cases D;have⟨b',M⟩:=u;rw[s] at D;cases D;have hle:=Kl s;have⟨y,M,G⟩:=p E (iY ..);rw[ak8,<-S] at M;have z:(j.drop b).take (m-b)=(j.drop b).take a.sz++(j.drop (b+a.sz)).take (m-(b+a.sz)):=by rw[<-hJ,show m-b=a.sz+(m-(b+a.sz)) by omega,rA]
         rw[z];exact QK (ih B M G L eV) λO h' x=>ihf _ _ _ _ _ (λg' M=>p g' (xV _ M)) s hm x
    have:=V fs.toList 0 m T ρ h (λE D=>by
     obtain⟨i,U,rfl⟩:=List.mem_iff_getElem.mp D;have g:=X i (fs.toList[i]) J;have⟨y,p⟩:=aQ I i (by rw[yP];simpa using U);rw[p] at g;refine⟨_,g,λd N=>?_⟩;have q:∀n∈lW P t (.agg (I.map (·.1))),n<=d:=by have:=hW d N;rw[W] at this;exact this
     rw[lW,f] at q;exact acF q (i:=i) (by simp;exact⟨_,Array.getElem?_eq_getElem (aj U),J⟩) (au p)) D (by rw[F,AP c];exact fq _) L
    rw[AP c,<-F] at this;simpa using this
   cases A
  .rename_i m e f;split at A
   .rename_i a B;cases c:(an a.sz (P.cellsOf e)&&an (m*a.sz) (P.cellsOf t));rw[c] at A;cases A;rw[c] at A;cases A;simp only[oD] at c;have S:=AP c.1;have D:=AP c.2;obtain⟨I,kf,rfl,W,F,yP,X⟩:=DataW.trod_array f C;rw[<-S] at X;have V:∀(u b:Nat)(ρ:fZ)(h:az),b+u=m->Fe l ρ h w->Laid k l w (a.rep u) ρ h (j.drop (b*a.sz)):=by
     intro u;induction u with
     |zero=>
      intro b ρ h S L;rw[Cy (by rw[F,<-D];exact IX _ ab)];exact QL L
     |succ u u=>
      intro b ρ h S L;have g:=X b ab;have⟨y,p⟩:=aQ I b;rw[p] at g;have G:WB k P e y.1:=by
       intro d N;have q:∀n∈lW P t (.agg (I.map (·.1))),n<=d:=by have:=hW d N;rw[W] at this;exact this
       rw[lW,f] at q;exact abl N q (i:=b) (au p) d N
      have z:j.drop (b*a.sz)=(j.drop (b*a.sz)).take a.sz++j.drop ((b+1)*a.sz):=by rw[xf,Nat.one_mul,<-hJ,List.take_append_drop]
      rw[z];exact QK (ih B g G L eV) λO h' x=>u (b+1) O h' ab x
    have:=V m 0 ρ h ab L;simpa using this
   cases A
  cases A
end
end Go.AI
namespace Go.AI
variable{b:Bool}{op:kW}{t:Nat}
section
variable{F:Nat->Option dm}{R:Env->az->Prop}{e:Env}{h:az}{l:List cr}{d:Option Nat}{k:Nat}{m:List (cr×List Nat)}{a:List Nat}
def QZ{R:Env->az->Prop}(u:bY e t=.tuple #[]):GO F ⟨d,Z (t,b),op⟩ e h R↔R (ik e d (.tuple #[])) h:=by
 have q:wanted e (Z (t,b))=cd:=by simp[wanted,u]
 have a:∀n,dZ F (run F n) ⟨d,Z (t,b),op⟩ e h=Z (ik e d (.tuple #[]),h):=by intro n;unfold dZ;dsimp only;rw[q];rfl
 constructor;rintro⟨n,n,p,p,j⟩;rw[a] at p;cases p;exact j;intro j;exact⟨0,_,_,a 0,j⟩
@[simp ↓] def aH4(j:bY e t=.tuple #[]):bh F (⟨d,Z (t,b),op⟩::l) e h R↔bh F l (ik e d (.tuple #[])) h R:=by rw[vY,QZ j]
@[simp ↓] def aEq(j:bY e t=.tuple #[]):bS F k ((⟨d,Z (t,b),op⟩,a)::m) e h R↔(still (ik e d (.tuple #[])) h k a=ck/\bS F k m (ik e d (.tuple #[])) h R):=by rw[sf,QZ j]
end
end Go.AI
namespace Go.AI
open Go.ChangeShapes Go.WideShapes Go.ChangeAt
def On(agg:Bool)(a:List aa):aa:=bif agg then ix ⟨a⟩ else a.headD (.tuple #[])
def aggT(P:bG)(t:cI):Bool:=match P.underlying t with
 |some (.struct _)=>ck
 |some (.array _ _)=>ck
 |_=>cd
section
variable{H:Type}{i:cI×aa->H}{P:bG}{w:bQ}{c:Bool}{f:dH}
def VM(k:Option Nat)(f:dH)(w:bQ)(agg:Bool)(T:Ty)(b:fZ)(h:az)(v:aa):Prop:=
 ∃p a j y,b.le p/\ay aR h a/\Fe f p a w/\VR p (On agg j) v/\rep T a j y/\Bd k T y/\∀v∈j,pE a.aw v
def laidV_of{k:Option Nat}{d:Nat}{t:cI}{T:Ty}{E:Nat}{v:aa}{I:En H}{L:List zt}{G:fZ}{h:az}(u:tyOf P d t=Z T)(p:rK P w .any E t v)(E:DataW.Trod i P w 0 (λ_=>ck) c t v I L)(N:WB k P t I)(L:Fe f G h w)(V:∃(k:Nat) (M:Array aa) (q:cI) (I:Nat×Nat),w.heap[k]?=Z (.cells M q I)):VM k f w (aggT P t) T G h v:=by
 have⟨n,E⟩:=E;have⟨G,h,q,y,l,g,D,A,r⟩:=Tn u E N L V;refine⟨G,h,q,y,l,g,D,?_,r⟩;unfold On;have D:aggT P t=cd->(∀a,v≠ ix a)->VR G (bif aggT P t then ix ⟨q⟩ else q.headD (.tuple #[])) v:=by
  intro b q;have O:v.cells.toList=[v]:=by cases v<;>first|rfl|exact absurd rfl (q _)
  rw[O] at A;rw[b];cases A with
  |cons O q=>exact O.vr
 cases d with
 |zero=>simp[tyOf] at u
 |succ d=>
  unfold tyOf at u;split at u;rename_i j;obtain⟨d,rfl⟩:=okWide_bool j p;exact D (by simp[aggT,j]) (λ_ e=>by cases e);rename_i O j;obtain⟨d,rfl⟩:=okWide_int j p;exact D (by simp[aggT,j]) (λ_ e=>by cases e);rename_i j;obtain⟨d,rfl⟩:=okWide_string j p;exact D (by simp[aggT,j]) (λ_ e=>by cases e);rename_i e j;obtain⟨U,U,U,rfl⟩:=okWide_slice j p;exact D (by simp[aggT,j]) (λ_ e=>by cases e)
  .rename_i D j;simp only[rK,j] at p;obtain⟨a,rfl,_⟩:=p;have b:aggT P t=ck:=by simp[aggT,j]
   rw[b];have⟨D⟩:=a;exact .val (.agg A)
  .rename_i m e j;simp only[rK,j] at p;obtain⟨a,rfl,_⟩:=p;have b:aggT P t=ck:=by simp[aggT,j]
   rw[b];have⟨D⟩:=a;exact .val (.agg A)
  cases u
def lain_heap1{a:List aa}(G:∀v∈a,dw v=ck){w:bQ}(p:∃u A,w.heap[0]?=Z (.cells ⟨a⟩ u A)):Fe f (λb=>if b=0 then Z ⟨0,0,cz a,0,cz a⟩ else K) (Qw a) w:=by
 have⟨u,A,p⟩:=p;have q:∀b o,(Qw a).tr.get b=Z o->b=0/\o=.bZ a ck 0 0:=by
  intro b o h;cases b with
  |zero=>simp only[Qw,Tr.get,oy] at h;exact⟨Q,h.symm⟩
  |succ b=>
   simp only[Qw,Tr.get] at h;cases D:an (b%2) 0<;>rw[D] at h<;>simp at h
 have D:∀b,¬gh (Qw a) b:=by rintro b⟨o,y,E⟩;rw[(q b o y).2] at E;cases E
 refine⟨⟨λb o h=>?_,λb c r o s h=>?_⟩,D,⟨λb r h=>?_,λb r o h y=>?_,λb M r I o _ _ p=>absurd p (D b),λb o h=>?_⟩,λb o h=>?_⟩;rw[(q b o h).1];exact ur;have:=(q b _ h).2;cases this;exact fq _
 by_cases e:b=0;simp only[e,if_true,oy] at h;subst h;subst e;exact⟨ur,(Array.getElem?_eq_some_iff.mp p).1⟩;simp[e] at h;obtain⟨rfl,rfl⟩:=q b o y;simp only[if_true,oy] at h;subst h;exact⟨⟨a⟩,u,A,p,Q,Q,J,(λh=>by cases h),λj v u=>⟨v,aj u,.cell (kA (G v (cO u)))⟩⟩;rw[(q b o h).1];exact ur;exact⟨_,_,_,_,(q b o h).2,λv u=>jZ (Pf (G v u))⟩
end
end Go.AI
namespace Go.Proofs.YtdhnndleffachaaGreatDoor
open Go.AI
noncomputable def funcAt(f:Nat):Option G6:=Tryz.prog.funcs[f]?
def adi:∀f a,funcAt f=Z a->Tryz.prog.funcs[f]?=Z a:=λ_ _ h=>h
noncomputable def FF0:Nat->Option dm:=Ut (SI Tryz.prog 1 funcAt) 218
noncomputable def FF1:Nat->Option dm:=Ox FF0 166 2
noncomputable def FF:Nat->Option dm:=Oy FF1 197 198
set_option maxRecDepth 100000
def und(l:List TypeInfo):TypeDesc->TypeDesc
 |.named _ u=>match l[u]? with
  |some i=>i.desc
  |none=>.named "" u
 |d=>d
def quick(l:List TypeInfo)(i:TypeInfo):TI:=
 ⟨und l i.desc,i.size,i.bytes,match i.zero with
  |some z=>z.cells.toList
  |none=>[],pP (und l i.desc)⟩
def tq1:List TI:=(by intro c _;exact c:∀ {c:List TI},Tryz.types.toList.map (quick Tryz.types.toList)=c->List TI) (by conv=>lhs;cbv)
def tq(n:Nat):Option TI:=tq1[n]?
def as6(n:Nat)(a:List Oper):List (cr×List Nat):=
 match Mn a 0 .nil with
 |none=>tg
 |some M=>match Ca a 0 .nil,a.map (cj tq 1 n a) with
  |A,p=>match places (an 3) p 0,places (λk=>c6 k 3) p 0 with
   |q,p=>match TK A q p with
    |bw=>match Q7 bw 0 .nil,Js a bw with
     |some p,Z j=>match HK A M p q (cj tq 1 n a) j 0 with
      |some u=>attach u (cj tq 1 n a) j 0
      |none=>tg
     |_,_=>tg
def cq(n:Nat):Code->List aD->aD×List aD
 |.region _ o ck,l=>(.draw (as6 n o.toList),l)
 |.region _ o cd,l=>(.ops (o.toList.map (cj tq 1 n o.toList)),l)
 |.seq a b,l=>match cq n a l with
  |(x,l)=>match cq n b l with
   |(y,l)=>(.seq x y,l)
 |.cond c a b,l=>match cq n a l with
  |(x,l)=>match cq n b l with
   |(y,l)=>(.cond c x y,l)
 |.rangeFunc f p a b,l=>match cq n a l with
  |(x,l)=>match cq n b l with
   |(y,l)=>(.Xe f p.toList x y,l)
 |.block i c,l=>match cq n c l with
  |(x,l)=>(.block i x,l)
 |.loop _,x::l=>(.loop x,l)
 |.scope c,l=>cq n c l
 |.exit i,l=>(.exit i,l)
 |.ret,l=>(.ret,l)
 |_,l=>(.skip,l)
def KL:Code->List Code
 |.seq a b=>KL a++KL b
 |.cond _ a b=>KL a++KL b
 |.rangeFunc _ _ a b=>KL a++KL b
 |.block _ c=>KL c
 |.scope c=>KL c
 |.loop c=>c::KL c
 |_=>[]
def Uy(f:G6)(k:Nat)(l:List aD):aD:=match f.body with
 |some c=>match(c::KL c)[k]? with
  |some c=>(cq f.ntmps c l).1
  |none=>.bad
 |none=>.bad
def XC:aD->List aD
 |.seq a b=>.seq a b::(XC a++XC b)
 |.cond c a b=>.cond c a b::(XC a++XC b)
 |.Xe f p a b=>.Xe f p a b::(XC a++XC b)
 |.block i c=>.block i c::XC c
 |c=>[c]
def cqs(f:G6)(k j:Nat)(l:List aD):aD:=match(XC (Uy f k l))[j]? with
 |some c=>c
 |none=>.bad
def Wt{a:Type}(_ _:a):Prop:=True
abbrev V0{x c:aD} :Prop:=x=c->Wt x c
@[simp] def L0(f:G6)(k:Nat){z:aD}(_:Wt (Uy f k []) z:=by refine(?f:V0) ?p;exactλ_=>trivial;conv=>lhs;cbv):aD:=z
abbrev V1{x c:aD->aD} :Prop:=(∀a,x a=c a)->Wt x c
@[simp] def L1(f:G6)(k:Nat)(a:aD){z:aD->aD}(_:Wt (λa=>Uy f k [a]) z:=by refine(?f:V1) λ_=> ?p;exactλ_=>trivial;conv=>lhs;cbv):aD:=z a
abbrev V2{x c:aD->aD->aD} :Prop:=(∀a b,x a b=c a b)->Wt x c
@[simp] def L2(f:G6)(k:Nat)(a b:aD){z:aD->aD->aD}(_:Wt (λa b=>Uy f k [a,b]) z:=by refine(?f:V2) λ_ _=> ?p;exactλ_=>trivial;conv=>lhs;cbv):aD:=z a b
abbrev V3{x c:aD->aD->aD->aD} :Prop:=(∀a b d,x a b d=c a b d)->Wt x c
@[simp] def L3(f:G6)(k:Nat)(a b d:aD){z:aD->aD->aD->aD}(_:Wt (λa b d=>Uy f k [a,b,d]) z:=by refine(?f:V3) λ_ _ _=> ?p;exactλ_=>trivial;conv=>lhs;cbv):aD:=z a b d
@[simp] def T0(f:G6)(k j:Nat){z:aD}(_:Wt (cqs f k j []) z:=by refine(?f:V0) ?p;exactλ_=>trivial;conv=>lhs;cbv):aD:=z
@[simp] def T1(f:G6)(k j:Nat)(a:aD){z:aD->aD}(_:Wt (λa=>cqs f k j [a]) z:=by refine(?f:V1) λ_=> ?p;exactλ_=>trivial;conv=>lhs;cbv):aD:=z a
@[simp] def T2(f:G6)(k j:Nat)(a b:aD){z:aD->aD->aD}(_:Wt (λa b=>cqs f k j [a,b]) z:=by refine(?f:V2) λ_ _=> ?p;exactλ_=>trivial;conv=>lhs;cbv):aD:=z a b
set_option maxRecDepth 100000
def j5:aD:=L0 Tryz.f11 2
def qJ:aD:=L1 Tryz.f11 1 j5
def tD:aD:=L1 Tryz.f11 0 qJ
theorem dr(n:Nat)l c(h:FF n=Z ⟨l,c,.no⟩:=by kernel_rfl):FF n=Z ⟨l,c,.no⟩:=h
def Cr:=dr 11 [.tmp 2] tD
def EX:aD:=L0 Tryz.f13 1
def JI:aD:=L1 Tryz.f13 0 EX
def U7:=dr 13 [.cell 2 (Z 2)] JI
def wY:aD:=L0 Tryz.f14 0
def FL:=dr 14 [.tmp 2] wY
def mE:aD:=L0 Tryz.f15 2
def mF:aD:=L0 Tryz.f15 1
def wL:aD:=L2 Tryz.f15 0 mF mE
def Fx:=dr 15 [.cell 2 (Z 2)] wL
def rJ:aD:=L0 Tryz.f16 1
def vb:aD:=L1 Tryz.f16 0 rJ
def Ed:=dr 16 [.tmp 2] vb
def tZ:aD:=L0 Tryz.f17 1
def wK:aD:=L1 Tryz.f17 0 tZ
def Fv:=dr 17 [.cell 2 (Z 4)] wK
def rE:aD:=L0 Tryz.f19 1
def uV:aD:=L1 Tryz.f19 0 rE
def D0:=dr 19 [.tmp 8] uV
def C4:aD:=L0 Tryz.f30 1
def G9:aD:=L1 Tryz.f30 0 C4
def R0:=dr 30 [.tmp 2] G9
def xN:aD:=L0 Tryz.f31 2
def xO:aD:=L0 Tryz.f31 1
def G2:aD:=L2 Tryz.f31 0 xO xN
def RY:=dr 31 [(.cell 4 (Z 2)),(.cell 5 (Z 2))] G2
def xD:aD:=L0 Tryz.f34 3
def xE:aD:=L0 Tryz.f34 2
def MF:aD:=T0 Tryz.f34 1 13
def agL:aD:=T0 Tryz.f34 1 35
def xF:aD:=(N_ 32 31 30 0 1 78 (G_ [m_ 33 31,a_ 34 3 29 31,L_ 35 3 34,⟨(Z 6),K,(.alloc [(gX ⟨⟨[]⟩⟩),(fc ft 0),(dB K 0 0)])⟩,m_ 5 33,s_ 3 6 35] (G_ [k_ 7 0] (J_ MF agL))))
def GS:aD:=L3 Tryz.f34 0 xF xE xD
def RQ:=dr 34 [.cell 2 (Z 2)] GS
def EH:aD:=L0 Tryz.f35 0
def Pa:=dr 35 [.tmp 2] EH
def GX:aD:=L0 Tryz.f36 0
def RT:=dr 36 [.cell 4 (Z 2)] GX
def mz:aD:=L0 Tryz.f37 1
def wH:aD:=L1 Tryz.f37 0 mz
def Fs:=dr 37 [.cell 2 (Z 4)] wH
def mA:aD:=L0 Tryz.f38 4
def mB:aD:=L0 Tryz.f38 3
def mC:aD:=L1 Tryz.f38 2 mB
def mD:aD:=L2 Tryz.f38 1 mC mA
def wI:aD:=L1 Tryz.f38 0 mD
def Ft:=dr 38 [.cell 4 (Z 4)] wI
def rH:aD:=L0 Tryz.f39 1
def u7:aD:=L1 Tryz.f39 0 rH
def Ea:=dr 39 [.tmp 2] u7
def rM:aD:=L0 Tryz.f40 1
def vd:aD:=L1 Tryz.f40 0 rM
def Ee:=dr 40 [.tmp 2] vd
def u0:aD:=L0 Tryz.f41 0
def D9:=dr 41 [.cell 2 (Z 4)] u0
def j6:aD:=L0 Tryz.f42 4
def j7:aD:=L0 Tryz.f42 3
def j8:aD:=L1 Tryz.f42 2 j7
def j9:aD:=L1 Tryz.f42 1 j8
def tE:aD:=L2 Tryz.f42 0 j9 j6
def Cs:=dr 42 [.cell 4 (Z 4)] tE
def va:aD:=L0 Tryz.f43 0
def Ec:=dr 43 [.tmp 4] va
def wM:aD:=L0 Tryz.f44 0
def Fy:=dr 44 [.tmp 2] wM
def uZ:aD:=L0 Tryz.f45 0
def D8:=dr 45 [.tmp 2] uZ
def vi:aD:=L0 Tryz.f46 0
def Ej:=dr 46 [.cell 4 (Z 2)] vi
def rR:aD:=L0 Tryz.f47 1
def vj:aD:=L1 Tryz.f47 0 rR
def Ek:=dr 47 [.tmp 4] vj
set_option maxRecDepth 100000
def rF:aD:=L0 Tryz.f63 1
def uW:aD:=L1 Tryz.f63 0 rF
def D3:=dr 63 [.tmp 4] uW
def nJ:aD:=L0 Tryz.f66 0
def nO:=dr 66 [.tmp 2] nJ
def AO:aD:=L0 Tryz.f67 0
def qu:=dr 67 [.tmp 2] AO
def qo:aD:=L0 Tryz.f68 0
def qt:=dr 68 [.tmp 2] qo
def xK:aD:=L0 Tryz.f69 3
def xL:aD:=L0 Tryz.f69 2
def xM:aD:=L2 Tryz.f69 1 xL xK
def G1:aD:=L1 Tryz.f69 0 xM
def RX:=dr 69 [.cell 2 (Z 4)] G1
def BA:aD:=L0 Tryz.f70 1
def ED:aD:=L1 Tryz.f70 0 BA
def O6:=dr 70 [.tmp 2] ED
def mW:aD:=L0 Tryz.f72 1
def oM:aD:=L1 Tryz.f72 0 mW
def pa:=dr 72 [.tmp 4] oM
def Cg:aD:=L0 Tryz.f76 0
def LY:=dr 76 [.tmp 4] Cg
def JJ:aD:=L0 Tryz.f77 0
def U8:=dr 77 [.cell 2 (Z 4)] JJ
def EV:aD:=L0 Tryz.f78 1
def JE:aD:=L1 Tryz.f78 0 EV
def U3:=dr 78 [.tmp 2] JE
def jn:aD:=L0 Tryz.f79 0
def qR:=dr 79 [.tmp 4] jn
def EA:aD:=L0 Tryz.f80 0
def OY:=dr 80 [.tmp 6] EA
def rD:aD:=L0 Tryz.f81 1
def uM:aD:=L1 Tryz.f81 0 rD
def DT:=dr 81 [.tmp 4] uM
def kG:aD:=L0 Tryz.f82 4
def kH:aD:=L0 Tryz.f82 3
def kI:aD:=L2 Tryz.f82 2 kH kG
def kJ:aD:=L0 Tryz.f82 1
def uL:aD:=L2 Tryz.f82 0 kJ kI
def DR:=dr 82 [.tmp 2] uL
def gU:aD:=L0 Tryz.f83 1
def ig:aD:=L1 Tryz.f83 0 gU
def nQ:=dr 83 [.tmp 4] ig
def Ce:aD:=L0 Tryz.f84 0
def LW:=dr 84 [.tmp 2] Ce
def xH:aD:=L0 Tryz.f85 4
def mr:aD:=L1 Tryz.f85 3 xH
def xI:aD:=L1 Tryz.f85 2 mr
def xJ:aD:=L0 Tryz.f85 1
def GZ:aD:=L2 Tryz.f85 0 xJ xI
def RV:=dr 85 [.tmp 2] GZ
def kx:aD:=L0 Tryz.f86 1
def lg:aD:=L1 Tryz.f86 0 kx
def gI:=dr 86 [.tmp 4] lg
def G8:aD:=L0 Tryz.f87 0
def RZ:=dr 87 [.tmp 2] G8
def j2:aD:=L0 Tryz.f88 4
def j3:aD:=L0 Tryz.f88 3
def qH:aD:=L2 Tryz.f88 2 j3 j2
def j4:aD:=L0 Tryz.f88 1
def tC:aD:=L2 Tryz.f88 0 j4 qH
def Cq:=dr 88 [.tmp 2] tC
def mu:aD:=L0 Tryz.f89 4
def mw:aD:=L0 Tryz.f89 3
def my:aD:=L1 Tryz.f89 2 mw
def tX:aD:=L2 Tryz.f89 1 my mu
def wG:aD:=L1 Tryz.f89 0 tX
def Fq:=dr 89 [.cell 2 K] wG
def kR:aD:=L0 Tryz.f90 2
def kS:aD:=L0 Tryz.f90 1
def uX:aD:=L2 Tryz.f90 0 kS kR
def D4:=dr 90 [.cell 2 (Z 6)] uX
def rG:aD:=L0 Tryz.f91 1
def uY:aD:=L1 Tryz.f91 0 rG
def D7:=dr 91 [.tmp 6] uY
def rI:aD:=L0 Tryz.f92 1
def u9:aD:=L1 Tryz.f92 0 rI
def Eb:=dr 92 [.tmp 4] u9
def ot:aD:=L0 Tryz.f93 2
def vw:aD:=L1 Tryz.f93 1 ot
def yA:aD:=L1 Tryz.f93 0 vw
def Hi:=dr 93 [.tmp 4] yA
def ua:aD:=L0 Tryz.f94 1
def wN:aD:=L1 Tryz.f94 0 ua
def Fz:=dr 94 [(.tmp 8),(.tmp 9)] wN
def n9:aD:=L0 Tryz.f95 6
def oe:aD:=L1 Tryz.f95 5 n9
def oh:aD:=L0 Tryz.f95 4
def oi:aD:=L0 Tryz.f95 3
def om:aD:=L2 Tryz.f95 2 oi oh
def oq:aD:=L0 Tryz.f95 1
def yz:aD:=L3 Tryz.f95 0 oq om oe
def Hh:=dr 95 [.tmp 2] yz
set_option maxRecDepth 100000
def jI:aD:=L0 Tryz.f96 5
def jJ:aD:=L1 Tryz.f96 4 jI
def jK:aD:=L0 Tryz.f96 3
def jL:aD:=L1 Tryz.f96 2 jK
def jM:aD:=L2 Tryz.f96 1 jL jJ
def rh:aD:=L1 Tryz.f96 0 jM
def BI:=dr 96 [.cell 4 (Z 4)] rh
def tY:aD:=L0 Tryz.f97 1
def wJ:aD:=L1 Tryz.f97 0 tY
def Fu:=dr 97 [.tmp 2] wJ
def qd:aD:=L0 Tryz.f98 1
def rm:aD:=L1 Tryz.f98 0 qd
def BK:=dr 98 [.tmp 4] rm
def ue:aD:=L0 Tryz.f99 1
def wV:aD:=L1 Tryz.f99 0 ue
def FI:=dr 99 [.tmp 4] wV
def uE:aD:=L0 Tryz.f101 2
def Bz:aD:=L1 Tryz.f101 1 uE
def EC:aD:=L1 Tryz.f101 0 Bz
def O1:=dr 101 [.tmp 2] EC
def vv:aD:=L0 Tryz.f104 1
def yy:aD:=L1 Tryz.f104 0 vv
def Hg:=dr 104 [.tmp 4] yy
def pA:aD:=L0 Tryz.f126 0
def pC:=dr 126 [.tmp 2] pA
def rV:aD:=L0 Tryz.f127 0
def r_:=dr 127 [.tmp 2] rV
def rZ:aD:=L0 Tryz.f128 0
def jA:=dr 128 [.tmp 2] rZ
def rU:aD:=L0 Tryz.f129 0
def r9:=dr 129 [.tmp 2] rU
def JF:aD:=L0 Tryz.f132 0
def U4:=dr 132 [.tmp 2] JF
def nZ:aD:=L0 Tryz.f133 1
def pB:aD:=L1 Tryz.f133 0 nZ
def pD:=dr 133 [.tmp 4] pB
def jH:aD:=L0 Tryz.f135 10
def abo:aD:=T1 Tryz.f135 9 11 jH
def abn:aD:=T1 Tryz.f135 9 23 jH
def mY:aD:=(N_ 147 146 145 16 17 190 (G_ [m_ 148 146,a_ 149 8 144 146,L_ 150 8 149,K_ 20 Qa,m_ 19 148,s_ 8 20 150] (J_ abo (J_ (G_ (U_ 161 7 20 [k_ 164 0]) (Q_ 18 jH)) (J_ (G_ (W_ 177 1 20 [C_ 179 .geq 178 0]) (I_ 179 (O_ (m_ 180 3::W_ 181 1 20 [F_ 183 194 [t_ 180,t_ 182],f_ 184 1 20,s_ 1 184 183])) .skip)) abn)))))
def sJ:aD:=L0 Tryz.f135 8
def mZ:aD:=L1 Tryz.f135 7 sJ
def abk:aD:=T2 Tryz.f135 6 20 mZ mY
def sO:aD:=(N_ 105 104 103 10 11 202 (G_ [m_ 106 104,a_ 107 6 102 104,L_ 108 6 107,K_ 14 w1_,m_ 13 106,s_ 6 14 108] (J_ (G_ (U_ 109 0 14 [k_ 112 0]) (Q_ 12 mZ)) (J_ (G_ (U_ 143 1 14 [k_ 146 0]) (Q_ 16 mY)) abk))))
def sQ:aD:=L0 Tryz.f135 5
def sZ:aD:=L1 Tryz.f135 4 sQ
def ta:aD:=L0 Tryz.f135 3
def tc:aD:=L2 Tryz.f135 2 ta sZ
def td:aD:=L0 Tryz.f135 1
def Cj:aD:=L3 Tryz.f135 0 td tc sO
def L8:=dr 135 [.cell 2 (Z 4)] Cj
def YM:aD:=T0 Tryz.f136 2 18
def R7:aD:=T0 Tryz.f136 2 19
def qI:aD:=(J_ (G_ (m_ 18 4::n_ 19 18::f_ 20 2 19::W_ 21 0 20 [Y_ 23 .eql 22 2]) (H_ 23 2)) (P_ 3 (G_ (m_ 24 4::n_ 25 24::f_ 26 2 25::W_ 27 3 26 [o_ 29 (.tP K 1 (t_ 28) (i_ 0)),l_ 30 29,m_ 5 30]) (G_ (R_ 31 3 1 5 6 [L_ 35 6 34,K_ 6 w1_,s_ 6 6 35]) (J_ (G_ (m_ 36 5::m_ 37 3::X_ 38 .eql 36 37::m_ 39 38::S_ 40 39 cd [.pb 0 (t_ 6),.load K (t_ 40),.IF (t_ 41),.bin .gtr [] (t_ 42) (i_ 0)] (o_ 44 (.pick (t_ 39) (b_ ck) (t_ 43))::m_ 45 44::S_ 46 45 cd [.load (Z 4) (t_ 1),.call (.func 101) [t_ 46],.mv (t_ 5),.tP K 1 (t_ 47) (t_ 48),.load K (t_ 49),.IF (t_ 50),.bin .gtr [] (t_ 51) (i_ 1)] [o_ 53 (.pick (t_ 45) (b_ ck) (t_ 52))])) (I_ 53 (.exit 2) .skip)) (J_ YM R7))))))
def yW:aD:=L1 Tryz.f136 1 qI
def Bv:aD:=L1 Tryz.f136 0 yW
def Kx:=dr 136 [.cell 2 (Z 4)] Bv
set_option maxRecDepth 100000
def zy:aD:=L0 Tryz.f137 6
def po:aD:=L0 Tryz.f137 5
def pw:aD:=L0 Tryz.f137 4
def zA:aD:=L2 Tryz.f137 3 pw po
def zB:aD:=L2 Tryz.f137 2 zA zy
def zC:aD:=L0 Tryz.f137 1
def JK:aD:=L2 Tryz.f137 0 zC zB
def U9:=dr 137 [.cell 4 (Z 4)] JK
def Bt:aD:=L0 Tryz.f138 0
def Kv:=dr 138 [.tmp 2] Bt
def jG:aD:=L0 Tryz.f139 1
def kj:aD:=L1 Tryz.f139 0 jG
def uv:=dr 139 [.tmp 4] kj
def wz:aD:=L0 Tryz.f140 0
def Fj:=dr 140 [.tmp 4] wz
def xG:aD:=L0 Tryz.f141 2
def CZ:aD:=L1 Tryz.f141 1 xG
def GV:aD:=L1 Tryz.f141 0 CZ
def RR:=dr 141 [.tmp 2] GV
def tW:aD:=L0 Tryz.f142 1
def wC:aD:=L1 Tryz.f142 0 tW
def Fl:=dr 142 [.tmp 6] wC
def Z0:List cr:=[⟨(Z 18),K,(.pb 0 (.tmp 5))⟩,⟨(Z 19),K,(.load K (.tmp 18))⟩,⟨(Z 20),K,(.un .not (.tmp 19))⟩,⟨(Z 21),K,(.mv (.tmp 20))⟩,⟨(Z 22),(Z (21,ck)),(.pb 1 (.tmp 3))⟩,⟨(Z 23),(Z (21,ck)),(.load K (.tmp 22))⟩,⟨(Z 24),(Z (21,ck)),(.bin .neq [1] (.tmp 23) (.const (fc ft (JW 0))))⟩,⟨(Z 25),K,(.pick (.tmp 21) (.tmp 24) (.const (dC cd)))⟩,⟨(Z 26),K,(.mv (.tmp 25))⟩,⟨(Z 27),(Z (26,cd)),(.pb 1 (.tmp 5))⟩,⟨(Z 28),(Z (26,cd)),(.load K (.tmp 27))⟩,⟨(Z 29),(Z (26,cd)),(.un .not (.tmp 28))⟩,⟨(Z 30),(Z (26,cd)),(.mv (.tmp 29))⟩,⟨(Z 31),(Z (30,ck)),(.pb 2 (.tmp 3))⟩,⟨(Z 32),(Z (30,ck)),(.load (Z 2) (.tmp 31))⟩,⟨(Z 33),(Z (30,ck)),(.build [(dC cd),(fc ft 0)] [])⟩,⟨(Z 34),(Z (30,ck)),(.bin .neq [9,0,1] (.tmp 32) (.tmp 33))⟩,⟨(Z 35),(Z (26,cd)),(.pick (.tmp 30) (.tmp 34) (.const (dC cd)))⟩,⟨(Z 36),K,(.pick (.tmp 26) (.const (dC ck)) (.tmp 35))⟩,⟨(Z 37),K,(.mv (.tmp 36))⟩,⟨(Z 38),(Z (37,cd)),(.pb 2 (.tmp 5))⟩,⟨(Z 39),(Z (37,cd)),(.load K (.tmp 38))⟩,⟨(Z 40),(Z (37,cd)),(.un .not (.tmp 39))⟩,⟨(Z 41),(Z (37,cd)),(.mv (.tmp 40))⟩,⟨(Z 42),(Z (41,ck)),(.pb 4 (.tmp 3))⟩,⟨(Z 43),(Z (41,ck)),(.load (Z 2) (.tmp 42))⟩,⟨(Z 44),(Z (41,ck)),(.build [(dC cd),(fc ft 0)] [])⟩,⟨(Z 45),(Z (41,ck)),(.bin .neq [9,0,1] (.tmp 43) (.tmp 44))⟩,⟨(Z 46),(Z (37,cd)),(.pick (.tmp 41) (.tmp 45) (.const (dC cd)))⟩,⟨(Z 47),K,(.pick (.tmp 37) (.const (dC ck)) (.tmp 46))⟩,⟨(Z 48),K,(.mv (.tmp 47))⟩,⟨(Z 49),(Z (48,cd)),(.load K (.tmp 6))⟩,⟨(Z 50),(Z (48,cd)),(.un .not (.tmp 49))⟩,⟨(Z 51),(Z (48,cd)),(.mv (.tmp 50))⟩,⟨(Z 52),(Z (51,ck)),(.pb 6 (.tmp 3))⟩,⟨(Z 53),(Z (51,ck)),(.load K (.tmp 52))⟩,⟨(Z 54),(Z (51,ck)),(.bin .neq [1] (.tmp 53) (.const (fc ft 0)))⟩,⟨(Z 55),(Z (51,ck)),(.mv (.tmp 54))⟩,⟨(Z 56),(Z (55,cd)),(.pb 7 (.tmp 3))⟩,⟨(Z 57),(Z (55,cd)),(.load K (.tmp 56))⟩,⟨(Z 58),(Z (55,cd)),(.IF (.tmp 57))⟩,⟨(Z 59),(Z (55,cd)),(.bin .gtr [] (.tmp 58) (.const (fc ft 0)))⟩,⟨(Z 60),(Z (51,ck)),(.pick (.tmp 55) (.const (dC ck)) (.tmp 59))⟩,⟨(Z 61),(Z (48,cd)),(.pick (.tmp 51) (.tmp 60) (.const (dC cd)))⟩,⟨(Z 62),K,(.pick (.tmp 48) (.const (dC ck)) (.tmp 61))⟩]
def Th:aD:=T0 Tryz.f143 0 22
def wB:aD:=(G_ [x_ 2 0,x_ 3 1,k_ 4 0] (J_ (G_ (W_ 8 0 3 [F_ 10 80 [t_ 9,(i_ 1),(i_ 22)],o_ 11 (.un .not (t_ 10))]) (I_ 11 (G_ [k_ 4 4] .ret) .skip)) (G_ (W_ 12 0 3 [F_ 14 193 [t_ 13],o_ 5 (.alloc [(dC cd),(dC cd),(dC cd)]),s_ 3 5 14]) (G_ (W_ 15 0 3 [Y_ 17 .eql 16 20,o_ 6 (.alloc [(dC cd)]),s_ 1 6 17]) (J_ (J_ (.ops Z0) (I_ 62 (G_ [k_ 4 5] .ret) .skip)) Th)))))
def Fk:=dr 143 [.tmp 4] wB
def yk:aD:=L0 Tryz.f144 1
def zQ:aD:=L1 Tryz.f144 0 yk
def pU:=dr 144 [.tmp 4] zQ
def HY:aD:=L0 Tryz.f145 1
def LO:aD:=L1 Tryz.f145 0 HY
def YK:=dr 145 [.tmp 8] LO
def Bu:aD:=L0 Tryz.f146 0
def Kw:=dr 146 [(.tmp 4),(.tmp 5)] Bu
def Cf:aD:=L0 Tryz.f147 0
def LX:=dr 147 [] Cf
def nj:aD:=L0 Tryz.f148 0
def x5:=dr 148 [.tmp 2] nj
def uU:aD:=L0 Tryz.f149 0
def DZ:=dr 149 [.tmp 8] uU
def uT:aD:=L0 Tryz.f150 0
def DY:=dr 150 [.tmp 8] uT
def wO:aD:=L0 Tryz.f151 0
def FA:=dr 151 [.tmp 4] wO
def qc:aD:=L0 Tryz.f152 1
def rj:aD:=L1 Tryz.f152 0 qc
def BJ:=dr 152 [.tmp 4] rj
def ve:aD:=L0 Tryz.f153 0
def Ef:=dr 153 [.cell 4 (Z 2)] ve
def uf:aD:=L0 Tryz.f154 1
def wW:aD:=L1 Tryz.f154 0 uf
def FK:=dr 154 [.tmp 4] wW
def kT:aD:=L0 Tryz.f155 2
def kU:aD:=L0 Tryz.f155 1
def vh:aD:=L2 Tryz.f155 0 kU kT
def Ei:=dr 155 [.tmp 4] vh
def pg:aD:=L0 Tryz.f162 1
def qp:aD:=L1 Tryz.f162 0 pg
def AS:=dr 162 [.tmp 4] qp
def qT:FF 166=Z ⟨[],.bad,.run (L6 2) λ_ _ _ _=>Rg⟩:=by kernel_rfl
def jo:aD:=L0 Tryz.f167 0
def qS:=dr 167 [.tmp 6] jo
def uD:aD:=L0 Tryz.f192 1
def Ez:aD:=L1 Tryz.f192 0 uD
def OX:=dr 192 [] Ez
def Ey:aD:=L0 Tryz.f193 0
def OW:=dr 193 [.cell 2 (Z 3)] Ey
def yx:aD:=L0 Tryz.f194 0
def Hf:=dr 194 [.tmp 4] yx
def zR:aD:=L0 Tryz.f195 0
def IG:=dr 195 [.cell 4 (Z 2)] zR
def TQ:aD:=T0 Tryz.f196 3 12
def uG:aD:=(N_ 70 69 68 4 5 100 (G_ [m_ 71 69,a_ 72 2 67 69,L_ 73 2 72,o_ 14 (.alloc [(fc ft 0),(dB K 0 0)]),m_ 13 71,s_ 2 14 73] (G_ (R_ 74 1 14 9 2 [L_ 78 2 77,o_ 15 (.alloc [(dC cd),(fc ft 0)]),s_ 2 15 78]) TQ)))
def uH:aD:=L0 Tryz.f196 2
def BB:aD:=L2 Tryz.f196 1 uH uG
def EI:aD:=L1 Tryz.f196 0 BB
def Pc:=dr 196 [] EI
set_option maxRecDepth 100000
def iN:aD:=L0 Tryz.f199 1
def oN:aD:=L1 Tryz.f199 0 iN
def zh:=dr 199 [] oN
def jS:aD:=L0 Tryz.f200 0
def tI:=dr 200 [.tmp 4] jS
def tw:aD:=L0 Tryz.f201 0
def Cl:=dr 201 [.tmp 3] tw
def wD:aD:=L0 Tryz.f202 0
def Fm:=dr 202 [.tmp 4] wD
def wy:aD:=L0 Tryz.f203 0
def Fi:=dr 203 [.tmp 4] wy
def C0:aD:=L0 Tryz.f204 1
def GW:aD:=L1 Tryz.f204 0 C0
def RS:=dr 204 [.tmp 2] GW
def tx:aD:=L0 Tryz.f205 0
def Cm:=dr 205 [.tmp 2] tx
def tz:aD:=L0 Tryz.f206 0
def Cn:=dr 206 [.tmp 2] tz
def qG:aD:=L0 Tryz.f207 1
def tA:aD:=L1 Tryz.f207 0 qG
def Co:=dr 207 [.tmp 3] tA
def yv:aD:=L0 Tryz.f209 0
def Hd:=dr 209 [(.tmp 4),(.tmp 5)] yv
def jU:aD:=L0 Tryz.f210 1
def kX:aD:=L1 Tryz.f210 0 jU
def vC:=dr 210 [] kX
def EW:aD:=L0 Tryz.f211 1
def JG:aD:=L1 Tryz.f211 0 EW
def U5:=dr 211 [.tmp 6] JG
def ug:aD:=L0 Tryz.f212 1
def wZ:aD:=L1 Tryz.f212 0 ug
def FM:=dr 212 [.tmp 4] wZ
def yD:aD:=L0 Tryz.f213 0
def Hl:=dr 213 [.tmp 4] yD
def kv:aD:=L0 Tryz.f246 1
def lZ:aD:=L1 Tryz.f246 0 kv
def xb:=dr 246 [.tmp 4] lZ
set_option maxRecDepth 100000
set_option maxRecDepth 100000
def iO:aD:=L0 Tryz.f7 1
def oZ:aD:=L1 Tryz.f7 0 iO
def zi:=dr 7 [.tmp 2] oZ
def JH:aD:=L0 Tryz.f25 0
def U6:=dr 25 [(.cell 2 (Z 2)),(.cell 3 (Z 2))] JH
def iA:aD:=L0 Tryz.f26 5
def aiN:aD:=T1 Tryz.f26 4 20 iA
def j_:aD:=(y_ 88 13 92 6 7 93 (U_ 89 1 8 []) (G_ (R_ 95 1 8 13 8 [L_ 99 8 98,K_ 14 Qa,s_ 8 14 99]) (G_ [L_ 100 3 5,f_ 101 2 14,L_ 102 2 101,F_ 103 58 [t_ 100,t_ 102],f_ 104 2 14,s_ 2 104 103] (G_ [L_ 105 3 5,f_ 106 4 14,L_ 107 2 106,F_ 108 58 [t_ 105,t_ 107],f_ 109 4 14,s_ 2 109 108] (J_ (G_ [k_ 15 0] (Q_ 8 iA)) (J_ aiN (I_ 145 (O_ [m_ 146 12,L_ 147 8 14,v_ 148 Qa 8 147,A_ 149 Qa 80 146 148,m_ 12 149]) .skip)))))))
def ka:aD:=L0 Tryz.f26 3
def kc:aD:=L1 Tryz.f26 2 ka
def ke:aD:=L2 Tryz.f26 1 kc j_
def tG:aD:=L1 Tryz.f26 0 ke
def Cu:=dr 26 [.cell 4 (Z 4)] tG
def EF:aD:=L0 Tryz.f55 0
def O8:=dr 55 [.cell 3 (Z 4)] EF
def uF:aD:=L0 Tryz.f56 1
def EE:aD:=L1 Tryz.f56 0 uF
def O7:=dr 56 [.cell 4 (Z 4)] EE
def ub:aD:=L0 Tryz.f57 1
def wP:aD:=L1 Tryz.f57 0 ub
def FB:=dr 57 [.cell 2 (Z 3)] wP
def yC:aD:=L0 Tryz.f58 0
def Hk:=dr 58 [.cell 4 (Z 2)] yC
def sx:aD:=L0 Tryz.f115 3
def sy:aD:=L1 Tryz.f115 2 sx
def sD:aD:=L0 Tryz.f115 1
def Ci:aD:=L2 Tryz.f115 0 sD sy
def L7:=dr 115 [.tmp 2] Ci
def iW:aD:=L0 Tryz.f116 4
def Oi:aD:=T1 Tryz.f116 3 18 iW
def kO:aD:=(N_ 58 57 56 4 5 112 (G_ [a_ 59 8 55 57,L_ 60 8 59,K_ 14 Qa,s_ 8 14 60] (J_ (V_ [l_ 61 3,f_ 62 2 14,L_ 63 2 62,l_ 65 3,f_ 66 4 14,L_ 67 2 66,(F_ 64 179 [t_ 61,t_ 63],[3,66]),f_ 69 2 14,F_ 68 179 [t_ 65,t_ 67],s_ 2 69 64,f_ 70 4 14,s_ 2 70 68]) (J_ (G_ (U_ 71 7 14 [k_ 74 0]) (Q_ 6 iW)) (J_ Oi (I_ 107 (O_ [m_ 108 12,L_ 109 8 14,v_ 110 Qa 8 109,A_ 111 Qa 80 108 110,m_ 12 111]) .skip))))))
def kP:aD:=L0 Tryz.f116 2
def kQ:aD:=L1 Tryz.f116 1 kP
def uQ:aD:=L2 Tryz.f116 0 kQ kO
def DX:=dr 116 [.cell 6 (Z 6)] uQ
def aiG:aD:=T0 Tryz.f117 6 9
def mG:aD:=(y_ 184 21 189 10 11 190 (f_ 185 2 8::U_ 186 3 185 []) (J_ aiG (I_ 210 (V_ (wD_ 211 2 5 (m_ 213 7::f_ 214 2 8::rD_ 215 3 214 21 1 [l_ 219 218,o_ 220 (.build [(fc ft 0),(fc ft 0)] [(0,(1,(t_ 213))),(1,(1,(t_ 219)))]),v_ 221 [(fc ft 0),(fc ft 0)] 2 220,A_ 222 [(fc ft 0),(fc ft 0)] 16 212 221,f_ 223 2 5,s_ 1 223 222]))) .skip)))
def mH:aD:=L0 Tryz.f117 5
def mI:aD:=L0 Tryz.f117 4
def mJ:aD:=L1 Tryz.f117 3 mI
def mK:aD:=L3 Tryz.f117 2 mJ mH mG
def mL:aD:=L0 Tryz.f117 1
def wQ:aD:=L2 Tryz.f117 0 mL mK
def FC:=dr 117 [.cell 4 (Z 3)] wQ
def rN:aD:=L0 Tryz.f118 2
def rQ:aD:=L0 Tryz.f118 1
def vg:aD:=L2 Tryz.f118 0 rQ rN
def Eh:=dr 118 [.tmp 4] vg
def uN:aD:=L0 Tryz.f176 0
def DU:=dr 176 [.tmp 4] uN
def aiY:aD:=T0 Tryz.f177 4 11
def kK:aD:=(N_ 91 90 89 6 7 121 (G_ [m_ 92 90,a_ 93 1 88 90,l_ 94 93,m_ 12 92,m_ 13 94] (J_ aiY (I_ 116 (O_ [m_ 117 0,m_ 118 1,m_ 119 13,F_ 120 227 [t_ 117,t_ 118,t_ 119]]) .skip))))
def kL:aD:=L0 Tryz.f177 3
def kM:aD:=L0 Tryz.f177 2
def kN:aD:=L1 Tryz.f177 1 kM
def uP:aD:=L3 Tryz.f177 0 kN kL kK
def DW:=dr 177 [] uP
def re:aD:=L0 Tryz.f178 0
def BH:=dr 178 [.tmp 3] re
def wE:aD:=L0 Tryz.f179 0
def Fo:=dr 179 [.cell 4 (Z 2)] wE
def qK:aD:=L0 Tryz.f180 1
def tH:aD:=L1 Tryz.f180 0 qK
def Cv:=dr 180 [.tmp 4] tH
def ud:aD:=L0 Tryz.f181 1
def wS:aD:=L1 Tryz.f181 0 ud
def FE:=dr 181 [.tmp 6] wS
def wU:aD:=L0 Tryz.f182 0
def FH:=dr 182 [(.tmp 4),(.tmp 5)] wU
def wR:aD:=L0 Tryz.f183 0
def FD:=dr 183 [(.tmp 8),(.tmp 9)] wR
def wT:aD:=L0 Tryz.f184 0
def FG:=dr 184 [(.tmp 4),(.tmp 5)] wT
def qZ:aD:=L0 Tryz.f223 0
def BG:=dr 223 [.tmp 4] qZ
def wF:aD:=L0 Tryz.f224 0
def Fp:=dr 224 [] wF
def yw:aD:=L0 Tryz.f225 0
def He:=dr 225 [.cell 4 (Z 2)] yw
def tB:aD:=L0 Tryz.f226 0
def Cp:=dr 226 [.cell 4 (Z 2)] tB
def uO:aD:=L0 Tryz.f227 0
def DV:=dr 227 [] uO
def tF:aD:=L0 Tryz.f228 0
def Ct:=dr 228 [(.tmp 6),(.tmp 7)] tF
def EG:aD:=L0 Tryz.f254 0
def O9:=dr 254 [.cell 4 (Z 2)] EG
def LN:aD:=L0 Tryz.f255 0
def YJ:=dr 255 [(.tmp 6),(.tmp 7)] LN
def GY:aD:=L0 Tryz.f276 0
def RU:=dr 276 [.tmp 2] GY
set_option maxRecDepth 100000
def ou:aD:=L0 Tryz.f49 3
def jy:aD:=L1 Tryz.f49 2 ou
def vx:aD:=L1 Tryz.f49 1 jy
def yB:aD:=L1 Tryz.f49 0 vx
def Hj:=dr 49 [.cell 2 (Z 4)] yB
def Av:aD:=L0 Tryz.f100 1
def Ch:aD:=L1 Tryz.f100 0 Av
def LZ:=dr 100 [] Ch
def Sr:aD:=T0 Tryz.f156 2 10
def xP:aD:=(N_ 49 48 47 2 3 70 (G_ [m_ 50 48,a_ 51 2 46 48,L_ 52 2 51,o_ 11 (.alloc [(fc ft 0),(dB K 0 0)]),m_ 10 50,s_ 2 11 52] Sr))
def C5:aD:=L1 Tryz.f156 1 xP
def Ha:aD:=L1 Tryz.f156 0 C5
def R3:=dr 156 [] Ha
end Go.Proofs.YtdhnndleffachaaGreatDoor

namespace Go.Proofs.YtdhnndleffachaaGreatDoor
open Go.AI
variable{C o S X i z t W sz:Nat}{s:bH->Env->az->Prop}{a aF l b c dst fn n op:Int}{m k:Bool}{e:Env}{f:aa}{h:az}{g:List Int}{α:Type}
def fM(h:az)(a b c:Int):aY FF 80 [fc ft a,fc ft b,fc ft c] h (λv d=>v=dC (decide (b<=a)&&decide (a<=c))/\d=h):=by refine aY.of OY ?_;unfold EA;by_cases d:b<=a<;>by_cases j:a<=c<;>simp[d,j]
def mf(h:az)(j:cu h)(a b:Int):aY FF 36 [fc ft a,fc ft b] h (λv c=>v=ix #[fc ft a,fc ft b]/\ay aR h c):=by
 refine aY.of RT ?_;unfold GX;simp
 repeat (first|exact .refl j|apply ay.new|refine ay.put ?_ J J)
def dX(op:Int):Bool×Bool×Bool:=
 if op=1\/op=16\/op=17\/op=18 then(ck,ck,cd) else
 if 2<=op/\op<=15 then(ck,ck,ck) else
 if op=19 then(cd,ck,ck) else
 if op=20\/op=21 then(ck,cd,cd) else
 if op=22 then(cd,ck,cd) else(cd,cd,cd)
def fP(h:¬a=b):(a==b)=cd:=aj h
def Ki(h:az)(j:cu h)(op:Int):aY FF 193 [fc ft op] h (λv u=>v=ix #[dC (dX op).1,dC (dX op).2.1,dC (dX op).2.2]/\ay aR h u):=by
 refine aY.of OW ?_;unfold Ey;by_cases u:op=1
 .subst u;simp[dX];repeat (first|exact .refl j|apply ay.new|refine ay.put ?_ J J)
 by_cases A:op=16
 .subst A;simp[dX];repeat (first|exact .refl j|apply ay.new|refine ay.put ?_ J J)
 by_cases y:op=17
 .subst y;simp[dX];repeat (first|exact .refl j|apply ay.new|refine ay.put ?_ J J)
 by_cases D:op=18
 .subst D;simp[dX];repeat (first|exact .refl j|apply ay.new|refine ay.put ?_ J J)
 by_cases q:op=19
 .subst q;simp[dX];repeat (first|exact .refl j|apply ay.new|refine ay.put ?_ J J)
 by_cases G:op=20
 .subst G;simp[dX];repeat (first|exact .refl j|apply ay.new|refine ay.put ?_ J J)
 by_cases E:op=21
 .subst E;simp[dX];repeat (first|exact .refl j|apply ay.new|refine ay.put ?_ J J)
 by_cases p:op=22
 .subst p;simp[dX];repeat (first|exact .refl j|apply ay.new|refine ay.put ?_ J J)
 have b:=fP u;have O:=fP A;have M:=fP y;have U:=fP D;have c:=fP q;have e:=fP G;have f:=fP E;have d:=fP p;by_cases I:2<=op
 .by_cases a:op<=15
  .have:dX op=(ck,ck,ck):=by unfold dX;rw[bM ab,bK ⟨I,a⟩]
   simp[b,O,M,U,u,A,y,D,I,a,this]
   repeat (first|exact .refl j|apply ay.new|refine ay.put ?_ J J)
  .have V:15<op:=ab
   have:dX op=(cd,cd,cd):=by unfold dX;rw[bM ab,bM ab,bM q,bM ab,bM p]
   simp[b,O,M,U,c,e,f,d,u,A,y,D,q,G,E,p,I,a,V,this]
   repeat (first|exact .refl j|apply ay.new|refine ay.put ?_ J J)
 .have N:op<2:=ab
  have:dX op=(cd,cd,cd):=by unfold dX;rw[bM ab,bM ab,bM q,bM ab,bM p]
  simp[b,O,M,U,c,e,f,d,u,A,y,D,q,G,E,p,I,N,this]
  repeat (first|exact .refl j|apply ay.new|refine ay.put ?_ J J)
def aM(op dst:Int)(m:Bool)(l:Int)(k:Bool)(c:Int)(fn:Int)(a:aa):List aa:=[fc ft op,fc ft dst,dC m,fc ft l,dC k,fc ft c,fc ft fn,a]
def gE(a op:Int)(m:Bool)(l:Int)(k:Bool)(c:Int):Bool:=
 if op=5\/op=6 then !k&&decide (c≠0) else if op=18 then !m&&(decide (0<=l)&&decide (l<=a-1)) else decide (1<=op)&&decide (op<=17)
def aaI(h:az)(j:cu h)(a op dst l c fn:Int)(m k:Bool)(I:Option Addr)(d E:Nat)(v:0<=a/\a<1000000000):aY FF 76 [fc ft a,ix ⟨aM op dst m l k c fn (dB I d E)⟩] h (λv d=>v=dC (gE a op m l k c)/\ay aR h d):=by
 refine aY.of LY ?_;unfold Cg;have A:=ch (a-1) ab ab;by_cases u:op=5
 subst u;cases k;by_cases b:c=0;subst b;simp[aM,gE];exact aO j _ _;simp[aM,gE,b];exact aO j _ _;simp[aM,gE];exact aO j _ _;by_cases q:op=6;subst q;cases k;by_cases b:c=0;subst b;simp[aM,gE];exact aO j _ _;simp[aM,gE,b];exact aO j _ _;simp[aM,gE];exact aO j _ _;have D:=fP u;have G:=fP q;by_cases p:op=18
 subst p;cases m;simp[aM,gE,A];refine bh.call (aj (fM _ l 0 (a-1))) ?_;rintro _ d⟨rfl,rfl⟩;simp;exact aO j _ _;simp[aM,gE];exact aO j _ _;have y:=fP p;simp[aM,D,G,y,u,q,p];refine bh.call (aj (fM _ op 1 17)) ?_;rintro _ d⟨rfl,rfl⟩;simp[gE,u,q,p];exact aO j _ _
structure SV where
 a:Option Addr
 l:Nat
 c:Nat
def SV.v(s:SV):aa:=dB s.a s.l s.c
@[simp] def SV.AA(s:SV):s.v=dB s.a s.l s.c:=rfl
def cM:SV:=⟨K,0,0⟩
structure GI where
 op:Int
 dst:Int
 a:Bool×Int
 b:Bool×Int
 fn:Int
 args:List (Bool×Int)
structure GP where
 dst:Int
 row:List (Bool×Int)
structure GB where
 bz:List GP
 list:List GI
 kind:Int
 on:Bool×Int
 to:List Int
structure GF where
 name:ByteArray
 params:Int
 aF:Int
 blocks:List GB
structure GG where
 name:ByteArray
 size:Int
 init:List Int
structure GU where
 globals:List GG
 funcs:List GF
def vR(c:List aa)(v:Bool×Int):Prop:=c=[dC v.1,fc ft v.2]
def nR(c:List aa)(n:Int):Prop:=c=[fc ft n]
def iR(h:az)(c:List aa)(x:GI):Prop:=∃A:SV,c=aM x.op x.dst x.a.1 x.a.2 x.b.1 x.b.2 x.fn A.v/\ad vR 2 h A.v x.args
def pR(h:az)(c:List aa)(p:GP):Prop:=∃A:SV,c=[fc ft p.dst,A.v]/\ad vR 2 h A.v p.row
def bR(h:az)(c:List aa)(b:GB):Prop:=∃P L T:SV,c=[P.v,L.v,fc ft b.kind,dC b.on.1,fc ft b.on.2,T.v]/\ad (pR h) 2 h P.v b.bz/\ad (iR h) 8 h L.v b.list/\ad nR 1 h T.v b.to
def fR(h:az)(c:List aa)(f:GF):Prop:=∃B:SV,c=[gX f.name,fc ft f.params,fc ft f.aF,B.v]/\ad (bR h) 6 h B.v f.blocks
def gR(h:az)(c:List aa)(g:GG):Prop:=∃I:SV,c=[gX g.name,fc ft g.size,I.v]/\ad nR 1 h I.v g.init
def uR(h:az)(G F:SV)(u:GU):Prop:=ad (gR h) 3 h G.v u.globals/\ad (fR h) 4 h F.v u.funcs
def iR.mono{h a:az}(j:cu h)(g:ay aR h a){c:List aa}{x:GI}(r:iR h c x):iR a c x:=by have⟨A,e,s⟩:=r;exact⟨A,e,s.mono j g λ_ _ h=>h⟩
def pR.mono{h a:az}(j:cu h)(g:ay aR h a){c:List aa}{x:GP}(r:pR h c x):pR a c x:=by have⟨A,e,s⟩:=r;exact⟨A,e,s.mono j g λ_ _ h=>h⟩
def bR.mono{h a:az}(j:cu h)(g:ay aR h a){c:List aa}{x:GB}(r:bR h c x):bR a c x:=by have⟨P,L,T,e,z,t,W⟩:=r;exact⟨P,L,T,e,z.mono j g λ_ _ r=>r.mono j g,t.mono j g λ_ _ r=>r.mono j g,W.mono j g λ_ _ h=>h⟩
def fR.mono{h a:az}(j:cu h)(g:ay aR h a){c:List aa}{x:GF}(r:fR h c x):fR a c x:=by have⟨A,e,s⟩:=r;exact⟨A,e,s.mono j g λ_ _ r=>r.mono j g⟩
def gR.mono{h a:az}(j:cu h)(g:ay aR h a){c:List aa}{x:GG}(r:gR h c x):gR a c x:=by have⟨A,e,s⟩:=r;exact⟨A,e,s.mono j g λ_ _ h=>h⟩
abbrev qP(h:az)(B:SV)(bs:List GB):Prop:=ad (bR h) 6 h B.v bs
def qP.mono{h a:az}{B:SV}{b:List GB}(s:qP h B b)(j:cu h)(g:ay aR h a):qP a B b:=ad.mono s j g λ_ _ r=>r.mono j g
def uR.mono{h a:az}{G F:SV}{u:GU}(r:uR h G F u)(j:cu h)(g:ay aR h a):uR a G F u:=
 ⟨r.1.mono j g λ_ _ r=>r.mono j g,r.2.mono j g λ_ _ r=>r.mono j g⟩
structure At{α:Type}(R:List aa->α->Prop)(sz:Nat)(h:az)(L:SV)(n:Nat)(i:Nat)(x:α)(b off:Nat)(c:List aa):Prop where
 a:L.a=Z ⟨b,off,K⟩
 l:L.l=n
 len:cz c=sz
 r:R c x
 cg:Old b h
 rd:∀h':az,h'.tr.get b=h.tr.get b->∀k m,k+m<=sz->cy h' b (off+i*sz+k) m=Z ((c.drop k).take m)
def ad.len{R:List aa->α->Prop}{L:SV}{b:List α}(s:ad R sz h L.v b):L.l=cz b:=by have⟨a,j,e,_⟩:=s;simp at e;exact e.2.1
def ad.at{α:Type}{R:List aa->α->Prop}{sz:Nat}{h:az}(y:cu h){L:SV}{f:List α}(s:ad R sz h L.v f){i:Nat}{x:α}(q:f[i]?=Z x):∃b d c,At R sz h L (cz f) i x b d c:=by
 have⟨a,E,e,s⟩:=s;simp at e;rcases s with⟨rfl,_⟩|⟨b,d,L,I,o,f,rfl,f,A⟩;simp at q
 .have⟨p,D⟩:=A i x q;refine⟨b,d,_,e.1,e.2.1,p,D,y.cg f,λx x k m G=>?_⟩;have u:=p;simp at u;have j:m=0\/d+i*sz+k+m<=cz L:=ab
  rcases j with rfl|j;unfold cy;rw[x,f];simp;rw[dx (x.trans f) j,List.drop_take,List.take_take,hJ];congr 2;omega
def dF:List GB->Nat
 |[]=>0
 |b::j=>cz b.bz+cz b.list+dF j
def xt{a:List GB}{j:Nat}{b:GB}(h:a[j]?=Z b):dF (a.take (j+1))=dF (a.take j)+(cz b.bz+cz b.list):=by
 induction a generalizing j with
 |nil=>simp at h
 |cons x a a=>
  cases j with
  |zero=>simp at h;subst h;simp[dF]
  |succ j=>
   simp at h;have:=a h;simp only[List.take_succ_cons,dF];omega
def Fits(a:List GB):Prop:=cz a<=140737488355328/\∀b∈a,cz b.bz<=140737488355328/\cz b.list<=140737488355328
def wrap_add(a b:Int):bd.i64.wrap (bd.i64.wrap a+b)=bd.i64.wrap (a+b):=by simp only[bd.wrap,bd.signed,bd.bits];simp;omega
def Nk:∀ {bs:List GB},Fits bs->dF bs<=cz bs*281474976710656
 |[],_=>by simp[dF]
 |b::bs,h=>by have:=Nk (bs:=bs) ⟨by have:=h.1;simp at this;omega,λb a=>h.2 b (.tail _ a)⟩;have:=h.2 b (.head _);simp only[dF,List.length_cons];omega
def Rw{a:List GB}(h:Fits a)(j:cz a<=40):bd.i64.wrap (dF a:Int)=(dF a:Int):=by have:=Nk h;exact ch _ ab ab
structure Small(u:GU):Prop where
 fs:cz u.funcs<=140737488355328
 bs:∀f∈u.funcs,Fits f.blocks
def ZA(f:GF):Prop:=cz f.blocks<=24/\dF f.blocks<=120
def ad.later{R:List aa->α->Prop}(p:cu h){L:SV}{a:List α}(s:ad R sz h L.v a){x:α}(j:a[i]?=Z x):∃b d c,L.a=Z ⟨b,d,K⟩/\i<cz a/\cz c=sz/\R c x/\Old b h/\∀a:az,ay aR h a->∀k m,k+m<=sz->cy a b (d+i*sz+k) m=Z ((c.drop k).take m):=by
 have⟨b,d,c,w⟩:=ad.at p s j;exact⟨b,d,c,w.a,(cY.mp j).1,w.len,w.r,w.cg,λa g=>w.rd a (g.got w.cg)⟩
def adA{h A:az}(S:cu h){G F:SV}{u:GU}{B:SV}{f:GF}(X:u.funcs[i]?=Z f)(r:∃b l,F.a=Z ⟨b,l,K⟩/\F.l=cz u.funcs/\∀p,ay aR h p->cy p b (l+i*4+3) 1=Z [B.v])(a:qP h B f.blocks)(d:Fits f.blocks){U:Nat}(H:eR A U [G.v,F.v] 0)(V:ay aR h A)(D:bU e 1 U)(I:bC e 3 i)(q:bC e 4 0)(M:bC e 5 0)(C:∀k p,ay aR A p->bU k 1 U->bC k 3 i->bC k 4 (bd.i64.wrap (dF f.blocks:Int))->s (.exit 2) k p):aK FF (.loop j5) e A s:=by
 have⟨b,l,w,T,k⟩:=r;have F:=ad.len a;refine aK.loop (λm e E=>∃j:Nat,m=cz f.blocks-j/\j<=cz f.blocks/\bU e 1 U/\bC e 3 i/\bC e 4 (bd.i64.wrap (dF (f.blocks.take j):Int))/\bC e 5 j/\ay aR A E) ?_ (n:=cz f.blocks)
  ⟨0,Q,ab,D,I,by simp[q,dF,ch],M,.refl V.ok⟩
 rintro m e E⟨j,rfl,g,D,I,q,M,y⟩;have p:=V.trans y;have z:=y.get V.ok H;have N:=k E p;have t:=(cY.mp X).1;unfold j5;by_cases P:j<cz f.blocks
 .have O:f.blocks[j]?=Z f.blocks[j]:=jh P;generalize f.blocks[j]=x at O;obtain⟨l,r,c,k,_,g,A,W,g⟩:=ad.later S a O;obtain⟨u,L,S,rfl,l,u,r⟩:=A;have o:=g E p 0 1 ag;have S:=g E p 1 1 ag;have X:=ad.len l;have r:=ad.len u;have v:=xt O;have n:=d.2 x (cO O);have H:=d.1;simp[-ax] at o S N;have⟨p,d⟩:∃p,p=j+1:=⟨_,Q⟩;have B:bd.i64.wrap ((j:Int)+1)=(p:Int):=by rw[ch _ ab ab];omega
  have l:=y.ok.cg z;have n:=y.ok.st _ _ _ _ _ z;have H:bd.i64.wrap ((dF (f.blocks.take j):Int)+(cz x.bz:Int)+(cz x.list:Int))=bd.i64.wrap ((dF (f.blocks.take p):Nat):Int):=by rw[d,v];congr 1;omega
  simp[D,I,q,M,aB z,aI,w,T,t,N,F,k,P,o,S,-ax,X,r,wrap_add,H,B];exact⟨cz f.blocks-p,ab,p,Q,ab,Q,Q,y.tick⟩
 .have:j=cz f.blocks:=ab
  subst this;rw[mO] at q;simp[-ax] at N;simp[D,I,q,M,aB z,w,T,t,N,F,-ax];exact C _ _ y (au D) (au I) (au q)
def Zy(A:cu h){G F:SV}{u:GU}(v:uR h G F u)(W:Small u):aY FF 11 [ix ⟨[G.v,F.v]⟩] h (λS r=>ay aR h r/\∃z:Bool,S=dC z/\(z=cd->cz u.funcs<=10/\∀f∈u.funcs,ZA f)):=by
 have p:=ad.len v.2;refine aY.of Cr ?_;unfold tD;simp;have N:=aO A [G.v,F.v] 0;refine aK.loop (λm e z=>∃i:Nat,m=cz u.funcs-i/\i<=cz u.funcs/\bU e 1 h.aw/\bC e 3 i/\ay aR h z/\z.tr.get h.aw=Z (.bZ [G.v,F.v] cd 0 0)/\∀f∈u.funcs.take i,ZA f) ?_ (n:=cz u.funcs)
  ⟨0,Q,ab,J,J,aj N,J,J⟩
 rintro m e z⟨i,rfl,X,M,d,D,H,x⟩;unfold qJ;have I:=H;simp at I;by_cases y:i<cz u.funcs
 .have F:u.funcs[i]?=Z u.funcs[i]:=jh y;have E:=Ik y;generalize u.funcs[i]=f at F E;have s:=W.bs f E;obtain⟨b,C,c,E,_,_,⟨B,rfl,U⟩,_,B⟩:=ad.later A v.2 F;simp[M,d,I,p,y];refine adA A F ⟨b,C,E,p,λr g=>B r g 3 1 ag⟩ U s (G:=G) (U:=h.aw) H D (au M) (au d) J J ?_;intro X j o l a N;have O:=D.trans o;have A:=o.get D.ok I;have V:=B j O 3 1 ag;have n:=ad.len U;simp[-ax] at V;have B:=A;have P:=W.fs;have U:=ch (i+1) ab ab;have w:¬24<cz f.blocks->¬120<dF f.blocks->∀f∈u.funcs.take (i+1),ZA f:=by intro t z W H;rw[kh,F] at H;rcases kg.1 H with h|h;exact x W h;simp at h;subst h;exact⟨ab,ab⟩
  by_cases r:24<cz f.blocks
  .have j:(24:Int)<cz f.blocks:=ab
   simp[l,a,N,aB A,E,p,y,V,n,j,-ax];exact O
  .have j:¬(24:Int)<cz f.blocks:=ab
   rw[Rw s ab] at N;by_cases X:120<dF f.blocks
   .have q:(120:Int)<dF f.blocks:=ab
    simp[l,a,N,aB A,E,p,y,V,n,j,q,-ax];exact O
   .have q:¬(120:Int)<dF f.blocks:=ab
    simp[l,a,N,aB A,E,p,y,V,n,j,q,U,-ax];exact⟨cz u.funcs-(i+1),ab,i+1,Q,ab,J,O,by rw[A,E,p],w r X⟩
 .have:i=cz u.funcs:=ab
  subst this;rw[mO] at x;by_cases k:10<cz u.funcs
  .have j:(10:Int)<cz u.funcs:=ab
   simp[M,d,I,p,j];exact D
  .have j:¬(10:Int)<cz u.funcs:=ab
   simp[M,d,I,p,j];exact⟨D,ab,x⟩
def QV(u:cu h)(G F:SV):aY FF 14 [ix ⟨[G.v,F.v]⟩] h (λv a=>v=dC (decide (G.l=0)&&decide (F.l=0))/\ay aR h a):=by
 refine aY.of FL ?_;unfold wY;have a:=aO u [G.v,F.v] 0;simp at a;by_cases j:G.l=0
 .by_cases p:F.l=0;simp[j,p];simpa [j,p] using a
  .have q:((F.l:Int)==0)=cd:=by simp;omega
   simp[j,p,q];simpa [j] using a
 .have y:((G.l:Int)==0)=cd:=by simp;omega
  simp[j,y];exact a
def bJ(c d:SV)(b:ByteArray)(params aF:Int)(a e:SV):List aa:=[c.v,d.v,gX b,fc ft params,fc ft aF,a.v,e.v]
def KS(aF:Int)(r:Bool)(n:Int):Int:=if r=ck/\¬(0<=n/\n<=aF-1) then 3 else 0
def Su(aF n:Int):Int:=if ¬(0<=n/\n<=aF-1) then 3 else 0
section
variable{gs fs blocks ah:SV}{name:ByteArray}{params aF:Int}
def Da(h:az)(y:cu h)(G:0<=aF/\aF<1000000)(r:Bool)(n:Int):aY FF 202 [ix ⟨bJ gs fs name params aF blocks ah⟩,ix ⟨[dC r,fc ft n]⟩] h (λv a=>v=fc ft (KS aF r n)/\ay aR h a):=by
 refine aY.of Fm ?_;unfold wD;have q:=ch (aF-1) ab ab;have u:=(aO y (bJ gs fs name params aF blocks ah) 0);have j:=u.new [dC r,fc ft n] 0;cases r
 simp[bJ,KS];simpa [bJ] using j
 .simp[bJ,q];refine bh.call (aj (fM _ n 0 (aF-1))) ?_;rintro _ a⟨rfl,A⟩;subst A;by_cases r:0<=n
  .by_cases p:n<=aF-1;simp[r,p,KS];simpa [bJ] using j
   .have E:aF-1<n:=ab
    simp[r,p,E,KS];simpa [bJ] using j
  .have D:n<0:=ab
   simp[r,D,KS];simpa [bJ] using j
def Mo(h:az)(u:cu h)(E:0<=aF/\aF<1000000)(n:Int):aY FF 203 [ix ⟨bJ gs fs name params aF blocks ah⟩,fc ft n] h (λv a=>v=fc ft (Su aF n)/\ay aR h a):=by
 refine aY.of Fi ?_;unfold wy;have q:=ch (aF-1) ab ab;have j:=(aO u (bJ gs fs name params aF blocks ah) 0);simp[bJ,q];refine bh.call (aj (fM _ n 0 (aF-1))) ?_;rintro _ a⟨rfl,y⟩;subst y;by_cases a:0<=n
 .by_cases p:n<=aF-1;simp[a,p,Su];simpa [bJ] using j
  .have D:aF-1<n:=ab
   simp[a,p,D,Su];simpa [bJ] using j
 .have A:n<0:=ab
  simp[a,A,Su];simpa [bJ] using j
def adL(p:cu h)(u:0<=aF/\aF<1000000){a:SV}(q:eR h C (bJ gs fs name params aF blocks ah) z)(j:eR h X (aM op dst m l k c fn a.v) t):aY FF 205 [eU (Z ⟨C,0,K⟩),eU (Z ⟨X,0,K⟩)] h (λv a=>v=fc ft (KS aF m l)/\ay aR h a):=by
 refine aY.of Cm ?_;unfold tx;simp[q,j,bJ,aM];refine bh.call (by simpa [bJ] using Da (gs:=gs) (fs:=fs) (name:=name) (params:=params) (blocks:=blocks) (ah:=ah) h p u m l) ?_;rintro _ a⟨rfl,g⟩;simp;exact g
def adM(p:cu h)(u:0<=aF/\aF<1000000){a:SV}(q:eR h C (bJ gs fs name params aF blocks ah) z)(j:eR h X (aM op dst m l k c fn a.v) t):aY FF 206 [eU (Z ⟨C,0,K⟩),eU (Z ⟨X,0,K⟩)] h (λv a=>v=fc ft (KS aF k c)/\ay aR h a):=by
 refine aY.of Cn ?_;unfold tz;simp[q,j,bJ,aM];refine bh.call (by simpa [bJ] using Da (gs:=gs) (fs:=fs) (name:=name) (params:=params) (blocks:=blocks) (ah:=ah) h p u k c) ?_;rintro _ a⟨rfl,g⟩;simp;exact g
end
def ways:List aa:=[fc ft 0,fc ft 0,fc ft 1,fc ft 2]
def IC(h:az):Prop:=∃j o s,h.tr.get 0=Z (.bZ ways j o s)
def IC.grow{h a:az}(w:IC h)(p:cu h)(g:ay aR h a):IC a:=by have⟨q,o,s,j⟩:=w;exact⟨q,o,s,g.get p j⟩
def MZ(a:cu h){T:SV}(O:ad nR 1 h T.v g)(p:cz g<140737488355329)(p:Int->Bool)(H:∀j n,ay aR h j->fh FF f [fc ft n] j (λv y=>v=dC (p n)/\ay aR j y)):aY FF 246 [T.v,f] h (λv y=>ay aR h y/\∃i:Int,v=fc ft i/\(0<=i↔ ∃n∈g,p n=ck)):=by
 have E:=ad.len O;refine aY.of xb ?_;unfold lZ;simp;refine aK.loop (λm e y=>∃j:Nat,m=cz g-j/\j<=cz g/\bY e 0=T.v/\bY e 1=f/\bC e 7 (cz g)/\bC e 8 j/\ay aR h y/\∀n∈g.take j,p n=cd) ?_ (n:=cz g)
  ⟨0,Q,ab,J,J,au E,J,.refl a,J⟩
 rintro m e y⟨j,rfl,T,D,I,G,A,q,v⟩;unfold kv;by_cases M:j<cz g
 .have N:g[j]?=Z g[j]:=jh M;have T:=Ik M;generalize g[j]=n at N T;obtain⟨b,U,c,U,_,_,rfl,_,u⟩:=ad.later a O N;have V:=u y q 0 1 ag;simp[-ax] at V;have O:=ch (j+1) ab ab;simp at D;simp[D,I,G,A,U,E,M,V,-ax];refine bh.fF (by simpa [I] using H y n q) ?_;rintro _ y⟨rfl,y⟩;cases u:p n
  simp[D,I,G,A,O];refine⟨cz g-(j+1),ab,j+1,Q,ab,⟨U,E⟩,J,q.trans y,?_⟩;intro U E;rw[kh,N] at E;rcases kg.1 E with h|h;exact v U h;simp at h;rw[h];exact u;simp;exact⟨q.trans y,n,T,u⟩
 .have:j=cz g:=ab
  subst this;rw[mO] at v;simp[G,A];exact⟨q,λn q=>v n q⟩
def yE(u:cu h){T:SV}(A:ad nR 1 h T.v g)(y:cz g<140737488355329)(p:Int->Bool)(H:∀b n,ay aR h b->fh FF f [fc ft n] b (λv a=>v=dC (p n)/\ay aR b a)):aY FF 200 [T.v,f] h (λv a=>v=dC (g.any p)/\ay aR h a):=by
 refine aY.of tI ?_;unfold jS;simp;refine bh.call (V:=λv a=>ay aR h a/\∃i:Int,v=fc ft i/\(0<=i↔ ∃n∈g,p n=ck)) (aj (MZ u A y p H)) ?_;rintro _ E⟨q,i,rfl,D⟩;have e:g.any p=decide (0<=i):=by rw[Bool.eq_iff_iff];simp[D]
 by_cases p:0<=i;simp[p,e];exact q
 .have j:i<0:=ab
  simp[p,j,e];exact q
section
variable{x B d F:SV}{w:ByteArray}{params aF:Int}
def W9(n:Nat)(t:Int):Prop:=1<=t/\t<=(n:Int)-1
def ada(q:cu h)(y:d.l<1000000)(p:eR h C (bJ x B w params aF d F) z)(t:Int):aY FF 201 [fc ft t,eU (Z ⟨C,0,K⟩)] h (λv a=>v=dC (!(decide (1<=t)&&decide (t<=(d.l:Int)-1)))/\ay aR h a):=by
 have j:=ch ((d.l:Int)-1) ab ab;refine aY.of Cl ?_;unfold tw;simp[p,bJ,j];refine bh.call (aj (fM h t 1 ((d.l:Int)-1))) ?_;rintro _ u⟨rfl,rfl⟩;simp;exact .refl q
structure UM(n:Nat)(aF:Int)(b:GB):Prop where
 kind:(b.kind=1/\b.to=[])\/(b.kind=2/\∃t,b.to=[t])\/(b.kind=3/\∃t u,b.to=[t,u]/\t≠u)
 to:∀t∈b.to,W9 n t
 on:b.on.1=ck->0<=b.on.2/\b.on.2<=aF-1
def IE(n:Nat)(a:List Int):Bool:=a.any λt=> !(decide (1<=t)&&decide (t<=(n:Int)-1))
def PY{n:Nat}{a:List Int}(h:IE n a=cd):∀t∈a,W9 n t:=by intro t j;unfold IE at h;rw[List.any_eq_false] at h;have:=h t j;simp at this;exact this
def DN{r:Bool}(h:KS aF r n=0):r=ck->0<=n/\n<=aF-1:=by intro q;unfold KS at h;split at h;cases h;rename_i p;by_cases j:0<=n/\n<=aF-1;exact j;exact absurd ⟨q,j⟩ p
def agv(O:cu h)(g:IC h)(U:0<=aF/\aF<1000000)(I:d.l<1000000){b:GB}(E:cz b.to<140737488355329){T:SV}(V:ad nR 1 h T.v b.to):aY FF 140 [ix ⟨bJ x B w params aF d F⟩,ix ⟨[fc ft b.kind,dC b.on.1,fc ft b.on.2,T.v]⟩] h (λv D=>ay aR h D/\∃c:Int,v=fc ft c/\(c=0->UM d.l aF b)):=by
 obtain⟨a,a,a,⟨r,n⟩,to⟩:=b;simp only at V E⊢;obtain⟨f,o,s,f⟩:=g;have g:0<h.aw:=O.wf _ _ f;have g:=ad.len V;refine aY.of Fj ?_;unfold wz;simp[bJ];refine bh.cut (λA=>ay aR h A/\A.tr.get h.aw=Z (.bZ (bJ x B w params aF d F) cd 0 0)/\A.tr.get (h.aw+1)=Z (.bZ [fc ft a,dC r,fc ft n,T.v] cd 0 0)) ?_ ?_
 exact⟨((ay.refl O).new _ _).new _ _,by simp[bJ],J⟩;rintro A⟨j,k,y⟩;have q:=j.get O f;simp[ways] at q;refine bh.call (aj (fM A a 1 3)) ?_;rintro _ f⟨rfl,f⟩;rw[f];have f:=k;simp[bJ] at f;simp at y;by_cases l:1<=a/\a<=3
 .have z:(decide (1<=a)&&decide (a<=3))=ck:=aj l
  have i:∀p,ay aR A p->aY FF 200 [T.v,.func (.func 201) #[] #[eU (Z ⟨h.aw,0,K⟩)]] p (λv D=>v=dC (IE d.l to)/\ay aR p D):=by intro p N;refine yE N.ok (V.mono O (j.trans N) λ_ _ h=>h) E _ λE n G=>?_;refine fh.func ?_;have:=ada G.ok I (G.get N.ok (N.get j.ok k (λh=>h))) n;simpa using this
  have k:∀p,ay aR A p->aY FF 202 [ix ⟨bJ x B w params aF d F⟩,ix ⟨[dC r,fc ft n]⟩] p (λv D=>v=fc ft (KS aF r n)/\ay aR p D):=λp N=>Da p N.ok U r n;have v:a=1\/a=2\/a=3:=ab
  rcases v with rfl|rfl|rfl
  .by_cases v:cz to=0;have D:to=[]:=List.length_eq_zero_iff.1 v;subst D;have D:T.l=0:=g;rw[D] at y;simp[y,q];refine bh.call (by simpa [D] using i (tick A) (bk j.ok)) ?_;rintro _ E⟨rfl,G⟩;have p:=(bk j.ok).trans G;have I:=p.get j.ok y;have U:=p.get j.ok f;simp[IE,I,U];refine bh.call (by simpa [bJ] using k (tick E) (p.trans (bk p.ok))) ?_;rintro _ m⟨rfl,N⟩;simp;exact⟨((j.trans p).trans (bk p.ok)).trans N,λh=>⟨jZ ⟨Q,Q⟩,J,DN h⟩⟩
   .have e:((T.l:Int) !=0)=ck:=by simp;omega
    simp[y,q,e];exact j.tick
  .by_cases v:cz to=1
   .obtain⟨t,rfl⟩:∃t,to=[t]:=List.length_eq_one_iff.1 v;have D:T.l=1:=g;rw[D] at y;simp[y,q];refine bh.call (by simpa [D] using i (tick A) (bk j.ok)) ?_;rintro _ E⟨rfl,G⟩;have p:=(bk j.ok).trans G;have I:=p.get j.ok y;have U:=p.get j.ok f;cases M:IE d.l [t]
    .by_cases u:r=cd/\n=0;obtain⟨rfl,rfl⟩:=u;simp[I,U];refine bh.call (by simpa [bJ] using k (tick E) (p.trans (bk p.ok))) ?_;rintro _ m⟨rfl,N⟩;simp;exact⟨((j.trans p).trans (bk p.ok)).trans N,λ_=>⟨kd (jZ ⟨Q,t,Q⟩),PY M,λh=>by cases h⟩⟩
     .have C:(r|| !(n==0))=ck:=by cases r;simp at u⊢;exact u;rfl
      simp[I,U,C];exact(j.trans p).tick
    simp;exact j.trans p
   .have e:((T.l:Int) !=1)=ck:=by simp;omega
    simp[y,q,e];exact j.tick
  .by_cases v:cz to=2
   .obtain⟨t,u,rfl⟩:∃t u,to=[t,u]:=by
     match to,v with
     |[t,u],_=>exact⟨t,u,Q⟩
    have D:T.l=2:=g;rw[D] at y;obtain⟨v,v,v,v,_,_,rfl,_,r⟩:=ad.later O V (i:=0) (x:=t) rfl;obtain⟨g,g,g,g,_,_,rfl,_,C⟩:=ad.later O V (i:=1) (x:=u) rfl;rw[v] at g y;cases g;simp[y,q];refine bh.call (by simpa [D,v] using i (tick A) (bk j.ok)) ?_;rintro _ E⟨rfl,G⟩;have p:=(bk j.ok).trans G;have I:=p.get j.ok y;have U:=p.get j.ok f;have G:=r E (j.trans p) 0 1 ag;have f:=C E (j.trans p) 0 1 ag;simp[-ax] at G f;cases M:IE d.l [t,u] with
    |true=>
     simp;exact j.trans p
    |false=>
     by_cases A:t=u;subst A;simp[aI,aB I,G,f,-ax];exact(j.trans p).tick
     .have C:(t==u)=cd:=aj A
      simp[aI,aB I,aB U,G,f,C,-ax];refine bh.call (by simpa [bJ] using k (tick E) (p.trans (bk p.ok))) ?_;rintro _ m⟨rfl,N⟩;simp;exact⟨((j.trans p).trans (bk p.ok)).trans N,λh=>⟨kd (kd ⟨Q,t,u,Q,A⟩),PY M,DN h⟩⟩
   .have e:((T.l:Int) !=2)=ck:=by simp;omega
    simp[y,q,e];exact j.tick
 .have z:(decide (1<=a)&&decide (a<=3))=cd:=aj l
  simp[z];exact j
end
def KG(h:az)(c:List aa)(l:List Int):Prop:=∃S:SV,c=[S.v]/\ad nR 1 h S.v l
def KG.mono{h a:az}(j:cu h)(g:ay aR h a){c:List aa}{x:List Int}(r:KG h c x):KG a c x:=by have⟨A,e,s⟩:=r;exact⟨A,e,s.mono j g λ_ _ h=>h⟩
def yp(aF:Int)(v:Bool×Int):Prop:=v.1=ck->0<=v.2/\v.2<=aF-1
def BV(aF:Int)(n:Int):Prop:=0<=n/\n<=aF-1
def Sw(h:Su aF n=0):BV aF n:=by unfold Su at h;split at h;cases h;rename_i j;unfold BV;omega
def tu(aF:Int)(l:List (Bool×Int)):Prop:=∀v∈l,yp aF v
def tu.nil(aF:Int):tu aF []:=λ_ h=>by simp at h
def tu.take{aF:Int}{l:List (Bool×Int)}{j:Nat}{v:Bool×Int}(h:tu aF (l.take j))(u:l[j]?=Z v)(q:yp aF v):tu aF (l.take (j+1)):=by intro n p;rw[kh,u] at p;rcases kg.1 p with a|a;exact h n a;simp at a;rw[a];exact q
def xy(h:¬a=b):(a !=b)=ck:=aj h
structure PO(aF:Int)(n:Nat)(p:GP):Prop where
 dst:BV aF p.dst
 len:cz p.row=n
 row:tu aF p.row
section
variable{gs fs blocks ah:SV}{name:ByteArray}{params aF:Int}
def aiw(O:cu h)(r:0<=aF/\aF<1000000){p:List (List Int)}(M:ad (KG h) 1 h ah.v p){l:List Int}(k:p[i]?=Z l){p:GP}(U:cz p.row<140737488355329){W:SV}(U:ad vR 2 h W.v p.row):aY FF 142 [ix ⟨bJ gs fs name params aF blocks ah⟩,fc ft i,ix ⟨[fc ft p.dst,W.v]⟩] h (λv a=>ay aR h a/\∃c:Int,v=fc ft c/\(c=0->i≠0/\PO aF (cz l) p)):=by
 have a:=ad.len U;have s:=ad.len M;refine aY.of Fl ?_;unfold wC;by_cases E:i=0
 subst E;simp[bJ];exact((ay.refl O).new _ _).new _ _;have f:((i:Int)==0)=cd:=by simp;omega
 obtain⟨x,x,x,x,w,_,⟨S,rfl,u⟩,B,B⟩:=ad.later O M k;have k:=ad.len u;simp[bJ,f,E];refine bh.cut (λE=>ay aR h E/\E.tr.get h.aw=Z (.bZ (bJ gs fs name params aF blocks ah) cd 0 0)/\E.tr.get (h.aw+1)=Z (.bZ [fc ft p.dst,W.v] cd 0 0)) ?_ ?_
 exact⟨((ay.refl O).new _ _).new _ _,by simp[bJ],J⟩;rintro E⟨M,k,f⟩;refine bh.call (by simpa [bJ] using Mo (gs:=gs) (fs:=fs) (name:=name) (params:=params) (blocks:=blocks) (ah:=ah) E M.ok r p.dst) ?_;rintro _ u⟨rfl,D⟩;have A:=M.trans D;have V:=D.get M.ok k;have E:=D.get M.ok f;by_cases D:Su aF p.dst=0
 .have k:=B u A 0 1 ag;simp[-ax] at k;simp[bJ] at V;simp at E;by_cases B:cz p.row=cz l
  .have f:((W.l:Int) !=(S.l:Int))=cd:=by simp;omega
   simp[D,aI,aB E,aB V,x,s,w,k,f,-ax];refine aK.loop (λm e N=>∃j:Nat,m=cz p.row-j/\j<=cz p.row/\bU e 3 h.aw/\bY e 31=W.v/\bC e 32 (cz p.row)/\bC e 33 j/\ay aR u N/\tu aF (p.row.take j)) ?_ (n:=cz p.row)
    ⟨0,Q,ab,J,J,au a,J,bk A.ok,.nil _⟩
   rintro m e N⟨j,rfl,u,t,u,q,y,M,g⟩;have G:=A.trans M;have I:=M.get A.ok V;unfold tW;by_cases n:j<cz p.row
   .have d:p.row[j]?=Z p.row[j]:=jh n;generalize p.row[j]=v at d;obtain⟨b,o,c,o,_,_,rfl,z,z⟩:=ad.later O U d;have U:=z N G 0 2 ag;simp[-ax] at U;have z:=ch (j+1) ab ab;have O:=G.ok.cg I;simp at u;simp[t,u,q,y,o,a,n,U,aB I,aH,cn,bj,O,-ax];refine bh.cut (λU=>ay aR N U) ?_ ?_
    exact((ay.refl G.ok).new _ _).put ⟨0,J⟩ (jZ (fq _));rintro U I;have O:=G.trans I;refine bh.call (by simpa [bJ] using Da (gs:=gs) (fs:=fs) (name:=name) (params:=params) (blocks:=blocks) (ah:=ah) U O.ok r v.1 v.2) ?_;rintro _ U⟨rfl,N⟩;by_cases U:KS aF v.1 v.2=0
    simp[t,u,q,y,U,z];refine⟨cz p.row-(j+1),ab,j+1,Q,ab,⟨o,a⟩,J,(M.trans I).trans N,g.take d (DN U)⟩;have:=xy U;simp[this];exact⟨O.trans N,λh=>absurd h U⟩
   .have:j=cz p.row:=ab
    subst this;rw[mO] at g;simp[q,y];exact⟨G,⟨Sw D,B,g⟩⟩
  .have f:((W.l:Int) !=(S.l:Int))=ck:=by simp;omega
   simp[D,aI,aB E,aB V,x,s,w,k,f,-ax];exact A.tick
 have:=xy D;simp[this];exact⟨A,λh=>absurd h D⟩
end
set_option maxRecDepth 100000
def cR(s:Bool×Bool×Bool)(x:GI)(n:Nat):Bool:=
 (!s.1&&x.dst != -1)||((!s.2.1&& !(!x.a.1&&x.a.2==0))||((!s.2.2&& !(!x.b.1&&x.b.2==0))||(!(x.op==20)&&(x.fn !=0||decide (0<n)))))
def alm{s:Bool×Bool×Bool}{x:GI}{A:SV}{R:Env->az->Prop}(G:eR h X (aM x.op x.dst x.a.1 x.a.2 x.b.1 x.b.2 x.fn A.v) z)(D:eR h S [dC s.1,dC s.2.1,dC s.2.2] t)(E:eR h o [dC (x.op==20)] W)(j:bU e 3 X)(p:bU e 5 S)(q:bU e 6 o)(H:∀y,bY y 2=bY e 2->bY y 3=bY e 3->bY y 5=bY e 5->bY y 6=bY e 6->bY y 62=dC (cR s x A.l)->R y h):bh FF Z0 e h R:=by
 have⟨op,dst,⟨m,l⟩,⟨k,c⟩,fn,y⟩:=x;have⟨N,M,d⟩:=s;simp[aM] at G D E;unfold Z0;cases N;cases M;cases d;cases y:(dst== -1);simp[j,p,q,G,D,E,bne,y];refine H _ ?_ ?_ ?_ ?_ ?_<;>simp[cR,j,p,q,bne,y];cases m;cases a:(l==0);simp[j,p,q,G,D,E,bne,y,a];refine H _ ?_ ?_ ?_ ?_ ?_<;>simp[cR,j,p,q,bne,y,a];cases k;cases b:(c==0);simp[j,p,q,G,D,E,bne,y,a,b];refine H _ ?_ ?_ ?_ ?_ ?_<;>simp[cR,j,p,q,bne,y,a,b];cases u:(op==20);cases I:(fn==0);simp[j,p,q,G,D,E,bne,y,a,b,u,I];refine H _ ?_ ?_ ?_ ?_ ?_<;>simp[cR,j,p,q,bne,y,a,b,u,I];simp[j,p,q,G,D,E,bne,y,a,b,u,I];refine H _ ?_ ?_ ?_ ?_ ?_<;>simp[cR,j,p,q,bne,y,a,b,u,I];simp[j,p,q,G,D,E,bne,y,a,b,u];refine H _ ?_ ?_ ?_ ?_ ?_<;>simp[cR,j,p,q,bne,y,a,b,u];simp[j,p,q,G,D,E,bne,y,a];refine H _ ?_ ?_ ?_ ?_ ?_<;>simp[cR,j,p,q,bne,y,a];simp[j,p,q,G,D,E,bne,y];refine H _ ?_ ?_ ?_ ?_ ?_<;>simp[cR,j,p,q,bne,y];cases y:(dst== -1);simp[j,p,q,G,D,E,bne,y];refine H _ ?_ ?_ ?_ ?_ ?_<;>simp[cR,j,p,q,bne,y];cases m;cases a:(l==0);simp[j,p,q,G,D,E,bne,y,a];refine H _ ?_ ?_ ?_ ?_ ?_<;>simp[cR,j,p,q,bne,y,a];cases u:(op==20);cases I:(fn==0);simp[j,p,q,G,D,E,bne,y,a,u,I];refine H _ ?_ ?_ ?_ ?_ ?_<;>simp[cR,j,p,q,bne,y,a,u,I];simp[j,p,q,G,D,E,bne,y,a,u,I];refine H _ ?_ ?_ ?_ ?_ ?_<;>simp[cR,j,p,q,bne,y,a,u,I];simp[j,p,q,G,D,E,bne,y,a,u];refine H _ ?_ ?_ ?_ ?_ ?_<;>simp[cR,j,p,q,bne,y,a,u];simp[j,p,q,G,D,E,bne,y];refine H _ ?_ ?_ ?_ ?_ ?_<;>simp[cR,j,p,q,bne,y];cases d;cases y:(dst== -1);simp[j,p,q,G,D,E,bne,y];refine H _ ?_ ?_ ?_ ?_ ?_<;>simp[cR,j,p,q,bne,y];cases k;cases b:(c==0);simp[j,p,q,G,D,E,bne,y,b];refine H _ ?_ ?_ ?_ ?_ ?_<;>simp[cR,j,p,q,bne,y,b];cases u:(op==20);cases I:(fn==0);simp[j,p,q,G,D,E,bne,y,b,u,I];refine H _ ?_ ?_ ?_ ?_ ?_<;>simp[cR,j,p,q,bne,y,b,u,I];simp[j,p,q,G,D,E,bne,y,b,u,I];refine H _ ?_ ?_ ?_ ?_ ?_<;>simp[cR,j,p,q,bne,y,b,u,I];simp[j,p,q,G,D,E,bne,y,b,u];refine H _ ?_ ?_ ?_ ?_ ?_<;>simp[cR,j,p,q,bne,y,b,u];simp[j,p,q,G,D,E,bne,y];refine H _ ?_ ?_ ?_ ?_ ?_<;>simp[cR,j,p,q,bne,y];cases y:(dst== -1);simp[j,p,q,G,D,E,bne,y];refine H _ ?_ ?_ ?_ ?_ ?_<;>simp[cR,j,p,q,bne,y];cases u:(op==20);cases I:(fn==0);simp[j,p,q,G,D,E,bne,y,u,I];refine H _ ?_ ?_ ?_ ?_ ?_<;>simp[cR,j,p,q,bne,y,u,I];simp[j,p,q,G,D,E,bne,y,u,I];refine H _ ?_ ?_ ?_ ?_ ?_<;>simp[cR,j,p,q,bne,y,u,I];simp[j,p,q,G,D,E,bne,y,u];refine H _ ?_ ?_ ?_ ?_ ?_<;>simp[cR,j,p,q,bne,y,u];cases M;cases d;cases m;cases a:(l==0);simp[j,p,q,G,D,E,bne,a];refine H _ ?_ ?_ ?_ ?_ ?_<;>simp[cR,j,p,q,bne,a];cases k;cases b:(c==0);simp[j,p,q,G,D,E,bne,a,b];refine H _ ?_ ?_ ?_ ?_ ?_<;>simp[cR,j,p,q,bne,a,b];cases u:(op==20);cases I:(fn==0);simp[j,p,q,G,D,E,bne,a,b,u,I];refine H _ ?_ ?_ ?_ ?_ ?_<;>simp[cR,j,p,q,bne,a,b,u,I];simp[j,p,q,G,D,E,bne,a,b,u,I];refine H _ ?_ ?_ ?_ ?_ ?_<;>simp[cR,j,p,q,bne,a,b,u,I];simp[j,p,q,G,D,E,bne,a,b,u];refine H _ ?_ ?_ ?_ ?_ ?_<;>simp[cR,j,p,q,bne,a,b,u];simp[j,p,q,G,D,E,bne,a];refine H _ ?_ ?_ ?_ ?_ ?_<;>simp[cR,j,p,q,bne,a];simp[j,p,q,G,D,E,bne];refine H _ ?_ ?_ ?_ ?_ ?_<;>simp[cR,j,p,q,bne];cases m;cases a:(l==0);simp[j,p,q,G,D,E,bne,a];refine H _ ?_ ?_ ?_ ?_ ?_<;>simp[cR,j,p,q,bne,a];cases u:(op==20);cases I:(fn==0);simp[j,p,q,G,D,E,bne,a,u,I];refine H _ ?_ ?_ ?_ ?_ ?_<;>simp[cR,j,p,q,bne,a,u,I];simp[j,p,q,G,D,E,bne,a,u,I];refine H _ ?_ ?_ ?_ ?_ ?_<;>simp[cR,j,p,q,bne,a,u,I];simp[j,p,q,G,D,E,bne,a,u];refine H _ ?_ ?_ ?_ ?_ ?_<;>simp[cR,j,p,q,bne,a,u];simp[j,p,q,G,D,E,bne];refine H _ ?_ ?_ ?_ ?_ ?_<;>simp[cR,j,p,q,bne];cases d;cases k;cases b:(c==0);simp[j,p,q,G,D,E,bne,b];refine H _ ?_ ?_ ?_ ?_ ?_<;>simp[cR,j,p,q,bne,b];cases u:(op==20);cases I:(fn==0);simp[j,p,q,G,D,E,bne,b,u,I];refine H _ ?_ ?_ ?_ ?_ ?_<;>simp[cR,j,p,q,bne,b,u,I];simp[j,p,q,G,D,E,bne,b,u,I];refine H _ ?_ ?_ ?_ ?_ ?_<;>simp[cR,j,p,q,bne,b,u,I];simp[j,p,q,G,D,E,bne,b,u];refine H _ ?_ ?_ ?_ ?_ ?_<;>simp[cR,j,p,q,bne,b,u];simp[j,p,q,G,D,E,bne];refine H _ ?_ ?_ ?_ ?_ ?_<;>simp[cR,j,p,q,bne];cases u:(op==20);cases I:(fn==0);simp[j,p,q,G,D,E,bne,u,I];refine H _ ?_ ?_ ?_ ?_ ?_<;>simp[cR,j,p,q,bne,u,I];simp[j,p,q,G,D,E,bne,u,I];refine H _ ?_ ?_ ?_ ?_ ?_<;>simp[cR,j,p,q,bne,u,I];simp[j,p,q,G,D,E,bne,u];refine H _ ?_ ?_ ?_ ?_ ?_<;>simp[cR,j,p,q,bne,u]
section
variable{gs fs blocks ah:SV}{name:ByteArray}{params aF:Int}
def zJ(P:Int->Prop)(h:az)(v:aa)(a:az):Prop:=ay aR h a/\∃c:Int,v=fc ft c/\P c
def akG(N:cu h){b s:Nat}{M O U:aa}{P1 P2 P3:Int->Prop}(p:eR h b [M,O,U] s)(A:∀a,ay aR h a->fh FF M [] a (zJ P1 a))(l:∀a,ay aR h a->fh FF O [] a (zJ P2 a))(f:∀a,ay aR h a->fh FF U [] a (zJ P3 a)):aY FF 204 [dB (Z ⟨b,0,K⟩) 3 3] h (zJ (λc=>c=0->P1 0/\P2 0/\P3 0) h):=by
 refine aY.of RS ?_;unfold GW;simp;have k:bd.i64.wrap (0+1)=1:=ch _ ab ab;have I:bd.i64.wrap 1=1:=ch _ ab ab;have m:bd.i64.wrap (1+1)=2:=ch _ ab ab;have G:bd.i64.wrap 2=2:=ch _ ab ab;have O:bd.i64.wrap (2+1)=3:=ch _ ab ab;have D:bd.i64.wrap 3=3:=ch _ ab ab;refine aK.loop (λn e a=>∃i:Nat,n=3-i/\i<=3/\bC e 8 (i:Nat)/\bC e 7 3/\bY e 6=dB (Z ⟨b,0,K⟩) 3 3/\(0<i->P1 0)/\(1<i->P2 0)/\(2<i->P3 0)/\ay aR h a) ?_ (n:=3)
  ⟨0,Q,ab,J,J,J,J,J,J,.refl N⟩
 rintro n e a⟨i,rfl,U,q,u,y,d,U,M,g⟩;have E:=g.get N p;unfold C0;rcases(show i=0\/i=1\/i=2\/i=3 by omega) with rfl|rfl|rfl|rfl
 simp[q,u,y,E];refine bh.fF (V:=zJ P1 a) (aj (A a g)) ?_;rintro _ N⟨p,c,rfl,A⟩;by_cases j:c=0;subst j;simp[q,u,y,k,I];exact⟨2,ab,1,Q,ab,Q,λ_=>A,ab,ab,g.trans p⟩;have:=xy j;simp[this];exact⟨g.trans p,c,Q,λh=>absurd h j⟩
 simp[q,u,y,E];refine bh.fF (V:=zJ P2 a) (aj (l a g)) ?_;rintro _ N⟨p,c,rfl,A⟩;by_cases j:c=0;subst j;simp[q,u,y,m,G];exact⟨1,ab,2,Q,ab,Q,λ_=>d ab,λ_=>A,ab,g.trans p⟩;have:=xy j;simp[this];exact⟨g.trans p,c,Q,λh=>absurd h j⟩
 simp[q,u,y,E];refine bh.fF (V:=zJ P3 a) (aj (f a g)) ?_;rintro _ N⟨p,c,rfl,A⟩;by_cases j:c=0;subst j;simp[q,u,y,O,D];exact⟨3,ab,ab,Q,λ_=>d ab,λ_=>U ab,λ_=>A,g.trans p⟩;have:=xy j;simp[this];exact⟨g.trans p,c,Q,λh=>absurd h j⟩
 simp[q,u];exact⟨g,0,Q,λ_=>⟨d ab,U ab,M ab⟩⟩
def adN(q:cu h)(hr:0<=aF/\aF<1000000){n:Bool}{x:GI}{A:SV}(O:eR h o [dC n] W)(y:eR h X (aM x.op x.dst x.a.1 x.a.2 x.b.1 x.b.2 x.fn A.v) t)(g:eR h C (bJ gs fs name params aF blocks ah) z){p:List GF}(r:ad (fR h) 4 h fs.v p)(B:cz p<1000000/\∀f∈p,f.params<=6)(M:ad vR 2 h A.v x.args)(F:cz x.args<140737488355329):aY FF 207 [eU (Z ⟨o,0,K⟩),eU (Z ⟨X,0,K⟩),eU (Z ⟨C,0,K⟩)] h (zJ (λc=>c=0->n=ck->tu aF x.args/\cz x.args<=6) h):=by
 have w:=ad.len M;have U:=ad.len r;have⟨B,F⟩:=B;have i:=ch ((fs.l:Int)-1) ab ab;refine aY.of Co ?_;unfold tA;simp[aM] at y;have u:=g;simp[bJ] at u;cases n
 simp[O];exact⟨.refl q,0,Q,trivial⟩
 .simp[O,y,u,i];refine bh.call (aj (fM h x.fn 0 ((fs.l:Int)-1))) ?_;rintro _ g⟨rfl,i⟩;rw[i];by_cases a:0<=x.fn/\x.fn<=(fs.l:Int)-1
  .have⟨k,i⟩:∃k:Nat,x.fn=k:=⟨x.fn.toNat,ab⟩;have g:k<cz p:=ab
   have E:p[k]?=Z p[k]:=jh g;generalize p[k]=f at E;have H:=F f (cO E);obtain⟨T,P,n,L,_,_,⟨B,rfl,_⟩,_,O⟩:=ad.later q r E;have S:=O (tick h) (bk q) 1 1 ag;simp[-ax,aI] at S;have p:(decide (0<=x.fn)&&decide (x.fn<=(fs.l:Int)-1))=ck:=aj a
   rw[p];rw[i] at y;rw[L,U] at u;by_cases P:(A.l:Int)=f.params
   .have s:((A.l:Int) !=f.params)=cd:=by simp[P]
    simp[i,y,u,U,aI,aB y,aB u,g,S,s,-ax];refine aK.loop (λm e O=>∃j:Nat,m=cz x.args-j/\j<=cz x.args/\bU e 2 C/\bY e 34=A.v/\bC e 35 (cz x.args)/\bC e 36 j/\ay aR h O/\tu aF (x.args.take j)) ?_ (n:=cz x.args)
     ⟨0,Q,ab,J,J,au w,J,bk q,.nil _⟩
    rintro m e O⟨j,rfl,d,l,I,D,G,T,H⟩;have N:=T.get q u;unfold qG;by_cases V:j<cz x.args
    .have E:x.args[j]?=Z x.args[j]:=jh V;generalize x.args[j]=v at E;obtain⟨b,n,c,B,_,_,rfl,r,F⟩:=ad.later q M E;have n:=F O T 0 2 ag;simp[-ax] at n;have F:=ch (j+1) ab ab;have M:=T.ok.cg N;simp at I;simp[l,I,D,G,B,w,V,n,aB N,aH,cn,bj,M,-ax];refine bh.cut (λM=>ay aR O M) ?_ ?_
     exact((ay.refl T.ok).new _ _).put ⟨0,J⟩ (jZ (fq _));rintro M r;have d:=T.trans r;refine bh.call (by simpa [bJ,L,U] using Da (gs:=gs) (fs:=fs) (name:=name) (params:=params) (blocks:=blocks) (ah:=ah) M d.ok hr v.1 v.2) ?_;rintro _ O⟨rfl,r⟩;by_cases V:KS aF v.1 v.2=0
     simp[l,I,D,G,V,F];exact⟨cz x.args-(j+1),ab,j+1,Q,ab,⟨B,w⟩,J,d.trans r,H.take E (DN V)⟩;have:=xy V;simp[this];exact⟨d.trans r,_,Q,λh=>absurd h V⟩
    .have:j=cz x.args:=ab
     subst this;rw[mO] at H;simp[D,G];exact⟨T,0,Q,λ_=>⟨H,ab⟩⟩
   have s:((A.l:Int) !=f.params)=ck:=xy P;simp[i,y,u,U,aI,aB y,aB u,g,S,s,-ax];exact⟨bk q,9,Q,λh=>by cases h⟩
  .have p:(decide (0<=x.fn)&&decide (x.fn<=(fs.l:Int)-1))=cd:=aj a
   simp[p];exact⟨.refl q,3,Q,λh=>by cases h⟩
end
set_option maxRecDepth 100000
def ZZ:aD:=T0 Tryz.f143 0 36
def amc:Th=.seq (G_ [f_ 63 0 5,l_ 64 63,m_ 65 64,q_ 66 65 ck (.load K (t_ 6)),q_ 67 65 ck (.mv (t_ 66)),q_ 68 67 ck (.pb 1 (t_ 3)),q_ 69 67 ck (.load K (t_ 68)),q_ 70 67 ck (.bin .eql [1] (t_ 69) (.const (fc ft (JW 0)))),q_ 71 65 ck (.pick (t_ 67) (t_ 70) (b_ cd)),q_ 72 65 ck (.un .not (t_ 71)),o_ 73 (.pick (t_ 65) (t_ 72) (b_ cd))] (I_ 73 (G_ [L_ 74 7 2,f_ 75 1 3,l_ 76 75,F_ 77 203 [t_ 74,t_ 76],m_ 7 77] (G_ [m_ 78 7,o_ 79 (.bin .neq [1] (t_ 78) (i_ 0))] (I_ 79 (G_ [m_ 80 7,m_ 4 80] .ret) .skip))) .skip)) ZZ:=Q
structure zK(aF:Int)(x:GI):Prop where
 op:1<=x.op/\x.op<=22
 form:cR (dX x.op) x (cz x.args)=cd
 dst:(dX x.op).1=ck->¬(x.op=20/\x.dst= -1)->BV aF x.dst
 a:yp aF x.a
 b:yp aF x.b
 args:x.op=20->tu aF x.args/\cz x.args<=6
section
variable{gs fs blocks ah:SV}{name:ByteArray}{params aF:Int}
def asE(aF:Int)(x:GI)(c:Int):Prop:=c=0->((dX x.op).1=ck->¬(x.op=20/\x.dst= -1)->BV aF x.dst)/\yp aF x.a/\yp aF x.b/\(x.op=20->tu aF x.args/\cz x.args<=6)
def ahJ(p:cu h)(u:0<=aF/\aF<1000000){x:GI}{A:SV}(r:eR h o [dC (x.op==20)] W)(y:eR h X (aM x.op x.dst x.a.1 x.a.2 x.b.1 x.b.2 x.fn A.v) t)(q:eR h C (bJ gs fs name params aF blocks ah) z){j:List GF}(N:ad (fR h) 4 h fs.v j)(I:cz j<1000000/\∀f∈j,f.params<=6)(M:ad vR 2 h A.v x.args)(G:cz x.args<140737488355329){b s:Nat}(A:eR h b [.func (.func 205) #[] #[eU (Z ⟨C,0,K⟩),eU (Z ⟨X,0,K⟩)],.func (.func 206) #[] #[eU (Z ⟨C,0,K⟩),eU (Z ⟨X,0,K⟩)],.func (.func 207) #[] #[eU (Z ⟨o,0,K⟩),eU (Z ⟨X,0,K⟩),eU (Z ⟨C,0,K⟩)]] s):aY FF 204 [dB (Z ⟨b,0,K⟩) 3 3] h (zJ (λc=>c=0->yp aF x.a/\yp aF x.b/\(x.op=20->tu aF x.args/\cz x.args<=6)) h):=by
 have F:=akG (P1:=λc=>c=0->yp aF x.a) (P2:=λc=>c=0->yp aF x.b) (P3:=λc=>c=0->(x.op==20)=ck->tu aF x.args/\cz x.args<=6) p A (λx g=>by
  refine fh.func ?_;have:=adL g.ok u (g.get p q) (g.get p y);refine aY.mono (aj this) ?_;rintro v E⟨rfl,D⟩;exact⟨D,_,Q,λh=>DN h⟩) (λx g=>by
  refine fh.func ?_;have:=adM g.ok u (g.get p q) (g.get p y);refine aY.mono (aj this) ?_;rintro v E⟨rfl,D⟩;exact⟨D,_,Q,λh=>DN h⟩) (λx g=>by
  refine fh.func ?_;have:=adN g.ok u (g.get p r) (g.get p y) (g.get p q) (N.mono p g λ_ _ r=>r.mono p g) I (M.mono p g λ_ _ h=>h) G;simpa using this)
 refine F.mono ?_;rintro v E⟨g,c,rfl,E⟩;exact⟨g,c,Q,λh=>⟨(E h).1 Q,(E h).2.1 Q,λe=>(E h).2.2 Q (au e)⟩⟩
def ahL(u:cu h)(i:0<=aF/\aF<1000000){C X o S z t W p:Nat}{x:GI}{A:SV}(a:eR h o [dC (x.op==20)] W)(E:eR h X (aM x.op x.dst x.a.1 x.a.2 x.b.1 x.b.2 x.fn A.v) t)(g:eR h C (bJ gs fs name params aF blocks ah) z)(N:eR h S [dC (dX x.op).1,dC (dX x.op).2.1,dC (dX x.op).2.2] p){p:List GF}(r:ad (fR h) 4 h fs.v p)(j:cz p<1000000/\∀f∈p,f.params<=6)(U:ad vR 2 h A.v x.args)(l:cz x.args<140737488355329)(M:bU e 2 C)(I:bU e 3 X)(d:bU e 5 S)(G:bU e 6 o)(H:∀c D y,ay aR h y->bC D 4 c->asE aF x c->s .ret D y):aK FF Th e h s:=by
 have y:∀(D:az)(q:Env),ay aR h D->bU q 2 C->bU q 3 X->bU q 6 o->((dX x.op).1=ck->¬(x.op=20/\x.dst= -1)->BV aF x.dst)->aK FF ZZ q D s:=by
  intro D q A k p b O;unfold ZZ;simp[k,p,b];refine bh.cut (λb=>ay aR D b/\b.tr.get D.aw=Z (.bZ [.func (.func 205) #[] #[eU (Z ⟨C,0,K⟩),eU (Z ⟨X,0,K⟩)],.func (.func 206) #[] #[eU (Z ⟨C,0,K⟩),eU (Z ⟨X,0,K⟩)],.func (.func 207) #[] #[eU (Z ⟨o,0,K⟩),eU (Z ⟨X,0,K⟩),eU (Z ⟨C,0,K⟩)]] cd 0 0)) ?_ ?_;exact⟨(ay.refl A.ok).new _ _,J⟩;rintro b⟨p,k⟩;have D:=A.trans p;refine bh.call (V:=zJ (λc=>c=0->yp aF x.a/\yp aF x.b/\(x.op=20->tu aF x.args/\cz x.args<=6)) b) (aj (ahJ D.ok i (D.get u a) (D.get u E) (D.get u g) (r.mono u D λ_ _ r=>r.mono u D) j (U.mono u D λ_ _ h=>h) l k)) ?_;rintro _ U⟨U,c,rfl,b⟩;simp;exact H c _ _ (D.trans U) J (λh=>⟨O,b h⟩)
 rw[amc];have D:=E;simp[aM] at D;cases E:(dX x.op).1
 rw[E] at N;simp[d,N];refine y h _ (.refl u) (au M) (au I) (au G) (λh=>by rw[E] at h;cases h)
 .rw[E] at N;have U:∀q,bU q 2 C->bU q 3 X->bU q 6 o->bC q 76 x.dst->bY q 74=ix ⟨bJ gs fs name params aF blocks ah⟩->True:=λ_ _ _ _ _ _=>trivial;cases b:(x.op==20)
  rw[b] at a;simp[d,G,I,M,N,a,D,g,bJ];refine bh.call (by simpa [bJ] using Mo (gs:=gs) (fs:=fs) (name:=name) (params:=params) (blocks:=blocks) (ah:=ah) h u i x.dst) ?_;rintro _ q⟨rfl,U⟩;by_cases j:Su aF x.dst=0;simp[j];exact y q _ U (au M) (au I) (au G) (λ_ _=>Sw j);have:=xy j;simp[this];exact H _ _ _ U J (λh=>absurd h j)
  .rw[b] at a;cases O:(x.dst== -1);simp[d,G,I,M,N,a,D,O,g,bJ];refine bh.call (by simpa [bJ] using Mo (gs:=gs) (fs:=fs) (name:=name) (params:=params) (blocks:=blocks) (ah:=ah) h u i x.dst) ?_;rintro _ q⟨rfl,U⟩;by_cases j:Su aF x.dst=0;simp[j];exact y q _ U (au M) (au I) (au G) (λ_ _=>Sw j);have:=xy j;simp[this];exact H _ _ _ U J (λh=>absurd h j)
   simp[d,G,I,N,a,D,O];refine y h _ (.refl u) (au M) (au I) (au G) (λ_ h=>absurd ⟨aj b,aj O⟩ h)
def ahI(N:cu h)(e:0<=aF/\aF<1000000){x:GI}{A:SV}{j:List GF}(r:ad (fR h) 4 h fs.v j)(b:cz j<1000000/\∀f∈j,f.params<=6)(a:ad vR 2 h A.v x.args)(d:cz x.args<140737488355329):aY FF 143 [ix ⟨bJ gs fs name params aF blocks ah⟩,ix ⟨aM x.op x.dst x.a.1 x.a.2 x.b.1 x.b.2 x.fn A.v⟩] h (zJ (λc=>c=0->zK aF x) h):=by
 have g:=ad.len a;refine aY.of Fk ?_;unfold wB;simp[bJ,aM];refine bh.cut (λu=>ay aR h u/\u.tr.get h.aw=Z (.bZ (bJ gs fs name params aF blocks ah) cd 0 0)/\u.tr.get (h.aw+1)=Z (.bZ (aM x.op x.dst x.a.1 x.a.2 x.b.1 x.b.2 x.fn A.v) cd 0 0)) ?_ ?_;exact⟨((ay.refl N).new _ _).new _ _,by simp[bJ],by simp[aM]⟩;rintro u⟨G,U,M⟩;refine bh.call (aj (fM u x.op 1 22)) ?_;rintro _ j⟨rfl,j⟩;rw[j];by_cases j:1<=x.op/\x.op<=22
 .have O:(decide (1<=x.op)&&decide (x.op<=22))=ck:=aj j
  have V:=M;simp[aM] at V;rw[O];simp[V];refine bh.call (aj (Ki u G.ok x.op)) ?_;rintro _ u⟨rfl,V⟩;have y:=G.trans V;have p:=V.get G.ok U;have U:=V.get G.ok M;have V:=y.ok.cg U;have M:=y.ok.cg p;have M:=U;simp[aM] at M;simp[M,V];refine bh.cut (λM=>ay aR u M/\(di M u.aw [dC (dX x.op).1,dC (dX x.op).2.1,dC (dX x.op).2.2])/\di M (u.aw+1) [dC (x.op==20)]) ?_ ?_
  exact⟨((((ay.refl y.ok).new _ _).put ⟨0,J⟩ (jZ ab)).new _ _).put ⟨0,J⟩ (jZ ab),⟨u.clock,J⟩,⟨u.clock+1,J⟩⟩;rintro M⟨M,⟨u,E⟩,⟨u,I⟩⟩;have D:=y.trans M;have i:=M.get y.ok p;have u:=M.get y.ok U;refine alm (x:=x) (s:=dX x.op) u E I J J J ?_;intro y V y M U p;simp at V y M U;cases q:cR (dX x.op) x A.l
  rw[q] at p;simp[p];refine ahL D.ok e I u i E (r.mono N D λ_ _ r=>r.mono N D) b (a.mono N D λ_ _ h=>h) d V y M U ?_;intro c U U U M V;simp[M];refine⟨D.trans U,c,Q,λh=>?_⟩;have⟨d,U,M,y⟩:=V h;exact⟨j,by rw[<-g];exact q,d,U,M,y⟩;rw[q] at p;simp[p];exact⟨D,5,Q,λh=>by cases h⟩
 .have O:(decide (1<=x.op)&&decide (x.op<=22))=cd:=aj j
  rw[O];simp;exact⟨G,4,Q,λh=>by cases h⟩
end
def Wu(b:Int):Int:=bd.i64.wrap (((b%2^bd.i64.bits).toNat &&& 63%2^bd.i64.bits:Nat):Int)
def Nj(b:Int):¬Wu b<0:=by unfold Wu;have a:((b%2^bd.i64.bits).toNat &&& 63%2^bd.i64.bits)<=63:=qN Nat.and_le_right ag;rw[ch _ ab ab];omega
def An(b:Bool):Int:=if b then 1 else 0
def iu(op a b:Int):Int×Bool:=
 if op=1 then(a,ck) else
 if op=2 then(bd.i64.wrap (a+b),ck) else
 if op=3 then(bd.i64.wrap (a-b),ck) else
 if op=4 then(bd.i64.wrap (a*b),ck) else
 if op=5 then(if b=0 then(0,cd) else(bd.i64.wrap (a.tdiv b),ck)) else
 if op=6 then(if b=0 then(0,cd) else(a.tmod b,ck)) else
 if op=7 then(bd.i64.wrap (((a%2^bd.i64.bits).toNat &&& (b%2^bd.i64.bits).toNat:Nat):Int),ck) else
 if op=8 then(bd.i64.wrap (((a%2^bd.i64.bits).toNat ||| (b%2^bd.i64.bits).toNat:Nat):Int),ck) else
 if op=9 then(bd.i64.wrap (((a%2^bd.i64.bits).toNat ^^^ (b%2^bd.i64.bits).toNat:Nat):Int),ck) else
 if op=10 then(bd.i64.wrap (a*2^(min (Wu b).toNat bd.i64.bits)),ck) else
 if op=11 then(a.fdiv (2^(min (Wu b).toNat bd.i64.bits)),ck) else
 if op=12 then(An (a==b),ck) else
 if op=13 then(An (a !=b),ck) else
 if op=14 then(An (decide (a<b)),ck) else
 if op=15 then(An (decide (a<=b)),ck) else
 if op=16 then(bd.i64.wrap (-a),ck) else
 (bd.i64.wrap ((((if bd.i64.signed=ck then(-1:Int) else 9223372036854775807)%2^bd.i64.bits).toNat ^^^ (a%2^bd.i64.bits).toNat:Nat):Int),ck)
def agl:bd.i64.bits=64:=Q
def ai2:bd.i64.signed=ck:=Q
def Ii(h:az)(b:Bool):fh FF (.func (.func 276) #[] #[]) [dC b] h (λv a=>v=fc ft (An b)/\a=h):=by refine fh.func ?_;refine aY.of RU ?_;unfold GY;cases b<;>simp[An]
def ajc(h:az)(a b:Int)(q:1<=op/\op<=17):aY FF 255 [fc ft op,fc ft a,fc ft b] h (λv c=>v=.tuple #[fc ft (iu op a b).1,dC (iu op a b).2]/\c=h):=by
 refine aY.of YJ ?_;unfold LN;have j:=Nj b;unfold Wu at j;have p:op=1\/op=2\/op=3\/op=4\/op=5\/op=6\/op=7\/op=8\/op=9\/op=10\/op=11\/op=12\/op=13\/op=14\/op=15\/op=16\/op=17:=ab
 rcases p with rfl|rfl|rfl|rfl|rfl|rfl|rfl|rfl|rfl|rfl|rfl|rfl|rfl|rfl|rfl|rfl|rfl;simp[iu];simp[iu];simp[iu];simp[iu];by_cases d:b=0;subst d;simp[iu];simp[iu,d];by_cases d:b=0;subst d;simp[iu];simp[iu,d];simp[iu];simp[iu];simp[iu];simp[iu,jN,j,Wu];simp[iu,jN,j,Wu];simp[iu];refine bh.fF (V:=λv c=>v=fc ft (An (a==b))/\c=h) (aj (Ii h (a==b))) ?_;rintro _ c⟨rfl,rfl⟩;simp;simp[iu];refine bh.fF (V:=λv c=>v=fc ft (An (a !=b))/\c=h) (aj (Ii h (a !=b))) ?_;rintro _ c⟨rfl,rfl⟩;simp;simp[iu];refine bh.fF (V:=λv c=>v=fc ft (An (decide (a<b)))/\c=h) (aj (Ii h (decide (a<b)))) ?_;rintro _ c⟨rfl,rfl⟩;simp;simp[iu];refine bh.fF (V:=λv c=>v=fc ft (An (decide (a<=b)))/\c=h) (aj (Ii h (decide (a<=b)))) ?_;rintro _ c⟨rfl,rfl⟩;simp;simp[iu];simp[iu]
end Go.Proofs.YtdhnndleffachaaGreatDoor
