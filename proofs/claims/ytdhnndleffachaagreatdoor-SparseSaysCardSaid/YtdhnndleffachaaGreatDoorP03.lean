/- Parts of the proof. -/
import Derived.KernelRfl
import Derived.Test.YtdhnndleffachaaGreatDoorP02
import Derived.Test.YtdhnndleffachaaGreatDoorP00
open BitVec renaming ofInt->cb
open Go.Proofs.SlLaysF0 renaming n6->J4
open Go renaming Value->aa
open Int renaming toNat->qA
open Nat renaming le_succ->dd,min->tt,mul_le_mul->sn,mul_one->ib,zero_mul->SY
open Ne renaming symm->cE
open Option renaming some->Z,none->K
open Bool renaming false->cd,true->ck
open List renaming length->cz,countP_cons->ei,drop_zero->lV,foldl_append->eE,map->lj,mem_cons->bn,mem_reverse->eL,nodup_append->F6,replicate->ae,replicate_succ->kb,set_cons_succ->C2,set_cons_zero->r6
open Go.Value renaming slice->dB,bool->dC,pointer->eU,int->fc,string->gX,agg->ix,int->aA,slice->bf
open Go.IntKind renaming i64->ft,bits->LK,signed->Gx,wrap->Lr
open Or renaming inl->jZ,inr->kd
set_option linter.all false
set_option maxHeartbeats 1000000
namespace Go.Proofs.YtdhnndleffachaaGreatDoor
open Go.AI
set_option maxRecDepth 100000
def aqi:Zr Tryz.prog (uk Tryz.prog) 218:=by have⟨j,a⟩:=Option.isSome_iff_exists.mp (show(uk Tryz.prog 44).isSome=ck by kernel_rfl);exact⟨Tryz.f218,59,44,{ u:=.slice 44,size:=1,bytes:=24,zero:=[dB K 0 0],agg:=cd },j,Tryz.func218,by kernel_rfl,by kernel_rfl,by kernel_rfl,by kernel_rfl,by kernel_rfl,by kernel_rfl,Q,a⟩
def anG:Kq Tryz.prog (uk Tryz.prog) 1 (fY (uk Tryz.prog) 1) FF0:=abm (Zg adi) aqi
def aj8:FF0 166=Z ⟨[.tmp 6],yQ [dC cd,fc ft 0] 2 16 218 219,.no⟩:=by kernel_rfl
def anH:Kq Tryz.prog (uk Tryz.prog) 1 (fY (uk Tryz.prog) 1) FF1:=
 XS anG (XE _) aj8 (fov:=⟨[],.bad,.WN⟩) rfl rfl rfl ag ag
def ai6:Go.Shelf.Ren:=⟨fun|6=>197 |15=>245 |14=>244 |28=>273 |29=>274 |20=>265 |21=>266 |22=>267 |23=>268 |24=>269 |25=>270 |26=>271 |27=>272 |46=>277 |47=>278 |48=>279 |49=>280 |50=>281 |57=>282 |n=>n,fun|22=>235 |24=>237 |25=>239 |3=>3 |39=>173 |0=>0 |53=>245 |55=>248 |4=>4 |46=>299 |45=>298 |50=>189 |5=>5 |9=>9 |66=>308 |70=>312 |76=>314 |77=>209 |n=>n,fun|n=>n⟩
theorem xa{d:Type}{a:Option d}{b c:d}(h:a=Z b)(k:b=c:=by kernel_rfl):a=Z c:=k▸h
def aEN:J4 Tryz.prog ai6 where
 mixed:=by kernel_rfl
 f6:=⟨Tryz.f197.name,ag,xa Tryz.func197⟩
 f14:=⟨Tryz.f244.name,ag,xa Tryz.func244⟩
 f15:=xa Tryz.func245
 f20:=⟨Tryz.f265.name,ag,xa Tryz.func265⟩
 f21:=⟨Tryz.f266.name,ag,xa Tryz.func266⟩
 f22:=⟨Tryz.f267.name,ag,xa Tryz.func267⟩
 f23:=⟨Tryz.f268.name,ag,xa Tryz.func268⟩
 f24:=⟨Tryz.f269.name,ag,xa Tryz.func269⟩
 f25:=⟨Tryz.f270.name,ag,xa Tryz.func270⟩
 f26:=⟨Tryz.f271.name,ag,xa Tryz.func271⟩
 f27:=⟨Tryz.f272.name,ag,xa Tryz.func272⟩
 f28:=xa Tryz.func273
 f29:=xa Tryz.func274
 f46:=⟨Tryz.f277.name,ag,xa Tryz.func277⟩
 f47:=xa Tryz.func278
 f48:=xa Tryz.func279
 f49:=⟨Tryz.f280.name,ag,xa Tryz.func280⟩
 f50:=⟨Tryz.f281.name,ag,xa Tryz.func281⟩
 f57:=⟨Tryz.f282.name,ag,xa Tryz.func282⟩
 t0:=Tryz.underlying0
 a0:=Tryz.isAgg0
 z0:=Tryz.sizeOf0
 v0:=Tryz.zeroValue0
 t3:=Tryz.underlying3
 a3:=Tryz.isAgg3
 z3:=Tryz.sizeOf3
 v3:=Tryz.zeroValue3
 t4:=Tryz.underlying4
 a4:=Tryz.isAgg4
 z4:=Tryz.sizeOf4
 v4:=Tryz.zeroValue4
 t5:=Tryz.underlying5
 a5:=Tryz.isAgg5
 z5:=Tryz.sizeOf5
 v5:=Tryz.zeroValue5
 t9:=Tryz.underlying9
 a9:=Tryz.isAgg9
 z9:=Tryz.sizeOf9
 v9:=Tryz.zeroValue9
 t22:=Tryz.underlying235
 a22:=Tryz.isAgg235
 z22:=Tryz.sizeOf235
 v22:=Tryz.zeroValue235
 t25:=Tryz.underlying239
 a25:=Tryz.isAgg239
 z25:=Tryz.sizeOf239
 v25:=Tryz.zeroValue239
 t39:=Tryz.underlying173
 a39:=Tryz.isAgg173
 z39:=Tryz.sizeOf173
 v39:=Tryz.zeroValue173
 t45:=Tryz.underlying298
 a45:=Tryz.isAgg298
 z45:=Tryz.sizeOf298
 v45:=Tryz.zeroValue298
 t46:=Tryz.underlying299
 a46:=Tryz.isAgg299
 z46:=Tryz.sizeOf299
 v46:=Tryz.zeroValue299
 t50:=Tryz.underlying189
 a50:=Tryz.isAgg189
 z50:=Tryz.sizeOf189
 v50:=Tryz.zeroValue189
 t53:=Tryz.underlying245
 a53:=Tryz.isAgg245
 z53:=Tryz.sizeOf245
 v53:=Tryz.zeroValue245
 t55:=Tryz.underlying248
 a55:=Tryz.isAgg248
 z55:=Tryz.sizeOf248
 v55:=Tryz.zeroValue248
 t66:=Tryz.underlying308
 a66:=Tryz.isAgg308
 z66:=Tryz.sizeOf308
 v66:=Tryz.zeroValue308
 t70:=Tryz.underlying312
 a70:=Tryz.isAgg312
 z70:=Tryz.sizeOf312
 v70:=Tryz.zeroValue312
 t76:=Tryz.underlying314
 a76:=Tryz.isAgg314
 z76:=Tryz.sizeOf314
 v76:=Tryz.zeroValue314
 t77:=Tryz.underlying209
 a77:=Tryz.isAgg209
 z77:=Tryz.sizeOf209
 v77:=Tryz.zeroValue209
open Go.Shelf Go.RowKit Go.Sort in
set_option maxHeartbeats 1000000 in
def al_(x y:UL)(W:World):Calls Tryz.prog 198 #[ix (vE x).toArray,ix (vE y).toArray] W λe a=>e=.returned (fc ft (KN x y))/\∃q j,a=Sort.grow (W.drewN q) j:=by
 show Calls Tryz.prog 198 #[ix #[fc ft (x.1.1:Int),dC x.2.1,fc ft x.2.2],ix #[fc ft (y.1.1:Int),dC y.2.1,fc ft y.2.2]] W _;have w:IntKind.i64.wrap ((x.1.1:Int)-(y.1.1:Int))=KN x y:=by
  have:=x.1.2;have:=y.1.2
  simp[Lr,LK,Gx,KN];omega
 go_enter Tryz.func198,Tryz.ntmps198
 go_wp2
 go_ret
 exact⟨Q,0,_,by rw[alloc_eq_grow,alloc_eq_grow,grow_grow];rfl⟩
def ase:Kq Tryz.prog (uk Tryz.prog) 1 (fY (uk Tryz.prog) 1) FF:=
 XT anH (afb aEN Q Tryz.isAgg237 Tryz.sizeOf237 (enters_of Tryz.func198 (by kernel_rfl) Q) al_ ⟨Tryz.f197,Tryz.func197,by kernel_rfl,by kernel_rfl⟩)
end Go.Proofs.YtdhnndleffachaaGreatDoor
namespace Go.AI.Edge
variable{i u:Nat}{out:List (List Int)}{t x:Int}
def zg(out:List (List Int))(i:Nat)(t:Int):List (List Int):=out.set t.toNat (((out[t.toNat]?).getD [])++[(i:Int)])
def kV(out:List (List Int))(i:Nat)(a:List Int):List (List Int):=a.foldl (λo t=>zg o i t) out
def upto(n:Nat)(a:List (List Int)):Nat->List (List Int)
 |0=>ae n []
 |k+1=>match a[k]? with
  |some b=>kV (upto n a k) k b
  |none=>upto n a k
def df(a:List (List Int)):List (List Int):=upto (cz a) a (cz a)
def LH(out:List (List Int))(i:Nat)(t:Int):cz (zg out i t)=cz out:=by simp[zg]
def H7(i:Nat):∀(a:List Int)(out:List (List Int)),cz (kV out i a)=cz out
 |[],_=>rfl
 |t::a,out=>by show(kV (zg out i t) i a).length=_;rw[H7 i a,LH]
def xR(n:Nat)(a:List (List Int)):∀k,cz (upto n a k)=n
 |0=>by simp[upto]
 |k+1=>by unfold upto;rcases a[k]? with _|b;exact xR n a k;exact(H7 k b _).trans (xR n a k)
def lM(a:List (List Int)):cz (df a)=cz a:=xR _ _ _
def Rh{a:List Int}{j:Nat}(h:a[j]?=Z t):kV out i (a.take (j+1))=zg (kV out i (a.take j)) i t:=by unfold kV;rw[kh,h,eE];rfl
def ah2(a:t.toNat<cz out):x∈((zg out i t)[u]?).getD []↔(x∈(out[u]?).getD []\/(u=t.toNat/\x=i)):=by unfold zg;rw[fO];by_cases e:t.toNat=u;subst e;rw[bK Q,bK a];simp;rw[bM e];constructor;exact jZ;rintro(h|⟨h,_⟩);exact h;exact absurd h.symm e
def Wy{i:Nat}{u:Nat}{x:Int} :∀ {ts:List Int} {out:List (List Int)},(∀t∈ts,t.toNat<cz out)->(x∈((kV out i ts)[u]?).getD []↔(x∈(out[u]?).getD []\/(x=i/\∃t∈ts,u=t.toNat)))
 |[],out,_=>by simp[kV]
 |t::ts,out,h=>by show x∈((kV (zg out i t) i ts)[u]?).getD []↔_;rw[Wy (ts:=ts) (out:=zg out i t) (λu q=>by rw[LH];exact h u (xV _ q)),ah2 (h t (iY ..))];constructor;rintro((h|⟨h,k⟩)|⟨k,j,a,h⟩);exact jZ h;exact kd ⟨k,t,iY ..,h⟩;exact kd ⟨k,j,xV _ a,h⟩;rintro(h|⟨k,j,a,h⟩);exact jZ (jZ h);rcases bn.1 a with e|a;exact jZ (kd ⟨by rw[h,e],k⟩);exact kd ⟨k,j,a,h⟩
def Ns{n:Nat}{r:List (List Int)}(h:∀j∈r,∀t∈j,t.toNat<n){u:Nat}{x:Int} :∀k,x∈((upto n r k)[u]?).getD []↔ ∃i:Nat,i<k/\x=i/\∃j,r[i]?=Z j/\∃t∈j,u=t.toNat
 |0=>by constructor;intro a;unfold upto at a;rw[Qp] at a;split at a<;>simp at a;rintro⟨i,D,_⟩;omega
 |k+1=>by unfold upto;rcases w:r[k]? with _|j;dsimp only;rw[Ns h k];constructor;rintro⟨i,D,r⟩;exact⟨i,ab,r⟩;rintro⟨i,D,a,j,q,r⟩;by_cases e:i=k;subst e;rw[w] at q;cases q;exact⟨i,ab,a,j,q,r⟩;dsimp only;rw[Wy (λt q=>by rw[xR];exact h j (cO w) t q),Ns h k];constructor;rintro(⟨i,D,r⟩|⟨a,t,q,I⟩);exact⟨i,ab,r⟩;exact⟨k,ab,a,j,w,t,q,I⟩;rintro⟨i,D,a,H,E,r⟩;by_cases e:i=k;subst e;rw[w] at E;cases E;exact kd ⟨a,r⟩;exact jZ ⟨i,ab,a,H,E,r⟩
def Jj{b:List (List Int)}(h:∀a∈b,∀t∈a,t.toNat<cz b) :x∈((df b)[u]?).getD []↔ ∃i:Nat,x=i/\∃a,b[i]?=Z a/\∃t∈a,u=t.toNat:=by unfold df;rw[Ns h];constructor;rintro⟨i,_,r⟩;exact⟨i,r⟩;rintro⟨i,q,a,j,r⟩;exact⟨i,(cY.mp j).1,q,a,j,r⟩
def ahY(out:List (List Int))(i:Nat)(t:Int)(u:Nat):cz (((zg out i t)[u]?).getD [])<=cz ((out[u]?).getD [])+1:=by unfold zg;rw[fO];by_cases e:t.toNat=u;subst e;rw[bK rfl];split;simp;simp;rw[bM e];omega
def HG(i u:Nat):∀(a:List Int)(out:List (List Int)),cz (((kV out i a)[u]?).getD [])<=cz ((out[u]?).getD [])+cz a
 |[],out=>by simp[kV]
 |t::a,out=>by have b:=HG i u a (zg out i t);have b:=ahY out i t u;show(((kV (zg out i t) i a)[u]?).getD []).length<=_;simp only[List.length_cons];omega
def Ai{n:Nat}{tos:List (List Int)}(h:∀a∈tos,cz a<=2)(u:Nat):∀k,cz (((upto n tos k)[u]?).getD [])<=2*k
 |0=>by unfold upto;rw[Qp];split<;>simp
 |k+1=>by have q:=Ai (n:=n) h u k;unfold upto;rcases j:tos[k]? with _|a;dsimp only;omega;dsimp only;have:=HG k u a (upto n tos k);have:=h a (cO j);omega
def rowOf(a:List (List Int))(u:Nat):Nat->List Int
 |0=>[]
 |k+1=>rowOf a u k++ae ((((a[k]?).getD []).map qA).count u) (k:Int)
def Xg(i u:Nat):∀(e:List Int)(out:List (List Int)),(∀t∈e,t.toNat<cz out)->((kV out i e)[u]?).getD []=((out[u]?).getD [])++ae ((e.map qA).count u) (i:Int)
 |[],out,_=>by simp[kV]
 |t::e,out,h=>by
  show((kV (zg out i t) i e)[u]?).getD []=_;rw[Xg i u e (zg out i t) (λx j=>by rw[LH];exact h x (xV _ j))];have a:=h t (iY ..);have e:((zg out i t)[u]?).getD []=((out[u]?).getD [])++(if t.toNat=u then [(i:Int)] else []):=by unfold zg;rw[fO];by_cases e:t.toNat=u;subst e;rw[bK Q,bK a,bK rfl];rfl;rw[bM e,bM e,Bx]
  rw[e,xg,List.count_cons,MD];congr 1;by_cases e:t.toNat=u;rw[bK e];simp[e,kb];rw[bM e];simp[e]
def Om{b:List (List Int)}{n:Nat}(h:∀a∈b,∀t∈a,t.toNat<n)(u:Nat):∀k,((upto n b k)[u]?).getD []=rowOf b u k
 |0=>by unfold upto rowOf;rw[Qp];split<;>rfl
 |k+1=>by unfold upto rowOf;rcases j:b[k]? with _|a;dsimp only;rw[Om h u k];simp;dsimp only;rw[Xg k u a _ (λt q=>by rw[xR];exact h a (cO j) t q),Om h u k];rfl
def acN{a:List (List Int)}(h:∀ts∈a,∀t∈ts,t.toNat<cz a){c:List Int}(b:(df a)[u]?=Z c):c=rowOf a u (cz a):=by have:=Om h u (cz a);unfold df at b;rw[b] at this;exact this
end Go.AI.Edge
namespace Go.Proofs.YtdhnndleffachaaGreatDoor
open Go.AI
variable{AH B F G T:SV}{C b bytes c d f k l n n0 o s t:Nat}{QQ:bH->Env->az->Prop}{R:Env->az->Prop}{bs:List GB}{e e':Env}{p g:List GF}{h U h2:az}{nD:List (List Int)}{names i xs:List ByteArray}{m ro:Bool}{v:aa}{ws:List SV}{x:Int}{z:List aa}{α:Type}
def encI:e7 Int:=⟨λx=>[fc ft x],1,λ_=>rfl,ag,λ_=>rfl⟩
@[simp] def Dp:encI.sz=1:=rfl
@[simp] def Vq(x:Int):encI.enc x=[fc ft x]:=rfl
def zV:e7 SV:=⟨λw=>[w.v],1,λ_=>rfl,ag,λw=>rfl⟩
@[simp] def abJ:zV.sz=1:=rfl
@[simp] def atg(w:SV):zV.enc w=[w.v]:=rfl
def bm.E5{E:e7 α}{xs:List α}(a:bm E n0 h v xs):∃L:SV,v=L.v:=by rcases a with⟨_,rfl⟩|⟨b,s,rfl,_⟩;exact⟨⟨K,0,0⟩,Q⟩;exact⟨⟨Z ⟨b,0,K⟩,cz xs,cz xs⟩,Q⟩
structure lx{α:Type}(E:e7 α)(n0:Nat)(h:az)(d:Nat)(ws:List SV)(nD:List (List α)):Prop where
 bZ:di h d (zV.flat ws)
 len:cz ws=cz nD
 acc:∀(i:Nat)(w:SV)(xs:List α),ws[i]?=Z w->nD[i]?=Z xs->bm E n0 h w.v xs
 dis:∀(i j:Nat)(wi wj:SV)(b:Nat),ws[i]?=Z wi->ws[j]?=Z wj->i≠j->bx wi.v b->¬bx wj.v b
 new:n0<=d
 yH:∀(i:Nat)(w:SV),ws[i]?=Z w->¬bx w.v d
def lx.grow{α:Type}{E:e7 α}{n0:Nat}{S:Nat->Prop}{h j:az}{d:Nat}{ws:List SV}{nD:List (List α)}(w:lx E n0 h d ws nD)(q:cu h)(g:ay S h j)(D:∀b,n0<=b->¬S b):lx E n0 j d ws nD:=by have⟨s,j⟩:=w.bZ;refine⟨⟨s,g.get q j (D _ w.new)⟩,w.len,λi H xs U h2=>?_,w.dis,w.new,w.yH⟩;have a:=w.acc i H xs U h2;exact a.grow q g (λb j=>D b (a.of j))
def lx.cm{E:e7 α}{h a:az}{nD:List (List α)}(w:lx E n0 h d ws nD)(b:cu h)(g:ay aR h a):lx E n0 a d ws nD:=w.grow b g ai
def ai4(ws:List SV)(i:Nat)(x:SV)(h:i<cz ws):aX (zV.flat ws) i [x.v]=zV.flat (ws.set i x):=by have:=zV.jV ws i x h;simpa using this
def Gn(j:h.tr.get d=Z (.bZ (zV.flat ws) ro o s)){x:SV}(a:ws[k]?=Z x):cy h d k 1=Z [x.v]:=by have q:=(cY.mp a).1;rw[dx j (by rw[zV.dT];show k+1<=cz ws*1;omega)];have:=zV.sw ws k 0 1 x a ag;simp only[A1] at this;rw[show k=k*zV.sz from(ib k).symm,this];rfl
def lx.set{α:Type}{E:e7 α}{n0:Nat}{h h2:az}(c:cu h){d:Nat}{ws:List SV}{nD:List (List α)}(w:lx E n0 h d ws nD){i:Nat}{N W:SV}{xs D:List α}(f:ws[i]?=Z N)(p:nD[i]?=Z xs)(g:ay (bx N.v) h h2)(p:bm E n0 h2 W.v D)(O:∀b,bx W.v b->h.aw<=b):∃s,h2.tr.get d=Z (.bZ (zV.flat ws) cd 0 s)/\lx E n0 (put h2 d i (zV.flat ws) [W.v] 0) d (ws.set i W) (nD.set i D):=by
 have⟨s,D⟩:=w.bZ;have E:=(c.cg D).lt;have a:=(cY.mp f).1;have M:=g.get c D (w.yH i N f);refine⟨s,M,?_⟩;have l:ay (· =d) h2 (put h2 d i (zV.flat ws) [W.v] 0):=bc g.ok M;refine⟨⟨h2.clock,by rw[aZ,ai4 ws i W a]⟩,by simp[w.len],λj H r U q=>?_,λj k E m b U q o I W=>?_,w.new,λj H U=>?_⟩
 rw[fO] at U q;by_cases e:i=j;subst e;rw[bK Q,bK a] at U;rw[bK Q,bK (by rw[<-w.len];exact a)] at q;cases U;cases q;exact p.grow g.ok l (λb D e=>av (O b D));rw[bM e] at U q;have p:=w.acc j H r U q;exact(p.grow c g (λb D M=>w.dis i j N H b f U e M D)).grow g.ok l (λb D M=>w.yH j H U (M▸D))
 .rw[fO] at U q;have l:∀(k:Nat)(H:SV),ws[k]?=Z H->∀b,bx H.v b->b<h.aw:=by
   intro k H f b D;have N:=(cY.mp f).1;obtain⟨p,n,p,e⟩:=D;rcases w.acc k H _ f (jh (by rw[<-w.len];exact N)) with⟨_,M⟩|⟨b',s',M,gY,_⟩
   rw[M] at e;cases e;rw[M] at e;cases e;exact c.wf _ _ gY
  by_cases e:i=j;subst e;rw[bK Q,bK a] at U;rw[bM o] at q;cases U;have c:=O b I;have c:=l k m q b W;omega
  .rw[bM e] at U;by_cases e':i=k;subst e';rw[bK Q,bK a] at q;cases q;have:=O b W;have:=l j E U b I;omega
   rw[bM e'] at q;exact w.dis j k E m b U q o I W
 .rw[fO] at U;by_cases e:i=j;subst e;rw[bK Q,bK a] at U;cases U;exactλD=>av (O d D)
  rw[bM e] at U;exact w.yH j H U
def fg{E:e7 α}(I:cu h){v w:aa}{xs:List α}{y:α}(H:cz z=E.sz)(c:bm E n0 h v xs)(O:bp E h w [y])(M:cz xs<1000000)(M:bytes<=1000)(a:n0<=h.aw):∃j q,js h z bytes cd v w=Z (j,q)/\bm E n0 q j (xs++[y])/\ay (bx v) h q/\∀b,bx j b->b=h.aw:=by
 unfold js;rw[HN H O];dsimp only;have O:roomy (cz xs+1)=ck:=by simp[roomy];omega
 have w:roomy ((cz xs+1)*bytes)=ck:=by have:(cz xs+1)*bytes<=1000000*1000:=sn ab M;simp[roomy];omega
 have j:=E.pos;have M:E.sz≠0:=ab
 rcases c with⟨rfl,rfl⟩|⟨b,s,rfl,c,q,q⟩
 .have N:roomy bytes=ck:=by simp[roomy];omega
  refine⟨dB (Z ⟨h.aw,0,K⟩) 1 1,aJ h (E.flat [y]) E.sz,?_,kd ⟨h.aw,0,Q,J,J,a⟩,(aO I _ _).cm,?_⟩;have q:roomy 1=ck:=Q;simp[eI,H,j,N,q];rintro b⟨q,n,D,e⟩;cases e;rfl
 .refine⟨dB (Z ⟨h.aw,0,K⟩) (cz xs+1) (cz xs+1),aJ {h with tr:=h.tr.del b} (E.flat xs++E.flat [y]) E.sz,?_,kd ⟨h.aw,0,J,?_,J,a⟩,?_,?_⟩
  .have N:¬(cz xs)+1<=cz xs:=ab
   have a:(E.flat xs).take (cz xs*E.sz)=E.flat xs:=tK J;simp[eI,H,j,O,w,c,N,a,M]
  have:=bX {h with tr:=h.tr.del b} (E.flat xs++E.flat [y]) E.sz;rw[e7.fK];exact this;refine((pc I b).cU ?_).trans (aO (pc I b).ok _ _).cm;rintro x _ rfl;exact⟨_,_,_,Q⟩;rintro I⟨q,n,D,e⟩;cases e;rfl
def aG(l:List Nat)(e e':Env):Prop:=∀t,t∉l->bY e' t=bY e t
def aG.refl(l:List Nat)(e:Env):aG l e e:=λ_ _=>rfl
def aG.set{l:List Nat}{e e':Env}{k:Nat}{v:aa}(b:aG l e e')(j:k∈l:=by decide):aG l e (Tr.set e' k v):=λt a=>by rw[Env.bN,bM (by rintro rfl;exact a j)];exact b t a
def aq {p:Prop} (h:p:=by (repeat (refine aG.set ?_));assumption):p:=h
def aG.at{l:List Nat}{t:Nat}(b:aG l e e')(f:bY e t=v)(a:t∉l:=by decide):bY e' t=v:=(b t a).trans f
def aG.trans{l:List Nat}{e w j:Env}(a:aG l e w)(b:aG l w j):aG l e j:=λt q=>(b t q).trans (a t q)
def dh{F:Nat->Option dm}{d:Option Nat}{l:List cr}{o:Option (aa×az)}(a:o=Z (v,h))(H:bh F l (ik e d v) h R):Zs F d l e R o:=by rw[a];exact H
def mn{F:Nat->Option dm}{a:List Nat}{d:Option Nat}{m:List (cr×List Nat)}{o:Option (aa×az)}(j:o=Z (v,h))(H:still (ik e d v) h k a=ck/\bS F k m (ik e d v) h R):Zv F k a d m e R o:=by rw[j];exact H
def aC(a:ByteArray)(params c:Int)(b:SV):List aa:=[gX a,fc ft params,fc ft c,b.v]
def abB(w:lx encI n0 h d ws nD):ad (KG h) 1 h (SV.v ⟨Z ⟨d,0,K⟩,cz nD,c⟩) nD:=by
 have⟨s,D⟩:=w.bZ;refine⟨_,c,Q,kd ⟨d,0,_,_,_,_,Q,D,λi xs D=>?_⟩⟩;have I:=(cY.mp D).1;have⟨j,q⟩:=aQ ws i (show i<cz ws by rw[w.len];exact I);have:=zV.tf ws i j q;simp only[abJ,ib] at this;rw[IV,ib,this];refine⟨Q,j,Q,?_⟩;have a:=w.acc i j xs q D;rcases a with⟨rfl,e⟩|⟨b,E,e,E,M,_⟩
 rw[e];exact⟨K,0,Q,jZ ⟨Q,jZ Q⟩⟩;rw[e];refine⟨_,_,Q,kd ⟨b,0,_,_,_,_,Q,E,λk x H=>?_⟩⟩;have:=encI.tf xs k x H;simp only[Dp,ib] at this;rw[IV,ib,this];exact⟨Q,Q⟩
def UU(h:az)(E:cu h)(E:e7 α)(n n0:Nat)(I:n0<=h.aw):lx E n0 (aJ h (ky [dB K 0 0] n) 0) h.aw (ae n cM) (ae n []):=by
 have D:ky [bf K 0 0] n=zV.flat (ae n cM):=by
  have:∀n,ky [bf K 0 0] n=zV.flat (ae n cM):=by
   intro n;induction n with
   |zero=>rfl
   |succ n q=>rw[kb,e7.jb,<-q];rfl
  exact this n
 refine⟨⟨0,by rw[<-D];exact bX _ _ _⟩,J,λi w xs U h2=>?_,λi j a M b U _ _ a=>?_,I,λi w U a=>?_⟩;rw[Qp] at U h2;split at U;rename_i H;rw[bK H] at h2;cases U;cases h2;exact jZ ⟨Q,Q⟩;cases U;rw[Qp] at U;split at U<;>cases U;have⟨_,_,_,e⟩:=a;cases e;rw[Qp] at U;split at U<;>cases U;have⟨_,_,_,e⟩:=a;cases e
def ar2(h h2:az)(b:GB)(nD:List (List Int))(n0 d k:Nat)(e:Env)(m:Nat)(e':Env)(a:az):Prop:=
 ∃(j:Nat) (q:List SV),m=cz b.to-j/\j<=cz b.to/\bC e' 24 j/\aG [25,26,27,7,28,29,30,31,32,33,34,35,36,37,38,24] e e'/\ay aR h a/\h2.aw<=a.aw/\lx encI n0 a d q (Edge.kV nD k (b.to.take j))
def Zi(p:cu h){b:GB}(f:ad nR 1 h T.v b.to)(v:cz b.to<=2)(v:n<=1000)(v:∀t∈b.to,0<=t/\t<n)(w:lx encI n0 h2 d ws nD)(D:cz nD=n)(x:∀u:Nat,cz ((nD[u]?).getD [])<=2*k)(j:k<=1000)(j:ay aR h h2)(z:n0<=h2.aw)(z:h.aw<=n0)(z:bY e 3=dB (Z ⟨d,0,K⟩) n n)(I:bC e 4 k)(O:bY e 22=T.v)(i:bC e 23 (cz b.to))(l:bC e 24 0)(C:∀e' N a,ay aR h N->h2.aw<=N.aw->aG [25,26,27,7,28,29,30,31,32,33,34,35,36,37,38,24] e e'->lx encI n0 N d a (Edge.kV nD k b.to)->QQ (.exit 2) e' N):aK FF (.loop uE) e h2 QQ:=by
 have s:=ad.len f;refine aK.loop (ar2 h h2 b nD n0 d k e) ?_ (n:=cz b.to)
  ⟨0,ws,Q,ab,l,aG.refl _ _,j,fq _,by simpa [Edge.kV] using w⟩
 rintro m e' N⟨j,a,rfl,l,l,g,E,A,q⟩;unfold uE;have y:=g.at z;have z:=g.at I;have I:=g.at O;have O:=g.at i;by_cases i:j<cz b.to
 .have o:b.to[j]?=Z b.to[j]:=jh i;have r:=Ik i;generalize b.to[j]=t at o r;obtain⟨w,w⟩:=v t r;obtain⟨u,rfl⟩:∃u:Nat,t=u:=⟨t.toNat,ab⟩;have v:u<n:=ab
  obtain⟨w,w,c,V,_,_,rfl,_,w⟩:=ad.later p f o;have r:=w N E 0 1 ag;simp[-ax] at r;have w:=ch (j+1) ab ab;obtain⟨p,p⟩:=q.bZ;have f:cz (Edge.kV nD k (b.to.take j))=n:=by rw[Edge.H7,D]
  have D:cz a=n:=by rw[q.len,f]
  have f:a[u]?=Z a[u]:=jh ab;have D:(Edge.kV nD k (b.to.take j))[u]?=Z (Edge.kV nD k (b.to.take j))[u]:=jh ab;generalize a[u]=wu at f;generalize H:(Edge.kV nD k (b.to.take j))[u]=xs at D;have H:=Gn p f;have M:cz xs<1000000:=by
   have U:=Edge.HG k u (b.to.take j) nD;rw[D] at U;have B:=x u;simp at U;have:cz (b.to.take j)<=2:=by simp;omega
   simp at this;omega
  simp at I;simp[-ax] at H;have x:=E.ok.cg p;simp[y,z,I,O,l,V,s,i,r,v,H,-ax,x];have i:=aO E.ok (encI.enc (k:Int)) 0;have r:=q.cm E.ok i;have H:bp encI (aJ N (encI.enc (k:Int)) 0) (dB (Z ⟨N.aw,0,K⟩) 1 1) [(k:Int)]:=⟨_,_,Q,kd ⟨N.aw,0,_,_,_,_,Q,bX _ _ _,J,J⟩⟩;obtain⟨x,x,I,s,p,z⟩:=fg (bytes:=8) i.ok (z:=[fc ft 0]) rfl (r.acc u wu xs f D) H M ag (by show n0<=N.aw+1;omega);refine dh I ?_;obtain⟨V,rfl⟩:=bm.E5 s;have⟨H,M,I⟩:=r.set i.ok f D p s (λb N=>by rw[z b N];exact fq _);have s:∀b,bx wu.v b->n0<=b:=λb N=>(q.acc u wu xs f D).of N;have f:u<=cz (zV.flat a)-1:=by simp;omega
  have f:u+1<=cz a:=ab
  simp[v,M,f,w,l];refine⟨cz b.to-(j+1),ab,j+1,a.set u V,Q,ab,J,?_,?_,?_,?_⟩
  .exact aq
  have w:ay aR h x:=(E.trans i).trans' p ai (λb N h=>av (s b h));exact w.put ⟨H,M⟩ (jZ (av q.new));have:=p.aw;simp at this⊢;omega
  .rw[Edge.Rh o];have:(Edge.zg (Edge.kV nD k (b.to.take j)) k (u:Int))=(Edge.kV nD k (b.to.take j)).set u (xs++[(k:Int)]):=by unfold Edge.zg;rw[E0,D];rfl
   rw[this];simpa using I
 .have:j=cz b.to:=ab
  subst this;rw[mO] at q;simp[O,l];exact C _ _ a E A (g.set) q
def cw(bs:List GB):List (List Int):=bs.map (·.to)
structure kE(bs:List GB):Prop where
 len:cz bs<=1000
 two:∀b∈bs,cz b.to<=2
 to:∀b∈bs,∀t∈b.to,0<=t/\t<cz bs
def AhI(h:az)(B:SV)(bs:List GB)(d:Nat)(n0:Nat)(m:Nat)(e:Env)(h2:az):Prop:=
 ∃(j:Nat) (ws:List SV),m=cz bs-j/\j<=cz bs/\bY e 3=dB (Z ⟨d,0,K⟩) (cz bs) (cz bs)/\bY e 13=B.v/\bC e 14 (cz bs)/\bC e 15 j/\ay aR h h2/\n0<=h2.aw/\lx encI n0 h2 d ws (Edge.upto (cz bs) (cw bs) j)
def mh(b:cu h){name:ByteArray}{p r:Int}(g:qP h B bs)(E:kE bs):aY FF 101 [ix ⟨aC name p r B⟩] h (λv O=>ay aR h O/\∃d ws,v=dB (Z ⟨d,0,K⟩) (cz bs) (cz bs)/\lx encI h.aw O d ws (Edge.df (cw bs))):=by
 have H:=ad.len g;have I:=E.len;have I:roomy (cz bs)=ck:=by simp[roomy];omega
 have a:roomy (cz bs*24)=ck:=by simp[roomy];omega
 refine aY.of O1 ?_;unfold EC;simp[aC,H,I,a];refine aK.cut (λU=>ay aR h U/\lx encI h.aw U (h.aw+1) (ae (cz bs) cM) (ae (cz bs) [])) ?_ ?_;have I:=aO b (aC name p r B) 0;have:=UU (aJ h (aC name p r B) 0) I.ok encI (cz bs) h.aw (dd _);refine⟨?_,by simpa [aC,H] using this⟩;have a:=I.new (ky [dB K 0 0] (cz bs)) 0;simpa [aC,H] using a
 rintro U⟨I,j⟩;have M:h.aw+1<U.aw:=by have⟨s,M⟩:=j.bZ;exact I.ok.cg M
 refine aK.loop (AhI h B bs (h.aw+1) h.aw) ?_ (n:=cz bs) ⟨0,_,Q,ab,J,au H,au H,J,I,ab,by simpa [Edge.upto] using j⟩;rintro m e h2⟨j,ws,rfl,I,M,D,q,w,a,l,n⟩;unfold Bz;by_cases N:j<cz bs
 .have I:bs[j]?=Z bs[j]:=jh N;have f:=Ik N;generalize bs[j]=x at I f;obtain⟨t,t,c,t,_,_,⟨P,L,T,rfl,i,i,i⟩,_,o⟩:=ad.later b g I;have g:=o h2 a 0 6 ag;simp[-ax] at g;have o:=ch (j+1) ab ab;have u:=ad.len i;simp at D;have k:=D;rw[t,H] at k;simp[M,k,q,w,N,g,-ax,aH];refine aK.cut (λN=>ay aR h2 N) ?_ ?_
  exact(ay.refl a.ok).var _ _;rintro N N;have g:=a.trans N;refine Zi b i (E.two x f) E.len (E.to x f) (k:=j) (n.cm a.ok N) (Edge.xR _ _ _) (λb=>Edge.Ai (λi f=>?_) b j) ab g (qN l N.aw) (fq _) (au M) J J (au u) J ?_
  unfold cw at f;obtain⟨y,g,rfl⟩:=kC.1 f;exact E.two y g
  .intro e' O f g k E O;have b:=E.at (t:=15) (ak w);have u:=E.at (t:=3) (ak M);have y:=E.at (t:=13) (ak D);have D:=E.at (t:=14) (ak q);simp[b,o];refine⟨cz bs-(j+1),ab,j+1,f,Q,ab,au u,au y,au D,J,g,qN l (qN N.aw k),?_⟩;have N:(cw bs)[j]?=Z x.to:=by simp[cw,I]
   have:Edge.upto (cz bs) (cw bs) (j+1)=Edge.kV (Edge.upto (cz bs) (cw bs) j) j x.to:=by show(match(cw bs)[j]? with|some i=>Edge.kV (Edge.upto (cz bs) (cw bs) j) j i|none=>Edge.upto (cz bs) (cw bs) j)=_;rw[N]
   rw[this];exact O
 .have:j=cz bs:=ab
  subst this;simp[M,q,w];refine⟨a,ws,?_⟩;have:Edge.df (cw bs)=Edge.upto (cz bs) (cw bs) (cz bs):=by simp[Edge.df,cw]
  rw[this];exact n
def ar6(h h2:az)(b:GB)(nD:List (List Int))(n0 d k:Nat)(e:Env)(m:Nat)(e':Env)(a:az):Prop:=
 ∃(j:Nat) (q:List SV),m=cz b.to-j/\j<=cz b.to/\bC e' 24 j/\aG [25,26,27,7,28,29,30,31,32,33,34,35,36,37,38,24] e e'/\ay aR h a/\h2.aw<=a.aw/\lx encI n0 a d q (Edge.kV nD k (b.to.take j))
def YL(p:cu h){b:GB}(f:ad nR 1 h T.v b.to)(v:cz b.to<=2)(v:n<=1000)(v:∀t∈b.to,0<=t/\t<n)(w:lx encI n0 h2 d ws nD)(D:cz nD=n)(x:∀u:Nat,cz ((nD[u]?).getD [])<=2*k)(j:k<=1000)(j:ay aR h h2)(z:n0<=h2.aw)(z:h.aw<=n0)(z:bY e 3=dB (Z ⟨d,0,K⟩) n n)(I:bC e 4 k)(O:bY e 22=T.v)(i:bC e 23 (cz b.to))(l:bC e 24 0)(C:∀e' N a,ay aR h N->h2.aw<=N.aw->aG [25,26,27,7,28,29,30,31,32,33,34,35,36,37,38,24] e e'->lx encI n0 N d a (Edge.kV nD k b.to)->QQ (.exit 2) e' N):aK FF (.loop xG) e h2 QQ:=by
 have s:=ad.len f;refine aK.loop (ar6 h h2 b nD n0 d k e) ?_ (n:=cz b.to)
  ⟨0,ws,Q,ab,l,aG.refl _ _,j,fq _,by simpa [Edge.kV] using w⟩
 rintro m e' N⟨j,a,rfl,l,l,g,E,A,q⟩;unfold xG;have y:=g.at z;have z:=g.at I;have I:=g.at O;have O:=g.at i;by_cases i:j<cz b.to
 .have o:b.to[j]?=Z b.to[j]:=jh i;have r:=Ik i;generalize b.to[j]=t at o r;obtain⟨w,w⟩:=v t r;obtain⟨u,rfl⟩:∃u:Nat,t=u:=⟨t.toNat,ab⟩;have v:u<n:=ab
  obtain⟨w,w,c,V,_,_,rfl,_,w⟩:=ad.later p f o;have r:=w N E 0 1 ag;simp[-ax] at r;have w:=ch (j+1) ab ab;obtain⟨p,p⟩:=q.bZ;have f:cz (Edge.kV nD k (b.to.take j))=n:=by rw[Edge.H7,D]
  have D:cz a=n:=by rw[q.len,f]
  have f:a[u]?=Z a[u]:=jh ab;have D:(Edge.kV nD k (b.to.take j))[u]?=Z (Edge.kV nD k (b.to.take j))[u]:=jh ab;generalize a[u]=wu at f;generalize H:(Edge.kV nD k (b.to.take j))[u]=xs at D;have H:=Gn p f;have M:cz xs<1000000:=by
   have U:=Edge.HG k u (b.to.take j) nD;rw[D] at U;have B:=x u;simp at U;have:cz (b.to.take j)<=2:=by simp;omega
   simp at this;omega
  simp at I;simp[-ax] at H;have x:=E.ok.cg p;simp[y,z,I,O,l,V,s,i,r,v,H,-ax,x];have i:=aO E.ok (encI.enc (k:Int)) 0;have r:=q.cm E.ok i;have H:bp encI (aJ N (encI.enc (k:Int)) 0) (dB (Z ⟨N.aw,0,K⟩) 1 1) [(k:Int)]:=⟨_,_,Q,kd ⟨N.aw,0,_,_,_,_,Q,bX _ _ _,J,J⟩⟩;obtain⟨x,x,I,s,p,z⟩:=fg (bytes:=8) i.ok (z:=[fc ft 0]) rfl (r.acc u wu xs f D) H M ag (by show n0<=N.aw+1;omega);refine dh I ?_;obtain⟨V,rfl⟩:=bm.E5 s;have⟨H,M,I⟩:=r.set i.ok f D p s (λb N=>by rw[z b N];exact fq _);have s:∀b,bx wu.v b->n0<=b:=λb N=>(q.acc u wu xs f D).of N;have f:u<=cz (zV.flat a)-1:=by simp;omega
  have f:u+1<=cz a:=ab
  simp[v,M,f,w,l];refine⟨cz b.to-(j+1),ab,j+1,a.set u V,Q,ab,J,?_,?_,?_,?_⟩
  .exact aq
  have w:ay aR h x:=(E.trans i).trans' p ai (λb N h=>av (s b h));exact w.put ⟨H,M⟩ (jZ (av q.new));have:=p.aw;simp at this⊢;omega
  .rw[Edge.Rh o];have:(Edge.zg (Edge.kV nD k (b.to.take j)) k (u:Int))=(Edge.kV nD k (b.to.take j)).set u (xs++[(k:Int)]):=by unfold Edge.zg;rw[E0,D];rfl
   rw[this];simpa using I
 .have:j=cz b.to:=ab
  subst this;rw[mO] at q;simp[O,l];exact C _ _ a E A (g.set) q
def Va(b:cu h){name:ByteArray}{p r:Int}(g:qP h B bs)(E:kE bs):aY FF 141 [ix ⟨aC name p r B⟩] h (λv O=>ay aR h O/\∃d ws,v=dB (Z ⟨d,0,K⟩) (cz bs) (cz bs)/\lx encI h.aw O d ws (Edge.df (cw bs))):=by
 have H:=ad.len g;have I:=E.len;have I:roomy (cz bs)=ck:=by simp[roomy];omega
 have a:roomy (cz bs*24)=ck:=by simp[roomy];omega
 refine aY.of RR ?_;unfold GV;simp[aC,H,I,a];refine aK.cut (λU=>ay aR h U/\lx encI h.aw U (h.aw+1) (ae (cz bs) cM) (ae (cz bs) [])) ?_ ?_;have I:=aO b (aC name p r B) 0;have:=UU (aJ h (aC name p r B) 0) I.ok encI (cz bs) h.aw (dd _);refine⟨?_,by simpa [aC,H] using this⟩;have a:=I.new (ky [dB K 0 0] (cz bs)) 0;simpa [aC,H] using a
 rintro U⟨I,j⟩;have M:h.aw+1<U.aw:=by have⟨s,M⟩:=j.bZ;exact I.ok.cg M
 refine aK.loop (AhI h B bs (h.aw+1) h.aw) ?_ (n:=cz bs) ⟨0,_,Q,ab,J,au H,au H,J,I,ab,by simpa [Edge.upto] using j⟩;rintro m e h2⟨j,ws,rfl,I,M,D,q,w,a,l,n⟩;unfold CZ;by_cases N:j<cz bs
 .have I:bs[j]?=Z bs[j]:=jh N;have f:=Ik N;generalize bs[j]=x at I f;obtain⟨t,t,c,t,_,_,⟨P,L,T,rfl,i,i,i⟩,_,o⟩:=ad.later b g I;have g:=o h2 a 0 6 ag;simp[-ax] at g;have o:=ch (j+1) ab ab;have u:=ad.len i;simp at D;have k:=D;rw[t,H] at k;simp[M,k,q,w,N,g,-ax,aH];refine aK.cut (λN=>ay aR h2 N) ?_ ?_
  exact(ay.refl a.ok).var _ _;rintro N N;have g:=a.trans N;refine YL b i (E.two x f) E.len (E.to x f) (k:=j) (n.cm a.ok N) (Edge.xR _ _ _) (λb=>Edge.Ai (λi f=>?_) b j) ab g (qN l N.aw) (fq _) (au M) J J (au u) J ?_
  unfold cw at f;obtain⟨y,g,rfl⟩:=kC.1 f;exact E.two y g
  .intro e' O f g k E O;have b:=E.at (t:=15) (ak w);have u:=E.at (t:=3) (ak M);have y:=E.at (t:=13) (ak D);have D:=E.at (t:=14) (ak q);simp[b,o];refine⟨cz bs-(j+1),ab,j+1,f,Q,ab,au u,au y,au D,J,g,qN l (qN N.aw k),?_⟩;have N:(cw bs)[j]?=Z x.to:=by simp[cw,I]
   have:Edge.upto (cz bs) (cw bs) (j+1)=Edge.kV (Edge.upto (cz bs) (cw bs) j) j x.to:=by show(match(cw bs)[j]? with|some i=>Edge.kV (Edge.upto (cz bs) (cw bs) j) j i|none=>Edge.upto (cz bs) (cw bs) j)=_;rw[N]
   rw[this];exact O
 .have:j=cz bs:=ab
  subst this;simp[M,q,w];refine⟨a,ws,?_⟩;have:Edge.df (cw bs)=Edge.upto (cz bs) (cw bs) (cz bs):=by simp[Edge.df,cw]
  rw[this];exact n
structure AL(b:GB):Prop where
 ph:cz b.bz<=140737488355328
 li:cz b.list<=140737488355328
 to:cz b.to<=140737488355328
 row:∀p∈b.bz,cz p.row<=140737488355328
 args:∀x∈b.list,cz x.args<=140737488355328
def BW(n:Nat)(a:Int)(bs:List GB):Prop:=∀b∈bs,UM n a b
def BW.take{n:Nat}{a:Int}{bs:List GB}{j:Nat}{b:GB}(h:BW n a (bs.take j))(q:bs[j]?=Z b)(w:UM n a b):BW n a (bs.take (j+1)):=by intro x a;rw[kh,q] at a;rcases kg.1 a with U|U;exact h x U;simp at U;rw[U];exact w
def BW.ends{j:Int}(h:BW (cz bs) j bs)(j:cz bs<=1000):kE bs:=by refine⟨j,λb a=>?_,λb a t q=>?_⟩;rcases(h b a).kind with⟨_,e⟩|⟨_,t,e⟩|⟨_,t,u,e,_⟩<;>rw[e]<;>simp;have:=(h b a).to t q;unfold W9 at this;omega
section
variable{gs fs a r:SV}{name:ByteArray}{params aF:Int}
def ayW(h:az)(gs fs B r:SV)(name:ByteArray)(params aF:Int)(bs:List GB)(m:Nat)(e:Env)(h2:az):Prop:=
 ∃j:Nat,m=cz bs-j/\j<=cz bs/\bU e 1 h.aw/\bY e 16=B.v/\bC e 17 (cz bs)/\bC e 18 j/\ay aR h h2/\h2.tr.get h.aw=Z (.bZ (bJ gs fs name params aF B r) cd 0 0)/\BW (cz bs) aF (bs.take j)
def acT(d:cu h)(y:IC h)(L:0<=aF/\aF<1000000)(A:qP h B bs)(z:cz bs<=1000)(v:∀b∈bs,AL b)(t:ay aR h U)(i:eR U h.aw (bJ gs fs name params aF B r) 0)(z:bU e 1 h.aw)(w:bY e 16=B.v)(a:bC e 17 (cz bs))(q:bC e 18 0)(n:∀c e' I,c≠0->bC e' 2 c->ay aR h I->QQ .ret e' I)(P:∀e' I,bU e' 1 h.aw->ay aR h I->I.tr.get h.aw=Z (.bZ (bJ gs fs name params aF B r) cd 0 0)->BW (cz bs) aF bs->QQ (.exit 0) e' I):aK FF (.loop kJ) e U QQ:=by
 have F:=ad.len A;refine aK.loop (ayW h gs fs B r name params aF bs) ?_ (n:=cz bs) ⟨0,Q,ab,z,w,a,q,t,i,λb s=>by simp at s⟩;rintro m e h2⟨j,rfl,g,z,w,a,q,H,N,p⟩;unfold kJ;by_cases f:j<cz bs
 .have l:bs[j]?=Z bs[j]:=jh f;have E:=Ik f;generalize bs[j]=x at l E;obtain⟨t,i,c,k,_,_,⟨u,u,T,rfl,I,u,s⟩,_,i⟩:=ad.later d A l;have o:=i h2 H 0 6 ag;simp[-ax] at o;have S:=ch (j+1) ab ab;have O:=H.ok.cg N;have g:=N;simp only[bJ] at g;have D:=w;simp at D;rw[k,F] at D;simp[z,D,a,q,f,o,-ax,aH,cn,bj,O,aB g];refine bh.cut (λC=>ay aR h2 C) ?_ ?_
  exact(ay.refl H.ok).var _ _;rintro C W;have M:=H.trans W;refine bh.call (V:=zJ (λc=>c=0->UM (cz bs) aF x) C) ?_ ?_
  .have I:aY FF 140 [ix ⟨bJ gs fs name params aF B r⟩,ix ⟨[fc ft x.kind,dC x.on.1,fc ft x.on.2,T.v]⟩] C (zJ (λc=>c=0->UM (cz bs) aF x) C):=by rw[<-F];exact agv M.ok (y.grow d M) L ab (b:=x) (av ((v x E).to)) (s.mono d M λ_ _ h=>h)
   simpa [bJ,F] using I
  rintro _ u⟨O,c,rfl,A⟩;have V:=M.trans O;by_cases d:c=0
  subst d;simp[q,S];refine⟨cz bs-(j+1),ab,j+1,Q,ab,au z,by simp[w],by simp[a],J,V,(W.trans O).get H.ok N,p.take l (A Q)⟩;have:=xy d;simp[this];exact n c _ _ d J V
 .have:j=cz bs:=ab
  subst this;rw[mO] at p;simp[a,q];exact P _ _ (au z) H N p
structure afS(aF:Int)(yV:List (List Int))(i:Nat)(b:GB):Prop where
 bz:∀p∈b.bz,i≠0/\∃l,yV[i]?=Z l/\PO aF (cz l) p
 list:∀x∈b.list,zK aF x
def Yl(aF:Int)(a:List (List Int))(bs:List GB):Prop:=∀(i:Nat) b,bs[i]?=Z b->afS aF a i b
def azl(h U:az)(a:Env)(P:SV)(aF:Int)(n:Nat)(i:Nat)(b:List GP)(C:Nat)(q:List aa)(t:Nat)(m:Nat)(e:Env)(h2:az):Prop:=
 ∃j:Nat,m=cz b-j/\j<=cz b/\aG [47,48,49,9,50,51,52,53,10,54,55,56,57,46,2] a e/\bC e 46 j/\ay aR U h2/\∀p∈b.take j,i≠0/\PO aF n p
def acV(n:cu h)(L:0<=aF/\aF<1000000){i:Nat}{l:List Int}(S:nD[i]?=Z l)(F:ad (KG U) 1 U AH.v nD){P:SV}{b:List GP}(M:ad (pR h) 2 h P.v b)(y:cz b<=140737488355328)(y:∀p∈b,cz p.row<=140737488355328)(I:ay aR h U)(v:eR U C (bJ gs fs name params aF B AH) t)(A:bU e 1 C)(q:bC e 6 i)(H:bY e 44=P.v)(g:bC e 45 (cz b))(N:bC e 46 0)(z:∀c e' D,c≠0->bC e' 2 c->ay aR U D->QQ .ret e' D)(s:∀e' D,aG [47,48,49,9,50,51,52,53,10,54,55,56,57,46,2] e e'->ay aR U D->(∀p∈b,i≠0/\PO aF (cz l) p)->QQ (.exit 4) e' D):aK FF (.loop kH) e U QQ:=by
 have T:=ad.len M;refine aK.loop (azl h U e P aF (cz l) i b C (bJ gs fs name params aF B AH) t) ?_ (n:=cz b) ⟨0,Q,ab,aG.refl _ _,N,.refl I.ok,λp N=>by simp at N⟩;rintro m e' h2⟨j,rfl,P,d,a,w,f⟩;have P:=I.trans w;unfold kH;have E:=d.at A;have A:=d.at q;have q:=d.at H;have H:=d.at g;by_cases D:j<cz b
 .have g:b[j]?=Z b[j]:=jh D;have o:=Ik D;generalize b[j]=x at g o;obtain⟨V,V,c,V,_,_,⟨W,rfl,G⟩,_,u⟩:=ad.later n M g;have M:=u h2 P 0 2 ag;simp[-ax] at M;have u:=ch (j+1) ab ab;have k:=w.get I.ok v;have O:=w.ok.cg k;simp only[bJ] at k;simp at q;rw[V,T] at q;simp[E,A,q,H,a,D,M,-ax,aH,cn,bj,O,aB k];refine bh.cut (λD=>ay aR h2 D) ?_ ?_
  exact(ay.refl w.ok).var _ _;rintro D k;have M:=P.trans k;have q:=w.trans k;refine bh.call (V:=zJ (λc=>c=0->i≠0/\PO aF (cz l) x) D) ?_ ?_
  .have E:aY FF 142 [ix ⟨bJ gs fs name params aF B AH⟩,fc ft i,ix ⟨[fc ft x.dst,W.v]⟩] D (zJ (λc=>c=0->i≠0/\PO aF (cz l) x) D):=
    aiw M.ok L (F.mono I.ok q λ_ _ r=>r.mono I.ok q) S (av (y x o)) (G.mono n M λ_ _ h=>h)
   simpa [bJ] using E
  rintro _ E⟨n,c,rfl,E⟩;have M:=q.trans n;by_cases q:c=0
  .subst q;simp[a,u];refine⟨cz b-(j+1),ab,j+1,Q,ab,?_,J,M,?_⟩
   .exact aq
   intro p N;rw[kh,g] at N;rcases kg.1 N with h|h;exact f p h;simp at h;rw[h];exact E rfl
  have:=xy q;simp[this];exact z c _ _ q J M
 .have:j=cz b:=ab
  subst this;rw[mO] at f;simp[H,a];exact s _ _ (d.set) w f
def ay0(h U:az)(a:Env)(aF:Int)(xs:List GI)(m:Nat)(e:Env)(h2:az):Prop:=
 ∃j:Nat,m=cz xs-j/\j<=cz xs/\aG [62,63,64,12,65,66,67,13,68,69,70,71,61,2] a e/\bC e 61 j/\ay aR U h2/\∀x∈xs.take j,zK aF x
def acU(N:cu h)(G:0<=aF/\aF<1000000)(F:ad (fR h) 4 h fs.v g)(E:cz g<1000000/\∀f∈g,f.params<=6){L:SV}{xs:List GI}(n:ad (iR h) 8 h L.v xs)(v:cz xs<=140737488355328)(v:∀x∈xs,cz x.args<=140737488355328)(k:ay aR h U)(u:eR U C (bJ gs fs name params aF B AH) t)(D:bU e 1 C)(O:bY e 59=L.v)(i:bC e 60 (cz xs))(L:bC e 61 0)(z:∀c e' H,c≠0->bC e' 2 c->ay aR U H->QQ .ret e' H)(s:∀e' H,aG [62,63,64,12,65,66,67,13,68,69,70,71,61,2] e e'->ay aR U H->(∀x∈xs,zK aF x)->QQ (.exit 6) e' H):aK FF (.loop kG) e U QQ:=by
 have P:=ad.len n;refine aK.loop (ay0 h U e aF xs) ?_ (n:=cz xs) ⟨0,Q,ab,aG.refl _ _,L,.refl k.ok,λp M=>by simp at M⟩;rintro m e' h2⟨j,rfl,L,b,q,w,d⟩;have o:=k.trans w;unfold kG;have A:=b.at D;have a:=b.at O;have D:=b.at i;by_cases i:j<cz xs
 .have l:xs[j]?=Z xs[j]:=jh i;have I:=Ik i;generalize xs[j]=x at l I;obtain⟨O,O,c,y,_,_,⟨W,rfl,O⟩,_,H⟩:=ad.later N n l;have L:=H h2 o 0 8 ag;simp[aM,-ax] at L;have n:=ch (j+1) ab ab;have H:=w.get k.ok u;have u:=w.ok.cg H;simp only[bJ] at H;simp at a;rw[y,P] at a;simp[A,a,D,q,i,L,-ax,aH,cn,bj,u,aB H];refine bh.cut (λi=>ay aR h2 i) ?_ ?_
  exact(ay.refl w.ok).var _ _;rintro i L;have H:=o.trans L;have o:=w.trans L;refine bh.call (V:=zJ (λc=>c=0->zK aF x) i) ?_ ?_
  have i:=ahI (gs:=gs) (fs:=fs) (name:=name) (params:=params) (aF:=aF) (blocks:=B) (ah:=AH) H.ok G (F.mono N H λ_ _ r=>r.mono N H) E (x:=x) (O.mono N H λ_ _ h=>h) (av (v x I));simpa [bJ,aM] using i;rintro _ i⟨H,c,rfl,i⟩;have I:=o.trans H;by_cases H:c=0
  .subst H;simp[q,n];refine⟨cz xs-(j+1),ab,j+1,Q,ab,?_,J,I,?_⟩
   .exact aq
   intro p M;rw[kh,l] at M;rcases kg.1 M with h|h;exact d p h;simp at h;rw[h];exact i rfl
  have:=xy H;simp[this];exact z c _ _ H J I
 .have:j=cz xs:=ab
  subst this;rw[mO] at d;simp[D,q];exact s _ _ (b.set) w d
end
section
variable{gs fs a ah:SV}{name:ByteArray}{params aF:Int}
def BlI(h U:az)(C:Nat)(B:SV)(aF:Int)(bs:List GB)(nD:List (List Int))(m:Nat)(e:Env)(h2:az):Prop:=
 ∃j:Nat,m=cz bs-j/\j<=cz bs/\bU e 1 C/\bY e 36=B.v/\bC e 37 (cz bs)/\bC e 38 j/\ay aR U h2/\Yl aF nD (bs.take j)
def U2(N:cu h)(hr:0<=aF/\aF<1000000)(k:cz nD=cz bs)(k:ad (KG U) 1 U AH.v nD)(hF:ad (fR h) 4 h fs.v g)(jw:cz g<1000000/\∀f∈g,f.params<=6)(I:qP h B bs)(z:cz bs<=1000)(W:∀b∈bs,AL b)(M:ay aR h U)(L:eR U C (bJ gs fs name params aF B AH) t)(X:bU e 1 C)(H:bY e 36=B.v)(D:bC e 37 (cz bs))(w:bC e 38 0)(G:∀c e' z,c≠0->bC e' 2 c->ay aR U z->QQ .ret e' z)(Ga:∀e' z,ay aR U z->Yl aF nD bs->QQ (.exit 2) e' z):aK FF (.loop kI) e U QQ:=by
 have F:=ad.len I;refine aK.loop (BlI h U C B aF bs nD) ?_ (n:=cz bs) ⟨0,Q,ab,X,H,D,w,.refl M.ok,λi b a=>by simp at a⟩;rintro m e h2⟨j,rfl,v,X,H,D,w,S,V⟩;have A:=M.trans S;unfold kI;by_cases P:j<cz bs
 .have n:bs[j]?=Z bs[j]:=jh P;have d:=Ik P;generalize bs[j]=x at n d;obtain⟨r,s,c,s,_,_,⟨r,u,T,rfl,v,y,O⟩,_,E⟩:=ad.later N I n;have o:=E h2 A 0 6 ag;simp[-ax] at o;have wj:=ch (j+1) ab ab;have I:=ad.len v;have jD:=ad.len y;have q:=H;simp at q;rw[s,F] at q;have⟨l,fI⟩:=aQ nD j;simp[q,D,w,P,o,-ax,aH,cn,bj];refine aK.cut (λs=>ay aR h2 s/\di s h2.aw [r.v,u.v,fc ft x.kind,dC x.on.1,fc ft x.on.2,T.v]) ?_ ?_
  exact⟨(ay.refl S.ok).var _ _,h2.clock,J⟩;rintro s⟨O,u,JX⟩;have o:=A.trans O;have E:=S.trans O;refine acV (C:=C) o.ok hr fI (k.mono M.ok E λ_ _ r=>r.mono M.ok E) (v.mono N o λ_ _ r=>r.mono N o) (W x d).ph (W x d).row (.refl o.ok) (E.get M.ok L) (au X) J J (au I) J ?_ ?_
  intro c e' z A s k;simp[s];exact G c _ _ A s (E.trans k)
  .intro F u q u F;have I:=E.trans u;have O:=M.trans I;have E:=q.at (t:=7) (v:=eU (Z ⟨h2.aw,0,K⟩)) J;have v:=q.at (t:=1) (v:=eU (Z ⟨C,0,K⟩)) (au X);have X:=q.at (t:=36) (v:=B.v) (ak H);have q37:=q.at (t:=37) (v:=fc ft bs.length) (by simp[D]);have H:=q.at (t:=38) (v:=fc ft j) (by simp[w]);have P:=u.get o.ok JX;simp at P;simp[E,P];refine acU (C:=C) O.ok hr (hF.mono N O λ_ _ r=>r.mono N O) jw (y.mono N O λ_ _ r=>r.mono N O) (W x d).li (W x d).args (.refl O.ok) (I.get M.ok L) (au v) J (au jD) J ?_ ?_
   intro c e' z A s k;simp[s];exact G c _ _ A s (I.trans k)
   .intro k k q L s;have z:=q.at (t:=1) (v:=eU (Z ⟨C,0,K⟩)) (au v);have u:=q.at (t:=36) (v:=B.v) (by simp;simpa using X);have G:=q.at (t:=37) (v:=fc ft bs.length) (au q37);have X:=q.at (t:=38) (v:=fc ft j) (au H);simp[X,wj];refine⟨cz bs-(j+1),ab,j+1,Q,ab,au z,by simp;simpa using u,au G,J,I.trans L,?_⟩;intro i b a;rw[kh,n] at a;by_cases X:i<j
    rw[MG (by simp;omega)] at a;exact V i b a
    .rw[OC (by simp;omega)] at a;have X:i=j:=by have:=(cY.mp a).1;simp at this;omega
     subst X;simp at a;have:i-min i (cz bs)=0:=ab
     rw[this] at a;simp at a;subst a;exact⟨λp L=>⟨(F p L).1,l,fI,(F p L).2⟩,s⟩
 .have:j=cz bs:=ab
  subst this;rw[mO] at V;simp[D,w];exact Ga _ _ S V
structure Ix(aF:Int)(bs:List GB):Prop where
 ends:BW (cz bs) aF bs
 LQ:Yl aF (Edge.df (cw bs)) bs
def acS(H:cu h)(m:IC h)(r:0<=aF/\aF<1000000)(t:ad (fR h) 4 h fs.v g)(s:cz g<1000000/\∀f∈g,f.params<=6)(i:qP h B bs)(l:cz bs<=1000)(n:∀b∈bs,AL b):aY FF 82 [ix ⟨bJ gs fs name params aF B ah⟩] h (zJ (λc=>c=0->Ix aF bs) h):=by
 have I:=ad.len i;refine aY.of DR ?_;unfold uL;simp[bJ,I];refine aK.cut (λU=>ay aR h U/\U.tr.get h.aw=Z (.bZ (bJ gs fs name params aF B ah) cd 0 0)) ?_ ?_;exact⟨(ay.refl H).new _ _,by simp[bJ,I]⟩;rintro U⟨q,w⟩;refine acT H m r i l n q w J (au I) J J ?_ ?_;intro c e' w m q E;simp[q];exact⟨E,c,Q,λh=>absurd h m⟩
 .intro M h2 M j N p;have k:=N;simp[bJ] at k;simp[M,k];have A:=Va j.ok (name:=name) (p:=params) (r:=aF) (i.mono H j) (p.ends l);refine bh.call (V:=λv w=>ay aR h2 w/\∃d ws,v=dB (Z ⟨d,0,K⟩) (cz bs) (cz bs)/\lx encI h2.aw w d ws (Edge.df (cw bs))) (by simpa [aC] using A) ?_;rintro _ k⟨o,d,ws,rfl,A⟩;have O:=j.trans o;have D:=o.get j.ok N;have a:=D;simp[bJ] at a;simp[M,a];have o:cz (Edge.df (cw bs))=cz bs:=by rw[Edge.lM];simp[cw]
  have D:=(j.ok.cg N).lt;refine aK.cut (λD=>ay aR h D/\ad (KG D) 1 D (SV.v ⟨Z ⟨d,0,K⟩,cz bs,cz bs⟩) (Edge.df (cw bs))/\di D h.aw (bJ gs fs name params aF B ⟨Z ⟨d,0,K⟩,cz bs,cz bs⟩)) ?_ ?_;have j:ay (· =h.aw) k (put k h.aw 6 [dB gs.a gs.l gs.c,dB fs.a fs.l fs.c,gX name,fc ft params,fc ft aF,dB B.a B.l B.c,dB ah.a ah.l ah.c] [dB (Z ⟨d,0,K⟩) (cz bs) (cz bs)] 0):=bc O.ok a;refine⟨O.put ⟨_,a⟩ (jZ (fq _)),?_,k.clock,by simp[bJ]⟩;have N:=A.grow O.ok j (λb k e=>ab);have:=abB (c:=cz bs) N;rw[o] at this;simpa using this
  rintro D⟨O,N,D,D⟩;refine U2 (AH:=⟨Z ⟨d,0,K⟩,cz bs,cz bs⟩) H r o N t s i l n O D (au M) J (au I) J ?_ ?_;intro c e' w m q E;simp[q];exact⟨O.trans E,c,Q,λh=>absurd h m⟩;intro e' w E k;simp;exact⟨O.trans E,0,Q,λ_=>⟨p,k⟩⟩
end
def asp(h:az)(s:ByteArray)(m:Nat)(e:Env)(h2:az):Prop:=∃j:Nat,m=s.size-j/\bY e 0=gX s/\bC e 14 s.size/\bC e 15 j/\h2=h/\j<=s.size
def QU(h:az)(s:ByteArray):aY FF 78 [gX s] h (λv j=>j=h/\∃b:Bool,v=dC b):=by
 refine aY.of U3 ?_;unfold JE;by_cases U:s.size<1
 .have j:(s.size:Int)<1:=ab
  simp[j]
 have j:¬(s.size:Int)<1:=ab
 by_cases h2:12<s.size
 .have w:(12:Int)<s.size:=ab
  simp[j,w]
 have w:¬(12:Int)<s.size:=ab
 simp[j,w];refine aK.loop (asp h s) ?_ (n:=s.size)
  ⟨0,Q,J,J,J,Q,ab⟩
 rintro m e j⟨j,rfl,w,a,q,rfl,H⟩;unfold EV;by_cases H:j<s.size
 .have t:=ch (j+1) ab ab;have⟨c,N⟩:∃c:Int,((s[j]'H).toNat:Int)=c:=⟨_,Q⟩;by_cases d:97<=c
  .by_cases I:c<=122
   .have p:¬122<c:=ab
    have r:¬c<97:=ab
    simp[w,a,q,H,N,d,I,p,r,t];exact⟨s.size-(j+1),ab,j+1,Q,au w,by simp[a],J,Q,ab⟩
   .have p:122<c:=ab
    have r:¬c<97:=ab
    by_cases M:65<=c
    .by_cases E:c<=90
     .have k:¬90<c:=ab
      have n:¬c<65:=ab
      simp[w,a,q,H,N,d,I,p,r,M,E,k,n,t];exact⟨s.size-(j+1),ab,j+1,Q,au w,by simp[a],J,Q,ab⟩
     .have k:90<c:=ab
      have n:¬c<65:=ab
      by_cases u:c=95
      .have D:(c==95)=ck:=aj u
       simp[w,a,q,H,N,d,I,p,r,M,E,k,n,D,t];exact⟨s.size-(j+1),ab,j+1,Q,au w,by simp[a],J,Q,ab⟩
      .have D:(c==95)=cd:=aj u
       by_cases i:0<j
       .have f:¬(j=0):=ab
        by_cases l:48<=c
        .by_cases O:c<=57
         .have o:¬57<c:=ab
          have g:¬c<48:=ab
          simp[w,a,q,H,N,d,I,p,r,M,E,k,n,D,i,f,l,O,o,g,t];exact⟨s.size-(j+1),ab,j+1,Q,au w,by simp[a],J,Q,ab⟩
         .have o:57<c:=ab
          have g:¬c<48:=ab
          simp[w,a,q,H,N,d,I,p,r,M,E,k,n,D,i,f,l,O,o,g]
        .have O:c<48:=ab
         simp[w,a,q,H,N,d,I,p,r,M,E,k,n,D,i,f,l,O]
       .have f:j=0:=ab
        subst f;simp[w,a,q,H,N,d,I,p,r,M,E,k,n,D]
    .have E:c<65:=ab
     by_cases u:c=95
     .have D:(c==95)=ck:=aj u
      simp[w,a,q,H,N,d,I,p,r,M,E,D,t];exact⟨s.size-(j+1),ab,j+1,Q,au w,by simp[a],J,Q,ab⟩
     .have D:(c==95)=cd:=aj u
      by_cases i:0<j
      .have f:¬(j=0):=ab
       by_cases l:48<=c
       .by_cases O:c<=57
        .have o:¬57<c:=ab
         have g:¬c<48:=ab
         simp[w,a,q,H,N,d,I,p,r,M,E,D,i,f,l,O,o,g,t];exact⟨s.size-(j+1),ab,j+1,Q,au w,by simp[a],J,Q,ab⟩
        .have o:57<c:=ab
         have g:¬c<48:=ab
         simp[w,a,q,H,N,d,I,p,r,M,E,D,i,f,l,O,o,g]
       .have O:c<48:=ab
        simp[w,a,q,H,N,d,I,p,r,M,E,D,i,f,l,O]
      .have f:j=0:=ab
       subst f;simp[w,a,q,H,N,d,I,p,r,M,E,D]
  .have I:c<97:=ab
   by_cases M:65<=c
   .by_cases E:c<=90
    .have k:¬90<c:=ab
     have n:¬c<65:=ab
     simp[w,a,q,H,N,d,I,M,E,k,n,t];exact⟨s.size-(j+1),ab,j+1,Q,au w,by simp[a],J,Q,ab⟩
    .have k:90<c:=ab
     have n:¬c<65:=ab
     by_cases u:c=95
     .have D:(c==95)=ck:=aj u
      simp[w,a,q,H,N,d,I,M,E,k,n,D,t];exact⟨s.size-(j+1),ab,j+1,Q,au w,by simp[a],J,Q,ab⟩
     .have D:(c==95)=cd:=aj u
      by_cases i:0<j
      .have f:¬(j=0):=ab
       by_cases l:48<=c
       .by_cases O:c<=57
        .have o:¬57<c:=ab
         have g:¬c<48:=ab
         simp[w,a,q,H,N,d,I,M,E,k,n,D,i,f,l,O,o,g,t];exact⟨s.size-(j+1),ab,j+1,Q,au w,by simp[a],J,Q,ab⟩
        .have o:57<c:=ab
         have g:¬c<48:=ab
         simp[w,a,q,H,N,d,I,M,E,k,n,D,i,f,l,O,o,g]
       .have O:c<48:=ab
        simp[w,a,q,H,N,d,I,M,E,k,n,D,i,f,l,O]
      .have f:j=0:=ab
       subst f;simp[w,a,q,H,N,d,I,M,E,k,n,D]
   .have E:c<65:=ab
    by_cases u:c=95
    .have D:(c==95)=ck:=aj u
     simp[w,a,q,H,N,d,I,M,E,D,t];exact⟨s.size-(j+1),ab,j+1,Q,au w,by simp[a],J,Q,ab⟩
    .have D:(c==95)=cd:=aj u
     by_cases i:0<j
     .have f:¬(j=0):=ab
      by_cases l:48<=c
      .by_cases O:c<=57
       .have o:¬57<c:=ab
        have g:¬c<48:=ab
        simp[w,a,q,H,N,d,I,M,E,D,i,f,l,O,o,g,t];exact⟨s.size-(j+1),ab,j+1,Q,au w,by simp[a],J,Q,ab⟩
       .have o:57<c:=ab
        have g:¬c<48:=ab
        simp[w,a,q,H,N,d,I,M,E,D,i,f,l,O,o,g]
      .have O:c<48:=ab
       simp[w,a,q,H,N,d,I,M,E,D,i,f,l,O]
     .have f:j=0:=ab
      subst f;simp[w,a,q,H,N,d,I,M,E,D]
 .have:j=s.size:=ab
  subst this;simp[a,q]
def encStr:e7 ByteArray:=⟨λx=>[gX x],1,λ_=>rfl,ag,λ_=>rfl⟩
@[simp] def aq2:encStr.sz=1:=rfl
@[simp] def an5(x:ByteArray):encStr.enc x=[gX x]:=rfl
def Px(s:bp encStr h v xs)(a:cz xs<1000000)(x:ByteArray):aY FF 139 [v,gX x] h (λv a=>a=h/\∃i:Int,v=fc ft i):=by
 obtain⟨a,I,rfl,_⟩:=id s;refine aY.of uv ?_;unfold kj;simp;refine aK.loop (λm e h2=>∃j:Nat,m=cz xs-j/\j<=cz xs/\bY e 0=dB a (cz xs) I/\bY e 1=gX x/\bC e 7 (cz xs)/\bC e 8 j/\h2=h) ?_ (n:=cz xs)
  ⟨0,Q,ab,J,J,J,J,Q⟩
 rintro m e h2⟨j,rfl,a,N,a,D,E,rfl⟩;unfold jG;by_cases w:j<cz xs
 .have M:xs[j]?=Z xs[j]:=jh w;generalize xs[j]=y at M;obtain⟨b,q,c,q,_,_,O⟩:=s.read M;have H:=O 0 1 ag;cases q;simp[-ax] at H;have⟨q,M⟩:∃q,q=j+1:=⟨_,Q⟩;have d:IntKind.i64.wrap ((j:Int)+1)=(q:Int):=by rw[ch _ ab ab];omega
  cases M:(x==y);simp[N,a,D,E,w,H,M,d,-ax];exact⟨cz xs-q,ab,q,Q,ab,Q⟩;simp[N,a,D,E,w,H,M,-ax]
 .have:j=cz xs:=ab
  subst this;simp[D,E]
def zT(s:bp encStr h v xs)(j:cz xs<1000000)(x:ByteArray):aY FF 79 [v,gX x] h (λv q=>q=h/\∃b:Bool,v=dC b):=by
 refine aY.of qR ?_;unfold jn;simp;refine bh.call (aj (Px s j x)) ?_;rintro _ h2⟨rfl,i,rfl⟩;by_cases a:0<=i;simp[a]
 .have j:i<0:=ab
  simp[a,j]
structure Fa(f:GF):Prop where
 params:0<=f.params/\f.params<=6
 aF:f.params<=f.aF/\f.aF<=100
 blocks:1<=cz f.blocks/\cz f.blocks<=40
 many:dF f.blocks<=300
section
variable{gs fs ah:SV}
def asi(h:az)(gs fs B ah:SV)(f:GF)(v:aa)(m:Nat)(e:Env)(h2:az):Prop:=
 ∃j:Nat,m=cz f.blocks-j/\j<=cz f.blocks/\bY e 1=v/\bU e 2 h.aw/\bC e 5 (IntKind.i64.wrap (dF (f.blocks.take j):Int))/\bY e 10=B.v/\bC e 11 (cz f.blocks)/\bC e 12 j/\ay aR h h2/\h2.tr.get h.aw=Z (.bZ (bJ gs fs f.name f.params f.aF B ah) cd 0 0)
def adz(i:cu h){f:GF}(A:qP h B f.blocks)(X:Fits f.blocks)(s:bp encStr h v xs)(H:cz xs<1000000):aY FF 81 [ix ⟨bJ gs fs f.name f.params f.aF B ah⟩,v] h (zJ (λc=>c=0->Fa f) h):=by
 have C:=ad.len A;refine aY.of DT ?_;unfold uM;simp[bJ,C];refine aK.cut (λU=>ay aR h U/\U.tr.get h.aw=Z (.bZ (bJ gs fs f.name f.params f.aF B ah) cd 0 0)) ?_ ?_;exact⟨(ay.refl i).new _ _,by simp[bJ,C]⟩;rintro U⟨t,z⟩;refine aK.loop (asi h gs fs B ah f v) ?_ (n:=cz f.blocks) ⟨0,Q,ab,J,J,by simp[dF,ch],au C,J,J,t,z⟩;rintro m e h2⟨j,rfl,g,N,w,M,I,q,d,a,z⟩;unfold rD;by_cases P:j<cz f.blocks
 .have O:f.blocks[j]?=Z f.blocks[j]:=jh P;generalize f.blocks[j]=x at O;obtain⟨r,l,c,k,_,_,⟨u,L,T,rfl,l,u,r⟩,_,W⟩:=ad.later i A O;have o:=W h2 a 0 6 ag;simp[-ax] at o;have A:=ad.len l;have r:=ad.len u;have F:=xt O;have n:=X.2 x (cO O);have D:=X.1;have S:=ch (j+1) ab ab;have p:IntKind.i64.wrap ((cz x.bz:Int)+(cz x.list:Int))=(cz x.bz:Int)+(cz x.list:Int):=ch _ ab ab;have t:IntKind.i64.wrap (IntKind.i64.wrap (dF (f.blocks.take j):Int)+((cz x.bz:Int)+(cz x.list:Int)))=IntKind.i64.wrap ((dF (f.blocks.take (j+1)):Nat):Int):=by rw[wrap_add,F];congr 1
  have D:=I;simp at D;rw[k,C] at D;simp[N,w,M,D,q,d,P,o,-ax,aH,A,r,p,t,S];refine⟨cz f.blocks-(j+1),ab,j+1,Q,ab,au N,au w,J,by simp;simpa using I,by simp[q],J,a.var _ _,?_⟩;have p:=a.ok.cg z;simpa [p] using z
 .have:j=cz f.blocks:=ab
  subst this;rw[mO] at M;have E:=z;simp[bJ] at E;simp[q,d,w,E];refine bh.call (V:=λv p=>p=h2/\∃b:Bool,v=dC b) (aj (QU h2 f.name)) ?_;rintro _ l⟨r,b,rfl⟩;rw[r];cases b
  simp;exact⟨a,12,Q,λh=>by cases h⟩
  .simp[N,w,E];refine bh.call (V:=λv p=>p=h2/\∃b:Bool,v=dC b) (by simpa [N] using zT (s.cm i a) H f.name) ?_;rintro _ F⟨l,b,rfl⟩;rw[l];cases b
   .simp[w,E];refine bh.call (aj (fM h2 f.params 0 6)) ?_;rintro _ j⟨rfl,q⟩;rw[q];by_cases L:0<=f.params/\f.params<=6
    .have p:(decide (0<=f.params)&&decide (f.params<=6))=ck:=aj L
     rw[p];simp[w,E];refine bh.call (aj (fM h2 f.aF f.params 100)) ?_;rintro _ u⟨rfl,d⟩;rw[d];by_cases u:f.params<=f.aF/\f.aF<=100
     .have d:(decide (f.params<=f.aF)&&decide (f.aF<=100))=ck:=aj u
      rw[d];simp[w,E];refine bh.call (by simpa [C] using fM h2 (cz f.blocks:Int) 1 40) ?_;rintro _ k⟨rfl,V⟩;rw[V];by_cases F:(1:Int)<=cz f.blocks/\(cz f.blocks:Int)<=40
      .have i:(decide ((1:Int)<=cz f.blocks)&&decide ((cz f.blocks:Int)<=40))=ck:=aj F
       rw[i];rw[Rw X ab] at M;by_cases H:(300:Int)<dF f.blocks;simp[M,H];exact⟨a,2,Q,λh=>by cases h⟩;simp[M,H];exact⟨a,0,Q,λ_=>⟨L,u,ab,ab⟩⟩
      .have i:(decide ((1:Int)<=cz f.blocks)&&decide ((cz f.blocks:Int)<=40))=cd:=aj F
       rw[i];simp;exact⟨a,2,Q,λh=>by cases h⟩
     .have d:(decide (f.params<=f.aF)&&decide (f.aF<=100))=cd:=aj u
      rw[d];simp;exact⟨a,3,Q,λh=>by cases h⟩
    .have p:(decide (0<=f.params)&&decide (f.params<=6))=cd:=aj L
     rw[p];simp;exact⟨a,3,Q,λh=>by cases h⟩
   simp;exact⟨a,7,Q,λh=>by cases h⟩
end
set_option maxRecDepth 100000
def adm(X:cu h){X D:Nat}{g:GG}{I:SV}(a:eR h X [gX g.name,fc ft g.size,I.v] D)(D:I.l=cz g.init)(D:cz g.init<=140737488355328)(s:bp encStr h v xs)(D:cz xs<1000000){W:Int}(q:0<=W/\W<=200)(q:bY e 3=v)(O:bC e 4 W)(j:bU e 6 X)(X:bC e 7 0)(H:∀c e',aG [37,38,39,40,36,7,42,43,44,45,41,47,48,49,50,46,52,53,54,55,56,57,51,59,60,61,62,63,58] e e'->bC e' 7 c->(c=0->1<=g.size/\(g.size<=200/\(cz g.init:Int)<=g.size)/\W+g.size<=200)->QQ .normal e' h):aK FF MF e h QQ:=by
 unfold MF;simp at a;simp[j,a];refine bh.call (V:=λv E=>E=h/\∃b:Bool,v=dC b) (aj (QU h g.name)) ?_;rintro _ h2⟨w,b,rfl⟩;rw[w];cases b
 .simp;exact H 12 _ (by(repeat refine aG.set ?_);exact aG.refl _ _) J (λh=>by cases h)
 .simp[q,j,a];refine bh.call (V:=λv E=>E=h/\∃b:Bool,v=dC b) (by simpa [q] using zT s D g.name) ?_;rintro _ q⟨q,b,rfl⟩;rw[q];cases b
  .simp[j,a];refine bh.call (aj (fM h g.size 1 200)) ?_;rintro _ q⟨rfl,D⟩;rw[D];by_cases q:1<=g.size/\g.size<=200
   .have w:(decide (1<=g.size)&&decide (g.size<=200))=ck:=aj q
    rw[w];by_cases E:g.size<(I.l:Int)
    .simp[j,a,E];exact H 9 _ (by(repeat refine aG.set ?_);exact aG.refl _ _) J (λh=>by cases h)
    .have M:=ch (W+g.size) ab ab;by_cases N:200<W+g.size
     .simp[O,j,a,E,M,N];exact H 10 _ (by(repeat refine aG.set ?_);exact aG.refl _ _) J (λh=>by cases h)
     .simp[O,j,a,E,M,N];exact H 0 _ (by(repeat refine aG.set ?_);exact aG.refl _ _) (au X) (λ_=>⟨q.1,⟨q.2,ab⟩,ab⟩)
   .have w:(decide (1<=g.size)&&decide (g.size<=200))=cd:=aj q
    rw[w];simp;exact H 3 _ (by(repeat refine aG.set ?_);exact aG.refl _ _) J (λh=>by cases h)
  .simp;exact H 7 _ (by(repeat refine aG.set ?_);exact aG.refl _ _) J (λh=>by cases h)
structure Yo(h h2:az)(G F:SV)(e:Env)(v:aa)(names:List ByteArray):Prop where
 f1:bU e 1 h.aw
 f2:bU e 2 (h.aw+1)
 f3:bY e 3=v
 g:ay aR h h2
 U:eR h2 h.aw [G.v,F.v] 0
 R:di h2 (h.aw+1) [fc ft 0,fc ft 0]
 names:bm encStr (h.aw+2) h2 v names
def Yo.grow{h h2 a:az}{G F:SV}{e e':Env}{v:aa}{names:List ByteArray}(c:Yo h h2 G F e v names)(g:ay aR h2 a)(j:bY e' 1=bY e 1)(q:bY e' 2=bY e 2)(w:bY e' 3=bY e 3):Yo h a G F e' v names:=by have⟨s,D⟩:=c.R;exact⟨j.trans c.f1,q.trans c.f2,w.trans c.f3,c.g.trans g,g.get c.g.ok c.U,⟨s,g.get c.g.ok D⟩,c.names.grow c.g.ok g ai⟩
def Y2(h:az)(b:bH->Env->az->Prop):Prop:=∀(c a:Int)(e':Env)(j:az),c≠0->ay aR h j->(di j (h.aw+1) [fc ft c,fc ft a])->bU e' 2 (h.aw+1)->b .ret e' j
def PZ(c:Yo h h2 G F e v names)(O:cz names<1000000)(x:ByteArray):∃j a,js (aJ h2 [gX x] 0) [gX ⟨⟨[]⟩⟩] 16 cd v (dB (Z ⟨h2.aw,0,K⟩) 1 1)=Z (j,a)/\ay (bx v) h2 a/\∀e',bY e' 1=bY e 1->bY e' 2=bY e 2->bY e' 3=j->Yo h a G F e' j (names++[x]):=by
 have w:=aO c.g.ok (encStr.enc x) 0;have E:=c.names.grow c.g.ok w ai;have D:bp encStr (aJ h2 (encStr.enc x) 0) (dB (Z ⟨h2.aw,0,K⟩) 1 1) [x]:=⟨_,_,Q,kd ⟨h2.aw,0,_,_,_,_,Q,bX _ _ _,J,J⟩⟩;have⟨s,H⟩:=c.R;have N:=c.g.ok.wf _ _ H;have⟨j,a,N,d,M,I⟩:=fg (bytes:=16) w.ok (z:=[gX ⟨⟨[]⟩⟩]) rfl E D O ag (by show h.aw+2<=h2.aw+1;omega);have E:∀b,bx v b->h.aw+2<=b:=λb I=>c.names.of I;have q:ay (bx v) h2 a:=w.cm.trans M;have M:ay aR h a:=c.g.trans' q ai (λb I e=>av (E b e));refine⟨j,a,N,q,λe' a j N=>⟨a.trans c.f1,j.trans c.f2,N,M,q.get c.g.ok c.U (λe=>av (E _ e)),⟨s,q.get c.g.ok H (λe=>av (E _ e))⟩,d⟩⟩
def aja(c:Yo h h2 G F e v names)(d:Y2 h QQ){q:Int}(b:q≠0)(a:Int){j:az}(E:ay aR h2 j)(H:bY e' 2=bY e 2):(di j (h.aw+1) [fc ft 0,fc ft 0])/\∀w,w=put j (h.aw+1) 0 [fc ft 0,fc ft 0] [fc ft q,fc ft a] 0->QQ .ret e' w:=by
 have⟨s,I⟩:=c.R;have D:=E.get c.g.ok I;refine⟨⟨s,D⟩,λw w=>?_⟩;subst w;refine d q a e' _ b ((c.g.trans E).put ⟨s,D⟩ (jZ ab)) ⟨j.clock,J⟩ (H.trans c.f2)
def GlI(h:az)(G F:SV)(a:List GG)(m:Nat)(e:Env)(h2:az):Prop:=
 ∃(j:Nat) (v:aa) (W:Int),m=cz a-j/\j<=cz a/\Yo h h2 G F e v ((a.take j).map (·.name))/\bC e 4 W/\0<=W/\W<=200/\bY e 29=G.v/\bC e 30 (cz a)/\bC e 31 j/\∀g∈a.take j,1<=g.size/\g.size<=200/\(cz g.init:Int)<=g.size
def Pe(E:cu h){a:List GG}(f:ad (gR h) 3 h G.v a)(s:cz a<=10)(s:∀g∈a,cz g.init<=140737488355328)(c:Yo h U G F e (dB K 0 0) [])(i:bC e 4 0)(D:bY e 29=G.v)(w:bC e 30 (cz a))(q:bC e 31 0)(P:Y2 h QQ)(L:∀e' M v,Yo h M G F e' v (a.map (·.name))->(∀g∈a,1<=g.size/\g.size<=200/\(cz g.init:Int)<=g.size)->QQ (.exit 0) e' M):aK FF (.loop xF) e U QQ:=by
 have l:=ad.len f;refine aK.loop (GlI h G F a) ?_ (n:=cz a) ⟨0,_,0,Q,ab,aj c,i,ab,ab,D,w,q,λg M=>by simp at M⟩;rintro m e h2⟨j,v,W,rfl,t,c,i,t,r,D,w,q,k⟩;unfold xF;by_cases N:j<cz a
 .have O:a[j]?=Z a[j]:=jh N;have d:=Ik N;generalize a[j]=x at O d;obtain⟨T,T,T,T,_,_,⟨I,rfl,u⟩,_,A⟩:=ad.later E f O;have f:=A h2 c.g 0 3 ag;simp[-ax] at f;have A:=ch (j+1) ab ab;have E:=D;simp at E;rw[T,l] at E;have l:cz ((a.take j).map (·.name))<1000000:=by simp;omega
  simp[E,w,q,N,f,-ax];refine aK.cut (λN=>ay aR h2 N/\di N h2.aw [gX x.name,fc ft x.size,I.v]) ?_ ?_;exact⟨(ay.refl c.g.ok).var _ _,h2.clock,J⟩;rintro N⟨f,T,H⟩;have p:=c.g.trans f;have b:=c.names.grow c.g.ok f ai;refine adm p.ok H (ad.len u) (s x d) b.sl l ⟨t,r⟩ (by simp[c.f3]) (au i) J J ?_;intro d u b s V;have C:=b.at (t:=1) (v:=bY e 1) J;have r:=b.at (t:=2) (v:=bY e 2) J;have t:=b.at (t:=3) (v:=bY e 3) J;have X:=b.at (t:=4) (v:=bY e 4) J;have S:=b.at (t:=5) (v:=fc ft j) J;have y:=b.at (t:=6) (v:=eU (Z ⟨h2.aw,0,K⟩)) J;have z:=b.at (t:=29) (v:=bY e 29) (by simp[E,D]);have k30:=b.at (t:=30) (v:=bY e 30) J;have B:=b.at (t:=31) (v:=bY e 31) J;have b:=c.grow (e':=u) f C r t;unfold agL;by_cases E:d=0
  .subst E;have⟨w1,w2,C⟩:=V rfl;simp at H;have ww:=ch (W+x.size) ab ab;simp[s,t,c.f3,y,H];have⟨v',t,V,ex,C⟩:=PZ b l x.name;refine dh V ?_;have V:=(f.ok.cg H).lt;have f:eR t h2.aw [gX x.name,fc ft x.size,dB I.a I.l I.c] T:=by refine ex.get b.g.ok H (λe=>?_);have⟨o,n,H,e⟩:=e;rcases c.names with⟨_,H⟩|⟨T,T,H,T,_⟩;rw[H] at e;cases e;rw[H] at e;cases e;have:=c.g.ok.wf _ _ T;omega
   simp[X,i,y,f,ww,B,q,A];refine⟨cz a-(j+1),ab,j+1,v',W+x.size,Q,ab,?_,J,ab,ab,by simp[z,D],by simp[k30,w],J,?_⟩
   .have D:(a.take (j+1)).map (·.name)=(a.take j).map (·.name)++[x.name]:=by rw[kh,O];simp
    rw[D];exact C _ J J J
   intro g M;rw[kh,O] at M;rcases kg.1 M with h|h;exact k g h;simp at h;rw[h];exact⟨w1,w2⟩
  have M:=xy E;simp[s,M,S];refine bh.call (aj (mf N p.ok d (j:Int))) ?_;rintro _ p⟨rfl,S⟩;obtain⟨⟨p,p⟩,N⟩:=aja (QQ:=QQ) b P E (j:Int) S (e':=Tr.set (Tr.set (Tr.set (Tr.set (Tr.set u 64 (fc ft d)) 65 (dC ck)) 66 (fc ft d)) 67 (fc ft j)) 68 (ix #[fc ft d,fc ft j])) J;simp[r,c.f2,p];exact N _ rfl
 .have:j=cz a:=ab
  subst this;rw[mO] at c k;simp[w,q];exact L _ _ v (c.grow (.refl c.g.ok) J J J) k
def HdI(h:az)(G F:SV)(p:List GF)(i:List ByteArray)(m:Nat)(e:Env)(h2:az):Prop:=
 ∃(j:Nat) (v:aa),m=cz p-j/\j<=cz p/\Yo h h2 G F e v (i++(p.take j).map (·.name))/\bY e 80=F.v/\bC e 81 (cz p)/\bC e 82 j/\∀f∈p.take j,Fa f
def Vi(k:cu h)(N:ad (fR h) 4 h F.v p)(y:cz p<=10)(y:∀f∈p,Fits f.blocks)(w:cz i<=10){w:aa}(c:Yo h U G F e w i)(w:bY e 80=F.v)(a:bC e 81 (cz p))(q:bC e 82 0)(z:Y2 h QQ)(t:∀e' b v,Yo h b G F e' v (i++p.map (·.name))->(∀f∈p,Fa f)->QQ (.exit 3) e' b):aK FF (.loop xE) e U QQ:=by
 have D:=ad.len N;refine aK.loop (HdI h G F p i) ?_ (n:=cz p) ⟨0,_,Q,ab,aj c,w,a,q,λg b=>by simp at b⟩;rintro m e h2⟨j,v,rfl,l,c,w,a,q,l⟩;unfold xE;by_cases d:j<cz p
 .have M:p[j]?=Z p[j]:=jh d;have r:=Ik d;generalize p[j]=x at M r;obtain⟨o,o,o,o,_,_,⟨B,rfl,A⟩,_,u⟩:=ad.later k N M;have N:=u h2 c.g 0 4 ag;simp[-ax] at N;have u:=ch (j+1) ab ab;have H:=w;simp at H;rw[o,D] at H;have n:cz (i++(p.take j).map (·.name))<1000000:=by simp;omega
  have O:=c.U;simp at O;have I:=c.g.ok.cg O;simp[H,a,q,c.f1,d,N,-ax,aH,cn,bj,I,aB O];refine bh.cut (λd=>ay aR h2 d/\di d h2.aw [gX x.name,fc ft x.params,fc ft x.aF,B.v]) ?_ ?_
  exact⟨((ay.refl c.g.ok).var _ _).trans (((ay.refl ((ay.refl (S:=aR) c.g.ok).var _ _).ok)).var _ _),h2.clock,J⟩;rintro d⟨N,O,O⟩;have I:=c.g.trans N;have H:=c.names.grow c.g.ok N ai;refine bh.call (V:=zJ (λc=>c=0->Fa x) d) ?_ ?_
  have E:=adz (gs:=G) (fs:=F) (ah:=cM) I.ok (f:=x) (A.mono k I λ_ _ d=>d.mono k I) (y x r) H.sl n;simpa [bJ,cM,c.f3,o,D] using E;rintro _ y⟨d,k,rfl,A⟩;have D:=N.trans d;have o:=d.get I.ok O;simp at o;have E:=(N.ok.cg O).lt;by_cases N:k=0
  .subst N;have C:=c.grow (e':=e) D rfl rfl rfl;obtain⟨r,O,E,H,H⟩:=PZ C n x.name;simp[c.f3,o];refine dh E ?_;simp[q,u];refine⟨cz p-(j+1),ab,j+1,r,Q,ab,?_,ak w,by simp[a],J,?_⟩
   .have w:i++(p.take (j+1)).map (·.name)=i++(p.take j).map (·.name)++[x.name]:=by rw[kh,M];simp
    rw[w];exact H _ J J J
   intro g b;rw[kh,M] at b;rcases kg.1 b with h|h;exact l g h;simp at h;rw[h];exact A rfl
  have b:=xy N;simp[b];refine bh.call (aj (mf y (I.trans d).ok k (j:Int))) ?_;rintro _ O⟨rfl,I⟩;have⟨s,y⟩:=c.R;have d:=(D.trans I).get c.g.ok y;simp[c.f2,d];exact z k j _ _ N (((c.g.trans D).trans I).put ⟨s,d⟩ (jZ ab)) ⟨O.clock,J⟩ (by simp[c.f2])
 .have:j=cz p:=ab
  subst this;rw[mO] at c l;simp[a,q];exact t _ _ v (c.grow (.refl c.g.ok) J J J) l
def BdI(h:az)(G F:SV)(p:List GF)(v:aa)(i:List ByteArray)(m:Nat)(e:Env)(h2:az):Prop:=
 ∃j:Nat,m=cz p-j/\j<=cz p/\Yo h h2 G F e v i/\bY e 105=F.v/\bC e 106 (cz p)/\bC e 107 j/\∀f∈p.take j,Ix f.aF f.blocks
def Sb(a:cu h)(r:IC h)(N:ad (fR h) 4 h F.v p)(A:cz p<=10)(A:∀f∈p,∀b∈f.blocks,AL b)(o:∀f∈p,Fa f)(c:Yo h U G F e v i)(w:bY e 105=F.v)(q:bC e 106 (cz p))(d:bC e 107 0)(C:Y2 h QQ)(y:∀e' k,Yo h k G F e' v i->(∀f∈p,Ix f.aF f.blocks)->QQ (.exit 5) e' k):aK FF (.loop xD) e U QQ:=by
 have t:=ad.len N;refine aK.loop (BdI h G F p v i) ?_ (n:=cz p) ⟨0,Q,ab,c,w,q,d,λg k=>by simp at k⟩;rintro m e h2⟨j,rfl,l,c,w,q,d,l⟩;unfold xD;by_cases O:j<cz p
 .have n:p[j]?=Z p[j]:=jh O;have H:=Ik O;generalize p[j]=x at n H;obtain⟨u,u,u,u,_,_,⟨B,rfl,E⟩,_,z⟩:=ad.later a N n;have D:=z h2 c.g 0 4 ag;simp[-ax] at D;have z:=ch (j+1) ab ab;have I:=w;simp at I;rw[u,t] at I;have M:=c.U;simp at M;have L:=c.g.ok.cg M;obtain⟨P,P,P,_⟩:=o x H;simp[I,q,d,c.f1,O,D,-ax,aH,cn,bj,L,aB M];refine bh.cut (λM=>ay aR h2 M) ?_ ?_
  exact((ay.refl c.g.ok).var _ _).trans (((ay.refl ((ay.refl (S:=aR) c.g.ok).var _ _).ok)).var _ _);rintro M O;have D:=c.g.trans O;refine bh.call (V:=zJ (λc=>c=0->Ix x.aF x.blocks) M) ?_ ?_
  have M:=acS (gs:=G) (fs:=F) (name:=x.name) (params:=x.params) (aF:=x.aF) (ah:=cM) D.ok (r.grow a D) ab (N.mono a D λ_ _ r=>r.mono a D) ⟨ab,λf N=>(o f N).params.2⟩ (E.mono a D λ_ _ r=>r.mono a D) ab (A x H);simpa [bJ,cM,u,t] using M;rintro _ u⟨t,a,rfl,M⟩;have H:=O.trans t;by_cases r:a=0
  subst r;simp[d,z];refine⟨cz p-(j+1),ab,j+1,Q,ab,c.grow H J J J,ak w,by simp[q],J,?_⟩;intro g k;rw[kh,n] at k;rcases kg.1 k with h|h;exact l g h;simp at h;rw[h];exact M rfl;have k:=xy r;simp[k];refine bh.call (aj (mf u (D.trans t).ok a (j:Int))) ?_;rintro _ u⟨rfl,D⟩;have⟨s,k⟩:=c.R;have t:=(H.trans D).get c.g.ok k;simp[c.f2,t];exact C a j _ _ r (((c.g.trans H).trans D).put ⟨s,t⟩ (jZ ab)) ⟨u.clock,J⟩ (by simp[c.f2])
 .have:j=cz p:=ab
  subst this;rw[mO] at l;simp[q,d];exact y _ _ (c.grow (.refl c.g.ok) J J J) l
def Xn:ByteArray:=⟨⟨[109,97,105,110]⟩⟩
def Wf(h:az)(j:cu h)(a:ByteArray)(q b:Int)(s:SV):aY FF 84 [ix ⟨[gX a,fc ft q,fc ft b,s.v]⟩] h (λv q=>v=dC (a==Xn)/\ay aR h q):=by refine aY.of LW ?_;unfold Ce;simp[Xn];exact(ay.refl j).new _ _
def M9(a:cu h)(O:ad (fR h) 4 h F.v p)(w:cz p<1000000):aY FF 83 [F.v,.func (.func 84) #[] #[]] h (λv w=>ay aR h w/\∃i:Int,v=fc ft i/\(i= -1\/∃j:Nat,i=j/\j<cz p)):=by
 have b:=ad.len O;refine aY.of nQ ?_;unfold ig;simp;refine aK.loop (λm e h2=>∃j:Nat,m=cz p-j/\j<=cz p/\bY e 0=F.v/\bY e 1=.func (.func 84) #[] #[]/\bC e 7 (cz p)/\bC e 8 j/\ay aR h h2) ?_ (n:=cz p)
  ⟨0,Q,ab,J,J,au b,J,.refl a⟩
 rintro m e h2⟨j,rfl,M,M,H,E,D,q⟩;unfold gU;by_cases c:j<cz p
 .have d:p[j]?=Z p[j]:=jh c;generalize p[j]=x at d;obtain⟨f,f,f,f,_,_,⟨B,rfl,g⟩,_,g⟩:=ad.later a O d;have N:=g h2 q 0 4 ag;simp[-ax] at N;have d:=ch (j+1) ab ab;have a:=M;simp at a;rw[f,b] at a;simp[a,H,E,D,c,N,-ax];refine bh.fF (V:=λv w=>v=dC (x.name==Xn)/\ay aR h2 w) ?_ ?_
  have I:fh FF (.func (.func 84) #[] #[]) [ix ⟨[gX x.name,fc ft x.params,fc ft x.aF,B.v]⟩] h2 (λv w=>v=dC (x.name==Xn)/\ay aR h2 w):=fh.func (aj (Wf h2 q.ok x.name x.params x.aF B));simpa [H] using I;rintro _ I⟨rfl,w⟩;cases I:(x.name==Xn);simp[D,d];exact⟨cz p-(j+1),ab,j+1,Q,ab,by simpa [f,b] using M,au H,au E,J,q.trans w⟩;simp;exact⟨q.trans w,j,Q,c⟩
 .have:j=cz p:=ab
  subst this;simp[E,D];exact q
structure LF(u:GU):Prop where
 gn:cz u.globals<=10
 fn:cz u.funcs<=10
 gs:∀g∈u.globals,1<=g.size/\g.size<=200/\(cz g.init:Int)<=g.size
 head:∀f∈u.funcs,Fa f
 body:∀f∈u.funcs,Ix f.aF f.blocks
 one:0<cz u.funcs
structure Iz(u:GU):Prop where
 init:∀g∈u.globals,cz g.init<=140737488355328
 fs:∀f∈u.funcs,Fits f.blocks
 bs:∀f∈u.funcs,∀b∈f.blocks,AL b
def AK(P:Prop)(h:az)(v:aa)(a:az):Prop:=ay aR h a/\∃c a:Int,v=ix ⟨[fc ft c,fc ft a]⟩/\(c≠0\/(c=0/\a=0/\P))
def YN(M:cu h)(p:IC h){u:GU}(O:uR h G F u)(f:Iz u):aY FF 34 [ix ⟨[G.v,F.v]⟩] h (AK (LF u) h):=by
 have r:=ad.len O.1;have b:=ad.len O.2;refine aY.of RQ ?_;unfold GS;simp;have I:∀(c a:Int)(e':Env)(q:az),c≠0->ay aR h q->(di q (h.aw+1) [fc ft c,fc ft a])->bU e' 2 (h.aw+1)->GM [.cell 2 (Z 2)] (AK (LF u) h) .ret e' q:=by intro c a e' q j g ⟨s,D⟩ E;simp[E,D];exact⟨g,c,a,Q,jZ j⟩
 refine bh.cut (λU=>ay aR h U/\U.tr.get h.aw=Z (.bZ [G.v,F.v] cd 0 0)/\U.tr.get (h.aw+1)=Z (.bZ [fc ft 0,fc ft 0] cd 0 0)) ?_ ?_;exact⟨((ay.refl M).new _ _).new _ _,J,J⟩;rintro U⟨w,n,m⟩;have k:=n;simp at k;have H:∀e l R,bU e 2 (h.aw+1)->(∀e' q,bU e' 2 (h.aw+1)->ay aR h q->(di q (h.aw+1) [fc ft 0,fc ft 0])->bY e' 27=ix #[fc ft 2,fc ft 0]->bh FF l e' q R)->bh FF (⟨(Z 27),K,(.call (.func 36) [(.const (fc ft 2)),(.const (fc ft 0))])⟩::l) e U R:=by intro e l R E N;refine bh.call (aj (mf U w.ok 2 0)) ?_;rintro _ h2⟨rfl,d⟩;exact N _ _ (au E) (w.trans d) ⟨_,d.get w.ok m⟩ J
 by_cases d:(10:Int)<G.l;simp[d];refine H _ _ _ J ?_;intro e' q E N ⟨s,D⟩ q27;simp[E,q27,D];exact⟨N.put ⟨s,D⟩ (jZ ab),2,0,Q,jZ ag⟩;by_cases o:(10:Int)<F.l;simp[d,o,k];refine H _ _ _ J ?_;intro e' q E N ⟨s,D⟩ q27;simp[E,q27,D];exact⟨N.put ⟨s,D⟩ (jZ ab),2,0,Q,jZ ag⟩;simp[d,o,k];have d:cz u.globals<=10:=ab
 have N:cz u.funcs<=10:=ab
 refine Pe (F:=F) M O.1 d f.init ⟨J,J,J,w,n,⟨0,m⟩,jZ ⟨Q,Q⟩⟩ J J (au r) J ?_ ?_;intro c a e' q j g D E;simpa using I c a e' q j g D E;intro n h2 n w n;have k:=w.U;simp at k;simp[w.f1,k];refine Vi M O.2 N f.fs (by simp;omega) (w.grow (.refl w.g.ok) J J J) J (au b) J ?_ ?_
 intro c a e' q j g D E;simpa using I c a e' q j g D E;intro w w w w m;have k:=w.U;simp at k;simp[w.f1,k];refine Sb M p O.2 N f.bs m (w.grow (.refl w.g.ok) J J J) J (au b) J ?_ ?_
 intro c a e' q j g D E;simpa using I c a e' q j g D E;intro I a E o;have j:=E.U;simp at j;simp[E.f1,j];refine bh.call (V:=λv q=>ay aR a q/\∃i:Int,v=fc ft i/\(i= -1\/∃j:Nat,i=j/\j<cz u.funcs)) (aj (M9 E.g.ok (O.2.mono M E.g λ_ _ r=>r.mono M E.g) ab)) ?_;rintro _ a⟨D,i,rfl,q⟩;have w:=E.grow (e':=I) D rfl rfl rfl;have f:=w.U;simp at f;obtain⟨D,D⟩:=w.R;rcases q with rfl|⟨j,rfl,I⟩
 simp;refine bh.call (aj (mf a w.g.ok 6 0)) ?_;rintro _ p⟨rfl,E⟩;have q:=E.get w.g.ok D;simp[w.f2,q];exact⟨(w.g.trans E).put ⟨_,q⟩ (jZ ab),6,0,Q,jZ ag⟩
 .have k:u.funcs[j]?=Z u.funcs[j]:=jh I;generalize u.funcs[j]=x at k;obtain⟨u,u,u,u,_,_,⟨B,rfl,r⟩,_,r⟩:=ad.later M O.2 k;have O:=r a w.g 1 1 ag;simp[-ax] at O;have M:¬(j:Int)<0:=ab
  by_cases k:0<x.params;simp[w.f1,aB f,u,b,I,O,k,M,-ax];refine bh.call (aj (mf a w.g.ok 5 (j:Int))) ?_;rintro _ p⟨rfl,E⟩;have q:=E.get w.g.ok D;simp[w.f2,q];exact⟨(w.g.trans E).put ⟨_,q⟩ (jZ ab),5,j,Q,jZ ag⟩
  simp[w.f1,w.f2,aB f,u,b,I,O,k,M,-ax,D,aH];exact⟨w.g.put ⟨_,D⟩ (jZ ab),0,0,Q,kd ⟨Q,Q,d,N,n,m,o,ab⟩⟩
def wrap_u64(n:Int)(h:0<=n)(a:n<18446744073709551616):IntKind.u64.wrap n=n:=by simp only[Lr,Gx,LK];simp;omega
def aah(n:Nat)(h:n<4294967296):(cb 64 (n:Int) &&& cb 64 4294967295).toNat=n:=by
 have j:(cb 64 (n:Int)).toNat=n:=by rw[BitVec.toNat_ofInt];omega
 have a:(cb 64 4294967295).toNat=2^32-1:=ag
 rw[BitVec.toNat_and,j,a,Nat.and_two_pow_sub_one_eq_mod];omega
def aap(h:az)(n:Nat)(H:n<1000000):aY FF 209 [.int .u64 1,.int .u64 (n:Nat)] h (λv H=>v=.tuple #[.int .u64 0,.int .u64 (n:Nat)]/\H=h):=by
 refine aY.of Hd ?_;unfold yv;have a:IntKind.u64.wrap 0=0:=wrap_u64 _ ab ab;have w:IntKind.u64.wrap 1=1:=wrap_u64 _ ab ab;have j:IntKind.u64.wrap (n:Int)=n:=wrap_u64 _ ab ab;have d:jY .and .u64 1 4294967295=Z (.int .u64 1):=by have:=aah 1 ab;show Z (aA .u64 (IntKind.u64.wrap ((cb 64 ((1:Nat):Int) &&& cb 64 4294967295).toNat:Int)))=_;rw[this];simp[w]
 have M:jY .and .u64 (n:Int) 4294967295=Z (.int .u64 n):=by have:=aah n ab;show Z (aA .u64 (IntKind.u64.wrap ((cb 64 (n:Int) &&& cb 64 4294967295).toNat:Int)))=_;rw[this,j]
 have c:jY .and .u64 0 4294967295=Z (.int .u64 0):=by have:=aah 0 ab;show Z (aA .u64 (IntKind.u64.wrap ((cb 64 ((0:Nat):Int) &&& cb 64 4294967295).toNat:Int)))=_;rw[this];simp[a]
 have O:jN .shr .u64 0 32=Z (.int .u64 0):=by rfl
 have H:jN .shr .u64 1 32=Z (.int .u64 0):=by rfl
 have E:jN .shr .u64 (n:Int) 32=Z (.int .u64 0):=by
  have b:(n:Int).fdiv (2^32)=0:=by rw[Int.fdiv_eq_ediv_of_nonneg _ ag];exact Int.ediv_eq_zero_of_lt ab ab
  show(if(32:Int)<0 then K else Z (aA .u64 ((n:Int).fdiv (2^(min (32:Int).toNat 64)))))=_;rw[bM ag,show min (32:Int).toNat 64=32 by decide,b]
 have b:jY .mul .u64 0 (n:Int)=Z (.int .u64 0):=by simp[a]
 have D:jY .mul .u64 1 (n:Int)=Z (.int .u64 n):=by simp[j]
 have N:jY .mul .u64 1 0=Z (.int .u64 0):=by simp[a]
 have q:jY .mul .u64 0 0=Z (.int .u64 0):=by simp[a]
 have I:jY .add .u64 0 0=Z (.int .u64 0):=by simp[a]
 simp[-jY,d,M,c,O,H,E,b,D,N,q,I]
def WC(h:az)(n:Nat)(j:n<1000000):aY FF 146 [.int .u64 1,.int .u64 (n:Nat)] h (λv a=>v=.tuple #[.int .u64 0,.int .u64 (n:Nat)]/\a=h):=by refine aY.of Kw ?_;unfold Bu;simp;rw[Ju (t:=cd) rfl];simp;refine bh.call (V:=λv a=>v=.tuple #[.int .u64 0,.int .u64 (n:Nat)]/\a=h) (aj (aap h n j)) ?_;rintro _ a⟨rfl,rfl⟩;simp
def DH(E:e7 α)(a:α)(j:z=E.enc a)(n:Nat):ky z n=E.flat (ae n a):=by
 induction n with
 |zero=>rfl
 |succ n a=>rw[ky,a,j,kb,E.jb]
def filled{α:Type}(x z:α)(k n:Nat):List α:=ae k x++ae (n-k) z
def Qk(E:e7 α)(x z:α){k m n:Nat}(a:k+m<=n):aX (E.flat (filled x z k n)) (k*E.sz) (E.flat (ae m x))=E.flat (filled x z (k+m) n):=by
 have U:(E.flat (filled x z k n)).take (k*E.sz)=E.flat (ae k x):=by rw[E.jO];congr 1;simp[filled]
 have h2:(E.flat (filled x z k n)).drop (k*E.sz+m*E.sz)=E.flat (ae (n-(k+m)) z):=by rw[<-xf,E.pW];congr 1;simp[filled,List.drop_append];omega
 unfold aX;rw[E.dT,List.length_replicate,U,h2,<-E.fK,<-E.fK,List.replicate_append_replicate];rfl
def NW(o:Nat):aD:=(J_ (G_ [m_ 34 8,m_ 35 7,z_ 36 35,B_ 37 .lss 34 36] (H_ 37 0)) (P_ 1 (V_ [D_ (m_ 38 8),D_ (m_ 39 7),D_ (m_ 40 8),(o_ 41 (.slice o (t_ 39) (Z (t_ 40)) K K),[]),D_ (m_ 42 7),D_ (m_ 43 8),(o_ 44 (.slice o (t_ 42) K (Z (t_ 43)) K),[]),(o_ 45 (.copy o (t_ 41) (t_ 44)),[]),D_ (B_ 46 .add 38 45),D_ (m_ 8 46)])))
def Lp(z:List aa)(o bytes:Nat):aD:=(G_ [o_ 4 (.mv (.const (dB K 0 0)))] (J_ (G_ [m_ 9 1,C_ 10 .lss 9 0] (I_ 10 (O_ [⟨(Z 11),K,.bad⟩,⟨K,K,.bad⟩]) .skip)) (G_ [m_ 13 0,z_ 14 13,o_ 15 (.conv .u64 (t_ 14)),m_ 16 1,o_ 17 (.conv .u64 (t_ 16)),F_ 18 146 [t_ 15,t_ 17],m_ 12 18,o_ 19 (.ext 0 (t_ 12)),o_ 20 (.ext 1 (t_ 12)),m_ 5 19,m_ 6 20] (J_ (G_ [m_ 21 5,o_ 22 (.bin .gtr [] (t_ 21) (.const (.int .u64 0))),m_ 23 22,q_ 24 23 cd (.mv (t_ 6)),q_ 25 23 cd (.bin .gtr [] (t_ 24) (.const (.int .u64 9223372036854775807))),o_ 26 (.pick (t_ 23) (b_ ck) (t_ 25))] (I_ 26 (O_ [⟨(Z 27),K,.bad⟩,⟨K,K,.bad⟩]) .skip)) (G_ [m_ 28 6,o_ 29 (.conv ft (t_ 28)),o_ 30 (.tn z bytes (t_ 29) (t_ 29)),m_ 7 30] (G_ [m_ 31 7,m_ 32 0,o_ 33 (.copy o (t_ 31) (t_ 32)),m_ 8 33] (J_ (P_ 0 (.loop (NW o))) (G_ [m_ 47 7,m_ 4 47] .ret))))))))
def J8(E:e7 α)(X:FF f=Z ⟨[.tmp 4],Lp z E.sz bytes,.no⟩)(H:bytes<=1000)(g x:α)(o:z=E.enc g)(p:cu h)(n:Nat)(i:0<n/\n<1000000){b l c:Nat}(hs:bp E h (dB (Z ⟨b,l,K⟩) 1 c) [x]):aY FF f [dB (Z ⟨b,l,K⟩) 1 c,fc ft n] h (λv a=>ay aR h a/\∃d s,v=dB (Z ⟨d,0,K⟩) n n/\h.aw<=d/\a.tr.get d=Z (.bZ (E.flat (ae n x)) cd 0 s)):=by
 have D:cz z=E.sz:=by rw[o,E.len]
 have W:=E.pos;have y:IntKind.u64.wrap 1=1:=wrap_u64 _ ab ab;have wn:IntKind.u64.wrap (n:Int)=n:=wrap_u64 _ ab ab;have P:IntKind.i64.wrap (n:Int)=n:=ch _ ab ab;have n0:¬(n:Int)<0:=ab
 have n1:¬(9223372036854775807:Int)<n:=ab
 have B:roomy n=ck:=by simp[roomy];omega
 have r2:roomy (n*bytes)=ck:=by have:n*bytes<=1000000*1000:=sn ab H;simp[roomy];omega
 have⟨b',HR,c',e',uA,⟨_,_,_,_,I'⟩,V⟩:=hs.read (i:=0) (x:=x) rfl;injection e' with e1 e2 e3;cases e1;have r:=V 0 E.sz ab;simp only[SY,A1,lV] at r;have zn:cy h b l E.sz=Z (E.enc x):=by rw[r,tK (by rw[E.len];exact fq _)]
 have oB:=p.cg I';have m1:tt 1 n=1:=by show min 1 n=1;omega
 have A:E.sz<=n*E.sz:=Nat.le_mul_of_pos_left _ i.1;refine aY.of X ?_;unfold Lp;simp[n0,y,wn];refine bh.call (V:=λv a=>v=.tuple #[.int .u64 0,.int .u64 (n:Nat)]/\a=h) (aj (WC h n i.2)) ?_;rintro _ a⟨rfl,e⟩;subst e;simp[n1,P,B,r2,D,W,m1,bj,oB,zn,E.len,DH E g o,A,-ax];have L:ay aR a (put (aJ a (E.flat (ae n g)) 0) a.aw 0 (E.flat (ae n g)) (E.enc x) 0):=(ay.refl p).var _ _;have u:(put (aJ a (E.flat (ae n g)) 0) a.aw 0 (E.flat (ae n g)) (E.enc x) 0).tr.get a.aw=Z (.bZ (E.flat (filled x g 1 n)) cd 0 a.clock):=by rw[aZ,Sd];have:=Qk E x g (k:=0) (m:=1) (n:=n) ab;simp only[filled,List.replicate_zero,List.nil_append,Nat.sub_zero,SY,IV,List.replicate_one,E.jb,E.agG,Bx] at this⊢;rw[this]
 refine aK.cut (λU=>ay aR a U/\di U a.aw (E.flat (filled x g 1 n))) ⟨L,_,u⟩ ?_;rintro U⟨g1,s1,GC⟩;refine aK.loop (λm e h2=>∃k:Nat,m=n-k/\1<=k/\k<=n/\bY e 7=dB (Z ⟨a.aw,0,K⟩) n n/\bC e 8 k/\ay aR a h2/\di h2 a.aw (E.flat (filled x g k n))) ?_ (n:=n-1)
  ⟨1,Q,fq _,i.1,J,J,g1,s1,GC⟩
 rintro m e h2⟨k,rfl,hk1,Yc,M,t,N,I,w⟩;unfold NW;by_cases C:k<n
 .have O:tt k (n-k)=min k (n-k):=Q;have⟨j,hj⟩:∃j,j=min k (n-k):=⟨_,Q⟩;rw[<-hj] at O;have q2:¬j=0:=ab
  have T:k<=n:=ab
  have F:cy h2 a.aw 0 (j*E.sz)=Z (E.flat (ae j x)):=by have q:j*E.sz<=cz (filled x g k n)*E.sz:=IX _ (by simp[filled];omega);rw[dx w (aj q),lV,E.jO];congr 2;rw[filled,List.take_append_of_le_length (by simp;omega),List.take_replicate,Nat.min_eq_left ab]
  have dL:k*E.sz+j*E.sz<=cz (filled x g k n)*E.sz:=by rw[<-xf];exact IX _ (by simp[filled];omega)
  have⟨q,GD⟩:∃q,q=k+j:=⟨_,Q⟩;have S:IntKind.i64.wrap ((k:Int)+(j:Int))=(q:Int):=by rw[ch _ ab ab];omega
  have G:(k:Int)<(n:Int):=ab
  simp[M,t,C,G,O,q2,T,w,aI,F,dL,S,-ax];refine⟨n-q,ab,q,Q,ab,ab,J,?_,?_⟩;exact ay.put N.tick ⟨_,w⟩ (.inl (fq _));rw[GD,<-Qk E x g ab]
 .have:k=n:=ab
  subst this;simp[M,t];refine⟨N,I,?_⟩;rw[w];simp[filled]
def jC:e7 (Int×Int):=⟨λx=>[fc ft x.1,fc ft x.2],2,λ_=>rfl,ag,λ_=>rfl⟩
@[simp] def akz:jC.sz=2:=rfl
@[simp] def atj(x:Int×Int):jC.enc x=[fc ft x.1,fc ft x.2]:=rfl
def dq{E:e7 α}{x:α}(a:h.tr.get b=Z (.bZ (E.enc x) ro o s)):bp E h (dB (Z ⟨b,0,K⟩) 1 c) [x]:=
 ⟨_,c,Q,kd ⟨b,0,_,ro,o,s,Q,a,by simp[E.len],by simp[tK,E.len]⟩⟩
def WX(j:cu h)(n:Nat)(q:0<n/\n<1000000){b ro o s c:Nat}(w:h.tr.get b=Z (.bZ [fc ft x] m o s)):aY FF 144 [dB (Z ⟨b,0,K⟩) 1 c,fc ft n] h (λv a=>ay aR h a/\∃d s,v=dB (Z ⟨d,0,K⟩) n n/\h.aw<=d/\a.tr.get d=Z (.bZ (encI.flat (ae n x)) cd 0 s)):=
 J8 encI (z:=[fc .i64 0]) (bytes:=8) pU ag 0 x rfl j n q (dq w)
def NY(j:cu h)(n:Nat)(q:0<n/\n<1000000){b ro o s c:Nat}{x:Int×Int}(w:h.tr.get b=Z (.bZ [fc ft x.1,fc ft x.2] m o s)):aY FF 86 [dB (Z ⟨b,0,K⟩) 1 c,fc ft n] h (λv a=>ay aR h a/\∃d s,v=dB (Z ⟨d,0,K⟩) n n/\h.aw<=d/\a.tr.get d=Z (.bZ (jC.flat (ae n x)) cd 0 s)):=
 J8 jC (z:=[fc ft 0,fc .i64 0]) (bytes:=16) gI ag (0,0) x rfl j n q (dq w)
def aeb(h:az):aY FF 146 [.int .u64 1,.int .u64 0] h (λv a=>v=.tuple #[.int .u64 0,.int .u64 0]/\a=h):=aj (WC h 0 ab)
def J9(E:e7 α)(D:FF f=Z ⟨[.tmp 4],Lp z E.sz bytes,.no⟩)(g:cz z=E.sz)(H:cu h){b a c:Nat} :aY FF f [dB (Z ⟨b,a,K⟩) 1 c,fc ft 0] h (λv a=>ay aR h a/\∃d s,v=dB (Z ⟨d,0,K⟩) 0 0/\h.aw<=d/\a.tr.get d=Z (.bZ [] cd 0 s)):=by
 have q:=E.pos;have w:IntKind.u64.wrap 1=1:=wrap_u64 _ ab ab;have I:IntKind.u64.wrap 0=0:=wrap_u64 _ ab ab;have j:IntKind.i64.wrap 0=0:=ch _ ab ab;have E:tt 1 0=0:=Q;refine aY.of D ?_;unfold Lp;simp[w,I];refine bh.call (V:=λv a=>v=.tuple #[.int .u64 0,.int .u64 0]/\a=h) (aj (aeb h)) ?_;rintro _ a⟨rfl,e⟩;subst e;simp[j,roomy,g,q,ky,E];rw[DJ];unfold NW;simp;exact aO H _ _
def aiK(a:cu h)(n:Nat)(q:n<1000000){b o s c:Nat}{x:Int×Int}(w:h.tr.get b=Z (.bZ [fc ft x.1,fc ft x.2] m o s)):aY FF 86 [dB (Z ⟨b,0,K⟩) 1 c,fc ft n] h (λv j=>ay aR h j/\∃d s,v=dB (Z ⟨d,0,K⟩) n n/\h.aw<=d/\j.tr.get d=Z (.bZ (jC.flat (ae n x)) cd 0 s)):=by
 cases n with
 |zero=>exact J9 jC (z:=[fc ft 0,fc .i64 0]) (bytes:=16) gI rfl a
 |succ n=>exact NY a (n+1) ⟨ab,q⟩ (ro:=0) w
def NX(a:cu h)(n:Nat)(q:n<1000000){b o s c:Nat}(w:h.tr.get b=Z (.bZ [fc ft x] m o s)):aY FF 144 [dB (Z ⟨b,0,K⟩) 1 c,fc ft n] h (λv j=>ay aR h j/\∃d s,v=dB (Z ⟨d,0,K⟩) n n/\h.aw<=d/\j.tr.get d=Z (.bZ (encI.flat (ae n x)) cd 0 s)):=by
 cases n with
 |zero=>exact J9 encI (z:=[fc .i64 0]) (bytes:=8) pU rfl a
 |succ n=>exact WX a (n+1) ⟨ab,q⟩ (ro:=0) w
def mU(q:cu h){D:qe}(w:h.tr.get l=Z D)(j:Env)(a:List Nat)(b E:aD)(D:Ys):ay (· =l) h (gJ h l j a b E D):=by refine⟨fq _,fq _,λx a E=>?_,⟨λx o a=>?_,λx b ro o s a=>?_⟩⟩;simp only[gJ,Tr.bN];rw[bM E];simp only[gJ,Tr.bN] at a⊢;by_cases e:x=l;subst e;exact q.wf _ _ w;rw[bM e] at a;exact q.wf x o a;simp only[gJ,Tr.bN] at a⊢;by_cases e:x=l;rw[bK e] at a;cases a;rw[bM e] at a;exact q.st x b ro o s a
def tL(h:az)(l:Nat)(c:Env)(a:List Nat)(b d:aD)(e:Ys):(gJ h l c a b d e).tr.get l=Z (.loop c a b d e):=by simp[gJ,Tr.bN]
def aaR{S:Nat->Prop}(O:cu U){l j q:Nat}{c b:aD}{I D:aa}{Kc:az->Prop}(f:¬S l)(N:U.tr.get l=Z (.loop e [j,q] c b .ready))(H:aK FF c (Tr.set (Tr.set e j I) q D) U (λx E h2=>x=.normal/\ay aR U h2/\∀M,ay (· =l) h2 M->aK FF b E M (λx _ a=>x=.normal/\ay S M a/\Kc a)))(d:∀a w,Kc a->cu a->ay (· =l) a w->Kc w):fh FF (.func (.yield l) #[] #[]) [I,D] U (λr w=>r=dC ck/\ay (λx=>S x\/x=l) U w/\w.tr.get l=Z (.loop e [j,q] c b .ready)/\Kc w):=by
 refine fh.yield N (by simp[gG];rfl) ?_;refine H.mono ?_;rintro x E h2⟨rfl,M,E⟩;have D:=M.get O N;refine⟨Q,D,?_⟩;have w:=mU M.ok D e [j,q] c b .busy;refine(E _ w).mono ?_;rintro x E a⟨rfl,I,a⟩;have E:=I.get w.ok (tL h2 l e [j,q] c b .busy) f;have O:=mU I.ok E e [j,q] c b .ready;refine⟨⟨_,_,_,_,E,Q,Q,Q,Q⟩,Q,?_,tL _ _ _ _ _ _ _,d _ _ a I.ok O⟩;exact((M.cm.trans' w ai (λ_ _ h=>kd h)).trans' I ai (λ_ _ h=>jZ h)).trans' O ai (λ_ _ h=>kd h)
def OV(h:az)(to:SV):aY FF 148 [to.v] h (λv a=>v=.func (.func 210) #[] #[eU (Z ⟨h.aw,0,K⟩)]/\a=aJ h [to.v] 0):=by refine aY.of x5 ?_;unfold nj;simp
def BwI(i:List Int)(y:aa)(b:Nat)(I:Nat->az->Prop)(m:Nat)(e:Env)(h2:az):Prop:=m<=cz i/\bY e 0=y/\bU e 1 b/\bC e 3 ((m:Int)-1)/\I m h2
def LP{h0 h:az}(V:cu h0){i:List Int}(p:ad nR 1 h0 T.v i)(z:cz i<1000000){y:aa}(I:Nat->az->Prop)(X:∀j h2,I j h2->ay aR h0 h2/\di h2 b [T.v])(H:∀j x h2,i[j]?=Z x->I (j+1) h2->fh FF y [fc ft j,fc ft x] h2 (λv q=>v=dC ck/\I j q))(a:I (cz i) h):aY FF 210 [y,eU (Z ⟨b,0,K⟩)] h (λ_ q=>I 0 q):=by
 have N:=ad.len p;have⟨_,O,z⟩:=X _ _ a;simp at z;have w:=ch ((cz i:Int)-1) ab ab;refine aY.of vC ?_;unfold kX;simp[z,N,w];refine aK.loop (BwI i y b I) ?_ (n:=cz i) ⟨fq _,J,J,J,a⟩;rintro m e h2⟨g,z,O,D,a⟩;unfold jU;cases m with
 |zero=>
  have:¬(0:Int)<= -1:=ab
  simp[D];exact a
 |succ j=>
  have C:i[j]?=Z i[j]:=jh ab;generalize i[j]=x at C;have⟨U,s,E⟩:=X _ _ a;simp at E;obtain⟨P,l,c,t,_,_,rfl,_,k⟩:=ad.later V p C;have d:=k h2 U 0 1 ag;simp[-ax] at d;have X:(((j+1:Nat):Int)-1)=(j:Int):=ab
  rw[X] at D;have P:j<cz i:=ab
  have S:=ch ((j:Int)-1) ab ab;rw[t,N] at E;simp[z,O,D,aB E,P,d,-ax];refine bh.fF (V:=λv q=>v=dC ck/\I j q) (by simpa [z] using H j x h2 C a) ?_;rintro _ A⟨rfl,M⟩;simp[D,S];exact⟨j,ab,ab,au z,au O,J,M⟩
end Go.Proofs.YtdhnndleffachaaGreatDoor
namespace Go.Proofs.YtdhnndleffachaaGreatDoor
open Go Go.AI
variable{d:List aa}{h:az}{sz:Nat}{v:aa}{e g:Type}
def C9:Ty:=.pair .bool (.pair (.int ft) .unit)
def ZK:Ty:=.pair (.int ft) (.pair (.int ft) (.pair C9 (.pair C9 (.pair (.int ft) (.pair (.sl C9) .unit)))))
def Y6:Ty:=.pair (.int ft) (.pair (.sl C9) .unit)
def atn:Ty:=.pair (.int ft) (.pair C9 (.pair (.sl (.int ft)) .unit))
def Dh:Ty:=.pair (.sl Y6) (.pair (.sl ZK) (.pair atn .unit))
def SG:Ty:=.pair .str (.pair (.int ft) (.pair (.int ft) (.pair (.sl Dh) .unit)))
def Hz:Ty:=.pair .str (.pair (.int ft) (.pair (.sl (.int ft)) .unit))
def Jz:Ty:=.pair (.sl Hz) (.pair (.sl SG) .unit)
def te{R:List aa->e->Prop}{D:List aa->g->Prop}{E:List e}(f:e->g)(s:ad R sz h v E)(H:∀c x,R c x->D c (f x)):ad D sz h v (E.map f):=by obtain⟨a,j,rfl,s⟩:=s;refine⟨a,j,by rw[AZ],?_⟩;rcases s with⟨rfl,s⟩|⟨b,i,d,E,o,w,rfl,I,q⟩;exact jZ ⟨Q,s⟩;refine kd ⟨b,i,d,E,o,w,Q,I,λi y w=>?_⟩;rw[gM,Option.map_eq_some_iff] at w;obtain⟨x,E,rfl⟩:=w;exact⟨(q i x E).1,H _ _ (q i x E).2⟩
def qM{R:List aa->e->Prop}{a:List e}(s:ad R sz h v a):∃S:SV,v=S.v:=by obtain⟨S,j,rfl,_⟩:=s;exact⟨⟨S,cz a,j⟩,Q⟩
def OI(x:C9.den):Bool×Int:=(x.1,x.2.1)
def toI(x:ZK.den):GI:=⟨x.1,x.2.1,OI x.2.2.1,OI x.2.2.2.1,x.2.2.2.2.1,lj OI x.2.2.2.2.2.1⟩
def toP(x:Y6.den):GP:=⟨x.1,lj OI x.2.1⟩
def WQ(x:Dh.den):GB:=⟨lj toP x.1,lj toI x.2.1,x.2.2.1.1,OI x.2.2.1.2.1,lj id x.2.2.1.2.2.1⟩
def Wg(x:SG.den):GF:=⟨x.1,x.2.1,x.2.2.1,lj WQ x.2.2.2.1⟩
def toG(x:Hz.den):GG:=⟨x.1,x.2.1,lj id x.2.2.1⟩
def Wb(x:Jz.den):GU:=⟨lj toG x.1,lj Wg x.2.1⟩
def Ls{x:C9.den}(r:rep C9 h d x):vR d (OI x):=by have⟨a,b,_⟩:=x;obtain⟨E,_,rfl,j,D,_,rfl,w,q⟩:=r;simp only[rep] at j w q;subst j w q;rfl
def WV{a:List Int}(s:ad (rep (.int ft) h) (Ty.sz (.int ft)) h v a):ad nR 1 h v (lj id a):=
 te id s λc x r=>by simpa [rep,nR] using r
def WW{a:List C9.den}(s:ad (rep C9 h) C9.sz h v a):ad vR 2 h v (lj OI a):=
 te OI s λ_ _ r=>Ls r
def al0{x:ZK.den}(r:rep ZK h d x):iR h d (toI x):=by obtain⟨H,H,a,b,a,a,_⟩:=x;obtain⟨a,_,rfl,w,I,_,rfl,E,a,_,rfl,j,O,_,rfl,a,M,_,rfl,q,N,_,rfl,⟨v,rfl,s⟩,D⟩:=r;have j:=Ls j;have a:=Ls a;simp only[rep,vR] at w E j a q D;subst w E j a q D;obtain⟨S,rfl⟩:=qM s;exact⟨S,Q,WW s⟩
def al1{x:Y6.den}(r:rep Y6 h d x):pR h d (toP x):=by have⟨q,w,_⟩:=x;obtain⟨E,_,rfl,a,D,_,rfl,⟨v,rfl,s⟩,j⟩:=r;simp only[rep] at a j;subst a j;obtain⟨S,rfl⟩:=qM s;exact⟨S,Q,WW s⟩
def aeL{x:Dh.den}(r:rep Dh h d x):bR h d (WQ x):=by obtain⟨M,M,⟨k,on,M,_⟩,_⟩:=x;obtain⟨N,_,rfl,⟨M,rfl,b⟩,O,_,rfl,⟨x,rfl,x⟩,D,_,rfl,⟨D,_,rfl,D,a,_,rfl,a,w,_,rfl,⟨w,rfl,w⟩,q⟩,j⟩:=r;have a:=Ls a;simp only[rep,vR] at D a q j;subst D a q j;obtain⟨I,rfl⟩:=qM b;obtain⟨E,rfl⟩:=qM x;obtain⟨H,rfl⟩:=qM w;exact⟨I,E,H,Q,te toP b λ_ _ r=>al1 r,te toI x λ_ _ r=>al0 r,WV w⟩
def aiI{x:SG.den}(r:rep SG h d x):fR h d (Wg x):=by obtain⟨n,p,q,q,_⟩:=x;obtain⟨a,_,rfl,a,E,_,rfl,D,H,_,rfl,j,I,_,rfl,⟨v,rfl,s⟩,w⟩:=r;simp only[rep] at a D j w;subst a D j w;obtain⟨S,rfl⟩:=qM s;exact⟨S,Q,te WQ s λ_ _ r=>aeL r⟩
def aaL{x:Hz.den}(r:rep Hz h d x):gR h d (toG x):=by obtain⟨n,p,p,_⟩:=x;obtain⟨E,_,rfl,a,w,_,rfl,q,D,_,rfl,⟨v,rfl,s⟩,j⟩:=r;simp only[rep] at a q j;subst a q j;obtain⟨S,rfl⟩:=qM s;exact⟨S,Q,WV s⟩
def aiJ{x:Jz.den}(r:rep Jz h d x):∃G F:SV,d=[G.v,F.v]/\uR h G F (Wb x):=by obtain⟨F,F,_⟩:=x;obtain⟨H,_,rfl,⟨E,rfl,F⟩,w,_,rfl,⟨D,rfl,x⟩,a⟩:=r;simp only[rep] at a;subst a;obtain⟨q,rfl⟩:=qM F;obtain⟨j,rfl⟩:=qM x;exact⟨q,j,Q,te toG F λ_ _ r=>aaL r,te Wg x λ_ _ r=>aiI r⟩
def map_le(f:e->g)(l:List e)(h:cz l<=140737488351232):cz (lj f l)<=140737488355328:=by rw[AZ];omega
def agj{x:Jz.den}(b:Bd (Z 140737488351232) Jz x):Small (Wb x)/\Iz (Wb x):=by
 have⟨N,c,_⟩:=x;have⟨⟨I,M⟩,⟨D,z⟩,_⟩:=b;have I:=I _ rfl;have D:=D _ rfl;have w:∀b:Dh.den,Bd (Z 140737488351232) Dh b->AL (WQ b):=by
  rintro⟨I,I,⟨k,on,I,_⟩,_⟩ ⟨⟨E,I⟩,⟨H,q⟩,⟨_,_,⟨y,_⟩,_⟩,_⟩;have E:=E _ rfl;have H:=H _ rfl;have y:=y _ rfl;refine⟨?_,?_,?_,λp O=>?_,λx x=>?_⟩
  exact map_le _ _ E;exact map_le _ _ H;exact map_le _ _ y;obtain⟨y,j,rfl⟩:=kC.1 O;have⟨_,⟨a,_⟩,_⟩:=I y j;have a:=a _ rfl;exact map_le _ _ a
  obtain⟨y,j,rfl⟩:=kC.1 x;have⟨_,_,_,_,_,⟨a,_⟩,_⟩:=q y j;have a:=a _ rfl;exact map_le _ _ a
 have q:∀f∈(Wb ⟨N,c,()⟩).funcs,Fits f.blocks/\∀b∈f.blocks,AL b:=by
  intro f q;obtain⟨y,j,rfl⟩:=kC.1 q;have⟨_,_,_,⟨a,H⟩,_⟩:=z y j;have a:=a _ rfl;have x:∀b∈(Wg y).blocks,AL b:=by intro b c;obtain⟨z,N,rfl⟩:=kC.1 c;exact w z (H z N)
  exact⟨⟨map_le _ _ a,λb w=>⟨(x b w).ph,(x b w).li⟩⟩,x⟩
 refine⟨⟨?_,λf h=>(q f h).1⟩,λg x=>?_,λf h=>(q f h).1,λf h=>(q f h).2⟩;exact map_le _ _ D;obtain⟨y,j,rfl⟩:=kC.1 x;have⟨_,_,⟨a,_⟩,_⟩:=M y j;have a:=a _ rfl;exact map_le _ _ a
end Go.Proofs.YtdhnndleffachaaGreatDoor
namespace Go.AI.Dfs
variable{b n x:Nat}{l:List Nat}
structure DS where
 seen:List Bool
 left:List Nat
def row(a:List (List Nat))(b:Nat):List Nat:=(a[b]?).getD []
def visitM(c:List (List Nat)):Nat->Nat->DS->DS
 |0,_,s=>s
 |k+1,b,s=>
  let a:=(row c b).reverse.foldl (λs t=>if s.seen[t]?=Z ck then s else visitM c k t s) ⟨s.seen.set b ck,s.left⟩
  ⟨a.seen,a.left++[b]⟩
def foldM(a:List (List Nat))(k:Nat)(l:List Nat)(s:DS):DS:=l.foldl (λs t=>if s.seen[t]?=Z ck then s else visitM a k t s) s
def iE(a:List (List Nat))(k b:Nat)(s:DS):visitM a (k+1) b s=⟨(foldM a k (row a b).reverse ⟨s.seen.set b ck,s.left⟩).seen,(foldM a k (row a b).reverse ⟨s.seen.set b ck,s.left⟩).left++[b]⟩:=Q
def zX(a:List (List Nat))(k:Nat)(s:DS):foldM a k [] s=s:=Q
def mg(a:List (List Nat))(k t:Nat)(l:List Nat)(s:DS):foldM a k (t::l) s=foldM a k l (if s.seen[t]?=Z ck then s else visitM a k t s):=Q
structure SP(n:Nat)(s s':DS)(new:List Nat):Prop where
 left:s'.left=s.left++new
 len:cz s'.seen=n
 seen:∀x,s'.seen[x]?=Z ck↔(s.seen[x]?=Z ck\/x∈new)
 fresh:∀x∈new,¬s.seen[x]?=Z ck/\x<n
 nodup:new.Nodup
def AJ(l:List Nat)(x p:Nat):Prop:=∃j a,l=j++x::a/\p∈a
def AJ.app{x p:Nat}(h:AJ l x p)(a b:List Nat):AJ (a++l++b) x p:=by obtain⟨q,w,rfl,j⟩:=h;exact⟨a++q,w++b,J,List.mem_append_left _ j⟩
def AJ.last(h:x∈l):AJ (l++[b]) x b:=by obtain⟨a,j,rfl⟩:=List.append_of_mem h;exact⟨a,j++[b],J,J⟩
def dj(s:DS):Nat:=s.seen.countP (λx=> !x)
def SP.trans{s e j:DS}{q w:List Nat}(c:SP n s e q)(a:SP n e j w):SP n s j (q++w):=by
 refine⟨by rw[a.left,c.left,MD],a.len,λx=>?_,λx j=>?_,?_⟩;rw[a.seen,c.seen,kg,or_assoc];rcases kg.1 j with j|j;exact c.fresh x j;have:=a.fresh x j;exact⟨λe=>this.1 ((c.seen x).2 (jZ e)),this.2⟩
 refine F6.2 ⟨c.nodup,a.nodup,λj D b E e=>?_⟩;subst e;exact(a.fresh j E).1 ((c.seen j).2 (kd D))
def countP_set{l:List Bool}(h:l[b]?=Z cd):(l.set b ck).countP (λx=> !x)+1=l.countP (λx=> !x):=by
 induction l generalizing b with
 |nil=>simp at h
 |cons a l j=>
  cases b with
  |zero=>simp at h;subst h;simp[r6]
  |succ b=>
   simp at h;have:=j h;rw[C2,ei,ei];omega
def countP_le{l m:List Bool}(j:cz l=cz m)(h:∀x:Nat,l[x]?=Z ck->m[x]?=Z ck):m.countP (λx=> !x)<=l.countP (λx=> !x):=by
 induction l generalizing m with
 |nil=>cases m with
  |nil=>simp
  |cons b m=>simp at j
 |cons a l q=>
  rcases m with _|⟨b,m⟩;simp at j;simp at j;have:=q j (λx w=>by have:=h (x+1) (aj w);simpa using this);have j:=h 0;simp at j;rw[ei,ei];cases a<;>cases b<;>simp_all<;>omega
section
variable{d:List (List Nat)}{n:Nat}
def abA(d:List (List Nat))(n b:Nat)(s p:DS):Prop:=
 ∃a,SP n s p (a++[b])/\(∀x∈a++[b],∀t∈row d x,p.seen[t]?=Z ck)/\∀x∈a,∃p,x∈row d p/\AJ (a++[b]) x p
def anI(d:List (List Nat))(n:Nat)(l:List Nat)(s b:DS):Prop:=
 ∃a,SP n s b a/\(∀x∈a,∀t∈row d x,b.seen[t]?=Z ck)/\(∀t∈l,b.seen[t]?=Z ck)/\∀x∈a,x∈l\/∃p,x∈row d p/\AJ a x p
def SF(u:∀b t,t∈row d b->t<n){k:Nat}(I:∀b s,cz s.seen=n->b<n->¬s.seen[b]?=Z ck->dj s<=k->abA d n b s (visitM d k b s)):∀(l:List Nat)(s:DS),cz s.seen=n->(∀t∈l,t<n)->dj s<=k->anI d n l s (foldM d k l s)
 |[],s,q,_,_=>⟨[],⟨by simp[zX],q,by simp[zX],J,.nil⟩,J,J,J⟩
 |t::l,s,q,E,D=>by
  rw[mg];by_cases w:s.seen[t]?=Z ck;rw[bK w];have⟨j,c,e,N,h⟩:=SF u I l s q (λx a=>E x (xV _ a)) D;refine⟨j,c,e,λx a=>?_,λx a=>?_⟩;rcases bn.1 a with rfl|a;exact(c.seen x).2 (jZ w);exact N x a;rcases h x a with h|h;exact jZ (xV _ h);exact kd h
  .rw[bM w];have⟨N,j,p,f⟩:=I t s q (E t (iY ..)) w D;have w:dj (visitM d k t s)<=k:=qN (countP_le (by rw[q,j.len]) (λx a=>(j.seen x).2 (jZ a))) D;have⟨O,H,q,k,D⟩:=SF u I l _ j.len (λx a=>E x (xV _ a)) w;refine⟨N++[t]++O,j.trans H,λx a u M=>?_,λx a=>?_,λx a=>?_⟩
   rcases kg.1 a with a|a;exact(H.seen u).2 (jZ (p x a u M));exact q x a u M;rcases bn.1 a with rfl|a;exact(H.seen x).2 (jZ ((j.seen x).2 (kd J)));exact k x a;rcases kg.1 a with a|a;rcases kg.1 a with a|a;have⟨p,c,e⟩:=f x a;exact kd ⟨p,c,aj (e.app [] O)⟩;simp at a;subst a;exact jZ (iY ..);rcases D x a with h|⟨p,c,e⟩;exact jZ (xV _ h);exact kd ⟨p,c,aj (e.app (N++[t]) [])⟩
def Ou(H:∀b t,t∈row d b->t<n):∀(k b:Nat)(s:DS),cz s.seen=n->b<n->¬s.seen[b]?=Z ck->dj s<=k->abA d n b s (visitM d k b s)
 |0,b,s,N,M,w,D=>by
  exfalso;have E:s.seen[b]?=Z cd:=by rw[jh ab] at w⊢;cases h:s.seen[b];rfl;rw[h] at w;exact absurd rfl w
  have:=countP_set E;unfold dj at D;omega
 |k+1,b,s,N,M,w,D=>by
  have E:s.seen[b]?=Z cd:=by rw[jh ab] at w⊢;cases h:s.seen[b];rfl;rw[h] at w;exact absurd rfl w
  have I:=countP_set E;have⟨E,v,c,t,p⟩:=SF H (Ou H k) (row d b).reverse ⟨s.seen.set b ck,s.left⟩ (aj N) (λx j=>H b x (eL.1 j)) (by unfold dj at D⊢;dsimp only;omega);rw[iE];have D:∀x,(s.seen.set b ck)[x]?=Z ck↔(s.seen[x]?=Z ck\/x=b):=by intro x;rw[fO];by_cases e:b=x;subst e;simp;omega;rw[bM e];simp[cE e]
  refine⟨E,⟨by rw[v.left];simp,v.len,λx=>?_,λx j=>?_,?_⟩,λx j u s=>?_,λx j=>?_⟩;have:=v.seen x;dsimp only at this⊢;rw[this,D,kg];simp;constructor;rintro((h|h)|h);exact jZ h;exact kd (kd h);exact kd (jZ h);rintro(h|h|h);exact jZ (jZ h);exact kd h;exact jZ (kd h);rcases kg.1 j with j|j;have:=v.fresh x j;exact⟨λe=>this.1 ((D x).2 (jZ e)),this.2⟩;simp at j;subst j;exact⟨w,M⟩
  refine F6.2 ⟨v.nodup,J,λa O c I e=>?_⟩;simp at I;subst e;subst I;exact(v.fresh a O).1 ((D a).2 (kd Q));rcases kg.1 j with j|j;exact c x j u s;simp at j;subst j;exact t u (eL.2 s);rcases p x j with h|⟨q,u,s⟩;exact⟨b,eL.1 h,AJ.last j⟩;exact⟨q,u,aj (s.app [] [b])⟩
end
def pH{s:DS}(q:b<cz s.seen)(a:¬s.seen[b]?=Z ck):dj ⟨s.seen.set b ck,s.left⟩+1=dj s:=by
 have j:s.seen[b]?=Z cd:=by rw[jh q] at a⊢;cases h:s.seen[b];rfl;rw[h] at a;exact absurd rfl a
 exact countP_set j
def MB{c:List (List Nat)}{k:Nat}(a:∀b s,cz ((visitM c k b s).seen)=cz s.seen):∀(l:List Nat)(s:DS),cz ((foldM c k l s).seen)=cz s.seen
 |[],s=>rfl
 |t::l,s=>by rw[mg,MB a l];split;rfl;exact a t s
def JA(a:List (List Nat)):∀(k b:Nat)(s:DS),cz ((visitM a k b s).seen)=cz s.seen
 |0,_,_=>rfl
 |k+1,b,s=>by rw[iE];dsimp only;rw[MB (JA a k)];simp
def xe{a:List (List Nat)}{k n:Nat}(c:∀b s,cz s.seen=n->b<n->¬s.seen[b]?=Z ck->cz ((visitM a k b s).left)+dj (visitM a k b s)<=cz s.left+dj s):∀(l:List Nat)(s:DS),cz s.seen=n->(∀t∈l,t<n)->cz ((foldM a k l s).left)+dj (foldM a k l s)<=cz s.left+dj s
 |[],s,_,_=>fq _
 |t::l,s,w,j=>by rw[mg];split;exact xe c l s w (λx q=>j x (xV _ q));rename_i h;have d:=c t s w (j t (iY ..)) h;have h:=xe c l (visitM a k t s) (by rw[JA];exact w) (λx q=>j x (xV _ q));omega
def zc{a:List (List Nat)}{n:Nat}(c:∀b t,t∈row a b->t<n):∀(k b:Nat)(s:DS),cz s.seen=n->b<n->¬s.seen[b]?=Z ck->cz ((visitM a k b s).left)+dj (visitM a k b s)<=cz s.left+dj s
 |0,_,_,_,_,_=>fq _
 |k+1,b,s,w,D,q=>by have j:=pH (s:=s) (b:=b) ab q;have q:=xe (zc c k) (row a b).reverse ⟨s.seen.set b ck,s.left⟩ (aj w) (λt j=>c b t (eL.1 j));rw[iE];dsimp only at q⊢;rw[X0];have:dj ⟨(foldM a k (row a b).reverse ⟨s.seen.set b ck,s.left⟩).seen,(foldM a k (row a b).reverse ⟨s.seen.set b ck,s.left⟩).left++[b]⟩=dj (foldM a k (row a b).reverse ⟨s.seen.set b ck,s.left⟩):=Q;rw[this];simp only[List.length_singleton];omega
def Pg(l:List Bool)(b:Nat):(l.set b ck).countP (λx=> !x)<=l.countP (λx=> !x):=by
 induction l generalizing b with
 |nil=>simp
 |cons a l j=>
  cases b with
  |zero=>rw[r6,ei,ei];simp
  |succ b=>rw[C2,ei,ei];have:=j b;omega
def yI{c:List (List Nat)}{k:Nat}(a:∀b s,dj (visitM c k b s)<=dj s):∀(l:List Nat)(s:DS),dj (foldM c k l s)<=dj s
 |[],s=>fq _
 |t::l,s=>by rw[mg];refine qN (yI a l _) ?_;split;exact fq _;exact a t s
def Br(a:List (List Nat)):∀(k b:Nat)(s:DS),dj (visitM a k b s)<=dj s
 |0,_,_=>fq _
 |k+1,b,s=>by rw[iE];have c:=yI (Br a k) (row a b).reverse ⟨s.seen.set b ck,s.left⟩;have a:dj ⟨s.seen.set b ck,s.left⟩<=dj s:=Pg _ _;exact qN c a
def vu(a:List (List Nat))(n:Nat):List Nat:=(visitM a n 0 ⟨ae n cd,[]⟩).left
def Lm{tos:List (List Nat)}(q:0<n)(j:∀b t,t∈row tos b->t<n):(vu tos n).Nodup/\(∀x∈vu tos n,x<n)/\(∃h,vu tos n=h++[0])/\(∀x∈vu tos n,∀t∈row tos x,t∈vu tos n)/\∀x∈vu tos n,x≠0->∃p,x∈row tos p/\AJ (vu tos n) x p:=by
 have⟨h,v,c,p⟩:=Ou j n 0 ⟨ae n cd,[]⟩ J q (by simp[Qp]) (by unfold dj;exact qN (List.countP_le_length) J);have q:vu tos n=h++[0]:=by unfold vu;rw[v.left];simp
 rw[q];refine⟨v.nodup,λx a=>(v.fresh x a).2,⟨h,Q⟩,λx a t j=>?_,λx a h=>?_⟩;have:=(v.seen t).1 (c x a t j);rcases this with h|h;simp[Qp] at h;exact h;rcases kg.1 a with a|a;exact p x a;simp at a;exact absurd a h
end Go.AI.Dfs
namespace Go.Proofs.YtdhnndleffachaaGreatDoor
open Go.AI
variable{B L:SV}{Fb Lf S V W b k n o s sb:Nat}{d:List GB}{h h0:az}{name:ByteArray}{p r:Int}{f:Bool}
set_option maxRecDepth 100000
def Hs:e7 Bool:=⟨λx=>[dC x],1,λ_=>rfl,ag,λ_=>rfl⟩
@[simp] def aw3:Hs.sz=1:=rfl
@[simp] def ath(x:Bool):Hs.enc x=[dC x]:=rfl
def aqA{a:List Bool}(j:h.tr.get W=Z (.bZ (Hs.flat a) f o s)){x:Bool}(b:a[k]?=Z x):cy h W k 1=Z [dC x]:=by have q:=(cY.mp b).1;rw[dx j (by rw[Hs.dT];show k+1<=cz a*1;omega)];have:=Hs.sw a k 0 1 x b ag;simp only[A1] at this;rw[show k=k*Hs.sz from(ib k).symm,this];rfl
def ai5(a:List Bool)(i:Nat)(x:Bool)(h:i<cz a):aX (Hs.flat a) i [dC x]=Hs.flat (a.set i x):=by have:=Hs.jV a i x h;simpa using this
def ir(d:List GB):List (List Nat):=d.map λb=>b.to.map qA
structure CN(h0 h:az)(n S sb Fb V Lf:Nat)(name:ByteArray)(p r:Int)(B L:SV)(s:Dfs.DS):Prop where
 g:ay aR h0 h
 n1:h0.aw<=sb
 n2:h0.aw<=Lf
 hS:di h S [dB (Z ⟨sb,0,K⟩) n n]
 CP:di h sb (Hs.flat s.seen)
 hF:di h Fb (aC name p r B)
 hV:di h V [.func (.func 147) #[] #[eU (Z ⟨S,0,K⟩),eU (Z ⟨Fb,0,K⟩),eU (Z ⟨V,0,K⟩),eU (Z ⟨Lf,0,K⟩)]]
 hL:di h Lf [L.v]
 acc:bm encI h0.aw h L.v (s.left.map λx:Nat=>(x:Int))
 len:cz s.seen=n
 ll:cz s.left+Dfs.dj s<=n
 ne:S≠sb/\S≠Lf/\sb≠Fb/\sb≠V/\sb≠Lf/\Fb≠Lf/\V≠Lf
 yH:∀b,bx L.v b->b≠S/\b≠sb/\b≠Fb/\b≠V/\b≠Lf
def PW(sb Lf:Nat)(L:SV)(x:Nat):Prop:=x=sb\/x=Lf\/bx L.v x
def VG(S sb Fb V Lf:Nat)(L:SV)(x:Nat):Prop:=x=S\/x=sb\/x=Fb\/x=V\/x=Lf\/bx L.v x
def CN.Ag{h0 h j:az}{s:Dfs.DS}(w:CN h0 h n S sb Fb V Lf name p r B L s){c:Nat->Prop}(g:ay c h j)(a:∀x,VG S sb Fb V Lf L x->¬c x)(c:ay aR h0 j):CN h0 j n S sb Fb V Lf name p r B L s:=by
 have⟨f,d⟩:=w.hS;have⟨q,x⟩:=w.CP;have⟨D,e⟩:=w.hF;have⟨I,E⟩:=w.hV;have⟨M,H⟩:=w.hL;have j:=w.g.ok;exact⟨c,w.n1,w.n2,⟨f,g.get j d (a _ (jZ Q))⟩,⟨q,g.get j x (a _ (kd (jZ Q)))⟩,⟨D,g.get j e (a _ (kd (kd (jZ Q))))⟩,⟨I,g.get j E (a _ (kd (kd (kd (jZ Q)))))⟩,⟨M,g.get j H (a _ (kd (kd (kd (kd (jZ Q))))))⟩,w.acc.grow j g (λb g=>a _ (kd (kd (kd (kd (kd g)))))),w.len,w.ll,w.ne,w.yH⟩
def CN.cg{s:Dfs.DS}(w:CN h0 h n S sb Fb V Lf name p r B L s):∀x,VG S sb Fb V Lf L x->x<h.aw:=by
 obtain⟨b,b⟩:=w.hS;obtain⟨j,j⟩:=w.CP;obtain⟨H,H⟩:=w.hF;have⟨M,q⟩:=w.hV;have⟨O,E⟩:=w.hL;have a:=w.g.ok;rintro x (rfl|rfl|rfl|rfl|rfl|⟨D,m,D,e⟩)
 exact a.wf _ _ b;exact a.wf _ _ j;exact a.wf _ _ H;exact a.wf _ _ q;exact a.wf _ _ E;rcases w.acc with⟨_,j⟩|⟨N,I,j,I,_⟩;rw[j] at e;cases e;rw[j] at e;cases e;exact a.wf _ _ I
def y9:aD:=T0 Tryz.f147 0 8
def Db:aD:=(.ops [⟨(Z 7),K,(.mv (.tmp 20))⟩])
def Us:aD:=T0 Tryz.f147 0 1
def anz:aD:=(O_ (R_ 11 3 2 0 6 (f_ 15 2 14::W_ 16 3 15 [F_ 18 148 [t_ 17]])))
def abh:aD:=T0 Tryz.f147 0 14
def ajj:Cf=.seq Us (.seq (.seq anz (.block 0 (.Xe (.tmp 18) [19,20] Db y9))) abh):=Q
def UK(h0 h:az)(n S sb Fb V Lf:Nat)(name:ByteArray)(p r:Int)(B L:SV)(j:Dfs.DS)(x:az):Prop:=
 ∃a:SV,CN h0 x n S sb Fb V Lf name p r B a j/\ay (PW sb Lf L) h x/\∀x,bx a.v x->bx L.v x\/h.aw<=x
def amf{s:Dfs.DS}(w:n<=1000)(w:CN h0 h n S sb Fb V Lf name p r B L s)(e:cz s.left+1+Dfs.dj s<=n){e:Env}(j:bC e 0 b)(N:bU e 4 Lf){c:bH->Env->az->Prop}(H:∀M x,UK h0 h n S sb Fb V Lf name p r B L ⟨s.seen,s.left++[b]⟩ x->c .normal M x):aK FF abh e h c:=by
 have⟨c,x⟩:=w.hL;have c:=w.g.ok;simp at x;unfold abh;simp[j,N,x];have j:=aO c (encI.enc (b:Int)) 0;have D:=w.acc.grow c j ai;have M:bp encI (aJ h (encI.enc (b:Int)) 0) (dB (Z ⟨h.aw,0,K⟩) 1 1) [(b:Int)]:=⟨_,_,Q,kd ⟨h.aw,0,_,_,_,_,Q,bX _ _ _,J,J⟩⟩;have q:=w.g.aw;obtain⟨q,q,E,f,a,C⟩:=fg (bytes:=8) j.ok (z:=[fc ft 0]) rfl D M (by simp;omega) ag (by show h0.aw<=h.aw+1;omega);refine dh E ?_;obtain⟨W,rfl⟩:=bm.E5 f;have D:=w.cg;have E:ay (bx L.v) h q:=j.cm.trans a;have j:=E.get c x (λe=>(w.yH _ e).2.2.2.2 Q);have M:∀x,bx L.v x->h0.aw<=x:=λx a=>w.acc.of a;have d:ay aR h0 q:=w.g.trans' E ai (λx a e=>av (M x e));simp[j,N];have⟨v,t⟩:=w.hS;have⟨g,m⟩:=w.CP;have⟨k,z⟩:=w.hF;have⟨M,o⟩:=w.hV;obtain⟨N,l,N,N,y,i,u⟩:=w.ne;have N:ay (· =Lf) q (put q Lf 0 [dB L.a L.l L.c] [dB W.a W.l W.c] 0):=bc d.ok j;have I:∀x (O:qe),h.tr.get x=Z O->¬bx L.v x->x≠Lf->(put q Lf 0 [dB L.a L.l L.c] [dB W.a W.l W.c] 0).tr.get x=Z O:=λx O a O A=>N.get d.ok (E.get c a O) A;have O:∀x,bx W.v x->h.aw+1<=x:=λx a=>by have:=C x a;simp at this;omega
 refine H _ _ ⟨W,⟨d.put ⟨_,j⟩ (jZ w.n2),w.n1,w.n2,⟨v,I _ _ t (λe=>(w.yH _ e).1 Q) l⟩,⟨g,I _ _ m (λe=>(w.yH _ e).2.1 Q) y⟩,⟨k,I _ _ z (λe=>(w.yH _ e).2.2.1 Q) i⟩,⟨M,I _ _ o (λe=>(w.yH _ e).2.2.2.1 Q) u⟩,⟨q.clock,J⟩,?_,w.len,?_,w.ne,λx a=>?_⟩,?_,λx a=>kd (av (O x a))⟩;have:=f.grow d.ok N (λx a e=>by have:=O x a;have:=D Lf (kd (kd (kd (kd (jZ Q)))));omega);simpa using this;have:Dfs.dj ⟨s.seen,s.left++[b]⟩=Dfs.dj s:=Q;rw[this];simp;omega;have:=O x a;have a:=D S (jZ Q);have a:=D sb (kd (jZ Q));have a:=D Fb (kd (kd (jZ Q)));have a:=D V (kd (kd (kd (jZ Q))));have a:=D Lf (kd (kd (kd (kd (jZ Q)))));exact⟨ab,ab,ab,ab,ab⟩
 exact E.trans' N (λx _ h=>kd (kd h)) (λx _ e=>kd (jZ e)) |>.cU ai
def aiL{x:GB}(h:d[b]?=Z x):Dfs.row (ir d) b=x.to.map qA:=by unfold Dfs.row ir;rw[gM,h];rfl
def yY(E:kE d):∀b t,t∈Dfs.row (ir d) b->t<cz d:=by intro b t j;unfold Dfs.row ir at j;rw[gM] at j;rcases q:d[b]? with _|x;rw[q] at j;simp at j;rw[q] at j;simp at j;obtain⟨a,w,rfl⟩:=j;have:=E.to x (cO q) a w;omega
def Zf{tos:List (List Nat)}{k:Nat}{a:List Nat}{j x:Nat}(c:a[j]?=Z x)(s:Dfs.DS):Dfs.foldM tos k (a.reverse.take (cz a-j)) s=(let b:=Dfs.foldM tos k (a.reverse.take (cz a-(j+1))) s;if b.seen[x]?=Z ck then b else Dfs.visitM tos k x b):=by
 have w:=(cY.mp c).1;have e:cz a-j=(cz a-(j+1))+1:=ab
 have q:a.reverse[cz a-(j+1)]?=Z x:=by rw[List.getElem?_reverse ab];rw[<-c];congr 1;omega
 rw[e,kh,q];unfold Dfs.foldM;rw[eE];rfl
section
variable{h0:az}{d:List GB}{B:SV}
def abi(dv:cu h0)(H:qP h0 B d)(x:kE d)(hn:cz d=n):∀(k b:Nat)(h:az)(L:SV)(s:Dfs.DS),CN h0 h n S sb Fb V Lf name p r B L s->b<n->¬s.seen[b]?=Z ck->Dfs.dj s<=k->aY FF 147 [fc ft b,eU (Z ⟨S,0,K⟩),eU (Z ⟨Fb,0,K⟩),eU (Z ⟨V,0,K⟩),eU (Z ⟨Lf,0,K⟩)] h (λ_ M=>UK h0 h n S sb Fb V Lf name p r B L (Dfs.visitM (ir d) k b s) M):=by
 intro k;induction k with
 |zero=>
  intro b h L s w j T A;have:=Dfs.pH (s:=s) (b:=b) (by rw[w.len];exact j) T;omega
 |succ k ih=>
  intro b h L s w j T A;have F:=x.len;have W:=ad.len H;have e:=Dfs.pH (s:=s) (b:=b) (by rw[w.len];exact j) T;have⟨z,I⟩:=aQ d b;have hm:=cO I;have⟨O,i⟩:=w.hS;have⟨A,P⟩:=w.CP;have⟨T,F⟩:=w.hF;obtain⟨N,X,X,m,G,a,E⟩:=w.ne;have C:=w.g.ok;have o:=w.cg;have o:b+1<=cz s.seen:=by rw[w.len];omega
  refine aY.of LX ?_;rw[ajj];rw[show Us=_ from Q];unfold Us;simp[i,j,P,o];refine aK.cut (λD=>CN h0 D n S sb Fb V Lf name p r B L ⟨s.seen.set b ck,s.left⟩/\ay (· =sb) h D) ?_ ?_;have l:ay (· =sb) h (put h sb b (Hs.flat s.seen) [dC ck] 0):=bc C P;have e:∀y (q:qe),h.tr.get y=Z q->y≠sb->(put h sb b (Hs.flat s.seen) [dC ck] 0).tr.get y=Z q:=λy q a c=>l.get C a c;have⟨U,g⟩:=w.hV;have⟨c,E⟩:=w.hL;refine⟨⟨w.g.put ⟨_,P⟩ (jZ w.n1),w.n1,w.n2,⟨O,e _ _ i N⟩,⟨h.clock,by rw[aZ,ai5 _ _ _ ab]⟩,⟨T,e _ _ F (cE X)⟩,⟨U,e _ _ g (cE m)⟩,⟨c,e _ _ E (cE G)⟩,w.acc.grow C l (λy a e=>(w.yH y a).2.1 e),by simp[w.len],?_,w.ne,w.yH⟩,l⟩;have:=w.ll;show cz s.left+Dfs.dj ⟨s.seen.set b ck,s.left⟩<=n;omega
  rintro D⟨u,g1⟩;obtain⟨E,F,c,v,_,_,⟨P,L2,T,rfl,X,C,N⟩,_,t⟩:=ad.later dv H I;have o:=t D u.g 5 1 ag;simp[-ax] at o;have⟨A,g⟩:=u.hF;simp only[aC] at g;have m:=ad.len N;unfold anz;rw[hn] at W;simp only[SV.AA,v,W] at g;simp[aB g,j,o,-ax];refine bh.call (V:=λX M=>X=.func (.func 210) #[] #[eU (Z ⟨D.aw,0,K⟩)]/\M=aJ D [T.v] 0) (aj (OV D T)) ?_;rintro _ t⟨rfl,m⟩;have g:ay aR D t:=by rw[m];exact aO u.g.ok _ _
  have P:t.tr.get D.aw=Z (.bZ [T.v] cd 0 0):=by rw[m];exact bX _ _ _
  have U:t.aw=D.aw+1:=by rw[m];rfl
  clear m;simp;have O:=u.g.trans g;have U:=O.ok;have o:=u.cg;have l:h.aw<=D.aw:=g1.aw;have C:=U.cg P;generalize hse:(⟨s.seen.set b ck,s.left⟩:Dfs.DS)=s1 at*;have aBX:Dfs.dj s1<=k:=ab
  have au0:cz s1.seen=n:=u.len;have⟨l,G⟩:∃l,l=z.to.map qA:=⟨_,Q⟩;have aCt:cz l=cz z.to:=by rw[G];simp
  have m:∀(i:Nat),VG S sb Fb V Lf L i->i<t.aw:=λi A=>by have:=o i A;have:=g.aw;omega
  refine aK.Xe (g:=210) (first:= #[]) (caps:= #[eU (Z ⟨D.aw,0,K⟩)]) J ?_;have⟨e,W⟩:∃e,e=((((((((((((((((Tr.nil.set 0 (aA IntKind.i64 ↑b)).set 1 (aa.pointer (Z { block:=S,off:=0 }))).set 2 (aa.pointer (Z { block:=Fb,off:=0 }))).set 3 (aa.pointer (Z { block:=V,off:=0 }))).set 4 (aa.pointer (Z { block:=Lf,off:=0 }))).set 8 (bf (Z { block:=sb,off:=0 }) n n)).set 9 (aA IntKind.i64 ↑b)).set 10 (aa.pointer (Z { block:=sb,off:=b }))).set 11 (aa.pointer (Z { block:=Fb,off:=3 }))).set 12 (bf (Z { block:=E,off:=F }) n B.c)).set 13 (aA IntKind.i64 ↑b)).set 14 (aa.pointer (Z { block:=E,off:=F+b*6 }))).set 15 (aa.pointer (Z { block:=E,off:=F+b*6+2 }))).set 16 (aa.pointer (Z { block:=E,off:=F+b*6+2+3 }))).set 17 (bf T.a T.l T.c)).set 18 (aa.func (Fn.func 210) #[] #[aa.pointer (Z { block:=D.aw,off:=0 })])):=⟨_,Q⟩;rw[<-W];have e1:bY e 1=eU (Z ⟨S,0,K⟩):=by rw[W];simp
  have e3:bY e 3=eU (Z ⟨V,0,K⟩):=by rw[W];simp
  have i:bY e 0=fc ft b:=by rw[W];simp
  have e4:bY e 4=eU (Z ⟨Lf,0,K⟩):=by rw[W];simp
  clear W;have A:ay aR t (t.new (.loop e [19,20] Db y9 .ready)):=by refine⟨dd _,fq _,λb j _=>F9 _ j,⟨λb q j=>?_,λb m f E s j=>?_⟩⟩;simp only[az.new,Tr.bN] at j⊢;by_cases e:b=t.aw;omega;rw[bM e] at j;exact Nat.lt_succ_of_lt (U.wf b q j);simp only[az.new,Tr.bN] at j⊢;by_cases e:b=t.aw;rw[bK e] at j;cases j;rw[bM e] at j;exact U.st b m f E s j
  have W:(t.new (.loop e [19,20] Db y9 .ready)).tr.get t.aw=Z (.loop e [19,20] Db y9 .ready):=by simp[az.new,Tr.bN]
  have j:(t.new (.loop e [19,20] Db y9 .ready)).aw=t.aw+1:=Q;generalize t.new (.loop e [19,20] Db y9 .ready)=h3 at*;have c:ay aR D h3:=g.trans A;have C:CN h0 h3 n S sb Fb V Lf name p r B L s1:=u.Ag c ai (u.g.trans c);have q:=A.get U P
  let F:Nat->az->Prop:=λj E=>∃H:SV,CN h0 E n S sb Fb V Lf name p r B H (Dfs.foldM (ir d) k (l.reverse.take (cz l-j)) s1)/\(∀y,bx H.v y->bx L.v y\/h3.aw<=y)/\ay (λy=>PW sb Lf L y\/y=t.aw) h3 E/\E.tr.get t.aw=Z (.loop e [19,20] Db y9 .ready)/\E.tr.get D.aw=Z (.bZ [T.v] cd 0 0)
  have m:∀H:SV,(∀y,bx H.v y->bx L.v y\/h3.aw<=y)->∀y,VG S sb Fb V Lf H y->y≠t.aw/\y≠D.aw:=by
   intro H v y a;have U:∀y,VG S sb Fb V Lf L y->y<D.aw:=o;rcases a with h|h|h|h|h|h
   have:=U y (jZ h);omega;have:=U y (kd (jZ h));omega;have:=U y (kd (kd (jZ h)));omega;have:=U y (kd (kd (kd (jZ h))));omega;have:=U y (kd (kd (kd (kd (jZ h)))));omega
   rcases v y h with h|h;have:=U y (kd (kd (kd (kd (kd h)))));omega;omega
  have u:=LP (h0:=h0) (h:=h3) dv (b:=D.aw) N (av (x.two z hm)) (y:=.func (.yield t.aw) #[] #[]) F (λj E ⟨H,F,_,_,_,o⟩=>⟨F.g,0,o⟩) ?_ ⟨L,by rw[<-aCt];simpa [Dfs.foldM] using C,λy a=>jZ a,.refl C.g.ok,W,q⟩
  .refine(by simpa using u:aY FF 210 _ _ _).mono ?_;rintro _ q⟨H,o,U,A,u,N⟩;refine BY.ready u ?_;refine Eq.mp (by rw[aaz];rfl) (?_:aK FF _ _ _ _);have P:ay (· =t.aw) q (Mm q t.aw):=pc o.g.ok t.aw;have N:h0.aw<=t.aw:=O.aw;have N:=o.Ag P (λy a e=>(m H U y a).1 e) (o.g.trans' P ai (λy a e=>ab));have u:Dfs.row (ir d) b=l:=by rw[aiL I,G]
   have C:l.reverse.take (cz l-0)=l.reverse:=tK J;rw[C] at N;have g:=Dfs.xe (Dfs.zc (yY x) k) l.reverse s1 (by rw[au0,hn]) (λW o=>yY x b W (by rw[u];exact eL.1 o));have W:s1.left=s.left:=by rw[<-hse]
   have I:=w.ll;rw[W] at g;refine amf ab N ab i e4 ?_;rintro C M⟨o,g,C,i⟩;simp;have W:Dfs.visitM (ir d) (k+1) b s=⟨(Dfs.foldM (ir d) k l.reverse s1).seen,(Dfs.foldM (ir d) k l.reverse s1).left++[b]⟩:=by rw[Dfs.iE,u,hse]
   rw[W];have I:q.aw<=(Mm q t.aw).aw:=P.aw;refine⟨o,g,?_,λy a=>?_⟩
   .have w:ay (PW sb Lf L) h D:=g1.cU (λ_ _ e=>jZ e);have W:ay (PW sb Lf L) h h3:=w.trans c.cm;have u:ay (PW sb Lf L) h q:=W.trans' A ai (λy a h=>h.elim id (λe=>ab));have I:ay (PW sb Lf L) h (Mm q t.aw):=u.trans' P ai (λy a e=>ab);refine I.trans' C ai (λy a h=>?_);rcases h with h|h|h
    exact jZ h;exact kd (jZ h);rcases U y h with h|h;exact kd (kd h);omega
   rcases i y a with h|h;rcases U y h with h|h;exact jZ h;exact kd ab;exact kd (av A.aw)
  .intro j y E a ⟨H,F,v,o,I,A⟩;have w:=F.g.ok;have U:=m H v;have P:=o.aw;have W:(l[j]?)=Z y.toNat:=by rw[G,gM,a];rfl
   obtain⟨G,G⟩:=x.to z hm y (cO a);obtain⟨u,rfl⟩:∃u:Nat,y=u:=⟨y.toNat,ab⟩;rw[E0] at W;have c:u<n:=ab
   have E:=Zf (tos:=ir d) (k:=k) W s1;generalize z:Dfs.foldM (ir d) k (l.reverse.take (cz l-(j+1))) s1=sj at*;have x:cz sj.seen=n:=F.len;have hfj:Dfs.dj sj<=k:=by rw[<-z];exact qN (Dfs.yI (Dfs.Br (ir d) k) _ _) aBX
   have⟨W,G⟩:=aQ sj.seen u
   let x:az->Prop:=λM=>∃q:SV,CN h0 M n S sb Fb V Lf name p r B q (Dfs.foldM (ir d) k (l.reverse.take (cz l-j)) s1)/\(∀z,bx q.v z->bx L.v z\/h3.aw<=z)/\M.tr.get D.aw=Z (.bZ [T.v] cd 0 0)
   refine(aaR (S:=PW sb Lf H) (Kc:=x) w (l:=t.aw) (λh=>?_) I ?_ ?_).mono ?_;rcases h with h|h|h;exact(U sb (kd (jZ Q))).1 h.symm;exact(U Lf (kd (kd (kd (kd (jZ Q)))))).1 h.symm;exact(U _ (kd (kd (kd (kd (kd h)))))).1 rfl
   .unfold Db;simp;refine⟨.refl w,λl x=>?_⟩;have D:h0.aw<=t.aw:=O.aw;have N:=F.Ag x (λy a e=>(U y a).1 e) (F.g.trans' x ai (λy a e=>ab));have P:=x.get w A (λe=>ab);have⟨I,w⟩:=N.hS;have⟨T,I⟩:=N.CP;have⟨F,j⟩:=N.hV;have A:=aqA I G;unfold y9;cases W
    .simp[e1,e3,aB w,aB j,c,A,-ax];refine bh.fF (V:=λ_ M=>UK h0 l n S sb Fb V Lf name p r B H (Dfs.visitM (ir d) k u sj) M) ?_ ?_
     .have V1:fh FF (.func (.func 147) #[] #[eU (Z ⟨S,0,K⟩),eU (Z ⟨Fb,0,K⟩),eU (Z ⟨V,0,K⟩),eU (Z ⟨Lf,0,K⟩)]) [fc ft u] l (λ_ M=>UK h0 l n S sb Fb V Lf name p r B H (Dfs.visitM (ir d) k u sj) M):=
       fh.func (aj (ih u l H sj N c (by rw[G];simp) hfj))
      simpa using V1
     rintro X F⟨q,g,C,i⟩;simp;have j:=x.aw;refine⟨C,q,?_,λz u=>?_,C.get N.g.ok P (λh=>?_)⟩
     rw[E];simpa [G] using g;rcases i z u with h|h;exact v z h;exact kd ab;rcases h with h|h|h;exact(U sb (kd (jZ Q))).2 h.symm;exact(U Lf (kd (kd (kd (kd (jZ Q)))))).2 h.symm;exact(U _ (kd (kd (kd (kd (kd h)))))).2 rfl
    simp[e1,aB w,c,A,-ax];refine⟨.refl N.g.ok,H,?_,v,P⟩;rw[E];simpa [G] using N
   rintro l F⟨q,g,i,H⟩ j C;have D:h0.aw<=t.aw:=O.aw;exact⟨q,g.Ag C (λy a e=>(m q i y a).1 e) (g.g.trans' C ai (λy a e=>ab)),i,C.get j H (λe=>ab)⟩
   rintro X l⟨rfl,x,E,q,g,i,H⟩;refine⟨Q,q,g,i,?_,E,H⟩;refine o.trans' x ai (λz u h=>?_);rcases h with h|h;rcases h with h|h|h;exact jZ (jZ h);exact jZ (kd (jZ h));rcases v z h with h|h;exact jZ (kd (kd h));omega;exact kd h
end
def ov{a:List Int}(j:h.tr.get W=Z (.bZ (encI.flat a) f o s)){x:Int}(b:a[k]?=Z x):cy h W k 1=Z [fc ft x]:=by have q:=(cY.mp b).1;rw[dx j (by rw[encI.dT];show k+1<=cz a*1;omega)];have:=encI.sw a k 0 1 x b ag;simp only[A1] at this;rw[show k=k*encI.sz from(ib k).symm,this];rfl
def uj(a:List Int)(i:Nat)(x:Int)(h:i<cz a):aX (encI.flat a) i [fc ft x]=encI.flat (a.set i x):=by have:=encI.jV a i x h;simpa using this
def xC(d:List GB):List Int:=(Dfs.vu (ir d) (cz d)).map λx:Nat=>(x:Int)
def FY(n:Nat):Dfs.dj ⟨ae n cd,[]⟩=n:=by
 unfold Dfs.dj;dsimp only;induction n with
 |zero=>rfl
 |succ n a=>rw[kb,ei,a];rfl
def Q8(q:cu h){name:ByteArray}{p r:Int}(H:qP h B d)(E:kE d)(h0:0<cz d):aY FF 87 [ix ⟨aC name p r B⟩] h (λv c=>ay aR h c/\∃L:SV,v=L.v/\bm encI h.aw c L.v (xC d)):=by
 have D:=ad.len H;have w:=E.len;have w:roomy (cz d)=ck:=by simp[roomy];omega
 have O:roomy (cz d*1)=ck:=by simp[roomy];omega
 have M:ky [aa.bool cd] (cz d)=Hs.flat (ae (cz d) cd):=by
  have:∀n,ky [aa.bool cd] n=Hs.flat (ae n cd):=by
   intro n;induction n with
   |zero=>rfl
   |succ n a=>rw[kb,e7.jb,<-a];rfl
  exact this _
 refine aY.of RZ ?_;unfold G8;simp[aC,D,w,M];refine bh.cut (λa=>CN h a (cz d) (h.aw+3) (h.aw+2) h.aw (h.aw+4) (h.aw+1) name p r B cM ⟨ae (cz d) cd,[]⟩) ?_ ?_
 .refine⟨?_,ab,ab,⟨h.clock,?_⟩,⟨0,?_⟩,⟨0,?_⟩,⟨h.clock+1,?_⟩,⟨0,?_⟩,jZ ⟨Q,Q⟩,J,by simp[FY],ab,λb ⟨_,_,_,e⟩=>by cases e⟩
  .repeat (first|exact .refl q|apply ay.new|refine ay.put ?_ (by simp[IU]) (jZ ab))
  simp[IU];simp[IU];simp[IU,aC,D];simp[IU];simp[IU,cM]
 intro a w;obtain⟨N,N⟩:=w.hV;have D:=(w.g.ok.cg N).lt;refine bh.fF (V:=λ_ c=>UK h a (cz d) (h.aw+3) (h.aw+2) h.aw (h.aw+4) (h.aw+1) name p r B cM (Dfs.visitM (ir d) (cz d) 0 ⟨ae (cz d) cd,[]⟩) c) ?_ ?_
 have V1:=abi q H E rfl (cz d) 0 a cM _ w h0 (by simp[Qp]) (by rw[FY];exact fq _);have V2:fh FF (.func (.func 147) #[] #[eU (Z ⟨h.aw+3,0,K⟩),eU (Z ⟨h.aw,0,K⟩),eU (Z ⟨h.aw+4,0,K⟩),eU (Z ⟨h.aw+1,0,K⟩)]) [fc ft 0] a _:=fh.func (aj V1);simpa using V2
 rintro v v⟨L,j,v,_⟩;obtain⟨I,I⟩:=j.hL;simp at I;simp[I];exact⟨j.g,L,⟨Q,Q,Q⟩,j.acc⟩
def azv(a b:Nat)(h:az)(a:List Int)(m:Nat)(e:Env)(d:az):Prop:=
 ∃(i:Nat) (c:List Int),m=cz a-i/\i<=cz a/\bY e 0=dB (Z ⟨b,0,K⟩) (cz a) (cz a)/\bC e 2 i/\bC e 3 ((cz a:Int)-1-i)/\ay (· =b) h d/\(∃s,d.tr.get b=Z (.bZ (encI.flat c) cd 1 s))/\cz c=cz a/\∀k,k<cz a->c[k]?=if k<i\/cz a<=k+i then a[cz a-1-k]? else a[k]?
def TU(A:cu h){P:Nat}{p:List Int}(a:bm encI P h L.v p)(z:cz p<1000000):aY FF 199 [L.v] h (λ_ i=>ay (bx L.v) h i/\bm encI P i L.v p.reverse):=by
 have w:=ch ((cz p:Int)-1) ab ab;refine aY.of zh ?_;unfold oN;rcases a with⟨rfl,e⟩|⟨b,s,e,F,l,U⟩;have n:IntKind.i64.wrap (0-1)= -1:=ch _ ab ab;have W:IntKind.i64.wrap (-1)= -1:=ch _ ab ab;rw[e];simp[n,W];rw[DJ];unfold iN;simp;exact⟨.refl A,jZ ⟨Q,Q⟩⟩
 .rw[e];simp[w];refine aK.loop (azv P b h p) ?_ (n:=cz p) ⟨0,p,Q,ab,J,J,J,.refl A,⟨s,F⟩,Q,λk H=>by rw[bM ab]⟩;rintro m F g⟨i,q,rfl,X,G,T,A,a,⟨N,C⟩,I,D⟩;unfold iN;by_cases u:(i:Int)<(cz p:Int)-1-i
  .have⟨j,v⟩:∃j:Nat,(j:Int)=(cz p:Int)-1-i:=⟨cz p-1-i,ab⟩;have P:j<cz p:=ab
   have t:i<cz p:=ab
   rw[<-v] at A;have d:i<j:=ab
   have⟨x,z⟩:=aQ q i;have⟨y,O⟩:=aQ q j;have o:=ov C z;have v:=ov C O;have E:=ch ((i:Int)+1) ab ab;have S:=ch ((j:Int)-1) ab ab;have r:i+1<=cz q:=ab
   have V:j+1<=cz q:=ab
   have M:aX (encI.flat q) i [fc ft y]=encI.flat (q.set i y):=uj _ _ _ ab;have m:aX (encI.flat (q.set i y)) j [fc ft x]=encI.flat ((q.set i y).set j x):=uj _ _ _ (by simp;omega);simp[G,T,A,d,P,t,aI,o,v,C,r,V,E,S,M,-ax];have c:(put (tick g) b i (encI.flat q) [fc ft y] 1).tr.get b=Z (.bZ (encI.flat (q.set i y)) cd 1 (tick g).clock):=by rw[aZ,M]
   have W:ay (· =b) h (put (tick g) b i (encI.flat q) [fc ft y] 1):=a.tick.trans (bc a.tick.ok C);refine⟨cz p-(i+1),ab,i+1,(q.set i y).set j x,Q,ab,au G,J,by simp;omega,W.trans (bc W.ok c),⟨_,by rw[aZ,m]⟩,au I,λk H=>?_⟩;rw[fO,fO];have I:=D i t;have E:=D j P;rw[bM ab] at I E;by_cases w:j=k
   subst w;rw[bK Q,bK (by simp;omega),bK ab,<-z,I];congr 1;omega;rw[bM w];by_cases F:i=k;subst F;rw[bK Q,bK ab,bK ab,<-O,E];congr 1;omega;rw[bM F,D k H];by_cases c:k<i\/cz p<=k+i;rw[bK c,bK ab];rw[bM c,bM ab]
  .simp[T,A,u];have e:q=p.reverse:=by refine BT λk=>?_;by_cases H:k<cz p;rw[List.getElem?_reverse H,D k H];split;rfl;congr 1;omega;rw[xU ab,xU (by simp;omega)]
   refine⟨a.cU (λx _ e=>e▸⟨_,_,_,Q⟩),kd ⟨b,N,J,by rw[<-e];exact C,aj l,U⟩⟩
def Gl(D:cu h){name:ByteArray}{p r:Int}(M:qP h B d)(E:kE d)(h0:0<cz d):aY FF 138 [ix ⟨aC name p r B⟩] h (λv j=>ay aR h j/\∃L:SV,v=L.v/\bm encI h.aw j L.v (xC d).reverse):=by
 refine aY.of Kv ?_;unfold Bt;simp[aC];have q:=aO D (aC name p r B) 0;refine bh.call (V:=λv j=>ay aR (aJ h (aC name p r B) 0) j/\∃L:SV,v=L.v/\bm encI (h.aw+1) j L.v (xC d)) (by simpa [aC] using Q8 q.ok (name:=name) (p:=p) (r:=r) (M.mono D q) E h0) ?_;rintro _ D⟨I,L,rfl,H⟩;have w:=q.trans I;have I:cz (xC d)<1000000:=by
  have P:=Dfs.Lm h0 (yY E);have:cz (Dfs.vu (ir d) (cz d))<=cz d:=by have:=TP P.1 (l₂:=List.range (cz d)) (λx q=>OB.2 (P.2.1 x q));simpa using this
  have:=E.len;unfold xC;simp;omega
 simp;refine bh.call (V:=λ_ j=>ay (bx L.v) D j/\bm encI (h.aw+1) j L.v (xC d).reverse) (aj (TU w.ok H I)) ?_;rintro _ e⟨e,N⟩;simp;refine⟨w.trans' e ai (λx q e=>av (H.of e)),L,⟨Q,Q,Q⟩,?_⟩;rcases N with a|⟨b,s,e,O,q,N⟩;exact jZ a;exact kd ⟨b,s,e,O,q,ab⟩
end Go.Proofs.YtdhnndleffachaaGreatDoor
namespace Go.AI.Dom
variable{A B u:Nat->Nat}{b i k x y:Nat}
inductive e_(u:Nat->Nat):Nat->Nat->Prop
 |refl (x:Nat):e_ u x x
 |step {x y:Nat} :e_ u (u x) y->e_ u x y
structure Down(u:Nat->Nat):Prop where
 zero:u 0=0
 lt:∀i,0<i->u i<i
def e_.trans{x y z:Nat}(h:e_ u x y)(k:e_ u y z):e_ u x z:=by
 induction h with
 |refl=>exact k
 |step _ a=>exact .step (a k)
def e_.le(d:Down u)(h:e_ u x y):y<=x:=by
 induction h with
 |refl=>exact fq _
 | @step x y _ a=>
  rcases EK x with rfl|j;rw[d.zero] at a;exact a;have:=d.lt x j;omega
def e_.up(h:e_ u x y)(a:x≠y):e_ u (u x) y:=by
 cases h with
 |refl=>exact absurd rfl a
 |step h=>exact h
def e_.local{u v:Nat->Nat}(d:Down u)(e:∀i,i<b->u i=v i)(h:e_ u x y)(a:x<b):e_ v x y:=by
 induction h with
 |refl=>exact .refl _
 | @step x y _ j=>
  refine .step ?_;rw[<-e x a];refine j ?_;rcases EK x with rfl|h;rw[d.zero];exact a;have:=d.lt x h;omega
def mix(A B:Nat->Nat)(b i:Nat):Nat:=if i<b then B i else A i
def ah_(h:i<b):mix A B b i=B i:=bK h
def aao(h:¬i<b):mix A B b i=A i:=bM h
def Down.mix{A B:Nat->Nat}(a:Down A)(b:Down B)(k:Nat):Down (mix A B k):=by refine⟨?_,λi j=>?_⟩;unfold Dom.mix;split;exact b.zero;exact a.zero;unfold Dom.mix;split;exact b.lt i j;exact a.lt i j
def yr(a:Down A)(b:Down B)(q:x<k):e_ (mix A B k) x y↔e_ B x y:=
 ⟨λh=>h.local (a.mix b k) (λi j=>ah_ j) q,λh=>h.local b (λi j=>(ah_ j).symm) q⟩
def Vu(a:Down A)(M:0<b):∀w,∃q,q<b/\e_ A w q/\∀B,e_ (mix A B b) w q/\∀x,x<b->e_ (mix A B b) w x->e_ (mix A B b) q x:=by
 intro w;induction w using Nat.strongRecOn with
 |ind w D=>
  by_cases h:w<b;exact⟨w,h,.refl _,λB=>⟨.refl _,λ_ _ h=>h⟩⟩
  .have j:0<w:=ab
   have⟨q,H,E,I⟩:=D (A w) (a.lt w j);refine⟨q,H,.step E,λB=>?_⟩;have⟨E,H⟩:=I B;refine⟨.step (by rw[aao h];exact E),λx E q=>?_⟩;have:=q.up ab;rw[aao h] at this;exact H x E this
section
variable(m:Nat)(a:Nat->List Nat)
def Round(A B:Nat->Nat):Prop:=∀b,0<b->b<m->(∀w∈a b,e_ (mix A B b) w (B b))/\∀z,(∀w∈a b,e_ (mix A B b) w z)->e_ (mix A B b) (B b) z
def af7(B:Nat->Nat):Prop:=∀b,0<b->b<m->(∀w∈a b,w<b->e_ B w (B b))/\∀z,(∀w∈a b,w<b->e_ B w z)->e_ B (B b) z
def zL(A B:Nat->Nat):Prop:=∀p,0<p->p<m->e_ B (A p) (B p)
end
section
variable{m:Nat}{c:Nat->List Nat}{A B C:Nat->Nat}
def zL.mono(a:Down A)(E:Down B)(W:∀p,0<p->p<k->e_ B (A p) (B p)):∀w,w<k->∀x,e_ B w x->e_ A w x:=by
 intro w;induction w using Nat.strongRecOn with
 |ind w D=>
  intro q x j;by_cases e:w=x;subst e;exact .refl _;rcases EK w with rfl|p;have:=j.le E;omega;have E:=j.up e;have e:=(W w p q).trans E;exact .step (D (A w) (a.lt w p) (av (a.lt w p)) x e)
def zL.below(H:Down A)(W:Down B)(W:∀p,0<p->p<k->e_ B (A p) (B p))(M:0<b):∀p,p<k->∃q,q<b/\e_ A p q/\e_ (mix A B b) p q/\∀x,x<b->e_ B p x->e_ B q x:=by
 intro p;induction p using Nat.strongRecOn with
 |ind p w=>
  intro j;by_cases h:p<b;exact⟨p,h,.refl _,.refl _,λ_ _ h=>h⟩
  .have a:0<p:=ab
   have D:=H.lt p a;have⟨q,H,c,I,E⟩:=w (A p) D ab;refine⟨q,H,.step c,.step (by rw[aao h];exact I),λx h H=>?_⟩;exact E x h ((W p a j).trans (H.up ab))
def zL.over(j:Down B)(W:∀p,0<p->p<k->e_ C (B p) (C p)):∀w,w<k->∀u,e_ B w u->∀x,x<=u->e_ C w x->e_ C u x:=by
 intro w;induction w using Nat.strongRecOn with
 |ind w E=>
  intro D u q x b a;by_cases e:w=u;subst e;exact a
  .have I:=q.le j;have p:0<w:=ab
   have H:=j.lt w p;exact E (B w) H ab u (q.up e) x b ((W w p D).trans (a.up ab))
def N0(I:Down A)(j:Down B)(H:Down C)(l:∀b,0<b->b<m->∃w∈c b,w<b)(O:∀b w,w∈c b->w<m)(i:af7 m c B\/(Round m c A B/\zL m A B))(M:Round m c B C):zL m B C:=by
 intro p;induction p using Nat.strongRecOn with
 |ind p f=>
  intro d D;have W:∀q,0<q->q<p->e_ C (B q) (C q):=λq e g=>f q g e ab;have mono:=zL.mono j H W;have⟨e,_⟩:=M p d D;have g:=H.lt p d;have f:=j.lt p d;have n:e_ B (B p) (C p):=by rcases i with h|⟨h,M⟩;refine(h p d D).2 _ λw E a=>?_;exact mono w a _ ((yr j H a).1 (e w E));refine(yr I j f).1 ((h p d D).2 _ λw E=>?_);by_cases a:w<p;exact(yr I j a).2 (mono w a _ ((yr j H a).1 (e w E)));have⟨q,f,o,k⟩:=Vu j d w;have N:=(k C).2 _ g (e w E);have k:=mono q f _ ((yr j H f).1 N);have N:=o.trans k;have⟨r,k,_,f,q⟩:=zL.below I j M d w (O p w E);exact f.trans ((yr I j k).2 (q _ g N))
  have O:=n.le j;have⟨w,E,a⟩:=l p d D;have N:e_ B w (B p):=by rcases i with h|⟨h,_⟩;exact(h p d D).1 w E a;exact(yr I j a).1 ((h p d D).1 w E)
  exact zL.over j W w a _ N _ O ((yr j H a).1 (e w E))
def zL.le(a:Down B)(j:Down A)(W:zL m A B):∀p,p<m->B p<=A p:=by intro p q;rcases EK p with rfl|b;rw[a.zero,j.zero];exact fq _;exact(W p b q).le a
end
def total(u:Nat->Nat):Nat->Nat
 |0=>0
 |n+1=>total u n+u n
def XK{u v:Nat->Nat} :∀n,(∀i,i<n->u i<=v i)->total u n<=total v n
 |0,_=>fq _
 |n+1,h=>by have:=XK n (λi a=>h i ab);have:=h n ab;simp only[total];omega
def XL{u v:Nat->Nat} :∀n,(∀i,i<n->u i<=v i)->(∃i,i<n/\u i≠v i)->total u n<total v n
 |0,_,⟨i,a,_⟩=>ab
 |n+1,h,⟨i,a,j⟩=>by
  have e:=XK n (λi a=>h i ab);have e:=h n ab;simp only[total];by_cases e:i=n
  subst e;omega;have:=XL n (λi a=>h i ab) ⟨i,ab,j⟩;omega
def Kk{u:Nat->Nat}{k:Nat} :∀n,(∀i,i<n->u i<=k)->total u n<=n*k
 |0,_=>by simp[total]
 |n+1,h=>by have:=Kk n (λi a=>h i ab);have:=h n ab;simp only[total,xf];omega
end Go.AI.Dom
namespace Go.AI.Tree
open Go.AI.Dom
variable{A V:Nat->Nat}{ah:List (List Int)}{b i k n x y z:Nat}{bw:List Nat}{p:Int}{c us:List Int}
structure XY(bw:List Nat)(us:List Int)(n:Nat)(V:Nat->Nat)(k:Nat):Prop where
 len:cz us=n
 set:∀(i x:Nat),bw[i]?=Z x->i<k->∃y:Nat,bw[V i]?=Z y/\us[x]?=Z (y:Int)
 un:∀(i x:Nat),bw[i]?=Z x->k<=i->us[x]?=Z (-1)
 out:∀x,x<n->x∉bw->us[x]?=Z (-1)
structure Ord(bw:List Nat)(n:Nat):Prop where
 nd:bw.Nodup
 lt:∀x∈bw,x<n
 zero:bw[0]?=Z 0
def Ord.inj(o:Ord bw n){i j x:Nat}(q:bw[i]?=Z x)(a:bw[j]?=Z x):i=j:=by have j:=(cY.mp q).1;have D:=(cY.mp a).1;have D:=(cY.mp q).2;have w:=(cY.mp a).2;exact(List.getElem_inj o.nd).1 (D.trans w.symm)
def UY(d:Down V)(h:y<x)(w:Nat):(e_ V x w/\e_ V y w)↔(e_ V (V x) w/\e_ V y w):=by
 constructor;rintro⟨w,a⟩;have:=a.le d;exact⟨w.up ab,a⟩
 rintro⟨w,a⟩;exact⟨.step w,a⟩
def E8(bw:List Nat)(V:Nat->Nat)(k:Nat)(c:List Int)(a:Int):Prop:=
 (a= -1/\∀p∈c,∀i,i<k->¬ ∃x:Nat,bw[i]?=Z x/\p=x)\/∃z y:Nat,z<k/\bw[z]?=Z y/\a=y/\(∃p∈c,∃i,i<k/\∃x:Nat,bw[i]?=Z x/\p=x)/\∀w,e_ V z w↔ ∀p∈c,∀i,i<k->(∃x:Nat,bw[i]?=Z x/\p=x)->e_ V i w
def E8.nil(bw:List Nat)(V:Nat->Nat)(k:Nat):E8 bw V k [] (-1):=jZ ⟨Q,λp a=>by cases a⟩
def E8.skip{E p:Int}(b:E8 bw V k c E)(D:∀i,i<k->¬ ∃x:Nat,bw[i]?=Z x/\p=x):E8 bw V k (c++[p]) E:=by rcases b with⟨e,h⟩|⟨z,y,M,E,e,⟨q,a,j⟩,h⟩;refine jZ ⟨e,λq a=>?_⟩;rcases kg.1 a with a|a;exact h q a;simp at a;subst a;exact D;refine kd ⟨z,y,M,E,e,⟨q,kg.2 (jZ a),j⟩,λw=>(h w).trans ⟨λH q a i I h=>?_,λH q a=>H q (kg.2 (jZ a))⟩⟩;rcases kg.1 a with a|a;exact H q a i I h;simp at a;subst a;exact absurd h (D i I)
def E8.one(o:Ord bw n)(b:E8 bw V k c (-1))(I:i<k)(D:bw[i]?=Z x)(E:p=x):E8 bw V k (c++[p]) p:=by
 rcases b with⟨_,h⟩|⟨z,y,_,_,e,_⟩
 .refine kd ⟨i,x,I,D,E,⟨p,J,i,I,x,D,E⟩,λw=>⟨λH q a j M ⟨e,d,N⟩=>?_,λH=>H p J i I ⟨x,D,E⟩⟩⟩;rcases kg.1 a with a|a;exact absurd ⟨e,d,N⟩ (h q a j M)
  .simp at a;subst a;have:e=x:=ab
   subst this;rw[o.inj d D];exact H
 omega
def E8.meet(o:Ord bw n){a:Nat}{m:Int}(b:E8 bw V k c (a:Int))(N:bw[i]?=Z x)(f:i<k)(O:p=x)(g:∀I,bw[I]?=Z a->I<k->∃z y:Nat,z<k/\bw[z]?=Z y/\m=y/\∀w,e_ V z w↔(e_ V I w/\e_ V i w)):E8 bw V k (c++[p]) m:=by
 rcases b with⟨e,h⟩|⟨z,y,I,d,e,⟨q,D,E⟩,h⟩;omega
 .have:a=y:=ab
  subst this;have⟨H,m,M,e,j,a⟩:=g z d I;refine kd ⟨H,m,M,e,j,⟨q,kg.2 (jZ D),E⟩,λw=>(a w).trans ?_⟩;rw[h w];constructor
  .rintro⟨a,H⟩ q D j h ⟨w,M,E⟩;rcases kg.1 D with D|D;exact a q D j h ⟨w,M,E⟩
   .simp at D;subst D;have:w=x:=ab
    subst this;rw[o.inj M N];exact H
  intro H;exact⟨λq D=>H q (kg.2 (jZ D)),H p J i f ⟨x,N,O⟩⟩
def pQ(bw:List Nat)(ah:List (List Int))(b:Nat):List Nat:=
 (List.range (cz bw)).filter λi=>match bw[i]?,bw[b]? with
  |some x,Z y=>((ah[y]?).getD []).contains (x:Int)
  |_,_=>cd
def su(w:bw[b]?=Z y)(j:ah[y]?=Z c) :i∈pQ bw ah b↔ ∃x:Nat,bw[i]?=Z x/\(x:Int)∈c:=by unfold pQ;rw[EL,OB,w];constructor;rintro⟨a,a⟩;rcases d:bw[i]? with _|x;rw[d] at a;simp at a;rw[d] at a;simp[j] at a;exact⟨x,Q,a⟩;rintro⟨x,d,q⟩;refine⟨(cY.mp d).1,?_⟩;rw[d];simpa [j] using q
def NS(b w:Nat)(h:w∈pQ bw ah b):w<cz bw:=by unfold pQ at h;exact OB.1 (EL.1 h).1
def py(V:Nat->Nat)(i z j:Nat):Nat:=if j=i then z else V j
def Down.py{V:Nat->Nat}(d:Down V){i z:Nat}(q:0<i)(w:z<i):Down (py V i z):=by refine⟨?_,λj a=>?_⟩;unfold Tree.py;rw[bM ab];exact d.zero;unfold Tree.py;split;omega;exact d.lt j a
structure H2(bw:List Nat)(ah:List (List Int))(n:Nat)(us:List Int)(first:Bool)(A V:Nat->Nat)(i:Nat)(cx:Bool):Prop where
 rep:XY bw us n V (if first then i else cz bw)
 dn:Down V
 cg:first=cd->∀j,i<=j->V j=A j
 awv:first=ck->∀b,0<b->b<i->(∀w∈pQ bw ah b,w<b->e_ V w (V b))/\∀z,(∀w∈pQ bw ah b,w<b->e_ V w z)->e_ V (V b) z
 rnd:first=cd->∀b,0<b->b<i->(∀w∈pQ bw ah b,e_ (mix A V b) w (V b))/\∀z,(∀w∈pQ bw ah b,e_ (mix A V b) w z)->e_ (mix A V b) (V b) z
 chg:first=cd->cx=ck->∃j,j<i/\V j≠A j
def XY.put(o:Ord bw n)(r:XY bw us n V k)(q:bw[i]?=Z x)(b:bw[z]?=Z y)(N:k<=i+1)(O:i<=k):XY bw (us.set x (y:Int)) n (py V i z) (i+1):=by
 have I:x<cz us:=by rw[r.len];exact o.lt x (cO q)
 refine⟨by simp[r.len],λj w a D=>?_,λj w a D=>?_,λw H E=>?_⟩;by_cases e:j=i;subst e;rw[q] at a;cases a;exact⟨y,by rw[py,bK Q,b],by rw[fO,bK Q,bK I]⟩;have⟨M,b,c⟩:=r.set j w a ab;refine⟨M,by rw[py,bM e,b],?_⟩;rw[fO,bM (λb=>e (by subst b;exact o.inj a q)),c]
 .have e:¬x=w:=λb=>by subst b;have:=o.inj a q;omega
  rw[fO,bM e];exact r.un j w a ab
 rw[fO,bM (λb:x=w=>E (b▸cO q))];exact r.out w H E
def XY.aEL(o:Ord bw n)(r:XY bw us n V k)(q:bw[i]?=Z x)(b:bw[z]?=Z y)(N:i<k):XY bw (us.set x (y:Int)) n (py V i z) k:=by
 have I:x<cz us:=by rw[r.len];exact o.lt x (cO q)
 refine⟨by simp[r.len],λj w a D=>?_,λj w a D=>?_,λw H E=>?_⟩;by_cases e:j=i;subst e;rw[q] at a;cases a;exact⟨y,by rw[py,bK Q,b],by rw[fO,bK Q,bK I]⟩;have⟨M,b,c⟩:=r.set j w a ab;refine⟨M,by rw[py,bM e,b],?_⟩;rw[fO,bM (λb=>e (by subst b;exact o.inj a q)),c]
 .have c:¬x=w:=λb=>by subst b;have:=o.inj a q;omega
  rw[fO,bM c];exact r.un j w a ab
 rw[fO,bM (λb:x=w=>E (b▸cO q))];exact r.out w H E
def ace(a:b<=i):mix A (py V i z) b=mix A V b:=by funext j;unfold mix py;by_cases h:j<b;rw[bK h,bK h,bM ab];rw[bM h,bM h]
def H2.step{bw:List Nat}{ah:List (List Int)}{n:Nat}(P:Ord bw n){us:List Int}{first a:Bool}{A V:Nat->Nat}{i:Nat}(m:H2 bw ah n us first A V i a)(j:0<i){x:Nat}(D:bw[i]?=Z x){c:List Int}(g:ah[x]?=Z c)(q:∃w∈pQ bw ah i,w<i){e:Int}(h:E8 bw V (if first then i else cz bw) c e):∃y z:Nat,e=y/\bw[z]?=Z y/\H2 bw ah n (us.set x e) first A (py V i z) (i+1) (a||(decide (us[x]? ≠Z e))):=by
 have T:=(cY.mp D).1;have⟨C,e,u⟩:=q;have q:i<=(if first then i else cz bw):=by split<;>omega
 have⟨q,u,d⟩:=(su D g).1 e;rcases h with⟨e,h⟩|⟨z,y,o,o,rfl,_,H⟩;exact absurd ⟨q,u,Q⟩ (h _ d C ab);have S:z<i:=by have:=((H z).1 (.refl _)) _ d C ab ⟨q,u,Q⟩;have:=this.le m.dn;omega
 refine⟨y,z,Q,o,?_⟩;have C:Down (py V i z):=Down.py m.dn j S;have d:∀w u,w<i->(e_ (py V i z) w u↔e_ V w u):=λw u q=>⟨λh=>h.local C (λj M=>by unfold py;rw[bM ab]) q,λh=>h.local m.dn (λj M=>by unfold py;rw[bM ab]) q⟩;cases O:first
 .have r:=m.rep;rw[O] at r H;simp only[CL,if_false] at r H;have v:=m.cg O;have f:mix A V i=V:=by funext j;unfold mix;split;rfl;exact(v j ab).symm
  refine⟨?_,C,λ_ j M=>?_,λh=>by simp at h,λ_ b k U=>?_,λ_ G=>?_⟩;have:=r.aEL P D o T;simpa using this;unfold py;rw[bM ab];exact v j ab
  .by_cases e:b=i
   .subst e;have N:py V b z b=z:=by unfold py;rw[bK rfl]
    rw[N,ace (fq _),f];refine⟨λw q=>?_,λu f=>?_⟩;have⟨I,E,F⟩:=(su D g).1 q;exact((H z).1 (.refl _)) _ F w (NS _ _ q) ⟨I,E,Q⟩;refine(H u).2 λp B j M ⟨I,E,s⟩=>?_;exact f j ((su D g).2 ⟨I,E,s▸B⟩)
   .have L:b<i:=ab
    have N:py V i z b=V b:=by unfold py;rw[bM e]
    rw[N,ace ab];exact m.rnd O b k L
  .by_cases l:a=ck;have⟨j,M,t⟩:=m.chg O l;exact⟨j,ab,by unfold py;rw[bM ab];exact t⟩
   .have t:a=cd:=aj l
    rw[t] at G;simp only[Bool.false_or,decide_eq_true_eq] at G;refine⟨i,ab,?_⟩;unfold py;rw[bK rfl];intro e;obtain⟨t,l,t⟩:=r.set i x D T;rw[v i (fq _),<-e,o] at l;cases l;exact G t
 .have r:=m.rep;rw[O] at r H;simp only[bK] at r H;refine⟨?_,C,λh=>by simp at h,λ_ b k U=>?_,λh=>by simp at h,λh=>by simp at h⟩;have:=r.put P D o ab ab;simpa using this
  .by_cases e:b=i
   .subst e;have N:py V b z b=z:=by unfold py;rw[bK rfl]
    rw[N];refine⟨λw q a=>?_,λu f=>?_⟩;have⟨I,E,F⟩:=(su D g).1 q;exact(d w z a).2 (((H z).1 (.refl _)) _ F w a ⟨I,E,Q⟩);refine(d z u S).2 ((H u).2 λp B j M ⟨I,E,s⟩=>?_);exact(d j u M).1 (f j ((su D g).2 ⟨I,E,s▸B⟩) M)
   .have L:b<i:=ab
    have N:py V i z b=V b:=by unfold py;rw[bM e]
    rw[N];have⟨l,t⟩:=m.awv O b k L;have L:=m.dn.lt b k;refine⟨λw q a=>(d w _ ab).2 (l w q a),λu f=>(d _ u ab).2 (t u λw q a=>(d w u ab).1 (f w q a))⟩
def VP(bw:List Nat)(ah:List (List Int))(V:Nat->Nat):Prop:=
 Down V/\(af7 (cz bw) (pQ bw ah) V\/∃A,Down A/\Round (cz bw) (pQ bw ah) A V/\zL (cz bw) A V)
def aEC(o:Ord bw n):XY bw ((ae n (-1:Int)).set 0 0) n (λi=>i-1) 1:=by
 have b:=o.lt 0 (cO o.zero);have q:∀x,¬x=0->x<n->((ae n (-1:Int)).set 0 0)[x]?=Z (-1):=by intro x j D;rw[fO,bM (λe=>j e.symm),Qp,bK D]
 refine⟨J,λi x a w=>?_,λi x a w=>?_,λx j E=>?_⟩
 .have:i=0:=ab
  subst this;rw[o.zero] at a;cases a;exact⟨0,o.zero,by rw[fO,bK Q,bK (aj b)];rfl⟩
 refine q x (λe=>?_) (o.lt x (cO a));subst e;have:=o.inj a o.zero;omega
 exact q x (λe=>E (e▸cO o.zero)) j
def aea(o:Ord bw n)(A:Nat->Nat)(a:Bool):H2 bw ah n ((ae n (-1:Int)).set 0 0) ck A (λi=>i-1) 1 a:=
 ⟨aj (aEC o),⟨Q,λi j=>by show i-1<i;omega⟩,λh=>by simp at h,λ_ b o o=>ab,λh=>by simp at h,λh=>by simp at h⟩
def ah9(r:XY bw us n A (cz bw))(d:Down A):H2 bw ah n us cd A A 1 cd:=
 ⟨aj r,d,λ_ _ _=>rfl,λh=>by simp at h,λ_ b d d=>ab,λ_ h=>by simp at h⟩
def H2.done{first H:Bool}(m:H2 bw ah n us first A V (cz bw) H)(N:first=cd->VP bw ah A)(E:∀b,0<b->b<cz bw->∃w∈pQ bw ah b,w<b):VP bw ah V/\XY bw us n V (cz bw)/\(first=cd->H=ck->total V (cz bw)<total A (cz bw)):=by
 have r:=m.rep;cases a:first
 .rw[a] at r;have⟨q,M⟩:=N a;have R:Round (cz bw) (pQ bw ah) A V:=λb d c=>m.rnd a b d c;have W:zL (cz bw) A V:=by rcases M with h|⟨D,D,d,c⟩;exact N0 q q m.dn E (λb w=>NS b w) (jZ h) R;exact N0 D q m.dn E (λb w=>NS b w) (kd ⟨d,c⟩) R
  refine⟨⟨m.dn,kd ⟨A,q,R,W⟩⟩,aj r,λ_ I=>?_⟩;have⟨j,w,E⟩:=m.chg a I;exact XL _ (λi O=>zL.le m.dn q W i O) ⟨j,w,E⟩
 rw[a] at r;exact⟨⟨m.dn,jZ λb d c=>m.awv a b d c⟩,aj r,λh=>by simp at h⟩
def SK(us:List Int)(n:Nat):Prop:=cz us=n/\∃a:Nat->Nat,(∀x,a x<=n)/\∀(x:Nat)(v:Int),us[x]?=Z v->v= -1\/∃y:Nat,v=y/\y<n/\a y<a x
def awG(o:Ord bw n)(d:Down V)(r:XY bw us n V (cz bw))(D:cz bw<=n):SK (us.set 0 (-1)) n:=by
 refine⟨by simp[r.len],λx=>bw.idxOf x,λx=>qN List.idxOf_le_length D,λx v a=>?_⟩;rw[fO] at a;by_cases e:0=x;rw[bK e] at a;split at a;cases a;exact jZ rfl;cases a
 .rw[bM e] at a;have D:x<n:=by have:=(cY.mp a).1;rw[r.len] at this;exact this
  by_cases E:x∈bw
  .have⟨i,w⟩:=iG E;have c:=(cY.mp w).1;have⟨y,b,q⟩:=r.set i x w c;rw[q] at a;cases a;have c:0<i:=by rcases EK i with rfl|h;rw[o.zero] at w;cases w;exact absurd rfl e;exact h
   have q:∀(j z:Nat),bw[j]?=Z z->bw.idxOf z=j:=by
    intro j z H;have M:=cO H;have I:=List.idxOf_lt_length_iff.2 M;have:bw[bw.idxOf z]?=Z z:=by rw[jh I,List.getElem_idxOf I]
    exact o.inj this H
   refine kd ⟨y,Q,o.lt y (cO b),?_⟩;dsimp only;rw[q _ _ b,q _ _ w];exact d.lt i c
  have:=r.out x D E;rw[this] at a;cases a;exact jZ rfl
end Go.AI.Tree
namespace Go.Proofs.YtdhnndleffachaaGreatDoor
open Go.AI
variable{C W b d d3 d4 d5 d8 i k n n8 o s F l m x:Nat}{g:bH->Env->az->Prop}{V:Nat->Nat}{ah:List (List Int)}{f:List GB}{bw:List Nat}{e:Env}{h h0:az}{t:Bool}{us vt:List Int}{ws:List SV}
def asn(h:az)(bw:List Nat)(V:Nat->Nat)(k n E D x y:Nat)(m:Nat)(e:Env)(u:az):Prop:=
 ∃j a q w:Nat,m=j+a/\bw[j]?=Z q/\bw[a]?=Z w/\j<k/\a<k/\bY e 0=dB (Z ⟨E,0,K⟩) n n/\bY e 1=dB (Z ⟨D,0,K⟩) n n/\bC e 2 q/\bC e 3 w/\ay aR h u/\∀u,(Dom.e_ V x u/\Dom.e_ V y u)↔(Dom.e_ V j u/\Dom.e_ V a u)
def ad3(D:cu h)(o:Tree.Ord bw n)(w:Tree.XY bw us n V k)(f:Dom.Down V){q j a F y l:Nat}{O t:Bool}(C:h.tr.get q=Z (.bZ (encI.flat us) O a F))(O:h.tr.get j=Z (.bZ (encI.flat vt) t y l))(t:cz vt=n)(t:∀i x:Nat,bw[i]?=Z x->vt[x]?=Z (i:Int)){x y a b:Nat}(c:bw[x]?=Z a)(N:bw[y]?=Z b)(E:x<k)(I:y<k):aY FF 145 [dB (Z ⟨q,0,K⟩) n n,dB (Z ⟨j,0,K⟩) n n,fc ft a,fc ft b] h
   (λv z=>ay aR h z/\∃z u:Nat,v=fc ft u/\z<k/\bw[z]?=Z u/\∀u,Dom.e_ V z u↔(Dom.e_ V x u/\Dom.e_ V y u)):=by
 refine aY.of YK ?_;unfold LO;simp;refine aK.loop (asn h bw V k n q j x y) ?_ (n:=x+y) ⟨x,y,a,b,Q,c,N,E,I,J,J,J,J,.refl D,λu=>Iff.rfl⟩;rintro m e N⟨j,q,a,N,rfl,E,c,I,B,d,y,r,g,M,H⟩;have G:=M.get D C;have z:=M.get D O;unfold HY;have O:=o.lt a (cO E);have C:=o.lt N (cO c);have A:=ov z (t j a E);have L:=ov z (t q N c);by_cases D:a=N
 subst D;have z:=o.inj E c;subst z;simp[r,g];exact⟨M,j,a,Q,I,E,λu=>by rw[H u];simp⟩
 .have P:((a:Int) !=(N:Int))=ck:=by simp;omega
  have z:j≠q:=λe=>D (by subst e;rw[E] at c;cases c;rfl);by_cases z:j<q;have⟨t,p,s⟩:=w.set q N c B;have v:=ov G s;have S:=f.lt q ab;simp[d,y,r,g,P,D,O,C,A,L,z,v,-ax,aI];exact⟨V q+j,ab,V q,j,t,a,Q,p,E,ab,I,au d,au y,J,J,by first|exact M|exact M.tick,λu=>by rw[H u,and_comm,Tree.UY f z]⟩
  .have T:q<j:=ab
   have⟨t,p,s⟩:=w.set j a E I;have v:=ov G s;have S:=f.lt j ab;simp[d,y,r,g,P,D,O,C,A,L,z,v,-ax,aI];exact⟨V j+q,ab,V j,q,t,N,Q,p,c,ab,B,au d,au y,J,au g,by first|exact M|exact M.tick,λu=>by rw[H u,Tree.UY f T]⟩
def RI{j:Nat}{c:List (List Int)}(w:lx encI j h d ws c){j:SV}{a:List Int}(q:ws[i]?=Z j)(H:c[i]?=Z a):ad nR 1 h j.v a:=by have c:=w.acc i j a q H;rcases c with⟨rfl,e⟩|⟨b,I,e,D,c,_⟩;rw[e];exact⟨K,0,Q,jZ ⟨Q,jZ Q⟩⟩;rw[e];refine⟨_,_,Q,kd ⟨b,0,_,_,_,_,Q,D,λk x E=>?_⟩⟩;have:=encI.tf a k x E;simp only[Dp,ib] at this;rw[IV,ib,this];exact⟨Q,Q⟩
def nI(l:List Nat):List Int:=l.map λx:Nat=>(x:Int)
def Nw{l:List Nat}(h:l[i]?=Z x):(nI l)[i]?=Z (x:Int):=by simp[nI,h]
structure TS(h0 h:az)(n:Nat)(bw:List Nat)(vt us:List Int)(ah:List (List Int))(d3 d4 d5 d8 n8:Nat)(ws:List SV):Prop where
 g:ay aR h0 h
 n5:h0.aw<=d5
 hO:∃s,h.tr.get d3=Z (.bZ (encI.flat (nI bw)) cd 1 s)
 hA:di h d4 (encI.flat vt)
 hU:di h d5 (encI.flat us)
 acc:lx encI n8 h d8 ws ah
 n8:d5<n8
 ne3:d3≠d5
 ne4:d4≠d5
def TS.grow{h0 h a:az}(w:TS h0 h n bw vt us ah d3 d4 d5 d8 n8 ws)(g:ay aR h a):TS h0 a n bw vt us ah d3 d4 d5 d8 n8 ws:=by have⟨F,c⟩:=w.hO;have⟨l,b⟩:=w.hA;have⟨q,j⟩:=w.hU;have a:=w.g.ok;exact⟨w.g.trans g,w.n5,⟨F,g.get a c⟩,⟨l,g.get a b⟩,⟨q,g.get a j⟩,w.acc.cm a g,w.n8,w.ne3,w.ne4⟩
def TS.put{h0 h:az}{n:Nat}{bw:List Nat}{vt us:List Int}{ah:List (List Int)}{d3 d4 d5 d8 n8:Nat}{ws:List SV}(w:TS h0 h n bw vt us ah d3 d4 d5 d8 n8 ws){x:Nat}(q:x<cz us)(v:Int):TS h0 (put h d5 x (encI.flat us) [fc ft v] 0) n bw vt (us.set x v) ah d3 d4 d5 d8 n8 ws:=by have⟨F,d⟩:=w.hO;have⟨l,c⟩:=w.hA;have⟨D,j⟩:=w.hU;have a:=w.g.ok;have g:ay (· =d5) h (AI.put h d5 x (encI.flat us) [fc ft v] 0):=bc a j;refine⟨w.g.put ⟨_,j⟩ (jZ w.n5),w.n5,⟨F,g.get a d w.ne3⟩,⟨l,g.get a c w.ne4⟩,⟨h.clock,by rw[aZ,uj us x v q]⟩,w.acc.grow a g (λb E e=>av w.n8),w.n8,w.ne3,w.ne4⟩
def PrI(h:az)(e:Env)(bw:List Nat)(V:Nat->Nat)(k:Nat)(a:List Int)(m:Nat)(b:Env)(d:az):Prop:=
 ∃(j:Nat) (c:Int),m=cz a-j/\j<=cz a/\bC b 55 j/\bC b 12 c/\aG [12,14,55,56,57,58,59,60,61,62,63,64,65,66,67,68,69,70,71,72,73,74] e b/\ay aR h d/\Tree.E8 bw V k (a.take j) c
def aqT(r:Tree.XY bw us n V k){u:Nat}(E:u<n):(us[u]?=Z (-1)/\∀i,i<k->¬bw[i]?=Z u)\/∃(i y:Nat),i<k/\bw[i]?=Z u/\us[u]?=Z (y:Int):=by
 by_cases j:∃i,i<k/\bw[i]?=Z u;have⟨i,a,w⟩:=j;have⟨y,_,D⟩:=r.set i u w a;exact kd ⟨i,y,a,w,D⟩;refine jZ ⟨?_,λi a h=>j ⟨i,a,h⟩⟩;by_cases q:u∈bw;have⟨i,a⟩:=iG q;exact r.un i u a (by rcases Kz i k with h|h;exact absurd ⟨i,h,a⟩ j;exact h);exact r.out u E q
def aex(w:TS h0 h n bw vt us ah d3 d4 d5 d8 n8 ws)(o:Tree.Ord bw n)(L:Tree.XY bw us n V k)(dn:Dom.Down V)(F:n<1000000)(hla:cz vt=n)(OH:∀i x:Nat,bw[i]?=Z x->vt[x]?=Z (i:Int)){E:SV}{G:List Int}(j:ws[x]?=Z E)(u:ah[x]?=Z G)(b:cz G<1000000)(F:∀p∈G,0<=p/\p<n)(c:bY e 4=dB (Z ⟨d4,0,K⟩) n n)(S:bY e 5=dB (Z ⟨d5,0,K⟩) n n)(y:bC e 12 (-1))(T:bY e 53=E.v)(P:bC e 54 (cz G))(l:bC e 55 0)(C:∀v B M,ay aR h B->aG [12,14,55,56,57,58,59,60,61,62,63,64,65,66,67,68,69,70,71,72,73,74] e v->bC v 12 M->Tree.E8 bw V k G M->g (.exit 6) v B):aK FF (.loop xH) e h g:=by
 have X:=w.g.ok;have a:=RI w.acc j u;have b:=ad.len a;refine aK.loop (PrI h e bw V k G) ?_ (n:=cz G) ⟨0,-1,Q,ab,l,y,aG.refl _ _,.refl X,aj (Tree.E8.nil bw V k)⟩;rintro m v W⟨j,M,rfl,s,N,d,E,v,H⟩;have I:=w.grow v;have r:=E.at c;have A:=E.at S;have q:=E.at T;have T:=E.at P;unfold xH;by_cases O:j<cz G
 .have l:G[j]?=Z G[j]:=jh O;have y:=Ik O;generalize G[j]=p at l y;have⟨t,f⟩:=F p y;obtain⟨u,rfl⟩:∃u:Nat,p=u:=⟨p.toNat,ab⟩;have c:u<n:=ab
  obtain⟨f,F,P,U,_,_,rfl,_,S⟩:=ad.later X a l;have P:=S W v 0 1 ag;simp[-ax] at P;have f:=ch ((j:Int)+1) ab ab;have⟨S,t⟩:=I.hU;obtain⟨X,X⟩:=I.hA;have y:G.take (j+1)=G.take j++[(u:Int)]:=by rw[kh,l];rfl
  simp at q;rw[U,b] at q;rcases aqT L c with⟨D,I⟩|⟨i,F,b,D,I⟩
  .have U:=ov t D;simp[r,A,q,T,N,O,P,c,U,-ax,f];refine⟨cz G-(j+1),ab,j+1,M,Q,ab,J,au d,?_,v,?_⟩
   .exact aq
   rw[y];exact H.skip (λi b ⟨x,l,e⟩=>I i b (by rw[l];congr 1;omega))
  .have U:=ov t I;have l:¬(F:Int)<0:=ab
   rcases(show M= -1\/∃a:Nat,M=a by
    rcases H with⟨e,_⟩|⟨_,a,_,_,e,_⟩;exact jZ e;exact kd ⟨a,e⟩) with rfl|⟨a,rfl⟩
   .simp[r,A,q,T,N,d,O,P,c,U,-ax,f,l];refine⟨cz G-(j+1),ab,j+1,u,Q,ab,J,J,?_,v,?_⟩
    .exact aq
    rw[y];exact H.one o b D rfl
   .have ha0:¬(a:Int)<0:=ab
    have⟨s,I,hzk⟩:∃s,bw[s]?=Z a/\s<k:=by
     rcases H with⟨e,_⟩|⟨z,a',S,F,e,_⟩;omega
     .have:a'=a:=ab
      subst this;exact⟨z,F,S⟩
    simp[r,A,q,T,N,d,O,P,c,U,-ax,l,ha0];refine bh.call (V:=λP B=>ay aR W B/\∃z w:Nat,P=fc ft w/\z<k/\bw[z]?=Z w/\∀u,Dom.e_ V z u↔(Dom.e_ V s u/\Dom.e_ V i u)) (aj (ad3 v.ok o L dn t X hla OH I D hzk b)) ?_;rintro _ X⟨B,z,P,rfl,S,F,r⟩;simp[f,N];refine⟨cz G-(j+1),ab,j+1,P,Q,ab,J,J,?_,v.trans B,?_⟩
    .exact aq
    rw[y];refine H.meet o D b rfl (λl D _=>?_);rw[o.inj D I];exact⟨z,P,S,F,Q,r⟩
 .have:j=cz G:=ab
  subst this;rw[mO] at H;simp[T,N];exact C _ _ M v (E.set) (au d) H
def ai0{v:Int}(h:us[x]?=Z v):us.set x v=us:=by refine BT λi=>?_;rw[fO];split;rename_i e;subst e;rw[h,bK (cY.mp h).1];rfl
structure Iy(n:Nat)(ah:List (List Int)):Prop where
 len:cz ah=n
 row:∀(x:Nat)(ps:List Int),ah[x]?=Z ps->cz ps<1000000/\∀p∈ps,0<=p/\p<n
structure TC(n:Nat)(bw:List Nat)(vt:List Int)(ah:List (List Int)):Prop where
 o:Tree.Ord bw n
 nl:n<=1000
 la:cz vt=n
 at':∀i x:Nat,bw[i]?=Z x->vt[x]?=Z (i:Int)
 rows:Iy n ah
 hf:∀b,0<b->b<cz bw->∃w∈Tree.pQ bw ah b,w<b
 ln:cz bw<=n
structure TE(n:Nat)(r d3 d4 d5 d8:Nat)(e:Env):Prop where
 f3:bY e 3=dB (Z ⟨d3,0,K⟩) r r
 f4:bY e 4=dB (Z ⟨d4,0,K⟩) n n
 f5:bY e 5=dB (Z ⟨d5,0,K⟩) n n
 f8:bY e 8=dB (Z ⟨d8,0,K⟩) n n
def RdI(h0:az)(n:Nat)(bw:List Nat)(vt:List Int)(ah:List (List Int))(d3 d4 d5 d8 n8:Nat)(ws:List SV)(first:Bool)(A:Nat->Nat)(m:Nat)(e:Env)(h:az):Prop:=
 ∃(j:Nat) (us:List Int) (V:Nat->Nat) (a:Bool),m=cz bw-(j+1)/\j+1<=cz bw/\TS h0 h n bw vt us ah d3 d4 d5 d8 n8 ws/\Tree.H2 bw ah n us first A V (j+1) a/\TE n (cz bw) d3 d4 d5 d8 e/\bY e 9=dC a/\bY e 44=dB (Z ⟨d3,1,K⟩) (cz bw-1) (cz bw-1)/\bC e 45 ((cz bw-1:Nat):Int)/\bC e 46 j
def aaQ(w:TS h0 h n bw vt us ah d3 d4 d5 d8 n8 ws)(c:TC n bw vt ah){first j:Bool}{A V:Nat->Nat}(D:0<cz bw)(M:Tree.H2 bw ah n us first A V 1 j)(E:TE n (cz bw) d3 d4 d5 d8 e)(q:bY e 9=dC j)(o:bY e 44=dB (Z ⟨d3,1,K⟩) (cz bw-1) (cz bw-1))(k:bC e 45 ((cz bw-1:Nat):Int))(N:bC e 46 0)(C:∀b p H r d,TS h0 p n bw vt H ah d3 d4 d5 d8 n8 ws->Tree.H2 bw ah n H first A r (cz bw) d->TE n (cz bw) d3 d4 d5 d8 b->bY b 9=dC d->g (.exit 4) b p):aK FF (.loop mr) e h g:=by
 have b:=c.nl;have b:=c.ln;refine aK.loop (RdI h0 n bw vt ah d3 d4 d5 d8 n8 ws first A) ?_ (n:=cz bw-1) ⟨0,us,V,j,ab,D,w,M,E,q,o,k,N⟩;rintro m j j⟨j,b,V1,p,rfl,N,H,d,q,o,r,N,A⟩;have k:=H.g.ok;unfold mr;by_cases k:j+1<cz bw
 .have⟨x,D⟩:=aQ bw (j+1) k;have f:=c.o.lt x (cO D);have⟨M,i⟩:=aQ ah x (by rw[c.rows.len];exact f);have⟨w,I⟩:=aQ ws x (by rw[H.acc.len,c.rows.len];exact f);have⟨w,y⟩:=c.rows.row x M i;have⟨F,M⟩:=H.hO;obtain⟨E,E⟩:=H.acc.bZ;have t:=ov M (Nw D);rw[Nat.add_comm] at t;have l:=Gn E I;have a:=ad.len (RI H.acc I i);have O:(j:Int)<((cz bw-1:Nat):Int):=ab
  have M:j<cz bw-1:=ab
  have u:=ch ((j:Int)+1) ab ab;simp[-ax] at l;simp[r,N,A,O,M,t,q.f8,f,l,a,-ax];refine aex H c.o d.rep d.dn ab c.la c.at' I i w y (by simp[q.f4]) (by simp[q.f5]) J (au a) (au a) J ?_;intro E a a y a w M;have l:=H.grow y;obtain⟨y,z,rfl,I,I⟩:=d.step c.o (Nat.succ_pos _) D i (c.hf (j+1) (Nat.succ_pos _) k) M;have c:=a.at (t:=5) (ak q.f5);have B:bY E 11=fc ft x:=a.at J;have z:=a.at (t:=3) (ak q.f3);have E:=a.at (t:=4) (ak q.f4);have L:=a.at (t:=8) (ak q.f8);have P:=a.at (t:=9) (ak o);have s:=a.at (t:=44) (ak r);have r:=a.at (t:=45) (ak N);have M:=a.at (t:=46) (ak A);have⟨a,v⟩:=l.hU;have a:cz b=n:=d.rep.len;have⟨G,a⟩:=aQ b x;have i:=ov v a;have S:x+1<=cz b:=ab
  by_cases D:G=(y:Int);subst D;rw[ai0 a] at I;simp[c,B,w,f,i,u,M,-ax];refine⟨cz bw-(j+1+1),ab,j+1,b,_,p,Q,k,l,by simpa [a] using I,⟨?_,?_,?_,?_⟩,?_,?_,?_,?_⟩;simp[z];simp[E];simp[c];simp[L];simp[P];simp[s];simp[r];simp
  .have P:(G !=(y:Int))=ck:=aj D
   simp[c,B,w,f,i,u,M,P,D,v,S,-ax];refine⟨cz bw-(j+1+1),ab,j+1,b.set x (y:Int),_,ck,Q,k,l.put ab _,by simpa [a,D] using I,⟨?_,?_,?_,?_⟩,?_,?_,?_,?_⟩;simp[z];simp[E];simp[c];simp[L];simp;simp[s];simp[r];simp
 .have r:j+1=cz bw:=ab
  rw[r] at d;have O:¬(j:Int)<((cz bw-1:Nat):Int):=ab
  simp[N,A,O];exact C _ _ b V1 p H d ⟨by simp[q.f3],by simp[q.f4],by simp[q.f5],by simp[q.f8]⟩ (au o)
def TrI(h0:az)(n:Nat)(bw:List Nat)(vt:List Int)(ah:List (List Int))(d3 d4 d5 d8 n8:Nat)(ws:List SV)(m:Nat)(e:Env)(h:az):Prop:=
 ∃(us:List Int) (a:Bool),TS h0 h n bw vt us ah d3 d4 d5 d8 n8 ws/\TE n (cz bw) d3 d4 d5 d8 e/\bY e 9=dC a/\((a=ck/\us=(ae n (-1:Int)).set 0 0/\m=cz bw*cz bw+2)\/∃V,Tree.VP bw ah V/\Tree.XY bw us n V (cz bw)/\m=if a then Dom.total V (cz bw)+1 else 0)
def Xf(w:TS h0 h n bw vt ((ae n (-1:Int)).set 0 0) ah d3 d4 d5 d8 n8 ws)(d:TC n bw vt ah)(k:0<cz bw)(E:TE n (cz bw) d3 d4 d5 d8 e)(r:bY e 9=dC ck)(C:∀l O a f,TS h0 O n bw vt a ah d3 d4 d5 d8 n8 ws->Tree.VP bw ah f->Tree.XY bw a n f (cz bw)->TE n (cz bw) d3 d4 d5 d8 l->g (.exit 2) l O):aK FF (.loop xI) e h g:=by
 refine aK.loop (TrI h0 n bw vt ah d3 d4 d5 d8 n8 ws) ?_ (n:=cz bw*cz bw+2) ⟨_,ck,w,E,r,jZ ⟨Q,Q,Q⟩⟩;rintro m r l⟨us,j,O,a,f,t⟩;unfold xI;cases j;rcases t with⟨h,_⟩|⟨V,j,N,rfl⟩;cases h;simp[f];exact C _ _ us V O j N ⟨by simp[a.f3],by simp[a.f4],by simp[a.f5],by simp[a.f8]⟩;have I:1<=cz bw:=k;have⟨s,E⟩:∃s,s=cz bw-1:=⟨_,Q⟩;have D:∀(first:Bool)(A V:Nat->Nat),Tree.H2 bw ah n us first A V 1 cd->(first=cd->Tree.VP bw ah A/\m=Dom.total A (cz bw)+1)->(first=ck->m=cz bw*cz bw+2)->aK FF (.loop mr)
   (Tr.set (Tr.set (Tr.set (Tr.set (Tr.set (Tr.set r 42 (dC ck)) 9 (dC cd)) 43 (dB (Z ⟨d3,0,K⟩) (cz bw) (cz bw))) 44 (dB (Z ⟨d3,1,K⟩) (cz bw-1) (cz bw-1))) 45 (fc ft ((cz bw-1:Nat):Int))) 46 (fc ft 0)) l
   (λx c b=>x=.exit 4/\∃q,q<m/\TrI h0 n bw vt ah d3 d4 d5 d8 n8 ws q c b):=by
  intro first A V M o u
  refine aaQ O d k M ⟨by simp[a.f3],by simp[a.f4],by simp[a.f5],by simp[a.f8]⟩ J J J J ?_;intro c b E V2 k v H p A;refine⟨Q,?_⟩;have⟨j,N,M⟩:=H.done (λh=>(o h).1) d.hf;refine⟨_,?_,E,k,v,p,A,kd ⟨V2,j,N,Q⟩⟩;have A:Dom.total V2 (cz bw)<=cz bw*cz bw:=Dom.Kk _ (λi A=>by rcases EK i with rfl|h;rw[j.1.zero];exact Nat.zero_le _;have:=j.1.lt i h;omega)
  cases A:first
  have⟨_,p⟩:=o A;cases o:k;simp;omega;have:=M A o;simp;omega
  have:=u A;split<;>omega
 have H:aK FF (.loop mr)
   (Tr.set (Tr.set (Tr.set (Tr.set (Tr.set (Tr.set r 42 (dC ck)) 9 (dC cd)) 43 (dB (Z ⟨d3,0,K⟩) (cz bw) (cz bw))) 44 (dB (Z ⟨d3,1,K⟩) (cz bw-1) (cz bw-1))) 45 (fc ft ((cz bw-1:Nat):Int))) 46 (fc ft 0)) l
   (λx c b=>x=.exit 4/\∃q,q<m/\TrI h0 n bw vt ah d3 d4 d5 d8 n8 ws q c b):=by
  rcases t with⟨_,rfl,rfl⟩|⟨V,j,N,p⟩;exact D ck (λ_=>0) _ (Tree.aea d.o _ _) (λh=>by cases h) (λ_=>rfl);exact D cd V V (Tree.ah9 N j.1) (λ_=>⟨j,aj p⟩) (λh=>by cases h)
 have⟨F,p⟩:=O.hO;simp[f,a.f3,I,p];refine H.mono ?_;rintro x c b⟨rfl,q,b,I⟩;simp;exact⟨q,b,I⟩
def AtI(h:az)(n:Nat)(bw:List Nat)(d3 d4:Nat)(e:Env)(m:Nat)(b:Env)(a:az):Prop:=
 ∃(j:Nat) (vt:List Int),m=cz bw-j/\j<=cz bw/\bC b 28 j/\aG [28,6,7,29,30,31,32,33,34,35,36,37] e b/\ay (· =d4) h a/\(di a d4 (encI.flat vt))/\cz vt=n/\∀i x:Nat,i<j->bw[i]?=Z x->vt[x]?=Z (i:Int)
def akm(A:cu h)(o:Tree.Ord bw n)(L:cz bw<=n)(j:n<=1000){d3 d4 a F r:Nat}(T:h.tr.get d3=Z (.bZ (encI.flat (nI bw)) cd r a))(G:eR h d4 (encI.flat vt) F)(b:cz vt=n)(r:d3≠d4)(D:bY e 4=dB (Z ⟨d4,0,K⟩) n n)(M:bY e 26=dB (Z ⟨d3,0,K⟩) (cz bw) (cz bw))(z:bC e 27 (cz bw))(a:bC e 28 0)(C:∀k H I,aG [28,6,7,29,30,31,32,33,34,35,36,37] e k->ay (· =d4) h H->(di H d4 (encI.flat I))->cz I=n->(∀i x:Nat,bw[i]?=Z x->I[x]?=Z (i:Int))->g (.exit 0) k H):aK FF (.loop xJ) e h g:=by
 refine aK.loop (AtI h n bw d3 d4 e) ?_ (n:=cz bw) ⟨0,vt,Q,ab,a,aG.refl _ _,.refl A,⟨F,G⟩,b,λi x h=>ab⟩;rintro m k b⟨j,E,rfl,v,N,P,w,⟨s,d⟩,G,U⟩;have X:=P.at D;have l:=P.at M;have q:=P.at z;unfold xJ;by_cases O:j<cz bw
 .have⟨x,a⟩:=aQ bw j O;have M:=o.lt x (cO a);have p:=w.get A T r;have t:=ov p (Nw a);have S:=ch ((j:Int)+1) ab ab;have k:x+1<=cz E:=ab
  simp[X,l,q,N,O,t,M,d,k,S,-ax];refine⟨cz bw-(j+1),ab,j+1,E.set x j,Q,O,J,?_,w.trans (bc w.ok d),⟨b.clock,by rw[aZ,uj E x j ab]⟩,au G,λi y X D=>?_⟩
  .exact aq
  rw[fO];by_cases e:x=y;subst e;rw[bK Q,bK ab,o.inj D a];rw[bM e];by_cases T:i=j;subst T;rw[a] at D;cases D;exact absurd rfl e;exact U i y ab D
 .have:j=cz bw:=ab
  subst this;simp[q,N];exact C _ _ E (P.set) w ⟨s,d⟩ G (λi x a=>U i x (cY.mp a).1 a)
def eH(f:List GB):List Nat:=(Dfs.vu (ir f) (cz f)).reverse
def TJ(f:List GB):(xC f).reverse=nI (eH f):=by simp[xC,eH,nI,List.map_reverse]
def HW(E:kE f)(h0:0<cz f):Tree.Ord (eH f) (cz f):=by obtain⟨b,a,⟨j,j⟩,_,_⟩:=Dfs.Lm h0 (yY E);refine⟨List.pairwise_reverse.2 (b.imp λh=>h.symm),λx b=>a x (eL.1 b),?_⟩;unfold eH;rw[j];simp
def ait(E:kE f)(h0:0<cz f):cz (eH f)<=cz f/\0<cz (eH f):=by have o:=HW E h0;refine⟨?_,?_⟩;have:=TP o.nd (l₂:=List.range (cz f)) (λx a=>OB.2 (o.lt x a));simpa using this;exact(cY.mp o.zero).1
def abD(E:kE f):Iy (cz f) (Edge.df (cw f)):=by
 have D:cz (cw f)=cz f:=by simp[cw]
 have I:∀a∈cw f,∀t∈a,t.toNat<cz (cw f):=by intro a j t q;obtain⟨b,w,rfl⟩:=kC.1 j;have:=E.to b w t q;rw[D];omega
 refine⟨by rw[Edge.lM,D],λx c H=>⟨?_,λp D=>?_⟩⟩
 .have d:=Edge.Ai (n:=cz (cw f)) (tos:=cw f) (λa j=>by obtain⟨b,w,rfl⟩:=kC.1 j;exact E.two b w) x (cz (cw f));have w:((Edge.upto (cz (cw f)) (cw f) (cz (cw f)))[x]?).getD []=c:=by show((Edge.df (cw f))[x]?).getD []=c;rw[H];rfl
  rw[w] at d;have:=E.len;omega
 have E:=(Edge.Jj I (u:=x) (x:=p)).1 (by rw[H];exact D);obtain⟨i,rfl,a,q,_⟩:=E;have:=(cY.mp q).1;omega
def Q0(E:kE f)(h0:0<cz f):∀b,0<b->b<cz (eH f)->∃w∈Tree.pQ (eH f) (Edge.df (cw f)) b,w<b:=by
 intro b D q;have o:=HW E h0;obtain⟨N,N,_,_,N⟩:=Dfs.Lm h0 (yY E);have O:cz (cw f)=cz f:=by simp[cw]
 have c:∀H∈cw f,∀t∈H,t.toNat<cz (cw f):=by intro H p t H;obtain⟨b,D,rfl⟩:=kC.1 p;have:=E.to b D t H;rw[O];omega
 have⟨x,D⟩:=aQ (eH f) b q;have q:=cO D;have E:x≠0:=λe=>by subst e;have:=o.inj D o.zero;omega
 have⟨p,a,I,M,y,j⟩:=N x (eL.1 q) E;obtain⟨E,E⟩:=aQ (Edge.df (cw f)) x (by rw[Edge.lM,O];exact o.lt x q);have q:eH f=M.reverse++x::I.reverse:=by unfold eH;rw[y];simp
 have⟨w,N⟩:=iG (eL.2 j);have j:=(cY.mp N).1;have I:(eH f)[w]?=Z p:=by rw[q,MG j,N]
 have j:(eH f)[cz M.reverse]?=Z x:=by rw[q,OC (fq _)];simp
 have:=o.inj D j;refine⟨w,(Tree.su D E).2 ⟨p,I,?_⟩,ab⟩;have M:=(Edge.Jj c (u:=x) (x:=(p:Int))).2 (by unfold Dfs.row ir at a;rw[gM] at a;rcases j:f[p]? with _|y;rw[j] at a;simp at a;rw[j] at a;simp at a;have⟨t,H,e⟩:=a;exact⟨p,Q,y.to,by simp[cw,j],t,H,e.symm⟩)
 rw[E] at M;exact M
def amp(h:az)(n:Nat)(v:aa)(a:az):Prop:=ay aR h a/\∃d us s,v=dB (Z ⟨d,0,K⟩) n n/\h.aw<=d/\a.tr.get d=Z (.bZ (encI.flat us) cd 0 s)/\Tree.SK us n
def afk(k:cu h){name:ByteArray}{p r:Int}{B:SV}(n:qP h B f)(E:kE f)(h0:0<cz f):aY FF 85 [ix ⟨aC name p r B⟩] h (amp h (cz f)):=by
 have l:=ad.len n;have t:=E.len;have I:roomy (cz f)=ck:=by simp[roomy];omega
 have M:roomy (cz f*8)=ck:=by simp[roomy];omega
 have o:=HW E h0;have⟨m,H⟩:=ait E h0;refine aY.of RV ?_;unfold GZ;simp[aC];refine bh.cut (λb=>ay aR h b/\b.tr.get h.aw=Z (.bZ (aC name p r B) cd 0 0)) ⟨(ay.refl k).new _ _,by simp[aC]⟩ ?_;rintro b⟨q,B⟩;have c:=B;simp[aC] at c;refine bh.call (V:=λv D=>ay aR b D/\∃L:SV,v=L.v/\bm encI b.aw D L.v (xC f).reverse) (by simpa [aC] using Gl q.ok (name:=name) (p:=p) (r:=r) (n.mono k q) E h0) ?_;rintro _ b⟨a,L,rfl,L⟩;rw[TJ] at L;rcases L with⟨e,_⟩|⟨d3,G,e,L,_,B⟩
 .have:cz (nI (eH f))=0:=by rw[e];rfl
  simp[nI] at this;rw[this] at H;simp at H
 have B:cz (nI (eH f))=cz (eH f):=by simp[nI]
 rw[B] at e;rw[e];have w:=a.get q.ok c;have B:ky [aA ft 0] (cz f)=encI.flat (ae (cz f) (0:Int)):=DH encI (0:Int) rfl _;have g:=a.ok.cg w;simp[w,l,I,M,B,g,bj,aB w,-ax];refine bh.cut (λI=>ay aR b I/\(di I b.aw (encI.flat (ae (cz f) (0:Int))))/\(di I (b.aw+1) [fc ft (-1)])/\b.aw+1<I.aw) ?_ ?_
 exact⟨((ay.refl a.ok).new _ _).new _ _,⟨0,J⟩,⟨0,J⟩,J⟩;rintro I⟨M,⟨g,g⟩,⟨B,B⟩,u⟩;have u:=M.get a.ok w;refine bh.call (V:=λv D=>ay aR I D/\∃d s,v=dB (Z ⟨d,0,K⟩) (cz f) (cz f)/\I.aw<=d/\D.tr.get d=Z (.bZ (encI.flat (ae (cz f) (-1:Int))) cd 0 s)) (aj (NX M.ok (cz f) ab (x:= -1) B)) ?_;rintro _ B⟨w,d5,B,rfl,B,j⟩;have N:=(M.trans w).get a.ok L;have B:=w.get M.ok g;have g:=(a.ok.cg L).lt;simp;refine akm w.ok o m t N B J ab J J J J ?_;rintro g L vt i I⟨z,y⟩ A F;have B:=I.get w.ok j (av a.ok);have T:=I.get w.ok N ab;have j:ay aR h L:=(((q.trans a).trans M).trans w).trans' I ai (λx O e=>av ((q.trans a).aw));have N:bY g 5=dB (Z ⟨d5,0,K⟩) (cz f) (cz f):=i.at J;have S:bU g 1 h.aw:=i.at J;have C:bY g 3=dB (Z ⟨d3,0,K⟩) (cz (eH f)) (cz (eH f)):=i.at J;have P:bY g 4=dB (Z ⟨b.aw,0,K⟩) (cz f) (cz f):=i.at J;have i:=I.get w.ok (w.get M.ok u) (by have:=a.aw;have:=(q.ok.cg c).lt;omega);have w:(1:Nat)<=cz f:=h0;have I:=j.ok.cg i;have I:¬h.aw=d5:=by have:=(q.ok.cg c).lt;have:=a.aw;omega
 simp[N,h0,B,S,w,cn I,aB i,-ax,l];have i:=uj (ae (cz f) (-1)) 0 0 (aj h0);refine bh.cut (λI=>ay (· =d5) L I/\di I d5 (encI.flat ((ae (cz f) (-1:Int)).set 0 0))) ?_ ?_
 exact⟨bc j.ok B,L.clock,by rw[aZ,i]⟩;rintro I⟨c,i,L⟩;have B:=c.get j.ok T ab;have u:=c.get j.ok y ab;have w:ay aR h I:=j.trans' c ai (λx O e=>av ((q.trans a).aw));refine bh.call (V:=λv D=>ay aR I D/\∃d ws,v=dB (Z ⟨d,0,K⟩) (cz f) (cz f)/\lx encI I.aw D d ws (Edge.df (cw f))) (by simpa [aC,l] using mh w.ok (name:=name) (p:=p) (r:=r) (n.mono k w) E) ?_;rintro _ l⟨D,d8,ws,rfl,v⟩;have k:=D.get w.ok L;have n:=D.get w.ok B;have O:=D.get w.ok u;have c:=(w.ok.cg L).lt;have W:TS h l (cz f) (eH f) vt ((ae (cz f) (-1:Int)).set 0 0) (Edge.df (cw f)) d3 b.aw d5 d8 I.aw ws:=
  ⟨w.trans D,av ((q.trans a).aw),⟨G,n⟩,⟨z,O⟩,⟨i,k⟩,v,c,ab,ab⟩
 have c:TC (cz f) (eH f) vt (Edge.df (cw f)):=⟨o,t,A,F,abD E,Q0 E h0,m⟩;simp;refine Xf W c H ⟨au C,au P,au N,J⟩ J ?_;rintro C C us V E H N c;have⟨P,O⟩:=E.hU;have P:1<=cz us:=by rw[N.len];exact h0
 have A:=uj us 0 (-1) ab;simp[c.f5,h0,O,P];refine⟨E.g.put ⟨_,O⟩ (jZ E.n5),d5,us.set 0 (-1),C.clock,Q,E.n5,by rw[aZ,A],Tree.awG o H.1 N m⟩
def iU(x:GI):List (Bool×Int):=(if(dX x.op).2.1 then [x.a] else [])++((if(dX x.op).2.2 then [x.b] else [])++x.args)
def jj(x:GI)(A:SV):List aa:=aM x.op x.dst x.a.1 x.a.2 x.b.1 x.b.2 x.fn A.v
def afr(h:az)(x:GI)(A:SV):aY FF 132 [ix ⟨jj x A⟩] h (λv a=>v=.func (.func 192) #[] #[eU (Z ⟨h.aw,0,K⟩)]/\a=aJ h (jj x A) 0):=by refine aY.of U4 ?_;unfold JF;simp[jj,aM]
def aaS{S:Nat->Prop}{d:az}(w:cu d){l p:Nat}{c b:aD}{v:aa}{Kc ZH:az->Prop}(E:¬S l)(N:d.tr.get l=Z (.loop e [p] c b .ready))(H:aK FF c (Tr.set e p v) d (λx M f=>x=.normal/\ay aR d f/\∀j,ay (· =l) f j->aK FF b M j (λx _ a=>ay S j a/\((x=.normal/\Kc a)\/(x=.ret/\ZH a)))))(i:∀a j,Kc a->cu a->ay (· =l) a j->Kc j)(g:∀a j,ZH a->cu a->ay (· =l) a j->ZH j):fh FF (.func (.yield l) #[] #[]) [v] d (λr j=>ay (λx=>S x\/x=l) d j/\((r=dC ck/\j.tr.get l=Z (.loop e [p] c b .ready)/\Kc j)\/(r=dC cd/\j.tr.get l=Z (.loop e [p] c b (.done K))/\ZH j))):=by
 refine fh.yield N (by simp[gG];rfl) ?_;refine H.mono ?_;rintro x M f⟨rfl,I,M⟩;have D:=I.get w N;refine⟨Q,D,?_⟩;have j:=mU I.ok D e [p] c b .busy;refine(M _ j).mono ?_;rintro x w a⟨w,O⟩;have q:=w.get j.ok (tL f l e [p] c b .busy) E;have E:∀f,ay (λx=>S x\/x=l) d (gJ a l e [p] c b f):=λf=>
  ((I.cm.trans' j ai (λ_ _ h=>kd h)).trans' w ai (λ_ _ h=>jZ h)).trans' (mU w.ok q e [p] c b f) ai (λ_ _ h=>kd h)
 rcases O with⟨rfl,f⟩|⟨rfl,O⟩;exact⟨⟨_,_,_,_,q,Q,Q,Q,Q⟩,E _,jZ ⟨Q,tL _ _ _ _ _ _ _,i _ _ f w.ok (mU w.ok q e [p] c b .ready)⟩⟩;exact⟨⟨_,_,_,_,q,Q,Q,Q,Q⟩,E _,kd ⟨Q,tL _ _ _ _ _ _ _,g _ _ O w.ok (mU w.ok q e [p] c b (.done K))⟩⟩
def YQ(S:Nat->Prop)(B:Nat)(e c:az->Prop)(d:az)(r:aa)(a:az):Prop:=ay (λb=>S b\/B<=b) d a/\((r=dC ck/\e a)\/(r=dC cd/\c a))
def V1I(x:GI)(A:SV)(y:aa)(X B:Nat)(k:Nat)(I:Nat->Nat->az->Prop)(m:Nat)(e:Env)(a:az):Prop:=
 ∃j:Nat,m=cz x.args-j/\j<=cz x.args/\bY e 0=y/\bY e 30=A.v/\bC e 31 (cz x.args)/\bC e 32 j/\B<=a.aw/\I B (k+j) a
def abg(o:cu h0){X:Nat}{x:GI}{A:SV}(F:ad vR 2 h0 A.v x.args)(I:cz x.args<2000000){y:aa}(I:Nat->Nat->az->Prop)(S:Nat->Prop)(i:az->Prop)(P:∀B j a,I B j a->ay aR h0 a/\di a X (jj x A))(EO:∀B j a O,I B j a->ay aR a O->I B j O)(hS:∀b,S b->b<h.aw)(H:∀B j v a,(iU x)[j]?=Z v->B<=a.aw->h.aw<B->I B j a->fh FF y [ix ⟨[dC v.1,fc ft v.2]⟩] a (YQ S B (I B (j+1)) i a))(N:ay aR h0 h)(M:di h X (jj x A))(z:∀d,ay aR h d->I d.aw 0 d):aY FF 192 [y,eU (Z ⟨X,0,K⟩)] h (λ_ E=>(∃B,I B (cz (iU x)) E)\/i E):=by
 have r:=ad.len F;have⟨u,M⟩:=M;have u:=M;simp[jj,aM] at u;have t:=(N.ok.cg M).lt;refine aY.of OX ?_;unfold Ez;simp[u];refine bh.call (aj (Ki h N.ok x.op)) ?_;rintro _ d⟨rfl,M⟩;have t:=M.get N.ok u;have N:=M.ok.cg t;have u:=M.aw;have u:∀(B k:Nat)(f:az)(e:Env)(D:bH->Env->az->Prop),bY e 0=y->bY e 30=A.v->bC e 31 (cz x.args)->bC e 32 0->B<=f.aw->h.aw<B->(∀j,j<=cz x.args->(iU x)[k+j]?=x.args[j]?)->k+cz x.args=cz (iU x)->I B k f->(∀p E,(∃B,I B (cz (iU x)) E)\/i E->D (.exit 0) p E/\D .ret p E)->aK FF (.loop uD) e f D:=by
  intro B k f e D f c D w T Zm hv W U C;refine aK.loop (V1I x A y X B k I) ?_ (n:=cz x.args) ⟨0,Q,ab,f,c,D,w,T,U⟩;rintro m T T⟨j,rfl,U,f,c,D,w,q,q⟩;unfold uD;obtain⟨G,n,n⟩:=P _ _ _ q;by_cases n:j<cz x.args
  .have g:x.args[j]?=Z x.args[j]:=jh n;generalize x.args[j]=v at g;obtain⟨L,L,L,L,_,_,rfl,V,V⟩:=ad.later o F g;have F:=V T G 0 2 ag;simp[-ax] at F;have o:=c;simp at o;rw[L,r] at o;have V:=ch ((j:Int)+1) ab ab;simp[f,o,D,w,n,F,-ax,aH];refine bh.cut (λc=>ay aR T c) ((ay.refl G.ok).var _ _) ?_;intro c F;have G:=F.aw;refine bh.fF (V:=YQ S B (I B (k+j+1)) i c) (by simpa [f] using H B (k+j) v c (by rw[hv j U,g]) ab Zm (EO _ _ _ _ q F)) ?_;rintro v c⟨c,h|h⟩
   obtain⟨rfl,g⟩:=h;simp[w,V];exact⟨cz x.args-(j+1),ab,j+1,Q,n,au f,by simp[o,L,r],by simp[D],J,av c.aw,by simpa [IU] using g⟩;obtain⟨rfl,f⟩:=h;simp;exact(C _ _ (kd f)).2
  .have:j=cz x.args:=ab
   subst this;simp[D,w];exact(C _ _ (jZ ⟨B,by rw[<-W];exact q⟩)).1
 have w:∀B j a,I B j a->di a X [fc ft x.op,fc ft x.dst,dC x.a.1,fc ft x.a.2,dC x.b.1,fc ft x.b.2,fc ft x.fn,A.v]:=by intro B j a B;have⟨_,s,e⟩:=P _ _ _ B;exact⟨s,by simpa [jj,aM] using e⟩
 cases c:(dX x.op).2.1;cases B:(dX x.op).2.2;simp[t,N];refine aK.cut (λa=>ay aR d a/\d.aw<a.aw) ⟨(ay.refl M.ok).var _ _,J⟩ ?_;rintro a⟨o,A⟩;refine u a.aw 0 a _ _ J J (au r) J (fq _) ab (λj _=>?_) ?_ (z a (M.trans o)) (λp E g=>aj g);simp[iU,c,B];simp[iU,c,B];simp[t,N];refine bh.cut (λa=>ay aR d a/\d.aw<a.aw) ⟨(ay.refl M.ok).var _ _,J⟩ ?_;rintro a⟨o,A⟩;refine bh.fF (V:=YQ S a.aw (I a.aw 1) i a) (aj (H a.aw 0 x.b a (by simp[iU,c,B]) (fq _) ab (z a (M.trans o)))) ?_;rintro v O⟨A,⟨rfl,q⟩|⟨rfl,f⟩⟩;have⟨P,n⟩:=w _ _ _ q;simp at n;simp[n];refine u a.aw 1 O _ _ J J (au r) J A.aw ab (λj _=>?_) ?_ q (λp E g=>aj g);simp[iU,c,B,Nat.add_comm 1 j];simp[iU,c,B];omega;simp;exact kd f
 .simp[t,N];refine bh.cut (λa=>ay aR d a/\(di a d.aw [dC (dX x.op).1,dC ck,dC (dX x.op).2.2])) ⟨(ay.refl M.ok).var _ _,d.clock,J⟩ ?_;rintro a⟨o,l,d⟩;have N:=o.ok.cg d;have t:=N.lt;refine bh.fF (V:=YQ S a.aw (I a.aw 1) i a) (aj (H a.aw 0 x.a a (by simp[iU,c]) (fq _) ab (z a (M.trans o)))) ?_;rintro v O⟨A,⟨rfl,q⟩|⟨rfl,f⟩⟩
  .have N:=A.get o.ok d (by rintro(h|h);exact absurd (hS _ h) ab;omega);have⟨P,n⟩:=w _ _ _ q;have d:=A.aw;cases B:(dX x.op).2.2
   rw[B] at N;simp at n;simp[N,n];refine u a.aw 1 O _ _ J J (au r) J ab ab (λj _=>?_) ?_ q (λp E g=>aj g);simp[iU,c,B,Nat.add_comm 1 j];simp[iU,c,B];omega;rw[B] at N;simp at n;simp[N,n];refine bh.fF (V:=YQ S a.aw (I a.aw 2) i O) (aj (H a.aw 1 x.b O (by simp[iU,c,B]) d ab q)) ?_;rintro v d⟨O,⟨rfl,v⟩|⟨rfl,f⟩⟩;obtain⟨q,q⟩:=w _ _ _ v;simp at q;simp[q];refine u a.aw 2 d _ _ J J (au r) J (av O.aw) ab (λj _=>?_) ?_ v (λp E g=>aj g);simp[iU,c,B,Nat.add_comm 2 j];simp[iU,c,B];omega;simp;exact kd f
  simp;exact kd f
def Lw(h:az)(v:aa)(a:az):Prop:=ay aR h a/\∃t:Bool,v=dC t
def azE(h:az)(n d:Nat)(j:Nat->Nat)(a:Int)(m:Nat)(e:Env)(b:az):Prop:=
 bY e 0=dB (Z ⟨d,0,K⟩) n n/\bC e 1 a/\ay aR h b/\((∃x:Nat,x<n/\m=j x+1/\bC e 2 x)\/(m=0/\bC e 2 (-1)))
def aaU(z:cu h)(A:n<1000000)(M:h.tr.get d=Z (.bZ (encI.flat us) t o s))(U:Tree.SK us n)(a:Int)(O:b<n):aY FF 211 [dB (Z ⟨d,0,K⟩) n n,fc ft a,fc ft b] h (Lw h):=by
 have⟨E,I,_,L⟩:=U;refine aY.of U5 ?_;unfold JG;simp;refine aK.loop (azE h n d I a) ?_ (n:=I b+1) ⟨J,J,.refl z,jZ ⟨b,O,Q,J⟩⟩;rintro m e g⟨H,w,q,l⟩;unfold EW;rcases l with⟨x,N,rfl,E⟩|⟨rfl,E⟩
 .by_cases D:(x:Int)=a
  .have j:((x:Int) !=a)=cd:=aj D
   simp[w,E,j];exact⟨q,_,Q⟩
  .have j:((x:Int) !=a)=ck:=aj D
   have p:=q.get z M;have⟨v,C⟩:=aQ us x;have z:=ov p C;simp[H,w,E,j,N,z,-ax];rcases L x v C with rfl|⟨y,rfl,l,a⟩
   exact⟨0,ab,au H,au w,q,kd ⟨Q,J⟩⟩;exact⟨I y+1,ab,au H,au w,q,jZ ⟨y,l,Q,J⟩⟩
 simp[w,E];exact⟨q,_,Q⟩
def AD(a:ByteArray)(p r:Int)(B U W:SV):List aa:=[gX a,fc ft p,fc ft r,B.v,U.v,W.v]
def Gp{ws:List (Int×Int)}(j:h.tr.get W=Z (.bZ (jC.flat ws) t o s)){x:Int×Int}(a:ws[k]?=Z x):∀i m,i+m<=2->cy h W (k*2+i) m=Z (((jC.enc x).drop i).take m):=by intro i m q;have w:=(cY.mp a).1;have:=jC.sw ws k i m x a (aj q);rw[dx j (by rw[jC.dT];simp;omega)];simp only[akz] at this;rw[this]
def Ie(ws:List (Int×Int))(i:Nat)(x:Int×Int)(h:i<cz ws):aX (jC.flat ws) (i*2) [fc ft x.1,fc ft x.2]=jC.flat (ws.set i x):=by have:=jC.jV ws i x h;simpa using this
section
variable{c:ByteArray}{p r:Int}{B U:SV}
def WrQ(h:az)(W n k:Nat)(ws:List (Int×Int))(v:aa)(b:az):Prop:=∃t:Bool,v=dC t/\ay (· =W) h b/\∃a s,b.tr.get W=Z (.bZ (jC.flat a) cd 0 s)/\cz a=n/\(t=ck->(∃w,ws[k]?=Z w/\w.1<0)/\(∃x,a[k]?=Z x/\0<=x.1)/\∀r,r≠k->a[r]?=ws[r]?)
def abp(I:cu h){ws:List (Int×Int)}(a:eR h C (AD c p r B U ⟨Z ⟨W,0,K⟩,n,m⟩) F)(q:eR h W (jC.flat ws) l)(b:cz ws=n)(H:k<n){i:Int}(N:0<=i)(j:Int):aY FF 149 [eU (Z ⟨C,0,K⟩),fc ft k,fc ft i,fc ft j] h (WrQ h W n k ws):=by
 refine aY.of DZ ?_;unfold uU;simp[AD] at a;have⟨w,E⟩:=aQ ws k;have D:=Gp q E 0 1 ag;simp[-ax] at D;by_cases h0:0<=w.1
 simp[a,H,D,h0,-ax,aB a];exact⟨_,Q,.refl I,ws,l,q,b,λe=>by cases e⟩
 .have d:=Ie ws k (i,j) ab;have O:k*2+2<=cz ws*2:=ab
  simp[a,H,D,h0,-ax,aB a,q,O];exact⟨_,Q,bc I q,ws.set k (i,j),h.clock,by rw[aZ,d],au b,λ_=>⟨⟨w,E,ab⟩,⟨(i,j),List.getElem?_set_self ab,N⟩,λr M=>List.getElem?_set_ne (cE M)⟩⟩
def aad(q:cu h){C W n m F l f d D v:Nat}{b:Bool}{ws:List (Int×Int)}(N:eR h C (AD c p r B ⟨Z ⟨d,0,K⟩,D,D⟩ ⟨Z ⟨W,0,K⟩,n,m⟩) F)(O:eR h W (jC.flat ws) l)(H:cz ws=n)(H:h.tr.get d=Z (.bZ (encI.flat us) b v f))(b:Tree.SK us D)(f:D<1000000){v:Bool×Int}(a:v.1=ck->0<=v.2/\v.2<n)(e:i<D)(j:Int):aY FF 150 [eU (Z ⟨C,0,K⟩),ix ⟨[dC v.1,fc ft v.2]⟩,fc ft i,fc ft j] h (Lw h):=by
 refine aY.of DY ?_;unfold uT;have⟨j,k⟩:=v;cases j;simp;exact⟨(ay.refl q).new _ _,_,Q⟩
 .have⟨h0,v⟩:=a rfl;dsimp only at h0 v;obtain⟨k,rfl⟩:∃v:Nat,k=v:=⟨k.toNat,ab⟩;have a:k<n:=ab
  have⟨w,E⟩:=aQ ws k;have j:=q.cg N;have M:=q.cg O;have v:=Gp O E 0 2 ag;have E:=N;simp[AD] at E;simp[-ax] at v;simp[E,j,M,v,a,bj,eY,aB E,aI,aH,-ax];refine aK.cut (λv=>ay aR h v/\di v (h.aw+1) [fc ft w.1,fc ft w.2]) ?_ ?_
  refine⟨?_,?_⟩;exact((ay.refl q).new _ _).tick.var _ _;exact⟨_,aZ _ _ _ _ _ _⟩;rintro v⟨a,M,M⟩;have N:=a.get q E;have E:=a.get q H;by_cases H:w.1<0
  simp[M,H];exact⟨a,_,Q⟩
  .by_cases q:w.1=(i:Int);simp[M,H,q];exact⟨a,_,Q⟩
   .have I:(w.1==(i:Int))=cd:=aj q
    have q:0<=w.1:=ab
    simp[M,H,q,I,N];refine bS.call (V:=Lw (tick v)) (aj (aaU (h:=tick v) a.tick.ok f E b w.1 e)) ?_;rintro _ e⟨e,t,rfl⟩;simp;exact⟨a.tick.trans e,_,Q⟩
end
end Go.Proofs.YtdhnndleffachaaGreatDoor
