/- Parts of the proof. -/
import Derived.Test.YtdhnndleffachaaGreatDoorP03
import Derived.Test.YtdhnndleffachaaGreatDoorP02
import Derived.Test.YtdhnndleffachaaGreatDoorP00
set_option linter.all false
namespace Go.Proofs.YtdhnndleffachaaGreatDoor
open Go.AI
variable{b bytes f l:Nat}{h:ae}{rb:Bool}{x:Int}{z:List Value}{α:Type}
theorem gX(n:Int)(h:0<=n)(h':n<18446744073709551616):IntKind.u64.wrap n=n:=by simp only[IntKind.wrap,IntKind.signed,IntKind.bits];simp;omega
theorem Oj(n:Nat)(h:n<4294967296):(BitVec.ofInt 64 (n:Int) &&& BitVec.ofInt 64 4294967295).toNat=n:=by
 have e1:(BitVec.ofInt 64 (n:Int)).toNat=n:=by rw[BitVec.toNat_ofInt];omega
 have e2:(BitVec.ofInt 64 4294967295).toNat=2^32-1:=by decide
 rw[BitVec.toNat_and,e1,e2,Nat.and_two_pow_sub_one_eq_mod];omega
theorem Ol(h:ae)(n:Nat)(hn:n<1000000):aF FF sO [.int .u64 1,.int .u64 (n:Nat)] h (fun v h'=>v=.tuple #[.int .u64 0,.int .u64 (n:Nat)]/\h'=h):=by
 refine aF.of zH ?_;unfold r_;have w0:IntKind.u64.wrap 0=0:=gX _ (by omega) (by omega);have w1:IntKind.u64.wrap 1=1:=gX _ (by omega) (by omega);have wn:IntKind.u64.wrap (n:Int)=n:=gX _ (by omega) (by omega);have a1:fq .and .u64 1 4294967295=some (.int .u64 1):=by have:=Oj 1 (by omega);show some (Value.int .u64 (IntKind.u64.wrap ((BitVec.ofInt 64 ((1:Nat):Int) &&& BitVec.ofInt 64 4294967295).toNat:Int)))=_;rw[this];simp[w1]
 have a2:fq .and .u64 (n:Int) 4294967295=some (.int .u64 n):=by have:=Oj n (by omega);show some (Value.int .u64 (IntKind.u64.wrap ((BitVec.ofInt 64 (n:Int) &&& BitVec.ofInt 64 4294967295).toNat:Int)))=_;rw[this,wn]
 have a3:fq .and .u64 0 4294967295=some (.int .u64 0):=by have:=Oj 0 (by omega);show some (Value.int .u64 (IntKind.u64.wrap ((BitVec.ofInt 64 ((0:Nat):Int) &&& BitVec.ofInt 64 4294967295).toNat:Int)))=_;rw[this];simp[w0]
 have s0:jJ .shr .u64 0 32=some (.int .u64 0):=by rfl
 have s1:jJ .shr .u64 1 32=some (.int .u64 0):=by rfl
 have sn:jJ .shr .u64 (n:Int) 32=some (.int .u64 0):=by
  have dn:(n:Int).fdiv (2^32)=0:=by rw[Int.fdiv_eq_ediv_of_nonneg _ (by decide)];exact Int.ediv_eq_zero_of_lt (by omega) (by omega)
  show(if(32:Int)<0 then none else some (Value.int .u64 ((n:Int).fdiv (2^(min (32:Int).toNat 64)))))=_;rw[aW (by decide),show min (32:Int).toNat 64=32 by decide,dn]
 have p0:fq .mul .u64 0 (n:Int)=some (.int .u64 0):=by simp[w0]
 have p1:fq .mul .u64 1 (n:Int)=some (.int .u64 n):=by simp[wn]
 have p2:fq .mul .u64 1 0=some (.int .u64 0):=by simp[w0]
 have p3:fq .mul .u64 0 0=some (.int .u64 0):=by simp[w0]
 have q0:fq .add .u64 0 0=some (.int .u64 0):=by simp[w0]
 simp[-fq,a1,a2,a3,s0,s1,sn,p0,p1,p2,p3,q0]
theorem Lq(h:ae)(n:Nat)(hn:n<1000000):aF FF kD [.int .u64 1,.int .u64 (n:Nat)] h (fun v h'=>v=.tuple #[.int .u64 0,.int .u64 (n:Nat)]/\h'=h):=by refine aF.of CF ?_;unfold vc;simp;rw[xm (t:=false) rfl];simp;refine aG.call (V:=fun v h'=>v=.tuple #[.int .u64 0,.int .u64 (n:Nat)]/\h'=h) (by simpa using Ol h n hn) ?_;rintro _ h'⟨rfl,rfl⟩;simp
theorem Qp(E:Enc α)(z0:α)(hz:z=E.enc z0)(n:Nat):jP z n=E.flat (List.replicate n z0):=by
 induction n with
 |zero=>rfl
 |succ n ih=>rw[jP,ih,hz,List.replicate_succ,E.eL]
def filled{α:Type}(x z:α)(k n:Nat):List α:=List.replicate k x++List.replicate (n-k) z
theorem Gy(E:Enc α)(x z:α){k m n:Nat}(hk:k+m<=n):aH (E.flat (filled x z k n)) (k*E.sz) (E.flat (List.replicate m x))=E.flat (filled x z (k+m) n):=by
 have h1:(E.flat (filled x z k n)).take (k*E.sz)=E.flat (List.replicate k x):=by rw[E.gW];congr 1;simp[filled]
 have h2:(E.flat (filled x z k n)).drop (k*E.sz+m*E.sz)=E.flat (List.replicate (n-(k+m)) z):=by rw[<-tw,E.kZ];congr 1;simp[filled,List.drop_append];omega
 unfold aH;rw[E.bI,List.length_replicate,h1,h2,<-E.dN,<-E.dN,List.replicate_append_replicate];rfl
def EP(o:Nat):aq:=(J_ (G_ [m_ 34 8,m_ 35 7,z_ 36 35,B_ 37 .lss 34 36] (H_ 37 0)) (P_ 1 (V_ [D_ (m_ 38 8),D_ (m_ 39 7),D_ (m_ 40 8),(o_ 41 (.slice o (t_ 39) (some (t_ 40)) none none),[]),D_ (m_ 42 7),D_ (m_ 43 8),(o_ 44 (.slice o (t_ 42) none (some (t_ 43)) none),[]),(o_ 45 (.copy o (t_ 41) (t_ 44)),[]),D_ (B_ 46 .add 38 45),D_ (m_ 8 46)])))
def Da(z:List Value)(o bytes:Nat):aq:=(G_ [o_ 4 (.mv (.const (.slice none 0 0)))] (J_ (G_ [m_ 9 1,C_ 10 .lss 9 0] (I_ 10 (O_ [⟨(some 11),none,.bad⟩,⟨none,none,.bad⟩]) .skip)) (G_ [m_ 13 0,z_ 14 13,o_ 15 (.conv .u64 (t_ 14)),m_ 16 1,o_ 17 (.conv .u64 (t_ 16)),o_ 18 (.call (.func kD) [t_ 15,t_ 17]),m_ 12 18,o_ 19 (.ext 0 (t_ 12)),o_ 20 (.ext 1 (t_ 12)),m_ 5 19,m_ 6 20] (J_ (G_ [m_ 21 5,o_ 22 (.bin .gtr [] (t_ 21) (.const (.int .u64 0))),m_ 23 22,q_ 24 23 false (.mv (t_ 6)),q_ 25 23 false (.bin .gtr [] (t_ 24) (.const (.int .u64 9223372036854775807))),o_ 26 (.pick (t_ 23) (b_ true) (t_ 25))] (I_ 26 (O_ [⟨(some 27),none,.bad⟩,⟨none,none,.bad⟩]) .skip)) (G_ [m_ 28 6,o_ 29 (.conv .i64 (t_ 28)),o_ 30 (.ik z bytes (t_ 29) (t_ 29)),m_ 7 30] (G_ [m_ 31 7,m_ 32 0,o_ 33 (.copy o (t_ 31) (t_ 32)),m_ 8 33] (J_ (P_ 0 (.loop (EP o))) (G_ [m_ 47 7,m_ 4 47] .ret))))))))
theorem Co(E:Enc α)(hf:FF f=some ⟨[.tmp 4],Da z E.sz bytes,.no⟩)(CI:bytes<=1000)(z0 x:α)(hz:z=E.enc z0)(ok:bm h)(n:Nat)(hn:0<n/\n<1000000){b off c:Nat}(hs:bc E h (.slice (some ⟨b,off,none⟩) 1 c) [x]):
  aF FF f [.slice (some ⟨b,off,none⟩) 1 c,.int .i64 n] h (fun v h'=>ab aK h h'/\∃d s,v=.slice (some ⟨d,0,none⟩) n n/\h.next<=d/\h'.tr.get d=some (.aC (E.flat (List.replicate n x)) false 0 s)):=by
 have IN:z.length=E.sz:=by rw[hz,E.len]
 have hp:=E.pos;have w1:IntKind.u64.wrap 1=1:=gX _ (by omega) (by omega);have wn:IntKind.u64.wrap (n:Int)=n:=gX _ (by omega) (by omega);have wn':IntKind.i64.wrap (n:Int)=n:=wrap_i64 _ (by omega) (by omega);have n0:¬(n:Int)<0:=by omega
 have n1:¬(9223372036854775807:Int)<n:=by omega
 have r1:roomy n=true:=by simp[roomy];omega
 have r2:roomy (n*bytes)=true:=by have:n*bytes<=1000000*1000:=Nat.mul_le_mul (by omega) CI;simp[roomy];omega
 obtain⟨b',Oo,c',e',FT,⟨_,_,_,_,X7⟩,dj⟩:=hs.read (i:=0) (x:=x) rfl;injection e' with e1 e2 e3;cases e1;have AV:=dj 0 E.sz (by omega);simp only[Nat.zero_mul,Nu,List.drop_zero] at AV;have rP:aV h b off E.sz=some (E.enc x):=by rw[AV,YW (by rw[E.len];exact dw _)]
 have oB:=ok.bC X7;have m1:Nat.min 1 n=1:=by show min 1 n=1;omega
 have m2:E.sz<=n*E.sz:=Nat.le_mul_of_pos_left _ hn.1;refine aF.of hf ?_;unfold Da;simp[n0,w1,wn];refine aG.call (V:=fun v h'=>v=.tuple #[.int .u64 0,.int .u64 (n:Nat)]/\h'=h) (by simpa using Lq h n hn.2) ?_;rintro _ h'⟨rfl,e⟩;subst e;simp[n1,wn',r1,r2,IN,hp,m1,aN,oB,rP,E.len,Qp E z0 hz,m2,-ag];have g0:ab aK h' (put (aJ h' (E.flat (List.replicate n z0)) 0) h'.next 0 (E.flat (List.replicate n z0)) (E.enc x) 0):=(ab.refl ok).var _ _;have Yb:(put (aJ h' (E.flat (List.replicate n z0)) 0) h'.next 0 (E.flat (List.replicate n z0)) (E.enc x) 0).tr.get h'.next=some (.aC (E.flat (filled x z0 1 n)) false 0 h'.clock):=by rw[aD,H0];have:=Gy E x z0 (k:=0) (m:=1) (n:=n) (by omega);simp only[filled,List.replicate_zero,List.nil_append,Nat.sub_zero,Nat.zero_mul,BX,List.replicate_one,E.eL,E.UK,List.append_nil] at this⊢;rw[this]
 refine aB.cut (fun h1=>ab aK h' h1/\∃s,h1.tr.get h'.next=some (.aC (E.flat (filled x z0 1 n)) false 0 s)) ⟨g0,_,Yb⟩ ?_;rintro h1⟨g1,s1,hd1⟩;refine aB.loop (fun m e h2=>∃k:Nat,m=n-k/\1<=k/\k<=n/\ak e 7=.slice (some ⟨h'.next,0,none⟩) n n/\ak e 8=.int .i64 k/\ab aK h' h2/\∃s,h2.tr.get h'.next=some (.aC (E.flat (filled x z0 k n)) false 0 s)) ?_ (n:=n-1)
  ⟨1,rfl,dw _,hn.1,by simp,by simp,g1,s1,hd1⟩
 rintro m e h2⟨k,rfl,hk1,zZ,f7,f8,g2,s2,PL⟩;unfold EP;by_cases dS:k<n
 .have q1:Nat.min k (n-k)=min k (n-k):=rfl;obtain⟨j,hj⟩:∃j,j=min k (n-k):=⟨_,rfl⟩;rw[<-hj] at q1;have q2:¬j=0:=by omega
  have q3:k<=n:=by omega
  have FU:aV h2 h'.next 0 (j*E.sz)=some (E.flat (List.replicate j x)):=by have GS:j*E.sz<=(filled x z0 k n).length*E.sz:=DX _ (by simp[filled];omega);rw[bV PL (by simpa using GS),List.drop_zero,E.gW];congr 2;rw[filled,List.take_append_of_le_length (by simp;omega),List.take_replicate,Nat.min_eq_left (by omega)]
  have bY:k*E.sz+j*E.sz<=(filled x z0 k n).length*E.sz:=by rw[<-tw];exact DX _ (by simp[filled];omega)
  obtain⟨k',wV⟩:∃k',k'=k+j:=⟨_,rfl⟩;have wk:IntKind.i64.wrap ((k:Int)+(j:Int))=(k':Int):=by rw[wrap_i64 _ (by omega) (by omega)];omega
  have hq:(k:Int)<(n:Int):=by omega
  simp[f7,f8,dS,hq,q1,q2,q3,PL,ay,FU,bY,wk,-ag];refine⟨n-k',by omega,k',rfl,by omega,by omega,by simp,?_,?_⟩
  .exact ab.put g2.tick ⟨_,PL⟩ (.inl (dw _))
  .rw[wV,<-Gy E x z0 (by omega)]
 .have:k=n:=by omega
  subst this;simp[f7,f8];refine⟨g2,s2,?_⟩;rw[PL];simp[filled]
def tu:Enc (Int×Int):=⟨fun x=>[.int .i64 x.1,.int .i64 x.2],2,fun _=>rfl,by decide,fun _=>rfl⟩
@[simp] theorem YL:tu.sz=2:=rfl
@[simp] theorem agL(x:Int×Int):tu.enc x=[.int .i64 x.1,.int .i64 x.2]:=rfl
theorem qb{E:Enc α}{ro:Bool}{o s c:Nat}{x:α}(hb:h.tr.get b=some (.aC (E.enc x) ro o s)):bc E h (.slice (some ⟨b,0,none⟩) 1 c) [x]:=
 ⟨_,c,rfl,.inr ⟨b,0,_,ro,o,s,rfl,hb,by simp[E.len],by simp[YW,E.len]⟩⟩
theorem LK(ok:bm h)(n:Nat)(hn:0<n/\n<1000000){b ro o s c:Nat}(hb:h.tr.get b=some (.aC [.int .i64 x] rb o s)):
  aF FF gQ [.slice (some ⟨b,0,none⟩) 1 c,.int .i64 n] h (fun v h'=>ab aK h h'/\∃d s,v=.slice (some ⟨d,0,none⟩) n n/\h.next<=d/\h'.tr.get d=some (.aC (bj.flat (List.replicate n x)) false 0 s)):=
 Co bj (z:=[.int .i64 0]) (bytes:=8) kY (by decide) 0 x rfl ok n hn (qb hb)
theorem ET(ok:bm h)(n:Nat)(hn:0<n/\n<1000000){b ro o s c:Nat}{x:Int×Int}(hb:h.tr.get b=some (.aC [.int .i64 x.1,.int .i64 x.2] rb o s)):
  aF FF cN [.slice (some ⟨b,0,none⟩) 1 c,.int .i64 n] h (fun v h'=>ab aK h h'/\∃d s,v=.slice (some ⟨d,0,none⟩) n n/\h.next<=d/\h'.tr.get d=some (.aC (tu.flat (List.replicate n x)) false 0 s)):=
 Co tu (z:=[.int .i64 0,.int .i64 0]) (bytes:=16) ed (by decide) (0,0) x rfl ok n hn (qb hb)
theorem R6(h:ae):aF FF kD [.int .u64 1,.int .u64 0] h (fun v h'=>v=.tuple #[.int .u64 0,.int .u64 0]/\h'=h):=by simpa using Lq h 0 (by omega)
theorem Cp(E:Enc α)(hf:FF f=some ⟨[.tmp 4],Da z E.sz bytes,.no⟩)(hz:z.length=E.sz)(ok:bm h){b off c:Nat} :
  aF FF f [.slice (some ⟨b,off,none⟩) 1 c,.int .i64 0] h (fun v h'=>ab aK h h'/\∃d s,v=.slice (some ⟨d,0,none⟩) 0 0/\h.next<=d/\h'.tr.get d=some (.aC [] false 0 s)):=by
 have hp:=E.pos;have w1:IntKind.u64.wrap 1=1:=gX _ (by omega) (by omega);have w0:IntKind.u64.wrap 0=0:=gX _ (by omega) (by omega);have w0':IntKind.i64.wrap 0=0:=wrap_i64 _ (by omega) (by omega);have m1:Nat.min 1 0=0:=rfl;refine aF.of hf ?_;unfold Da;simp[w1,w0];refine aG.call (V:=fun v h'=>v=.tuple #[.int .u64 0,.int .u64 0]/\h'=h) (by simpa using R6 h) ?_;rintro _ h'⟨rfl,e⟩;subst e;simp[w0',roomy,hz,hp,jP,m1];rw[nz];unfold EP;simp;exact aP ok _ _
theorem Xd(ok:bm h)(n:Nat)(hn:n<1000000){b o s c:Nat}{x:Int×Int}(hb:h.tr.get b=some (.aC [.int .i64 x.1,.int .i64 x.2] rb o s)):
  aF FF cN [.slice (some ⟨b,0,none⟩) 1 c,.int .i64 n] h (fun v h'=>ab aK h h'/\∃d s,v=.slice (some ⟨d,0,none⟩) n n/\h.next<=d/\h'.tr.get d=some (.aC (tu.flat (List.replicate n x)) false 0 s)):=by
 cases n with
 |zero=>exact Cp tu (z:=[.int .i64 0,.int .i64 0]) (bytes:=16) ed rfl ok
 |succ n=>exact ET ok (n+1) ⟨by omega,hn⟩ (ro:=0) hb
theorem ES(ok:bm h)(n:Nat)(hn:n<1000000){b o s c:Nat}(hb:h.tr.get b=some (.aC [.int .i64 x] rb o s)):
  aF FF gQ [.slice (some ⟨b,0,none⟩) 1 c,.int .i64 n] h (fun v h'=>ab aK h h'/\∃d s,v=.slice (some ⟨d,0,none⟩) n n/\h.next<=d/\h'.tr.get d=some (.aC (bj.flat (List.replicate n x)) false 0 s)):=by
 cases n with
 |zero=>exact Cp bj (z:=[.int .i64 0]) (bytes:=8) kY rfl ok
 |succ n=>exact LK ok (n+1) ⟨by omega,hn⟩ (ro:=0) hb
theorem jN(ok:bm h){ob:o9}(hl:h.tr.get l=some ob)(env:Env)(ps:List Nat)(asg body:aq)(st:Th):ab (· =l) h (fB h l env ps asg body st):=by
 refine⟨dw _,dw _,fun x hx hn=>?_,⟨fun x o hx=>?_,fun x cs ro o s hx=>?_⟩⟩
 .simp only[fB,Tr.az];rw[aW hn]
 .simp only[fB,Tr.az] at hx⊢;by_cases e:x=l
  .subst e;exact ok.wf _ _ hl
  .rw[aW e] at hx;exact ok.wf x o hx
 .simp only[fB,Tr.az] at hx⊢;by_cases e:x=l
  .rw[aZ e] at hx;cases hx
  .rw[aW e] at hx;exact ok.st x cs ro o s hx
theorem ot(h:ae)(l:Nat)(env:Env)(ps:List Nat)(asg body:aq)(st:Th):(fB h l env ps asg body st).tr.get l=some (.loop env ps asg body st):=by simp[fB,Tr.az]
theorem OI{S:Nat->Prop}{h1:ae}(ok:bm h1){l p1 p2:Nat}{e:Env}{asg body:aq}{v1 v2:Value}{K:ae->Prop}(hS:¬S l)(hl:h1.tr.get l=some (.loop e [p1,p2] asg body .ready))(H:aB FF asg (Tr.set (Tr.set e p1 v1) p2 v2) h1 (fun x e2 h2=>x=.normal/\ab aK h1 h2/\∀h3,ab (· =l) h2 h3->aB FF body e2 h3 (fun x _ h4=>x=.normal/\ab S h3 h4/\K h4)))(hK:∀h4 h5,K h4->bm h4->ab (· =l) h4 h5->K h5):
  c_ FF (.func (.yield l) #[] #[]) [v1,v2] h1 (fun r h5=>r=.bool true/\ab (fun x=>S x\/x=l) h1 h5/\h5.tr.get l=some (.loop e [p1,p2] asg body .ready)/\K h5):=by
 refine c_.yield hl (by simp[gU];rfl) ?_;refine H.mono ?_;rintro x e2 h2⟨rfl,g2,H2⟩;have sE:=g2.get ok hl;refine⟨rfl,sE,?_⟩;have gs:=jN g2.ok sE e [p1,p2] asg body .busy;refine(H2 _ gs).mono ?_;rintro x e3 h4⟨rfl,g4,k4⟩;have Rp:=g4.get gs.ok (ot h2 l e [p1,p2] asg body .busy) hS;have gt:=jN g4.ok Rp e [p1,p2] asg body .ready;refine⟨⟨_,_,_,_,Rp,rfl,rfl,rfl,rfl⟩,rfl,?_,ot _ _ _ _ _ _ _,hK _ _ k4 g4.ok gt⟩;exact((g2.bl.trans' gs (fun _ _ h=>h) (fun _ _ h=>.inr h)).trans' g4 (fun _ _ h=>h) (fun _ _ h=>.inl h)).trans' gt (fun _ _ h=>h) (fun _ _ h=>.inr h)
theorem Fx(h:ae)(to:SV):aF FF fK [to.v] h (fun v h'=>v=.func (.func bE) #[] #[.pointer (some ⟨h.next,0,none⟩)]/\h'=aJ h [to.v] 0):=by refine aF.of rR ?_;unfold jQ;simp
def BwI(ns:List Int)(y:Value)(b:Nat)(I:Nat->ae->Prop)(m:Nat)(e:Env)(h2:ae):Prop:=m<=ns.length/\ak e 0=y/\ak e 1=.pointer (some ⟨b,0,none⟩)/\ak e 3=.int .i64 ((m:Int)-1)/\I m h2
theorem Dx{h0 h:ae}(oD:bm h0){T:SV}{ns:List Int}(hT:SliceR nR 1 h0 T.v ns)(hl:ns.length<1000000){y:Value}(I:Nat->ae->Prop)(hI:∀j h2,I j h2->ab aK h0 h2/\∃s,h2.tr.get b=some (.aC [T.v] false 0 s))(H:∀j x h2,ns[j]?=some x->I (j+1) h2->c_ FF y [.int .i64 j,.int .i64 x] h2 (fun v h'=>v=.bool true/\I j h'))(hi:I ns.length h):
  aF FF bE [y,.pointer (some ⟨b,0,none⟩)] h (fun _ h'=>I 0 h'):=by
 have xZ:=SliceR.len hT;obtain⟨_,s0,hb0⟩:=hI _ _ hi;simp at hb0;have w:=wrap_i64 ((ns.length:Int)-1) (by omega) (by omega);refine aF.of pO ?_;unfold iV;simp[hb0,xZ,w];refine aB.loop (BwI ns y b I) ?_ (n:=ns.length) ⟨dw _,by simp,by simp,by simp,hi⟩;rintro m e h2⟨hj,f0,f1,f3,hi⟩;unfold ia;cases m with
 |zero=>
  have:¬(0:Int)<= -1:=by omega
  simp[f3];exact hi
 |succ j=>
  have hx:ns[j]?=some ns[j]:=fI (by omega);generalize ns[j]=x at hx;obtain⟨g2,s,hb⟩:=hI _ _ hi;simp at hb;obtain⟨bT,off,c,Fj,_,_,rfl,_,dj⟩:=SliceR.later oD hT hx;have r0:=dj h2 g2 0 1 (by decide);simp[-ag] at r0;have e3:(((j+1:Nat):Int)-1)=(j:Int):=by omega
  rw[e3] at f3;have aS:j<ns.length:=by omega
  have wj:=wrap_i64 ((j:Int)-1) (by omega) (by omega);rw[Fj,xZ] at hb;simp[f0,f1,f3,av hb,aS,r0,-ag];refine aG.cU (V:=fun v h'=>v=.bool true/\I j h') (by simpa [f0] using H j x h2 hx hi) ?_;rintro _ h3⟨rfl,Zi⟩;simp[f3,wj];exact⟨j,by omega,by omega,by simp[f0],by simp[f1],by simp,Zi⟩
end Go.Proofs.YtdhnndleffachaaGreatDoor
namespace Go.Proofs.YtdhnndleffachaaGreatDoor
open Go Go.AI
variable{cs:List Value}{h:ae}{sz:Nat}{v:Value}{α β:Type}
def wL:Ty:=.pair .bool (.pair (.int .i64) .unit)
def PZ:Ty:=.pair (.int .i64) (.pair (.int .i64) (.pair wL (.pair wL (.pair (.int .i64) (.pair (.sl wL) .unit)))))
def Ql:Ty:=.pair (.int .i64) (.pair (.sl wL) .unit)
def agM:Ty:=.pair (.int .i64) (.pair wL (.pair (.sl (.int .i64)) .unit))
def wQ:Ty:=.pair (.sl Ql) (.pair (.sl PZ) (.pair agM .unit))
def Iu:Ty:=.pair .str (.pair (.int .i64) (.pair (.int .i64) (.pair (.sl wQ) .unit)))
def zR:Ty:=.pair .str (.pair (.int .i64) (.pair (.sl (.int .i64)) .unit))
def BC:Ty:=.pair (.sl zR) (.pair (.sl Iu) .unit)
theorem nA{R:List Value->α->Prop}{R':List Value->β->Prop}{xs:List α}(f:α->β)(s:SliceR R sz h v xs)(H:∀c x,R c x->R' c (f x)):SliceR R' sz h v (xs.map f):=by
 obtain⟨a,cap,rfl,s⟩:=s;refine⟨a,cap,by rw[UP],?_⟩;rcases s with⟨rfl,s⟩|⟨b,off,cs,ro,o,st,rfl,hb,he⟩
 .exact .inl ⟨rfl,s⟩
 .refine .inr ⟨b,off,cs,ro,o,st,rfl,hb,fun i y hy=>?_⟩;rw[tT,Option.map_eq_some_iff] at hy;obtain⟨x,hx,rfl⟩:=hy;exact⟨(he i x hx).1,H _ _ (he i x hx).2⟩
theorem my{R:List Value->α->Prop}{xs:List α}(s:SliceR R sz h v xs):∃S:SV,v=S.v:=by obtain⟨a,cap,rfl,_⟩:=s;exact⟨⟨a,xs.length,cap⟩,rfl⟩
def toV(x:wL.den):Bool×Int:=(x.1,x.2.1)
def toI(x:PZ.den):GI:=⟨x.1,x.2.1,toV x.2.2.1,toV x.2.2.2.1,x.2.2.2.2.1,List.map toV x.2.2.2.2.2.1⟩
def toP(x:Ql.den):GP:=⟨x.1,List.map toV x.2.1⟩
def toB(x:wQ.den):GB:=⟨List.map toP x.1,List.map toI x.2.1,x.2.2.1.1,toV x.2.2.1.2.1,List.map id x.2.2.1.2.2.1⟩
def toF(x:Iu.den):GF:=⟨x.1,x.2.1,x.2.2.1,List.map toB x.2.2.2.1⟩
def toG(x:zR.den):GG:=⟨x.1,x.2.1,List.map id x.2.2.1⟩
def toU(x:BC.den):GU:=⟨List.map toG x.1,List.map toF x.2.1⟩
theorem Dc{x:wL.den}(r:rep wL h cs x):vR cs (toV x):=by obtain⟨a,b,_⟩:=x;obtain⟨c1,_,rfl,e1,c2,_,rfl,e2,e3⟩:=r;simp only[rep] at e1 e2 e3;subst e1 e2 e3;rfl
theorem LI{xs:List Int}(s:SliceR (rep (.int .i64) h) (Ty.sz (.int .i64)) h v xs):SliceR nR 1 h v (List.map id xs):=
 nA id s fun c x r=>by simpa [rep,nR] using r
theorem LJ{xs:List wL.den}(s:SliceR (rep wL h) wL.sz h v xs):SliceR vR 2 h v (List.map toV xs):=
 nA toV s fun _ _ r=>Dc r
theorem aac{x:PZ.den}(r:rep PZ h cs x):iR h cs (toI x):=by obtain⟨op,dst,a,b,fn,vs,_⟩:=x;obtain⟨c1,_,rfl,e1,c2,_,rfl,e2,c3,_,rfl,ea,c4,_,rfl,eb,c5,_,rfl,e5,c6,_,rfl,⟨v,rfl,s⟩,e7⟩:=r;have ea:=Dc ea;have eb:=Dc eb;simp only[rep,vR] at e1 e2 ea eb e5 e7;subst e1 e2 ea eb e5 e7;obtain⟨S,rfl⟩:=my s;exact⟨S,rfl,LJ s⟩
theorem aad{x:Ql.den}(r:rep Ql h cs x):pR h cs (toP x):=by obtain⟨dst,vs,_⟩:=x;obtain⟨c1,_,rfl,e1,c6,_,rfl,⟨v,rfl,s⟩,e7⟩:=r;simp only[rep] at e1 e7;subst e1 e7;obtain⟨S,rfl⟩:=my s;exact⟨S,rfl,LJ s⟩
theorem SE{x:wQ.den}(r:rep wQ h cs x):bR h cs (toB x):=by obtain⟨ps,ls,⟨k,on,ts,_⟩,_⟩:=x;obtain⟨c1,_,rfl,⟨v1,rfl,s1⟩,c2,_,rfl,⟨v2,rfl,s2⟩,c3,_,rfl,⟨c4,_,rfl,e4,c5,_,rfl,e5,c6,_,rfl,⟨v3,rfl,s3⟩,e6⟩,e7⟩:=r;have e5:=Dc e5;simp only[rep,vR] at e4 e5 e6 e7;subst e4 e5 e6 e7;obtain⟨S1,rfl⟩:=my s1;obtain⟨S2,rfl⟩:=my s2;obtain⟨S3,rfl⟩:=my s3;exact⟨S1,S2,S3,rfl,nA toP s1 fun _ _ r=>aad r,nA toI s2 fun _ _ r=>aac r,LI s3⟩
theorem Xb{x:Iu.den}(r:rep Iu h cs x):fR h cs (toF x):=by obtain⟨n,p,q,bs,_⟩:=x;obtain⟨c1,_,rfl,e1,c2,_,rfl,e2,c3,_,rfl,e3,c4,_,rfl,⟨v,rfl,s⟩,e7⟩:=r;simp only[rep] at e1 e2 e3 e7;subst e1 e2 e3 e7;obtain⟨S,rfl⟩:=my s;exact⟨S,rfl,nA toB s fun _ _ r=>SE r⟩
theorem OF{x:zR.den}(r:rep zR h cs x):gR h cs (toG x):=by obtain⟨n,p,bs,_⟩:=x;obtain⟨c1,_,rfl,e1,c2,_,rfl,e2,c4,_,rfl,⟨v,rfl,s⟩,e7⟩:=r;simp only[rep] at e1 e2 e7;subst e1 e2 e7;obtain⟨S,rfl⟩:=my s;exact⟨S,rfl,LI s⟩
theorem Xc{x:BC.den}(r:rep BC h cs x):∃G F:SV,cs=[G.v,F.v]/\uR h G F (toU x):=by obtain⟨gs,fs,_⟩:=x;obtain⟨c1,_,rfl,⟨v1,rfl,s1⟩,c2,_,rfl,⟨v2,rfl,s2⟩,e7⟩:=r;simp only[rep] at e7;subst e7;obtain⟨S1,rfl⟩:=my s1;obtain⟨S2,rfl⟩:=my s2;exact⟨S1,S2,rfl,nA toG s1 fun _ _ r=>OF r,nA toF s2 fun _ _ r=>Xb r⟩
theorem map_le(f:α->β)(l:List α)(h:l.length<=140737488351232):(List.map f l).length<=140737488355328:=by rw[UP];omega
theorem Uj{x:BC.den}(b:Bd (some 140737488351232) BC x):Small (toU x)/\A8 (toU x):=by
 obtain⟨gs,fs,_⟩:=x;obtain⟨⟨g1,g2⟩,⟨f1,f2⟩,_⟩:=b;have g1:=g1 _ rfl;have f1:=f1 _ rfl;have hb:∀b:wQ.den,Bd (some 140737488351232) wQ b->uv (toB b):=by
  rintro⟨ps,ls,⟨k,on,ts,_⟩,_⟩ ⟨⟨p1,p2⟩,⟨l1,l2⟩,⟨_,_,⟨t1,_⟩,_⟩,_⟩;have p1:=p1 _ rfl;have l1:=l1 _ rfl;have t1:=t1 _ rfl;refine⟨?_,?_,?_,fun p hp=>?_,fun x hx=>?_⟩
  .exact map_le _ _ p1
  .exact map_le _ _ l1
  .exact map_le _ _ t1
  .obtain⟨y,hy,rfl⟩:=dZ.1 hp;obtain⟨_,⟨h1,_⟩,_⟩:=p2 y hy;have h1:=h1 _ rfl;exact map_le _ _ h1
  .obtain⟨y,hy,rfl⟩:=dZ.1 hx;obtain⟨_,_,_,_,_,⟨h1,_⟩,_⟩:=l2 y hy;have h1:=h1 _ rfl;exact map_le _ _ h1
 have hf:∀f∈(toU ⟨gs,fs,()⟩).funcs,Fits f.blocks/\∀b∈f.blocks,uv b:=by
  intro f hf;obtain⟨y,hy,rfl⟩:=dZ.1 hf;obtain⟨_,_,_,⟨h1,h2⟩,_⟩:=f2 y hy;have h1:=h1 _ rfl;have KH:∀b∈(toF y).blocks,uv b:=by intro b cA;obtain⟨z,hz,rfl⟩:=dZ.1 cA;exact hb z (h2 z hz)
  exact⟨⟨map_le _ _ h1,fun b hb=>⟨(KH b hb).ph,(KH b hb).li⟩⟩,KH⟩
 refine⟨⟨?_,fun f h=>(hf f h).1⟩,fun g hg=>?_,fun f h=>(hf f h).1,fun f h=>(hf f h).2⟩
 .exact map_le _ _ f1
 .obtain⟨y,hy,rfl⟩:=dZ.1 hg;obtain⟨_,_,⟨h1,_⟩,_⟩:=g2 y hy;have h1:=h1 _ rfl;exact map_le _ _ h1
end Go.Proofs.YtdhnndleffachaaGreatDoor
namespace Go.AI.Dfs
variable{b n x:Nat}{l:List Nat}
structure DS where
 seen:List Bool
 left:List Nat
def row(dy:List (List Nat))(b:Nat):List Nat:=(dy[b]?).getD []
def visitM(dy:List (List Nat)):Nat->Nat->DS->DS
 |0,_,s=>s
 |k+1,b,s=>
  let s1:=(row dy b).reverse.foldl (fun s t=>if s.seen[t]?=some true then s else visitM dy k t s) ⟨s.seen.set b true,s.left⟩
  ⟨s1.seen,s1.left++[b]⟩
def foldM(dy:List (List Nat))(k:Nat)(l:List Nat)(s:DS):DS:=l.foldl (fun s t=>if s.seen[t]?=some true then s else visitM dy k t s) s
theorem oQ(dy:List (List Nat))(k b:Nat)(s:DS):visitM dy (k+1) b s=⟨(foldM dy k (row dy b).reverse ⟨s.seen.set b true,s.left⟩).seen,(foldM dy k (row dy b).reverse ⟨s.seen.set b true,s.left⟩).left++[b]⟩:=rfl
theorem GC(dy:List (List Nat))(k:Nat)(s:DS):foldM dy k [] s=s:=rfl
theorem uI(dy:List (List Nat))(k t:Nat)(l:List Nat)(s:DS):foldM dy k (t::l) s=foldM dy k l (if s.seen[t]?=some true then s else visitM dy k t s):=rfl
structure Vis(n:Nat)(s s':DS)(new:List Nat):Prop where
 left:s'.left=s.left++new
 len:s'.seen.length=n
 seen:∀x,s'.seen[x]?=some true↔(s.seen[x]?=some true\/x∈new)
 fresh:∀x∈new,¬s.seen[x]?=some true/\x<n
 nodup:new.Nodup
def uu(l:List Nat)(x p:Nat):Prop:=∃l1 l2,l=l1++x::l2/\p∈l2
theorem uu.app{x p:Nat}(h:uu l x p)(a b:List Nat):uu (a++l++b) x p:=by obtain⟨l1,l2,rfl,hp⟩:=h;exact⟨a++l1,l2++b,by simp,List.mem_append_left _ hp⟩
theorem uu.last(h:x∈l):uu (l++[b]) x b:=by obtain⟨l1,l2,rfl⟩:=List.append_of_mem h;exact⟨l1,l2++[b],by simp,by simp⟩
def cQ(s:DS):Nat:=s.seen.countP (fun x=> !x)
theorem Vis.trans{s s1 s2:DS}{l1 l2:List Nat}(h1:Vis n s s1 l1)(h2:Vis n s1 s2 l2):Vis n s s2 (l1++l2):=by
 refine⟨by rw[h2.left,h1.left,vu],h2.len,fun x=>?_,fun x hx=>?_,?_⟩
 .rw[h2.seen,h1.seen,lE,or_assoc]
 .rcases lE.1 hx with hx|hx
  .exact h1.fresh x hx
  .have:=h2.fresh x hx;exact⟨fun e=>this.1 ((h1.seen x).2 (.inl e)),this.2⟩
 .refine List.nodup_append.2 ⟨h1.nodup,h2.nodup,fun a ha b hb e=>?_⟩;subst e;exact(h2.fresh a hb).1 ((h1.seen a).2 (.inr ha))
theorem countP_set{l:List Bool}(h:l[b]?=some false):(l.set b true).countP (fun x=> !x)+1=l.countP (fun x=> !x):=by
 induction l generalizing b with
 |nil=>simp at h
 |cons a l ih=>
  cases b with
  |zero=>simp at h;subst h;simp[List.set_cons_zero]
  |succ b=>
   simp at h;have:=ih h;rw[List.set_cons_succ,List.countP_cons,List.countP_cons];omega
theorem countP_le{l m:List Bool}(hl:l.length=m.length)(h:∀x:Nat,l[x]?=some true->m[x]?=some true):m.countP (fun x=> !x)<=l.countP (fun x=> !x):=by
 induction l generalizing m with
 |nil=>cases m with
  |nil=>simp
  |cons b m=>simp at hl
 |cons a l ih=>
  cases m with
  |nil=>simp at hl
  |cons b m=>
   simp at hl;have:=ih hl (fun x hx=>by have:=h (x+1) (by simpa using hx);simpa using this);have h0:=h 0;simp at h0;rw[List.countP_cons,List.countP_cons];cases a<;>cases b<;>simp_all<;>omega
section
variable{dy:List (List Nat)}{n:Nat}
def Pq(dy:List (List Nat))(n b:Nat)(s s':DS):Prop:=
 ∃new,Vis n s s' (new++[b])/\(∀x∈new++[b],∀t∈row dy x,s'.seen[t]?=some true)/\∀x∈new,∃p,x∈row dy p/\uu (new++[b]) x p
def ab2(dy:List (List Nat))(n:Nat)(l:List Nat)(s s':DS):Prop:=
 ∃new,Vis n s s' new/\(∀x∈new,∀t∈row dy x,s'.seen[t]?=some true)/\(∀t∈l,s'.seen[t]?=some true)/\∀x∈new,x∈l\/∃p,x∈row dy p/\uu new x p
theorem Il(ht:∀b t,t∈row dy b->t<n){k:Nat}(ih:∀b s,s.seen.length=n->b<n->¬s.seen[b]?=some true->cQ s<=k->Pq dy n b s (visitM dy k b s)):
  ∀(l:List Nat)(s:DS),s.seen.length=n->(∀t∈l,t<n)->cQ s<=k->ab2 dy n l s (foldM dy k l s)
 |[],s,hn,_,_=>⟨[],⟨by simp[GC],hn,by simp[GC],by simp,.nil⟩,by simp,by simp,by simp⟩
 |t::l,s,hn,hl,hk=>by
  rw[uI];by_cases hs:s.seen[t]?=some true
  .rw[aZ hs];obtain⟨new,h1,h2,h3,h4⟩:=Il ht ih l s hn (fun x hx=>hl x (Bf _ hx)) hk;refine⟨new,h1,h2,fun x hx=>?_,fun x hx=>?_⟩
   .rcases List.mem_cons.1 hx with rfl|hx
    .exact(h1.seen x).2 (.inl hs)
    .exact h3 x hx
   .rcases h4 x hx with h|h
    .exact .inl (Bf _ h)
    .exact .inr h
  .rw[aW hs];obtain⟨n1,v1,c1,p1⟩:=ih t s hn (hl t (AN ..)) hs hk;have hle:cQ (visitM dy k t s)<=k:=sD (countP_le (by rw[hn,v1.len]) (fun x hx=>(v1.seen x).2 (.inl hx))) hk;obtain⟨n2,v2,c2,t2,p2⟩:=Il ht ih l _ v1.len (fun x hx=>hl x (Bf _ hx)) hle;refine⟨n1++[t]++n2,v1.trans v2,fun x hx u hu=>?_,fun x hx=>?_,fun x hx=>?_⟩
   .rcases lE.1 hx with hx|hx
    .exact(v2.seen u).2 (.inl (c1 x hx u hu))
    .exact c2 x hx u hu
   .rcases List.mem_cons.1 hx with rfl|hx
    .exact(v2.seen x).2 (.inl ((v1.seen x).2 (.inr (by simp))))
    .exact t2 x hx
   .rcases lE.1 hx with hx|hx
    .rcases lE.1 hx with hx|hx
     .obtain⟨p,h1,h2⟩:=p1 x hx;exact .inr ⟨p,h1,by simpa using h2.app [] n2⟩
     .simp at hx;subst hx;exact .inl (AN ..)
    .rcases p2 x hx with h|⟨p,h1,h2⟩
     .exact .inl (Bf _ h)
     .exact .inr ⟨p,h1,by simpa using h2.app (n1++[t]) []⟩
theorem Mh(ht:∀b t,t∈row dy b->t<n):∀(k b:Nat)(s:DS),s.seen.length=n->b<n->¬s.seen[b]?=some true->cQ s<=k->Pq dy n b s (visitM dy k b s)
 |0,b,s,hn,hb,hs,hk=>by
  exfalso;have hf:s.seen[b]?=some false:=by
   rw[fI (by omega)] at hs⊢;cases h:s.seen[b] with
   |true=>rw[h] at hs;exact absurd rfl hs
   |false=>rfl
  have:=countP_set hf;unfold cQ at hk;omega
 |k+1,b,s,hn,hb,hs,hk=>by
  have hf:s.seen[b]?=some false:=by
   rw[fI (by omega)] at hs⊢;cases h:s.seen[b] with
   |true=>rw[h] at hs;exact absurd rfl hs
   |false=>rfl
  have hc:=countP_set hf;obtain⟨new,v,c,t,p⟩:=Il ht (Mh ht k) (row dy b).reverse ⟨s.seen.set b true,s.left⟩ (by simpa using hn) (fun x hx=>ht b x (List.mem_reverse.1 hx)) (by unfold cQ at hk⊢;dsimp only;omega);rw[oQ];have gE:∀x,(s.seen.set b true)[x]?=some true↔(s.seen[x]?=some true\/x=b):=by
   intro x;rw[fg];by_cases e:b=x
   .subst e;simp;omega
   .rw[aW e];simp[Ne.symm e]
  refine⟨new,⟨by rw[v.left];simp,v.len,fun x=>?_,fun x hx=>?_,?_⟩,fun x hx u hu=>?_,fun x hx=>?_⟩
  .have:=v.seen x;dsimp only at this⊢;rw[this,gE,lE];simp;constructor
   .rintro((h|h)|h)
    .exact .inl h
    .exact .inr (.inr h)
    .exact .inr (.inl h)
   .rintro(h|h|h)
    .exact .inl (.inl h)
    .exact .inr h
    .exact .inl (.inr h)
  .rcases lE.1 hx with hx|hx
   .have:=v.fresh x hx;exact⟨fun e=>this.1 ((gE x).2 (.inl e)),this.2⟩
   .simp at hx;subst hx;exact⟨hs,hb⟩
  .refine List.nodup_append.2 ⟨v.nodup,by simp,fun a ha c hc e=>?_⟩;simp at hc;subst e;subst hc;exact(v.fresh a ha).1 ((gE a).2 (.inr rfl))
  .rcases lE.1 hx with hx|hx
   .exact c x hx u hu
   .simp at hx;subst hx;exact t u (List.mem_reverse.2 hu)
  .rcases p x hx with h|⟨q,h1,h2⟩
   .exact⟨b,List.mem_reverse.1 h,uu.last hx⟩
   .exact⟨q,h1,by simpa using h2.app [] [b]⟩
end
theorem yP{s:DS}(hb:b<s.seen.length)(hs:¬s.seen[b]?=some true):cQ ⟨s.seen.set b true,s.left⟩+1=cQ s:=by
 have hf:s.seen[b]?=some false:=by
  rw[fI hb] at hs⊢;cases h:s.seen[b] with
  |true=>rw[h] at hs;exact absurd rfl hs
  |false=>rfl
 exact countP_set hf
theorem Kt{dy:List (List Nat)}{k:Nat}(ih:∀b s,(visitM dy k b s).seen.length=s.seen.length):∀(l:List Nat)(s:DS),(foldM dy k l s).seen.length=s.seen.length
 |[],s=>rfl
 |t::l,s=>by
  rw[uI,Kt ih l];split
  .rfl
  .exact ih t s
theorem Hz(dy:List (List Nat)):∀(k b:Nat)(s:DS),(visitM dy k b s).seen.length=s.seen.length
 |0,_,_=>rfl
 |k+1,b,s=>by rw[oQ];dsimp only;rw[Kt (Hz dy k)];simp
theorem uJ{dy:List (List Nat)}{k n:Nat}(ih:∀b s,s.seen.length=n->b<n->¬s.seen[b]?=some true->(visitM dy k b s).left.length+cQ (visitM dy k b s)<=s.left.length+cQ s):
  ∀(l:List Nat)(s:DS),s.seen.length=n->(∀t∈l,t<n)->(foldM dy k l s).left.length+cQ (foldM dy k l s)<=s.left.length+cQ s
 |[],s,_,_=>dw _
 |t::l,s,hn,hl=>by
  rw[uI];split
  .exact uJ ih l s hn (fun x hx=>hl x (Bf _ hx))
  .rename_i h;have h1:=ih t s hn (hl t (AN ..)) h;have h2:=uJ ih l (visitM dy k t s) (by rw[Hz];exact hn) (fun x hx=>hl x (Bf _ hx));omega
theorem Cw{dy:List (List Nat)}{n:Nat}(ht:∀b t,t∈row dy b->t<n):∀(k b:Nat)(s:DS),s.seen.length=n->b<n->¬s.seen[b]?=some true->(visitM dy k b s).left.length+cQ (visitM dy k b s)<=s.left.length+cQ s
 |0,_,_,_,_,_=>dw _
 |k+1,b,s,hn,hb,hs=>by have h1:=yP (s:=s) (b:=b) (by omega) hs;have h2:=uJ (Cw ht k) (row dy b).reverse ⟨s.seen.set b true,s.left⟩ (by simpa using hn) (fun t zk=>ht b t (List.mem_reverse.1 zk));rw[oQ];dsimp only at h2⊢;rw[GJ];have:cQ ⟨(foldM dy k (row dy b).reverse ⟨s.seen.set b true,s.left⟩).seen,(foldM dy k (row dy b).reverse ⟨s.seen.set b true,s.left⟩).left++[b]⟩=cQ (foldM dy k (row dy b).reverse ⟨s.seen.set b true,s.left⟩):=rfl;rw[this];simp only[List.length_singleton];omega
theorem FL(l:List Bool)(b:Nat):(l.set b true).countP (fun x=> !x)<=l.countP (fun x=> !x):=by
 induction l generalizing b with
 |nil=>simp
 |cons a l ih=>
  cases b with
  |zero=>rw[List.set_cons_zero,List.countP_cons,List.countP_cons];simp
  |succ b=>rw[List.set_cons_succ,List.countP_cons,List.countP_cons];have:=ih b;omega
theorem v7{dy:List (List Nat)}{k:Nat}(ih:∀b s,cQ (visitM dy k b s)<=cQ s):∀(l:List Nat)(s:DS),cQ (foldM dy k l s)<=cQ s
 |[],s=>dw _
 |t::l,s=>by
  rw[uI];refine sD (v7 ih l _) ?_;split
  .exact dw _
  .exact ih t s
theorem AL(dy:List (List Nat)):∀(k b:Nat)(s:DS),cQ (visitM dy k b s)<=cQ s
 |0,_,_=>dw _
 |k+1,b,s=>by rw[oQ];have h1:=v7 (AL dy k) (row dy b).reverse ⟨s.seen.set b true,s.left⟩;have h2:cQ ⟨s.seen.set b true,s.left⟩<=cQ s:=FL _ _;exact sD h1 h2
def ly(dy:List (List Nat))(n:Nat):List Nat:=(visitM dy n 0 ⟨List.replicate n false,[]⟩).left
theorem xh{dy:List (List Nat)}(h0:0<n)(ht:∀b t,t∈row dy b->t<n):
  (ly dy n).Nodup/\(∀x∈ly dy n,x<n)/\(∃new,ly dy n=new++[0])/\(∀x∈ly dy n,∀t∈row dy x,t∈ly dy n)/\∀x∈ly dy n,x≠0->∃p,x∈row dy p/\uu (ly dy n) x p:=by
 obtain⟨new,v,c,p⟩:=Mh ht n 0 ⟨List.replicate n false,[]⟩ (by simp) h0 (by simp[UN]) (by unfold cQ;exact sD (List.countP_le_length) (by simp))
 have hl:ly dy n=new++[0]:=by unfold ly;rw[v.left];simp
 rw[hl];refine⟨v.nodup,fun x hx=>(v.fresh x hx).2,⟨new,rfl⟩,fun x hx t ht=>?_,fun x hx h=>?_⟩
 .have:=(v.seen t).1 (c x hx t ht);rcases this with h|h
  .simp[UN] at h
  .exact h
 .rcases lE.1 hx with hx|hx
  .exact p x hx
  .simp at hx;exact absurd hx h
end Go.AI.Dfs
namespace Go.Proofs.YtdhnndleffachaaGreatDoor
open Go.AI
variable{B L:SV}{Fb Lf S V W b k n o s sb:Nat}{bs:List GB}{h h0:ae}{name:ByteArray}{p r:Int}{ro:Bool}
def zN:Enc Bool:=⟨fun x=>[.bool x],1,fun _=>rfl,by decide,fun _=>rfl⟩
@[simp] theorem akg:zN.sz=1:=rfl
@[simp] theorem agJ(x:Bool):zN.enc x=[.bool x]:=rfl
theorem aeR{ws:List Bool}(hW:h.tr.get W=some (.aC (zN.flat ws) ro o s)){x:Bool}(hk:ws[k]?=some x):aV h W k 1=some [.bool x]:=by have hl:=(cr.mp hk).1;rw[bV hW (by rw[zN.bI];show k+1<=ws.length*1;omega)];have:=zN.lx ws k 0 1 x hk (by decide);simp only[Nu] at this;rw[show k=k*zN.sz from(Nat.mul_one k).symm,this];rfl
theorem Xw(ws:List Bool)(i:Nat)(x:Bool)(h:i<ws.length):aH (zN.flat ws) i [.bool x]=zN.flat (ws.set i x):=by have:=zN.eD ws i x h;simpa using this
def po(bs:List GB):List (List Nat):=bs.map fun b=>b.to.map Int.toNat
structure QI(h0 h:ae)(n S sb Fb V Lf:Nat)(name:ByteArray)(p r:Int)(B L:SV)(s:Dfs.DS):Prop where
 g:ab aK h0 h
 n1:h0.next<=sb
 n2:h0.next<=Lf
 hS:∃t,h.tr.get S=some (.aC [.slice (some ⟨sb,0,none⟩) n n] false 0 t)
 xH:∃t,h.tr.get sb=some (.aC (zN.flat s.seen) false 0 t)
 hF:∃t,h.tr.get Fb=some (.aC (aw name p r B) false 0 t)
 hV:∃t,h.tr.get V=some (.aC [.func (.func ju) #[] #[.pointer (some ⟨S,0,none⟩),.pointer (some ⟨Fb,0,none⟩),.pointer (some ⟨V,0,none⟩),.pointer (some ⟨Lf,0,none⟩)]] false 0 t)
 hL:∃t,h.tr.get Lf=some (.aC [L.v] false 0 t)
 acc:bH bj h0.next h L.v (s.left.map fun x:Nat=>(x:Int))
 len:s.seen.length=n
 ll:s.left.length+Dfs.cQ s<=n
 ne:S≠sb/\S≠Lf/\sb≠Fb/\sb≠V/\sb≠Lf/\Fb≠Lf/\V≠Lf
 rU:∀b,ax L.v b->b≠S/\b≠sb/\b≠Fb/\b≠V/\b≠Lf
def PW(sb Lf:Nat)(L:SV)(x:Nat):Prop:=x=sb\/x=Lf\/ax L.v x
def T1(S sb Fb V Lf:Nat)(L:SV)(x:Nat):Prop:=x=S\/x=sb\/x=Fb\/x=V\/x=Lf\/ax L.v x
theorem QI.mE{h0 h h':ae}{s:Dfs.DS}(w:QI h0 h n S sb Fb V Lf name p r B L s){Q:Nat->Prop}(g:ab Q h h')(hq:∀x,T1 S sb Fb V Lf L x->¬Q x)(g0:ab aK h0 h'):QI h0 h' n S sb Fb V Lf name p r B L s:=by
 obtain⟨t1,h1⟩:=w.hS;obtain⟨t2,h2⟩:=w.xH;obtain⟨t3,h3⟩:=w.hF;obtain⟨t4,h4⟩:=w.hV;obtain⟨t5,h5⟩:=w.hL;have ok:=w.g.ok;exact⟨g0,w.n1,w.n2,⟨t1,g.get ok h1 (hq _ (.inl rfl))⟩,⟨t2,g.get ok h2 (hq _ (.inr (.inl rfl)))⟩,⟨t3,g.get ok h3 (hq _ (.inr (.inr (.inl rfl))))⟩,⟨t4,g.get ok h4 (hq _ (.inr (.inr (.inr (.inl rfl)))))⟩,⟨t5,g.get ok h5 (hq _ (.inr (.inr (.inr (.inr (.inl rfl))))))⟩,
  w.acc.grow ok g (fun b hb=>hq _ (.inr (.inr (.inr (.inr (.inr hb)))))),w.len,w.ll,w.ne,w.rU⟩
theorem QI.bC{s:Dfs.DS}(w:QI h0 h n S sb Fb V Lf name p r B L s):∀x,T1 S sb Fb V Lf L x->x<h.next:=by
 obtain⟨t1,h1⟩:=w.hS;obtain⟨t2,h2⟩:=w.xH;obtain⟨t3,h3⟩:=w.hF;obtain⟨t4,h4⟩:=w.hV;obtain⟨t5,h5⟩:=w.hL;have ok:=w.g.ok;rintro x (rfl|rfl|rfl|rfl|rfl|⟨off,m,cap,e⟩)
 .exact ok.wf _ _ h1
 .exact ok.wf _ _ h2
 .exact ok.wf _ _ h3
 .exact ok.wf _ _ h4
 .exact ok.wf _ _ h5
 .rcases w.acc with⟨_,e2⟩|⟨b2,s2,e2,cA,_⟩
  .rw[e2] at e;cases e
  .rw[e2] at e;cases e;exact ok.wf _ _ cA
def th:aq:=(P_ 1 (G_ [l_ 21 1,m_ 22 7,a_ 23 1 21 22,l_ 24 23,o_ 25 (.un .not (t_ 24))] (I_ 25 (O_ [l_ 26 3,m_ 27 7,o_ 28 (.call (t_ 26) [t_ 27])]) .skip)))
def wN:aq:=(.ops [⟨(some 7),none,(.mv (.tmp 20))⟩])
def Jx:aq:=(.ops [⟨(some 8),none,(.load none (.tmp 1))⟩,⟨(some 9),none,(.mv (.tmp 0))⟩,⟨(some 10),none,(.dt none 1 (.tmp 8) (.tmp 9))⟩,⟨none,none,(.store 1 (.tmp 10) (.const (.bool true)))⟩])
def abT:aq:=(O_ [f_ 11 3 2,l_ 12 11,m_ 13 0,a_ 14 6 12 13,f_ 15 2 14,f_ 16 3 15,l_ 17 16,o_ 18 (.call (.func fK) [t_ 17])])
def OZ:aq:=(O_ [l_ 29 4,m_ 30 0,v_ 31 HA 1 30,A_ 32 HA 8 29 31,s_ 1 4 32])
theorem XK:vJ=.seq Jx (.seq (.seq abT (.block 0 (.Qr (.tmp 18) [19,20] wN th))) OZ):=rfl
def Ua(h0 h:ae)(n S sb Fb V Lf:Nat)(name:ByteArray)(p r:Int)(B L:SV)(s':Dfs.DS)(h':ae):Prop:=
 ∃L':SV,QI h0 h' n S sb Fb V Lf name p r B L' s'/\ab (PW sb Lf L) h h'/\∀x,ax L'.v x->ax L.v x\/h.next<=x
theorem aat{s:Dfs.DS}(hn:n<=1000)(w:QI h0 h n S sb Fb V Lf name p r B L s)(JF:s.left.length+1+Dfs.cQ s<=n){e:Env}(f0:ak e 0=.int .i64 b)(f4:ak e 4=.pointer (some ⟨Lf,0,none⟩)){QQ:aT->Env->ae->Prop}(H:∀e' h',Ua h0 h n S sb Fb V Lf name p r B L ⟨s.seen,s.left++[b]⟩ h'->QQ .normal e' h'):aB FF OZ e h QQ:=by
 obtain⟨t5,hL⟩:=w.hL;have ok:=w.g.ok;simp at hL;unfold OZ;simp[f0,f4,hL];have g4:=aP ok (bj.enc (b:Int)) 0;have YY:=w.acc.grow ok g4 (fun _ _ h=>h);have hw4:bc bj (aJ h (bj.enc (b:Int)) 0) (.slice (some ⟨h.next,0,none⟩) 1 1) [(b:Int)]:=⟨_,_,rfl,.inr ⟨h.next,0,_,_,_,_,rfl,bS _ _ _,by simp,by simp⟩⟩;have h0n:=w.g.next;obtain⟨v',h5,ha,B0,g5,MA⟩:=lJ (bytes:=8) g4.ok (z:=[.int .i64 0]) rfl YY hw4 (by simp;omega) (by decide) (by show h0.next<=h.next+1;omega);refine iE ha ?_;obtain⟨W,rfl⟩:=bH.Yu B0;have ow:=w.bC;have ex:ab (ax L.v) h h5:=g4.bl.trans g5;have hL5:=ex.get ok hL (fun e=>(w.rU _ e).2.2.2.2 rfl);have lo:∀x,ax L.v x->h0.next<=x:=fun x hx=>w.acc.of hx;have Fh:ab aK h0 h5:=w.g.trans' ex (fun _ _ h=>h) (fun x hx e=>by have:=lo x e;omega);simp[hL5,f4];obtain⟨t1,h1⟩:=w.hS;obtain⟨t2,h2⟩:=w.xH;obtain⟨t3,h3⟩:=w.hF;obtain⟨t4,h4⟩:=w.hV;obtain⟨m1,m2,m3,m4,m5,m6,m7⟩:=w.ne;have gp:ab (· =Lf) h5 (put h5 Lf 0 [.slice L.a L.l L.c] [.slice W.a W.l W.c] 0):=aQ Fh.ok hL5;have kp:∀x (ob:o9),h.tr.get x=some ob->¬ax L.v x->x≠Lf->(put h5 Lf 0 [.slice L.a L.l L.c] [.slice W.a W.l W.c] 0).tr.get x=some ob:=fun x ob hx n1 n2=>gp.get Fh.ok (ex.get ok hx n1) n2;have lW:∀x,ax W.v x->h.next+1<=x:=fun x hx=>by have:=MA x hx;simp at this;omega
 refine H _ _ ⟨W,⟨Fh.put ⟨_,hL5⟩ (.inl w.n2),w.n1,w.n2,⟨t1,kp _ _ h1 (fun e=>(w.rU _ e).1 rfl) m2⟩,⟨t2,kp _ _ h2 (fun e=>(w.rU _ e).2.1 rfl) m5⟩,⟨t3,kp _ _ h3 (fun e=>(w.rU _ e).2.2.1 rfl) m6⟩,⟨t4,kp _ _ h4 (fun e=>(w.rU _ e).2.2.2.1 rfl) m7⟩,⟨h5.clock,by simp⟩,?_,w.len,?_,w.ne,fun x hx=>?_⟩,?_,fun x hx=>.inr (by have:=lW x hx;omega)⟩
 .have:=B0.grow Fh.ok gp (fun x hx e=>by have:=lW x hx;have:=ow Lf (.inr (.inr (.inr (.inr (.inl rfl)))));omega);simpa using this
 .have:Dfs.cQ ⟨s.seen,s.left++[b]⟩=Dfs.cQ s:=rfl;rw[this];simp;omega
 .have:=lW x hx;have o1:=ow S (.inl rfl);have o2:=ow sb (.inr (.inl rfl));have o3:=ow Fb (.inr (.inr (.inl rfl)));have o4:=ow V (.inr (.inr (.inr (.inl rfl))));have o5:=ow Lf (.inr (.inr (.inr (.inr (.inl rfl)))));exact⟨by omega,by omega,by omega,by omega,by omega⟩
 .exact ex.trans' gp (fun x _ h=>.inr (.inr h)) (fun x _ e=>.inr (.inl e)) |>.bU (fun _ _ h=>h)
theorem Xe{x:GB}(h:bs[b]?=some x):Dfs.row (po bs) b=x.to.map Int.toNat:=by unfold Dfs.row po;rw[tT,h];rfl
theorem AJ(E:jV bs):∀b t,t∈Dfs.row (po bs) b->t<bs.length:=by
 intro b t ht;unfold Dfs.row po at ht;rw[tT] at ht;cases hb:bs[b]? with
 |none=>rw[hb] at ht;simp at ht
 |some x=>
  rw[hb] at ht;simp at ht;obtain⟨a,ha,rfl⟩:=ht;have:=E.to x (dG hb) a ha;omega
theorem Nk{dy:List (List Nat)}{k:Nat}{ns:List Nat}{j x:Nat}(hx:ns[j]?=some x)(s:Dfs.DS):
  Dfs.foldM dy k (ns.reverse.take (ns.length-j)) s=(let s1:=Dfs.foldM dy k (ns.reverse.take (ns.length-(j+1))) s;if s1.seen[x]?=some true then s1 else Dfs.visitM dy k x s1):=by
 have hj:=(cr.mp hx).1;have e:ns.length-j=(ns.length-(j+1))+1:=by omega
 have hr:ns.reverse[ns.length-(j+1)]?=some x:=by rw[List.getElem?_reverse (by omega)];rw[<-hx];congr 1;omega
 rw[e,v9,hr];unfold Dfs.foldM;rw[List.foldl_append];rfl
section
variable{h0:ae}{bs:List GB}{B:SV}
theorem O8(oD:bm h0)(hB:CT h0 B bs)(E:jV bs)(hn:bs.length=n):∀(k b:Nat)(h:ae)(L:SV)(s:Dfs.DS),QI h0 h n S sb Fb V Lf name p r B L s->b<n->¬s.seen[b]?=some true->Dfs.cQ s<=k->
  aF FF ju [.int .i64 b,.pointer (some ⟨S,0,none⟩),.pointer (some ⟨Fb,0,none⟩),.pointer (some ⟨V,0,none⟩),.pointer (some ⟨Lf,0,none⟩)] h (fun _ h'=>Ua h0 h n S sb Fb V Lf name p r B L (Dfs.visitM (po bs) k b s) h'):=by
 intro k;induction k with
 |zero=>
  intro b h L s w hb hs hk;have:=Dfs.yP (s:=s) (b:=b) (by rw[w.len];exact hb) hs;omega
 |succ k ih=>
  intro b h L s w hb hs hk;have PS:=E.len;have ez:=SliceR.len hB;have Zg:=Dfs.yP (s:=s) (b:=b) (by rw[w.len];exact hb) hs;obtain⟨x,hx⟩:=aE bs b;have hm:=dG hx;obtain⟨t1,hS⟩:=w.hS;obtain⟨t2,xH⟩:=w.xH;obtain⟨t3,hF⟩:=w.hF;obtain⟨m1,m2,m3,m4,m5,m6,m7⟩:=w.ne;have ok:=w.g.ok;have ow:=w.bC;have KX:b+1<=s.seen.length:=by rw[w.len];omega
  refine aF.of DC ?_;rw[XK];rw[show Jx=_ from rfl];unfold Jx;simp[hS,hb,xH,KX]
  
  refine aB.cut (fun h1=>QI h0 h1 n S sb Fb V Lf name p r B L ⟨s.seen.set b true,s.left⟩/\ab (· =sb) h h1) ?_ ?_
  .have gp:ab (· =sb) h (put h sb b (zN.flat s.seen) [.bool true] 0):=aQ ok xH;have kp:∀y (ob:o9),h.tr.get y=some ob->y≠sb->(put h sb b (zN.flat s.seen) [.bool true] 0).tr.get y=some ob:=fun y ob hy n1=>gp.get ok hy n1;obtain⟨t4,hV⟩:=w.hV;obtain⟨t5,hL⟩:=w.hL;refine⟨⟨w.g.put ⟨_,xH⟩ (.inl w.n1),w.n1,w.n2,⟨t1,kp _ _ hS m1⟩,⟨h.clock,by rw[aD,Xw _ _ _ (by omega)]⟩,⟨t3,kp _ _ hF (Ne.symm m3)⟩,⟨t4,kp _ _ hV (Ne.symm m4)⟩,⟨t5,kp _ _ hL (Ne.symm m5)⟩,w.acc.grow ok gp (fun y hy e=>(w.rU y hy).2.1 e),by simp[w.len],?_,w.ne,w.rU⟩,gp⟩;have:=w.ll;show s.left.length+Dfs.cQ ⟨s.seen.set b true,s.left⟩<=n;omega
  rintro h1⟨w1,g1⟩;obtain⟨bb,off,c,kC,_,_,⟨P,L2,T,rfl,sP,sL,sT⟩,_,dj⟩:=SliceR.later oD hB hx;have r5:=dj h1 w1.g 5 1 (by decide);simp[-ag] at r5;obtain⟨t6,xX⟩:=w1.hF;simp only[aw] at xX;have xZ:=SliceR.len sT;unfold abT;rw[hn] at ez;simp only[SV.ajZ,kC,ez] at xX;simp[av xX,hb,r5,-ag];refine aG.call (V:=fun v h'=>v=.func (.func bE) #[] #[.pointer (some ⟨h1.next,0,none⟩)]/\h'=aJ h1 [T.v] 0) (by simpa using Fx h1 T) ?_;rintro _ h2⟨rfl,e2⟩;have g12:ab aK h1 h2:=by rw[e2];exact aP w1.g.ok _ _
  have ahI:h2.tr.get h1.next=some (.aC [T.v] false 0 0):=by rw[e2];exact bS _ _ _
  have hnx2:h2.next=h1.next+1:=by rw[e2];rfl
  clear e2;simp;have g2':=w1.g.trans g12;have Wo:=g2'.ok;have ow1:=w1.bC;have aij:h.next<=h1.next:=g1.next;have ob2:=Wo.bC ahI;generalize hse:(⟨s.seen.set b true,s.left⟩:Dfs.DS)=s1 at*;have aox:Dfs.cQ s1<=k:=by omega
  have aif:s1.seen.length=n:=w1.len;obtain⟨ns,hns⟩:∃ns,ns=x.to.map Int.toNat:=⟨_,rfl⟩;have apc:ns.length=x.to.length:=by rw[hns];simp
  have hltn:∀(i:Nat),T1 S sb Fb V Lf L i->i<h2.next:=fun i hi=>by have:=ow1 i hi;have:=g12.next;omega
  refine aB.Qr (g:=bE) (first:= #[]) (caps:= #[.pointer (some ⟨h1.next,0,none⟩)]) (by simp) ?_;obtain⟨e,he⟩:∃e,e=((((((((((((((((Tr.nil.set 0 (Value.int IntKind.i64 ↑b)).set 1 (Value.pointer (some { block:=S,off:=0 }))).set 2 (Value.pointer (some { block:=Fb,off:=0 }))).set 3 (Value.pointer (some { block:=V,off:=0 }))).set 4 (Value.pointer (some { block:=Lf,off:=0 }))).set 8 (Value.slice (some { block:=sb,off:=0 }) n n)).set 9 (Value.int IntKind.i64 ↑b)).set 10 (Value.pointer (some { block:=sb,off:=b }))).set 11 (Value.pointer (some { block:=Fb,off:=3 }))).set 12 (Value.slice (some { block:=bb,off:=off }) n B.c)).set 13 (Value.int IntKind.i64 ↑b)).set 14 (Value.pointer (some { block:=bb,off:=off+b*6 }))).set 15 (Value.pointer (some { block:=bb,off:=off+b*6+2 }))).set 16 (Value.pointer (some { block:=bb,off:=off+b*6+2+3 }))).set 17 (Value.slice T.a T.l T.c)).set 18 (Value.func (Fn.func bE) #[] #[Value.pointer (some { block:=h1.next,off:=0 })])):=⟨_,rfl⟩;rw[<-he];have e1:ak e 1=.pointer (some ⟨S,0,none⟩):=by rw[he];simp
  have e3:ak e 3=.pointer (some ⟨V,0,none⟩):=by rw[he];simp
  have e0:ak e 0=.int .i64 b:=by rw[he];simp
  have e4:ak e 4=.pointer (some ⟨Lf,0,none⟩):=by rw[he];simp
  clear he;have g23:ab aK h2 (h2.new (.loop e [19,20] wN th .ready)):=by
   refine⟨Nat.le_succ _,dw _,fun b hb _=>DV _ hb,⟨fun b ob hb=>?_,fun b cs ro op s hb=>?_⟩⟩
   .simp only[ae.new,Tr.az] at hb⊢;by_cases e:b=h2.next
    .omega
    .rw[aW e] at hb;exact Nat.lt_succ_of_lt (Wo.wf b ob hb)
   .simp only[ae.new,Tr.az] at hb⊢;by_cases e:b=h2.next
    .rw[aZ e] at hb;cases hb
    .rw[aW e] at hb;exact Wo.st b cs ro op s hb
  have Ye:(h2.new (.loop e [19,20] wN th .ready)).tr.get h2.next=some (.loop e [19,20] wN th .ready):=by simp[ae.new,Tr.az]
  have hnx3:(h2.new (.loop e [19,20] wN th .ready)).next=h2.next+1:=rfl
  generalize h2.new (.loop e [19,20] wN th .ready)=h3 at*;have Kv:ab aK h1 h3:=g12.trans g23;have w3:QI h0 h3 n S sb Fb V Lf name p r B L s1:=w1.mE Kv (fun _ _ h=>h) (w1.g.trans Kv);have aoe:=g23.get Wo ahI
  
  let I:Nat->ae->Prop:=fun j hh=>∃L':SV,QI h0 hh n S sb Fb V Lf name p r B L' (Dfs.foldM (po bs) k (ns.reverse.take (ns.length-j)) s1)/\(∀y,ax L'.v y->ax L.v y\/h3.next<=y)/\ab (fun y=>PW sb Lf L y\/y=h2.next) h3 hh/\hh.tr.get h2.next=some (.loop e [19,20] wN th .ready)/\hh.tr.get h1.next=some (.aC [T.v] false 0 0)
  have aee:∀L':SV,(∀y,ax L'.v y->ax L.v y\/h3.next<=y)->∀y,T1 S sb Fb V Lf L' y->y≠h2.next/\y≠h1.next:=by
   intro L' hL' y hy;have lo:∀y,T1 S sb Fb V Lf L y->y<h1.next:=ow1;rcases hy with h|h|h|h|h|h
   .have:=lo y (.inl h);omega
   .have:=lo y (.inr (.inl h));omega
   .have:=lo y (.inr (.inr (.inl h)));omega
   .have:=lo y (.inr (.inr (.inr (.inl h))));omega
   .have:=lo y (.inr (.inr (.inr (.inr (.inl h)))));omega
   .rcases hL' y h with h|h
    .have:=lo y (.inr (.inr (.inr (.inr (.inr h)))));omega
    .omega
  have BD:=Dx (h0:=h0) (h:=h3) oD (b:=h1.next) sT (by have:=E.two x hm;omega) (y:=.func (.yield h2.next) #[] #[]) I (fun j hh ⟨L',w',_,_,_,gk⟩=>⟨w'.g,0,gk⟩) ?_ ⟨L,by rw[<-apc];simpa [Dfs.foldM] using w3,fun y hy=>.inl hy,.refl w3.g.ok,Ye,aoe⟩
  .refine(by simpa using BD:aF FF bE _ _ _).mono ?_;rintro _ h4⟨L',w4,hL4,g34,Rp,D3⟩;refine vG.ready Rp ?_;refine Eq.mp (by rw[Ow];rfl) (?_:aB FF _ _ _ _);have gd:ab (· =h2.next) h4 (DL h4 h2.next):=ou w4.g.ok h2.next;have l02:h0.next<=h2.next:=g2'.next;have w5:=w4.mE gd (fun y hy e=>(aee L' hL4 y hy).1 e) (w4.g.trans' gd (fun _ _ h=>h) (fun y hy e=>by omega));have jq:Dfs.row (po bs) b=ns:=by rw[Xe hx,hns]
   have mD:ns.reverse.take (ns.length-0)=ns.reverse:=YW (by simp);rw[mD] at w5;have ac0:=Dfs.uJ (Dfs.Cw (AJ E) k) ns.reverse s1 (by rw[aif,hn]) (fun t ht=>AJ E b t (by rw[jq];exact List.mem_reverse.1 ht));have apB:s1.left=s.left:=by rw[<-hse]
   have JF:=w.ll;rw[apB] at ac0;refine aat (by omega) w5 (by omega) e0 e4 ?_;rintro e' h'⟨L2',w6,g6,NC⟩;simp;have hv:Dfs.visitM (po bs) (k+1) b s=⟨(Dfs.foldM (po bs) k ns.reverse s1).seen,(Dfs.foldM (po bs) k ns.reverse s1).left++[b]⟩:=by rw[Dfs.oQ,jq,hse]
   rw[hv];have l5:h4.next<=(DL h4 h2.next).next:=gd.next
   refine⟨L2',w6,?_,fun y hy=>?_⟩
   .have q1:ab (PW sb Lf L) h h1:=g1.bU (fun _ _ e=>.inl e);have q2:ab (PW sb Lf L) h h3:=q1.trans Kv.bl;have q3:ab (PW sb Lf L) h h4:=q2.trans' g34 (fun _ _ h=>h) (fun y hy h=>h.elim id (fun e=>by omega));have q4:ab (PW sb Lf L) h (DL h4 h2.next):=q3.trans' gd (fun _ _ h=>h) (fun y hy e=>by omega);refine q4.trans' g6 (fun _ _ h=>h) (fun y hy h=>?_);rcases h with h|h|h
    .exact .inl h
    .exact .inr (.inl h)
    .rcases hL4 y h with h|h
     .exact .inr (.inr h)
     .omega
   .rcases NC y hy with h|h
    .rcases hL4 y h with h|h
     .exact .inl h
     .exact .inr (by omega)
    .exact .inr (by have:=g34.next;omega)
  .intro j y hh hy ⟨L',w',hL',g3h,hlh,hbh⟩;have Hi:=w'.g.ok;have nL:=aee L' hL';have l3h:=g3h.next;have hyn:(ns[j]?)=some y.toNat:=by rw[hns,tT,hy];rfl
   obtain⟨TB,Aa⟩:=E.to x hm y (dG hy);obtain⟨u,rfl⟩:∃u:Nat,y=u:=⟨y.toNat,by omega⟩;rw[gP_] at hyn;have IK:u<n:=by omega
   have Cb:=Nk (dy:=po bs) (k:=k) hyn s1;generalize hsj:Dfs.foldM (po bs) k (ns.reverse.take (ns.length-(j+1))) s1=sj at*;have atv:sj.seen.length=n:=w'.len;have hfj:Dfs.cQ sj<=k:=by rw[<-hsj];exact sD (Dfs.v7 (Dfs.AL (po bs) k) _ _) aox
   obtain⟨bv,hbv⟩:=aE sj.seen u
   let K:ae->Prop:=fun h'=>∃Yz:SV,QI h0 h' n S sb Fb V Lf name p r B Yz (Dfs.foldM (po bs) k (ns.reverse.take (ns.length-j)) s1)/\(∀z,ax Yz.v z->ax L.v z\/h3.next<=z)/\h'.tr.get h1.next=some (.aC [T.v] false 0 0)
   refine(OI (S:=PW sb Lf L') (K:=K) Hi (l:=h2.next) (fun h=>?_) hlh ?_ ?_).mono ?_
   .rcases h with h|h|h
    .exact(nL sb (.inr (.inl rfl))).1 h.symm
    .exact(nL Lf (.inr (.inr (.inr (.inr (.inl rfl)))))).1 h.symm
    .exact(nL _ (.inr (.inr (.inr (.inr (.inr h)))))).1 rfl
   .unfold wN;simp;refine⟨.refl Hi,fun h5 g5=>?_⟩;have l0h:h0.next<=h2.next:=g2'.next;have w5:=w'.mE g5 (fun y hy e=>(nL y hy).1 e) (w'.g.trans' g5 (fun _ _ h=>h) (fun y hy e=>by omega));have Zc:=g5.get Hi hbh (fun e=>by omega);obtain⟨t7,hS5⟩:=w5.hS;obtain⟨t8,apC⟩:=w5.xH;obtain⟨t9,hV5⟩:=w5.hV;have rs:=aeR apC hbv;unfold th;cases bv with
    |true=>
     simp[e1,av hS5,IK,rs,-ag];refine⟨.refl w5.g.ok,L',?_,hL',Zc⟩;rw[Cb];simpa [hbv] using w5
    |false=>
     simp[e1,e3,av hS5,av hV5,IK,rs,-ag];refine aG.cU (V:=fun _ h'=>Ua h0 h5 n S sb Fb V Lf name p r B L' (Dfs.visitM (po bs) k u sj) h') ?_ ?_
     .have V1:c_ FF (.func (.func ju) #[] #[.pointer (some ⟨S,0,none⟩),.pointer (some ⟨Fb,0,none⟩),.pointer (some ⟨V,0,none⟩),.pointer (some ⟨Lf,0,none⟩)]) [.int .i64 u] h5 (fun _ h'=>Ua h0 h5 n S sb Fb V Lf name p r B L' (Dfs.visitM (po bs) k u sj) h'):=
       c_.func (by simpa using ih u h5 L' sj w5 IK (by rw[hbv];simp) hfj)
      simpa using V1
     rintro v h6⟨Yz,w6,g6,NC⟩;simp;have l5h:=g5.next;refine⟨g6,Yz,?_,fun z hz=>?_,g6.get w5.g.ok Zc (fun h=>?_)⟩
     .rw[Cb];simpa [hbv] using w6
     .rcases NC z hz with h|h
      .exact hL' z h
      .exact .inr (by omega)
     .rcases h with h|h|h
      .exact(nL sb (.inr (.inl rfl))).2 h.symm
      .exact(nL Lf (.inr (.inr (.inr (.inr (.inl rfl)))))).2 h.symm
      .exact(nL _ (.inr (.inr (.inr (.inr (.inr h)))))).2 rfl
   .rintro h5 h6⟨Yz,w6,NC,NJ⟩ ok5 g6;have l0h:h0.next<=h2.next:=g2'.next;exact⟨Yz,w6.mE g6 (fun y hy e=>(aee Yz NC y hy).1 e) (w6.g.trans' g6 (fun _ _ h=>h) (fun y hy e=>by omega)),NC,g6.get ok5 NJ (fun e=>by omega)⟩
   .rintro v h5⟨rfl,g5,hl5,Yz,w6,NC,NJ⟩;refine⟨rfl,Yz,w6,NC,?_,hl5,NJ⟩;refine g3h.trans' g5 (fun _ _ h=>h) (fun z hz h=>?_);rcases h with h|h
    .rcases h with h|h|h
     .exact .inl (.inl h)
     .exact .inl (.inr (.inl h))
     .rcases hL' z h with h|h
      .exact .inl (.inr (.inr h))
      .omega
    .exact .inr h
end
theorem jI{ws:List Int}(hW:h.tr.get W=some (.aC (bj.flat ws) ro o s)){x:Int}(hk:ws[k]?=some x):aV h W k 1=some [.int .i64 x]:=by have hl:=(cr.mp hk).1;rw[bV hW (by rw[bj.bI];show k+1<=ws.length*1;omega)];have:=bj.lx ws k 0 1 x hk (by decide);simp only[Nu] at this;rw[show k=k*bj.sz from(Nat.mul_one k).symm,this];rfl
theorem oO(ws:List Int)(i:Nat)(x:Int)(h:i<ws.length):aH (bj.flat ws) i [.int .i64 x]=bj.flat (ws.set i x):=by have:=bj.eD ws i x h;simpa using this
def pJ(bs:List GB):List Int:=(Dfs.ly (po bs) bs.length).map fun x:Nat=>(x:Int)
theorem DP(n:Nat):Dfs.cQ ⟨List.replicate n false,[]⟩=n:=by
 unfold Dfs.cQ;dsimp only;induction n with
 |zero=>rfl
 |succ n ih=>rw[List.replicate_succ,List.countP_cons,ih];rfl
theorem Hp(ok:bm h){name:ByteArray}{p r:Int}(hB:CT h B bs)(E:jV bs)(h0:0<bs.length):
  aF FF Am [.agg ⟨aw name p r B⟩] h (fun v h'=>ab aK h h'/\∃L:SV,v=L.v/\bH bj h.next h' L.v (pJ bs)):=by
 have ez:=SliceR.len hB;have hl:=E.len;have r1:roomy bs.length=true:=by simp[roomy];omega
 have r2:roomy (bs.length*1)=true:=by simp[roomy];omega
 have hr:jP [Value.bool false] bs.length=zN.flat (List.replicate bs.length false):=by
  have:∀n,jP [Value.bool false] n=zN.flat (List.replicate n false):=by
   intro n;induction n with
   |zero=>rfl
   |succ n ih=>rw[List.replicate_succ,Enc.eL,<-ih];rfl
  exact this _
 refine aF.of HS ?_;unfold zy;simp[aw,ez,r1,hr];refine aG.cut (fun h1=>QI h h1 bs.length (h.next+3) (h.next+2) h.next (h.next+4) (h.next+1) name p r B d_ ⟨List.replicate bs.length false,[]⟩) ?_ ?_
 .refine⟨?_,by omega,by omega,⟨h.clock,?_⟩,⟨0,?_⟩,⟨0,?_⟩,⟨h.clock+1,?_⟩,⟨0,?_⟩,.inl ⟨rfl,rfl⟩,by simp,by simp[DP],by omega,fun b ⟨_,_,_,e⟩=>by cases e⟩
  .repeat (first|exact .refl ok|apply ab.new|refine ab.put ?_ (by simp[BW]) (.inl (by omega)))
  .simp[BW]
  .simp[BW]
  .simp[BW,aw,ez]
  .simp[BW]
  .simp[BW,d_]
 intro h1 w;obtain⟨t4,hV⟩:=w.hV;have lV:=(w.g.ok.bC hV).lt;refine aG.cU (V:=fun _ h'=>Ua h h1 bs.length (h.next+3) (h.next+2) h.next (h.next+4) (h.next+1) name p r B d_ (Dfs.visitM (po bs) bs.length 0 ⟨List.replicate bs.length false,[]⟩) h') ?_ ?_
 .have V1:=O8 ok hB E rfl bs.length 0 h1 d_ _ w h0 (by simp[UN]) (by rw[DP];exact dw _);have V2:c_ FF (.func (.func ju) #[] #[.pointer (some ⟨h.next+3,0,none⟩),.pointer (some ⟨h.next,0,none⟩),.pointer (some ⟨h.next+4,0,none⟩),.pointer (some ⟨h.next+1,0,none⟩)]) [.int .i64 0] h1 _:=c_.func (by simpa using V1);simpa using V2
 rintro v h2⟨L,w2,g2,_⟩;obtain⟨t5,hL⟩:=w2.hL;simp at hL;simp[hL];exact⟨w2.g,L,⟨rfl,rfl,rfl⟩,w2.acc⟩
def amf(n0 b:Nat)(h:ae)(xs:List Int)(m:Nat)(e:Env)(h2:ae):Prop:=
 ∃(i:Nat) (ys:List Int),m=xs.length-i/\i<=xs.length/\ak e 0=.slice (some ⟨b,0,none⟩) xs.length xs.length/\ak e 2=.int .i64 i/\ak e 3=.int .i64 ((xs.length:Int)-1-i)/\ab (· =b) h h2/\(∃s,h2.tr.get b=some (.aC (bj.flat ys) false 1 s))/\ys.length=xs.length/\
  ∀k,k<xs.length->ys[k]?=if k<i\/xs.length<=k+i then xs[xs.length-1-k]? else xs[k]?
theorem Jd(ok:bm h){n0:Nat}{xs:List Int}(a:bH bj n0 h L.v xs)(hl:xs.length<1000000):
  aF FF kn [L.v] h (fun _ h'=>ab (ax L.v) h h'/\bH bj n0 h' L.v xs.reverse):=by
 have w:=wrap_i64 ((xs.length:Int)-1) (by omega) (by omega);refine aF.of tp ?_;unfold ke;rcases a with⟨rfl,e⟩|⟨b,s,e,hb,hx,hn⟩
 .have w0:IntKind.i64.wrap (0-1)= -1:=wrap_i64 _ (by omega) (by omega);have w0':IntKind.i64.wrap (-1)= -1:=wrap_i64 _ (by omega) (by omega);rw[e];simp[w0,w0'];rw[nz];unfold fx;simp;exact⟨.refl ok,.inl ⟨rfl,rfl⟩⟩
 .rw[e];simp[w];refine aB.loop (amf n0 b h xs) ?_ (n:=xs.length) ⟨0,xs,rfl,by omega,by simp,by simp,by simp,.refl ok,⟨s,hb⟩,rfl,fun k hk=>by rw[aW (by omega)]⟩;rintro m e2 h2⟨i,ys,rfl,hi,f0,f2,f3,g2,⟨s2,cA⟩,Aa,PV⟩;unfold fx;by_cases wq:(i:Int)<(xs.length:Int)-1-i
  .obtain⟨j,hj⟩:∃j:Nat,(j:Int)=(xs.length:Int)-1-i:=⟨xs.length-1-i,by omega⟩;have aS:j<xs.length:=by omega
   have gY:i<xs.length:=by omega
   rw[<-hj] at f3;have ah3:i<j:=by omega
   obtain⟨x,hx1⟩:=aE ys i;obtain⟨y,hy1⟩:=aE ys j;have rx:=jI cA hx1;have ry:=jI cA hy1;have wi:=wrap_i64 ((i:Int)+1) (by omega) (by omega);have wj:=wrap_i64 ((j:Int)-1) (by omega) (by omega);have k1:i+1<=ys.length:=by omega
   have k2:j+1<=ys.length:=by omega
   have sp1:aH (bj.flat ys) i [.int .i64 y]=bj.flat (ys.set i y):=oO _ _ _ (by omega);have Xu:aH (bj.flat (ys.set i y)) j [.int .i64 x]=bj.flat ((ys.set i y).set j x):=oO _ _ _ (by simp;omega);simp[f0,f2,f3,ah3,aS,gY,ay,rx,ry,cA,k1,k2,wi,wj,sp1,-ag];have x4:(put (tick h2) b i (bj.flat ys) [.int .i64 y] 1).tr.get b=some (.aC (bj.flat (ys.set i y)) false 1 (tick h2).clock):=by rw[aD,sp1]
   have g3:ab (· =b) h (put (tick h2) b i (bj.flat ys) [.int .i64 y] 1):=g2.tick.trans (aQ g2.tick.ok cA);refine⟨xs.length-(i+1),by omega,i+1,(ys.set i y).set j x,rfl,by omega,by simp[f0],by simp,by simp;omega,g3.trans (aQ g3.ok x4),⟨_,by rw[aD,Xu]⟩,by simp[Aa],fun k hk=>?_⟩;rw[fg,fg];have hyi:=PV i gY;have hyj:=PV j aS;rw[aW (by omega)] at hyi hyj;by_cases e1:j=k
   .subst e1;rw[aZ rfl,aZ (by simp;omega),aZ (by omega),<-hx1,hyi];congr 1;omega
   .rw[aW e1];by_cases e2:i=k
    .subst e2;rw[aZ rfl,aZ (by omega),aZ (by omega),<-hy1,hyj];congr 1;omega
    .rw[aW e2,PV k hk];by_cases c:k<i\/xs.length<=k+i
     .rw[aZ c,aZ (by omega)]
     .rw[aW c,aW (by omega)]
  .simp[f2,f3,wq];have e:ys=xs.reverse:=by
    refine zS fun k=>?_;by_cases hk:k<xs.length
    .rw[List.getElem?_reverse hk,PV k hk];split
     .rfl
     .congr 1;omega
    .rw[tS (by omega),tS (by simp;omega)]
   refine⟨g2.bU (fun x _ e=>e▸⟨_,_,_,rfl⟩),.inr ⟨b,s2,by simp,by rw[<-e];exact cA,by simpa using hx,hn⟩⟩
theorem EG(ok:bm h){name:ByteArray}{p r:Int}(hB:CT h B bs)(E:jV bs)(h0:0<bs.length):
  aF FF pb [.agg ⟨aw name p r B⟩] h (fun v h'=>ab aK h h'/\∃L:SV,v=L.v/\bH bj h.next h' L.v (pJ bs).reverse):=by
 refine aF.of CD ?_;unfold va;simp[aw];have g0:=aP ok (aw name p r B) 0;refine aG.call (V:=fun v h'=>ab aK (aJ h (aw name p r B) 0) h'/\∃L:SV,v=L.v/\bH bj (h.next+1) h' L.v (pJ bs)) (by simpa [aw] using Hp g0.ok (name:=name) (p:=p) (r:=r) (hB.mono ok g0) E h0) ?_;rintro _ h1⟨g1,L,rfl,hA⟩;have gg:=g0.trans g1;have bY:(pJ bs).length<1000000:=by
  have P:=Dfs.xh h0 (AJ E);have:(Dfs.ly (po bs) bs.length).length<=bs.length:=by have:=gK_ P.1 (l₂:=List.range bs.length) (fun x hx=>Kw.2 (P.2.1 x hx));simpa using this
  have:=E.len;unfold pJ;simp;omega
 simp;refine aG.call (V:=fun _ h'=>ab (ax L.v) h1 h'/\bH bj (h.next+1) h' L.v (pJ bs).reverse) (by simpa using Jd gg.ok hA bY) ?_;rintro _ h2⟨g2,KA⟩;simp;refine⟨gg.trans' g2 (fun _ _ h=>h) (fun x hx e=>by have:=hA.of e;omega),L,⟨rfl,rfl,rfl⟩,?_⟩;rcases KA with a|⟨b,s,e,hb,hx,hn⟩
 .exact .inl a
 .exact .inr ⟨b,s,e,hb,hx,by omega⟩
end Go.Proofs.YtdhnndleffachaaGreatDoor
namespace Go.AI.Dom
variable{A B u:Nat->Nat}{b i k x y:Nat}
inductive cT(u:Nat->Nat):Nat->Nat->Prop
 |refl (x:Nat):cT u x x
 |step {x y:Nat} :cT u (u x) y->cT u x y
structure Down(u:Nat->Nat):Prop where
 zero:u 0=0
 lt:∀i,0<i->u i<i
theorem cT.trans{x y z:Nat}(h:cT u x y)(k:cT u y z):cT u x z:=by
 induction h with
 |refl=>exact k
 |step _ ih=>exact .step (ih k)
theorem cT.le(d:Down u)(h:cT u x y):y<=x:=by
 induction h with
 |refl=>exact dw _
 | @step x y _ ih=>
  rcases ve x with rfl|hx
  .rw[d.zero] at ih;exact ih
  .have:=d.lt x hx;omega
theorem cT.up{u:Nat->Nat}{x y:Nat}(h:cT u x y)(hn:x≠y):cT u (u x) y:=by
 cases h with
 |refl=>exact absurd rfl hn
 |step h=>exact h
theorem cT.local{u v:Nat->Nat}(d:Down u)(e:∀i,i<b->u i=v i)(h:cT u x y)(hx:x<b):cT v x y:=by
 induction h with
 |refl=>exact .refl _
 | @step x y _ ih=>
  refine .step ?_;rw[<-e x hx];refine ih ?_;rcases ve x with rfl|h0
  .rw[d.zero];exact hx
  .have:=d.lt x h0;omega
def mix(A B:Nat->Nat)(b i:Nat):Nat:=if i<b then B i else A i
theorem Wh(h:i<b):mix A B b i=B i:=aZ h
theorem Ok(h:¬i<b):mix A B b i=A i:=aW h
theorem Down.mix{A B:Nat->Nat}(a:Down A)(b:Down B)(k:Nat):Down (mix A B k):=by
 refine⟨?_,fun i hi=>?_⟩
 .unfold Dom.mix;split
  .exact b.zero
  .exact a.zero
 .unfold Dom.mix;split
  .exact b.lt i hi
  .exact a.lt i hi
theorem r9(a:Down A)(b:Down B)(hx:x<k):cT (mix A B k) x y↔cT B x y:=
 ⟨fun h=>h.local (a.mix b k) (fun i hi=>Wh hi) hx,fun h=>h.local b (fun i hi=>(Wh hi).symm) hx⟩
theorem Kq(a:Down A)(hb:0<b):∀w,∃q,q<b/\cT A w q/\∀B,cT (mix A B b) w q/\∀x,x<b->cT (mix A B b) w x->cT (mix A B b) q x:=by
 intro w;induction w using Nat.strongRecOn with
 |ind w ih=>
  by_cases h:w<b
  .exact⟨w,h,.refl _,fun B=>⟨.refl _,fun _ _ h=>h⟩⟩
  .have hw:0<w:=by omega
   obtain⟨q,h1,h2,h3⟩:=ih (A w) (a.lt w hw);refine⟨q,h1,.step h2,fun B=>?_⟩;obtain⟨h4,h5⟩:=h3 B;refine⟨.step (by rw[Ok h];exact h4),fun x hx hA=>?_⟩;have:=hA.up (by omega);rw[Ok h] at this;exact h5 x hx this
section
variable(m:Nat)(td:Nat->List Nat)
def Round(A B:Nat->Nat):Prop:=∀b,0<b->b<m->(∀w∈td b,cT (mix A B b) w (B b))/\∀z,(∀w∈td b,cT (mix A B b) w z)->cT (mix A B b) (B b) z
def T7(B:Nat->Nat):Prop:=∀b,0<b->b<m->(∀w∈td b,w<b->cT B w (B b))/\∀z,(∀w∈td b,w<b->cT B w z)->cT B (B b) z
def tK(A B:Nat->Nat):Prop:=∀p,0<p->p<m->cT B (A p) (B p)
end
section
variable{m:Nat}{td:Nat->List Nat}{A B C:Nat->Nat}
theorem tK.mono(dA:Down A)(dB:Down B)(W:∀p,0<p->p<k->cT B (A p) (B p)):∀w,w<k->∀x,cT B w x->cT A w x:=by
 intro w;induction w using Nat.strongRecOn with
 |ind w ih=>
  intro hw x hx;by_cases e:w=x
  .subst e;exact .refl _
  .rcases ve w with rfl|h0
   .have:=hx.le dB;omega
   .have h1:=hx.up e;have h2:=(W w h0 hw).trans h1;exact .step (ih (A w) (dA.lt w h0) (by have:=dA.lt w h0;omega) x h2)
theorem tK.below(dA:Down A)(dB:Down B)(W:∀p,0<p->p<k->cT B (A p) (B p))(hb:0<b):∀p,p<k->∃q,q<b/\cT A p q/\cT (mix A B b) p q/\∀x,x<b->cT B p x->cT B q x:=by
 intro p;induction p using Nat.strongRecOn with
 |ind p ih=>
  intro hp;by_cases h:p<b
  .exact⟨p,h,.refl _,.refl _,fun _ _ h=>h⟩
  .have h0:0<p:=by omega
   have hl:=dA.lt p h0;obtain⟨q,h1,h2,h3,h4⟩:=ih (A p) hl (by omega);refine⟨q,h1,.step h2,.step (by rw[Ok h];exact h3),fun x hx hB=>?_⟩;exact h4 x hx ((W p h0 hp).trans (hB.up (by omega)))
theorem tK.over(dB:Down B)(W:∀p,0<p->p<k->cT C (B p) (C p)):∀w,w<k->∀u,cT B w u->∀x,x<=u->cT C w x->cT C u x:=by
 intro w;induction w using Nat.strongRecOn with
 |ind w ih=>
  intro hw u hu x hx hC;by_cases e:w=u
  .subst e;exact hC
  .have hle:=hu.le dB;have h0:0<w:=by omega
   have hl:=dB.lt w h0;exact ih (B w) hl (by omega) u (hu.up e) x hx ((W w h0 hw).trans (hC.up (by omega)))
theorem EU(dA:Down A)(dB:Down B)(dC:Down C)(hf:∀b,0<b->b<m->∃w∈td b,w<b)(hp:∀b w,w∈td b->w<m)(hAB:T7 m td B\/(Round m td A B/\tK m A B))(hBC:Round m td B C):tK m B C:=by
 intro p;induction p using Nat.strongRecOn with
 |ind p ih=>
  intro h0 Fm;have W:∀q,0<q->q<p->cT C (B q) (C q):=fun q hq hqp=>ih q hqp hq (by omega);have mono:=tK.mono dB dC W;obtain⟨c1,_⟩:=hBC p h0 Fm;have hx:=dC.lt p h0;have hu:=dB.lt p h0
  
  have hB:cT B (B p) (C p):=by
   rcases hAB with h|⟨h,hW⟩
   .refine(h p h0 Fm).2 _ fun w hw VF=>?_;exact mono w VF _ ((r9 dB dC VF).1 (c1 w hw))
   .refine(r9 dA dB hu).1 ((h p h0 Fm).2 _ fun w hw=>?_);by_cases VF:w<p
    .exact(r9 dA dB VF).2 (mono w VF _ ((r9 dB dC VF).1 (c1 w hw)))
    .obtain⟨q,q1,q2,q3⟩:=Kq dB h0 w;have h1:=(q3 C).2 _ hx (c1 w hw);have h2:=mono q q1 _ ((r9 dB dC q1).1 h1);have h3:=q2.trans h2;obtain⟨r,r1,_,r3,r4⟩:=tK.below dA dB hW h0 w (hp p w hw);exact r3.trans ((r9 dA dB r1).2 (r4 _ hx h3))
  have hle:=hB.le dB;obtain⟨w,hw,VF⟩:=hf p h0 Fm;have hwu:cT B w (B p):=by
   rcases hAB with h|⟨h,_⟩
   .exact(h p h0 Fm).1 w hw VF
   .exact(r9 dA dB VF).1 ((h p h0 Fm).1 w hw)
  exact tK.over dB W w VF _ hwu _ hle ((r9 dB dC VF).1 (c1 w hw))
theorem tK.le(dB:Down B)(dA:Down A)(W:tK m A B):∀p,p<m->B p<=A p:=by
 intro p hp;rcases ve p with rfl|h0
 .rw[dB.zero,dA.zero];exact dw _
 .exact(W p h0 hp).le dB
end
def total(u:Nat->Nat):Nat->Nat
 |0=>0
 |n+1=>total u n+u n
theorem Me{u v:Nat->Nat} :∀n,(∀i,i<n->u i<=v i)->total u n<=total v n
 |0,_=>dw _
 |n+1,h=>by have:=Me n (fun i hi=>h i (by omega));have:=h n (by omega);simp only[total];omega
theorem Mf{u v:Nat->Nat} :∀n,(∀i,i<n->u i<=v i)->(∃i,i<n/\u i≠v i)->total u n<total v n
 |0,_,⟨i,hi,_⟩=>by omega
 |n+1,h,⟨i,hi,hn⟩=>by
  have h1:=Me n (fun i hi=>h i (by omega));have h2:=h n (by omega);simp only[total];by_cases e:i=n
  .subst e;omega
  .have:=Mf n (fun i hi=>h i (by omega)) ⟨i,by omega,hn⟩;omega
theorem Cu{u:Nat->Nat}{k:Nat} :∀n,(∀i,i<n->u i<=k)->total u n<=n*k
 |0,_=>by simp[total]
 |n+1,h=>by have:=Cu n (fun i hi=>h i (by omega));have:=h n (by omega);simp only[total,tw];omega
end Go.AI.Dom
namespace Go.AI.Tree
open Go.AI.Dom
variable{A V:Nat->Nat}{aO:List Nat}{ah:List (List Int)}{b i k n x y z:Nat}{p:Int}{ps us:List Int}
structure Mq(aO:List Nat)(us:List Int)(n:Nat)(V:Nat->Nat)(k:Nat):Prop where
 len:us.length=n
 set:∀(i x:Nat),aO[i]?=some x->i<k->∃y:Nat,aO[V i]?=some y/\us[x]?=some (y:Int)
 un:∀(i x:Nat),aO[i]?=some x->k<=i->us[x]?=some (-1)
 out:∀x,x<n->x∉aO->us[x]?=some (-1)
structure Ord(aO:List Nat)(n:Nat):Prop where
 nd:aO.Nodup
 lt:∀x∈aO,x<n
 zero:aO[0]?=some 0
theorem Ord.inj(o:Ord aO n){i j x:Nat}(hi:aO[i]?=some x)(hj:aO[j]?=some x):i=j:=by have h1:=(cr.mp hi).1;have h2:=(cr.mp hj).1;have e1:=(cr.mp hi).2;have e2:=(cr.mp hj).2;exact(List.getElem_inj o.nd).1 (e1.trans e2.symm)
theorem JS(d:Down V)(h:y<x)(w:Nat):(cT V x w/\cT V y w)↔(cT V (V x) w/\cT V y w):=by
 constructor
 .rintro⟨h1,h2⟩;have:=h2.le d;exact⟨h1.up (by omega),h2⟩
 .rintro⟨h1,h2⟩;exact⟨.step h1,h2⟩
def yu(aO:List Nat)(V:Nat->Nat)(k:Nat)(ps:List Int)(qv:Int):Prop:=
 (qv= -1/\∀p∈ps,∀i,i<k->¬ ∃x:Nat,aO[i]?=some x/\p=x)\/
 ∃z y:Nat,z<k/\aO[z]?=some y/\qv=y/\(∃p∈ps,∃i,i<k/\∃x:Nat,aO[i]?=some x/\p=x)/\∀w,cT V z w↔ ∀p∈ps,∀i,i<k->(∃x:Nat,aO[i]?=some x/\p=x)->cT V i w
theorem yu.nil(aO:List Nat)(V:Nat->Nat)(k:Nat):yu aO V k [] (-1):=.inl ⟨rfl,fun p hp=>by cases hp⟩
theorem yu.skip{qv p:Int}(b:yu aO V k ps qv)(hp:∀i,i<k->¬ ∃x:Nat,aO[i]?=some x/\p=x):yu aO V k (ps++[p]) qv:=by
 rcases b with⟨e,h⟩|⟨z,y,hz,hy,e,⟨q,hq,Vu⟩,h⟩
 .refine .inl ⟨e,fun q hq=>?_⟩;rcases lE.1 hq with hq|hq
  .exact h q hq
  .simp at hq;subst hq;exact hp
 .refine .inr ⟨z,y,hz,hy,e,⟨q,lE.2 (.inl hq),Vu⟩,fun w=>(h w).trans ⟨fun H q hq i hi hx=>?_,fun H q hq=>H q (lE.2 (.inl hq))⟩⟩;rcases lE.1 hq with hq|hq
  .exact H q hq i hi hx
  .simp at hq;subst hq;exact absurd hx (hp i hi)
theorem yu.one(o:Ord aO n)(b:yu aO V k ps (-1))(hi:i<k)(hx:aO[i]?=some x)(hp:p=x):yu aO V k (ps++[p]) p:=by
 rcases b with⟨_,h⟩|⟨z,y,_,_,e,_⟩
 .refine .inr ⟨i,x,hi,hx,hp,⟨p,by simp,i,hi,x,hx,hp⟩,fun w=>⟨fun H q hq j hj ⟨x',rQ,Yj⟩=>?_,fun H=>H p (by simp) i hi ⟨x,hx,hp⟩⟩⟩;rcases lE.1 hq with hq|hq
  .exact absurd ⟨x',rQ,Yj⟩ (h q hq j hj)
  .simp at hq;subst hq;have:x'=x:=by omega
   subst this;rw[o.inj rQ hx];exact H
 .omega
theorem yu.meet(o:Ord aO n){a:Nat}{m:Int}(b:yu aO V k ps (a:Int))(hx:aO[i]?=some x)(hi:i<k)(hp:p=x)(hm:∀za,aO[za]?=some a->za<k->∃z y:Nat,z<k/\aO[z]?=some y/\m=y/\∀w,cT V z w↔(cT V za w/\cT V i w)):yu aO V k (ps++[p]) m:=by
 rcases b with⟨e,h⟩|⟨z,y,hz,hy,e,⟨q,hq,Vu⟩,h⟩
 .omega
 .have:a=y:=by omega
  subst this;obtain⟨z',y',TD,C2,e',h'⟩:=hm z hy hz;refine .inr ⟨z',y',TD,C2,e',⟨q,lE.2 (.inl hq),Vu⟩,fun w=>(h' w).trans ?_⟩;rw[h w];constructor
  .rintro⟨h1,h2⟩ q hq j hj ⟨x',rQ,Yj⟩;rcases lE.1 hq with hq|hq
   .exact h1 q hq j hj ⟨x',rQ,Yj⟩
   .simp at hq;subst hq;have:x'=x:=by omega
    subst this;rw[o.inj rQ hx];exact h2
  .intro H;exact⟨fun q hq=>H q (lE.2 (.inl hq)),H p (by simp) i hi ⟨x,hx,hp⟩⟩
def kS(aO:List Nat)(ah:List (List Int))(b:Nat):List Nat:=
 (List.range aO.length).filter fun i=>match aO[i]?,aO[b]? with
  |some x,some y=>((ah[y]?).getD []).contains (x:Int)
  |_,_=>false
theorem p6(hy:aO[b]?=some y)(iI:ah[y]?=some ps) :i∈kS aO ah b↔ ∃x:Nat,aO[i]?=some x/\(x:Int)∈ps:=by
 unfold kS;rw[Ms,Kw,hy];constructor
 .rintro⟨h1,h2⟩;cases hx:aO[i]? with
  |none=>rw[hx] at h2;simp at h2
  |some x=>rw[hx] at h2;simp[iI] at h2;exact⟨x,rfl,h2⟩
 .rintro⟨x,hx,hm⟩;refine⟨(cr.mp hx).1,?_⟩;rw[hx];simpa [iI] using hm
theorem EM(b w:Nat)(h:w∈kS aO ah b):w<aO.length:=by unfold kS at h;exact Kw.1 (Ms.1 h).1
def xp(V:Nat->Nat)(i z j:Nat):Nat:=if j=i then z else V j
theorem Down.xp{V:Nat->Nat}(d:Down V){i z:Nat}(hi:0<i)(hz:z<i):Down (xp V i z):=by
 refine⟨?_,fun j hj=>?_⟩
 .unfold Tree.xp;rw[aW (by omega)];exact d.zero
 .unfold Tree.xp;split
  .omega
  .exact d.lt j hj
structure TW(aO:List Nat)(ah:List (List Int))(n:Nat)(us:List Int)(first:Bool)(A V:Nat->Nat)(i:Nat)(aR:Bool):Prop where
 rep:Mq aO us n V (if first then i else aO.length)
 dn:Down V
 bC:first=false->∀j,i<=j->V j=A j
 ajM:first=true->∀b,0<b->b<i->(∀w∈kS aO ah b,w<b->cT V w (V b))/\∀z,(∀w∈kS aO ah b,w<b->cT V w z)->cT V (V b) z
 rnd:first=false->∀b,0<b->b<i->(∀w∈kS aO ah b,cT (mix A V b) w (V b))/\∀z,(∀w∈kS aO ah b,cT (mix A V b) w z)->cT (mix A V b) (V b) z
 chg:first=false->aR=true->∃j,j<i/\V j≠A j
theorem Mq.put(o:Ord aO n)(r:Mq aO us n V k)(hx:aO[i]?=some x)(hy:aO[z]?=some y)(hk:k<=i+1)(AT:i<=k):Mq aO (us.set x (y:Int)) n (xp V i z) (i+1):=by
 have Ft:x<us.length:=by rw[r.len];exact o.lt x (dG hx)
 refine⟨by simp[r.len],fun j w hj hjk=>?_,fun j w hj hjk=>?_,fun w hw hn=>?_⟩
 .by_cases e:j=i
  .subst e;rw[hx] at hj;cases hj;exact⟨y,by rw[xp,aZ rfl,hy],by rw[fg,aZ rfl,aZ Ft]⟩
  .obtain⟨y',h1,h2⟩:=r.set j w hj (by omega);refine⟨y',by rw[xp,aW e,h1],?_⟩;rw[fg,aW (fun e'=>e (by subst e';exact o.inj hj hx)),h2]
 .have cq:¬x=w:=fun e'=>by subst e';have:=o.inj hj hx;omega
  rw[fg,aW cq];exact r.un j w hj (by omega)
 .rw[fg,aW (fun e':x=w=>hn (e'▸dG hx))];exact r.out w hw hn
theorem Mq.arx(o:Ord aO n)(r:Mq aO us n V k)(hx:aO[i]?=some x)(hy:aO[z]?=some y)(hk:i<k):Mq aO (us.set x (y:Int)) n (xp V i z) k:=by
 have Ft:x<us.length:=by rw[r.len];exact o.lt x (dG hx)
 refine⟨by simp[r.len],fun j w hj hjk=>?_,fun j w hj hjk=>?_,fun w hw hn=>?_⟩
 .by_cases e:j=i
  .subst e;rw[hx] at hj;cases hj;exact⟨y,by rw[xp,aZ rfl,hy],by rw[fg,aZ rfl,aZ Ft]⟩
  .obtain⟨y',h1,h2⟩:=r.set j w hj (by omega);refine⟨y',by rw[xp,aW e,h1],?_⟩;rw[fg,aW (fun e'=>e (by subst e';exact o.inj hj hx)),h2]
 .have cq:¬x=w:=fun e'=>by subst e';have:=o.inj hj hx;omega
  rw[fg,aW cq];exact r.un j w hj (by omega)
 .rw[fg,aW (fun e':x=w=>hn (e'▸dG hx))];exact r.out w hw hn
theorem Qc(hb:b<=i):mix A (xp V i z) b=mix A V b:=by
 funext j;unfold mix xp;by_cases h:j<b
 .rw[aZ h,aZ h,aW (by omega)]
 .rw[aW h,aW h]
theorem TW.step{aO:List Nat}{ah:List (List Int)}{n:Nat}(o:Ord aO n){us:List Int}{first aR:Bool}{A V:Nat->Nat}{i:Nat}(m:TW aO ah n us first A V i aR)(h0:0<i){x:Nat}(hx:aO[i]?=some x){ps:List Int}(iI:ah[x]?=some ps)(hf:∃w∈kS aO ah i,w<i){qv:Int}(hb:yu aO V (if first then i else aO.length) ps qv):∃y z:Nat,qv=y/\aO[z]?=some y/\TW aO ah n (us.set x qv) first A (xp V i z) (i+1) (aR||(decide (us[x]? ≠some qv))):=by
 have gY:=(cr.mp hx).1;obtain⟨w0,Tz,hw0i⟩:=hf;have hk:i<=(if first then i else aO.length):=by split<;>omega
 obtain⟨xw,hxw,Fs⟩:=(p6 hx iI).1 Tz;rcases hb with⟨e,h⟩|⟨z,y,hz,hy,rfl,_,H⟩
 .exact absurd ⟨xw,hxw,rfl⟩ (h _ Fs w0 (by omega))
 have hzi:z<i:=by have:=((H z).1 (.refl _)) _ Fs w0 (by omega) ⟨xw,hxw,rfl⟩;have:=this.le m.dn;omega
 refine⟨y,z,rfl,hy,?_⟩;have dn':Down (xp V i z):=Down.xp m.dn h0 hzi;have loc:∀w u,w<i->(cT (xp V i z) w u↔cT V w u):=fun w u hw=>⟨fun h=>h.local dn' (fun j hj=>by unfold xp;rw[aW (by omega)]) hw,fun h=>h.local m.dn (fun j hj=>by unfold xp;rw[aW (by omega)]) hw⟩;cases tx:first with
 |true=>
  have r:=m.rep;rw[tx] at r H;simp only[aZ] at r H;refine⟨?_,dn',fun h=>by simp at h,fun _ b hb0 hbi=>?_,fun h=>by simp at h,fun h=>by simp at h⟩
  .have:=r.put o hx hy (by omega) (by omega);simpa using this
  .by_cases e:b=i
   .subst e;have hV:xp V b z b=z:=by unfold xp;rw[aZ rfl]
    rw[hV];refine⟨fun w hw Zz=>?_,fun u hu=>?_⟩
    .obtain⟨x',rQ,NU⟩:=(p6 hx iI).1 hw;exact(loc w z Zz).2 (((H z).1 (.refl _)) _ NU w Zz ⟨x',rQ,rfl⟩)
    .refine(loc z u hzi).2 ((H u).2 fun p hp j hj ⟨x',rQ,hp'⟩=>?_);exact(loc j u hj).1 (hu j ((p6 hx iI).2 ⟨x',rQ,hp'▸hp⟩) hj)
   .have acX:b<i:=by omega
    have hV:xp V i z b=V b:=by unfold xp;rw[aW e]
    rw[hV];obtain⟨h1,h2⟩:=m.ajM tx b hb0 acX;have hVb:=m.dn.lt b hb0;refine⟨fun w hw Zz=>(loc w _ (by omega)).2 (h1 w hw Zz),fun u hu=>(loc _ u (by omega)).2 (h2 u fun w hw Zz=>(loc w u (by omega)).1 (hu w hw Zz))⟩
 |false=>
  have r:=m.rep;rw[tx] at r H;simp only[Nt,if_false] at r H;have bC:=m.bC tx;have ao4:mix A V i=V:=by
   funext j;unfold mix;split
   .rfl
   .exact(bC j (by omega)).symm
  refine⟨?_,dn',fun _ j hj=>?_,fun h=>by simp at h,fun _ b hb0 hbi=>?_,fun _ hm=>?_⟩
  .have:=r.arx o hx hy gY;simpa using this
  .unfold xp;rw[aW (by omega)];exact bC j (by omega)
  .by_cases e:b=i
   .subst e;have hV:xp V b z b=z:=by unfold xp;rw[aZ rfl]
    rw[hV,Qc (dw _),ao4];refine⟨fun w hw=>?_,fun u hu=>?_⟩
    .obtain⟨x',rQ,NU⟩:=(p6 hx iI).1 hw;exact((H z).1 (.refl _)) _ NU w (EM _ _ hw) ⟨x',rQ,rfl⟩
    .refine(H u).2 fun p hp j hj ⟨x',rQ,hp'⟩=>?_;exact hu j ((p6 hx iI).2 ⟨x',rQ,hp'▸hp⟩)
   .have acX:b<i:=by omega
    have hV:xp V i z b=V b:=by unfold xp;rw[aW e]
    rw[hV,Qc (by omega)];exact m.rnd tx b hb0 acX
  .by_cases hmo:aR=true
   .obtain⟨j,hj,cq⟩:=m.chg tx hmo;exact⟨j,by omega,by unfold xp;rw[aW (by omega)];exact cq⟩
   .have ao6:aR=false:=by simpa using hmo
    rw[ao6] at hm;simp only[Bool.false_or,decide_eq_true_eq] at hm;refine⟨i,by omega,?_⟩;unfold xp;rw[aZ rfl];intro e;obtain⟨y',h1,h2⟩:=r.set i x hx gY;rw[bC i (dw _),<-e,hy] at h1;cases h1;exact hm h2
def Btw(aO:List Nat)(ah:List (List Int))(V:Nat->Nat):Prop:=
 Down V/\(T7 aO.length (kS aO ah) V\/∃A,Down A/\Round aO.length (kS aO ah) A V/\tK aO.length A V)
theorem arn(o:Ord aO n):Mq aO ((List.replicate n (-1:Int)).set 0 0) n (fun i=>i-1) 1:=by
 have h0:=o.lt 0 (dG o.zero);have cq:∀x,¬x=0->x<n->((List.replicate n (-1:Int)).set 0 0)[x]?=some (-1):=by intro x hx hl;rw[fg,aW (fun e=>hx e.symm),UN,aZ hl]
 refine⟨by simp,fun i x hi hk=>?_,fun i x hi hk=>?_,fun x hx hn=>?_⟩
 .have:i=0:=by omega
  subst this;rw[o.zero] at hi;cases hi;exact⟨0,o.zero,by rw[fg,aZ rfl,aZ (by simpa using h0)];rfl⟩
 .refine cq x (fun e=>?_) (o.lt x (dG hi));subst e;have:=o.inj hi o.zero;omega
 .exact cq x (fun e=>hn (e▸dG o.zero)) hx
theorem RZ(o:Ord aO n)(A:Nat->Nat)(aR:Bool):TW aO ah n ((List.replicate n (-1:Int)).set 0 0) true A (fun i=>i-1) 1 aR:=
 ⟨by simpa using arn o,⟨rfl,fun i hi=>by show i-1<i;omega⟩,fun h=>by simp at h,fun _ b h1 h2=>by omega,fun h=>by simp at h,fun h=>by simp at h⟩
theorem Wg(r:Mq aO us n A aO.length)(d:Down A):TW aO ah n us false A A 1 false:=
 ⟨by simpa using r,d,fun _ _ _=>rfl,fun h=>by simp at h,fun _ b h1 h2=>by omega,fun _ h=>by simp at h⟩
theorem TW.done{first aR:Bool}(m:TW aO ah n us first A V aO.length aR)(hA:first=false->Btw aO ah A)(hf:∀b,0<b->b<aO.length->∃w∈kS aO ah b,w<b):
  Btw aO ah V/\Mq aO us n V aO.length/\(first=false->aR=true->total V aO.length<total A aO.length):=by
 have r:=m.rep;cases tx:first with
 |true=>
  rw[tx] at r;exact⟨⟨m.dn,.inl fun b h1 h2=>m.ajM tx b h1 h2⟩,by simpa using r,fun h=>by simp at h⟩
 |false=>
  rw[tx] at r;obtain⟨dA,hb⟩:=hA tx;have R:Round aO.length (kS aO ah) A V:=fun b h1 h2=>m.rnd tx b h1 h2;have W:tK aO.length A V:=by
   rcases hb with h|⟨A',dA',h1,h2⟩
   .exact EU dA dA m.dn hf (fun b w=>EM b w) (.inl h) R
   .exact EU dA' dA m.dn hf (fun b w=>EM b w) (.inr ⟨h1,h2⟩) R
  refine⟨⟨m.dn,.inr ⟨A,dA,R,W⟩⟩,by simpa using r,fun _ hm=>?_⟩;obtain⟨j,hj,cq⟩:=m.chg tx hm;exact Mf _ (fun i hi=>tK.le m.dn dA W i hi) ⟨j,hj,cq⟩
def JO(us:List Int)(n:Nat):Prop:=us.length=n/\∃fD:Nat->Nat,(∀x,fD x<=n)/\∀(x:Nat)(v:Int),us[x]?=some v->v= -1\/∃y:Nat,v=y/\y<n/\fD y<fD x
theorem ajW(o:Ord aO n)(d:Down V)(r:Mq aO us n V aO.length)(hln:aO.length<=n):JO (us.set 0 (-1)) n:=by
 refine⟨by simp[r.len],fun x=>aO.idxOf x,fun x=>sD List.idxOf_le_length hln,fun x v hv=>?_⟩;rw[fg] at hv;by_cases e:0=x
 .rw[aZ e] at hv;split at hv
  .cases hv;exact .inl rfl
  .cases hv
 .rw[aW e] at hv;have Ft:x<n:=by have:=(cr.mp hv).1;rw[r.len] at this;exact this
  by_cases hm:x∈aO
  .obtain⟨i,hi⟩:=sv hm;have gY:=(cr.mp hi).1;obtain⟨y,h1,h2⟩:=r.set i x hi gY;rw[h2] at hv;cases hv;have h0:0<i:=by
    rcases ve i with rfl|h
    .rw[o.zero] at hi;cases hi;exact absurd rfl e
    .exact h
   have idx:∀(j z:Nat),aO[j]?=some z->aO.idxOf z=j:=by
    intro j z hj;have hz:=dG hj;have hl:=List.idxOf_lt_length_iff.2 hz;have:aO[aO.idxOf z]?=some z:=by rw[fI hl,List.getElem_idxOf hl]
    exact o.inj this hj
   refine .inr ⟨y,rfl,o.lt y (dG h1),?_⟩;dsimp only;rw[idx _ _ h1,idx _ _ hi];exact d.lt i h0
  .have:=r.out x Ft hm;rw[this] at hv;cases hv;exact .inl rfl
end Go.AI.Tree
namespace Go.Proofs.YtdhnndleffachaaGreatDoor
open Go.AI
variable{A AH B F L P T U:SV}{C I4 W X b b' bytes d d3 d4 d5 d8 i j k n n8 o pn s s1 s2 s3 s4 wc:Nat}{DS pI ps us:List Int}{QQ:aT->Env->ae->Prop}{S:Nat->Prop}{V cap κ:Nat->Nat}{aO l:List Nat}{ah:List (List Int)}{bs:List GB}{e:Env}{f:GF}{h h' h0 h1 hy:ae}{kind p r:Int}{name:ByteArray}{on:Bool×Int}{ro t t' tt:Bool}{u:GU}{v:Value}{ws:List SV}{x:GI}{xK:List GP}{z:List Value}{α β:Type}
def af_(h:ae)(aO:List Nat)(V:Nat->Nat)(k n d1 d2 x y:Nat)(m:Nat)(e:Env)(h2:ae):Prop:=
 ∃x' y' a' b':Nat,m=x'+y'/\aO[x']?=some a'/\aO[y']?=some b'/\x'<k/\y'<k/\ak e 0=.slice (some ⟨d1,0,none⟩) n n/\ak e 1=.slice (some ⟨d2,0,none⟩) n n/\ak e 2=.int .i64 a'/\ak e 3=.int .i64 b'/\ab aK h h2/\∀u,(Dom.cT V x u/\Dom.cT V y u)↔(Dom.cT V x' u/\Dom.cT V y' u)
theorem RY(ok:bm h)(o:Tree.Ord aO n)(r:Tree.Mq aO us n V k)(dn:Dom.Down V){d1 d2 o1 s1 o2 s2:Nat}{ro1 ro2:Bool}(h1:h.tr.get d1=some (.aC (bj.flat us) ro1 o1 s1))(h2:h.tr.get d2=some (.aC (bj.flat pI) ro2 o2 s2))(hla:pI.length=n)(B8:∀i x:Nat,aO[i]?=some x->pI[x]?=some (i:Int)){x y a b:Nat}(hx:aO[x]?=some a)(hy:aO[y]?=some b)(hxk:x<k)(hyk:y<k):
  aF FF Ep [.slice (some ⟨d1,0,none⟩) n n,.slice (some ⟨d2,0,none⟩) n n,.int .i64 a,.int .i64 b] h
   (fun v h'=>ab aK h h'/\∃z w:Nat,v=.int .i64 w/\z<k/\aO[z]?=some w/\∀u,Dom.cT V z u↔(Dom.cT V x u/\Dom.cT V y u)):=by
 refine aF.of M3 ?_;unfold Dv;simp;refine aB.loop (af_ h aO V k n d1 d2 x y) ?_ (n:=x+y) ⟨x,y,a,b,rfl,hx,hy,hxk,hyk,by simp,by simp,by simp,by simp,.refl ok,fun u=>Iff.rfl⟩;rintro m e h3⟨x',y',a',b',rfl,rQ,C2,adU,ai0,f0,f1,f2,f3,g3,H⟩;have q1:=g3.get ok h1;have q2:=g3.get ok h2;unfold Ay;have Bh:=o.lt a' (dG rQ);have lq:=o.lt b' (dG C2);have ra:=jI q2 (B8 x' a' rQ);have rb:=jI q2 (B8 y' b' C2);by_cases yT:a'=b'
 .subst yT;have PU:=o.inj rQ C2;subst PU;simp[f2,f3];exact⟨g3,x',a',rfl,adU,rQ,fun u=>by rw[H u];simp⟩
 .have ahz:((a':Int) !=(b':Int))=true:=by simp;omega
  have cq:x'≠y':=fun e=>yT (by subst e;rw[rQ] at C2;cases C2;rfl);by_cases dS:x'<y'
  .obtain⟨c,AQ,JD⟩:=r.set y' b' C2 ai0;have rc:=jI q1 JD;have hV:=dn.lt y' (by omega);simp[f0,f1,f2,f3,ahz,yT,Bh,lq,ra,rb,dS,rc,-ag,ay];exact⟨V y'+x',by omega,V y',x',c,a',rfl,AQ,rQ,by omega,adU,by simp[f0],by simp[f1],by simp,by simp,by first|exact g3|exact g3.tick,fun u=>by rw[H u,and_comm,Tree.JS dn dS]⟩
  .have adl:y'<x':=by omega
   obtain⟨c,AQ,JD⟩:=r.set x' a' rQ adU;have rc:=jI q1 JD;have hV:=dn.lt x' (by omega);simp[f0,f1,f2,f3,ahz,yT,Bh,lq,ra,rb,dS,rc,-ag,ay];exact⟨V x'+y',by omega,V x',y',c,b',rfl,AQ,C2,by omega,ai0,by simp[f0],by simp[f1],by simp,by simp[f3],by first|exact g3|exact g3.tick,fun u=>by rw[H u,Tree.JS dn adl]⟩
theorem HG{n0:Nat}{kV:List (List Int)}(w:jU bj n0 h d ws kV){wi:SV}{xs:List Int}(hw:ws[i]?=some wi)(hx:kV[i]?=some xs):SliceR nR 1 h wi.v xs:=by
 have a:=w.acc i wi xs hw hx;rcases a with⟨rfl,e⟩|⟨b,s',e,gk,rQ,_⟩
 .rw[e];exact⟨none,0,rfl,.inl ⟨rfl,.inl rfl⟩⟩
 .rw[e];refine⟨_,_,rfl,.inr ⟨b,0,_,_,_,_,rfl,gk,fun k x hk=>?_⟩⟩;have:=bj.lL xs k x hk;simp only[PC,Nat.mul_one] at this;rw[BX,Nat.mul_one,this];exact⟨rfl,rfl⟩
def nI(l:List Nat):List Int:=l.map fun x:Nat=>(x:Int)
theorem Qe{i x:Nat}(h:l[i]?=some x):(nI l)[i]?=some (x:Int):=by simp[nI,h]
structure TS(h0 h:ae)(n:Nat)(aO:List Nat)(pI us:List Int)(ah:List (List Int))(d3 d4 d5 d8 n8:Nat)(ws:List SV):Prop where
 g:ab aK h0 h
 n5:h0.next<=d5
 hO:∃s,h.tr.get d3=some (.aC (bj.flat (nI aO)) false 1 s)
 hA:∃s,h.tr.get d4=some (.aC (bj.flat pI) false 0 s)
 hU:∃s,h.tr.get d5=some (.aC (bj.flat us) false 0 s)
 acc:jU bj n8 h d8 ws ah
 n8:d5<n8
 ne3:d3≠d5
 ne4:d4≠d5
theorem TS.grow(w:TS h0 h n aO pI us ah d3 d4 d5 d8 n8 ws)(g:ab aK h h'):TS h0 h' n aO pI us ah d3 d4 d5 d8 n8 ws:=by obtain⟨s1,h1⟩:=w.hO;obtain⟨s2,h2⟩:=w.hA;obtain⟨s3,h3⟩:=w.hU;have ok:=w.g.ok;exact⟨w.g.trans g,w.n5,⟨s1,g.get ok h1⟩,⟨s2,g.get ok h2⟩,⟨s3,g.get ok h3⟩,w.acc.bl ok g,w.n8,w.ne3,w.ne4⟩
theorem TS.put{h0 h:ae}{n:Nat}{aO:List Nat}{pI us:List Int}{ah:List (List Int)}{d3 d4 d5 d8 n8:Nat}{ws:List SV}(w:TS h0 h n aO pI us ah d3 d4 d5 d8 n8 ws){x:Nat}(hx:x<us.length)(v:Int):TS h0 (put h d5 x (bj.flat us) [.int .i64 v] 0) n aO pI (us.set x v) ah d3 d4 d5 d8 n8 ws:=by obtain⟨s1,h1⟩:=w.hO;obtain⟨s2,h2⟩:=w.hA;obtain⟨s3,h3⟩:=w.hU;have ok:=w.g.ok;have g:ab (· =d5) h (AI.put h d5 x (bj.flat us) [.int .i64 v] 0):=aQ ok h3;refine⟨w.g.put ⟨_,h3⟩ (.inl w.n5),w.n5,⟨s1,g.get ok h1 w.ne3⟩,⟨s2,g.get ok h2 w.ne4⟩,⟨h.clock,by rw[aD,oO us x v hx]⟩,w.acc.grow ok g (fun b hb e=>by have:=w.n8;omega),w.n8,w.ne3,w.ne4⟩
def PrI(h:ae)(e:Env)(aO:List Nat)(V:Nat->Nat)(k:Nat)(ps:List Int)(m:Nat)(e':Env)(h2:ae):Prop:=
 ∃(j:Nat) (qv:Int),m=ps.length-j/\j<=ps.length/\ak e' 55=.int .i64 j/\ak e' 12=.int .i64 qv/\aA [12,14,55,56,57,58,59,60,61,62,63,64,65,66,67,68,69,70,71,72,73,74] e e'/\ab aK h h2/\Tree.yu aO V k (ps.take j) qv
theorem ae1(r:Tree.Mq aO us n V k){u:Nat}(hu:u<n):
  (us[u]?=some (-1)/\∀i,i<k->¬aO[i]?=some u)\/∃(i y:Nat),i<k/\aO[i]?=some u/\us[u]?=some (y:Int):=by
 by_cases hm:∃i,i<k/\aO[i]?=some u
 .obtain⟨i,hi,IJ⟩:=hm;obtain⟨y,_,hy⟩:=r.set i u IJ hi;exact .inr ⟨i,y,hi,IJ,hy⟩
 .refine .inl ⟨?_,fun i hi h=>hm ⟨i,hi,h⟩⟩;by_cases xG:u∈aO
  .obtain⟨i,hi⟩:=sv xG;exact r.un i u hi (by
    rcases zf i k with h|h
    .exact absurd ⟨i,h,hi⟩ hm
    .exact h)
  .exact r.out u hu xG
theorem Sw(w:TS h0 h n aO pI us ah d3 d4 d5 d8 n8 ws)(o:Tree.Ord aO n)(r:Tree.Mq aO us n V k)(dn:Dom.Down V)(hn:n<1000000)(hla:pI.length=n)(B8:∀i x:Nat,aO[i]?=some x->pI[x]?=some (i:Int)){x:Nat}{wx:SV}(hw:ws[x]?=some wx)(iI:ah[x]?=some ps)(uj:ps.length<1000000)(Fo:∀p∈ps,0<=p/\p<n)(f4:ak e 4=.slice (some ⟨d4,0,none⟩) n n)(f5:ak e 5=.slice (some ⟨d5,0,none⟩) n n)(f12:ak e 12=.int .i64 (-1))(f53:ak e 53=wx.v)(f54:ak e 54=.int .i64 ps.length)(f55:ak e 55=.int .i64 0)(C:∀e' h' qv,ab aK h h'->aA [12,14,55,56,57,58,59,60,61,62,63,64,65,66,67,68,69,70,71,72,73,74] e e'->ak e' 12=.int .i64 qv->Tree.yu aO V k ps qv->QQ (.exit 6) e' h'):
  aB FF (.loop qW) e h QQ:=by
 have ok:=w.g.ok;have sR:=HG w.acc hw iI;have K0:=SliceR.len sR;refine aB.loop (PrI h e aO V k ps) ?_ (n:=ps.length) ⟨0,-1,rfl,by omega,f55,f12,aA.refl _ _,.refl ok,by simpa using Tree.yu.nil aO V k⟩;rintro m e' h2⟨j,qv,rfl,hj,TK,lI,K,g2,hb⟩;have w2:=w.grow g2;have q4:=K.at f4;have q5:=K.at f5;have q53:=K.at f53;have Sy:=K.at f54;unfold qW;by_cases aS:j<ps.length
 .have hx:ps[j]?=some ps[j]:=fI aS;have hm:=zT aS;generalize ps[j]=p at hx hm;obtain⟨PT,N1⟩:=Fo p hm;obtain⟨u,rfl⟩:∃u:Nat,p=u:=⟨p.toNat,by omega⟩;have IK:u<n:=by omega
  obtain⟨bT,off,c,Fj,_,_,rfl,_,dj⟩:=SliceR.later ok sR hx;have r0:=dj h2 g2 0 1 (by decide);simp[-ag] at r0;have wj:=wrap_i64 ((j:Int)+1) (by omega) (by omega);obtain⟨s5,hU⟩:=w2.hU;obtain⟨s4,hA⟩:=w2.hA;have ht:ps.take (j+1)=ps.take j++[(u:Int)]:=by rw[v9,hx];rfl
  simp at q53;rw[Fj,K0] at q53;rcases ae1 r IK with⟨N8,hu2⟩|⟨i,y,hi,N8,hu2⟩
  .have ru:=jI hU N8;simp[q4,q5,q53,Sy,TK,aS,r0,IK,ru,-ag,wj];refine⟨ps.length-(j+1),by omega,j+1,qv,rfl,by omega,by simp,by simp[lI],?_,g2,?_⟩
   .repeat (refine aA.set ?_)
    exact K
   .rw[ht];exact hb.skip (fun i hi ⟨x,hx,e⟩=>hu2 i hi (by rw[hx];congr 1;omega))
  .have ru:=jI hU hu2;have TB:¬(y:Int)<0:=by omega
   rcases(show qv= -1\/∃a:Nat,qv=a by
    rcases hb with⟨e,_⟩|⟨_,a,_,_,e,_⟩
    .exact .inl e
    .exact .inr ⟨a,e⟩) with rfl|⟨a,rfl⟩
   .simp[q4,q5,q53,Sy,TK,lI,aS,r0,IK,ru,-ag,wj,TB];refine⟨ps.length-(j+1),by omega,j+1,u,rfl,by omega,by simp,by simp,?_,g2,?_⟩
    .repeat (refine aA.set ?_)
     exact K
    .rw[ht];exact hb.one o hi N8 rfl
   .have ha0:¬(a:Int)<0:=by omega
    obtain⟨za,hza,hzk⟩:∃za,aO[za]?=some a/\za<k:=by
     rcases hb with⟨e,_⟩|⟨z,a',hz,Ab,e,_⟩
     .omega
     .have:a'=a:=by omega
      subst this;exact⟨z,Ab,hz⟩
    simp[q4,q5,q53,Sy,TK,lI,aS,r0,IK,ru,-ag,TB,ha0];refine aG.call (V:=fun v h'=>ab aK h2 h'/\∃z w:Nat,v=.int .i64 w/\z<k/\aO[z]?=some w/\∀u,Dom.cT V z u↔(Dom.cT V za u/\Dom.cT V i u)) (by simpa using RY g2.ok o r dn hU hA hla B8 hza N8 hzk hi) ?_;rintro _ h3⟨g3,z,v,rfl,hz,Ab,hz3⟩;simp[wj,TK];refine⟨ps.length-(j+1),by omega,j+1,v,rfl,by omega,by simp,by simp,?_,g2.trans g3,?_⟩
    .repeat (refine aA.set ?_)
     exact K
    .rw[ht];refine hb.meet o N8 hi rfl (fun za' h1 _=>?_);rw[o.inj h1 hza];exact⟨z,v,hz,Ab,rfl,hz3⟩
 .have:j=ps.length:=by omega
  subst this;rw[we] at hb;simp[Sy,TK];exact C _ _ qv g2 (K.set) (by simp[lI]) hb
theorem Xr{x:Nat}{v:Int}(h:us[x]?=some v):us.set x v=us:=by
 refine zS fun i=>?_;rw[fg];split
 .rename_i e;subst e;rw[h,aZ (cr.mp h).1]
 .rfl
structure A0(n:Nat)(ah:List (List Int)):Prop where
 len:ah.length=n
 row:∀(x:Nat)(ps:List Int),ah[x]?=some ps->ps.length<1000000/\∀p∈ps,0<=p/\p<n
structure TC(n:Nat)(aO:List Nat)(pI:List Int)(ah:List (List Int)):Prop where
 o:Tree.Ord aO n
 nl:n<=1000
 la:pI.length=n
 at':∀i x:Nat,aO[i]?=some x->pI[x]?=some (i:Int)
 rows:A0 n ah
 hf:∀b,0<b->b<aO.length->∃w∈Tree.kS aO ah b,w<b
 ln:aO.length<=n
structure TE(n:Nat)(r d3 d4 d5 d8:Nat)(e:Env):Prop where
 f3:ak e 3=.slice (some ⟨d3,0,none⟩) r r
 f4:ak e 4=.slice (some ⟨d4,0,none⟩) n n
 f5:ak e 5=.slice (some ⟨d5,0,none⟩) n n
 f8:ak e 8=.slice (some ⟨d8,0,none⟩) n n
def RdI(h0:ae)(n:Nat)(aO:List Nat)(pI:List Int)(ah:List (List Int))(d3 d4 d5 d8 n8:Nat)(ws:List SV)(first:Bool)(A:Nat->Nat)(m:Nat)(e:Env)(h:ae):Prop:=
 ∃(j:Nat) (us:List Int) (V:Nat->Nat) (aR:Bool),m=aO.length-(j+1)/\j+1<=aO.length/\TS h0 h n aO pI us ah d3 d4 d5 d8 n8 ws/\Tree.TW aO ah n us first A V (j+1) aR/\TE n aO.length d3 d4 d5 d8 e/\
  ak e 9=.bool aR/\ak e 44=.slice (some ⟨d3,1,none⟩) (aO.length-1) (aO.length-1)/\ak e 45=.int .i64 ((aO.length-1:Nat):Int)/\ak e 46=.int .i64 j
theorem OH(w:TS h0 h n aO pI us ah d3 d4 d5 d8 n8 ws)(c:TC n aO pI ah){first aR:Bool}{A V:Nat->Nat}(hr:0<aO.length)(M:Tree.TW aO ah n us first A V 1 aR)(E:TE n aO.length d3 d4 d5 d8 e)(f9:ak e 9=.bool aR)(f44:ak e 44=.slice (some ⟨d3,1,none⟩) (aO.length-1) (aO.length-1))(f45:ak e 45=.int .i64 ((aO.length-1:Nat):Int))(f46:ak e 46=.int .i64 0)(C:∀e' h' us' V' cH,TS h0 h' n aO pI us' ah d3 d4 d5 d8 n8 ws->Tree.TW aO ah n us' first A V' aO.length cH->TE n aO.length d3 d4 d5 d8 e'->ak e' 9=.bool cH->QQ (.exit 4) e' h'):
  aB FF (.loop jz) e h QQ:=by
 have hn:=c.nl;have hln:=c.ln;refine aB.loop (RdI h0 n aO pI ah d3 d4 d5 d8 n8 ws first A) ?_ (n:=aO.length-1) ⟨0,us,V,aR,by omega,hr,w,M,E,f9,f44,f45,f46⟩;rintro m e1 h1⟨j,us1,V1,jS,rfl,hj,w1,M1,E1,q9,Jb,OC,q46⟩;have xe:=w1.g.ok;unfold jz;by_cases aS:j+1<aO.length
 .obtain⟨x,hx⟩:=aE aO (j+1) aS;have Ft:=c.o.lt x (dG hx);obtain⟨ps,iI⟩:=aE ah x (by rw[c.rows.len];exact Ft);obtain⟨wx,VG⟩:=aE ws x (by rw[w1.acc.len,c.rows.len];exact Ft);obtain⟨uj,Fo⟩:=c.rows.row x ps iI;obtain⟨s1,hO⟩:=w1.hO;obtain⟨s8,h8⟩:=w1.acc.aC;have ro:=jI hO (Qe hx);rw[Nat.add_comm] at ro;have rw8:=wJ h8 VG;have K0:=SliceR.len (HG w1.acc VG iI);have hjo:(j:Int)<((aO.length-1:Nat):Int):=by omega
  have aoO:j<aO.length-1:=by omega
  have wj:=wrap_i64 ((j:Int)+1) (by omega) (by omega);simp[-ag] at rw8;simp[Jb,OC,q46,hjo,aoO,ro,E1.f8,Ft,rw8,K0,-ag];refine Sw w1 c.o M1.rep M1.dn (by omega) c.la c.at' VG iI uj Fo (by simp[E1.f4]) (by simp[E1.f5]) (by simp) (by simp[K0]) (by simp[K0]) (by simp) ?_;intro e2 h2 qv g2 K lI hb;have w2:=w1.grow g2;obtain⟨y,z,rfl,hz,M2⟩:=M1.step c.o (Nat.succ_pos _) hx iI (c.hf (j+1) (Nat.succ_pos _) aS) hb;have k5:=K.at (t:=5) (by simp;exact E1.f5);have k11:ak e2 11=.int .i64 x:=K.at (t:=11) (by simp);have k3:=K.at (t:=3) (by simp;exact E1.f3);have k4:=K.at (t:=4) (by simp;exact E1.f4);have k8:=K.at (t:=8) (by simp;exact E1.f8);have k9:=K.at (t:=9) (by simp;exact q9);have k44:=K.at (t:=44) (by simp;exact Jb);have k45:=K.at (t:=45) (by simp;exact OC);have k46:=K.at (t:=46) (by simp;exact q46);obtain⟨s5,hU⟩:=w2.hU;have Ym:us1.length=n:=M1.rep.len;obtain⟨v,hv⟩:=aE us1 x;have ru:=jI hU hv;have rV:x+1<=us1.length:=by omega
  by_cases hvy:v=(y:Int)
  .subst hvy;rw[Xr hv] at M2;simp[k5,k11,lI,Ft,ru,wj,k46,-ag];refine⟨aO.length-(j+1+1),by omega,j+1,us1,_,jS,rfl,aS,w2,by simpa [hv] using M2,⟨?_,?_,?_,?_⟩,?_,?_,?_,?_⟩
   .simp[k3]
   .simp[k4]
   .simp[k5]
   .simp[k8]
   .simp[k9]
   .simp[k44]
   .simp[k45]
   .simp
  .have cq:(v !=(y:Int))=true:=by simpa using hvy
   simp[k5,k11,lI,Ft,ru,wj,k46,cq,hvy,hU,rV,-ag];refine⟨aO.length-(j+1+1),by omega,j+1,us1.set x (y:Int),_,true,rfl,aS,w2.put (by omega) _,by simpa [hv,hvy] using M2,⟨?_,?_,?_,?_⟩,?_,?_,?_,?_⟩
   .simp[k3]
   .simp[k4]
   .simp[k5]
   .simp[k8]
   .simp
   .simp[k44]
   .simp[k45]
   .simp
 .have hjr:j+1=aO.length:=by omega
  rw[hjr] at M1;have hjo:¬(j:Int)<((aO.length-1:Nat):Int):=by omega
  simp[OC,q46,hjo];exact C _ _ us1 V1 jS w1 M1 ⟨by simp[E1.f3],by simp[E1.f4],by simp[E1.f5],by simp[E1.f8]⟩ (by simp[q9])
def TrI(h0:ae)(n:Nat)(aO:List Nat)(pI:List Int)(ah:List (List Int))(d3 d4 d5 d8 n8:Nat)(ws:List SV)(m:Nat)(e:Env)(h:ae):Prop:=
 ∃(us:List Int) (aR:Bool),TS h0 h n aO pI us ah d3 d4 d5 d8 n8 ws/\TE n aO.length d3 d4 d5 d8 e/\ak e 9=.bool aR/\
  ((aR=true/\us=(List.replicate n (-1:Int)).set 0 0/\m=aO.length*aO.length+2)\/∃V,Tree.Btw aO ah V/\Tree.Mq aO us n V aO.length/\m=if aR then Dom.total V aO.length+1 else 0)
theorem LO(w:TS h0 h n aO pI ((List.replicate n (-1:Int)).set 0 0) ah d3 d4 d5 d8 n8 ws)(c:TC n aO pI ah)(hr:0<aO.length)(E:TE n aO.length d3 d4 d5 d8 e)(f9:ak e 9=.bool true)(C:∀e' h' us' V',TS h0 h' n aO pI us' ah d3 d4 d5 d8 n8 ws->Tree.Btw aO ah V'->Tree.Mq aO us' n V' aO.length->TE n aO.length d3 d4 d5 d8 e'->QQ (.exit 2) e' h'):
  aB FF (.loop qY) e h QQ:=by
 refine aB.loop (TrI h0 n aO pI ah d3 d4 d5 d8 n8 ws) ?_ (n:=aO.length*aO.length+2) ⟨_,true,w,E,f9,.inl ⟨rfl,rfl,rfl⟩⟩;rintro m e1 h1⟨us,aR,w1,E1,q9,hc⟩;unfold qY;cases aR with
 |false=>
  rcases hc with⟨h,_⟩|⟨V,hB,hR,rfl⟩
  .cases h
  .simp[q9];exact C _ _ us V w1 hB hR ⟨by simp[E1.f3],by simp[E1.f4],by simp[E1.f5],by simp[E1.f8]⟩
 |true=>
  have rP:1<=aO.length:=hr;obtain⟨s,hs⟩:∃s,s=aO.length-1:=⟨_,rfl⟩;have fin:∀(first:Bool)(A V:Nat->Nat),Tree.TW aO ah n us first A V 1 false->(first=false->Tree.Btw aO ah A/\m=Dom.total A aO.length+1)->(first=true->m=aO.length*aO.length+2)->aB FF (.loop jz)
    (Tr.set (Tr.set (Tr.set (Tr.set (Tr.set (Tr.set e1 42 (.bool true)) 9 (.bool false)) 43 (.slice (some ⟨d3,0,none⟩) aO.length aO.length)) 44 (.slice (some ⟨d3,1,none⟩) (aO.length-1) (aO.length-1))) 45 (.int .i64 ((aO.length-1:Nat):Int))) 46 (.int .i64 0)) h1
    (fun x e2 h2=>x=.exit 4/\∃m',m'<m/\TrI h0 n aO pI ah d3 d4 d5 d8 n8 ws m' e2 h2):=by
   intro first A V M Tq zX
   refine OH w1 c hr M ⟨by simp[E1.f3],by simp[E1.f4],by simp[E1.f5],by simp[E1.f8]⟩ (by simp) (by simp) (by simp) (by simp) ?_;intro e2 h2 us2 V2 yb w2 M2 E2 k9;refine⟨rfl,?_⟩;obtain⟨hB,hR,hT⟩:=M2.done (fun h=>(Tq h).1) c.hf;refine⟨_,?_,us2,yb,w2,E2,k9,.inr ⟨V2,hB,hR,rfl⟩⟩;have bd:Dom.total V2 aO.length<=aO.length*aO.length:=Dom.Cu _ (fun i hi=>by
    rcases ve i with rfl|h
    .rw[hB.1.zero];exact Nat.zero_le _
    .have:=hB.1.lt i h;omega)
   cases tx:first with
   |true=>have:=zX tx;split<;>omega
   |false=>
    obtain⟨_,hm⟩:=Tq tx;cases hmo:yb with
    |true=>have:=hT tx hmo;simp;omega
    |false=>simp;omega
  have H:aB FF (.loop jz)
    (Tr.set (Tr.set (Tr.set (Tr.set (Tr.set (Tr.set e1 42 (.bool true)) 9 (.bool false)) 43 (.slice (some ⟨d3,0,none⟩) aO.length aO.length)) 44 (.slice (some ⟨d3,1,none⟩) (aO.length-1) (aO.length-1))) 45 (.int .i64 ((aO.length-1:Nat):Int))) 46 (.int .i64 0)) h1
    (fun x e2 h2=>x=.exit 4/\∃m',m'<m/\TrI h0 n aO pI ah d3 d4 d5 d8 n8 ws m' e2 h2):=by
   rcases hc with⟨_,rfl,rfl⟩|⟨V,hB,hR,hm⟩
   .exact fin true (fun _=>0) _ (Tree.RZ c.o _ _) (fun h=>by cases h) (fun _=>rfl)
   .exact fin false V V (Tree.Wg hR hB.1) (fun _=>⟨hB,by simpa using hm⟩) (fun h=>by cases h)
  obtain⟨s1,hO⟩:=w1.hO;simp[q9,E1.f3,rP,hO];refine H.mono ?_;rintro x e2 h2⟨rfl,m',NU,I⟩;simp;exact⟨m',NU,I⟩
def AtI(h:ae)(n:Nat)(aO:List Nat)(d3 d4:Nat)(e:Env)(m:Nat)(e':Env)(h2:ae):Prop:=
 ∃(j:Nat) (pI:List Int),m=aO.length-j/\j<=aO.length/\ak e' 28=.int .i64 j/\aA [28,6,7,29,30,31,32,33,34,35,36,37] e e'/\ab (· =d4) h h2/\(∃s,h2.tr.get d4=some (.aC (bj.flat pI) false 0 s))/\pI.length=n/\∀i x:Nat,i<j->aO[i]?=some x->pI[x]?=some (i:Int)
theorem YD(ok:bm h)(o:Tree.Ord aO n)(hr:aO.length<=n)(hn:n<=1000){d3 d4 s3 s4 o3:Nat}(hO:h.tr.get d3=some (.aC (bj.flat (nI aO)) false o3 s3))(hA:h.tr.get d4=some (.aC (bj.flat pI) false 0 s4))(hl:pI.length=n)(cq:d3≠d4)(f4:ak e 4=.slice (some ⟨d4,0,none⟩) n n)(f26:ak e 26=.slice (some ⟨d3,0,none⟩) aO.length aO.length)(f27:ak e 27=.int .i64 aO.length)(f28:ak e 28=.int .i64 0)(C:∀e' h' LB,aA [28,6,7,29,30,31,32,33,34,35,36,37] e e'->ab (· =d4) h h'->(∃s,h'.tr.get d4=some (.aC (bj.flat LB) false 0 s))->LB.length=n->(∀i x:Nat,aO[i]?=some x->LB[x]?=some (i:Int))->QQ (.exit 0) e' h'):
  aB FF (.loop qZ) e h QQ:=by
 refine aB.loop (AtI h n aO d3 d4 e) ?_ (n:=aO.length) ⟨0,pI,rfl,by omega,f28,aA.refl _ _,.refl ok,⟨s4,hA⟩,hl,fun i x h=>by omega⟩;rintro m e' h2⟨j,pl,rfl,hj,EO,K,g2,⟨s,KA⟩,uj,B8⟩;have q4:=K.at f4;have TJ:=K.at f26;have MF:=K.at f27;unfold qZ;by_cases aS:j<aO.length
 .obtain⟨x,hx⟩:=aE aO j aS;have Ft:=o.lt x (dG hx);have hO2:=g2.get ok hO cq;have ro:=jI hO2 (Qe hx);have wj:=wrap_i64 ((j:Int)+1) (by omega) (by omega);have rV:x+1<=pl.length:=by omega
  simp[q4,TJ,MF,EO,aS,ro,Ft,KA,rV,wj,-ag];refine⟨aO.length-(j+1),by omega,j+1,pl.set x j,rfl,aS,by simp,?_,g2.trans (aQ g2.ok KA),⟨h2.clock,by rw[aD,oO pl x j (by omega)]⟩,by simp[uj],fun i y hi hy=>?_⟩
  .repeat (refine aA.set ?_)
   exact K
  .rw[fg];by_cases e:x=y
   .subst e;rw[aZ rfl,aZ (by omega),o.inj hy hx]
   .rw[aW e];by_cases e2:i=j
    .subst e2;rw[hx] at hy;cases hy;exact absurd rfl e
    .exact B8 i y (by omega) hy
 .have:j=aO.length:=by omega
  subst this;simp[MF,EO];exact C _ _ pl (K.set) g2 ⟨s,KA⟩ uj (fun i x hx=>B8 i x (cr.mp hx).1 hx)
def uf(bs:List GB):List Nat:=(Dfs.ly (po bs) bs.length).reverse
theorem Z4(bs:List GB):(pJ bs).reverse=nI (uf bs):=by simp[pJ,uf,nI,List.map_reverse]
theorem EF(E:jV bs)(h0:0<bs.length):Tree.Ord (uf bs) bs.length:=by obtain⟨h1,h2,⟨new,h3⟩,_,_⟩:=Dfs.xh h0 (AJ E);refine⟨List.pairwise_reverse.2 (h1.imp fun h=>h.symm),fun x hx=>h2 x (List.mem_reverse.1 hx),?_⟩;unfold uf;rw[h3];simp
theorem WI(E:jV bs)(h0:0<bs.length):(uf bs).length<=bs.length/\0<(uf bs).length:=by
 have o:=EF E h0;refine⟨?_,?_⟩
 .have:=gK_ o.nd (l₂:=List.range bs.length) (fun x hx=>Kw.2 (o.lt x hx));simpa using this
 .exact(cr.mp o.zero).1
theorem Pv(E:jV bs):A0 bs.length (Edge.bD (bt bs)):=by
 have hl:(bt bs).length=bs.length:=by simp[bt]
 have KY:∀ts∈bt bs,∀t∈ts,t.toNat<(bt bs).length:=by intro ts qE t ht;obtain⟨b,hb,rfl⟩:=dZ.1 qE;have:=E.to b hb t ht;rw[hl];omega
 refine⟨by rw[Edge.eQ,hl],fun x ps iI=>⟨?_,fun p hp=>?_⟩⟩
 .have h1:=Edge.ov (n:=(bt bs).length) (dy:=bt bs) (fun ts qE=>by obtain⟨b,hb,rfl⟩:=dZ.1 qE;exact E.two b hb) x (bt bs).length
  have h2:((Edge.upto (bt bs).length (bt bs) (bt bs).length)[x]?).getD []=ps:=by show((Edge.bD (bt bs))[x]?).getD []=ps;rw[iI];rfl
  rw[h2] at h1;have:=E.len;omega
 .have hm:=(Edge.w_ KY (u:=x) (x:=p)).1 (by rw[iI];exact hp);obtain⟨i,rfl,ts,ht,_⟩:=hm;have:=(cr.mp ht).1;omega
theorem Sp(E:jV bs)(h0:0<bs.length):∀b,0<b->b<(uf bs).length->∃w∈Tree.kS (uf bs) (Edge.bD (bt bs)) b,w<b:=by
 intro b hb vh;have o:=EF E h0;obtain⟨h1,h2,_,_,h5⟩:=Dfs.xh h0 (AJ E);have hl:(bt bs).length=bs.length:=by simp[bt]
 have KY:∀ts∈bt bs,∀t∈ts,t.toNat<(bt bs).length:=by intro ts qE t ht;obtain⟨b,hb,rfl⟩:=dZ.1 qE;have:=E.to b hb t ht;rw[hl];omega
 obtain⟨x,hx⟩:=aE (uf bs) b vh;have Fs:=dG hx;have IM:x≠0:=fun e=>by subst e;have:=o.inj hx o.zero;omega
 obtain⟨p,hp,l1,l2,aoS,uj⟩:=h5 x (List.mem_reverse.1 Fs) IM;obtain⟨ps,iI⟩:=aE (Edge.bD (bt bs)) x (by rw[Edge.eQ,hl];exact o.lt x Fs);have adA:uf bs=l2.reverse++x::l1.reverse:=by unfold uf;rw[aoS];simp
 obtain⟨w,hw⟩:=sv (List.mem_reverse.2 uj);have K0:=(cr.mp hw).1;have hw2:(uf bs)[w]?=some p:=by rw[adA,Ky K0,hw]
 have cA:(uf bs)[l2.reverse.length]?=some x:=by rw[adA,Mu (dw _)];simp
 have:=o.inj hx cA;refine⟨w,(Tree.p6 hx iI).2 ⟨p,hw2,?_⟩,by omega⟩;have xG:=(Edge.w_ KY (u:=x) (x:=(p:Int))).2 (by
  unfold Dfs.row po at hp;rw[tT] at hp;cases hbp:bs[p]? with
  |none=>rw[hbp] at hp;simp at hp
  |some y=>
   rw[hbp] at hp;simp at hp;obtain⟨t,ht,e⟩:=hp;exact⟨p,rfl,y.to,by simp[bt,hbp],t,ht,e.symm⟩)
 rw[iI] at xG;exact xG
def T_(h:ae)(n:Nat)(v:Value)(h':ae):Prop:=ab aK h h'/\∃d us s,v=.slice (some ⟨d,0,none⟩) n n/\h.next<=d/\h'.tr.get d=some (.aC (bj.flat us) false 0 s)/\Tree.JO us n
theorem Hy(ok:bm h){name:ByteArray}{p r:Int}(hB:CT h B bs)(E:jV bs)(h0:0<bs.length):
  aF FF Aj [.agg ⟨aw name p r B⟩] h (T_ h bs.length):=by
 have ez:=SliceR.len hB;have hl:=E.len;have r1:roomy bs.length=true:=by simp[roomy];omega
 have r2:roomy (bs.length*8)=true:=by simp[roomy];omega
 have o:=EF E h0;obtain⟨NY,ho0⟩:=WI E h0;refine aF.of HO ?_;unfold zv;simp[aw];refine aG.cut (fun h1=>ab aK h h1/\h1.tr.get h.next=some (.aC (aw name p r B) false 0 0)) ⟨(ab.refl ok).new _ _,by simp[aw]⟩ ?_;rintro h1⟨g1,hF⟩;have vf:=hF;simp[aw] at vf;refine aG.call (V:=fun v h'=>ab aK h1 h'/\∃L:SV,v=L.v/\bH bj h1.next h' L.v (pJ bs).reverse) (by simpa [aw] using EG g1.ok (name:=name) (p:=p) (r:=r) (hB.mono ok g1) E h0) ?_;rintro _ h2⟨g2,L,rfl,hA⟩;rw[Z4] at hA;rcases hA with⟨e,_⟩|⟨d3,s3,e,GN,_,hn3⟩
 .have:(nI (uf bs)).length=0:=by rw[e];rfl
  simp[nI] at this;rw[this] at ho0;simp at ho0
 have PS:(nI (uf bs)).length=(uf bs).length:=by simp[nI]
 rw[PS] at e;rw[e];have mI:=g2.get g1.ok vf;have hz:jP [Value.int .i64 0] bs.length=bj.flat (List.replicate bs.length (0:Int)):=Qp bj (0:Int) rfl _;have oF:=g2.ok.bC mI;simp[mI,ez,r1,r2,hz,oF,aN,av mI,-ag];refine aG.cut (fun h3=>ab aK h2 h3/\(∃s,h3.tr.get h2.next=some (.aC (bj.flat (List.replicate bs.length (0:Int))) false 0 s))/\(∃s,h3.tr.get (h2.next+1)=some (.aC [.int .i64 (-1)] false 0 s))/\h2.next+1<h3.next) ?_ ?_
 .exact⟨((ab.refl g2.ok).new _ _).new _ _,⟨0,by simp⟩,⟨0,by simp⟩,by simp⟩
 rintro h3⟨g3,⟨s4,h4b⟩,⟨sm1,Zk⟩,l3⟩;have xD:=g3.get g2.ok mI;refine aG.call (V:=fun v h'=>ab aK h3 h'/\∃d s,v=.slice (some ⟨d,0,none⟩) bs.length bs.length/\h3.next<=d/\h'.tr.get d=some (.aC (bj.flat (List.replicate bs.length (-1:Int))) false 0 s)) (by simpa using ES g3.ok bs.length (by omega) (x:= -1) Zk) ?_;rintro _ h5⟨g5,d5,s5,rfl,hn5,MA⟩;have hO5:=(g3.trans g5).get g2.ok GN;have B0:=g5.get g3.ok h4b;have l3':=(g2.ok.bC GN).lt;simp;refine YD g5.ok o NY hl hO5 B0 (by simp) (by omega) (by simp) (by simp) (by simp) (by simp) ?_;rintro e6 h6 pI K6 g6⟨s6,YZ⟩ uj B8;have To:=g6.get g5.ok MA (by have:=g2.ok;omega);have hO6:=g6.get g5.ok hO5 (by omega);have g56:ab aK h h6:=(((g1.trans g2).trans g3).trans g5).trans' g6 (fun _ _ h=>h) (fun x hx e=>by have:=(g1.trans g2).next;omega);have k5:ak e6 5=.slice (some ⟨d5,0,none⟩) bs.length bs.length:=K6.at (t:=5) (by simp);have k1:ak e6 1=.pointer (some ⟨h.next,0,none⟩):=K6.at (t:=1) (by simp);have k3:ak e6 3=.slice (some ⟨d3,0,none⟩) (uf bs).length (uf bs).length:=K6.at (t:=3) (by simp);have k4:ak e6 4=.slice (some ⟨h2.next,0,none⟩) bs.length bs.length:=K6.at (t:=4) (by simp);have hF6:=g6.get g5.ok (g5.get g3.ok xD) (by have:=g2.next;have:=(g1.ok.bC vf).lt;omega);have Ym:(1:Nat)<=bs.length:=h0;have oF6:=g56.ok.bC hF6;have nF:¬h.next=d5:=by have:=(g1.ok.bC vf).lt;have:=g2.next;omega
 simp[k5,h0,To,k1,Ym,aX nF,av hF6,-ag,ez];have sp0:=oO (List.replicate bs.length (-1)) 0 0 (by simpa using h0);refine aG.cut (fun h7=>ab (· =d5) h6 h7/\∃s,h7.tr.get d5=some (.aC (bj.flat ((List.replicate bs.length (-1:Int)).set 0 0)) false 0 s)) ?_ ?_
 .exact⟨aQ g56.ok To,h6.clock,by rw[aD,sp0]⟩
 rintro h7⟨g7,s7,XV⟩;have hO7:=g7.get g56.ok hO6 (by omega);have hA7:=g7.get g56.ok YZ (by omega);have g07:ab aK h h7:=g56.trans' g7 (fun _ _ h=>h) (fun x hx e=>by have:=(g1.trans g2).next;omega);refine aG.call (V:=fun v h'=>ab aK h7 h'/\∃d ws,v=.slice (some ⟨d,0,none⟩) bs.length bs.length/\jU bj h7.next h' d ws (Edge.bD (bt bs))) (by simpa [aw,ez] using oo g07.ok (name:=name) (p:=p) (r:=r) (hB.mono ok g07) E) ?_;rintro _ h8⟨g8,d8,ws,rfl,w8⟩;have hU8:=g8.get g07.ok XV;have hO8:=g8.get g07.ok hO7;have hA8:=g8.get g07.ok hA7;have l5:=(g07.ok.bC XV).lt;have W:TS h h8 bs.length (uf bs) pI ((List.replicate bs.length (-1:Int)).set 0 0) (Edge.bD (bt bs)) d3 h2.next d5 d8 h7.next ws:=
  ⟨g07.trans g8,by have:=(g1.trans g2).next;omega,⟨s3,hO8⟩,⟨s6,hA8⟩,⟨s7,hU8⟩,w8,l5,by omega,by omega⟩
 have c:TC bs.length (uf bs) pI (Edge.bD (bt bs)):=⟨o,hl,uj,B8,Pv E,Sp E h0,NY⟩;simp;refine LO W c ho0 ⟨by simp[k3],by simp[k4],by simp[k5],by simp⟩ (by simp) ?_;rintro e9 h9 us V W9 hBt hR E9;obtain⟨s9,hU9⟩:=W9.hU;have apP:1<=us.length:=by rw[hR.len];exact h0
 have sp9:=oO us 0 (-1) (by omega);simp[E9.f5,h0,hU9,apP];refine⟨W9.g.put ⟨_,hU9⟩ (.inl W9.n5),d5,us.set 0 (-1),h9.clock,rfl,W9.n5,by rw[aD,sp9],Tree.ajW o hBt.1 hR NY⟩
def ky(x:GI):List (Bool×Int):=(if(cz x.op).2.1 then [x.a] else [])++((if(cz x.op).2.2 then [x.b] else [])++x.args)
def qC(x:GI)(A:SV):List Value:=aI x.op x.dst x.a.1 x.a.2 x.b.1 x.b.2 x.fn A.v
theorem Tb(h:ae)(x:GI)(A:SV):aF FF Ch [.agg ⟨qC x A⟩] h (fun v h'=>v=.func (.func km) #[] #[.pointer (some ⟨h.next,0,none⟩)]/\h'=aJ h (qC x A) 0):=by refine aF.of JX ?_;unfold BI;simp[qC,aI]
theorem OJ(ok:bm h1){l p:Nat}{asg body:aq}{K Z:ae->Prop}(hS:¬S l)(hl:h1.tr.get l=some (.loop e [p] asg body .ready))(H:aB FF asg (Tr.set e p v) h1 (fun x e2 h2=>x=.normal/\ab aK h1 h2/\∀h3,ab (· =l) h2 h3->aB FF body e2 h3 (fun x _ h4=>ab S h3 h4/\((x=.normal/\K h4)\/(x=.ret/\Z h4)))))(hK:∀h4 h5,K h4->bm h4->ab (· =l) h4 h5->K h5)(hZ:∀h4 h5,Z h4->bm h4->ab (· =l) h4 h5->Z h5):
  c_ FF (.func (.yield l) #[] #[]) [v] h1 (fun r h5=>ab (fun x=>S x\/x=l) h1 h5/\((r=.bool true/\h5.tr.get l=some (.loop e [p] asg body .ready)/\K h5)\/(r=.bool false/\h5.tr.get l=some (.loop e [p] asg body (.done none))/\Z h5))):=by
 refine c_.yield hl (by simp[gU];rfl) ?_;refine H.mono ?_;rintro x e2 h2⟨rfl,g2,H2⟩;have sE:=g2.get ok hl;refine⟨rfl,sE,?_⟩;have gs:=jN g2.ok sE e [p] asg body .busy;refine(H2 _ gs).mono ?_;rintro x e3 h4⟨g4,hx⟩;have Rp:=g4.get gs.ok (ot h2 l e [p] asg body .busy) hS;have all:∀st,ab (fun x=>S x\/x=l) h1 (fB h4 l e [p] asg body st):=fun st=>
  ((g2.bl.trans' gs (fun _ _ h=>h) (fun _ _ h=>.inr h)).trans' g4 (fun _ _ h=>h) (fun _ _ h=>.inl h)).trans' (jN g4.ok Rp e [p] asg body st) (fun _ _ h=>h) (fun _ _ h=>.inr h)
 rcases hx with⟨rfl,k4⟩|⟨rfl,z4⟩
 .exact⟨⟨_,_,_,_,Rp,rfl,rfl,rfl,rfl⟩,all _,.inl ⟨rfl,ot _ _ _ _ _ _ _,hK _ _ k4 g4.ok (jN g4.ok Rp e [p] asg body .ready)⟩⟩
 .exact⟨⟨_,_,_,_,Rp,rfl,rfl,rfl,rfl⟩,all _,.inr ⟨rfl,ot _ _ _ _ _ _ _,hZ _ _ z4 g4.ok (jN g4.ok Rp e [p] asg body (.done none))⟩⟩
def YQ(S:Nat->Prop)(B:Nat)(K Z:ae->Prop)(h2:ae)(r:Value)(h':ae):Prop:=ab (fun b=>S b\/B<=b) h2 h'/\((r=.bool true/\K h')\/(r=.bool false/\Z h'))
def V1I(x:GI)(A:SV)(y:Value)(X B:Nat)(k:Nat)(I:Nat->Nat->ae->Prop)(m:Nat)(e:Env)(h2:ae):Prop:=
 ∃j:Nat,m=x.args.length-j/\j<=x.args.length/\ak e 0=y/\ak e 30=A.v/\ak e 31=.int .i64 x.args.length/\ak e 32=.int .i64 j/\B<=h2.next/\I B (k+j) h2
theorem OX(oD:bm h0)(hA:SliceR vR 2 h0 A.v x.args)(hl:x.args.length<2000000){y:Value}(I:Nat->Nat->ae->Prop)(S:Nat->Prop)(Z:ae->Prop)(hI:∀B j h2,I B j h2->ab aK h0 h2/\∃s,h2.tr.get X=some (.aC (qC x A) false 0 s))(C0:∀B j h2 h3,I B j h2->ab aK h2 h3->I B j h3)(hS:∀b,S b->b<h.next)(H:∀B j v h2,(ky x)[j]?=some v->B<=h2.next->h.next<B->I B j h2->c_ FF y [.agg ⟨[.bool v.1,.int .i64 v.2]⟩] h2 (YQ S B (I B (j+1)) Z h2))(g0:ab aK h0 h)(hX:∃s,h.tr.get X=some (.aC (qC x A) false 0 s))(hi:∀h1,ab aK h h1->I h1.next 0 h1):
  aF FF km [y,.pointer (some ⟨X,0,none⟩)] h (fun _ h'=>(∃B,I B (ky x).length h')\/Z h'):=by
 have B1:=SliceR.len hA;obtain⟨s0,hX⟩:=hX;have mf:=hX;simp[qC,aI] at mf;have lX:=(g0.ok.bC hX).lt;refine aF.of Fz ?_;unfold xO;simp[mf];refine aG.call (by simpa using Ct h g0.ok x.op) ?_;rintro _ h1⟨rfl,g1⟩;have yS:=g1.get g0.ok mf;have oX1:=g1.ok.bC yS;have l1:=g1.next
 
 have loop:∀(B k:Nat)(h5:ae)(e:Env)(Q:aT->Env->ae->Prop),ak e 0=y->ak e 30=A.v->ak e 31=.int .i64 x.args.length->ak e 32=.int .i64 0->B<=h5.next->h.next<B->(∀j,j<=x.args.length->(ky x)[k+j]?=x.args[j]?)->k+x.args.length=(ky x).length->I B k h5->
   (∀e' h',(∃B,I B (ky x).length h')\/Z h'->Q (.exit 0) e' h'/\Q .ret e' h')->aB FF (.loop pc) e h5 Q:=by
  intro B k h5 e Q f0 f30 f31 f32 hB Tl hv hk hi5 HQ;refine aB.loop (V1I x A y X B k I) ?_ (n:=x.args.length) ⟨0,rfl,by omega,f0,f30,f31,f32,hB,hi5⟩;rintro m e6 h6⟨j,rfl,hj,f0,f30,f31,f32,hB6,hi6⟩;unfold pc;obtain⟨g6,s6,wU⟩:=hI _ _ _ hi6;by_cases aS:j<x.args.length
  .have hx:x.args[j]?=some x.args[j]:=fI aS;generalize x.args[j]=v at hx;obtain⟨bT,off,c,Fj,_,_,rfl,oT,dj⟩:=SliceR.later oD hA hx;have r0:=dj h6 g6 0 2 (by decide);simp[-ag] at r0;have YP:=f30;simp at YP;rw[Fj,B1] at YP;have wj:=wrap_i64 ((j:Int)+1) (by omega) (by omega);simp[f0,YP,f31,f32,aS,r0,-ag,au];refine aG.cut (fun h7=>ab aK h6 h7) ((ab.refl g6.ok).var _ _) ?_;intro h7 g7;have l7:=g7.next;refine aG.cU (V:=YQ S B (I B (k+j+1)) Z h7) (by simpa [f0] using H B (k+j) v h7 (by rw[hv j hj,hx]) (by omega) Tl (C0 _ _ _ _ hi6 g7)) ?_;rintro r h8⟨g8,h|h⟩
   .obtain⟨rfl,hi8⟩:=h;simp[f32,wj];exact⟨x.args.length-(j+1),by omega,j+1,rfl,aS,by simp[f0],by simp[YP,Fj,B1],by simp[f31],by simp,by have:=g8.next;omega,by simpa [BW] using hi8⟩
   .obtain⟨rfl,hz⟩:=h;simp;exact(HQ _ _ (.inr hz)).2
  .have:j=x.args.length:=by omega
   subst this;simp[f31,f32];exact(HQ _ _ (.inl ⟨B,by rw[<-hk];exact hi6⟩)).1
 
 have hXi:∀B j h2,I B j h2->∃s,h2.tr.get X=some (.aC [.int .i64 x.op,.int .i64 x.dst,.bool x.a.1,.int .i64 x.a.2,.bool x.b.1,.int .i64 x.b.2,.int .i64 x.fn,A.v] false 0 s):=by intro B j h2 AS;obtain⟨_,s,e⟩:=hI _ _ _ AS;exact⟨s,by simpa [qC,aI] using e⟩
 cases N4:(cz x.op).2.1 with
 |true=>
  simp[yS,oX1];refine aG.cut (fun h2=>ab aK h1 h2/\(∃s,h2.tr.get h1.next=some (.aC [.bool (cz x.op).1,.bool true,.bool (cz x.op).2.2] false 0 s))) ⟨(ab.refl g1.ok).var _ _,h1.clock,by simp⟩ ?_;rintro h2⟨g2,s2,hT⟩;have lT:=g2.ok.bC hT;have lT':=lT.lt;refine aG.cU (V:=YQ S h2.next (I h2.next 1) Z h2) (by simpa using H h2.next 0 x.a h2 (by simp[ky,N4]) (dw _) (by omega) (hi h2 (g1.trans g2))) ?_;rintro r h3⟨g3,⟨rfl,Zi⟩|⟨rfl,hz⟩⟩
  .have hT3:=g3.get g2.ok hT (by rintro(h|h);exact absurd (hS _ h) (by omega);omega);obtain⟨s3,fe⟩:=hXi _ _ _ Zi;have l3:=g3.next;cases xH:(cz x.op).2.2 with
   |true=>
    rw[xH] at hT3;simp at fe;simp[hT3,fe];refine aG.cU (V:=YQ S h2.next (I h2.next 2) Z h3) (by simpa using H h2.next 1 x.b h3 (by simp[ky,N4,xH]) l3 (by omega) Zi) ?_;rintro r h4⟨g4,⟨rfl,hi4⟩|⟨rfl,hz⟩⟩
    .obtain⟨s4,vg⟩:=hXi _ _ _ hi4;simp at vg;simp[vg];refine loop h2.next 2 h4 _ _ (by simp) (by simp) (by simp[B1]) (by simp) (by have:=g4.next;omega) (by omega) (fun j _=>?_) ?_ hi4 (fun e' h' hh=>by simpa using hh)
     .simp[ky,N4,xH,Nat.add_comm 2 j]
     .simp[ky,N4,xH];omega
    .simp;exact .inr hz
   |false=>
    rw[xH] at hT3;simp at fe;simp[hT3,fe];refine loop h2.next 1 h3 _ _ (by simp) (by simp) (by simp[B1]) (by simp) (by omega) (by omega) (fun j _=>?_) ?_ Zi (fun e' h' hh=>by simpa using hh)
    .simp[ky,N4,xH,Nat.add_comm 1 j]
    .simp[ky,N4,xH];omega
  .simp;exact .inr hz
 |false=>
  cases xH:(cz x.op).2.2 with
  |true=>
   simp[yS,oX1];refine aG.cut (fun h2=>ab aK h1 h2/\h1.next<h2.next) ⟨(ab.refl g1.ok).var _ _,by simp⟩ ?_;rintro h2⟨g2,l2⟩;refine aG.cU (V:=YQ S h2.next (I h2.next 1) Z h2) (by simpa using H h2.next 0 x.b h2 (by simp[ky,N4,xH]) (dw _) (by omega) (hi h2 (g1.trans g2))) ?_;rintro r h3⟨g3,⟨rfl,Zi⟩|⟨rfl,hz⟩⟩
   .obtain⟨s3,fe⟩:=hXi _ _ _ Zi;simp at fe;simp[fe];refine loop h2.next 1 h3 _ _ (by simp) (by simp) (by simp[B1]) (by simp) g3.next (by omega) (fun j _=>?_) ?_ Zi (fun e' h' hh=>by simpa using hh)
    .simp[ky,N4,xH,Nat.add_comm 1 j]
    .simp[ky,N4,xH];omega
   .simp;exact .inr hz
  |false=>
   simp[yS,oX1];refine aB.cut (fun h2=>ab aK h1 h2/\h1.next<h2.next) ⟨(ab.refl g1.ok).var _ _,by simp⟩ ?_;rintro h2⟨g2,l2⟩;refine loop h2.next 0 h2 _ _ (by simp) (by simp) (by simp[B1]) (by simp) (dw _) (by omega) (fun j _=>?_) ?_ (hi h2 (g1.trans g2)) (fun e' h' hh=>by simpa using hh)
   .simp[ky,N4,xH]
   .simp[ky,N4,xH]
def zl(h:ae)(v:Value)(h':ae):Prop:=ab aK h h'/\∃t:Bool,v=.bool t
def amj(h:ae)(n d:Nat)(fD:Nat->Nat)(a:Int)(m:Nat)(e:Env)(h2:ae):Prop:=
 ak e 0=.slice (some ⟨d,0,none⟩) n n/\ak e 1=.int .i64 a/\ab aK h h2/\((∃x:Nat,x<n/\m=fD x+1/\ak e 2=.int .i64 x)\/(m=0/\ak e 2=.int .i64 (-1)))
theorem OL(ok:bm h)(hn:n<1000000)(hd:h.tr.get d=some (.aC (bj.flat us) ro o s))(U:Tree.JO us n)(a:Int)(hb:b<n):
  aF FF Ci [.slice (some ⟨d,0,none⟩) n n,.int .i64 a,.int .i64 b] h (zl h):=by
 obtain⟨hl,fD,_,hr⟩:=U;refine aF.of JY ?_;unfold BJ;simp;refine aB.loop (amj h n d fD a) ?_ (n:=fD b+1) ⟨by simp,by simp,.refl ok,.inl ⟨b,hb,rfl,by simp⟩⟩;rintro m e h2⟨f0,f1,g2,hx⟩;unfold ym;rcases hx with⟨x,Ft,rfl,f2⟩|⟨rfl,f2⟩
 .by_cases Yn:(x:Int)=a
  .have adT:((x:Int) !=a)=false:=by simpa using Yn
   simp[f1,f2,adT];exact⟨g2,_,rfl⟩
  .have adT:((x:Int) !=a)=true:=by simpa using Yn
   have PL:=g2.get ok hd;obtain⟨v,hv⟩:=aE us x;have rd:=jI PL hv;simp[f0,f1,f2,adT,Ft,rd,-ag];rcases hr x v hv with rfl|⟨y,rfl,hy,hyr⟩
   .exact⟨0,by omega,by simp[f0],by simp[f1],g2,.inr ⟨rfl,by simp⟩⟩
   .exact⟨fD y+1,by omega,by simp[f0],by simp[f1],g2,.inl ⟨y,hy,rfl,by simp⟩⟩
 .simp[f1,f2];exact⟨g2,_,rfl⟩
def Qu(name:ByteArray)(p r:Int)(B U W:SV):List Value:=[.string name,.int .i64 p,.int .i64 r,B.v,U.v,W.v]
theorem W8{ws:List (Int×Int)}(hW:h.tr.get W=some (.aC (tu.flat ws) ro o s)){x:Int×Int}(hk:ws[k]?=some x):∀i m,i+m<=2->aV h W (k*2+i) m=some (((tu.enc x).drop i).take m):=by intro i m zj;have hl:=(cr.mp hk).1;have:=tu.lx ws k i m x hk (by simpa using zj);rw[bV hW (by rw[tu.bI];simp;omega)];simp only[YL] at this;rw[this]
theorem Xx(ws:List (Int×Int))(i:Nat)(x:Int×Int)(h:i<ws.length):aH (tu.flat ws) (i*2) [.int .i64 x.1,.int .i64 x.2]=tu.flat (ws.set i x):=by have:=tu.eD ws i x h;simpa using this
section
variable{name:ByteArray}{p r:Int}{B U:SV}
def WrQ(h:ae)(W n k:Nat)(ws:List (Int×Int))(v:Value)(h':ae):Prop:=∃t:Bool,v=.bool t/\ab (· =W) h h'/\∃um s,h'.tr.get W=some (.aC (tu.flat um) false 0 s)/\um.length=n/\
 (t=true->(∃w,ws[k]?=some w/\w.1<0)/\(∃x,um[k]?=some x/\0<=x.1)/\∀r,r≠k->um[r]?=ws[r]?)
theorem Ph(ok:bm h){ws:List (Int×Int)}(hC:h.tr.get C=some (.aC (Qu name p r B U ⟨some ⟨W,0,none⟩,n,wc⟩) false 0 s1))(hW:h.tr.get W=some (.aC (tu.flat ws) false 0 s2))(hl:ws.length=n)(hk:k<n){i:Int}(hi:0<=i)(j:Int):
  aF FF j8 [.pointer (some ⟨C,0,none⟩),.int .i64 k,.int .i64 i,.int .i64 j] h (WrQ h W n k ws):=by
 refine aF.of xz ?_;unfold pz;simp[Qu] at hC;obtain⟨w,hw⟩:=aE ws k;have r0:=W8 hW hw 0 1 (by decide);simp[-ag] at r0;by_cases h0:0<=w.1
 .simp[hC,hk,r0,h0,-ag,av hC];exact⟨_,rfl,.refl ok,ws,s2,hW,hl,fun e=>by cases e⟩
 .have sp:=Xx ws k (i,j) (by omega);have rN:k*2+2<=ws.length*2:=by omega
  simp[hC,hk,r0,h0,-ag,av hC,hW,rN];exact⟨_,rfl,aQ ok hW,ws.set k (i,j),h.clock,by rw[aD,sp],by simp[hl],fun _=>⟨⟨w,hw,by omega⟩,⟨(i,j),List.getElem?_set_self (by omega),hi⟩,fun r hr=>List.getElem?_set_ne (Ne.symm hr)⟩⟩
theorem Of(ok:bm h){C W n wc s1 s2 s3 d nb oU:Nat}{roU:Bool}{ws:List (Int×Int)}(hC:h.tr.get C=some (.aC (Qu name p r B ⟨some ⟨d,0,none⟩,nb,nb⟩ ⟨some ⟨W,0,none⟩,n,wc⟩) false 0 s1))(hW:h.tr.get W=some (.aC (tu.flat ws) false 0 s2))(hl:ws.length=n)(hd:h.tr.get d=some (.aC (bj.flat us) roU oU s3))(hU:Tree.JO us nb)(KT:nb<1000000){v:Bool×Int}(hv:v.1=true->0<=v.2/\v.2<n)(hi:i<nb)(j:Int):
  aF FF j7 [.pointer (some ⟨C,0,none⟩),.agg ⟨[.bool v.1,.int .i64 v.2]⟩,.int .i64 i,.int .i64 j] h (zl h):=by
 refine aF.of xy ?_;unfold py;obtain⟨rg,k⟩:=v;cases rg with
 |false=>
  simp;exact⟨(ab.refl ok).new _ _,_,rfl⟩
 |true=>
  obtain⟨h0,hn⟩:=hv rfl;dsimp only at h0 hn;obtain⟨k,rfl⟩:∃k':Nat,k=k':=⟨k.toNat,by omega⟩;have hk:k<n:=by omega
  obtain⟨w,hw⟩:=aE ws k;have oC:=ok.bC hC;have oW:=ok.bC hW;have r0:=W8 hW hw 0 2 (by decide);have DZ:=hC;simp[Qu] at DZ;simp[-ag] at r0;simp[DZ,oC,oW,r0,hk,aN,iy,av DZ,ay,au,-ag];refine aB.cut (fun h2=>ab aK h h2/\∃s,h2.tr.get (h.next+1)=some (.aC [.int .i64 w.1,.int .i64 w.2] false 0 s)) ?_ ?_
  .refine⟨?_,?_⟩
   .exact((ab.refl ok).new _ _).tick.var _ _
   .exact⟨_,aD _ _ _ _ _ _⟩
  rintro h2⟨g2,s4,hR⟩;have vv:=g2.get ok DZ;have PL:=g2.get ok hd;by_cases k1:w.1<0
  .simp[hR,k1];exact⟨g2,_,rfl⟩
  .by_cases k2:w.1=(i:Int)
   .simp[hR,k1,k2];exact⟨g2,_,rfl⟩
   .have k2':(w.1==(i:Int))=false:=by simpa using k2
    have k1':0<=w.1:=by omega
    simp[hR,k1,k1',k2',vv];refine aU.call (V:=zl (tick h2)) (by simpa using OL (h:=tick h2) g2.tick.ok KT PL hU w.1 hi) ?_;rintro _ h3⟨g3,t,rfl⟩;simp;exact⟨g2.tick.trans g3,_,rfl⟩
end
def YB(t:Bool)(DS:List Int)(ws:List (Int×Int)):Prop:=t=true->DS.Nodup/\∀r∈DS,0<=r/\∃x,ws[r.toNat]?=some x/\0<=x.1
theorem YB.nil(t:Bool)(ws:List (Int×Int)):YB t [] ws:=fun _=>⟨.nil,fun r h=>by cases h⟩
theorem YB.step{t t2:Bool}{DS:List Int}{ws um:List (Int×Int)}{k:Nat}(w:YB t DS ws)(H:t2=true->(∃w,ws[k]?=some w/\w.1<0)/\(∃x,um[k]?=some x/\0<=x.1)/\∀r,r≠k->um[r]?=ws[r]?):YB (t2&&t) (DS++[(k:Int)]) um:=by
 intro e;simp only[uh] at e;obtain⟨⟨x,hx,IM⟩,⟨y,hy,TB⟩,hr⟩:=H e.1;obtain⟨n1,n2⟩:=w e.2;have hk:(k:Int)∉DS:=fun hm=>by obtain⟨_,z,hz,PX⟩:=n2 _ hm;simp only[gP_] at hz;rw[hx] at hz;cases hz;omega
 refine⟨List.nodup_append.2 ⟨n1,by simp,fun a ha b hb e=>?_⟩,fun r hm=>?_⟩
 .simp only[List.mem_singleton] at hb;exact hk (hb▸e▸ha)
 .rcases lE.1 hm with hm|hm
  .obtain⟨h0,z,hz,PX⟩:=n2 r hm;refine⟨h0,z,?_,PX⟩;rw[hr]
   .exact hz
   .intro e;exact hk (by rw[<-e,Int.toNat_of_nonneg h0];exact hm)
  .simp only[List.mem_singleton] at hm;subst hm;exact⟨by omega,y,by simpa using hy,TB⟩
structure SC(h0 h:ae)(C W n wc:Nat)(name:ByteArray)(p r:Int)(B U:SV)(t:Bool)(DS:List Int):Prop where
 g:ab aK h0 h
 n0:h0.next<=W
 ne:C≠W
 hC:∃s,h.tr.get C=some (.aC (Qu name p r B U ⟨some ⟨W,0,none⟩,n,wc⟩) false 0 s)
 hW:∃ws s,h.tr.get W=some (.aC (tu.flat ws) false 0 s)/\ws.length=n/\YB t DS ws
theorem SC.bl(w:SC h0 h C W n wc name p r B U t DS)(g:ab aK h h'):SC h0 h' C W n wc name p r B U t DS:=by obtain⟨s1,h1⟩:=w.hC;obtain⟨ws,s2,h2,hl⟩:=w.hW;exact⟨w.g.trans g,w.n0,w.ne,⟨s1,g.get w.g.ok h1⟩,ws,s2,g.get w.g.ok h2,hl⟩
theorem SC.bU(w:SC h0 h C W n wc name p r B U t DS):SC h0 h C W n wc name p r B U t' []:=by obtain⟨ws,s,a,b,_⟩:=w.hW;exact⟨w.g,w.n0,w.ne,w.hC,ws,s,a,b,YB.nil _ _⟩
theorem SC.wr{DS DS':List Int}(w:SC h0 h C W n wc name p r B U t DS)(g:ab (· =W) h h')(hW:∃ws s,h'.tr.get W=some (.aC (tu.flat ws) false 0 s)/\ws.length=n/\YB t' DS' ws):SC h0 h' C W n wc name p r B U t' DS':=by obtain⟨s1,h1⟩:=w.hC;exact⟨w.g.trans' g (fun _ _ h=>h) (fun x hx e=>by have:=w.n0;omega),w.n0,w.ne,⟨s1,g.get w.g.ok h1 w.ne⟩,hW⟩
section
variable{h0:ae}{C W n wc:Nat}{name:ByteArray}{p r:Int}{B U:SV}
def WrS(h0 h:ae)(C W n wc:Nat)(name:ByteArray)(p r:Int)(B U:SV)(t0:Bool)(DS:List Int)(k:Int)(v:Value)(h':ae):Prop:=∃t:Bool,v=.bool t/\SC h0 h' C W n wc name p r B U (t&&t0) (DS++[k])/\ab (· =W) h h'
theorem Fg{t0:Bool}(w:SC h0 h C W n wc name p r B U t0 DS){k:Int}(hk:0<=k/\k<n){i:Int}(hi:0<=i)(j:Int):
  aF FF j8 [.pointer (some ⟨C,0,none⟩),.int .i64 k,.int .i64 i,.int .i64 j] h (WrS h0 h C W n wc name p r B U t0 DS k):=by
 obtain⟨s1,h1⟩:=w.hC;obtain⟨ws,s2,h2,hl,KZ⟩:=w.hW;obtain⟨k,rfl⟩:∃k':Nat,k=k':=⟨k.toNat,by omega⟩;refine(Ph w.g.ok h1 h2 hl (k:=k) (by omega) hi j).mono ?_;rintro v h'⟨t,e,g,um,s',q1,q2,q3⟩;exact⟨t,e,w.wr g ⟨um,s',q1,q2,KZ.step q3⟩,g⟩
def amu(h0 h:ae)(C W n wc:Nat)(name:ByteArray)(p r:Int)(B U:SV)(pn:Nat)(m:Nat)(e':Env)(h':ae):Prop:=
 ∃(j:Nat) (t:Bool),m=pn-j/\j<=pn/\ak e' 0=.pointer (some ⟨C,0,none⟩)/\ak e' 15=.int .i64 pn/\ak e' 16=.int .i64 j/\ak e' 3=.bool t/\SC h0 h' C W n wc name p r B U t []/\ab (· =W) h h'
theorem Gb(w:SC h0 h C W n wc name p r B U tt [])(hp:pn<=n)(hn:n<1000000)(f0:ak e 0=.pointer (some ⟨C,0,none⟩))(f15:ak e 15=.int .i64 pn)(f16:ak e 16=.int .i64 0)(f3:∃t:Bool,ak e 3=.bool t)(K:∀e' h' t,SC h0 h' C W n wc name p r B U t []->ab (· =W) h h'->ak e' 0=.pointer (some ⟨C,0,none⟩)->ak e' 3=.bool t->QQ (.exit 0) e' h'):aB FF (.loop iv) e h QQ:=by
 obtain⟨t0,f3⟩:=f3;refine aB.loop (amu h0 h C W n wc name p r B U pn) ?_ (n:=pn) ⟨0,t0,rfl,by omega,f0,f15,f16,f3,w.bU,.refl w.g.ok⟩;rintro m e' h'⟨j,t,rfl,hj,q0,Ax,CO,q3,w',gw⟩;unfold iv;by_cases aS:j<pn
 .have wj:=wrap_i64 ((j:Int)+1) (by omega) (by omega);simp[q0,Ax,CO,aS];refine aG.call (V:=WrS h0 h' C W n wc name p r B U t [] j) (by simpa using Fg w' (k:=j) (by omega) (Int.le_refl 0) (-1)) ?_;rintro _ h2⟨t2,rfl,w2,g2⟩;cases t2 with
  |false=>
   simp[CO,wj,q3];exact⟨pn-(j+1),by omega,j+1,false,rfl,by omega,by simp[q0],by simp[Ax],by simp,by simp,w2.bU,gw.trans g2⟩
  |true=>
   simp[CO,wj,q3];exact⟨pn-(j+1),by omega,j+1,t,rfl,by omega,by simp[q0],by simp[Ax],by simp,by simp,w2.bU,gw.trans g2⟩
 .have:j=pn:=by omega
  subst this;simp[Ax,CO];exact K _ _ t w' gw (by simp[q0]) (by simp[q3])
def ams(h0 h:ae)(C W n wc:Nat)(name:ByteArray)(p r:Int)(B U:SV)(DS:List Int)(ps:List GP)(k:Nat)(e:Env)(m:Nat)(e':Env)(h':ae):Prop:=
 ∃(j:Nat) (t:Bool),m=k-j/\j<=k/\aA [41,42,43,8,44,45,46,47,48,49,50,51,3,52,40] e e'/\ak e' 40=.int .i64 j/\ak e' 3=.bool t/\SC h0 h' C W n wc name p r B U t (DS++(ps.take j).map (·.dst))/\ab (· =W) h h'
theorem Mn(oD:bm h0)(w:SC h0 h C W n wc name p r B U tt DS){ps:List GP}(hP:SliceR (pR h0) 2 h0 P.v ps)(iI:∀q∈ps,0<=q.dst/\q.dst<n)(hl:ps.length<1000000)(f0:ak e 0=.pointer (some ⟨C,0,none⟩))(f5:ak e 5=.int .i64 i)(f38:ak e 38=P.v)(f39:ak e 39=.int .i64 ps.length)(f40:ak e 40=.int .i64 0)(f3:ak e 3=.bool tt)(K:∀e' h' t,SC h0 h' C W n wc name p r B U t (DS++ps.map (·.dst))->ab (· =W) h h'->aA [41,42,43,8,44,45,46,47,48,49,50,51,3,52,40] e e'->ak e' 3=.bool t->QQ (.exit 4) e' h'):aB FF (.loop iu) e h QQ:=by
 have kj:=SliceR.len hP;refine aB.loop (ams h0 h C W n wc name p r B U DS ps ps.length e) ?_ (n:=ps.length) ⟨0,tt,rfl,by omega,aA.refl _ _,f40,f3,by simpa using w,.refl w.g.ok⟩;rintro m e' h'⟨j,t,rfl,hj,Kp,q40,q3,w',gw⟩;have q0:=Kp.at f0;have q5:=Kp.at f5;have Sx:=Kp.at f38;have q39:=Kp.at f39;unfold iu;by_cases aS:j<ps.length
 .have wj:=wrap_i64 ((j:Int)+1) (by omega) (by omega);have hx:ps[j]?=some ps[j]:=fI aS;have hm:=zT aS;generalize ps[j]=q at hx hm;obtain⟨bb,off,c,rM,_,_,⟨A,rfl,sA⟩,_,dj⟩:=SliceR.later oD hP hx;have r0:=dj h' w'.g 0 2 (by decide);simp[-ag] at r0;simp at Sx;rw[rM,kj] at Sx;simp[q0,q5,Sx,q39,q40,aS,r0,-ag,au];refine aG.cut (fun h1=>ab aK h' h1) ((ab.refl w'.g.ok).var _ _) ?_;intro h1 g1;refine aG.call (V:=WrS h0 h1 C W n wc name p r B U t (DS++(ps.take j).map (·.dst)) q.dst) (by simpa using Fg (w'.bl g1) (iI q hm) (i:=i) (by omega) (-1)) ?_;rintro _ h2⟨t2,rfl,w2,g2⟩;have tk:(ps.take (j+1)).map (·.dst)=(ps.take j).map (·.dst)++[q.dst]:=by rw[v9,hx];simp
  rw[vu,<-tk] at w2;cases t2 with
  |false=>
   simp[q40,wj,q3];refine⟨ps.length-(j+1),by omega,j+1,false,rfl,by omega,?_,by simp,by simp,w2,(gw.trans g1.bl).trans g2⟩
   repeat (refine aA.set ?_)
   exact Kp
  |true=>
   simp[q40,wj,q3];refine⟨ps.length-(j+1),by omega,j+1,t,rfl,by omega,?_,by simp,by simp,w2,(gw.trans g1.bl).trans g2⟩
   repeat (refine aA.set ?_)
   exact Kp
 .have:j=ps.length:=by omega
  subst this;simp[q39,q40];rw[we] at w';exact K _ _ t w' gw (Kp.set) (by simp[q3])
def tR(xs:List GI):List Int:=(xs.filter fun x=>decide (0<=x.dst)).map (·.dst)
theorem Nh{xs:List GI}(h:xs[j]?=some x)(hd:0<=x.dst):tR (xs.take (j+1))=tR (xs.take j)++[x.dst]:=by unfold tR;rw[v9,h];simp[hd]
theorem Ng{xs:List GI}(h:xs[j]?=some x)(hd:x.dst<0):tR (xs.take (j+1))=tR (xs.take j):=by unfold tR;rw[v9,h];simp;omega
def sq(b:GB):List Int:=b.dQ.map (·.dst)++tR b.list
def amr(h0 h:ae)(C W n wc:Nat)(name:ByteArray)(p r:Int)(B U:SV)(DS:List Int)(xs:List GI)(k:Nat)(e:Env)(m:Nat)(e':Env)(h':ae):Prop:=
 ∃(j:Nat) (t:Bool),m=k-j/\j<=k/\aA [57,58,59,60,10,9,61,62,63,64,65,66,67,68,69,70,71,72,73,74,3,75,56] e e'/\ak e' 56=.int .i64 j/\ak e' 3=.bool t/\SC h0 h' C W n wc name p r B U t (DS++tR (xs.take j))/\ab (· =W) h h'
theorem Mm(oD:bm h0)(w:SC h0 h C W n wc name p r B U tt DS){xs:List GI}(hL:SliceR (iR h0) 8 h0 L.v xs)(AW:∀x∈xs,x.dst<n)(hl:xs.length<1000000)(f0:ak e 0=.pointer (some ⟨C,0,none⟩))(f5:ak e 5=.int .i64 i)(f54:ak e 54=L.v)(f55:ak e 55=.int .i64 xs.length)(f56:ak e 56=.int .i64 0)(f3:ak e 3=.bool tt)(K:∀e' h' t,SC h0 h' C W n wc name p r B U t (DS++tR xs)->ab (· =W) h h'->aA [57,58,59,60,10,9,61,62,63,64,65,66,67,68,69,70,71,72,73,74,3,75,56] e e'->ak e' 3=.bool t->QQ (.exit 6) e' h'):aB FF (.loop ir) e h QQ:=by
 have ui:=SliceR.len hL;refine aB.loop (amr h0 h C W n wc name p r B U DS xs xs.length e) ?_ (n:=xs.length) ⟨0,tt,rfl,by omega,aA.refl _ _,f56,f3,by simpa [tR] using w,.refl w.g.ok⟩;rintro m e' h'⟨j,t,rfl,hj,Kp,q56,q3,w',gw⟩;have q0:=Kp.at f0;have q5:=Kp.at f5;have Sy:=Kp.at f54;have TK:=Kp.at f55;unfold ir;by_cases aS:j<xs.length
 .have wj:=wrap_i64 ((j:Int)+1) (by omega) (by omega);have hx:xs[j]?=some xs[j]:=fI aS;have hm:=zT aS;generalize xs[j]=x at hx hm;obtain⟨bb,off,c,Y4,_,_,⟨A,rfl,sA⟩,_,dj⟩:=SliceR.later oD hL hx;have r0:=dj h' w'.g 0 8 (by decide);simp[aI,-ag] at r0;simp at Sy;rw[Y4,ui] at Sy;have gv:ab aK h' (put (aJ h' [.int .i64 0,.int .i64 0,.bool false,.int .i64 0,.bool false,.int .i64 0,.int .i64 0,.slice none 0 0] 0) h'.next 0 [.int .i64 0,.int .i64 0,.bool false,.int .i64 0,.bool false,.int .i64 0,.int .i64 0,.slice none 0 0] [.int .i64 x.op,.int .i64 x.dst,.bool x.a.1,.int .i64 x.a.2,.bool x.b.1,.int .i64 x.b.2,.int .i64 x.fn,.slice A.a A.l A.c] 0):=(ab.refl w'.g.ok).var _ _;by_cases hd:x.dst<0
  .rw[<-Ng hx hd] at w';simp[q0,q5,Sy,TK,q56,aS,r0,-ag,au,hd,wj,q3];refine⟨xs.length-(j+1),by omega,j+1,t,rfl,by omega,?_,by simp,by simp,w'.bl gv,gw.trans gv.bl⟩
   repeat (refine aA.set ?_)
   exact Kp
  .simp[q0,q5,Sy,TK,q56,aS,r0,-ag,au,hd];refine aG.cut (fun h1=>ab aK h' h1) gv ?_;intro h1 g1;refine aG.call (V:=WrS h0 h1 C W n wc name p r B U t (DS++tR (xs.take j)) x.dst) (by simpa using Fg (w'.bl g1) ⟨by omega,AW x hm⟩ (i:=i) (by omega) j) ?_;rintro _ h2⟨t2,rfl,w2,g2⟩;rw[vu,<-Nh hx (by omega)] at w2;cases t2 with
   |false=>
    simp[q56,wj,q3];refine⟨xs.length-(j+1),by omega,j+1,false,rfl,by omega,?_,by simp,by simp,w2,(gw.trans g1.bl).trans g2⟩
    repeat (refine aA.set ?_)
    exact Kp
   |true=>
    simp[q56,wj,q3];refine⟨xs.length-(j+1),by omega,j+1,t,rfl,by omega,?_,by simp,by simp,w2,(gw.trans g1.bl).trans g2⟩
    repeat (refine aA.set ?_)
    exact Kp
 .have:j=xs.length:=by omega
  subst this;simp[TK,q56];rw[we] at w';exact K _ _ t w' gw (Kp.set) (by simp[q3])
def amt(h0 h:ae)(C W n wc:Nat)(name:ByteArray)(p r:Int)(B U:SV)(bs:List GB)(k:Nat)(m:Nat)(e':Env)(h':ae):Prop:=
 ∃(j:Nat) (t:Bool),m=k-j/\j<=k/\ak e' 0=.pointer (some ⟨C,0,none⟩)/\ak e' 30=B.v/\ak e' 31=.int .i64 k/\ak e' 32=.int .i64 j/\ak e' 3=.bool t/\SC h0 h' C W n wc name p r B U t ((bs.take j).flatMap sq)/\ab (· =W) h h'
def agq(h0 h:ae)(C W n wc:Nat)(name:ByteArray)(p r:Int)(B U:SV)(bs:List GB)(v:Value)(h':ae):Prop:=∃t:Bool,v=.bool t/\SC h0 h' C W n wc name p r B U t (bs.flatMap sq)/\ab (· =W) h h'
structure MI(n:Nat)(bs:List GB):Prop where
 len:bs.length<1000000
 ph:∀b∈bs,b.dQ.length<1000000/\∀q∈b.dQ,0<=q.dst/\q.dst<n
 li:∀b∈bs,b.list.length<1000000/\∀x∈b.list,x.dst<n
theorem Ml(oD:bm h0)(hB:CT h0 B bs)(D:MI n bs)(w:SC h0 h C W n wc name p r B U tt [])(N1:p=pn)(hp:pn<=n)(hn:n<1000000):
  aF FF ox [.pointer (some ⟨C,0,none⟩)] h (agq h0 h C W n wc name p r B U bs):=by
 have ez:=SliceR.len hB;have vh:=D.len;obtain⟨s1,hC⟩:=w.hC;simp[Qu] at hC;refine aF.of vS ?_;unfold nZ;simp[hC];refine Gb w hp hn (by simp) (by simp[N1]) (by simp) ⟨true,by simp⟩ ?_;intro e1 h1 t1 w1 gw1 q0 q3;obtain⟨s2,Nz⟩:=w1.hC;simp[Qu] at Nz;simp[q0,Nz];refine aB.loop (amt h0 h C W n wc name p r B U bs bs.length) ?_ (n:=bs.length) ⟨0,t1,rfl,by omega,by simp[q0],by simp,by simp[ez],by simp,by simp[q3],by simpa using w1,gw1⟩;rintro m e' h'⟨j,t,rfl,hj,q0,LF,q31,q32,q3,w',gw⟩;unfold mq;by_cases aS:j<bs.length
 .have wj:=wrap_i64 ((j:Int)+1) (by omega) (by omega);have hx:bs[j]?=some bs[j]:=fI aS;have hm:=zT aS;generalize bs[j]=x at hx hm;obtain⟨bb,off,c,kC,_,_,⟨P,L,T,rfl,sP,sL,sT⟩,_,dj⟩:=SliceR.later oD hB hx;have r0:=dj h' w'.g 0 6 (by decide);simp[-ag] at r0;simp at LF;rw[kC,ez] at LF;have kj:=SliceR.len sP;have ui:=SliceR.len sL;simp[q0,LF,q31,q32,aS,r0,-ag,au];refine aB.cut (fun h1=>ab aK h' h1/\∃s,h1.tr.get h'.next=some (.aC [P.v,L.v,.int .i64 x.kind,.bool x.on.1,.int .i64 x.on.2,T.v] false 0 s)) ⟨(ab.refl w'.g.ok).var _ _,_,aD _ _ _ _ _ _⟩ ?_;rintro h2⟨g2,s3,hX⟩;have lW:W<h'.next:=by obtain⟨_,_,hW,_⟩:=w'.hW;exact w'.g.ok.wf _ _ hW
  refine Mn oD (w'.bl g2) sP (D.ph x hm).2 (D.ph x hm).1 (i:=j) (by simp[q0]) (by simp) (by simp) (by simp[kj]) (by simp) (by simp[q3]) ?_;intro e3 h3 t3 w3 g3 K3 k3;have fe:=g3.get g2.ok hX (by omega);simp at fe;have k6:ak e3 6=.pointer (some ⟨h'.next,0,none⟩):=K3.at (t:=6) (by simp);have k0:=K3.at (t:=0) (by simp;exact q0);have k5:ak e3 5=.int .i64 j:=K3.at (t:=5) (by simp);have k30:=K3.at (t:=30) (by simp;exact LF);have k31:=K3.at (t:=31) (by simp;exact q31);have k32:=K3.at (t:=32) (by simp;exact q32);simp[k6,fe];refine Mm oD w3 sL (D.li x hm).2 (D.li x hm).1 (i:=j) (by simp[k0]) (by simp[k5]) (by simp) (by simp[ui]) (by simp) (by simp[k3]) ?_;intro e4 h4 t4 w4 g4 K4 k43;have tk:(bs.take (j+1)).flatMap sq=((bs.take j).flatMap sq++x.dQ.map (·.dst))++tR x.list:=by rw[v9,hx];simp[sq,vu]
  rw[<-tk] at w4;have k40:=K4.at (t:=0) (by simp;exact k0);have aqb:=K4.at (t:=30) (by simp;exact k30);have aqc:=K4.at (t:=31) (by simp;exact k31);have aqd:=K4.at (t:=32) (by simp;exact k32);simp[aqd,wj];exact⟨bs.length-(j+1),by omega,j+1,t4,rfl,by omega,by simp[k40],by simp[aqb,kC,ez],by simp[aqc],by simp,by simp[k43],w4,((gw.trans g2.bl).trans g3).trans g4⟩
 .have:j=bs.length:=by omega
  subst this;simp[q31,q32,q3];rw[we] at w';exact⟨_,rfl,w',gw⟩
end
structure UF(h0 h1:ae)(C W n wc d nb Pb R:Nat)(name:ByteArray)(p r:Int)(B:SV):Prop where
 g:ab aK h0 h1
 hC:∃s,h1.tr.get C=some (.aC (Qu name p r B ⟨some ⟨d,0,none⟩,nb,nb⟩ ⟨some ⟨W,0,none⟩,n,wc⟩) false 0 s)
 hW:∃ws s,h1.tr.get W=some (.aC (tu.flat ws) false 0 s)/\ws.length=n
 hd:∃us s,h1.tr.get d=some (.aC (bj.flat us) false 0 s)/\Tree.JO us nb
 hP:∃s,h1.tr.get Pb=some (.aC [.pointer (some ⟨C,0,none⟩)] false 0 s)
 hR:∃s,h1.tr.get R=some (.aC [.bool false] false 0 s)
 nR:h0.next<=R
 nb:nb<1000000
 n:n<1000000
theorem UF.bl{h0 h1 h2:ae}{C W n wc d nb Pb R:Nat}(w:UF h0 h1 C W n wc d nb Pb R name p r B)(g:ab aK h1 h2):UF h0 h2 C W n wc d nb Pb R name p r B:=by obtain⟨s1,q1⟩:=w.hC;obtain⟨ws,s2,q2,e2⟩:=w.hW;obtain⟨us,s3,q3,e3⟩:=w.hd;obtain⟨s4,q4⟩:=w.hP;obtain⟨s5,q5⟩:=w.hR;have ok:=w.g.ok;exact⟨w.g.trans g,⟨s1,g.get ok q1⟩,⟨ws,s2,g.get ok q2,e2⟩,⟨us,s3,g.get ok q3,e3⟩,⟨s4,g.get ok q4⟩,⟨s5,g.get ok q5⟩,w.nR,w.nb,w.n⟩
section
variable{h0:ae}{C W n wc d nb Pb R:Nat}{name:ByteArray}{p r:Int}{B:SV}
def fk(n:Nat)(v:Bool×Int):Prop:=v.1=true->0<=v.2/\v.2<n
theorem Eg(w:UF h0 h C W n wc d nb Pb R name p r B){v:Bool×Int}(hv:fk n v)(hi:i<nb)(j:Int):
  aF FF j7 [.pointer (some ⟨C,0,none⟩),.agg ⟨[.bool v.1,.int .i64 v.2]⟩,.int .i64 i,.int .i64 j] h (zl h):=by
 obtain⟨s1,q1⟩:=w.hC;obtain⟨ws,s2,q2,e2⟩:=w.hW;obtain⟨us,s3,q3,e3⟩:=w.hd;exact Of w.g.ok q1 q2 e2 q3 e3 w.nb hv hi j
def T6(h0:ae)(R:Nat)(e':Env)(h':ae):Prop:=ab aK h0 h'/\(∃t s,h'.tr.get R=some (.aC [.bool t] false 0 s))/\ak e' 2=.pointer (some ⟨R,0,none⟩)
def MT:aq:=.ops [⟨(some 13),none,(.alloc vx)⟩,⟨none,none,(.store 2 (.tmp 13) (.tmp 79))⟩]
def Dz:aq:=(P_ 9 (G_ [l_ 80 1,L_ 81 2 13,l_ 82 4,l_ 83 11,F_ 84 150 [t_ 80,t_ 81,t_ 82,t_ 83],o_ 85 (.un .not (t_ 84))] (I_ 85 (G_ [u_ (.store 1 (t_ 2) (b_ false))] .ret) .skip)))
def ZU(h0:ae)(R:Nat)(h':ae):Prop:=ab aK h0 h'/\∃t s,h'.tr.get R=some (.aC [.bool t] false 0 s)
theorem Ra(ok:bm h)(e:Env)(ps:List Nat)(asg body:aq):ab aK h (h.new (.loop e ps asg body .ready))/\(h.new (.loop e ps asg body .ready)).tr.get h.next=some (.loop e ps asg body .ready):=by
 refine⟨⟨Nat.le_succ _,dw _,fun b hb _=>DV _ hb,⟨fun b ob hb=>?_,fun b cs ro op s hb=>?_⟩⟩,by simp[ae.new,Tr.az]⟩
 .simp only[ae.new,Tr.az] at hb⊢;by_cases e:b=h.next
  .omega
  .rw[aW e] at hb;exact Nat.lt_succ_of_lt (ok.wf b ob hb)
 .simp only[ae.new,Tr.az] at hb⊢;by_cases e:b=h.next
  .rw[aZ e] at hb;cases hb
  .rw[aW e] at hb;exact ok.st b cs ro op s hb
theorem Ta{hA:ae}(oD:bm h0)(F:UF h0 hA C W n wc d nb Pb R name p r B){X I4 J11 i j s4 s5:Nat}(hX:∃s,hA.tr.get X=some (.aC (qC x A) false 0 s))(sA:SliceR vR 2 h0 A.v x.args)(B7:x.args.length<2000000)(hv:∀v∈ky x,fk n v)(hI:hA.tr.get I4=some (.aC [.int .i64 i] false 0 s4))(hJ:hA.tr.get J11=some (.aC [.int .i64 j] false 0 s5))(hi:i<nb)(f1:ak e 1=.pointer (some ⟨Pb,0,none⟩))(f2:ak e 2=.pointer (some ⟨R,0,none⟩))(f4:ak e 4=.pointer (some ⟨I4,0,none⟩))(f11:ak e 11=.pointer (some ⟨J11,0,none⟩))(f78:ak e 78=.func (.func km) #[] #[.pointer (some ⟨X,0,none⟩)])(ret:∀h',T6 h0 R e h'->QQ .ret e h')(norm:∀h',ab aK hA h'->QQ .normal e h'):aB FF (.Qr (.tmp 78) [79] MT Dz) e hA QQ:=by
 have okA:=F.g.ok;obtain⟨sX,hX⟩:=hX;obtain⟨g0,Zj⟩:=Ra okA e [79] MT Dz;have wv:(hA.new (.loop e [79] MT Dz .ready)).next=hA.next+1:=rfl
 refine aB.Qr (first:= #[]) (caps:= #[.pointer (some ⟨X,0,none⟩)]) (by simpa using f78) ?_;generalize hA.new (.loop e [79] MT Dz .ready)=hL at*;have lX:=(okA.bC hX).lt;obtain⟨sR,hR⟩:=F.hR;have lR:=(okA.bC hR).lt;have H:=OX (h:=hL) oD sA B7 (X:=X) (y:=.func (.yield hA.next) #[] #[]) (fun _ _ h2=>ab aK hA h2/\h2.tr.get hA.next=some (.loop e [79] MT Dz .ready)) (fun b=>b=R\/b=hA.next) (fun h'=>h'.tr.get hA.next=some (.loop e [79] MT Dz (.done none))/\ZU h0 R h')
  (fun _ _ h2 hh=>⟨F.g.trans hh.1,sX,hh.1.get okA hX⟩) (fun _ _ h2 h3 hh g=>⟨hh.1.trans g,g.get hh.1.ok hh.2⟩) (by rintro b (rfl|rfl)<;>omega) ?_ (F.g.trans g0) ⟨sX,g0.get okA hX⟩ (fun h1 g=>⟨g0.trans g,g.get g0.ok Zj⟩)
 .refine aF.mono (by simpa using H) ?_;rintro v h' (⟨g,hl⟩|⟨hl,Ry,Ab⟩)
  .unfold vG;rw[hl];refine norm _ (g.trans' (ou g.ok hA.next) (fun _ _ h=>h) (fun x hx e=>by omega))
  .unfold vG;rw[hl];refine ret _ ⟨Ry.trans' (ou Ry.ok hA.next) (fun _ _ h=>h) (fun x hx e=>by have:=F.g.next;omega),?_,f2⟩;obtain⟨t,s,Ab⟩:=Ab;exact⟨t,s,(ou Ry.ok hA.next).get Ry.ok Ab (by omega)⟩
 .rintro Bq k v h2 hk hB1 Tl⟨g2,sE⟩;have x5:=hv v (dG hk);refine(OJ (S:=(· =R)) (K:=fun h'=>ab aK hA h') (Z:=ZU h0 R) g2.ok (by omega) sE ?_ ?_ ?_).mono ?_
  .unfold MT;simp;have gv:ab aK h2 (put (aJ h2 [.bool false,.int .i64 0] 0) h2.next 0 [.bool false,.int .i64 0] [.bool v.1,.int .i64 v.2] 0):=(ab.refl g2.ok).var _ _;have hV:(put (aJ h2 [.bool false,.int .i64 0] 0) h2.next 0 [.bool false,.int .i64 0] [.bool v.1,.int .i64 v.2] 0).tr.get h2.next=some (.aC [.bool v.1,.int .i64 v.2] false 0 h2.clock):=by simp
   generalize put (aJ h2 [.bool false,.int .i64 0] 0) h2.next 0 [.bool false,.int .i64 0] [.bool v.1,.int .i64 v.2] 0=h3 at*;refine⟨gv,fun h4 g4=>?_⟩;have t3:ab aK hA h4:=(g2.trans gv).trans' g4 (fun _ _ h=>h) (fun x hx e=>by omega);have F4:=F.bl t3;obtain⟨sP,XT⟩:=F4.hP;obtain⟨sR4,U5⟩:=F4.hR;have hI4:=t3.get okA hI;have hJ4:=t3.get okA hJ;have l2:=g2.next;have l3:hA.next<h2.next:=g2.ok.wf _ _ sE;have hV4:=g4.get gv.ok hV (by omega);unfold Dz;simp[f1,f2,f4,f11,XT,hI4,hJ4,hV4];refine aG.call (V:=zl h4) (by simpa using Eg F4 x5 hi j) ?_;rintro _ h5⟨g5,t,rfl⟩;cases t with
   |true=>
    simp;exact⟨g5.bl,t3.trans g5⟩
   |false=>
    have GM:=g5.get t3.ok U5;simp[f2,GM];exact⟨g5.bl.trans (aQ g5.ok GM),(F4.g.trans g5).put ⟨_,GM⟩ (.inl F.nR),false,h5.clock,by simp⟩
  .intro h4 h5 k4 _ g;exact k4.trans' g (fun _ _ h=>h) (fun x hx e=>by omega)
  .rintro h4 h5⟨z1,t,s,z2⟩ _ g;exact⟨z1.trans' g (fun _ _ h=>h) (fun x hx e=>by have:=F.g.next;omega),t,s,g.get z1.ok z2 (by omega)⟩
  .rintro r h5⟨g5,⟨rfl,hl5,k5⟩|⟨rfl,hl5,z5⟩⟩
   .exact⟨g5.bU (fun _ _ h=>.inl h),.inl ⟨rfl,k5,hl5⟩⟩
   .exact⟨g5.bU (fun _ _ h=>.inl h),.inr ⟨rfl,hl5,z5⟩⟩
end
section
variable{h0:ae}{C W n wc d nb Pb R:Nat}{name:ByteArray}{p r:Int}{B:SV}
def amn(h:ae)(k:Nat)(e:Env)(m:Nat)(e':Env)(h':ae):Prop:=
 ∃j:Nat,m=k-j/\j<=k/\aA [8,9,10,40,41,42,43,44,45,46,47,48,49,50,51,52,53,54,55,56,57,58,59,60,61,62,63,64,65,66,67] e e'/\ak e' 40=.int .i64 j/\ab aK h h'
theorem XH(oD:bm h0)(F:UF h0 h C W n wc d nb Pb R name p r B)(hB:CT h0 B bs)(lq:bs.length=nb)(okx:bm hy)(gx:ab aK hy h)(hAH:SliceR (Yo hy) 1 hy AH.v ah)(rw:A0 nb ah){row:List (Bool×Int)}(sA:SliceR vR 2 h0 A.v row)(hv:∀v∈row,fk n v)(vj:row.length<1000000)(iI:ah[i]?=some ps)(uj:row.length=ps.length)(hI:h.tr.get I4=some (.aC [.int .i64 i] false 0 s4))(f1:ak e 1=.pointer (some ⟨Pb,0,none⟩))(f2:ak e 2=.pointer (some ⟨R,0,none⟩))(f3:ak e 3=AH.v)(f4:ak e 4=.pointer (some ⟨I4,0,none⟩))(f38:ak e 38=A.v)(f39:ak e 39=.int .i64 row.length)(f40:ak e 40=.int .i64 0)(ret:∀e' h',T6 h0 R e' h'->QQ .ret e' h')(K:∀e' h',ab aK h h'->aA [8,9,10,40,41,42,43,44,45,46,47,48,49,50,51,52,53,54,55,56,57,58,59,60,61,62,63,64,65,66,67] e e'->QQ (.exit 4) e' h'):
  aB FF (.loop jB) e h QQ:=by
 have B1:=SliceR.len sA;have anj:=SliceR.len hAH;have ez:=SliceR.len hB;have Hi:=F.g.ok;have aoH:i<nb:=by have:=(cr.mp iI).1;have:=rw.len;omega
 refine aB.loop (amn h row.length e) ?_ (n:=row.length) ⟨0,rfl,by omega,aA.refl _ _,f40,.refl Hi⟩;rintro m e' h'⟨j,rfl,hj,Kp,q40,g⟩;have F':=F.bl g;have q1:=Kp.at f1;have q2:=Kp.at f2;have q3:=Kp.at f3;have q4:=Kp.at f4;have Sx:=Kp.at f38;have q39:=Kp.at f39;unfold jB;by_cases aS:j<row.length
 .have wj:=wrap_i64 ((j:Int)+1) (by omega) (by omega);have hx:row[j]?=some row[j]:=fI aS;have hm:=zT aS;generalize row[j]=v at hx hm;obtain⟨b1,Sb,c1,Tk,_,_,rfl,_,Bn⟩:=SliceR.later oD sA hx;have r1:=Bn h' F'.g 0 2 (by decide);obtain⟨b2,ZV,c2,ani,_,_,⟨S,rfl,sS⟩,o2,FU⟩:=SliceR.later okx hAH iI;have gx':=gx.trans g;have r2:∀h2,ab aK hy h2->aV h2 b2 (ZV+i) 1=some [.slice S.a S.l S.c]:=fun h2 g2=>by have:=FU h2 g2 0 1 (by decide);simpa [-ag] using this
  have hSl:=SliceR.len sS;have hpx:ps[j]?=some ps[j]:=fI (by omega);have Fm:=zT (l:=ps) (n:=j) (by omega);generalize ps[j]'(by omega)=a at hpx Fm;obtain⟨ha0,Bh⟩:=(rw.row i ps iI).2 a Fm;obtain⟨a,rfl⟩:∃a':Nat,a=a':=⟨a.toNat,by omega⟩;have ahC:a<nb:=by omega
  obtain⟨b3,aqB,c3,hSa,_,_,rfl,o3,Vv⟩:=SliceR.later okx sS hpx;have r3:∀h2,ab aK hy h2->aV h2 b3 (aqB+j) 1=some [.int .i64 a]:=fun h2 g2=>by have:=Vv h2 g2 0 1 (by decide);simpa [-ag] using this
  obtain⟨xa,Yn⟩:=aE bs a;obtain⟨b4,aqC,c4,kC,_,_,⟨P4,L4,T4,rfl,sP4,sL4,sT4⟩,o4,hrd4⟩:=SliceR.later oD hB Yn;have r4:∀h2,ab aK h0 h2->aV h2 b4 (aqC+a*6+1) 1=some [.slice L4.a L4.l L4.c]:=fun h2 g2=>by have:=hrd4 h2 g2 1 1 (by decide);simpa [-ag] using this
  simp[-ag] at r1;simp at Sx q3;rw[Tk,B1] at Sx;rw[ani,anj] at q3;have gY:i<ah.length:=by rw[rw.len];exact aoH
  have hI':=g.get Hi hI;have oI:=F'.g.ok.bC hI';obtain⟨sP,Rc⟩:=F'.hP;obtain⟨sC,DZ⟩:=F'.hC;have vv:=DZ;simp[Qu] at vv;have oP:=F'.g.ok.bC Rc;have oC:=F'.g.ok.bC DZ;have ob2:=gx'.bC o2;have ob3:=gx'.bC o3;have ob4:=F'.g.bC o4;have r2':=r2 h' gx';have r3':=r3 h' gx';have r4':=r4 h' F'.g;have hjp:j<ps.length:=by omega
  rw[hSl,hSa] at r2';rw[kC,ez,lq] at vv;simp[q1,q2,q3,q4,Sx,q39,q40,aS,r1,gY,-ag,au,aX,aN,av hI',oI,oP,oC,ob2,ob3,ob4,r2',r3',r4',hjp,ay,av Rc,av vv,vv,Rc,ahC];refine aU.cut (fun h5=>ab aK h' h5) ?_ ?_
  .exact((ab.refl F'.g.ok).var _ _).tick
  intro h5 g5;have F5:=F'.bl g5;refine aU.call (V:=zl h5) (by simpa using Eg F5 (hv v hm) ahC L4.l) ?_;rintro _ h6⟨g6,t,rfl⟩;cases t with
  |true=>
   simp[q40,wj];refine⟨row.length-(j+1),by omega,j+1,rfl,by omega,?_,by simp,(g.trans g5).trans g6⟩
   repeat (refine aA.set ?_)
   exact Kp
  |false=>
   obtain⟨sR,NF⟩:=(F5.bl g6).hR;have YU:=(F5.g.trans g6);simp[q2,NF];exact ret _ _ ⟨YU.put ⟨_,NF⟩ (.inl F.nR),⟨false,h6.clock,by simp⟩,by simp[q2]⟩
 .have:j=row.length:=by omega
  subst this;simp[q39,q40];exact K _ _ g (Kp.set)
def amo(h:ae)(k:Nat)(e:Env)(m:Nat)(e':Env)(h':ae):Prop:=
 ∃j:Nat,m=k-j/\j<=k/\aA [7,33,34,35,36,37,38,39,68,8,9,10,40,41,42,43,44,45,46,47,48,49,50,51,52,53,54,55,56,57,58,59,60,61,62,63,64,65,66,67] e e'/\ak e' 33=.int .i64 j/\ab aK h h'
theorem aA.bU{l l':List Nat}{e e':Env}(K:aA l e e')(h:∀t∈l,t∈l':=by decide):aA l' e e':=fun t ht=>K t (fun h'=>ht (h t h'))
theorem S_(oD:bm h0)(F:UF h0 h C W n wc d nb Pb R name p r B)(hB:CT h0 B bs)(lq:bs.length=nb)(okx:bm hy)(gx:ab aK hy h)(hAH:SliceR (Yo hy) 1 hy AH.v ah)(rw:A0 nb ah)(iI:ah[i]?=some ps)(hI:h.tr.get I4=some (.aC [.int .i64 i] false 0 s4))(hP:SliceR (pR h0) 2 h0 P.v xK)(uj:xK.length<1000000)(dx:∀q∈xK,q.row.length=ps.length/\∀v∈q.row,fk n v)(f1:ak e 1=.pointer (some ⟨Pb,0,none⟩))(f2:ak e 2=.pointer (some ⟨R,0,none⟩))(f3:ak e 3=AH.v)(f4:ak e 4=.pointer (some ⟨I4,0,none⟩))(f31:ak e 31=P.v)(f32:ak e 32=.int .i64 xK.length)(f33:ak e 33=.int .i64 0)(ret:∀e' h',T6 h0 R e' h'->QQ .ret e' h')(K:∀e' h',ab aK h h'->aA [7,33,34,35,36,37,38,39,68,8,9,10,40,41,42,43,44,45,46,47,48,49,50,51,52,53,54,55,56,57,58,59,60,61,62,63,64,65,66,67] e e'->QQ (.exit 2) e' h'):
  aB FF (.loop jC) e h QQ:=by
 have kj:=SliceR.len hP;have Hi:=F.g.ok;refine aB.loop (amo h xK.length e) ?_ (n:=xK.length) ⟨0,rfl,by omega,aA.refl _ _,f33,.refl Hi⟩;rintro m e' h'⟨j,rfl,hj,Kp,q33,g⟩;have F':=F.bl g;have q1:=Kp.at f1;have q2:=Kp.at f2;have q3:=Kp.at f3;have q4:=Kp.at f4;have q31:=Kp.at f31;have q32:=Kp.at f32;unfold jC;by_cases aS:j<xK.length
 .have wj:=wrap_i64 ((j:Int)+1) (by omega) (by omega);have hx:xK[j]?=some xK[j]:=fI aS;have hm:=zT aS;generalize xK[j]=q at hx hm;obtain⟨Tv,hqv⟩:=dx q hm;obtain⟨b1,Sb,c1,rM,_,_,⟨A,rfl,sA⟩,_,Bn⟩:=SliceR.later oD hP hx;have r1:=Bn h' F'.g 0 2 (by decide);have B1:=SliceR.len sA;have:=(rw.row i ps iI).1;simp[-ag] at r1;simp at q31;rw[rM,kj] at q31;simp[q31,q32,q33,aS,r1,-ag,au];refine aB.cut (fun h1=>ab aK h' h1) ((ab.refl F'.g.ok).var _ _) ?_;intro h5 g5;have F5:=F'.bl g5;have Fh:=g.trans g5;refine XH oD F5 hB lq okx (gx.trans Fh) hAH rw sA hqv (by omega) iI Tv (Fh.get Hi hI) (by simp[q1]) (by simp[q2]) (by simp[q3]) (by simp[q4]) (by simp) (by simp[B1]) (by simp) ?_ ?_
  .intro e6 h6 hr;simp;exact ret _ _ hr
  .intro e6 h6 g6 K6;have k33:=K6.at (t:=33) (by simp;exact q33);simp[k33,wj];refine⟨xK.length-(j+1),by omega,j+1,rfl,by omega,?_,by simp,Fh.trans g6⟩;refine aA.set (aA.set (aA.trans ?_ (K6.bU)))
   repeat (refine aA.set ?_)
   exact Kp
 .have:j=xK.length:=by omega
  subst this;simp[q32,q33];exact K _ _ g (Kp.set)
end
section
variable{h0:ae}{C W n wc d nb Pb R:Nat}{name:ByteArray}{p r:Int}{B:SV}
def amm(h:ae)(k:Nat)(e:Env)(m:Nat)(e':Env)(h':ae):Prop:=
 ∃j:Nat,m=k-j/\j<=k/\aA [11,12,13,72,73,74,75,76,77,78,86] e e'/\ak e' 72=.int .i64 j/\ab aK h h'
theorem S8(oD:bm h0)(F:UF h0 h C W n wc d nb Pb R name p r B)(hi:i<nb)(hI:h.tr.get I4=some (.aC [.int .i64 i] false 0 s4)){xs:List GI}(hL:SliceR (iR h0) 8 h0 L.v xs)(JF:xs.length<1000000)(dx:∀x∈xs,x.args.length<2000000/\∀v∈ky x,fk n v)(f1:ak e 1=.pointer (some ⟨Pb,0,none⟩))(f2:ak e 2=.pointer (some ⟨R,0,none⟩))(f4:ak e 4=.pointer (some ⟨I4,0,none⟩))(f70:ak e 70=L.v)(f71:ak e 71=.int .i64 xs.length)(f72:ak e 72=.int .i64 0)(ret:∀e' h',T6 h0 R e' h'->QQ .ret e' h')(K:∀e' h',ab aK h h'->aA [11,12,13,72,73,74,75,76,77,78,86] e e'->QQ (.exit 6) e' h'):
  aB FF (.loop jA) e h QQ:=by
 have ui:=SliceR.len hL;have Hi:=F.g.ok;refine aB.loop (amm h xs.length e) ?_ (n:=xs.length) ⟨0,rfl,by omega,aA.refl _ _,f72,.refl Hi⟩;rintro m e' h'⟨j,rfl,hj,Kp,q72,g⟩;have F':=F.bl g;have q1:=Kp.at f1;have q2:=Kp.at f2;have q4:=Kp.at f4;have q70:=Kp.at f70;have q71:=Kp.at f71;unfold jA;by_cases aS:j<xs.length
 .have wj:=wrap_i64 ((j:Int)+1) (by omega) (by omega);have hx:xs[j]?=some xs[j]:=fI aS;have hm:=zT aS;generalize xs[j]=x at hx hm;obtain⟨B7,hv⟩:=dx x hm;obtain⟨b1,Sb,c1,Y4,_,_,⟨A,rfl,sA⟩,o1,Bn⟩:=SliceR.later oD hL hx;have r1:=Bn h' F'.g 0 8 (by decide);have ob1:=F'.g.bC o1;simp[aI,-ag] at r1;simp at q70;rw[Y4,ui] at q70;simp[q70,q71,q72,aS,r1,-ag,au,aN,aX,ob1];refine aG.cut (fun h1=>ab aK h' h1/\∃s,h1.tr.get h'.next=some (.aC [.int .i64 j] false 0 s)) ?_ ?_
  .refine⟨?_,⟨h'.clock,by simp⟩⟩
   repeat (first|exact .refl F'.g.ok|apply ab.new|refine ab.put ?_ (by simp) (by simp))
  rintro h5⟨g5,s6,hJ5⟩;have Fh:=g.trans g5;refine aG.call (V:=fun v h'=>v=.func (.func km) #[] #[.pointer (some ⟨h5.next,0,none⟩)]/\h'=aJ h5 (qC x A) 0) (by simpa [qC,aI] using Tb h5 x A) ?_;rintro _ h6⟨rfl,e6⟩;have g6:ab aK h5 h6:=by rw[e6];exact aP Fh.ok _ _
  have wU:∃s,h6.tr.get h5.next=some (.aC (qC x A) false 0 s):=⟨0,by rw[e6];exact bS _ _ _⟩;clear e6;have YU:=Fh.trans g6;have hJ6:=g6.get Fh.ok hJ5;have hI6:=YU.get Hi hI;simp;refine Ta oD (F.bl YU) wU sA B7 hv hI6 hJ6 hi (by simp[q1]) (by simp[q2]) (by simp[q4]) (by simp) (by simp) ?_ ?_
  .intro h7 hr;simp;exact ret _ _ hr
  .intro h7 g7;simp[q72,wj];refine⟨xs.length-(j+1),by omega,j+1,rfl,by omega,?_,by simp,YU.trans g7⟩
   repeat (refine aA.set ?_)
   exact Kp
 .have:j=xs.length:=by omega
  subst this;simp[q71,q72];exact K _ _ g (Kp.set)
structure MJ(n:Nat)(ah:List (List Int))(bs:List GB):Prop where
 ph:∀(i:Nat) b,bs[i]?=some b->b.dQ.length<1000000/\∀ps,ah[i]?=some ps->∀q∈b.dQ,q.row.length=ps.length/\∀v∈q.row,fk n v
 li:∀b∈bs,b.list.length<1000000/\∀x∈b.list,x.args.length<2000000/\∀v∈ky x,fk n v
 on:∀b∈bs,fk n b.on
def amp(h:ae)(C W n wc d nb Pb R:Nat)(B AH:SV)(k:Nat)(m:Nat)(e':Env)(h':ae):Prop:=
 ∃j:Nat,m=k-j/\j<=k/\ak e' 1=.pointer (some ⟨Pb,0,none⟩)/\ak e' 2=.pointer (some ⟨R,0,none⟩)/\ak e' 3=AH.v/\ak e' 23=B.v/\ak e' 24=.int .i64 k/\ak e' 25=.int .i64 j/\ab aK h h'
def TO(h:ae)(v:Value)(h':ae):Prop:=ab aK h h'/\∃t:Bool,v=.bool t
theorem S7(oD:bm h0)(hB:CT h0 B bs)(E:jV bs)(lq:bs.length=nb)(O:MJ n (Edge.bD (bt bs)) bs){ws:List (Int×Int)}(hC:h0.tr.get C=some (.aC (Qu name p r B ⟨some ⟨d,0,none⟩,nb,nb⟩ ⟨some ⟨W,0,none⟩,n,wc⟩) false 0 s1))(hW:h0.tr.get W=some (.aC (tu.flat ws) false 0 s2))(hl:ws.length=n)(hd:h0.tr.get d=some (.aC (bj.flat us) false 0 s3))(hU:Tree.JO us nb)(hn:n<1000000):
  aF FF qJ [.pointer (some ⟨C,0,none⟩)] h0 (TO h0):=by
 have ez:=SliceR.len hB;have j5:=E.len;have RW:=Pv E;rw[lq] at RW;have oC:=oD.bC hC;have DZ:=hC;simp[Qu] at DZ;refine aF.of yE ?_;unfold qm;simp[DZ,oC];refine aG.cut (fun h1=>UF h0 h1 C W n wc d nb h0.next (h0.next+1) name p r B) ?_ ?_
 .have g:ab aK h0 (aJ (aJ h0 [.pointer (some ⟨C,0,none⟩)] 0) [.bool false] 0):=((ab.refl oD).new _ _).new _ _;exact⟨g,⟨s1,g.get oD hC⟩,⟨ws,s2,g.get oD hW,hl⟩,⟨us,s3,g.get oD hd,hU⟩,⟨0,by simp⟩,⟨0,by simp⟩,by omega,by omega,hn⟩
 intro h1 F1;refine aG.call (V:=fun v h'=>ab aK h1 h'/\∃d ws,v=.slice (some ⟨d,0,none⟩) bs.length bs.length/\jU bj h1.next h' d ws (Edge.bD (bt bs))) (by simpa [aw,ez] using oo F1.g.ok (name:=name) (p:=p) (r:=r) (hB.mono oD F1.g) E) ?_;rintro _ h2⟨g2,d8,wss,rfl,w8⟩;have F2:=F1.bl g2;obtain⟨sP,IA⟩:=F2.hP;obtain⟨sC,vv⟩:=F2.hC;simp[Qu] at vv;have hAH:=Pt (c:=bs.length) w8;have an5:(Edge.bD (bt bs)).length=bs.length:=by rw[Edge.eQ];simp[bt]
 rw[an5] at hAH;simp[IA,vv];refine aB.loop (amp h2 C W n wc d nb h0.next (h0.next+1) B ⟨some ⟨d8,0,none⟩,bs.length,bs.length⟩ bs.length) ?_ (n:=bs.length) ⟨0,rfl,by omega,by simp,by simp,by simp,by simp,by simp[ez],by simp,.refl F2.g.ok⟩;rintro m e' h'⟨j,rfl,hj,q1,q2,q3,Yr,W0,q25,g⟩;have F':=F2.bl g;have ret:∀e' h',T6 h0 (h0.next+1) e' h'->vD [.cell 2 none] (TO h0) .ret e' h':=by rintro e' h'⟨gr,⟨t,s,hr⟩,er⟩;simp[er,hr];exact⟨gr,t,rfl⟩
 unfold oJ;by_cases aS:j<bs.length
 .have wj:=wrap_i64 ((j:Int)+1) (by omega) (by omega);have hx:bs[j]?=some bs[j]:=fI aS;have hm:=zT aS;generalize bs[j]=x at hx hm;obtain⟨b1,Sb,c1,kC,_,_,⟨P,L,T,rfl,sP,sL,sT⟩,o1,Bn⟩:=SliceR.later oD hB hx;have r1:=Bn h' F'.g 0 6 (by decide);have ob1:=F'.g.bC o1;have kj:=SliceR.len sP;have ui:=SliceR.len sL;obtain⟨ps,iI⟩:=aE (Edge.bD (bt bs)) j;obtain⟨apq,apr⟩:=O.ph j x hx;obtain⟨aoV,aoW⟩:=O.li x hm;simp[-ag] at r1;simp at Yr;rw[kC,ez] at Yr;simp[Yr,W0,q25,aS,r1,-ag,au,aN,aX,ob1];refine aB.cut (fun h1=>ab aK h' h1/\(∃s,h1.tr.get h'.next=some (.aC [.int .i64 j] false 0 s))/\∃s,h1.tr.get (h'.next+1)=some (.aC [P.v,L.v,.int .i64 x.kind,.bool x.on.1,.int .i64 x.on.2,T.v] false 0 s)) ?_ ?_
  .refine⟨?_,⟨h'.clock,by simp⟩,⟨h'.clock+1,by simp⟩⟩
   repeat (first|exact .refl F'.g.ok|apply ab.new|refine ab.put ?_ (by simp) (by simp))
  rintro h5⟨g5,⟨s5,hI5⟩,s6,uL⟩;have Fh:=g.trans g5;have F5:=F2.bl Fh;refine S_ oD F5 hB lq F2.g.ok Fh hAH RW iI hI5 sP apq (apr ps iI) (by simp[q1]) (by simp[q2]) (by simp[q3]) (by simp) (by simp) (by simp[kj]) (by simp) ?_ ?_
  .intro e6 h6 hr;simpa using ret _ _ hr
  intro e6 h6 g6 K6;have hI6:=g6.get Fh.ok hI5;have wU:=g6.get Fh.ok uL;have k1:=K6.at (t:=1) (by simp;exact q1);have k2:=K6.at (t:=2) (by simp;exact q2);have k3:=K6.at (t:=3) (by simp;exact q3);have k4:ak e6 4=.pointer (some ⟨h'.next,0,none⟩):=K6.at (t:=4) (by simp);have k5:ak e6 5=.pointer (some ⟨h'.next+1,0,none⟩):=K6.at (t:=5) (by simp);have k23:=K6.at (t:=23) (by simp;exact Yr);have k24:=K6.at (t:=24) (by simp;exact W0);have k25:=K6.at (t:=25) (by simp;exact q25);simp at wU;simp[k5,wU];have F6:=F5.bl g6;refine S8 oD F6 (by omega) hI6 sL aoV aoW (by simp[k1]) (by simp[k2]) (by simp[k4]) (by simp) (by simp[ui]) (by simp) ?_ ?_
  .intro e7 h7 hr;simpa using ret _ _ hr
  intro e7 h7 g7 K7;have hI7:=g7.get F6.g.ok hI6;have XY:=g7.get F6.g.ok wU;have F7:=F6.bl g7;obtain⟨sP7,hP7⟩:=F7.hP;have m1:=K7.at (t:=1) (by simp;exact k1);have m2:=K7.at (t:=2) (by simp;exact k2);have m3:=K7.at (t:=3) (by simp;exact k3);have m4:ak e7 4=.pointer (some ⟨h'.next,0,none⟩):=K7.at (t:=4) (by simp;exact k4);have m5:ak e7 5=.pointer (some ⟨h'.next+1,0,none⟩):=K7.at (t:=5) (by simp;exact k5);have m23:=K7.at (t:=23) (by simp;exact k23);have m24:=K7.at (t:=24) (by simp;exact k24);have m25:=K7.at (t:=25) (by simp;exact k25);simp[m1,m4,m5,hI7,XY,hP7];refine aG.call (V:=zl h7) (by simpa using Eg F7 (O.on x hm) (i:=j) (by omega) L.l) ?_;rintro _ h8⟨g8,t,rfl⟩;have F8:=F7.bl g8;cases t with
  |true=>
   simp[m25,wj];exact⟨bs.length-(j+1),by omega,j+1,rfl,by omega,by simp[m1],by simp[m2],by simp[m3],by simp[m23,kC,ez],by simp[m24],by simp,(((g.trans g5).trans g6).trans g7).trans g8⟩
  |false=>
   obtain⟨sR,hR8⟩:=F8.hR;simp[m2,hR8];exact⟨F8.g.put ⟨_,hR8⟩ (.inl F8.nR),false,rfl⟩
 .have:j=bs.length:=by omega
  subst this;obtain⟨sR,hR8⟩:=F'.hR;simp[W0,q25,q2,hR8];exact⟨F'.g.put ⟨_,hR8⟩ (.inl F'.nR),true,rfl⟩
end
def r6(bs:List GB):Prop:=bs.length<=(pJ bs).length
def af1(bs:List GB)(h:ae)(v:Value)(h':ae):Prop:=ab aK h h'/\∃c:Int,v=.int .i64 c/\(c=0->r6 bs/\(bs.flatMap sq).Nodup)
theorem HZ(ok:bm h){name:ByteArray}(hB:CT h B bs)(E:jV bs)(h0:0<bs.length)(D:MI n bs)(O:MJ n (Edge.bD (bt bs)) bs)(hp:pn<=n)(hn:n<1000000):
  aF FF yh [.agg ⟨aw name pn n B⟩] h (af1 bs h):=by
 have ez:=SliceR.len hB;have j5:=E.len;refine aF.of FD ?_;unfold xS;simp[aw];have g0:ab aK h (tick (aJ h (aw name pn n B) 0)):=(aP ok _ _).tick;refine aU.cut (fun h1=>ab aK h h1/\h1.tr.get h.next=some (.aC (aw name pn n B) false 0 0)/\h1.tr.get (h.next+1)=some (.aC [.int .i64 (-1),.int .i64 (-1)] false 0 0)) ?_ ?_
 .simp[aw] at g0;exact⟨g0.new _ _,by simp[aw],by simp⟩
 rintro h1⟨g1,xX,hW1⟩;refine aU.call (V:=T_ h1 bs.length) (by simpa [aw] using Hy g1.ok (name:=name) (p:=pn) (r:=n) (hB.mono ok g1) E h0) ?_;rintro _ h2⟨g2,up,us,s2,rfl,hup,zU,hUp⟩;have mI:=g2.get g1.ok xX;simp[aw] at mI;have XW:=g2.get g1.ok hW1;simp[mI,XW];have mz:=g1.trans g2;refine aU.call (V:=fun v h'=>ab aK h2 h'/\∃d s,v=.slice (some ⟨d,0,none⟩) n n/\h2.next<=d/\h'.tr.get d=some (.aC (tu.flat (List.replicate n (-1,-1))) false 0 s)) (by simpa using Xd mz.ok n hn (x:=(-1,-1)) XW) ?_;rintro _ h3⟨g3,W,s3,rfl,FP,hW3⟩;have di:=mz.trans g3;have xD:=g3.get mz.ok mI;have D0:=g3.get mz.ok zU;have oF3:=di.ok.bC xD;simp[xD,oF3];refine aU.cut (fun h4=>ab aK h3 h4/\∃s,h4.tr.get h3.next=some (.aC (Qu name pn n B ⟨some ⟨up,0,none⟩,bs.length,bs.length⟩ ⟨some ⟨W,0,none⟩,n,n⟩) false 0 s)) ?_ ?_
 .exact⟨((ab.refl di.ok).new _ _).tick,0,by simp[Qu]⟩
 rintro h4⟨g4,s4,UZ⟩;have me:=di.trans g4;have GL:=g4.get di.ok xD;have hW4:=g4.get di.ok hW3;have My:=g4.get di.ok D0;refine aU.call (V:=fun v h'=>ab aK h4 h'/\∃L:SV,v=L.v/\bH bj h4.next h' L.v (pJ bs)) (by simpa [aw] using Hp me.ok (name:=name) (p:=pn) (r:=n) (hB.mono ok me) E h0) ?_;rintro _ h5⟨g5,L,rfl,hA⟩;have oS:=me.trans g5;have NB:=g5.get me.ok GL;have hW5:=g5.get me.ok hW4;have hU5:=g5.get me.ok My;have hC5:=g5.get me.ok UZ;have ui:L.l=(pJ bs).length:=by
  rcases hA with⟨e,e2⟩|⟨_,_,e2,_⟩
  .simp at e2;rw[e,e2.2.1];rfl
  .simp at e2;exact e2.2.1
 have lW:W<h3.next:=(di.ok.bC hW3).lt;by_cases dS:(pJ bs).length<bs.length
 .simp[NB,ez,ui,dS];exact⟨oS,5,rfl,fun h=>by cases h⟩
 .simp[NB,ez,ui,dS];have w:SC h h5 h3.next W n n name pn n B ⟨some ⟨up,0,none⟩,bs.length,bs.length⟩ true []:=⟨oS,by have:=mz.next;omega,by omega,⟨s4,hC5⟩,_,s3,hW5,by simp,YB.nil _ _⟩;refine aG.call (V:=agq h h5 h3.next W n n name pn n B ⟨some ⟨up,0,none⟩,bs.length,bs.length⟩ bs) (by simpa using Ml ok hB D w rfl hp hn) ?_;rintro _ h6⟨t,rfl,w6,gw6⟩;cases t with
  |false=>
   simp;exact⟨w6.g,7,rfl,fun h=>by cases h⟩
  |true=>
   simp;obtain⟨s6,hC6⟩:=w6.hC;obtain⟨ws,s7,hW6,K0,KZ⟩:=w6.hW;have lU:=(mz.ok.bC zU).lt;have To:=gw6.get oS.ok hU5 (by omega);refine aG.call (V:=TO h6) (by simpa using S7 w6.g.ok (hB.mono ok w6.g) E rfl O hC6 hW6 K0 To hUp hn) ?_;rintro _ h7⟨g7,t,rfl⟩;cases t with
   |false=>
    simp;exact⟨w6.g.trans g7,6,rfl,fun h=>by cases h⟩
   |true=>
    simp;exact⟨w6.g.trans g7,0,rfl,fun _=>⟨by unfold r6;omega,(KZ rfl).1⟩⟩
theorem mY{b:GB}(h:b∈bs):b.dQ.length+b.list.length<=fF bs:=by
 induction bs with
 |nil=>simp at h
 |cons x bs ih=>
  simp only[fF];rcases List.mem_cons.1 h with rfl|h
  .omega
  .have:=ih h;omega
theorem P0{ai:Int}(h:zo ai x):x.dst= -1\/u9 ai x.dst:=by
 have hf:=h.form;unfold bk at hf;cases hs:(cz x.op).1 with
 |false=>
  rw[hs] at hf;simp at hf;exact .inl hf.1
 |true=>
  by_cases h20:x.op=20/\x.dst= -1
  .exact .inl h20.2
  .exact .inr (h.dst hs h20)
theorem wW{ai:Int}(h:zo ai x):nM ai x.args/\x.args.length<=6:=by
 by_cases h20:x.op=20
 .exact h.args h20
 .have hf:=h.form;unfold bk at hf;have anf:(x.op==20)=false:=by simpa using h20
  rw[anf] at hf;simp at hf;have:x.args=[]:=JC (by have:=hf.2.2.2.2;simp[this]);rw[this];exact⟨nM.nil _,by simp⟩
theorem Lc{ai:Int}(h:zo ai x):nM ai x.args:=(wW h).1
theorem A9{ai:Int}{v:Bool×Int}(h:r8 ai v):fk ai.toNat v:=by intro h1;have:=h h1;omega
theorem VQ{ai:Int}(h:zo ai x):∀v∈ky x,r8 ai v:=by
 intro v hv;unfold ky at hv;rcases lE.1 hv with hv|hv
 .split at hv
  .simp at hv;subst hv;exact h.a
  .cases hv
 .rcases lE.1 hv with hv|hv
  .split at hv
   .simp at hv;subst hv;exact h.b
   .cases hv
  .exact Lc h v hv
structure mM(f:GF):Prop where
 head:yv f
 body:AZ f.ai f.blocks
 sm:∀b∈f.blocks,uv b
theorem mM.ends{f:GF}(F:mM f):jV f.blocks:=F.body.ends.ends (by have:=F.head.blocks;omega)
theorem mM.Q0(F:mM f):MI f.ai.toNat f.blocks:=by
 have hb:=F.head.blocks;have hm:=F.head.many;refine⟨by omega,fun b hb=>⟨by have:=mY hb;omega,fun q hq=>?_⟩,fun b hb=>⟨by have:=mY hb;omega,fun x hx=>?_⟩⟩
 .obtain⟨i,hi⟩:=sv hb;obtain⟨_,l,_,hp⟩:=(F.body.HJ i b hi).dQ q hq;have:=hp.dst;unfold u9 at this;omega
 .obtain⟨i,hi⟩:=sv hb;have hr:=F.head.ai;have hp:=F.head.params;rcases P0 ((F.body.HJ i b hi).list x hx) with h|h
  .omega
  .unfold u9 at h;omega
theorem mM.XE(F:mM f):MJ f.ai.toNat (Edge.bD (bt f.blocks)) f.blocks:=by
 have hm:=F.head.many;refine⟨fun i b hb=>⟨by have:=mY (dG hb);omega,fun ps iI q hq=>?_⟩,fun b hb=>⟨by have:=mY hb;omega,fun x hx=>?_⟩,fun b hb=>?_⟩
 .obtain⟨_,l,hl,hp⟩:=(F.body.HJ i b hb).dQ q hq;rw[hl] at iI;cases iI;exact⟨hp.len,fun v hv=>A9 (hp.row v hv)⟩
 .obtain⟨i,hi⟩:=sv hb;have:=(wW ((F.body.HJ i b hi).list x hx)).2;exact⟨by omega,fun v hv=>A9 (VQ ((F.body.HJ i b hi).list x hx) v hv)⟩
 .intro h1;have:=(F.body.ends b hb).on h1;omega
structure Dm(u:GU):Prop where
 unit:Dn u
 form:∀f∈u.funcs,mM f
 seen:∀f∈u.funcs,r6 f.blocks
 once:∀f∈u.funcs,(f.blocks.flatMap sq).Nodup
theorem Dm.of(U:Dn u)(sm:A8 u)(S:∀f∈u.funcs,r6 f.blocks/\(f.blocks.flatMap sq).Nodup):Dm u:=⟨U,fun f hf=>⟨U.head f hf,U.body f hf,sm.bs f hf⟩,fun f hf=>(S f hf).1,fun f hf=>(S f hf).2⟩
def amk(h0 h:ae)(R:Nat)(F:SV)(fs:List GF)(m:Nat)(e:Env)(h':ae):Prop:=
 ∃j:Nat,m=fs.length-j/\j<=fs.length/\ak e 2=.pointer (some ⟨R,0,none⟩)/\ak e 14=F.v/\ak e 15=.int .i64 fs.length/\ak e 16=.int .i64 j/\ab aK h h'/\∀f∈fs.take j,r6 f.blocks/\(f.blocks.flatMap sq).Nodup
theorem LW(ok:bm h)(hw:CA h){G F:SV}(hu:uR h G F u)(sm:A8 u):
  aF FF Cj [.agg ⟨[G.v,F.v]⟩] h (Dg (Dm u) h):=by
 have pC:=SliceR.len hu.2;refine aF.of JZ ?_;unfold BK;simp;refine aG.cut (fun h1=>ab aK h h1/\h1.tr.get h.next=some (.aC [G.v,F.v] false 0 0)/\h1.tr.get (h.next+1)=some (.aC [.int .i64 0,.int .i64 0] false 0 0)) ?_ ?_
 .exact⟨((ab.refl ok).new _ _).new _ _,by simp,by simp⟩
 rintro h1⟨g1,XU,uK⟩;refine aG.call (V:=Dg (Dn u) h1) (by simpa using Na g1.ok (hw.grow ok g1) (hu.mono ok g1) sm) ?_;rintro _ h2⟨g2,c,a,rfl,hc⟩;have mz:=g1.trans g2;have zU:=g2.get g1.ok XU;have AO:=g2.get g1.ok uK;simp at zU;have oR2:=g2.ok.bC AO;have oU2:=g2.ok.bC zU;rcases hc with hc|⟨rfl,rfl,hU⟩
 .have PK:(c==0)=false:=by simpa using hc
  simp[PK,AO,oR2,au,-ag];refine⟨ab.put (mz.var _ _) ⟨0,?_⟩ (.inl (by omega)),c,a,rfl,.inl hc⟩;rw[oq,aW (by have:=oR2.lt;omega),DU oR2,AO]
 simp[zU,oU2];refine aB.cut (fun h3=>ab aK h2 h3) ?_ ?_
 .exact(ab.refl g2.ok).var _ _
 intro h3 g3;have di:=mz.trans g3;have S:=hU;refine aB.loop (amk h h3 (h.next+1) F u.funcs) ?_ (n:=u.funcs.length) ⟨0,rfl,by omega,by simp,by simp,by simp[pC],by simp,.refl di.ok,fun f hf=>by simp at hf⟩;rintro m e h'⟨j,rfl,hj,q2,Hq,Ax,CO,g,hA⟩;have gg:=di.trans g;have hR:=(g3.trans g).get g2.ok AO;unfold yn;by_cases aS:j<u.funcs.length
 .have wj:=wrap_i64 ((j:Int)+1) (by omega) (by have:=hU.fn;omega);have hx:u.funcs[j]?=some u.funcs[j]:=fI aS;have hm:=zT aS;generalize u.funcs[j]=f at hx hm;have FO:mM f:=⟨hU.head f hm,hU.body f hm,sm.bs f hm⟩;have hd:=FO.head;obtain⟨b1,Sb,c1,zg,_,_,⟨B,rfl,sB⟩,o1,Bn⟩:=SliceR.later ok hu.2 hx;have r1:=Bn h' gg 0 4 (by decide);simp[-ag] at r1;simp at Hq;rw[zg,pC] at Hq;have hp:=hd.params;have hr:=hd.ai;obtain⟨pn,N1⟩:∃pn:Nat,f.params=pn:=⟨f.params.toNat,by omega⟩;obtain⟨rn,Rv⟩:∃rn:Nat,f.ai=rn:=⟨f.ai.toNat,by omega⟩;have D:=FO.Q0;have O:=FO.XE;have ern:f.ai.toNat=rn:=by omega
  rw[ern] at D O;simp[Hq,Ax,CO,aS,r1,-ag,au];refine aG.cut (fun h1=>ab aK h' h1) ((ab.refl gg.ok).var _ _) ?_;intro h5 g5;have Fh:=gg.trans g5;rw[N1,Rv];refine aG.call (V:=af1 f.blocks h5) (by simpa [aw] using HZ Fh.ok (name:=f.name) (sB.mono ok Fh fun _ _ r=>r.mono ok Fh) FO.ends (by have:=hd.blocks;omega) D O (by omega) (by omega)) ?_;rintro _ h6⟨g6,c,rfl,hc⟩;have NF:=(g5.trans g6).get gg.ok hR;have YU:=Fh.trans g6;by_cases AP:c=0
  .subst AP;simp[CO,wj];refine⟨u.funcs.length-(j+1),by omega,j+1,rfl,by omega,by simp[q2],by simp[Hq,zg,pC],by simp[Ax],by simp,(g.trans g5).trans g6,fun f' hf'=>?_⟩;rw[v9,hx] at hf';rcases lE.1 hf' with h1|h1
   .exact hA f' h1
   .simp at h1;subst h1;exact hc rfl
  .have hcn:(c !=0)=true:=by simpa using AP
   simp[hcn,AP];refine aG.call (by simpa using jl h6 YU.ok c (j:Int)) ?_;rintro _ h7⟨rfl,g7⟩;have hR7:=g7.get YU.ok NF;simp[q2,hR7];exact⟨(YU.trans g7).put ⟨_,hR7⟩ (.inl (by omega)),c,j,rfl,.inl AP⟩
 .have:j=u.funcs.length:=by omega
  subst this;rw[we] at hA;simp[Ax,CO,q2,hR];exact⟨gg.put ⟨_,hR⟩ (.inl (by omega)),0,0,rfl,.inr ⟨rfl,rfl,Dm.of hU sm hA⟩⟩
def eY{α:Type}(E:Enc α)(h:ae)(A:SV)(xs:List α):Prop:=
 A.l=xs.length/\((A.a=none/\A.c=0/\xs=[])\/∃b o s bg,A.a=some ⟨b,0,none⟩/\A.c=xs.length+bg.length/\h.tr.get b=some (.aC (E.flat (xs++bg)) false o s)/\(o=0\/o=E.sz))
section
variable{α:Type}{E:Enc α}{h h':ae}{A:SV}{xs:List α}
theorem eY.len(w:eY E h A xs):A.l=xs.length:=w.1
theorem eY.nil(E:Enc α)(h:ae):eY E h d_ []:=⟨rfl,.inl ⟨rfl,rfl,rfl⟩⟩
theorem cw(h:A.a=some ⟨b,0,none⟩):ax A.v b:=⟨0,A.l,A.c,by simp[h]⟩
theorem qw(h:A.a=some ⟨b,0,none⟩)(k:ax A.v b'):b'=b:=by obtain⟨off,n,cap,e⟩:=k;simp[h] at e;exact e.1.1.symm
theorem fS(h:A.a=none)(k:ax A.v b):False:=by obtain⟨off,n,cap,e⟩:=k;simp[h] at e
theorem eY.grow(w:eY E h A xs)(ok:bm h)(g:ab S h h')(hS:∀b,ax A.v b->¬S b):eY E h' A xs:=by
 obtain⟨hl,w⟩:=w;refine⟨hl,?_⟩;rcases w with w|⟨b,o,s,bg,ha,hc,hb,ho⟩
 .exact .inl w
 .exact .inr ⟨b,o,s,bg,ha,hc,g.get ok hb (hS b (cw ha)),ho⟩
theorem eY.bl(w:eY E h A xs)(ok:bm h)(g:ab aK h h'):eY E h' A xs:=w.grow ok g (fun _ _ h=>h)
theorem eY.sl(w:eY E h A xs):bc E h A.v xs:=by
 obtain⟨hl,w⟩:=w;refine⟨A.a,A.c,by simp[hl],?_⟩;rcases w with⟨ha,_,rfl⟩|⟨b,o,s,bg,ha,hc,hb,ho⟩
 .exact .inl ⟨rfl,.inl ha⟩
 .refine .inr ⟨b,0,_,_,_,_,ha,hb,?_,?_⟩
  .simp[tw]
  .rw[List.drop_zero,E.gW];simp
theorem eY.bC(w:eY E h A xs)(ok:bm h)(k:ax A.v b):b<h.next:=by
 obtain⟨hl,w⟩:=w;rcases w with⟨ha,_⟩|⟨b',o,s,bg,ha,hc,hb,ho⟩
 .exact(fS ha k).elim
 .rw[qw ha k];exact ok.wf _ _ hb
theorem L0(E:Enc α)(ys:List α)(i:Nat)(x y:α)(hx:ys[i]?=some x)(k:Nat)(vs:List Value)(hk:k+vs.length<=E.sz)(e:aH (E.enc x) k vs=E.enc y):aH (E.flat ys) (i*E.sz+k) vs=E.flat (ys.set i y):=by
 have hi:=(cr.mp hx).1;rw[List.set_eq_take_append_cons_drop,aZ hi,E.dN,E.eL,<-e];unfold aH;have h1:(E.flat ys).take (i*E.sz+k)=E.flat (ys.take i)++(E.enc x).take k:=by rw[List.take_add,E.gW];congr 1;rw[<-E.lL ys i x hx,List.take_take,Nat.min_eq_left (by omega)]
 have h2:(E.flat ys).drop (i*E.sz+k+vs.length)=(E.enc x).drop (k+vs.length)++E.flat (ys.drop (i+1)):=by rw[BW,<-List.drop_drop,E.kZ,List.drop_eq_getElem_cons hi,E.eL,List.drop_append,(cr.mp hx).2,E.len,show k+vs.length-E.sz=0 by omega,List.drop_zero]
 rw[h1,h2];simp[vu]
theorem eY.el(w:eY E h A xs){x:α}(hx:xs[i]?=some x):∃b cs o s,A.a=some ⟨b,0,none⟩/\h.tr.get b=some (.aC cs false o s)/\i<A.l/\(∀k m,k+m<=E.sz->i*E.sz+k+m<=cs.length)/\
  (∀k m,k+m<=E.sz->aV h b (i*E.sz+k) m=some (((E.enc x).drop k).take m))/\
  ∀y k vs,k+vs.length<=E.sz->aH (E.enc x) k vs=E.enc y->∀h1:ae,(∃s,h1.tr.get b=some (.aC (aH cs (i*E.sz+k) vs) false o s))->eY E h1 A (xs.set i y):=by
 obtain⟨hl,w⟩:=w;have hi:=(cr.mp hx).1;rcases w with⟨ha,_,rfl⟩|⟨b,o,s,bg,ha,hc,hb,ho⟩
 .simp at hi
 .have rQ:(xs++bg)[i]?=some x:=by rw[Ky hi];exact hx
  have bY:∀k m,k+m<=E.sz->i*E.sz+k+m<=(E.flat (xs++bg)).length:=by intro k m hkm;rw[E.bI,GJ];have:(i+1)*E.sz<=(xs.length+bg.length)*E.sz:=DX _ (by omega);rw[tw] at this;omega
  refine⟨b,_,o,s,ha,hb,by omega,bY,fun k m hkm=>?_,fun y k vs hk e h1 ⟨s1,D1⟩=>⟨by simpa using hl,.inr ⟨b,o,s1,bg,ha,by simpa using hc,?_,ho⟩⟩⟩
  .rw[bV hb (bY k m hkm),E.lx _ _ _ _ _ rQ hkm]
  .rw[D1,L0 E _ _ _ _ rQ k vs hk e,List.set_append,aZ hi]
theorem OP(E:Enc α)(xs ys bg:List α)(h:ys.length<=bg.length):aH (E.flat (xs++bg)) (xs.length*E.sz) (E.flat ys)=E.flat ((xs++ys)++bg.drop ys.length):=by unfold aH;rw[E.gW,E.bI,<-tw,E.kZ];have:List.drop (xs.length+ys.length) xs=[]:=UO (by omega);simp[List.drop_append,this]
theorem Dt{ys:List α}(ok:bm h)(hz:z.length=E.sz)(w:eY E h A xs)(hw:bc E h v ys)(hl:xs.length+ys.length<2000000)(CI:bytes<=1000):
  ∃(A':SV) (h':ae),nD h z bytes false A.v v=some (A'.v,h')/\eY E h' A' (xs++ys)/\ab (ax A.v) h h'/\(∀b,ax A'.v b->ax A.v b\/b=h.next)/\(A.c=A.l->A'.c=A'.l):=by
 have hp:=E.pos;have hp':E.sz≠0:=by omega
 have bY:=w.1;unfold nD;rw[I2 hz hw];dsimp only;cases ys with
 |nil=>
  refine⟨A,h,?_,by simpa using w,.refl ok,fun b hb=>.inl hb,fun h=>h⟩;have:A.l<=A.c:=by
   rcases w.2 with⟨_,h2,rfl⟩|⟨_,_,_,bg,_,h2,_⟩
   .rw[bY];simp
   .omega
  simp[ib,hz,hp,this]
 |cons y ys=>
  have r1:roomy (xs.length+(ys.length+1))=true:=by simp[roomy];simp at hl;omega
  have r2:roomy ((xs.length+(ys.length+1))*bytes)=true:=by have:(xs.length+(ys.length+1))*bytes<=2000000*1000:=Nat.mul_le_mul (by simp at hl;omega) CI;simp[roomy];omega
  have KX:(E.flat (y::ys)).length=(ys.length+1)*E.sz:=by rw[E.bI,List.length_cons]
  obtain⟨cs,ID⟩:∃cs,cs=E.flat (y::ys):=⟨_,rfl⟩;rw[<-ID] at KX⊢;rcases w.2 with⟨ha,hc,rfl⟩|⟨b,o,s,bg,ha,hc,hb,ho⟩
  .refine⟨⟨some ⟨h.next,0,none⟩,ys.length+1,ys.length+1⟩,aJ h cs E.sz,?_,⟨by simp,.inr ⟨h.next,E.sz,0,[],rfl,by simp,?_,.inr rfl⟩⟩,(aP ok _ _).bl,fun b hb=>.inr (qw rfl hb),fun _=>rfl⟩
   .simp only[List.length_nil,BX] at r1 r2 bY;simp[ib,hz,hp,r1,r2,ha,hc,bY]
   .rw[bS,ID];simp
  .have dS:(E.flat (xs++bg)).take (xs.length*E.sz)=E.flat xs:=by rw[E.gW];simp
   by_cases lr:xs.length+(ys.length+1)<=A.c
   .have eU:xs.length*E.sz+(ys.length+1)*E.sz<=(xs.length+bg.length)*E.sz:=by rw[<-tw];exact DX _ (by omega)
    refine⟨⟨A.a,xs.length+(ys.length+1),A.c⟩,put h b (xs.length*E.sz) (E.flat (xs++bg)) cs o,?_,⟨by simp,.inr ⟨b,o,h.clock,bg.drop (ys.length+1),ha,by simp;omega,?_,ho⟩⟩,?_,?_,fun h=>by omega⟩
    .simp[ib,hz,hp,r1,r2,ha,bY,lr,hb,KX];have GQ:(ys.length+1)*E.sz<=bg.length*E.sz:=DX _ (by omega);rw[aZ GQ]
    .rw[aD,ID,OP E xs (y::ys) bg (by simp;omega)];rfl
    .exact(aQ ok hb).bU (fun x _ e=>e▸cw ha)
    .intro b' gk;have:=qw (A:=⟨A.a,xs.length+(ys.length+1),A.c⟩) ha gk;exact .inl (this▸cw ha)
   .have abi:((E.flat (xs++bg)).drop 0).take (xs.length*E.sz)=E.flat xs:=by rw[List.drop_zero,dS]
    have PM:E.flat xs++cs=E.flat (xs++y::ys++[]):=by rw[ID,List.append_nil,E.dN]
    rcases ho with rfl|rfl
    .refine⟨⟨some ⟨h.next,0,none⟩,xs.length+(ys.length+1),xs.length+(ys.length+1)⟩,aJ h (E.flat xs++cs) E.sz,?_,⟨by simp,.inr ⟨h.next,E.sz,0,[],rfl,by simp,?_,.inr rfl⟩⟩,(aP ok _ _).bl,fun b hb=>.inr (qw rfl hb),fun _=>rfl⟩
     .simp[ib,hz,hp,r1,r2,ha,bY,lr,hb,dS]
     .rw[bS,PM]
    .refine⟨⟨some ⟨h.next,0,none⟩,xs.length+(ys.length+1),xs.length+(ys.length+1)⟩,aJ {h with tr:=h.tr.del b} (E.flat xs++cs) E.sz,?_,⟨by simp,.inr ⟨h.next,E.sz,0,[],rfl,by simp,?_,.inr rfl⟩⟩,?_,fun b hb=>.inr (qw rfl hb),fun _=>rfl⟩
     .have CJ:A.c*E.sz=(xs.length+bg.length)*E.sz:=by rw[hc]
      simp[ib,hz,hp,r1,r2,ha,bY,lr,hb,dS,hp'];intro cq;have:Nat.beq (A.c*E.sz) (xs.length*E.sz+bg.length*E.sz)=true:=by rw[CJ,tw];exact Nat.beq_refl _
      rw[this] at cq;cases cq
     .have:=bS {h with tr:=h.tr.del b} (E.flat xs++cs) E.sz;rw[<-PM];exact this
     .refine((ou ok b).bU ?_).trans (aP (ou ok b).ok _ _).bl;rintro x _ rfl;exact cw ha
end
def Gp(z:List Value)(bytes:Nat):aq:=(G_ [o_ 2 (.mv (.const (.slice none 0 0)))] (J_ (G_ [m_ 3 0,o_ 4 (.bin .eql [3] (t_ 3) (.const (.slice none 0 0)))] (I_ 4 (G_ [o_ 2 (.mv (.const (.slice none 0 0)))] .ret) .skip)) (G_ [o_ 5 (.fH 0 [] []),m_ 6 0,o_ 7 (.append z bytes false (t_ 5) (t_ 6)),m_ 2 7] .ret)))
def tj{α:Type}(E:Enc α)(h:ae)(xs:List α)(r:Value)(h':ae):Prop:=ab aK h h'/\∃w:SV,r=w.v/\eY E h' w xs/\(∀b,ax w.v b->h.next<=b)/\w.c=w.l
theorem jM(E:Enc α){f bytes:Nat}(hf:FF f=some ⟨[.tmp 2],Gp z bytes,.no⟩)(hz:z.length=E.sz)(CI:bytes<=1000)(ok:bm h){v:SV}{xs:List α}(hs:bc E h v.v xs)(bY:xs.length<2000000):
  aF FF f [v.v] h (tj E h xs):=by
 have hp:=E.pos;have JF:v.l=xs.length:=by obtain⟨a,cap,e,_⟩:=hs;simp at e;exact e.2.1
 refine aF.of hf ?_;unfold Gp;cases ha:v.a with
 |none=>
  have hx:xs=[]:=by
   obtain⟨a,cap,e,h2⟩:=hs;simp[ha] at e;rcases h2 with h2|⟨b,off,cs,ro,o,st,e2,_⟩
   .exact h2.1
   .rw[e2] at e;simp at e
  subst hx;simp[ha];exact⟨.refl ok,d_,rfl,eY.nil E h,fun b hb=>(fS rfl hb).elim,rfl⟩
 |some a0=>
  have g0:=aP ok [] 0;have w0:eY E (aJ h [] 0) ⟨some ⟨h.next,0,none⟩,0,0⟩ ([]:List α):=⟨rfl,.inr ⟨h.next,0,0,[],rfl,rfl,bS _ _ _,.inl rfl⟩⟩;obtain⟨A',h',PJ,wA,gA,hbA,hcA⟩:=Dt (bytes:=bytes) g0.ok hz w0 (hs.bl ok g0) (by simpa using bY) CI;have hh:=PJ;simp[ha,JF] at PJ;simp[ha,JF];refine iE PJ ?_;simp;refine⟨g0.trans' gA (fun _ _ h=>h) (fun x hx e=>by have:=qw rfl e;omega),A',by simp,by simpa using wA,fun b hb=>?_,hcA rfl⟩;rcases hbA b hb with h|h
  .rw[qw rfl h];exact dw _
  .rw[h];simp
structure XI where
 op:Int
 dst:Int
 a:Bool×Int
 b:Bool×Int
 fn:Int
 args:SV
structure XR where
 P:SV
 L:SV
 T:SV
 kind:Int
 on:Bool×Int
 ps:List (Int×SV)
 ls:List XI
 ts:List Int
def bx:Enc (Bool×Int):=⟨fun x=>[.bool x.1,.int .i64 x.2],2,fun _=>rfl,by decide,fun _=>rfl⟩
@[simp] theorem dI:bx.sz=2:=rfl
@[simp] theorem qB(x:Bool×Int):bx.enc x=[.bool x.1,.int .i64 x.2]:=rfl
def gL:Enc (Int×SV):=⟨fun x=>[.int .i64 x.1,x.2.v],2,fun _=>rfl,by decide,fun _=>rfl⟩
@[simp] theorem ake:gL.sz=2:=rfl
@[simp] theorem agH(x:Int×SV):gL.enc x=[.int .i64 x.1,x.2.v]:=rfl
def jZ:Enc XI:=⟨fun x=>[.int .i64 x.op,.int .i64 x.dst,.bool x.a.1,.int .i64 x.a.2,.bool x.b.1,.int .i64 x.b.2,.int .i64 x.fn,x.args.v],8,fun _=>rfl,by decide,fun _=>rfl⟩
@[simp] theorem aki:jZ.sz=8:=rfl
@[simp] theorem UC(x:XI):jZ.enc x=[.int .i64 x.op,.int .i64 x.dst,.bool x.a.1,.int .i64 x.a.2,.bool x.b.1,.int .i64 x.b.2,.int .i64 x.fn,x.args.v]:=rfl
def fC:Enc XR:=⟨fun x=>[x.P.v,x.L.v,.int .i64 x.kind,.bool x.on.1,.int .i64 x.on.2,x.T.v],6,fun _=>rfl,by decide,fun _=>rfl⟩
@[simp] theorem akf:fC.sz=6:=rfl
@[simp] theorem qz(x:XR):fC.enc x=[x.P.v,x.L.v,.int .i64 x.kind,.bool x.on.1,.int .i64 x.on.2,x.T.v]:=rfl
def VA(κ cap:Nat->Nat)(A:SV):Prop:=A.l<=A.c/\((A.a=none/\A.c=0)\/∃b,A.a=some ⟨b,0,none⟩/\κ b=1/\A.c=cap b)
def yy(h:ae)(κ cap:Nat->Nat)(ai:Nat):Prop:=∀b,κ b=1->∃vs o s,h.tr.get b=some (.aC (bx.flat vs) false o s)/\(o=0\/o=2)/\vs.length=cap b/\∀v∈vs,fk ai v
structure Po(h:ae)(κ cap:Nat->Nat)(ai:Nat)(r:XR):Prop where
 P:eY gL h r.P r.ps
 L:eY jZ h r.L r.ls
 T:eY bj h r.T r.ts
 kP:∀b,ax r.P.v b->κ b=3
 kL:∀b,ax r.L.v b->κ b=4
 kT:∀b,ax r.T.v b->κ b=5
 ps:∀p∈r.ps,(0<=p.1/\p.1<ai)/\VA κ cap p.2
 ls:∀x∈r.ls,x.dst<ai/\fk ai x.a/\fk ai x.b/\VA κ cap x.args
 on:fk ai r.on
structure cn(h:ae)(n0 ai:Nat)(κ cap:Nat->Nat)(rs:List XR):Prop where
 r:∀(i:Nat)(r:XR),rs[i]?=some r->Po h κ cap ai r
 dP:∀(i j:Nat)(ri rj:XR)(b:Nat),rs[i]?=some ri->rs[j]?=some rj->i≠j->ax ri.P.v b->¬ax rj.P.v b
 dL:∀(i j:Nat)(ri rj:XR)(b:Nat),rs[i]?=some ri->rs[j]?=some rj->i≠j->ax ri.L.v b->¬ax rj.L.v b
 dT:∀(i j:Nat)(ri rj:XR)(b:Nat),rs[i]?=some ri->rs[j]?=some rj->i≠j->ax ri.T.v b->¬ax rj.T.v b
 V:yy h κ cap ai
 new:∀b,κ b≠0->n0<=b/\b<h.next
section
variable{h h':ae}{n0 ai:Nat}{κ cap:Nat->Nat}
theorem yy.grow(w:yy h κ cap ai)(ok:bm h)(g:ab S h h')(hS:∀b,S b->κ b≠1):yy h' κ cap ai:=by intro b hb;obtain⟨vs,o,s,h1,h2⟩:=w b hb;exact⟨vs,o,s,g.get ok h1 (fun hs=>hS b hs hb),h2⟩
theorem Po.grow{S:Nat->Prop}{r:XR}(w:Po h κ cap ai r)(ok:bm h)(g:ab S h h')(hS:∀b,S b->¬ax r.P.v b/\¬ax r.L.v b/\¬ax r.T.v b):Po h' κ cap ai r:=
 ⟨w.P.grow ok g (fun b hb hs=>(hS b hs).1 hb),w.L.grow ok g (fun b hb hs=>(hS b hs).2.1 hb),w.T.grow ok g (fun b hb hs=>(hS b hs).2.2 hb),w.kP,w.kL,w.kT,w.ps,w.ls,w.on⟩
theorem Po.aaW{r:XR}(w:Po h κ cap ai r)(ok:bm h)(g:ab S h h')(hS:∀b,S b->κ b≠3/\κ b≠4/\κ b≠5):Po h' κ cap ai r:=
 w.grow ok g (fun b hs=>⟨fun h=>(hS b hs).1 (w.kP b h),fun h=>(hS b hs).2.1 (w.kL b h),fun h=>(hS b hs).2.2 (w.kT b h)⟩)
theorem cn.grow{S:Nat->Prop}{rs:List XR}(w:cn h n0 ai κ cap rs)(ok:bm h)(g:ab S h h')(hS:∀b,S b->κ b=0\/κ b=2):cn h' n0 ai κ cap rs:=
 ⟨fun i r hr=>(w.r i r hr).aaW ok g (fun b hs=>by have:=hS b hs;omega),w.dP,w.dL,w.dT,w.V.grow ok g (fun b hs=>by have:=hS b hs;omega),fun b hb=>by have:=w.new b hb;have:=g.next;omega⟩
theorem cn.bl{rs:List XR}(w:cn h n0 ai κ cap rs)(ok:bm h)(g:ab aK h h'):cn h' n0 ai κ cap rs:=w.grow ok g (fun _ h=>h.elim)
theorem VA.congr{κ' iL:Nat->Nat}(w:VA κ cap A)(e:∀b,κ b=1->κ' b=1/\iL b=cap b):VA κ' iL A:=by
 obtain⟨hl,h|⟨b,h1,h2,h3⟩⟩:=w
 .exact⟨hl,.inl h⟩
 .exact⟨hl,.inr ⟨b,h1,(e b h2).1,by rw[(e b h2).2,h3]⟩⟩
theorem Po.congr{κ' iL:Nat->Nat}{r:XR}(w:Po h κ cap ai r)(e:∀b,κ b≠0->κ' b=κ b/\iL b=cap b):Po h κ' iL ai r:=by
 have e1:∀b,κ b=1->κ' b=1/\iL b=cap b:=fun b hb=>by have:=e b (by omega);exact⟨by omega,this.2⟩
 exact⟨w.P,w.L,w.T,fun b hb=>by have:=w.kP b hb;rw[(e b (by omega)).1,this],fun b hb=>by have:=w.kL b hb;rw[(e b (by omega)).1,this],fun b hb=>by have:=w.kT b hb;rw[(e b (by omega)).1,this],
  fun p hp=>⟨(w.ps p hp).1,(w.ps p hp).2.congr e1⟩,fun x hx=>⟨(w.ls x hx).1,(w.ls x hx).2.1,(w.ls x hx).2.2.1,(w.ls x hx).2.2.2.congr e1⟩,w.on⟩
def Cc(M:Nat)(f g:Nat->Nat)(b:Nat):Nat:=if b<M then f b else g b
theorem cn.push{rs:List XR}{κn QU:Nat->Nat}{r:XR}(w:cn h n0 ai κ cap rs)(ok:bm h)(g:ab S h h')(hS:∀b,S b->κ b=0\/κ b=2)(hn:n0<=h.next)(R:Po h' κn QU ai r)(V:yy h' κn QU ai)(new:∀b,κn b≠0->h.next<=b/\b<h'.next):
  cn h' n0 ai (Cc h.next κ κn) (Cc h.next cap QU) (rs++[r]):=by
 have w':=w.grow ok g hS;have e1:∀b,κ b≠0->Cc h.next κ κn b=κ b/\Cc h.next cap QU b=cap b:=by intro b hb;have:=(w.new b hb).2;exact⟨aZ this,aZ this⟩
 have e2:∀b,κn b≠0->Cc h.next κ κn b=κn b/\Cc h.next cap QU b=QU b:=by intro b hb;have:=(new b hb).1;exact⟨aW (by omega),aW (by omega)⟩
 have sep:∀(f:XR->SV)(k:Nat),k≠0->(∀(i:Nat)(ri:XR),rs[i]?=some ri->∀b,ax (f ri).v b->κ b=k)->(∀b,ax (f r).v b->κn b=k)->(∀(i j:Nat)(ri rj:XR)(b:Nat),rs[i]?=some ri->rs[j]?=some rj->i≠j->ax (f ri).v b->¬ax (f rj).v b)->
   ∀(i j:Nat)(ri rj:XR)(b:Nat),(rs++[r])[i]?=some ri->(rs++[r])[j]?=some rj->i≠j->ax (f ri).v b->¬ax (f rj).v b:=by
  intro f k hk h1 h2 d i j ri rj b hi hj wq hbi U8;have cases:∀(i:Nat)(x:XR),(rs++[r])[i]?=some x->rs[i]?=some x\/(i=rs.length/\x=r):=by
   intro i x hx;rcases zf i rs.length with hl|hl
   .rw[Ky hl] at hx;exact .inl hx
   .rw[Mu hl] at hx;have:i-rs.length=0:=by have:=(cr.mp hx).1;simp at this;omega
    rw[this] at hx;simp at hx;exact .inr ⟨by omega,hx.symm⟩
  rcases cases i ri hi with a|⟨a1,rfl⟩
  .rcases cases j rj hj with c|⟨c1,rfl⟩
   .exact d i j ri rj b a c wq hbi U8
   .have:=w.new b (by rw[h1 i ri a b hbi];exact hk);have:=new b (by rw[h2 b U8];exact hk);omega
  .rcases cases j rj hj with c|⟨c1,rfl⟩
   .have:=w.new b (by rw[h1 j rj c b U8];exact hk);have:=new b (by rw[h2 b hbi];exact hk);omega
   .omega
 refine⟨fun i x hx=>?_,sep (·.P) 3 (by decide) (fun i ri hi=>(w.r i ri hi).kP) R.kP w.dP,sep (·.L) 4 (by decide) (fun i ri hi=>(w.r i ri hi).kL) R.kL w.dL,sep (·.T) 5 (by decide) (fun i ri hi=>(w.r i ri hi).kT) R.kT w.dT,fun b hb=>?_,fun b hb=>?_⟩
 .rcases zf i rs.length with hl|hl
  .rw[Ky hl] at hx;exact(w'.r i x hx).congr e1
  .rw[Mu hl] at hx;have:x=r:=by
    have h0:i-rs.length=0:=by have:=(cr.mp hx).1;simp at this;omega
    rw[h0] at hx;simp at hx;exact hx.symm
   subst this;exact R.congr e2
 .unfold Cc at hb⊢;split at hb
  .rename_i dS;rw[aZ dS];exact w'.V b hb
  .rename_i dS;rw[aW dS];exact V b hb
 .unfold Cc at hb;split at hb
  .have:=w'.new b hb;exact this
  .have:=new b hb;omega
theorem cn.nil(h:ae)(n0 ai:Nat):cn h n0 ai (fun _=>0) (fun _=>0) []:=⟨fun i r hr=>by simp at hr,fun i j ri rj b hr=>by simp at hr,fun i j ri rj b hr=>by simp at hr,fun i j ri rj b hr=>by simp at hr,fun b hb=>absurd hb (by decide),fun b hb=>absurd rfl hb⟩
end
theorem Ho{α β:Type}{E:Enc β}{Q:β->α->Prop} :∀(xs:List α)(f:Nat->List Value),(∀(i:Nat)(x:α),xs[i]?=some x->∃y,f i=E.enc y/\Q y x)->∃ys:List β,ys.length=xs.length/\∀(i:Nat)(y:β)(x:α),ys[i]?=some y->xs[i]?=some x->f i=E.enc y/\Q y x
 |[],f,_=>⟨[],rfl,fun i y x h=>by simp at h⟩
 |x::xs,f,H=>by
  obtain⟨y,h1,h2⟩:=H 0 x rfl;obtain⟨ys,hl,h3⟩:=Ho xs (fun i=>f (i+1)) (fun i x hx=>H (i+1) x hx);refine⟨y::ys,by simp[hl],fun i y' x' hy hx=>?_⟩;cases i with
  |zero=>simp at hy hx;subst hy;subst hx;exact⟨h1,h2⟩
  |succ i=>exact h3 i y' x' hy hx
theorem YT(E:Enc β)(cs:List Value):∀(ys:List β),(∀(i:Nat)(y:β),ys[i]?=some y->(cs.drop (i*E.sz)).take E.sz=E.enc y)->cs.take (ys.length*E.sz)=E.flat ys:=by
 intro ys;induction ys generalizing cs with
 |nil=>intro _;simp
 |cons y ys ih=>
  intro H;have h0:=H 0 y rfl;rw[Nat.zero_mul,List.drop_zero] at h0;have h1:=ih (cs.drop E.sz) (fun i z hz=>by have:=H (i+1) z hz;rw[tw,Nat.one_mul,Nat.add_comm] at this;rw[List.drop_drop];exact this)
  rw[List.length_cons,tw,Nat.one_mul,Nat.add_comm,List.take_add,h0,h1,E.eL]
theorem SliceR.pick{R:List Value->α->Prop}{E:Enc β}{Q:β->α->Prop}{xs:List α}(s:SliceR R E.sz h v xs)(hR:∀c x,R c x->∃y,c=E.enc y/\Q y x):
  ∃ys:List β,ys.length=xs.length/\bc E h v ys/\∀(i:Nat)(y:β)(x:α),ys[i]?=some y->xs[i]?=some x->Q y x:=by
 obtain⟨a,cap,rfl,s⟩:=s;rcases s with⟨rfl,s⟩|⟨b,off,cs,ro,o,st,rfl,hb,he⟩
 .exact⟨[],rfl,⟨a,cap,rfl,.inl ⟨rfl,s⟩⟩,fun i y x h=>by simp at h⟩
 .obtain⟨ys,hl,H⟩:=Ho (E:=E) (Q:=Q) xs (fun i=>(cs.drop (off+i*E.sz)).take E.sz) (fun i x hx=>hR _ _ (he i x hx).2);refine⟨ys,hl,⟨_,cap,by rw[hl],?_⟩,fun i y x hy hx=>(H i y x hy hx).2⟩;rcases ve xs.length with h0|h0
  .exact .inl ⟨JC (by omega),.inr ⟨b,off,rfl⟩⟩
  refine .inr ⟨b,off,cs,ro,o,st,rfl,hb,?_,?_⟩
  .rw[hl];have:=(he (xs.length-1) _ (fI (by omega))).1;rw[List.length_take,List.length_drop] at this;have hp:=E.pos;have e:xs.length*E.sz=(xs.length-1)*E.sz+E.sz:=by rw[<-Nat.succ_mul];congr 1;omega
   rw[e];omega
  .refine YT E (cs.drop off) ys (fun i y hy=>?_);have gY:=(cr.mp hy).1;have hx:xs[i]?=some xs[i]:=fI (by omega);rw[List.drop_drop];exact(H i y _ hy hx).1
theorem abS{xs:List (Bool×Int)}(s:SliceR vR 2 h v xs):bc bx h v xs:=by
 obtain⟨ys,hl,s',H⟩:=SliceR.pick (E:=bx) (Q:=fun y x=>y=x) s (fun c x e=>⟨x,e,rfl⟩);have:ys=xs:=zS fun i=>by
  rcases zf i xs.length with hi|hi
  .have h1:xs[i]?=some xs[i]:=fI hi;have h2:ys[i]?=some (ys[i]'(by omega)):=fI (by omega);rw[h2,H i _ _ h2 h1,h1]
  .rw[tS (by omega),tS (by omega)]
 exact this▸s'
structure qe(h:ae)(M ai:Nat)(κ cap:Nat->Nat):Prop where
 V:yy h κ cap ai
 new:∀b,κ b≠0->κ b=1/\M<=b/\b<h.next
theorem qe.grow{S:Nat->Prop}{h h':ae}{M ai:Nat}{κ cap:Nat->Nat}(w:qe h M ai κ cap)(ok:bm h)(g:ab S h h')(hS:∀b,S b->κ b=0):qe h' M ai κ cap:=
 ⟨w.V.grow ok g (fun b hs=>by have:=hS b hs;omega),fun b hb=>by have:=w.new b hb;have:=g.next;omega⟩
def CB(f:Nat->Nat)(A:SV)(k:Nat)(b:Nat):Nat:=match A.a with
 |some p=>if p.block=b then k else f b
 |none=>f b
theorem pN{f:Nat->Nat}(h:A.a=some ⟨b,0,none⟩):CB f A k b=k:=by unfold CB;rw[h];simp
theorem kz{f:Nat->Nat}(h:A.a=some ⟨b,0,none⟩)(n:b≠b'):CB f A k b'=f b':=by unfold CB;rw[h];simp[n]
theorem qe.add{M ai:Nat}{vs:List (Bool×Int)}(w:qe h M ai κ cap)(ok:bm h)(g:ab aK h h')(hM:M<=h.next)(hA:eY bx h' F vs)(hF:∀b,ax F.v b->h.next<=b)(hv:∀v∈vs,fk ai v)(hc:F.c=F.l):
  ∃κ' iL:Nat->Nat,qe h' M ai κ' iL/\VA κ' iL F/\(∀b,κ b≠0->κ' b=κ b/\iL b=cap b)/\∀b,b<h.next->κ' b=κ b:=by
 have w':=w.grow ok g (fun _ h=>h.elim);obtain⟨hl,hA⟩:=hA;rcases hA with⟨ha,hc,rfl⟩|⟨b,o,s,bg,ha,hc,hb,ho⟩
 .exact⟨κ,cap,w',⟨by rw[hl];simp,.inl ⟨ha,hc⟩⟩,fun b _=>⟨rfl,rfl⟩,fun b _=>rfl⟩
 .have hr:bg=[]:=JC (by omega);subst hr;have lq:h.next<=b:=hF b (cw ha);have ne:∀b',κ b'≠0->b≠b':=fun b' gk e=>by have:=(w.new b' gk).2.2;omega
  have nd:=w'.new;refine⟨CB κ F 1,CB cap F vs.length,⟨fun b' gk=>?_,fun b' gk=>?_⟩,⟨by omega,.inr ⟨b,ha,pN ha,by rw[pN ha,hc];rfl⟩⟩,fun b' gk=>⟨kz ha (ne b' gk),kz ha (ne b' gk)⟩,fun b' gk=>kz ha (by omega)⟩
  .by_cases e:b=b'
   .subst e;exact⟨vs,o,s,by simpa using hb,ho,by rw[pN ha],hv⟩
   .rw[kz ha e] at gk⊢;exact w'.V b' gk
  .by_cases e:b=b'
   .subst e;exact⟨pN ha,by omega,g.ok.wf _ _ hb⟩
   .rw[kz ha e] at gk⊢;exact nd b' gk
def aaM(κ cap:Nat->Nat)(q:Int×SV)(p:GP):Prop:=q.1=p.dst/\VA κ cap q.2/\q.2.l=p.row.length
def Pn(h0:ae)(q:Int×SV)(p:GP):Prop:=q.1=p.dst/\SliceR vR 2 h0 q.2.v p.row
def CpI(h0 h:ae)(e:Env)(M X s0:Nat)(xc:List Value)(P':SV)(xK:List GP)(ai:Nat)(κ0 pP:Nat->Nat)(m:Nat)(e':Env)(h':ae):Prop:=
 ∃(j:Nat) (κ cap:Nat->Nat) (qs:List (Int×SV)),m=xK.length-j/\j<=xK.length/\aA [5,6,28,29,30,31,32,33,34,35,36,37,38,39,40,41] e e'/\ak e' 28=.int .i64 j/\ab (ax P'.v) h h'/\h'.tr.get X=some (.aC xc false 0 s0)/\eY gL h' P' qs/\qs.length=xK.length/\
  (∀(i:Nat)(q:Int×SV)(p:GP),qs[i]?=some q->xK[i]?=some p->(i<j->aaM κ cap q p)/\(j<=i->Pn h0 q p))/\qe h' M ai κ cap/\(∀b,b<h.next->κ b=κ0 b)/\∀b,κ0 b≠0->κ b=κ0 b/\cap b=pP b
theorem QX(oD:bm h0)(g0:ab aK h0 h){M X s0 ai:Nat}{P' L T:SV}{qs:List (Int×SV)}(hP:eY gL h P' qs)(bY:qs.length=xK.length)(hq:∀(i:Nat)(q:Int×SV)(p:GP),qs[i]?=some q->xK[i]?=some p->Pn h0 q p)(jq:∀p∈xK,p.row.length<2000000/\∀v∈p.row,fk ai v)(uj:xK.length<1000000)(hM0:h0.next<=M)(hMh:M<=h.next)(hPM:∀b,ax P'.v b->M<=b/\κ b=0/\b≠X)(hX:h.tr.get X=some (.aC [P'.v,L.v,.int .i64 kind,.bool on.1,.int .i64 on.2,T.v] false 0 s0))(W:qe h M ai κ cap)(f4:ak e 4=.pointer (some ⟨X,0,none⟩))(f26:ak e 26=P'.v)(f27:ak e 27=.int .i64 xK.length)(f28:ak e 28=.int .i64 0)(C:∀e' h' κ' iL qs',aA [5,6,28,29,30,31,32,33,34,35,36,37,38,39,40,41] e e'->ab (ax P'.v) h h'->h'.tr.get X=some (.aC [P'.v,L.v,.int .i64 kind,.bool on.1,.int .i64 on.2,T.v] false 0 s0)->eY gL h' P' qs'->qs'.length=xK.length->(∀(i:Nat)(q:Int×SV)(p:GP),qs'[i]?=some q->xK[i]?=some p->aaM κ' iL q p)->qe h' M ai κ' iL->(∀b,b<h.next->κ' b=κ b)->(∀b,κ b≠0->κ' b=κ b/\iL b=cap b)->QQ (.exit 2) e' h'):
  aB FF (.loop rh) e h QQ:=by
 have kj:=hP.len;refine aB.loop (CpI h0 h e M X s0 [P'.v,L.v,.int .i64 kind,.bool on.1,.int .i64 on.2,T.v] P' xK ai κ cap) ?_ (n:=xK.length)
  ⟨0,κ,cap,qs,rfl,by omega,aA.refl _ _,f28,.refl g0.ok,hX,hP,bY,fun i q p h1 h2=>⟨fun h=>by omega,fun _=>hq i q p h1 h2⟩,W,fun _ _=>rfl,fun _ _=>⟨rfl,rfl⟩⟩
 rintro m e' h'⟨j,κ1,xB,qs1,rfl,hj,K,EO,g,yS,Y5,B9,H1,W1,VJ,AQ⟩;have q4:=K.at f4;have TJ:=K.at f26;have MF:=K.at f27;have bz:=g.ok;have gg:ab aK h0 h':=g0.trans' g (fun _ _ h=>h) (fun x hx e=>by have:=(hPM x e).1;omega);unfold rh;by_cases aS:j<xK.length
 .have wj:=wrap_i64 ((j:Int)+1) (by omega) (by omega);obtain⟨p,hp⟩:=aE xK j aS;obtain⟨q,hqj⟩:=aE qs1 j;obtain⟨Zs,Vu⟩:=(H1 j q p hqj hp).2 (dw _);obtain⟨vj,Zv⟩:=jq p (dG hp);obtain⟨b,cs,o,s,rM,hb,Yc,eU,dj,gE⟩:=Y5.el hqj;have ND:=Y5.len;have r0:=dj 0 2 (by decide);have oX:=bz.bC yS;have C0:=bz.st _ _ _ _ _ yS;have ob:=bz.bC hb;have nX:¬X=b:=fun e=>(hPM b (cw rM)).2.2 e.symm;simp[-ag] at r0;have IC:=yS;simp at IC;rw[rM,ND,B9] at IC;simp at TJ;rw[rM,ND,B9] at TJ;have VC:s0<=h'.clock+1:=by omega
  simp[q4,TJ,MF,EO,aS,r0,-ag,au,aX,aN,oX,av IC,ay];refine aU.cut (fun h5=>ab aK h' h5) ?_ ?_
  .exact((ab.refl bz).var _ _).tick
  intro h5 g5;have W5:=W1.grow bz g5 (fun _ h=>h.elim);have uL:=g5.get bz IC;have Zc:=g5.get bz hb;have oS:=gg.trans g5;refine aU.call (V:=tj bx h5 p.row) (by simpa using jM bx (bytes:=16) gJ rfl (by decide) oS.ok ((abS Vu).bl oD oS) vj) ?_;rintro _ h6⟨g6,F,rfl,hF,KC,hFc⟩;have hM5:M<=h5.next:=by have:=g.next;have:=g5.next;omega
  obtain⟨κ2,J7,W6,hVF,VK,hκ3⟩:=W5.add oS.ok g6 hM5 hF KC Zv hFc;have wU:=g6.get oS.ok uL;have NJ:=g6.get oS.ok Zc;have zX:=eU 1 1 (by decide);simp at zX;simp[wU,VC,aS,NJ,zX,EO,wj,q4];have gw:ab (· =b) h6 (put h6 b (j*2+1) cs [.slice F.a F.l F.c] o):=aQ g6.ok NJ;have nb:∀b',b'=b->κ2 b'=0:=by
   rintro b' rfl;have h1:=(hPM b' (cw rM)).2.1;have hbh:b'<h.next:=by have:=hP.bC g0.ok (cw rM);exact this
   rw[hκ3 b' (by have:=g.next;have:=g5.next;omega),VJ b' hbh,h1]
  refine⟨xK.length-(j+1),by omega,j+1,κ2,J7,qs1.set j (q.1,F),rfl,aS,?_,by simp,?_,?_,?_,by simp[B9],?_,?_,?_,?_⟩
  .repeat (refine aA.set ?_)
   exact K
  .exact((g.trans g5.bl).trans g6.bl).trans (gw.bU (fun x _ e=>e▸cw rM))
  .have:=gw.get g6.ok wU nX;simpa [rM,ND,B9] using this
  .exact gE (q.1,F) 1 [F.v] (by simp) rfl _ ⟨_,aD _ _ _ _ _ _⟩
  .intro i q' p' h1 h2;rw[fg] at h1;by_cases e:j=i
   .subst e;rw[aZ rfl,aZ (by omega)] at h1;cases h1;rw[hp] at h2;cases h2;exact⟨fun _=>⟨Zs,hVF,hF.len⟩,fun h=>by omega⟩
   .rw[aW e] at h1;obtain⟨a1,a2⟩:=H1 i q' p' h1 h2;refine⟨fun h=>?_,fun h=>a2 (by omega)⟩;obtain⟨b1,b2,b3⟩:=a1 (by omega);exact⟨b1,b2.congr (fun b hb=>by have:=VK b (by omega);omega),b3⟩
  .exact W6.grow g6.ok gw nb
  .intro b' gk;rw[hκ3 b' (by have:=g.next;have:=g5.next;omega),VJ b' gk]
  .intro b' gk;obtain⟨c1,c2⟩:=AQ b' gk;obtain⟨c3,c4⟩:=VK b' (by omega);exact⟨by omega,by omega⟩
 .have:j=xK.length:=by omega
  subst this;simp[MF,EO];exact C _ _ κ1 xB qs1 (K.set) g yS Y5 B9 (fun i q p h1 h2=>(H1 i q p h1 h2).1 (cr.mp h2).1) W1 VJ AQ
def Gi(q:XI)(p:GI):Prop:=q.op=p.op/\q.dst=p.dst/\q.a=p.a/\q.b=p.b/\q.fn=p.fn
def aaP(κ cap:Nat->Nat)(q:XI)(p:GI):Prop:=Gi q p/\VA κ cap q.args/\q.args.l=p.args.length
def Pr(h0:ae)(q:XI)(p:GI):Prop:=Gi q p/\SliceR vR 2 h0 q.args.v p.args
def CxI(h0 h:ae)(e:Env)(M X s0:Nat)(xc:List Value)(L':SV)(xs:List GI)(ai:Nat)(κ0 pP:Nat->Nat)(m:Nat)(e':Env)(h':ae):Prop:=
 ∃(j:Nat) (κ cap:Nat->Nat) (qs:List XI),m=xs.length-j/\j<=xs.length/\aA [7,8,49,50,51,52,53,54,55,56,57,58,59,60,61,62] e e'/\ak e' 49=.int .i64 j/\ab (ax L'.v) h h'/\h'.tr.get X=some (.aC xc false 0 s0)/\eY jZ h' L' qs/\qs.length=xs.length/\
  (∀(i:Nat)(q:XI)(p:GI),qs[i]?=some q->xs[i]?=some p->(i<j->aaP κ cap q p)/\(j<=i->Pr h0 q p))/\qe h' M ai κ cap/\(∀b,b<h.next->κ b=κ0 b)/\∀b,κ0 b≠0->κ b=κ0 b/\cap b=pP b
theorem QW(oD:bm h0)(g0:ab aK h0 h){M X s0 ai:Nat}{L' P T:SV}{qs:List XI}{xs:List GI}(hP:eY jZ h L' qs)(bY:qs.length=xs.length)(hq:∀(i:Nat)(q:XI)(p:GI),qs[i]?=some q->xs[i]?=some p->Pr h0 q p)(jq:∀p∈xs,p.args.length<2000000/\∀v∈p.args,fk ai v)(uj:xs.length<1000000)(hM0:h0.next<=M)(hMh:M<=h.next)(hPM:∀b,ax L'.v b->M<=b/\κ b=0/\b≠X)(hX:h.tr.get X=some (.aC [P.v,L'.v,.int .i64 kind,.bool on.1,.int .i64 on.2,T.v] false 0 s0))(W:qe h M ai κ cap)(f4:ak e 4=.pointer (some ⟨X,0,none⟩))(f26:ak e 47=L'.v)(f27:ak e 48=.int .i64 xs.length)(f28:ak e 49=.int .i64 0)(C:∀e' h' κ' iL qs',aA [7,8,49,50,51,52,53,54,55,56,57,58,59,60,61,62] e e'->ab (ax L'.v) h h'->h'.tr.get X=some (.aC [P.v,L'.v,.int .i64 kind,.bool on.1,.int .i64 on.2,T.v] false 0 s0)->eY jZ h' L' qs'->qs'.length=xs.length->(∀(i:Nat)(q:XI)(p:GI),qs'[i]?=some q->xs[i]?=some p->aaP κ' iL q p)->qe h' M ai κ' iL->(∀b,b<h.next->κ' b=κ b)->(∀b,κ b≠0->κ' b=κ b/\iL b=cap b)->QQ (.exit 4) e' h'):
  aB FF (.loop re) e h QQ:=by
 have kj:=hP.len;refine aB.loop (CxI h0 h e M X s0 [P.v,L'.v,.int .i64 kind,.bool on.1,.int .i64 on.2,T.v] L' xs ai κ cap) ?_ (n:=xs.length)
  ⟨0,κ,cap,qs,rfl,by omega,aA.refl _ _,f28,.refl g0.ok,hX,hP,bY,fun i q p h1 h2=>⟨fun h=>by omega,fun _=>hq i q p h1 h2⟩,W,fun _ _=>rfl,fun _ _=>⟨rfl,rfl⟩⟩
 rintro m e' h'⟨j,κ1,xB,qs1,rfl,hj,K,EO,g,yS,Y5,B9,H1,W1,VJ,AQ⟩;have q4:=K.at f4;have TJ:=K.at f26;have MF:=K.at f27;have bz:=g.ok;have gg:ab aK h0 h':=g0.trans' g (fun _ _ h=>h) (fun x hx e=>by have:=(hPM x e).1;omega);unfold re;by_cases aS:j<xs.length
 .have wj:=wrap_i64 ((j:Int)+1) (by omega) (by omega);obtain⟨p,hp⟩:=aE xs j aS;obtain⟨q,hqj⟩:=aE qs1 j;obtain⟨Zs,Vu⟩:=(H1 j q p hqj hp).2 (dw _);obtain⟨vj,Zv⟩:=jq p (dG hp);obtain⟨b,cs,o,s,rM,hb,Yc,eU,dj,gE⟩:=Y5.el hqj;have ND:=Y5.len;have r0:=dj 0 8 (by decide);have oX:=bz.bC yS;have C0:=bz.st _ _ _ _ _ yS;have ob:=bz.bC hb;have nX:¬X=b:=fun e=>(hPM b (cw rM)).2.2 e.symm;simp[-ag] at r0;have IC:=yS;simp at IC;rw[rM,ND,B9] at IC;simp at TJ;rw[rM,ND,B9] at TJ;have VC:s0<=h'.clock+1:=by omega
  simp[q4,TJ,MF,EO,aS,r0,-ag,au,aX,aN,oX,av IC,ay];refine aU.cut (fun h5=>ab aK h' h5) ?_ ?_
  .exact((ab.refl bz).var _ _).tick
  intro h5 g5;have W5:=W1.grow bz g5 (fun _ h=>h.elim);have uL:=g5.get bz IC;have Zc:=g5.get bz hb;have oS:=gg.trans g5;refine aU.call (V:=tj bx h5 p.args) (by simpa using jM bx (bytes:=16) gJ rfl (by decide) oS.ok ((abS Vu).bl oD oS) vj) ?_;rintro _ h6⟨g6,F,rfl,hF,KC,hFc⟩;have hM5:M<=h5.next:=by have:=g.next;have:=g5.next;omega
  obtain⟨κ2,J7,W6,hVF,VK,hκ3⟩:=W5.add oS.ok g6 hM5 hF KC Zv hFc;have wU:=g6.get oS.ok uL;have NJ:=g6.get oS.ok Zc;have zX:=eU 7 1 (by decide);simp at zX;simp[wU,VC,aS,NJ,zX,EO,wj,q4];have gw:ab (· =b) h6 (put h6 b (j*8+7) cs [.slice F.a F.l F.c] o):=aQ g6.ok NJ;have nb:∀b',b'=b->κ2 b'=0:=by
   rintro b' rfl;have h1:=(hPM b' (cw rM)).2.1;have hbh:b'<h.next:=by have:=hP.bC g0.ok (cw rM);exact this
   rw[hκ3 b' (by have:=g.next;have:=g5.next;omega),VJ b' hbh,h1]
  refine⟨xs.length-(j+1),by omega,j+1,κ2,J7,qs1.set j {q with args:=F},rfl,aS,?_,by simp,?_,?_,?_,by simp[B9],?_,?_,?_,?_⟩
  .repeat (refine aA.set ?_)
   exact K
  .exact((g.trans g5.bl).trans g6.bl).trans (gw.bU (fun x _ e=>e▸cw rM))
  .have:=gw.get g6.ok wU nX;simpa [rM,ND,B9] using this
  .exact gE {q with args:=F} 7 [F.v] (by simp) rfl _ ⟨_,aD _ _ _ _ _ _⟩
  .intro i q' p' h1 h2;rw[fg] at h1;by_cases e:j=i
   .subst e;rw[aZ rfl,aZ (by omega)] at h1;cases h1;rw[hp] at h2;cases h2;exact⟨fun _=>⟨Zs,hVF,hF.len⟩,fun h=>by omega⟩
   .rw[aW e] at h1;obtain⟨a1,a2⟩:=H1 i q' p' h1 h2;refine⟨fun h=>?_,fun h=>a2 (by omega)⟩;obtain⟨b1,b2,b3⟩:=a1 (by omega);exact⟨b1,b2.congr (fun b hb=>by have:=VK b (by omega);omega),b3⟩
  .exact W6.grow g6.ok gw nb
  .intro b' gk;rw[hκ3 b' (by have:=g.next;have:=g5.next;omega),VJ b' gk]
  .intro b' gk;obtain⟨c1,c2⟩:=AQ b' gk;obtain⟨c3,c4⟩:=VK b' (by omega);exact⟨by omega,by omega⟩
 .have:j=xs.length:=by omega
  subst this;simp[MF,EO];exact C _ _ κ1 xB qs1 (K.set) g yS Y5 B9 (fun i q p h1 h2=>(H1 i q p h1 h2).1 (cr.mp h2).1) W1 VJ AQ
structure InB(ai:Nat)(b:GB):Prop where
 lp:b.dQ.length<1000000
 ll:b.list.length<1000000
 lt:b.to.length<1000000
 ph:∀p∈b.dQ,(0<=p.dst/\p.dst<ai)/\p.row.length<2000000/\∀v∈p.row,fk ai v
 li:∀x∈b.list,x.dst<ai/\fk ai x.a/\fk ai x.b/\x.args.length<2000000/\∀v∈x.args,fk ai v
 on:fk ai b.on
structure RD(r:XR)(b:GB):Prop where
 kind:r.kind=b.kind
 on:r.on=b.on
 to:r.ts=b.to
 pl:r.ps.length=b.dQ.length
 ps:∀(i:Nat)(q:Int×SV)(p:GP),r.ps[i]?=some q->b.dQ[i]?=some p->q.1=p.dst/\q.2.l=p.row.length
 ll:r.ls.length=b.list.length
 ls:∀(i:Nat)(q:XI)(p:GI),r.ls[i]?=some q->b.list[i]?=some p->Gi q p/\q.args.l=p.args.length
structure Ps(h0:ae)(y:XR)(b:GB):Prop where
 kind:y.kind=b.kind
 on:y.on=b.on
 P:SliceR (pR h0) 2 h0 y.P.v b.dQ
 L:SliceR (iR h0) 8 h0 y.L.v b.list
 T:SliceR nR 1 h0 y.T.v b.to
theorem abE{xs:List Int}(s:SliceR nR 1 h v xs):bc bj h v xs:=by
 obtain⟨ys,hl,s',H⟩:=SliceR.pick (E:=bj) (Q:=fun y x=>y=x) s (fun c x e=>⟨x,e,rfl⟩);have:ys=xs:=zS fun i=>by
  rcases zf i xs.length with hi|hi
  .have h1:xs[i]?=some xs[i]:=fI hi;have h2:ys[i]?=some (ys[i]'(by omega)):=fI (by omega);rw[h2,H i _ _ h2 h1,h1]
  .rw[tS (by omega),tS (by omega)]
 exact this▸s'
theorem ajr{xs:List GP}(s:SliceR (pR h) 2 h v xs):∃qs:List (Int×SV),qs.length=xs.length/\bc gL h v qs/\∀(i:Nat)(q:Int×SV)(p:GP),qs[i]?=some q->xs[i]?=some p->Pn h q p:=
 SliceR.pick (E:=gL) (Q:=Pn h) s (fun c x ⟨A,e,hA⟩=>⟨(x.dst,A),e,rfl,hA⟩)
theorem ai5{xs:List GI}(s:SliceR (iR h) 8 h v xs):∃qs:List XI,qs.length=xs.length/\bc jZ h v qs/\∀(i:Nat)(q:XI)(p:GI),qs[i]?=some q->xs[i]?=some p->Pr h q p:=
 SliceR.pick (E:=jZ) (Q:=Pr h) s (fun c x ⟨A,e,hA⟩=>⟨⟨x.op,x.dst,x.a,x.b,x.fn,A⟩,e,⟨rfl,rfl,rfl,rfl,rfl⟩,hA⟩)
theorem agx{xs:List GB}(s:SliceR (bR h) 6 h v xs):∃ys:List XR,ys.length=xs.length/\bc fC h v ys/\∀(i:Nat)(y:XR)(b:GB),ys[i]?=some y->xs[i]?=some b->Ps h y b:=
 SliceR.pick (E:=fC) (Q:=Ps h) s (fun c x ⟨P,L,T,e,sP,sL,sT⟩=>⟨⟨P,L,T,x.kind,x.on,[],[],[]⟩,e,rfl,rfl,sP,sL,sT⟩)
theorem aqm{M ai:Nat}(W:qe h M ai κ cap)(ok:bm h){kind:Int}{ps:List (Int×SV)}{ls:List XI}{ts:List Int}(hP:eY gL h P ps)(hL:eY jZ h L ls)(hT:eY bj h T ts)(nP:∀b,ax P.v b->M<=b/\κ b=0/\¬ax L.v b/\¬ax T.v b)(nL:∀b,ax L.v b->M<=b/\κ b=0/\¬ax T.v b)(nT:∀b,ax T.v b->M<=b/\κ b=0)(iI:∀p∈ps,(0<=p.1/\p.1<ai)/\VA κ cap p.2)(Fl:∀x∈ls,x.dst<ai/\fk ai x.a/\fk ai x.b/\VA κ cap x.args)(hon:fk ai on):
  ∃κn:Nat->Nat,Po h κn cap ai ⟨P,L,T,kind,on,ps,ls,ts⟩/\yy h κn cap ai/\(∀b,κn b≠0->M<=b/\b<h.next)/\∀b,κn b=1->κ b=1:=by
 
 have WK:∀ {α:Type} (E:Enc α) (κ:Nat->Nat) (A:SV) (xs:List α) (k:Nat),eY E h A xs->∃κ':Nat->Nat,(∀b,ax A.v b->κ' b=k)/\(∀b,¬ax A.v b->κ' b=κ b):=by
  intro α E κ A xs k hA;rcases hA.2 with⟨ha,_⟩|⟨b,_,_,_,ha,_⟩
  .exact⟨κ,fun b hb=>(fS ha hb).elim,fun b _=>rfl⟩
  .exact⟨CB κ A k,fun b' hb=>by rw[qw ha hb];exact pN ha,fun b' hb=>kz ha (fun e=>hb (e▸cw ha))⟩
 obtain⟨κ1,p1,q1⟩:=WK gL κ P ps 3 hP;obtain⟨κ2,p2,q2⟩:=WK jZ κ1 L ls 4 hL;obtain⟨κ3,p3,q3⟩:=WK bj κ2 T ts 5 hT;have bC:∀b,κ b≠0->κ3 b=κ b:=by intro b hb;have h1:¬ax P.v b:=fun h=>hb (nP b h).2.1;have h2:¬ax L.v b:=fun h=>hb (nL b h).2.1;have h3:¬ax T.v b:=fun h=>hb (nT b h).2;rw[q3 b h3,q2 b h2,q1 b h1]
 have one:∀b,κ b=1->κ3 b=1/\cap b=cap b:=fun b hb=>⟨by rw[bC b (by omega),hb],rfl⟩;refine⟨κ3,⟨hP,hL,hT,fun b hb=>?_,fun b hb=>?_,p3,fun p hp=>⟨(iI p hp).1,(iI p hp).2.congr one⟩,fun x hx=>⟨(Fl x hx).1,(Fl x hx).2.1,(Fl x hx).2.2.1,(Fl x hx).2.2.2.congr one⟩,hon⟩,fun b hb=>?_,fun b hb=>?_,fun b hb=>?_⟩
 .have:=nP b hb;rw[q3 b this.2.2.2,q2 b this.2.2.1,p1 b hb]
 .have:=nL b hb;rw[q3 b this.2.2,p2 b hb]
 .by_cases h3:ax T.v b
  .rw[p3 b h3] at hb;omega
  .rw[q3 b h3] at hb;by_cases h2:ax L.v b
   .rw[p2 b h2] at hb;omega
   .rw[q2 b h2] at hb;by_cases h1:ax P.v b
    .rw[p1 b h1] at hb;omega
    .rw[q1 b h1] at hb;exact W.V b hb
 .by_cases h3:ax T.v b
  .exact⟨(nT b h3).1,hT.bC ok h3⟩
  .rw[q3 b h3] at hb;by_cases h2:ax L.v b
   .exact⟨(nL b h2).1,hL.bC ok h2⟩
   .rw[q2 b h2] at hb;by_cases h1:ax P.v b
    .exact⟨(nP b h1).1,hP.bC ok h1⟩
    .rw[q1 b h1] at hb;exact(W.new b hb).2
 .by_cases h3:ax T.v b
  .rw[p3 b h3] at hb;omega
  .rw[q3 b h3] at hb;by_cases h2:ax L.v b
   .rw[p2 b h2] at hb;omega
   .rw[q2 b h2] at hb;by_cases h1:ax P.v b
    .rw[p1 b h1] at hb;omega
    .rw[q1 b h1] at hb;exact hb
end Go.Proofs.YtdhnndleffachaaGreatDoor
