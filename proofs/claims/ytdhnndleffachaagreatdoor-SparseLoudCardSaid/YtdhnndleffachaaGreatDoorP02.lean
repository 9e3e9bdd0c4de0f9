/- Parts of the proof. -/
import Derived.Test.YtdhnndleffachaaGreatDoorP00
import Derived.Test.YtdhnndleffachaaGreatDoorP01
import Derived.Orders
import Derived.ProofKit
import Derived.Test.YtdhnndleffachaaGreatDoorProg
set_option linter.all false
namespace Go.AI
variable {CC:cj} {F:Nat->Option bZ} {N a b f i j n ng t:Nat} {P:Program} {T:qd} {args:List Value} {cs:List Frame} {e e':Env} {es tN:List (Value×Value)} {h h' h0 h1:ae} {ih:ak->Env->ae->R} {k v:Value} {md:Region.Mode} {o:Oper} {ops:Array Oper} {w w':World} {x:Operand} {ρ ρ':dY}
def jk.ji:jk->List Operand
 | .mv x=>[x]
 | .pick c a b=>[c,a,b]
 | .alloc _=>[]
 | .box x=>[x]
 | .build _ ps=>ps.map (·.2.2)
 | .cX _ _ ps=>ps.map (·.2.2)
 | .load _ a=>[a]
 | .store _ a v=>[a,v]
 | .aY x=>[x]
 | .bin _ _ x y=>[x,y]
 | .un _ x=>[x]
 | .conv _ x=>[x]
 | .uz _ caps=>caps
 | .Ey=>[]
 | .ik _ _ l c=>[l,c]
 | .slice _ x lo hi mx=>x::(lo.toList++hi.toList++mx.toList)
 | .bM _ x=>[x]
 | .cR _ _ x i=>[x,i]
 | .field _ _ x=>[x]
 | .index _ x i=>[x,i]
 | .look _ _ _ x i=>[x,i]
 | .Ja _ m k v=>[m,k,v]
 | .Lv _ _ m k=>[m,k]
 | .Ok m s v=>[m,s,v]
 | .By x=>[x]
 | .nxt x=>[x]
 | .ext _ x=>[x]
 | .call f args=>f::args
 | .uU x=>[x]
 | .MX x=>[x]
 | .JD x=>[x]
 | .append _ _ _ s x=>[s,x]
 | .copy _ d s=>[d,s]
 | .clear _ x=>[x]
 | .MY x y=>[x,y]
 | .bad=>[]
def jk.kind:jk->Nat
 | .mv _| .pick .. | .build .. | .aY _| .bin .. | .un .. | .conv .. | .uz .. | .bM .. | .cR .. | .field .. | .index .. | .ext .. | .uU _| .JD _| .MY .. =>0
 | .load .. | .slice .. =>1
 | .alloc _| .box _| .cX .. | .ik .. | .Ey=>2
 |_=>3
theorem u0 {e e':Env} : ∀(ps:List (Nat×Nat×Operand)) (cs:List Value),(∀x∈ps.map (·.2.2),ev e x=ev e' x)->tA e cs ps=tA e' cs ps
 |[],_,_=>rfl
 |(off,n,x)::r,cs,h=>by
  have hx:ev e x=ev e' x:=h x (by simp);simp only[tA,hx];split
  .split
   .exact u0 r _ (fun y hy=>h y (by simp only[Fw,List.mem_cons];exact .inr hy))
   .rfl
  .rfl
theorem Fp {l:List Operand} (h: ∀x∈l,ev e x=ev e' x):tM e l=tM e' l:=List.map_congr_left h
theorem v7 (x:Option Operand) (d t:Nat) (h: ∀y∈x.toList,ev e y=ev e' y):bound e x d t=bound e' x d t:=by
 cases x with
 |none=>rfl
 |some y=>simp only[bound,h y (by simp)]
theorem RO (op:jk) (hx: ∀x∈op.ji,ev e x=ev e' x):bm e h op=bm e' h op:=by
 cases op with
 |build z ps=>simp only[bm,u0 ps z hx]
 |cX n z ps=>simp only[bm,u0 ps z hx]
 |uz f caps=>
  simp only[jk.ji] at hx;simp only[bm,Fp hx]
 |slice s x lo hi mx=>
  simp only[jk.ji,List.mem_cons,tO,or_assoc] at hx;have h0:=hx x (.inl rfl);have h1: ∀d t,bound e lo d t=bound e' lo d t:=fun d t=>v7 lo d t fun y hy=>hx y (.inr (.inl hy));have h2: ∀d t,bound e hi d t=bound e' hi d t:=fun d t=>v7 hi d t fun y hy=>hx y (.inr (.inr (.inl hy)));have h3: ∀d t,bound e mx d t=bound e' mx d t:=fun d t=>v7 mx d t fun y hy=>hx y (.inr (.inr (.inr hy)));simp only[bm,h0,h1,h2,h3]
 |pick c a b=>
  simp only[jk.ji,List.mem_cons,CH,or_false,forall_eq_or_imp,forall_eq] at hx;simp only[bm,hx.1,hx.2.1,hx.2.2]
 |Ja n c a b=>
  simp only[jk.ji,List.mem_cons,CH,or_false,forall_eq_or_imp,forall_eq] at hx;simp only[bm,hx.1,hx.2.1,hx.2.2]
 |Ok c a b=>
  simp only[jk.ji,List.mem_cons,CH,or_false,forall_eq_or_imp,forall_eq] at hx;simp only[bm,hx.1,hx.2.1,hx.2.2]
 |alloc|Ey|call|bad=>rfl
 |store _ x y|bin _ _ x y|ik _ _ x y|cR _ _ x y|index _ x y|look _ _ _ x y|Lv _ _ x y|append _ _ _ x y|copy _ x y|MY x y=>
  simp only[jk.ji,List.mem_cons,CH,or_false,forall_eq_or_imp,forall_eq] at hx;simp only[bm,hx.1,hx.2]
 |mv x|box x|load _ x|aY x|By x|nxt x|un _ x|conv _ x|bM _ x|field _ _ x|ext _ x|uU x|MX x|JD x|clear _ x=>
  simp only[jk.ji,List.mem_cons,CH,or_false,forall_eq] at hx;simp only[bm,hx]
def leads:Value->Option Nat
 | .pointer (some ⟨b,_,_⟩)=>some b
 | .slice (some ⟨b,_,_⟩) _ _=>some b
 | .map (some b)=>some b
 |_=>none
def jk.through:jk->Option Operand
 | .load _ a=>some a
 | .slice _ x _ _ _=>some x
 |_=>none
theorem EG {op:jk} (hk:op.kind=0) (hv:bm e h op=some (v,h')):h'=h/\ ∀h2,bm e h2 op=some (v,h2):=by
 cases op with
 |uz f caps=>
  simp only[bm] at hv ⊢;cases hb:(tM e caps).all simple<;>simp only[hb,cond_true,cond_false] at hv ⊢ <;>cases hv;exact⟨rfl,fun h2=>rfl⟩
 |MY x y=>
  simp only[bm] at hv ⊢;split at hv
  .by_cases xn: ‹IntKind› = ‹IntKind› <;>skip
   all_goals
    split at hv
    .cases hv;refine⟨rfl,fun h2=> ?_⟩;simp_all
    .cases hv
  .cases hv
 |_=>
  simp only[jk.kind] at hk
  first
   |(exact absurd hk (by decide))
   |(simp only[bm] at hv ⊢
     repeat' split at hv
     all_goals first
      |(cases hv;refine⟨rfl,fun h2=> ?_⟩;first|rfl|(simp_all;done))
      |(cases hv;done))
theorem y_ {op:jk} (hk:op.kind=1) (hv:bm e h op=some (v,h')):
  h'=h/\ ∃x,op.through=some x/\(∀h2,(∀b,leads (ev e x)=some b->h2.tr.get b=h.tr.get b)->bm e h2 op=some (v,h2))/\(∀b,leads (ev e x)=some b-> ∃cs ro o s,h.tr.get b=some (.aA cs ro o s)):=by
 cases op<;>simp only[jk.kind] at hk<;>first|(exact absurd hk (by decide))|skip
 case load n a=>
  simp only[bm] at hv;split at hv
  .rename_i b off heq;split at hv
   .rename_i cs hr;split at hv
    .rename_i v' hg;cases hv;refine⟨rfl,a,rfl,?_,?_⟩
     .intro h2 hb;have:=hb b (by rw[heq];rfl);have Ef:bc h2 b off (width n)=some cs:=by unfold bc at hr ⊢;rw[this];exact hr
      simp only[bm,heq,Ef,hg]
     .intro b' iy;rw[heq] at iy;cases iy;unfold bc at hr;split at hr
      .exact⟨_,_,_,_,by assumption⟩
      .cases hr
    .cases hv
   .cases hv
  .cases hv
 case slice sz x lo hi mx=>
  simp only[bm] at hv;split at hv
  .rename_i a len cap heq;split at hv
   .cases hv
   .rename_i m hm;split at hv
    .cases hv
    .rename_i hh hhi;split at hv
     .cases hv
     .rename_i l hl;split at hv
      .cases hv;refine⟨rfl,x,rfl,fun h2 _=> ?_,fun b hb=> ?_⟩
       .simp only[bm,heq,hm,hhi,hl]
       .rw[heq] at hb;cases hb
      .rename_i b off;split at hv
       .rename_i cs ro o s hg;cases hc:(Nat.beq o 0||Nat.beq o sz) with
        |false=>rw[hc] at hv;cases hv
        |true=>
         rw[hc] at hv;cases hv;refine⟨rfl,x,rfl,fun h2 hb=> ?_,fun b' hb=> ?_⟩
         .have:=hb b (by rw[heq];rfl);simp only[bm,heq,hm,hhi,hl,this,hg,hc,cond_true]
         .rw[heq] at hb;cases hb;exact⟨_,_,_,_,hg⟩
       .cases hv
      .cases hv
  .cases hv
theorem dg.refl (h:ae):dg h h:=⟨dK _,dK _,fun _ _ _ _ _ _ h _=>h,id,fun _ _ h=>h⟩
theorem dg.trans {h h1 h2:ae} (x:dg h h1) (y:dg h1 h2):dg h h2:=
 ⟨ug x.next y.next,ug x.clock y.clock,fun b cs ro o s hb hg hs=>x.bA b cs ro o s hb (y.bA b cs ro o s (IF hb x.next) hg (IF hs x.clock)) hs,y.wf∘x.wf,fun b hb hg=>x.mp b hb (y.mp b (IF hb x.next) hg)⟩
theorem dg.new (h:ae) (o:o9):dg h (h.new o):=by
 refine⟨by simp[ae.new],dK _,fun b cs ro op s hb hg _=> ?_,fun hw b x hb=> ?_,fun b hb hg=> ?_⟩
 .simp only[ae.new,Tr.aN] at hg;rwa [aT (by omega)] at hg
 .simp only[ae.new,Tr.aN] at hb ⊢;by_cases e:b=h.next
  .omega
  .rw[aT e] at hb;have:=hw b x hb;omega
 .simp only[ae.new,Tr.aN] at hg;rwa [aT (by omega)] at hg
theorem dg.del (h:ae) (l:Nat):dg h { h with tr:=h.tr.del l } :=by
 refine⟨dK _,dK _,fun b cs ro op s hb hg _=> ?_,fun hw b x hb=> ?_,fun b hb hg=> ?_⟩
 .simp only[Tr.mj] at hg;by_cases e:b=l
  .rw[aU e] at hg;cases hg
  .rwa [aT e] at hg
 .simp only[Tr.mj] at hb;by_cases e:b=l
  .rw[aU e] at hb;cases hb
  .rw[aT e] at hb;exact hw b x hb
 .simp only[Tr.mj] at hg;by_cases e:b=l
  .rw[aU e] at hg;cases hg
  .rwa [aT e] at hg
theorem dg.other {o:o9} (l:Nat) (c:Nat) (hc:h.clock<=c) (hl: ∃x,h.tr.get l=some x) (ho: ∀cs ro op s,o= .aA cs ro op s->h.clock<=s) (hm:o≠ .map []):dg h { h with clock:=c,tr:=h.tr.set l o } :=by
 refine⟨dK _,hc,fun b cs ro op s hb hg hs=> ?_,fun hw b x hb=> ?_,fun b hb hg=> ?_⟩
 .simp only[Tr.aN] at hg;by_cases e:b=l
  .rw[aU e] at hg;cases hg;have:=ho _ _ _ _ rfl;omega
  .rwa [aT e] at hg
 .simp only[Tr.aN] at hb;by_cases e:b=l
  .obtain⟨y,hy⟩:=hl;rw[e];exact hw l y hy
  .rw[aT e] at hb;exact hw b x hb
 .simp only[Tr.aN] at hg;by_cases e:b=l
  .rw[aU e] at hg;cases hg;exact absurd rfl hm
  .rwa [aT e] at hg
theorem dg.write {b off:Nat} {vs:List Value} (hw:kM h b off vs=some h'):dg h h':=by
 unfold kM at hw;split at hw
 .rename_i hg;split at hw
  .cases hw;exact dg.other b (h.clock+1) (Nat.le_succ _) ⟨_,hg⟩ (fun cs ro op s e=>by cases e;exact dK _) (fun e=>by cases e)
  .cases hw
 .cases hw
inductive Mk where
 |ptr
 |sl (l c:Nat)
 |mp
def mkA:Mk->Nat->Value
 | .ptr,N=> .pointer (some ⟨N,0,none⟩)
 | .sl l c,N=> .slice (some ⟨N,0,none⟩) l c
 | .mp,N=> .map (some N)
def mkO:Mk->List Value->o9
 | .mp,_=> .map []
 |_,cells=> .aA cells false 0 0
theorem xA {op:jk} (hk:op.kind=2) (hv:bm e h op=some (v,h')):
  ∃s cells,v=mkA s h.next/\h'=h.new (mkO s cells)/\ ∀h2,bm e h2 op=some (mkA s h2.next,h2.new (mkO s cells)):=by
 cases op with
 |alloc z=>
  simp only[bm,kl,wI] at hv;exact⟨.ptr,z,hv.1.symm,hv.2.symm,fun h2=>rfl⟩
 |Ey=>
  simp only[bm,kl,wI] at hv;exact⟨.mp,[],hv.1.symm,hv.2.symm,fun h2=>rfl⟩
 |box x=>
  simp only[bm] at hv;split at hv
  .rename_i vs hf;cases hv;exact⟨.ptr,vs,rfl,rfl,fun h2=>by simp only[bm,hf];rfl⟩
  .cases hv
 |cX n z ps=>
  simp only[bm] at hv;split at hv
  .rename_i cs hf;cases hv;exact⟨.sl n n,cs,rfl,rfl,fun h2=>by simp only[bm,hf];rfl⟩
  .cases hv
 |ik z n l c=>
  simp only[bm] at hv;split at hv
  .rename_i ll cc h1 h2;split at hv
   .rename_i hb;cases hv;exact⟨.sl ll cc,jW z cc,rfl,rfl,fun h3=>by simp only[bm,h1,h2,hb,if_true];rfl⟩
   .cases hv
  .cases hv
 |_=>simp only[jk.kind] at hk;cases hk
theorem HR {z:List Value} {bytes:Nat} {s:Value} {cs:List Value} (hv:ie h z bytes s n cs=some (v,h')):dg h h':=by
 unfold ie at hv;dsimp only at hv
 repeat' split at hv
 all_goals first
  |(cases hv;done)
  |(cases hv;exact dg.refl _)
  |(cases hv;exact dg.new _ _)
  |(rename_i hw;cases hv;exact dg.write hw)
  |(cases hv;exact(dg.del _ _).trans (dg.new _ _))
  |skip
theorem Xv {n:List Nat} (h:rM n k v es=some tN):tN≠[]:=by
 cases es with
 |nil=>
  simp only[rM] at h;split at h<;>cases h;exact List.cons_ne_nil _ _
 |cons x r=>
  obtain⟨k',v'⟩:=x;simp only[rM] at h
  repeat' split at h
  all_goals (cases h;try exact List.cons_ne_nil _ _)
theorem UA {n:List Nat} {z k v:Value} (h:wC n z k es=some (v,i,tN)):tN≠[]:=by
 cases es with
 |nil=>
  simp only[wC] at h;split at h<;>cases h;exact List.cons_ne_nil _ _
 |cons x r=>
  obtain⟨k',v'⟩:=x;simp only[wC] at h
  repeat' split at h
  all_goals (cases h;try exact List.cons_ne_nil _ _)
theorem RQ {op:jk} (hv:bm e h op=some (v,h')):dg h h':=by
 by_cases h0:op.kind=0
 .rw[(EG h0 hv).1];exact .refl h
 by_cases h1:op.kind=1
 .rw[(y_ h1 hv).1];exact .refl h
 by_cases h2:op.kind=2
 .obtain⟨_,cs,_,rfl,_⟩:=xA h2 hv;exact .new h _
 cases op with
 |store n a x=>
  simp only[bm] at hv
  repeat' split at hv
  all_goals first
   |(cases hv;done)
   |(rename_i hw;cases hv;exact dg.write hw)
 |look n z ok x i=>
  simp only[bm] at hv;cases zn:jY n (ev e i) with
  |false=>rw[zn] at hv;cases hv
  |true=>
  simp only[zn,cond_true] at hv
  repeat' split at hv
  all_goals first
   |(cases hv;done)
   |(cases hv;exact .refl h)
 |Ja n m k x=>
  simp only[bm] at hv;cases zn:jY n (ev e k) with
  |false=>rw[zn] at hv;cases hv
  |true=>
  simp only[zn,cond_true] at hv
  repeat' split at hv
  all_goals first
   |(cases hv;done)
   |(rename_i hg _ _ _;cases hv;exact dg.other _ _ (Nat.le_succ _) ⟨_,hg⟩ (fun _ _ _ _ e=>by cases e) (fun e=>by cases e;exact Xv (by assumption) rfl))
 |Lv n z m k=>
  simp only[bm] at hv;cases zn:jY n (ev e k) with
  |false=>rw[zn] at hv;cases hv
  |true=>
  simp only[zn,cond_true] at hv
  repeat' split at hv
  all_goals first
   |(cases hv;done)
   |(rename_i hg _ _ _ _ _;cases hv;exact dg.other _ _ (Nat.le_succ _) ⟨_,hg⟩ (fun _ _ _ _ e=>by cases e) (fun e=>by cases e;exact UA (by assumption) rfl))
 |Ok m s x=>
  simp only[bm] at hv
  repeat' split at hv
  all_goals first
   |(cases hv;done)
   |(rename_i hg _ _ hi _;cases hv;exact dg.other _ _ (Nat.le_succ _) ⟨_,hg⟩ (fun _ _ _ _ e=>by cases e) (fun e=>by injection e with e;have h1:=(bY.mp hi).1;have h2:=congrArg List.length e;rw[List.length_set,List.length_nil] at h2;omega))
 |By x=>
  simp only[bm] at hv;split at hv
  .cases hv;exact .new h _
  .cases hv
 |nxt x=>
  simp only[bm] at hv
  repeat' split at hv
  all_goals first
   |(cases hv;done)
   |(cases hv;exact .refl h)
 |append z bytes zs s x=>
  simp only[bm] at hv;split at hv
  .exact HR hv
  .cases hv
 |copy sz d s=>
  simp only[bm] at hv
  repeat' split at hv
  all_goals first
   |(cases hv;done)
   |(cases hv;exact .refl h)
   |(rename_i hw;cases hv;exact dg.write hw)
 |clear z x=>
  simp only[bm] at hv
  repeat' split at hv
  all_goals first
   |(cases hv;done)
   |(cases hv;exact .refl h)
   |(rename_i hw;cases hv;exact dg.write hw)
 |MX x=>
  simp only[bm] at hv
  repeat' split at hv
  all_goals first
   |(cases hv;done)
   |(cases hv;exact .refl h)
 |call f args=>simp[bm] at hv
 |bad=>simp[bm] at hv
 |_=>first|exact absurd rfl h0|exact absurd rfl h1|exact absurd rfl h2
section
variable {F:Nat->Option bZ} {ih:ak->Env->ae->R}
def fT (ih:ak->Env->ae->R):Prop:= ∀c e h x e' h',ih c e h=some (x,e',h')->dg h h'
theorem BO (hK:fT ih) (hc:si F ih f args h=some (v,h')):dg h h':=by
 unfold si oo at hc;split at hc
 .cases hc
 .split at hc
  .cases hc
  .rename_i hp _;exact hp _ _ _ _ hc
  split at hc
  all_goals first
   |(cases hc;done)
   |(rename_i hr
     split at hc
     .rename_i vs _;cases hb:iH vs<;>simp only[hb,cond_true,cond_false] at hc<;>cases hc;exact hK _ _ _ _ _ _ hr
     .cases hc)
theorem yF {l:Nat} {x:o9} (hx:h.tr.get l=some x) (env:Env) (ps:List Nat) (asg body:ak) (st:Ta):dg h (fG h l env ps asg body st):=
 dg.other l h.clock (dK _) ⟨x,hx⟩ (fun _ _ _ _ e=>by cases e) (fun e=>by cases e)
theorem Jo {l:Nat} {st:Ta} {b:Bool} (hc:nH l h st b=some (v,h')):dg h h':=by
 unfold nH at hc;split at hc
 .rename_i hg;cases hc;exact yF hg ..
 .cases hc
theorem Jp (hK:fT ih) {l:Nat} (hc:vj ih l args h=some (v,h')):dg h h':=by
 unfold vj at hc;split at hc
 .split at hc
  .cases hc
  .split at hc
   .rename_i hr;refine(hK _ _ _ _ _ _ hr).trans ?_;unfold zg at hc;split at hc
    .rename_i hg;split at hc
     all_goals first
      |(cases hc;done)
      |(rename_i Ef;exact(yF hg _ _ _ _ _).trans ((hK _ _ _ _ _ _ Ef).trans (Jo hc)))
    .cases hc
   .cases hc
 .cases hc
theorem Kj (hK:fT ih) {fv:Value} (hc:cD F ih fv args h=some (v,h')):dg h h':=by
 unfold cD at hc;split at hc
 .rcases DN hc with hc|⟨_,_,_,hc⟩
  .exact BO hK hc
  .rw[(Hx hc).2.1];exact .refl h
 .exact Jp hK hc
 .cases hc
theorem wV (hK:fT ih) {o:bl} (hc:cK F ih o e h=some (e',h')):dg h h':=by
 unfold cK at hc;cases hw:wanted e o.guard<;>simp only[hw,cond_true,cond_false] at hc
 .cases hc;exact .refl h
 .split at hc
  .split at hc
   .rename_i hv;cases hc;exact Kj hK hv
   .cases hc
  .split at hc
   .rename_i hv;cases hc;exact RQ hv
   .cases hc
theorem EN (hK:fT ih): ∀(l:List bl) {e e':Env} {h h':ae},x4 F ih l e h=some (e',h')->dg h h'
 |[],_,_,_,_,hc=>by simp only[x4] at hc;cases hc;exact .refl _
 |o::r,_,_,_,_,hc=>by
  simp only[x4] at hc;split at hc
  .rename_i ho;exact(wV hK ho).trans (EN hK r hc)
  .cases hc
theorem BR (hK:fT ih) (c:Nat): ∀(l:List (bl×List Nat)) {e e':Env} {h h':ae},mQ F ih c l e h=some (e',h')->dg h h'
 |[],_,_,_,_,hc=>by simp only[mQ] at hc;cases hc;exact .refl _
 |(o,lL)::r,_,_,_,_,hc=>by
  simp only[mQ] at hc;split at hc
  .rename_i e1 h1 ho;cases hs:still e1 h1 c lL<;>simp only[hs,cond_true,cond_false] at hc
   .cases hc
   .exact(wV hK ho).trans (BR hK c r hc)
  .cases hc
theorem Mb (hK:fT ih):fT (ct F ih):=by
 intro c e h x e' h' hc;cases c with
 |skip|exit|ret=>simp only[ct] at hc;cases hc;exact .refl h
 |ops l=>
  simp only[ct] at hc;split at hc
  .rename_i ho;cases hc;exact EN hK l ho
  .cases hc
 |draw l=>
  simp only[ct] at hc;split at hc
  .rename_i ho;cases hc;have h1:dg h { h with clock:=h.clock+1 } :=⟨dK _,Nat.le_succ _,fun _ _ _ _ _ _ q _=>q,id,fun _ _ q=>q⟩;exact h1.trans (BR hK _ l ho)
  .cases hc
 |seq a b=>
  simp only[ct] at hc;split at hc
  .rename_i ho;exact(hK _ _ _ _ _ _ ho).trans (hK _ _ _ _ _ _ hc)
  .exact hK _ _ _ _ _ _ hc
 |cond q a b=>
  simp only[ct] at hc;split at hc
  .exact hK _ _ _ _ _ _ hc
  .exact hK _ _ _ _ _ _ hc
  .cases hc
 |block id a=>
  simp only[ct] at hc;split at hc
  .rename_i i _ _ ho;cases hb:Nat.beq i id<;>simp only[hb,cond_true,cond_false] at hc<;>cases hc<;>exact hK _ _ _ _ _ _ ho
  .exact hK _ _ _ _ _ _ hc
 |loop a=>
  simp only[ct] at hc;split at hc
  .rename_i ho;exact(hK _ _ _ _ _ _ ho).trans (hK _ _ _ _ _ _ hc)
  .exact hK _ _ _ _ _ _ hc
 |Qk f ps asg body=>
  simp only[ct] at hc;split at hc
  .split at hc
   .rename_i KS;have h1:=(dg.new h (.loop e ps asg body .ready)).trans (BO hK KS);split at hc
    all_goals first
     |(cases hc;done)
     |(cases hc;exact h1.trans (dg.del _ _))
   .cases hc
  .cases hc
 |bad=>simp[ct] at hc
theorem Ss: ∀fuel,fT (run F fuel):=by
 intro fuel;induction fuel with
 |zero=>intro c e h x e' h' hc;cases hc
 |succ m ihm=>exact Mb ihm
end
def HL (P:Program) (T:qd) (ng:Nat) (dr:tV) (F:Nat->Option bZ):Prop:=
 ∀(ih:ak->Env->ae->R),fT ih->tX P T ng dr ih-> ∀(n:Nat) (ops:Array Oper) (e:Env) (h:ae) (e':Env) (h':ae),
  mQ F ih h.clock (dr n ops.toList) e { h with clock:=h.clock+1 } =some (e',h')->
  ∀(mixed:Bool) (t:Nat) (ρ:dY) (w:World) (a:Act) (b:Frame) (k:List Item) (cs:List Frame),cQ (fS T ng dr) ρ h w->bS ng ρ->ER ρ e a.tmps->n<=a.tmps.size->
  ∃ρ' w' a',Steps P (lone (on b a (.inRegion ops (Region.schedule mixed ops t)::k)) cs w) (lone (on b a' (.inRegion ops []::k)) cs w')/\
   cQ (fS T ng dr) ρ' h' w'/\ER ρ' e' a'.tmps/\a'.tmps.size=a.tmps.size/\a'.defers=a.defers/\Ext ρ h w ρ' h' w'
theorem zh {m m1 t:Machine} (h:Steps P m t) (hs:step P m= .next m1) (cJ:t≠m):Steps P m1 t:=by
 obtain⟨n,hn⟩:=h;cases n with
 |zero=>simp only[runN] at hn;cases hn;exact absurd rfl cJ
 |succ n=>simp only[runN,hs] at hn;exact⟨n,hn⟩
theorem RB {b b':Frame} {cs Il:List Frame} (h:lone b cs w=lone b' Il w'):b.todo=b'.todo:=by have h2:=congrArg (fun m:Machine=>(m.gs[0]?).map (fun g=>g.frame.todo)) h;simpa [lone] using h2
section
variable {P:Program} {T:qd} {ng:Nat} {dr:tV} {F:Nat->Option bZ} {ih:ak->Env->ae->R}
theorem cQ.hidden (S:cQ CC ρ h w) (o:Obj):cQ CC ρ h (w.alloc o)/\Ext ρ h w ρ h (w.alloc o):=by
 have p_:(w.alloc o).heap.size=w.heap.size+1:=Array.size_push _;have hold: ∀k,k<w.heap.size->(w.alloc o).heap[k]? =w.heap[k]? :=by intro k hk;show(w.heap.push o)[k]? =_;rw[Array.getElem?_push,aT (by omega)]
 refine⟨⟨fun b r hb=>⟨(S.low b r hb).1,by have:=(S.low b r hb).2;omega⟩,fun b r x hb hx=>iA.mono ρ.le_refl (hold _ (S.low b r hb).2) (S.obj b r x hb hx),S.inj,S.wf⟩,
  ⟨ρ.le_refl,dK _,by omega,rfl,rfl,rfl,fun k hk _=>hold k hk,fun b r hb hw=> .inr ⟨b,r,hb,hw,rfl⟩,fun b r h h'=>(by rw[h] at h';cases h'),fun b r x hb hx=> .inr ⟨b,r,x,hb,hx,rfl⟩⟩⟩
theorem Dw (w:World) (o:Obj):(w.alloc o).heap.size=w.heap.size+1:=Array.size_push _
theorem x5.same {B:Nat} {a:Act} (S:cQ CC ρ h w) (hE:ER ρ e a.tmps) (hd:zt B ρ h w a.defers):x5 CC B ρ h w a ρ e h w a:=
 ⟨S,hE,rfl,.refl ρ h w,hd⟩
theorem x5.trans {CC:cj} {B:Nat} {ρ ρ1 ρ2:dY} {e1 e2:Env} {h h1 h2:ae} {w w1 w2:World} {a a1 a2:Act} (x:x5 CC B ρ h w a ρ1 e1 h1 w1 a1) (y:x5 CC B ρ1 h1 w1 a1 ρ2 e2 h2 w2 a2):
  x5 CC B ρ h w a ρ2 e2 h2 w2 a2:=⟨y.Qp,y.er,y.size.trans x.size,x.ext.trans y.ext,y.defs⟩
theorem VR.fnv {g:FuncId} {first caps:Array Value} {c:Value} (h:VR ρ (.func (.func g) first caps) c): ∃l m,first= #[]/\caps=⟨l⟩/\c= .func (.func g) #[] ⟨m⟩/\All2 (CR ρ) l m:=by
 cases h with
 |val h=>cases h with
  |cell h=>cases h with
   |cell h=>cases h
   |fn g h=>exact⟨_,_,rfl,rfl,rfl,h⟩
theorem cQ.off (S:cQ CC ρ h w) {r:yJ} {o:o9} (hb:ρ b=some r) (ho:h.tr.get b=some o) (hrw:o.rw=true) (ha:JL r.aA w w'):
  cQ CC ρ { h with tr:=h.tr.del b } w'/\Ext ρ h w ρ { h with tr:=h.tr.del b } w':=by
 have CP:dX h b:=⟨o,ho,hrw⟩;have dM: ∀x p,({ h with tr:=h.tr.del b } :ae).tr.get x=some p->x≠b/\h.tr.get x=some p:=by
  intro x p hx;simp only[Tr.mj] at hx;by_cases e:x=b
  .rw[aU e] at hx;cases hx
  .rw[aT e] at hx;exact⟨e,hx⟩
 have GX: ∀x,dX { h with tr:=h.tr.del b } x->dX h x:=fun x ⟨p,hp,Ha⟩=>⟨p,(dM x p hp).2,Ha⟩;refine⟨⟨fun x rx hx=>⟨(S.low x rx hx).1,by rw[ha.size];exact(S.low x rx hx).2⟩,?_,?_,fun x p hp=>S.wf x p (dM x p hp).2⟩,⟨ρ.le_refl,dK _,Nat.le_of_eq ha.size.symm,ha.os,ha.tape,ha.output,?_,?_,?_,?_⟩⟩
 .intro x rx p hx hp;obtain⟨cJ,hp⟩:=dM x p hp;exact iA.mono ρ.le_refl (ha.other _ (S.inj b x r rx p hb hx CP hp (Ne.symm cJ)).symm) (S.obj x rx p hx hp)
 .intro x y rx ry p hx hy hw hp cJ;exact S.inj x y rx ry p hx hy (GX x hw) (dM y p hp).2 cJ
 .intro k _ hk;exact ha.other k (fun e=>hk b r hb CP e.symm)
 .intro x rx hx hw;exact .inr ⟨x,rx,hx,GX x hw,rfl⟩
 .intro x rx h1 h2;rw[h1] at h2;cases h2
 .intro x rx p hx hp;exact .inr ⟨x,rx,p,hx,(dM x p hp).2,rfl⟩
theorem PC {r:Nat} (hh:w.heap[r]? =some (.deferred (some []))) (hf:JX ρ h r) (E:Ext ρ h w ρ' h' w'):w'.heap[r]? =some (.deferred (some []))/\JX ρ' h' r:=by have ef:=uV hh;refine⟨?_,hf.ext E ef⟩;rw[E.tD r ef,hh];rintro x rx hx ⟨o,ho,_⟩;exact hf x rx o hx ho
theorem Sm (hF:Fu P T ng dr F) (hT:cm P T) (hI:tX P T ng dr ih) {n:Nat} {f:Operand} {ps:Array Tmp} {asg body:Code}
  (anN:aZ ng f=true) (gM:ps.toList.all (Nat.blt · n)=true) (PS:jf asg=true) (NV:jf body=true)
  {e:Env} {h:ae} {x:aP} {e':Env} {h':ae} (hc:ct F ih (.Qk f ps.toList (bV T ng n dr asg) (bV T ng n dr body)) e h=some (x,e',h'))
  {B:Nat} {ρ:dY} {w:World} {a:Act} (b:Frame) (k:List Item) (cs:List Frame) (S:cQ (fS T ng dr) ρ h w) (hG:bS ng ρ) (hE:ER ρ e a.tmps) (hn:n<=a.tmps.size) (hB:B<=w.heap.size) (hD:zt B ρ h w a.defers)
  (hr:b.roundOf=none):
  ∃ρ' w' a',FC P b k cs (lone (on b a (.code (.rangeFunc f ps asg body)::k)) cs w) x a' w'/\x5 (fS T ng dr) B ρ h w a ρ' e' h' w' a':=by
 simp only[ct] at hc;split at hc
 .rename_i g first caps hev
  have hvf:=hE.eval hG anN;rw[hev] at hvf;obtain⟨l,m,rfl,rfl,hcf,C3⟩:=hvf.fnv;split at hc
  .rename_i v h1 KS
   
   obtain⟨S1,E1⟩:=S.hidden (.deferred (some []))
   let L:Loop:= { state:= .ready,pending:=none,fn:=b.fn,tmps:=a.tmps,params:=ps,assign:=asg,body:=body,defers:=w.heap.size }
   let im:yJ:= { aA:=w.heap.size+1,base:=0,len:=0,EM:=0,room:=0 }
   have cN:iA (fS T ng dr) (jj ρ h.next im) im (.loop e ps.toList (bV T ng n dr asg) (bV T ng n dr body) .ready) ((w.alloc (.deferred (some []))).alloc (.loop L)):=by
    refine⟨L,?_,hE.mono (tm S.fresh),rfl,⟨n,hn,rfl,PS⟩,⟨n,hn,rfl,NV⟩,?_,rfl,rfl⟩
    .show((w.alloc (.deferred (some []))).heap.push (.loop L))[w.heap.size+1]? =_;rw[<-Dw w (.deferred (some [])),Array.getElem?_push,aU rfl]
    .intro t ht;have:=List.all_eq_true.1 gM t ht;exact IF (uW.1 this) hn
   obtain⟨S2,E2⟩:=S1.add (im:=im) (Dw w _).symm cN;have E02:=E1.trans E2;have hG2:=hG.mono E02.le;have BY:jj ρ h.next im h.next=some im:=by simp[jj]
   have zY:All2 (VR (jj ρ h.next im)) ([]++[.func (.yield h.next) #[] #[]]++l) ([.func (.yield (w.heap.size+1)) #[] #[]]++m):=by refine All2.cons (.val (.cell (.yield BY))) ?_;exact C3.mono fun _ _ q=>(q.mono E02.le).vr
   have acn:si F ih g ([]++[.func (.yield h.next) #[] #[]]++l) (h.new (.loop e ps.toList (bV T ng n dr asg) (bV T ng n dr body) .ready))=some (v,h1):=KS
   let a2:Act:= { a with defers:=mark w.heap.size::a.defers }
   let bb:Frame:=on b a2 (.inRangeFunc (w.heap.size+1)::k)
   obtain⟨fn,ρ3,w3,c,fr,q1,q2,q3,q4,q5,q6,q7,q8,q9⟩:=wq hF hT hI acn S2 hG2 zY (bb::cs);have dm:=Kk (P:=P) (ρ:=a.eval) (w:=(w.alloc (.deferred (some []))).alloc (.loop L)) (args:= #[.const (.func (.yield (w.heap.size+1)) #[] #[])]) (ats:= #[]) (ty:=0) hcf q1 q2 q3;have vJ:=aiE (P:=P) (b:=b) (a:=a) (k:=k) (cs:=cs) (w:=w) (f:=f) (ps:=ps) (asg:=asg) (body:=body) hr dm;have acj:(#[]++(#[Operand.const (.func (.yield (w.heap.size+1)) #[] #[])]:Array Operand).map a.eval++⟨m⟩:Array Value)=⟨[.func (.yield (w.heap.size+1)) #[] #[]]++m⟩:=by apply Array.ext';simp[Act.eval]
   rw[acj] at vJ;have ahI:Steps P (lone (on b a (.code (.rangeFunc f ps asg body)::k)) cs w) (lone (on b a2 (.endRangeFunc (w.heap.size+1)::k)) cs w3):=by refine .head vJ (q4.trans (.one ?_));rw[step_leave_returned q6];rfl
   have E03:=E02.trans q9
   
   have Y0:ρ3 h.next=some im:=q9.le _ _ BY
   
   have hDn:zt B ρ3 h1 w3 a2.defers:=by
    obtain⟨rs,h4,h5,h6⟩:=hD;have iM: ∀r∈rs,r<w.heap.size:=fun r hr=>uV (h6 r hr).2.1;refine⟨w.heap.size::rs,by simp[a2,h4],List.nodup_cons.2 ⟨fun hm=>by have:=iM _ hm;omega,h5⟩,?_⟩;intro r hr;rcases List.mem_cons.1 hr with rfl|hr
    .have acx:JX (jj ρ h.next im) (h.new (.loop e ps.toList (bV T ng n dr asg) (bV T ng n dr body) .ready)) w.heap.size:=by
      intro y ry o hy _ he;unfold jj at hy;by_cases hyn:y=h.next
      .rw[aU hyn] at hy;cases hy;simp[im] at he
      .rw[aT hyn] at hy;have:=(S.low y ry hy).2;omega
     refine⟨hB,PC ?_ acx q9⟩;show((w.heap.push (.deferred (some []))).push (.loop L))[w.heap.size]? =_;rw[Array.getElem?_push,aT (by simp),Array.getElem?_push,aU rfl]
    .exact⟨(h6 r hr).1,PC (h6 r hr).2.1 (h6 r hr).2.2 E03⟩
   
   have fin: ∀(QR:Env) (ps3:List Nat) (QC GA:ak) (st:Ta),h1.tr.get h.next=some (.loop QR ps3 QC GA st)->st≠ .busy->
     ∃w',(∃L3:Loop,HM st L3/\Steps P (lone (on b a (.code (.rangeFunc f ps asg body)::k)) cs w) (lone (on b a2 ((L3.pending.map Item.code).toList++k)) cs w'))/\
      x5 (fS T ng dr) B ρ h w a ρ3 e { h1 with tr:=h1.tr.del h.next } w' a2:=by
    intro QR ps3 QC GA st dM Ei;obtain⟨L3,NP,hE3,hp3,hc3,hc4,ahi,hj3⟩:=q8.obj h.next im _ Y0 dM;have anG:(L3.state== .busy)=false:=by
     cases st with
     |ready=>rw[hj3.1];rfl
     |busy=>exact absurd rfl Ei
     |done j=>cases j<;>(rw[hj3.1];rfl)
    have B7:=W_ (P:=P) (b:=b) (a:=a2) (k:=k) (cs:=cs) NP anG;obtain⟨S4,E4⟩:=q8.off Y0 dM rfl (JL.obj im.aA (.loop { L3 with state:= .exhausted }));have E04:=E03.trans E4;exact⟨_,⟨L3,hj3,ahI.trans (.one B7)⟩,⟨S4,hE.mono E04.le,rfl,E04,hDn.ext E4⟩⟩
   split at hc
   .rename_i QR ps3 QC GA dM;cases hc;obtain⟨w',⟨L3,hj,hs⟩,hA⟩:=fin _ _ _ _ _ dM (by simp);refine⟨ρ3,w',a2,?_,hA⟩;rw[hj.2] at hs;exact hs
   .rename_i QR ps3 QC GA dM;cases hc;obtain⟨w',⟨L3,hj,hs⟩,hA⟩:=fin _ _ _ _ _ dM (by simp);refine⟨ρ3,w',a2,⟨k,?_⟩,hA⟩;rw[hj.2] at hs;exact hs
   .rename_i QR ps3 QC GA id dM;cases hc;obtain⟨w',⟨L3,hj,hs⟩,hA⟩:=fin _ _ _ _ _ dM (by simp);refine⟨ρ3,w',a2,⟨k,?_,rfl⟩,hA⟩;rw[hj.2] at hs;exact hs
   .cases hc
  .cases hc
 .cases hc
end
section
variable {P:Program} {T:qd} {ng:Nat} {dr:tV} {F:Nat->Option bZ} {ih:ak->Env->ae->R}
theorem W7 {y:aP×Env×ae} (hc:ct F ih .bad e h=some y):False:=by simp[ct] at hc
theorem Jb {b:Frame} {a a':Act} {t t':List Item} (h:t≠t'):lone (on b a t) cs w≠lone (on b a' t') cs w':=by intro e;exact h (RB e)
theorem Mc (hF:Fu P T ng dr F) (hT:cm P T) (hD:HL P T ng dr F) (hK:fT ih) (hI:tX P T ng dr ih):tX P T ng dr (ct F ih):=by
 intro n c;induction c with
 |skip=>
  intro e h x e' h' hc B ρ w a b k cs S hG hE hn hB BX hr;simp only[bV,ct,kl,wI] at hc;obtain⟨rfl,rfl,rfl⟩:=hc;exact⟨ρ,w,a,.one ad9,.same S hE BX⟩
 |label l=>
  intro e h x e' h' hc B ρ w a b k cs S hG hE hn hB BX hr;simp only[bV,ct,kl,wI] at hc;obtain⟨rfl,rfl,rfl⟩:=hc;exact⟨ρ,w,a,.one Z0,.same S hE BX⟩
 |region id ops draw=>
  intro e h x e' h' hc B ρ w a b k cs S hG hE hn hB BX hr;cases draw with
  |false=>
   simp only[bV,ct] at hc;split at hc
   .rename_i e1 h1 ho;cases hc;obtain⟨ρ1,w1,a1,s1,S1,E1,z1,d1,X1⟩:=Ow hF hT hI b k cs ops.size 0 (by omega) e e' h h' ho ρ w a S hG hE hn;refine⟨ρ1,w1,a1,?_,⟨S1,E1,z1,X1,by rw[d1];exact BX.ext X1⟩⟩;rw[<-List.range_eq_range'] at s1;exact Steps.head Xb (Steps.trans s1 (.one AF))
   .cases hc
  |true=>
   simp only[bV,ct] at hc;split at hc
   .rename_i e1 h1 ho;cases hc;obtain⟨ρ1,w1,a1,s1,S1,E1,z1,d1,X1⟩:=hD ih hK hI n ops e h e' h' ho (P.follows .mixedOrders) (w.tape w.drawn (.order b.fn id)) ρ { w with drawn:=w.drawn+1 } a b k cs (S.drawn _) hG hE hn;have X:=(Ext.drawn (ρ:=ρ) (h:=h) (w:=w) (w.drawn+1)).trans X1;refine⟨ρ1,w1,a1,?_,⟨S1,E1,z1,X,by rw[d1];exact BX.ext X⟩⟩;exact Steps.head ad7 (Steps.trans s1 (.one AF))
   .cases hc
 |seq c1 c2 _ _=>
  intro e h x e' h' hc B ρ w a b k cs S hG hE hn hB BX hr;have o7:b.roundOf=none\/jf c1=true:=hr.imp_right fun q=>by simp only[jf,uf] at q;exact q.1
  have Ef:b.roundOf=none\/jf c2=true:=hr.imp_right fun q=>by simp only[jf,uf] at q;exact q.2
  simp only[bV,ct] at hc;split at hc
  .rename_i e1 h1 ho;obtain⟨ρ1,w1,a1,g1,A1⟩:=hI n c1 e h _ e1 h1 ho B ρ w a b (.code c2::k) cs S hG hE hn hB BX o7;obtain⟨ρ2,w2,a2,g2,A2⟩:=hI n c2 e1 h1 _ e' h' hc B ρ1 w1 a1 b k cs A1.Qp (hG.mono A1.ext.le) A1.er (by rw[A1.size];exact hn) (ug hB A1.ext.size) A1.defs Ef;exact⟨ρ2,w2,a2,FC.of_steps (.head Xc g1) g2,A1.trans A2⟩
  .rename_i cJ;obtain⟨ρ1,w1,a1,g1,A1⟩:=hI n c1 e h _ e' h' hc B ρ w a b (.code c2::k) cs S hG hE hn hB BX o7;refine⟨ρ1,w1,a1,?_,A1⟩;cases x with
   |normal=>exact absurd hc (cJ e' h')
   |exit id=>
    obtain⟨k',h1,h2⟩:=g1;exact⟨k',.head Xc h1,h2.trans rfl⟩
   |ret=>
    obtain⟨k',h1⟩:=g1;exact⟨k',.head Xc h1⟩
 |cond c c1 c2 _ _=>
  intro e h x e' h' hc B ρ w a b k cs S hG hE hn hB BX hr;have o7:b.roundOf=none\/jf c1=true:=hr.imp_right fun q=>by simp only[jf,uf] at q;exact q.1
  have Ef:b.roundOf=none\/jf c2=true:=hr.imp_right fun q=>by simp only[jf,uf] at q;exact q.2
  simp only[bV] at hc;cases ho:aZ ng c with
  |false=>rw[ho] at hc;exact(W7 hc).elim
  |true=>
   simp only[ho,cond_true,ct] at hc;have hv:=hE.eval hG ho;split at hc
   .rename_i hev;rw[hev] at hv;obtain⟨ρ1,w1,a1,g1,A1⟩:=hI n c1 e h _ e' h' hc B ρ w a b k cs S hG hE hn hB BX o7;exact⟨ρ1,w1,a1,FC.of_steps (.one (W8 hv.mc)) g1,A1⟩
   .rename_i hev;rw[hev] at hv;obtain⟨ρ1,w1,a1,g1,A1⟩:=hI n c2 e h _ e' h' hc B ρ w a b k cs S hG hE hn hB BX Ef;exact⟨ρ1,w1,a1,FC.of_steps (.one (W8 hv.mc)) g1,A1⟩
   .cases hc
 |block id c _=>
  intro e h x e' h' hc B ρ w a b k cs S hG hE hn hB BX hr;simp only[bV,ct] at hc;split at hc
  .rename_i i e1 h1 ho;obtain⟨ρ1,w1,a1,g1,A1⟩:=hI n c e h _ e1 h1 ho B ρ w a b (.inBlock id::k) cs S hG hE hn hB BX hr;obtain⟨k',q1,q2⟩:=g1;cases hi:Nat.beq i id with
   |true=>
    have:=nO hi;subst this;simp only[hi,cond_true,kl,wI] at hc;obtain⟨rfl,rfl,rfl⟩:=hc;refine⟨ρ1,w1,a1,?_,A1⟩;refine Steps.head Dh (q1.trans (.one (ad8 ?_)));rw[q2];simp[exitTo]
   |false=>
    simp only[hi,cond_false,kl,wI] at hc;obtain⟨rfl,rfl,rfl⟩:=hc;refine⟨ρ1,w1,a1,⟨k',.head Dh q1,?_⟩,A1⟩;rw[q2];have:(id==i)=false:=by
     cases hx:id==i with
     |false=>rfl
     |true=>
      have:=eq_of_beq hx;subst this;rw[Nat.beq_refl] at hi;cases hi
    simp[exitTo,this]
  .rename_i cJ;obtain⟨ρ1,w1,a1,g1,A1⟩:=hI n c e h _ e' h' hc B ρ w a b (.inBlock id::k) cs S hG hE hn hB BX hr;refine⟨ρ1,w1,a1,?_,A1⟩;cases x with
   |normal=>exact Steps.head Dh (Steps.trans g1 (.one Sz))
   |exit i=>exact absurd hc (cJ i e' h')
   |ret=>
    obtain⟨k',h1⟩:=g1;exact⟨k',.head Dh h1⟩
 |loop c _=>
  intro e h x e' h' hc B ρ w a b k cs S hG hE hn hB BX hr;simp only[bV,ct] at hc;split at hc
  .rename_i e1 h1 ho;obtain⟨ρ1,w1,a1,g1,A1⟩:=hI n c e h _ e1 h1 ho B ρ w a b (.inLoop c::k) cs S hG hE hn hB BX hr;obtain⟨ρ2,w2,a2,g2,A2⟩:=hI n (.loop c) e1 h1 _ e' h' hc B ρ1 w1 a1 b k cs A1.Qp (hG.mono A1.ext.le) A1.er (by rw[A1.size];exact hn) (ug hB A1.ext.size) A1.defs hr;refine⟨ρ2,w2,a2,?_,A1.trans A2⟩;have Ej:Steps P (lone (on b a (.code (.loop c)::k)) cs w) (lone (on b a1 (.code c:: .inLoop c::k)) cs w1):= .head Jt (Steps.trans g1 (.one Xa));refine FC.of_steps Ej ?_;have hs:=Jt (P:=P) (b:=b) (a:=a1) (k:=k) (cs:=cs) (w:=w1) (c:=c);cases x with
   |normal=>exact zh g2 hs (Jb fun q=>by have:=congrArg List.length q;simp at this)
   |exit i=>
    obtain⟨k',q1,q2⟩:=g2;exact⟨k',zh q1 hs (Jb fun q=>by cases q),q2⟩
   |ret=>
    obtain⟨k',q1⟩:=g2;exact⟨k',zh q1 hs (Jb fun q=>by cases q)⟩
  .rename_i cJ;obtain⟨ρ1,w1,a1,g1,A1⟩:=hI n c e h _ e' h' hc B ρ w a b (.inLoop c::k) cs S hG hE hn hB BX hr;refine⟨ρ1,w1,a1,?_,A1⟩;cases x with
   |normal=>exact absurd hc (cJ e' h')
   |exit id=>
    obtain⟨k',h1,h2⟩:=g1;exact⟨k',.head Jt h1,h2.trans rfl⟩
   |ret=>
    obtain⟨k',h1⟩:=g1;exact⟨k',.head Jt h1⟩
 |scope c ihc=>
  intro e h x e' h' hc B ρ w a b k cs S hG hE hn hB BX hr;simp only[bV] at hc;obtain⟨ρ1,w1,a1,g1,A1⟩:=ihc e h x e' h' hc B ρ w a b (.inScope c::k) cs S hG hE hn hB BX hr;refine⟨ρ1,w1,a1,?_,A1⟩;cases x with
  |normal=>exact Steps.head Jv (Steps.trans g1 (.one SB))
  |exit id=>
   obtain⟨k',h1,h2⟩:=g1;exact⟨k',.head Jv h1,h2.trans rfl⟩
  |ret=>
   obtain⟨k',h1⟩:=g1;exact⟨k',.head Jv h1⟩
 |exit id=>
  intro e h x e' h' hc B ρ w a b k cs S hG hE hn hB BX hr;simp only[bV,ct,kl,wI] at hc;obtain⟨rfl,rfl,rfl⟩:=hc;exact⟨ρ,w,a,⟨k,Steps.refl P _,rfl⟩,.same S hE BX⟩
 |ret=>
  intro e h x e' h' hc B ρ w a b k cs S hG hE hn hB BX hr;simp only[bV,ct,kl,wI] at hc;obtain⟨rfl,rfl,rfl⟩:=hc;exact⟨ρ,w,a,⟨k,Steps.refl P _⟩,.same S hE BX⟩
 |rangeFunc f ps asg body _ _=>
  intro e h x e' h' hc B ρ w a b k cs S hG hE hn hB BX hr;simp only[bV] at hc;cases cN:(aZ ng f&&ps.toList.all (Nat.blt · n)&&jf asg&&jf body) with
  |false=>rw[cN] at hc;exact(W7 hc).elim
  |true=>
   rw[cN] at hc;simp only[uf] at cN;obtain⟨⟨⟨h1,h2⟩,h3⟩,h4⟩:=cN;have Vu:b.roundOf=none:=by
    rcases hr with q|q
    .exact q
    .simp[jf] at q
   exact Sm hF hT hI h1 h2 h3 h4 hc b k cs S hG hE hn hB BX Vu
 |_=>
  intro e h x e' h' hc;exact(W7 hc).elim
theorem Su (hF:Fu P T ng dr F) (hT:cm P T) (hD:HL P T ng dr F): ∀fuel,tX P T ng dr (run F fuel):=by
 intro fuel;induction fuel with
 |zero=>intro n c e h x e' h' hc;cases hc
 |succ m ihm=>exact Mc hF hT hD (Ss m) ihm
end
def gL (md:Region.Mode) (o:Oper):List Nat:=(o.after.toList.filter (Region.binds md)).map (·.on)
def pass:List (List Nat)->Nat->Nat->Nat
 |[],_,mask=>mask
 |e::r,i,mask=>pass r (i+1) (bif e.all (Nat.testBit mask) then mask ||| (1 <<< i) else mask)
def ZM (full:Nat) (es:List (List Nat)):Nat->Nat->Bool
 |0,_=>false
 |f+1,mask=>bif Nat.beq mask full then true else ZM full es f (pass es 0 mask)
def zj (md:Region.Mode) (ops:List Oper):Bool:=ZM (2^ops.length-1) (ops.map (gL md)) (ops.length+1) 0
theorem PA {mask i j:Nat} :Nat.testBit (mask ||| (1 <<< i)) j=true↔Nat.testBit mask j=true\/j=i:=by rw[Nat.testBit_or,Bool.or_eq_true,Nat.one_shiftLeft,Nat.testBit_two_pow,decide_eq_true_eq];exact⟨Or.imp_right Eq.symm,Or.imp_right Eq.symm⟩
theorem EU {D:Nat->Prop} : ∀(es:List (List Nat)) (i mask:Nat),(∀j e,es[j]? =some e->(∀k∈e,D k)->D (i+j))->(∀k,Nat.testBit mask k=true->D k)-> ∀k,Nat.testBit (pass es i mask) k=true->D k
 |[],_,_,_,hm=>hm
 |e::r,i,mask,hD,hm=>by
  refine EU r (i+1) _ (fun j e' hj hk=>by have:=hD (j+1) e' (by simpa using hj) hk;rwa [BU,Nat.add_comm 1 j]) ?_;intro k hk;cases hb:e.all (Nat.testBit mask)<;>simp only[hb,cond_true,cond_false] at hk
  .exact hm k hk
  .rcases PA.1 hk with h|rfl
   .exact hm k h
   .exact hD 0 e rfl fun q hq=>hm q (List.all_eq_true.1 hb q hq)
theorem EV {D:Nat->Prop} {full:Nat} {es:List (List Nat)} (hD: ∀j e,es[j]? =some e->(∀k∈e,D k)->D j): ∀(f mask:Nat),ZM full es f mask=true->(∀k,Nat.testBit mask k=true->D k)-> ∀k,Nat.testBit full k=true->D k
 |0,_,h,_=>by cases h
 |f+1,mask,h,hm=>by
  simp only[ZM] at h;cases hb:Nat.beq mask full with
  |true=>rw[nO hb] at hm;exact hm
  |false=>
   rw[hb] at h;exact EV hD f _ h (EU es 0 mask (fun j e hj hk=>by rw[Bg];exact hD j e hj hk) hm)
theorem OV {D:Nat->Prop} {ops:List Oper} (h:zj md ops=true) (hD: ∀(j:Nat) (o:Oper),ops[j]? =some o->(∀k∈gL md o,D k)->D j): ∀k,k<ops.length->D k:=by
 intro k hk;refine EV (D:=D) (fun j e hj hke=> ?_) _ _ h (fun q hq=>by simp at hq) k ?_
 .rw[tQ] at hj;cases ho:ops[j]? with
  |none=>rw[ho] at hj;cases hj
  |some o=>rw[ho] at hj;cases hj;exact hD j o ho hke
 .rw[Nat.testBit_two_pow_sub_one];simpa using hk
inductive Ord (ops:Array Oper):(Nat->Prop)->List Nat->Prop
 |nil {D:Nat->Prop} (h: ∀i,i<ops.size->D i):Ord ops D []
 |cons {D:Nat->Prop} {i:Nat} {L:List Nat} {o:Oper} (ho:ops[i]? =some o) (hn: ¬D i) (he: ∀k∈gL .any o,D k) (hl:Ord ops (fun j=>D j\/j=i) L):Ord ops D (i::L)
theorem QP {k:Nat} (h:k∈gL .any o):k∈gL md o:=by unfold gL at h ⊢;simp only[j9,NA] at h ⊢;obtain⟨e,⟨h1,h2⟩,h3⟩:=h;refine⟨e,⟨h1,?_⟩,h3⟩;unfold Region.binds at h2 ⊢;split at h2<;>simp_all
theorem ab1 (ht:zj md ops.toList=true): ∀(fuel t:Nat) (ij:Array Bool) (D:Nat->Prop),ij.size=ops.size->(∀i,D i↔ij.getD i false=true)->ij.toList.count false=fuel->
  Ord ops D (Region.linearise.go md ops fuel t ij []):=by
 intro fuel;induction fuel with
 |zero=>
  intro t ij D hs hD hc;refine .nil fun i hi=>(hD i).2 ?_;have ef:i<ij.size:=by omega
  rw[List.count_eq_zero] at hc;cases hv:ij[i] with
  |true=>simp[Array.getD,ef,hv]
  |false=>exact absurd (Array.mem_toList_iff.2 (hv▸Array.getElem_mem ef)) hc
 |succ f ihf=>
  intro t ij D hs hD hc;simp only[Region.linearise.go];generalize N2:((List.range ops.size).filter fun i=> !ij.getD i true&&((ops[i]?).map (·.after.all fun e=> !Region.binds md e||ij.getD e.on false)).getD false)=rs;have uk: ∀i,i∈rs↔i<ops.size/\ij.getD i true=false/\((ops[i]?).map (·.after.all fun e=> !Region.binds md e||ij.getD e.on false)).getD false=true:=by intro i;rw[<-N2];simp[and_assoc]
  have cJ:rs≠[]:=by
   intro acK;have mM: ∀k,k<ops.toList.length->D k:=by
    refine OV ht fun j o hj hk=> ?_;have hjo:ops[j]? =some o:=by simpa using hj
    have ef:j<ops.size:=(Array.getElem?_eq_some_iff.1 hjo).1;cases hv:ij.getD j true with
    |true=>
     refine(hD j).2 ?_;have acI:j<ij.size:=by omega
     simpa [Array.getD,acI] using hv
    |false=>
     have:j∈rs:=by
      refine(uk j).2 ⟨ef,hv,?_⟩;rw[hjo];simp only[CJ,Option.getD_some,Array.all_eq_true'];intro e he;cases hb:Region.binds md e with
      |false=>rfl
      |true=>
       refine(hD e.on).1 (hk e.on ?_);unfold gL;simp only[j9,NA];exact⟨e,⟨by simpa using he,hb⟩,rfl⟩
     rw[acK] at this;cases this
   have:ij.toList.count false=0:=by
    rw[List.count_eq_zero];intro hm;obtain⟨i,hi,hv⟩:=List.getElem_of_mem hm;have C2:i<ij.size:=by simpa using hi
    have:=(hD i).1 (mM i (by simp;omega));simp[Array.getD,C2] at this;simp at hv;rw[this] at hv;cases hv
   omega
  have cn:0<rs.length:=List.length_pos_iff.2 cJ;have dM:rs[t%rs.length]? =some (rs[t%rs.length]'(Nat.mod_lt _ cn)):=aX _;rw[dM];dsimp only;generalize hi:rs[t%rs.length]'(Nat.mod_lt _ cn)=i;have IU:i∈rs:=hi▸zk _;obtain⟨h1,h2,h3⟩:=(uk i).1 IU;rw[linearise_go_acc,List.reverse_singleton,List.singleton_append];have ho:ops[i]? =some ops[i]:=Array.getElem?_eq_getElem h1;have Gd:i<ij.size:=by omega
  have hvi:ij[i]=false:=by simpa [Array.getD,Gd] using h2
  refine .cons ho ?_ ?_ (ihf _ _ _ (by simp[hs]) ?_ ?_)
  .intro hd;have:=(hD i).1 hd;simp[Array.getD,Gd,hvi] at this
  .intro k hk;rw[ho] at h3;simp only[CJ,Option.getD_some,Array.all_eq_true'] at h3;have vM:=QP (md:=md) hk;unfold gL at vM;simp only[j9,NA] at vM;obtain⟨e,⟨q1,q2⟩,q3⟩:=vM;have:=h3 e (by simpa using q1);rw[q2] at this;rw[<-q3];exact(hD e.on).2 (by simpa using this)
  .intro j;constructor
   .rintro(hj|rfl)
    .have:=(hD j).1 hj;by_cases Tl:j=i
     .subst Tl;simp[Array.getD,Gd]
     .simp only[Array.getD_eq_getD_getElem?] at this ⊢;rw[Array.getElem?_setIfInBounds_ne (Ne.symm Tl)];exact this
    .simp[Array.getD,Gd]
   .intro hj;by_cases Tl:j=i
    .exact .inr Tl
    .refine .inl ((hD j).2 ?_);simp only[Array.getD_eq_getD_getElem?] at hj ⊢;rwa [Array.getElem?_setIfInBounds_ne (Ne.symm Tl)] at hj
  .rw[Array.toList_setIfInBounds,List.count_set (by simpa using Gd)];simp[hvi,hc]
theorem Jx (h0:zj .any ops.toList=true) (h1:zj .text ops.toList=true) (h2:zj .gc ops.toList=true) (mixed:Bool) (t:Nat):
  Ord ops (fun _=>False) (Region.schedule mixed ops t):=by
 have key: ∀(md:Region.Mode) (t:Nat),zj md ops.toList=true->Ord ops (fun _=>False) (Region.linearise md ops t):=by intro md t ht;refine ab1 ht _ _ _ _ (by simp) (fun i=> ?_) (by simp);simp[Array.getD_eq_getD_getElem?,Array.getElem?_replicate];split<;>simp
 unfold Region.schedule;split
 .exact key _ _ h0
 .split
  .exact key _ _ h1
  .exact key _ _ h2
def Ew (A:Tr Nat):List Nat->Nat
 |[]=>0
 |j::r=>(Ew A r ||| (1 <<< j)) ||| (Tr.get A j).getD 0
def x7:List Oper->Nat->Tr Nat->Tr Nat
 |[],_,A=>A
 |o::r,i,A=>x7 r (i+1) (A.set i (Ew A (gL .any o)))
def vB (A:Tr Nat) (j i:Nat):Bool:=Nat.testBit ((Tr.get A j).getD 0) i
inductive Cx (ops:Array Oper):Nat->Nat->Prop
 |No {i k:Nat} {o:Oper} (ho:ops[i]? =some o) (h:k∈gL .any o):Cx ops i k
 |wE {i k j:Nat} {o:Oper} (ho:ops[i]? =some o) (h:k∈gL .any o) (hj:Cx ops k j):Cx ops i j
theorem Cb {A:Tr Nat} : ∀ {es:List Nat} {k:Nat},Nat.testBit (Ew A es) k=true-> ∃e∈es,k=e\/vB A e k=true
 |[],k,h=>by simp[Ew] at h
 |j::r,k,h=>by
  rw[Ew,Nat.testBit_or,Bool.or_eq_true] at h;rcases h with h|h
  .rcases PA.1 h with h|h
   .obtain⟨e,he,hk⟩:=Cb h;exact⟨e,CZ _ he,hk⟩
   .exact⟨j,D2 ..,.inl h⟩
  .exact⟨j,D2 ..,.inr h⟩
theorem Dx {ops:Array Oper} : ∀(l:List Oper) (i:Nat) (A:Tr Nat),(∀j o,l[j]? =some o->ops[i+j]? =some o)->(∀j k,vB A j k=true->Cx ops j k)-> ∀j k,vB (x7 l i A) j k=true->Cx ops j k
 |[],_,_,_,hA=>hA
 |o::r,i,A,hl,hA=>by
  refine Dx r (i+1) _ (fun j o' ho=>by have:=hl (j+1) o' (by simpa using ho);rwa [BU,Nat.add_comm 1 j]) ?_;intro j k hb;unfold vB at hb;rw[Tr.aN] at hb;by_cases e:j=i
  .subst e;rw[aU rfl] at hb;obtain⟨q,hq,hk⟩:=Cb hb;have ho:=hl 0 o rfl;rcases hk with rfl|hk
   .exact .No ho hq
   .exact .wE ho hq (hA _ _ hk)
  .rw[aT e] at hb;exact hA j k hb
theorem Cx.closed {D:Nat->Prop} (hD: ∀i o,ops[i]? =some o->D i-> ∀k∈gL .any o,D k) (h:Cx ops i j):(∀o,ops[i]? =some o-> ∀k∈gL .any o,D k)->D j:=by
 induction h with
 |No ho h=>intro hi;exact hi _ ho _ h
 |wE ho h _ ih=>
  intro hi;have hk:=hi _ ho _ h;exact ih fun o' MD k' vM=>hD _ o' MD hk k' vM
def GL:List Oper->Nat->Tr Nat->Option (Tr Nat)
 |[],_,M=>some M
 |o::r,i,M=>match o.dst with
  |none=>GL r (i+1) M
  |some d=>match Tr.get M d with
   |none=>GL r (i+1) (M.set d i)
   |some _=>none
theorem yY: ∀(l:List Oper) (i:Nat) (M M':Tr Nat),GL l i M=some M'->(∀d k,Tr.get M d=some k->Tr.get M' d=some k)/\ ∀j o d,l[j]? =some o->o.dst=some d->Tr.get M' d=some (i+j)
 |[],_,M,M',h=>by simp only[GL,kl] at h;subst h;exact⟨fun _ _ h=>h,fun j o d h=>by simp at h⟩
 |o::r,i,M,M',h=>by
  simp only[GL] at h;split at h
  .rename_i hn;obtain⟨h1,h2⟩:=yY r (i+1) M M' h;refine⟨h1,fun j o' d hj hd=> ?_⟩;cases j with
   |zero=>simp only[List.getElem?_cons_zero,kl] at hj;subst hj;rw[hn] at hd;cases hd
   |succ j=>rw[h2 j o' d (by simpa using hj) hd];congr 1;omega
  .rename_i d0 hs;split at h
   .rename_i hg;obtain⟨h1,h2⟩:=yY r (i+1) _ M' h;refine⟨fun d k hk=>h1 d k ?_,fun j o' d hj hd=> ?_⟩
    .rw[Tr.aN];by_cases e:d=d0
     .subst e;rw[hg] at hk;cases hk
     .rw[aT e];exact hk
    .cases j with
     |zero=>
      simp only[List.getElem?_cons_zero,kl] at hj;subst hj;rw[hs] at hd;cases hd;exact h1 _ _ (by rw[Tr.aN,aU rfl];rfl)
     |succ j=>rw[h2 j o' d (by simpa using hj) hd];congr 1;omega
   .cases h
def places (p:Nat->Bool):List bl->Nat->List Nat
 |[],_=>[]
 |o::r,i=>bif p o.op.kind then i::places p r (i+1) else places p r (i+1)
theorem Cl {p:Nat->Bool} : ∀(l:List bl) (i j:Nat) (o:bl),l[j]? =some o->p o.op.kind=true->i+j∈places p l i
 |[],_,j,o,h,_=>by simp at h
 |o::r,i,j,o',hj,hp=>by
  simp only[places];cases j with
  |zero=>
   simp only[List.getElem?_cons_zero,kl] at hj;subst hj;rw[hp];exact D2 ..
  |succ j=>
   have:=Cl r (i+1) j o' (by simpa using hj) hp;rw[BU,Nat.add_comm 1 j] at this;cases p o.op.kind
   .exact this
   .exact CZ _ this
def level (A:Tr Nat) (i:Nat):List Nat->Nat
 |[]=>0
 |u::r=>bif vB A i u then level A i r+1 else level A i r
def Qb (A:Tr Nat) (js bh:List Nat):List Nat->Nat->List Nat
 |[],s=>bh.filter fun i=>Nat.beq (level A i js) s
 |u::r,s=>(bh.filter fun i=>Nat.beq (level A i js) s)++u::Qb A js bh r (s+1)
def Qc (A:Tr Nat) (js others:List Nat):List Nat:=Qb A js others js 0
def LI:List Nat->Nat->Tr Nat->Option (Tr Nat)
 |[],_,Q=>some Q
 |i::r,p,Q=>match Tr.get Q i with
  |none=>LI r (p+1) (Q.set i p)
  |some _=>none
theorem EW: ∀(l:List Nat) (p:Nat) (Q Q':Tr Nat),LI l p Q=some Q'->(∀i k,Tr.get Q i=some k->Tr.get Q' i=some k)/\(∀j i,l[j]? =some i->Tr.get Q' i=some (p+j))/\
  (∀i k,Tr.get Q' i=some k->Tr.get Q i=some k\/ ∃j,l[j]? =some i/\k=p+j)
 |[],_,Q,Q',h=>by simp only[LI,kl] at h;subst h;exact⟨fun _ _ h=>h,fun j i h=>by simp at h,fun i k h=> .inl h⟩
 |i0::r,p,Q,Q',h=>by
  simp only[LI] at h;split at h
  .rename_i hn;obtain⟨h1,h2,h3⟩:=EW r (p+1) _ Q' h;refine⟨fun i k hk=>h1 i k ?_,fun j i hj=> ?_,fun i k hk=> ?_⟩
   .rw[Tr.aN];by_cases e:i=i0
    .subst e;rw[hn] at hk;cases hk
    .rw[aT e];exact hk
   .cases j with
    |zero=>
     simp only[List.getElem?_cons_zero,kl] at hj;subst hj;exact h1 _ _ (by rw[Tr.aN,aU rfl];rfl)
    |succ j=>rw[h2 j i (by simpa using hj)];congr 1;omega
   .rcases h3 i k hk with h|⟨j,hj,hkj⟩
    .rw[Tr.aN] at h;by_cases e:i=i0
     .rw[aU e] at h;cases h;exact .inr ⟨0,by simp[e],rfl⟩
     .rw[aT e] at h;exact .inl h
    .exact .inr ⟨j+1,by simpa using hj,by omega⟩
  .cases h
def Fe (ops:List Oper):List Nat->Option (List (Nat×Oper))
 |[]=>some []
 |i::r=>match ops[i]?,Fe ops r with
  |some o,some l=>some ((i,o)::l)
  |_,_=>none
theorem Cp {ops:List Oper} : ∀(l:List Nat) (rows:List (Nat×Oper)),Fe ops l=some rows->rows.length=l.length/\ ∀(p i:Nat) (o:Oper),rows[p]? =some (i,o)->l[p]? =some i/\ops[i]? =some o
 |[],rows,h=>by simp only[Fe,kl] at h;subst h;exact⟨rfl,fun p i o h=>by simp at h⟩
 |i::r,rows,h=>by
  simp only[Fe] at h;split at h
  .rename_i o l ho hl;cases h;obtain⟨h1,h2⟩:=Cp r l hl;refine⟨by simp[h1],fun p i' o' hp=> ?_⟩;cases p with
   |zero=>
    simp only[List.getElem?_cons_zero,kl,wI] at hp;obtain⟨rfl,rfl⟩:=hp;exact⟨rfl,ho⟩
   |succ p=>simpa using h2 p i' o' (by simpa using hp)
  .cases h
def Fc (A M Q:Tr Nat) (js:List Nat) (p i:Nat) (o:Oper):Bool:=
 (gL .any o).all (fun e=>match Tr.get Q e with|some pe=>Nat.blt pe p|none=>false)&&
 (match o.guard with|none=>true|some (g,_)=>vB A i g)&&
 o.op.operands.toList.all (fun x=>match x with
  | .tmp t=>match Tr.get M t with
   |none=>true
   |some k=>vB A i k||vB A k i
  |_=>true)&&
 js.all fun u=>match Tr.get Q u with
  |some pu=> !Nat.blt pu p||vB A i u
  |none=>false
def Fg (A M Q:Tr Nat) (js:List Nat):List (Nat×Oper)->Nat->Bool
 |[],_=>true
 |(i,o)::r,p=>Fc A M Q js p i o&&Fg A M Q js r (p+1)
theorem Cq {A M Q:Tr Nat} {js:List Nat} : ∀(l:List (Nat×Oper)) (p:Nat),Fg A M Q js l p=true-> ∀j i o,l[j]? =some (i,o)->Fc A M Q js (p+j) i o=true
 |[],_,_,j,i,o,h=>by simp at h
 |(i,o)::r,p,h,j,i',o',hj=>by
  simp only[Fg,uf] at h;cases j with
  |zero=>
   simp only[List.getElem?_cons_zero,kl,wI] at hj;obtain⟨rfl,rfl⟩:=hj;exact h.1
  |succ j=>have:=Cq r (p+1) h.2 j i' o' (by simpa using hj);rwa [BU,Nat.add_comm 1 j] at this
def j8 (A Q:Tr Nat) (p i:Nat):List Nat->List Nat
 |[]=>[]
 |u::r=>match Tr.get Q u with
  |some pu=>bif Nat.blt p pu&& !vB A u i then pu::j8 A Q p i r else j8 A Q p i r
  |none=>j8 A Q p i r
theorem BT {A Q:Tr Nat} {p i:Nat} : ∀ {l:List Nat} {u pu:Nat},u∈l->Tr.get Q u=some pu->p<pu->vB A u i=false->pu∈j8 A Q p i l
 |[],u,pu,h,_,_,_=>by simp at h
 |v::r,u,pu,h,hq,hp,hb=>by
  have La:u∈r->pu∈j8 A Q p i (v::r):=fun hr=>by
   have:=BT hr hq hp hb;simp only[j8];split
   .rename_i pv _;cases(Nat.blt p pv&& !vB A v i)
    .exact this
    .exact CZ _ this
   .exact this
  rcases List.mem_cons.1 h with rfl|hr
  .simp only[j8,hq];rw[uW.2 hp,hb];exact D2 ..
  .exact La hr
def JE (A M:Tr Nat) (i:Nat) (o:bl):Option Nat:=
 bif Nat.beq o.op.kind 1 then match o.op.through with
  |some (.tmp t)=>match Tr.get M t with
   |none=>some t
   |some k=>bif vB A i k then some t else none
  |_=>none
 else o.dst
def Db (A M Q:Tr Nat) (js:List Nat) (f:Oper->bl):List (Nat×Oper)->Nat->Option (List (Nat×Nat))
 |[],_=>some []
 |(i,o)::r,p=>match Db A M Q js f r (p+1) with
  |none=>none
  |some ps=>bif Nat.beq (f o).op.kind 1||Nat.beq (f o).op.kind 2 then match j8 A Q p i js with
    |[]=>some ps
    |u::us=>match JE A M i (f o) with
     |some t=>some (((u::us).foldl Nat.max p,t)::ps)
     |none=>none
   else some ps
theorem foldl_max: ∀(l:List Nat) (i:Nat),i<=l.foldl Nat.max i/\(∀u∈l,u<=l.foldl Nat.max i)/\(l.foldl Nat.max i=i\/l.foldl Nat.max i∈l)
 |[],i=>⟨dK _,fun _ h=>by simp at h,.inl rfl⟩
 |u::l,i=>by
  obtain⟨h1,h2,h3⟩:=foldl_max l (Nat.max i u);simp only[List.foldl_cons];refine⟨ug (Nat.le_max_left i u) h1,?_,?_⟩
  .intro x hx;rcases List.mem_cons.1 hx with rfl|hx
   .exact ug (Nat.le_max_right i x) h1
   .exact h2 x hx
  .rcases h3 with h3|h3
   .rw[h3];rcases Nat.le_total i u with h|h
    .right;rw[show Nat.max i u=u from Nat.max_eq_right h];exact D2 ..
    .left;exact Nat.max_eq_left h
   .exact .inr (CZ _ h3)
theorem DY {A Q:Tr Nat} {p i:Nat} : ∀ {l:List Nat} {x:Nat},x∈j8 A Q p i l-> ∃u∈l,Tr.get Q u=some x
 |[],x,h=>by simp[j8] at h
 |v::r,x,h=>by
  simp only[j8] at h;have hr:x∈j8 A Q p i r-> ∃u∈v::r,Tr.get Q u=some x:=fun h=>by obtain⟨u,hu,hq⟩:=DY h;exact⟨u,CZ _ hu,hq⟩
  split at h
  .rename_i pv hpv;cases hb:(Nat.blt p pv&& !vB A v i)<;>rw[hb] at h
   .exact hr h
   .rcases List.mem_cons.1 h with rfl|h
    .exact⟨v,D2 ..,hpv⟩
    .exact hr h
  .exact hr h
theorem Aq {A M Q:Tr Nat} {js:List Nat} {f:Oper->bl} : ∀(l:List (Nat×Oper)) (p:Nat) (ps:List (Nat×Nat)),Db A M Q js f l p=some ps-> ∀j i o,l[j]? =some (i,o)->((f o).op.kind=1\/(f o).op.kind=2)->
  j8 A Q (p+j) i js=[]\/ ∃c t,JE A M i (f o)=some t/\p+j<=c/\(∀u∈j8 A Q (p+j) i js,u<=c)/\(c=p+j\/ ∃u∈js,Tr.get Q u=some c)/\(c,t)∈ps
 |[],_,_,_,j,i,o,h,_=>by simp at h
 |(i,o)::r,p,ps,h,j,i',o',hj,hk=>by
  simp only[Db] at h;split at h
  .cases h
  .rename_i WG hr;cases j with
   |succ j=>
    have:=Aq r (p+1) WG hr j i' o' (by simpa using hj) hk;rw[BU,Nat.add_comm 1 j] at this;refine this.imp_right fun⟨c,t,h1,h2,h3,h4,h5⟩=>⟨c,t,h1,h2,h3,h4,?_⟩;cases hb:(Nat.beq (f o).op.kind 1||Nat.beq (f o).op.kind 2)<;>rw[hb] at h
    .cases h;exact h5
    .simp only[cond_true] at h;split at h
     .cases h;exact h5
     .split at h
      .cases h;exact CZ _ h5
      .cases h
   |zero=>
    simp only[List.getElem?_cons_zero,kl,wI] at hj;obtain⟨rfl,rfl⟩:=hj;have hb:(Nat.beq (f o).op.kind 1||Nat.beq (f o).op.kind 2)=true:=by rcases hk with hk|hk<;>rw[hk]<;>rfl
    rw[hb] at h;simp only[cond_true] at h;split at h
    .rename_i hf;exact .inl hf
    .rename_i u us hf;split at h
     .rename_i t ht;cases h;obtain⟨h1,h2,h3⟩:=foldl_max (u::us) p;refine .inr ⟨_,t,ht,h1,by rw[ID,hf];exact h2,h3.imp_right fun q=> ?_,D2 ..⟩;have q': ∀x,x∈u::us-> ∃v∈js,Tr.get Q v=some x:=fun x hx=>DY (hf▸hx:x∈j8 A Q p i js);exact q' _ q
     .cases h
def attach (ps:List (Nat×Nat)) (f:Oper->bl):List (Nat×Oper)->Nat->List (bl×List Nat)
 |[],_=>[]
 |(_,o)::r,p=>(f o,(ps.filter fun x=>Nat.beq x.1 p).map (·.2))::attach ps f r (p+1)
theorem vU {ps:List (Nat×Nat)} {f:Oper->bl} : ∀(l:List (Nat×Oper)) (p j:Nat),(attach ps f l p)[j]? =(l[j]?).map fun x=>(f x.2,(ps.filter fun x=>Nat.beq x.1 (p+j)).map (·.2))
 |[],_,j=>by simp[attach]
 |(_,o)::r,p,j=>by
  cases j with
  |zero=>simp[attach]
  |succ j=>
   simp only[attach,List.getElem?_cons_succ];rw[vU r (p+1) j,BU,Nat.add_comm 1 j]
theorem Dz {ps:List (Nat×Nat)} {f:Oper->bl} : ∀(l:List (Nat×Oper)) (p:Nat),(attach ps f l p).length=l.length
 |[],_=>rfl
 |(_,_)::r,p=>by simp[attach,Dz r]
def uS:List (bl×List Nat):=[({ dst:=none,guard:=none,op:= .bad },[])]
def Kx (T:qd) (ng n:Nat) (ops:List Oper) (M A:Tr Nat) (js aK:List Nat):List (bl×List Nat):=
 match LI aK 0 .nil,Fe ops aK with
 |some Q,some rows=>match Db A M Q js (aR T ng n ops) rows 0 with
  |some ps=>bif Nat.beq aK.length ops.length&&(List.range ops.length).all (fun i=>(Tr.get Q i).isSome)&&zj .any ops&&zj .text ops&&zj .gc ops&&Fg A M Q js rows 0 then attach ps (aR T ng n ops) rows 0 else uS
  |none=>uS
 |_,_=>uS
def dZ (T:qd) (ng n:Nat) (ops:List Oper):List (bl×List Nat):=
 match GL ops 0 .nil with
 |none=>uS
 |some M=>match x7 ops 0 .nil,ops.map (aR T ng n ops) with
  |A,aus=>match places (Nat.beq 3) aus 0,places (fun k=>Nat.blt k 3) aus 0 with
   |js,others=>Kx T ng n ops M A js (Qc A js others)
structure jn (T:qd) (ng n:Nat) (ops:Array Oper) (σ:Nat->Nat) (l:List (bl×List Nat)):Prop where
 any:zj .any ops.toList=true
 text:zj .text ops.toList=true
 gc:zj .gc ops.toList=true
 bound: ∀p,p<ops.size->σ p<ops.size
 ZA: ∀i,i<ops.size-> ∃p,p<ops.size/\σ p=i
 inj: ∀p q,p<ops.size->q<ops.size->σ p=σ q->p=q
 get: ∀(p:Nat) (o:Oper),p<ops.size->ops[σ p]? =some o-> ∃lL,l[p]? =some (aR T ng n ops.toList o,lL)
 len:l.length=ops.size
 lower: ∀(p:Nat) (o:Oper),p<ops.size->ops[σ p]? =some o-> ∀k∈gL .any o,∃pk,pk<p/\σ pk=k
 guard: ∀(j:Nat) (o:Oper) (g:Nat) (b:Bool),ops[j]? =some o->o.guard=some (g,b)->Cx ops j g
 reads: ∀(j:Nat) (o:Oper) (t:Nat),ops[j]? =some o->Operand.tmp t∈o.op.operands.toList-> ∀(i:Nat) (o':Oper),ops[i]? =some o'->o'.dst=some t->Cx ops j i\/Cx ops i j
 once: ∀(i j:Nat) (o o':Oper) (d:Nat),ops[i]? =some o->ops[j]? =some o'->o.dst=some d->o'.dst=some d->i=j
 eager: ∀(p u:Nat) (o':Oper),u<p->p<ops.size->ops[σ u]? =some o'->(aR T ng n ops.toList o').op.kind=3->Cx ops (σ p) (σ u)
 still: ∀(p:Nat) (o:Oper),p<ops.size->ops[σ p]? =some o->((aR T ng n ops.toList o).op.kind=1\/(aR T ng n ops.toList o).op.kind=2)->
  (∀(u:Nat) (o':Oper),p<u->u<ops.size->ops[σ u]? =some o'->(aR T ng n ops.toList o').op.kind=3->Cx ops (σ u) (σ p))\/
  ∃(c t:Nat) (ao:bl) (lL:List Nat),p<=c/\c<ops.size/\l[c]? =some (ao,lL)/\t∈lL/\
   (((aR T ng n ops.toList o).op.kind=1/\(aR T ng n ops.toList o).op.through=some (.tmp t)/\ ∀(i:Nat) (o':Oper),ops[i]? =some o'->o'.dst=some t->Cx ops (σ p) i)\/
    ((aR T ng n ops.toList o).op.kind=2/\(aR T ng n ops.toList o).dst=some t))/\
   ∀(u:Nat) (o':Oper),p<u->u<ops.size->ops[σ u]? =some o'->(aR T ng n ops.toList o').op.kind=3-> ¬Cx ops (σ u) (σ p)->u<=c
theorem Kw (hb:dZ T ng n ops.toList≠uS): ∃σ,jn T ng n ops σ (dZ T ng n ops.toList):=by
 revert hb;unfold dZ;split
 .intro h;exact absurd rfl h
 .rename_i M hM;dsimp only;unfold Kx;generalize acQ:Qc (x7 ops.toList 0 .nil) (places (Nat.beq 3) (ops.toList.map (aR T ng n ops.toList)) 0) (places (fun k=>Nat.blt k 3) (ops.toList.map (aR T ng n ops.toList)) 0)=aK;generalize heffs:places (Nat.beq 3) (ops.toList.map (aR T ng n ops.toList)) 0=js;split
  .rename_i Q rows hQ ahw;split
   .rename_i ps gM;cases hc:(Nat.beq aK.length ops.toList.length&&(List.range ops.toList.length).all (fun i=>(Tr.get Q i).isSome)&&zj .any ops.toList&&zj .text ops.toList&&zj .gc ops.toList&&Fg (x7 ops.toList 0 .nil) M Q js rows 0) with
    |false=>intro h;exact absurd rfl h
    |true=>
     intro _;simp only[cond_true];simp only[uf] at hc;obtain⟨⟨⟨⟨⟨c0,c9⟩,c1⟩,c2⟩,c3⟩,c4⟩:=hc;have cn:aK.length=ops.size:=by simpa using nO c0
     obtain⟨uJ,N2⟩:=Cp aK rows ahw;obtain⟨_,hQ1,hQ2⟩:=EW aK 0 .nil Q hQ;have hA: ∀j k,vB (x7 ops.toList 0 .nil) j k=true->Cx ops j k:=
      Dx ops.toList 0 .nil (fun j o h=>by simpa using h) (fun j k h=>by simp[vB,Tr.get] at h)
     have hMs:=(yY ops.toList 0 .nil M hM).2
     
     have vb: ∀p,p<ops.size-> ∃i o,rows[p]? =some (i,o)/\aK[p]? =some i/\ops[i]? =some o/\Tr.get Q i=some p:=by
      intro p hp;have ef:p<rows.length:=by omega
      have hr:rows[p]? =some (rows[p].1,rows[p].2):=aX ef;obtain⟨h1,h2⟩:=N2 p _ _ hr;have h3:=hQ1 p _ h1;rw[Bg] at h3;exact⟨_,_,hr,h1,by simpa using h2,h3⟩
     let σ:Nat->Nat:=fun p=>aK.getD p 0
     have hσ: ∀p i,aK[p]? =some i->σ p=i:=fun p i h=>by simp[σ,List.getD,h]
     have aaW: ∀i o,ops[i]? =some o->i<ops.size:=fun i o h=>(Array.getElem?_eq_some_iff.1 h).1
     
     have hbound: ∀p,p<ops.size->σ p<ops.size:=fun p hp=>by obtain⟨i,o,_,h2,h3,_⟩:=vb p hp;rw[hσ p i h2];exact aaW i o h3
     have anh: ∀p q,p<ops.size->q<ops.size->σ p=σ q->p=q:=by intro p q hp hq he;obtain⟨i,o,_,h2,_,h4⟩:=vb p hp;obtain⟨j,o',_,g2,_,g4⟩:=vb q hq;rw[hσ p i h2,hσ q j g2] at he;subst he;rw[h4] at g4;exact Option.some.inj g4
     have aaR: ∀i,i<ops.size-> ∃p,p<ops.size/\σ p=i:=by
      intro i hi;have h1:=List.all_eq_true.1 c9 i (NB.2 (by simpa using hi));obtain⟨p,hp⟩:=Option.isSome_iff_exists.1 h1;rcases hQ2 i p hp with h|⟨j,hj,hkj⟩
      .simp[Tr.get] at h
      .have ef:=(bY.1 hj).1;exact⟨p,by omega,hσ p i (by rw[hkj,Bg];exact hj)⟩
     have Bp: ∀p i o,p<ops.size->ops[σ p]? =some o->σ p=i->Fc (x7 ops.toList 0 .nil) M Q js p i o=true/\rows[p]? =some (i,o):=by intro p i o hp ho hi;obtain⟨i',o',h1,h2,h3,h4⟩:=vb p hp;have:=hσ p i' h2;rw[this] at ho hi;subst hi;rw[h3] at ho;cases ho;have:=Cq rows 0 c4 p _ _ h1;rw[Bg] at this;exact⟨this,h1⟩
     have NZ: ∀p,p<ops.size->Tr.get Q (σ p)=some p:=by intro p hp;obtain⟨i,o,_,h2,_,h4⟩:=vb p hp;rw[hσ p i h2];exact h4
     have agW: ∀i o,ops[i]? =some o->(aR T ng n ops.toList o).op.kind=3->i∈js:=by
      intro i o h hk;have dM:(ops.toList.map (aR T ng n ops.toList))[i]? =some (aR T ng n ops.toList o):=by
       have h':ops.toList[i]? =some o:=by simpa using h
       rw[tQ,h'];rfl
      have:=Cl (p:=Nat.beq 3) _ 0 i _ dM (by rw[hk];rfl);rw[Bg,heffs] at this;exact this
     have BY: ∀j o,ops[j]? =some o-> ∃p,p<ops.size/\σ p=j:=fun j o h=>aaR j (aaW j o h);refine⟨σ,c1,c2,c3,hbound,aaR,anh,?_,?_,?_,?_,?_,?_,?_,?_⟩
     .intro p o hp ho;obtain⟨_,h1⟩:=Bp p (σ p) o hp ho rfl;rw[vU,h1];exact⟨_,rfl⟩
     .rw[Dz];omega
     .intro p o hp ho k hk;have h1:=(Bp p (σ p) o hp ho rfl).1;simp only[Fc,uf] at h1;have h2:=List.all_eq_true.1 h1.1.1.1 k hk;split at h2
      .rename_i pe hpe;rcases hQ2 k pe hpe with h|⟨j,hj,hkj⟩
       .simp[Tr.get] at h
       .refine⟨pe,uW.1 h2,?_⟩;rw[hkj,Bg];exact hσ j k hj
      .cases h2
     .intro j o g b h hg;obtain⟨p,hp,NX⟩:=BY j o h;have h1:=(Bp p j o hp (by rw[NX];exact h) NX).1;simp only[Fc,uf,hg] at h1;exact hA _ _ h1.1.1.2
     .intro j o t h ht i o' hi hd;obtain⟨p,hp,NX⟩:=BY j o h;have h1:=(Bp p j o hp (by rw[NX];exact h) NX).1;simp only[Fc,uf] at h1;have h2:=List.all_eq_true.1 h1.1.2 _ ht;have h3:=hMs i o' t (by simpa using hi) hd;rw[Bg] at h3;simp only[h3,Bool.or_eq_true] at h2;exact h2.imp (hA _ _) (hA _ _)
     .intro i j o o' d hi hj hd XT;have h1:=hMs i o d (by simpa using hi) hd;have h2:=hMs j o' d (by simpa using hj) XT;rw[h1] at h2;simpa using h2
     .intro p u o' N6 hp MD hk;have hu:u<ops.size:=by omega
      obtain⟨o,ho⟩: ∃o,ops[σ p]? =some o:=⟨_,Array.getElem?_eq_getElem (hbound p hp)⟩;have h1:=(Bp p (σ p) o hp ho rfl).1;simp only[Fc,uf] at h1;have h2:=List.all_eq_true.1 h1.2 _ (agW _ _ MD hk);rw[NZ u hu] at h2;simp only[Bool.or_eq_true,uW.2 N6,Bool.not_true,PG,false_or] at h2;exact hA _ _ h2
     .intro p o hp ho hk;obtain⟨_,hr⟩:=Bp p (σ p) o hp ho rfl;have iL: ∀(u:Nat) (o':Oper),p<u->u<ops.size->ops[σ u]? =some o'->(aR T ng n ops.toList o').op.kind=3-> ¬Cx ops (σ u) (σ p)->u∈j8 (x7 ops.toList 0 .nil) Q p (σ p) js:=by
       intro u o' hpu hu MD vM PS;refine BT (agW _ _ MD vM) (NZ u hu) hpu ?_;cases hb:vB (x7 ops.toList 0 .nil) (σ u) (σ p) with
       |false=>rfl
       |true=>exact absurd (hA _ _ hb) PS
      rcases Aq rows 0 ps gM p _ _ hr hk with h|⟨c,t,h1,h2,h3,h4,h5⟩
      .left;rw[Bg] at h;intro u o' hpu hu MD vM;apply Classical.byContradiction;intro cJ;have:=iL u o' hpu hu MD vM cJ;rw[h] at this;cases this
      .right;rw[Bg] at h2 h3 h4;have XS:c<ops.size:=by
        rcases h4 with rfl|⟨u,_,hu⟩
        .exact hp
        .rcases hQ2 u c hu with h|⟨j,hj,hcj⟩
         .simp[Tr.get] at h
         .have:=(bY.1 hj).1;omega
       obtain⟨ic,oc,hrc,_,_,_⟩:=vb c XS;refine⟨c,t,aR T ng n ops.toList oc,(ps.filter fun x=>Nat.beq x.1 (0+c)).map (·.2),h2,XS,by rw[vU,hrc];rfl,?_,?_,fun u o' hpu hu MD vM PS=>h3 u (iL u o' hpu hu MD vM PS)⟩
       .rw[j9];exact⟨(c,t),NA.2 ⟨h5,by simp⟩,rfl⟩
       .unfold JE at h1;rcases hk with hk|hk
        .left;rw[hk] at h1;simp only[Nat.beq_refl,cond_true] at h1;split at h1
         .rename_i t' zp;split at h1
          .rename_i hMt;cases h1;refine⟨hk,zp,fun i o' hi hd=> ?_⟩;have:=hMs i o' t (by simpa using hi) hd;rw[hMt] at this;cases this
          .rename_i k hMt;cases Fx:vB (x7 ops.toList 0 .nil) (σ p) k<;>rw[Fx] at h1<;>cases h1;refine⟨hk,zp,fun i o' hi hd=> ?_⟩;have:=hMs i o' t (by simpa using hi) hd;rw[hMt,Bg] at this;cases this;exact hA _ _ Fx
         .cases h1
        .right;rw[hk] at h1;exact⟨hk,h1⟩
   .intro h;exact absurd rfl h
  .intro h;exact absurd rfl h
theorem Ck {T:qd} : ∀(fs:List Field) (ps:List (Nat×Operand)) (l:List (Nat×Nat×Operand)),vi T fs ps=some l->l.map (·.2.2)=ps.map (·.2)
 |fs,[],l,h=>by simp only[vi,kl] at h;subst h;rfl
 |fs,(i,x)::r,l,h=>by
  simp only[vi] at h;split at h
  .cases h
  .split at h
   .rename_i hr;cases h;simp[Ck fs r _ hr]
   .cases h
theorem Ig {c:Call} (h:x∈(xk T c).ji):x∈c.operands.toList:=by
 obtain⟨cal,args,ats⟩:=c;unfold xk at h;dsimp only at h;have tS: ∀y,y∈args.toList->y∈(Call.operands ⟨cal,args,ats⟩).toList:=by intro y hy;have:=Array.mem_toList_iff.1 hy;cases cal<;>simp[Call.operands,this]
 split at h
 .rename_i f;simp only[jk.ji,List.mem_cons] at h;rcases h with rfl|h
  .simp[Call.operands]
  .exact tS x h
 all_goals
  repeat' split at h
  all_goals first
   |(simp only[jk.ji,CH] at h;done)
   |(refine tS x ?_;simp only[jk.ji] at h;simp_all;done)
theorem Ng {op:Op} (h:x∈(bQ T op).ji):x∈op.operands.toList:=by
 cases op with
 |call c=>exact Ig h
 |build t ps=>
  simp only[bQ] at h;split at h
  .split at h
   .rename_i fs _;generalize (fs.toList.all fun f=>(T f.type).isSome)=bb at h;cases bb<;>simp only[cond_true,cond_false] at h
    .simp[jk.ji] at h
    .split at h
     .rename_i l hl;simp only[jk.ji] at h;rw[Ck _ _ _ hl] at h;simpa [Op.operands] using h
     .simp[jk.ji] at h
   .split at h
    .simp only[jk.ji,List.map_map] at h;simpa [Op.operands,Function.comp_def] using h
    .simp[jk.ji] at h
   .simp[jk.ji] at h
  .simp[jk.ji] at h
 |buildSlice t n ps=>
  simp only[bQ] at h
  repeat' split at h
  .rename_i e _;generalize (Nat.ble (n*e.size) 1000000&&Nat.beq e.zero.length e.size)=bb at h;cases bb<;>simp only[cond_true,cond_false] at h
   .simp[jk.ji] at h
   .simp only[jk.ji,List.map_map] at h;simpa [Op.operands,Function.comp_def] using h
  all_goals simp[jk.ji] at h
 |slice t y lo hi mx=>
  simp only[bQ] at h
  repeat' split at h
  .generalize (mx.isSome&&hi.isNone)=bb at h;cases bb<;>simp only[cond_true,cond_false] at h
   .simp only[jk.ji,List.mem_cons,tO] at h;simp[Op.operands];simpa [or_assoc] using h
   .simp[jk.ji] at h
  all_goals simp[jk.ji] at h
 |makeFunc f first caps=>
  cases f with
  |func g=>
   simp only[bQ] at h;cases hb:first.isEmpty<;>rw[hb] at h<;>simp only[cond_true,cond_false,jk.ji] at h
   .simp at h
   .simp[Op.operands];exact .inr (by simpa using h)
  |_=>simp[bQ,jk.ji] at h
 |makeMap t r=>cases r<;>simp[bQ,jk.ji] at h
 |next it st=>cases st<;>simp[bQ,jk.ji] at h<;>simpa [Op.operands] using h
 |fieldAddr t y k=>
  simp only[bQ] at h
  repeat' split at h
  .rename_i fi _;generalize Nat.beq fi.size 0=bb at h;cases bb<;>simp only[cond_true,cond_false] at h<;>simp[jk.ji] at h<;>simpa [Op.operands] using h
  all_goals simp[jk.ji] at h
 |binOp op t y z _=>
  simp only[bQ] at h
  repeat' split at h
  all_goals first
   |(simp[jk.ji] at h;done)
   |(simp only[jk.ji] at h;simpa [Op.operands] using h)
 |_=>
  simp only[bQ] at h
  repeat' split at h
  all_goals first
   |(simp[jk.ji] at h;done)
   |(simp only[jk.ji] at h;simpa [Op.operands] using h)
theorem Ii {op:Op} {y:Value×ae} (hv:bm e h (bQ T op)=some y): ∀cs b,op≠ .select cs b:=by intro cs b vN;subst vN;simp[bQ,bm] at hv
section
variable {P:Program} {T:qd} {ng:Nat} {dr:tV} {F:Nat->Option bZ} {ih:ak->Env->ae->R}
theorem xB (hF:Fu P T ng dr F) (hT:cm P T) (hI:tX P T ng dr ih) {n:Nat} (ho:ops[i]? =some o) {e e' e2:Env} {h h':ae}
  (hc:cK F ih (aR T ng n ops.toList o) e h=some (e',h')) {ρ:dY} {w:World} (S:cQ (fS T ng dr) ρ h w) (hG:bS ng ρ) {a a2:Act} (hE:ER ρ e2 a2.tmps) (hn:n<=a.tmps.size)
  (hx: ∀x∈o.op.operands.toList,ev e x=ev e2 x/\a.eval x=a2.eval x) (CP:Region.wanted o (yielded ops a.tmps)=wanted e (guardOf ops.toList o))
  (b:Frame) (k:List Item) (cs:List Frame) (bh:List Nat):
  ∃ρ' w' c v,Steps P (lone (on b a (.inRegion ops (i::bh)::k)) cs w) (lone (on b (a.put o.dst c) (.inRegion ops bh::k)) cs w')/\e'=eX e o.dst v/\VR ρ' v c/\
   (∀d,o.dst=some d->d<a.tmps.size)/\cQ (fS T ng dr) ρ' h' w'/\Ext ρ h w ρ' h' w':=by
 unfold aR at hc;cases ui:tG ng n ops.toList o with
 |false=>
  simp only[ui,cond_false] at hc;simp[cK,wanted,bm] at hc
 |true=>
  simp only[ui,cond_true] at hc;simp only[tG,uf] at ui;obtain⟨⟨hd,hg⟩,Bn⟩:=ui;have uj: ∀d,o.dst=some d->d<a.tmps.size:=by intro d XT;rw[XT] at hd;exact IF (uW.1 hd) hn
  unfold cK at hc;dsimp only at hc;rw[<-CP] at hc;cases uu:Region.wanted o (yielded ops a.tmps) with
  |false=>
   simp only[uu,cond_false,kl,wI] at hc;obtain⟨rfl,rfl⟩:=hc;refine⟨ρ,w,undef,_,.one ?_,rfl,VR.undef,uj,S,.refl ρ h w⟩;have:=HF (P:=P) (b:=b) (a:=a) (k:=k) (cs:=cs) (w:=w) (ops:=ops) (i:=i) (bh:=bh) (by simp[ho,uu]);rw[ho] at this;exact this
  |true=>
   simp only[uu,cond_true] at hc;split at hc
   .rename_i f args vN;obtain⟨cl,h1,h2,h3⟩:=DO vN;split at hc
    .rename_i v II hcv;cases hc;have jB:aZ ng f=true/\args.all (aZ ng)=true:=by rw[h1] at Bn;simp only[Op.operands,Call.operands,h2] at Bn;rw[<-h3];simpa using Bn
     have uk: ∀x,x∈f::args->x∈o.op.operands.toList:=by intro x pL;rw[h1];simp only[Op.operands,Call.operands,h2];rw[<-h3] at pL;simpa using pL
     have uK:=AO hE hG args jB.2;rw[<-Fp (e:=e) (e':=e2) (fun x pL=>(hx x (uk x (CZ _ pL))).1)] at uK;have hvf:=hE.eval hG jB.1;rw[<-(hx f (uk f (D2 ..))).1] at hvf;have KQ:cl.args.toList.map a.eval=args.map a2.eval:=by rw[h3];exact List.map_congr_left fun x pL=>(hx x (uk x (CZ _ pL))).2
     obtain⟨ρ',w',c,q1,q2,q3,q4⟩:=BP (P:=P) hF hT hI hcv S hG hvf uK ho uu h1 h2 (hx f (uk f (D2 ..))).2 KQ b k cs (bh:=bh);exact⟨ρ',w',c,v,q1,rfl,q2,uj,q3,q4⟩
    .cases hc
   .split at hc
    .rename_i v II AX;cases hc;have acR:bm e2 h (bQ T o.op)=some (v,h'):=by rw[<-RO (e:=e) (e':=e2) (bQ T o.op) (fun x pL=>(hx x (Ng pL)).1)];exact AX
     obtain⟨ρ',w',c,hr,hv,S',E'⟩:=LA (P:=P) (a:=a2) hT S hE hG o Bn acR;have hcg:execOp a.eval o=execOp a2.eval o:=execOp_congr o (Ii AX) fun x pL=>(hx x (Array.mem_toList_iff.2 pL)).2;rw[<-hcg] at hr;have Tm:=GH AX;rcases hr with hr|⟨rfl,hr⟩
     .exact⟨ρ',w',c,v,.one (Jw ho uu Tm hr),rfl,hv,uj,S',E'⟩
     .exact⟨ρ',w',undef,v,.one (Qm ho uu Tm hr),rfl,hv,uj,S',E'⟩
    .cases hc
end
theorem GK {F:Nat->Option bZ} {ih:ak->Env->ae->R} (c:Nat): ∀(l:List (bl×List Nat)) (e:Env) (h:ae) (e':Env) (h':ae),mQ F ih c l e h=some (e',h')->
  ∃(E:Nat->Env) (H:Nat->ae),E 0=e/\H 0=h/\E l.length=e'/\H l.length=h'/\
   ∀(k:Nat) (o:bl) (lL:List Nat),l[k]? =some (o,lL)->cK F ih o (E k) (H k)=some (E (k+1),H (k+1))/\still (E (k+1)) (H (k+1)) c lL=true
 |[],e,h,e',h',hc=>by simp only[mQ,kl,wI] at hc;obtain⟨rfl,rfl⟩:=hc;exact⟨fun _=>e,fun _=>h,rfl,rfl,rfl,rfl,fun k o lL hk=>by simp at hk⟩
 |(o,lL)::r,e,h,e',h',hc=>by
  simp only[mQ] at hc;split at hc
  .rename_i e1 h1 ho;cases hs:still e1 h1 c lL with
   |false=>simp[hs] at hc
   |true=>
    simp only[hs,cond_true] at hc;obtain⟨E,H,q1,q2,q3,q4,q5⟩:=GK c r e1 h1 e' h' hc;refine⟨fun k=>match k with|0=>e|k+1=>E k,fun k=>match k with|0=>h|k+1=>H k,rfl,rfl,q3,q4,?_⟩;intro k o' alH hk;cases k with
    |zero=>
     simp only[List.getElem?_cons_zero,kl,wI] at hk;obtain⟨rfl,rfl⟩:=hk;dsimp only;rw[q1,q2];exact⟨ho,hs⟩
    |succ k=>exact q5 k o' alH (by simpa using hk)
  .cases hc
theorem RX {o:bl} (hc:cK F ih o e h=some (e',h')): ∃v,e'=eX e o.dst v:=by
 unfold cK at hc;cases hw:wanted e o.guard<;>simp only[hw,cond_true,cond_false] at hc
 .cases hc;exact⟨_,rfl⟩
 .split at hc
  .split at hc
   .cases hc;exact⟨_,rfl⟩
   .cases hc
  .split at hc
   .cases hc;exact⟨_,rfl⟩
   .cases hc
theorem kz {o:jk} (hk:o.kind<=2): ∀f args,o≠ .call f args:=by intro f args e;subst e;simp[jk.kind] at hk
theorem Hv {o:bl} (hk:o.op.kind<=1) (hc:cK F ih o e h=some (e',h')):h'=h:=by
 unfold cK at hc;cases hw:wanted e o.guard<;>simp only[hw,cond_true,cond_false] at hc
 .cases hc;rfl
 .split at hc
  .rename_i f args vN;exact absurd vN (kz (by omega) f args)
  .split at hc
   .rename_i hv;cases hc;rcases Nat.le_one_iff_eq_zero_or_eq_one.1 hk with h0|h1
    .exact(EG h0 hv).1
    .exact(y_ h1 hv).1
   .cases hc
theorem EK {o:bl} (hk:o.op.kind<=2) (hc:cK F ih o e h=some (e',h')):h'=h\/ ∃x,h'=h.new x:=by
 by_cases h1:o.op.kind<=1
 .exact .inl (Hv h1 hc)
 .have h2:o.op.kind=2:=by omega
  unfold cK at hc;cases hw:wanted e o.guard<;>simp only[hw,cond_true,cond_false] at hc
  .cases hc;exact .inl rfl
  .split at hc
   .rename_i f args vN;exact absurd vN (kz (by omega) f args)
   .split at hc
    .rename_i hv;cases hc;obtain⟨_,cs,_,h,_⟩:=xA h2 hv;exact .inr ⟨_,h⟩
    .cases hc
theorem Zp (o:jk):o.kind<=3:=by cases o<;>simp[jk.kind]
def Rest (c:Nat) (o:o9):Prop:=(∃cs ro op s,o= .aA cs ro op s/\s<=c)\/o= .map []
theorem jO {e:Env} {h:ae} {c:Nat} : ∀ {l:List Nat},still e h c l=true-> ∀t∈l,∀b,leads (Env.get e t)=some b-> ∃o,h.tr.get b=some o/\Rest c o
 |[],_,t,ht,_,_=>by simp at ht
 |u::r,hs,t,ht,b,hb=>by
  unfold still at hs;rcases List.mem_cons.1 ht with rfl|ht
  .split at hs
   .rename_i heq;rw[heq] at hb;cases hb;split at hs
    .rename_i cs ro o s hg;rw[uf] at hs;exact⟨_,hg,.inl ⟨cs,ro,o,s,rfl,Mw hs.1⟩⟩
    .cases hs
   .rename_i heq;rw[heq] at hb;cases hb;split at hs
    .rename_i cs ro o s hg;rw[uf] at hs;exact⟨_,hg,.inl ⟨cs,ro,o,s,rfl,Mw hs.1⟩⟩
    .cases hs
   .rename_i heq;rw[heq] at hb;cases hb;split at hs
    .rename_i hg;exact⟨_,hg,.inr rfl⟩
    .cases hs
   .rename_i heq;rw[heq] at hb;cases hb
   .rename_i heq;rw[heq] at hb;cases hb
   .rename_i heq;rw[heq] at hb;cases hb
   .rename_i heq;rw[heq] at hb;cases hb
   .cases hs
  .split at hs
   .split at hs
    .rw[uf] at hs;exact jO hs.2 t ht b hb
    .cases hs
   .split at hs
    .rw[uf] at hs;exact jO hs.2 t ht b hb
    .cases hs
   .split at hs
    .exact jO hs t ht b hb
    .cases hs
   .exact jO hs t ht b hb
   .exact jO hs t ht b hb
   .exact jO hs t ht b hb
   .exact jO hs t ht b hb
   .cases hs
def Hn (l:List Nat) (e:Env):Env:=l.foldl Tr.del e
def Ev (l:List Nat) (tmps:Array Value):Array Value:=l.foldl (fun x t=>x.setIfInBounds t undef) tmps
theorem xv: ∀(l:List Nat) (e:Env) (t:Nat),Env.get (Hn l e) t=if t∈l then .tuple #[] else Env.get e t
 |[],e,t=>by simp[Hn]
 |u::l,e,t=>by
  rw[Hn,List.foldl_cons,<-Hn,xv l];by_cases h1:t∈l
  .simp[h1]
  .rw[aT h1];unfold Env.get;rw[Tr.mj];by_cases h2:t=u
   .subst h2;simp
   .simp[h1,h2]
theorem xu: ∀(l:List Nat) (a:Array Value) (t:Nat),(Ev l a).getD t undef=if t∈l then undef else a.getD t undef
 |[],a,t=>by simp[Ev]
 |u::l,a,t=>by
  rw[Ev,List.foldl_cons,<-Ev,xu l];by_cases h1:t∈l
  .simp[h1]
  .rw[aT h1];by_cases h2:t=u
   .subst h2;simp only[List.mem_cons,true_or,if_true];rw[Array.getD_eq_getD_getElem?,Array.getElem?_setIfInBounds];simp only[if_true];split<;>rfl
   .simp[h1,h2,Array.getD_eq_getD_getElem?,Array.getElem?_setIfInBounds,Ne.symm h2]
theorem cQ.grow (S:cQ CC ρ h w) (o:o9):cQ CC ρ (h.new o) w/\Ext ρ h w ρ (h.new o) w:=by
 have dM: ∀b r,ρ b=some r->(h.new o).tr.get b=h.tr.get b:=by intro b r hb;have:=(S.low b r hb).1;simp only[ae.new,Tr.aN];rw[aT (by omega)]
 have CP: ∀b r,ρ b=some r->dX (h.new o) b->dX h b:=fun b r hb ⟨x,hx,hr⟩=>⟨x,by rwa [dM b r hb] at hx,hr⟩;refine⟨⟨fun b r hb=>⟨?_,(S.low b r hb).2⟩,fun b r x hb hx=>S.obj b r x hb (by rwa [dM b r hb] at hx),fun b b' r r' x hb iy hw hx cJ=>S.inj b b' r r' x hb iy (CP b r hb hw) (by rwa [dM b' r' iy] at hx) cJ,?_⟩,
  ⟨ρ.le_refl,by simp[ae.new],dK _,rfl,rfl,rfl,fun _ _ _=>rfl,fun b r hb hw=> .inr ⟨b,r,hb,CP b r hb hw,rfl⟩,fun b r h1 h2=>(by rw[h1] at h2;cases h2),fun b r x hb hx=> .inr ⟨b,r,x,hb,by rwa [dM b r hb] at hx,rfl⟩⟩⟩
 .have:=(S.low b r hb).1;simp only[ae.new];omega
 .intro b x hx;simp only[ae.new,Tr.aN] at hx ⊢;by_cases e:b=h.next
  .omega
  .rw[aT e] at hx;have:=S.wf b x hx;omega
section
variable {P:Program} {T:qd} {ng:Nat} {dr:tV} {F:Nat->Option bZ} {ih:ak->Env->ae->R} {n c:Nat} {ops:Array Oper} {σ:Nat->Nat} {l:List (bl×List Nat)} {E:Nat->Env} {H:Nat->ae}
def Dr (F:Nat->Option bZ) (ih:ak->Env->ae->R) (T:qd) (ng n:Nat) (ops:Array Oper) (σ:Nat->Nat) (E:Nat->Env) (H:Nat->ae):Prop:=
 ∀(p:Nat) (o:Oper),p<ops.size->ops[σ p]? =some o->cK F ih (aR T ng n ops.toList o) (E p) (H p)=some (E (p+1),H (p+1))
theorem BQ {d:Nat} (h:(aR T ng n ops.toList o).dst=some d):o.dst=some d:=by
 unfold aR at h;cases hb:tG ng n ops.toList o<;>rw[hb] at h
 .cases h
 .exact h
theorem jn.op (hg:jn T ng n ops σ l) {p:Nat} (hp:p<ops.size): ∃o,ops[σ p]? =some o:=⟨_,Array.getElem?_eq_getElem (hg.bound p hp)⟩
theorem jn.MV (hg:jn T ng n ops σ l) (h:Cx ops i j): ∀p,p<ops.size->σ p=i-> ∃q,q<p/\σ q=j:=by
 induction h with
 |No ho h=>intro p hp hi;subst hi;exact hg.lower p _ hp ho _ h
 |wE ho h _ ih=>
  intro p hp hi;subst hi;obtain⟨pk,ef,hk⟩:=hg.lower p _ hp ho _ h;obtain⟨q,hq,hj⟩:=ih pk (by omega) hk;exact⟨q,by omega,hj⟩
theorem vm (hq:Dr F ih T ng n ops σ E H) (hg:jn T ng n ops σ l) : ∀(b:Nat),a<=b->b<=ops.size->(∀(k:Nat) (o:Oper),a<=k->k<b->ops[σ k]? =some o->o.dst≠some t)->Env.get (E b) t=Env.get (E a) t:=by
 intro b;induction b with
 |zero=>intro h _ _;rw[Nat.le_zero.1 h]
 |succ b ihb=>
  intro zX hb hn;by_cases he:a=b+1
  .rw[he]
  .obtain⟨o,ho⟩:=hg.op (p:=b) (by omega);obtain⟨v,hv⟩:=RX (hq b _ (by omega) ho);rw[hv,<-ihb (by omega) (by omega) (fun k o h1 h2 h3=>hn k o h1 (by omega) h3)];cases hd:(aR T ng n ops.toList o).dst with
   |none=>rfl
   |some d=>
    simp only[eX,Env.aN];have:=hn b _ (by omega) (by omega) ho;rw[BQ hd] at this;rw[aT (fun(e:t=d)=>this (by rw[e]))]
def JY (T:qd) (ng n:Nat) (ops:Array Oper) (σ:Nat->Nat) (a b:Nat):Prop:=
 ∀(k:Nat) (o:Oper),a<=k->k<b->ops[σ k]? =some o->(aR T ng n ops.toList o).op.kind≠3
theorem I3 {o:jk} (h:o.kind≠3):o.kind<=2:=by have:=Zp o;omega
theorem L7 (hq:Dr F ih T ng n ops σ E H) (hg:jn T ng n ops σ l) {a x:Nat} (hx:x<(H a).next): ∀(b:Nat),a<=b->b<=ops.size->JY T ng n ops σ a b->
  (H b).tr.get x=(H a).tr.get x/\(H a).next<=(H b).next:=by
 intro b;induction b with
 |zero=>intro h _ _;rw[Nat.le_zero.1 h];exact⟨rfl,dK _⟩
 |succ b ihb=>
  intro zX hb hn;by_cases he:a=b+1
  .rw[he];exact⟨rfl,dK _⟩
  .obtain⟨o,ho⟩:=hg.op (p:=b) (by omega);obtain⟨h1,h2⟩:=ihb (by omega) (by omega) (fun k o h1 h2 h3=>hn k o h1 (by omega) h3);rcases EK (I3 (hn b _ (by omega) (by omega) ho)) (hq b _ (by omega) ho) with hh|⟨y,hh⟩
   .rw[hh];exact⟨h1,h2⟩
   .rw[hh,<-h1];simp only[ae.new,Tr.aN];rw[aT (by omega)];exact⟨rfl,by omega⟩
theorem Jz (hq:Dr F ih T ng n ops σ E H) (hg:jn T ng n ops σ l) (S:cQ CC ρ (H a) w): ∀(b:Nat),a<=b->b<=ops.size->JY T ng n ops σ a b->
  cQ CC ρ (H b) w/\Ext ρ (H a) w ρ (H b) w:=by
 intro b;induction b with
 |zero=>intro h _ _;rw[<-Nat.le_zero.1 h];exact⟨S,.refl _ _ _⟩
 |succ b ihb=>
  intro zX hb hn;by_cases he:a=b+1
  .rw[<-he];exact⟨S,.refl _ _ _⟩
  .obtain⟨o,ho⟩:=hg.op (p:=b) (by omega);obtain⟨S1,X1⟩:=ihb (by omega) (by omega) (fun k o h1 h2 h3=>hn k o h1 (by omega) h3);rcases EK (I3 (hn b _ (by omega) (by omega) ho)) (hq b _ (by omega) ho) with hh|⟨y,hh⟩
   .rw[hh];exact⟨S1,X1⟩
   .rw[hh];obtain⟨S2,X2⟩:=S1.grow y;exact⟨S2,X1.trans X2⟩
theorem qq (hK:fT ih) (hq:Dr F ih T ng n ops σ E H) (hg:jn T ng n ops σ l) : ∀(b:Nat),a<=b->b<=ops.size->dg (H a) (H b):=by
 intro b;induction b with
 |zero=>intro h _;rw[Nat.le_zero.1 h];exact .refl _
 |succ b ihb=>
  intro zX hb;by_cases he:a=b+1
  .rw[he];exact .refl _
  .obtain⟨o,ho⟩:=hg.op (p:=b) (by omega);exact(ihb (by omega) (by omega)).trans (wV hK (hq b _ (by omega) ho))
theorem DD (hK:fT ih) (hq:Dr F ih T ng n ops σ E H) (hg:jn T ng n ops σ l)
  (IY: ∀(k:Nat) (ao:bl) (lL:List Nat),l[k]? =some (ao,lL)->still (E (k+1)) (H (k+1)) c lL=true) (C1:c<(H 0).clock)
  {p q:Nat} {o:Oper} (hp:p<q) (K9:q<=ops.size) (ho:ops[σ p]? =some o)
  (hk:(aR T ng n ops.toList o).op.kind=1\/(aR T ng n ops.toList o).op.kind=2)
  (PS: ∀(u:Nat) (o':Oper),p<u->u<q->ops[σ u]? =some o'->(aR T ng n ops.toList o').op.kind=3-> ¬Cx ops (σ u) (σ p)) {b:Nat}
  (h1:(aR T ng n ops.toList o).op.kind=1-> ∀t,(aR T ng n ops.toList o).op.through=some (.tmp t)->(∀(i:Nat) (o':Oper),ops[i]? =some o'->o'.dst=some t->Cx ops (σ p) i)->leads (Env.get (E p) t)=some b)
  (h2:(aR T ng n ops.toList o).op.kind=2-> ∀t,(aR T ng n ops.toList o).dst=some t->leads (Env.get (E (p+1)) t)=some b)
  (hb:b<(H (p+1)).next):(H q).tr.get b=(H (p+1)).tr.get b:=by
 by_cases G9:JY T ng n ops σ (p+1) q
 .exact(L7 hq hg hb q (by omega) K9 G9).1
 .have hex: ∃(u:Nat) (o':Oper),p<u/\u<q/\ops[σ u]? =some o'/\(aR T ng n ops.toList o').op.kind=3:=by apply Classical.byContradiction;intro cJ;exact G9 fun u o' g1 g2 g3 g4=>cJ ⟨u,o',by omega,g2,g3,g4⟩
  obtain⟨u,o',g1,g2,g3,g4⟩:=hex;rcases hg.still p o (by omega) ho hk with mM|⟨cc,t,ao,lL,k1,k2,k3,k4,k5,k6⟩
  .exact absurd (mM u o' g1 (by omega) g3 g4) (PS u o' g1 g2 g3 g4)
  .have ahF:leads (Env.get (E (cc+1)) t)=some b:=by
    rcases k5 with⟨kk,ht,hw⟩|⟨kk,hd⟩
    .rw[vm hq hg (a:=p) (cc+1) (by omega) (by omega) (fun k ok hk1 BZ cN hd=> ?_)]
     .exact h1 kk t ht hw
     .obtain⟨q',hq',he⟩:=hg.MV (hw (σ k) ok cN hd) p (by omega) rfl;have:=hg.inj q' k (by omega) (by omega) he;omega
    .rw[vm hq hg (a:=p+1) (cc+1) (by omega) (by omega) (fun k ok hk1 BZ cN XT=> ?_)]
     .exact h2 kk t hd
     .have:=hg.inj p k (by omega) (by omega) (hg.once (σ p) (σ k) o ok t ho cN (BQ hd) XT);omega
   obtain⟨ob,hs1,hs2⟩:=jO (IY cc ao lL k3) t k4 b ahF;have back: ∀a,a<=cc+1->b<(H a).next->(H a).tr.get b=some ob:=by
    intro a ha hba;have NS:=qq hK hq hg (a:=a) (cc+1) ha (by omega);have Rc:=qq hK hq hg (a:=0) a (by omega) (by omega);rcases hs2 with⟨cs,ro,op,s,rfl,hs2⟩|rfl
    .exact NS.bA b cs ro op s hba hs1 (by have:=Rc.clock;omega)
    .exact NS.mp b hba hs1
   rw[back (p+1) (by omega) hb];have Vm: ∀a,p+1<=a->a<=ops.size->b<(H a).next:=fun a h1 h2=>by
    have:=(qq hK hq hg (a:=p+1) a h1 h2).next
    omega
   by_cases hqc:q<=cc+1
   .exact back q hqc (Vm q (by omega) K9)
   .have:=(L7 hq hg (Vm (cc+1) (by omega) (by omega)) q (by omega) K9 (fun k o'' h6 h7 h8 h9=>by have:=k6 k o'' (by omega) (by omega) h8 h9 (PS k o'' (by omega) h7 h8 h9);omega)).1
    rw[this,hs1]
def Mh:Value->Nat
 | .pointer (some ⟨b,_,_⟩)=>b+1
 | .slice (some ⟨b,_,_⟩) _ _=>b+1
 | .map (some m)=>m+1
 |_=>0
def OU:Value->Nat
 | .func (.yield l) _ _=>l+1
 | .func _ _ caps=>(caps.toList.map Mh).foldl (· + ·) 0
 |v=>Mh v
theorem foldl_add: ∀(l:List Nat) (a:Nat),a<=l.foldl (· + ·) a/\ ∀x∈l,x<=l.foldl (· + ·) a
 |[],a=>⟨dK _,fun _ h=>by simp at h⟩
 |y::l,a=>by
  obtain⟨h1,h2⟩:=foldl_add l (a+y);simp only[List.foldl_cons];refine⟨by omega,fun x hx=> ?_⟩;rcases List.mem_cons.1 hx with rfl|hx
  .omega
  .exact h2 x hx
theorem CR.off {ρ1 ρ2:dY} (hr: ∀x,x≠N->ρ1 x=ρ2 x) {v c:Value} (hN:Mh v<=N) (h:CR ρ1 v c):CR ρ2 v c:=by
 cases h with
 |bool=>exact .bool _
 |int=>exact .int _ _
 |str=>exact .str _
 |EE=>exact .EE
 |ptr h=>simp only[Mh] at hN;exact .ptr (by rw[<-hr _ (by omega)];exact h)
 |oE=>exact .oE _ _
 |slice h hs=>simp only[Mh] at hN;exact .slice (by rw[<-hr _ (by omega)];exact h) hs
 |y6=>exact .y6
 |map h=>simp only[Mh] at hN;exact .map (by rw[<-hr _ (by omega)];exact h)
 |As=>exact .As
 |wT=>exact .wT
theorem KR.off {ρ1 ρ2:dY} {N:Nat} (hr: ∀x,x≠N->ρ1 x=ρ2 x) {v c:Value} (hN:OU v<=N) (h:KR ρ1 v c):KR ρ2 v c:=by
 cases h with
 |cell h=>
  refine .cell (h.off hr ?_);cases h<;>first|exact hN|exact Nat.zero_le _
 | @fn f l m h=>
  simp only[OU] at hN;refine .fn f ?_;have hb: ∀x∈l,Mh x<=N:=fun x hx=>ug ((foldl_add (l.map Mh) 0).2 _ (j9.2 ⟨x,hx,rfl⟩)) hN;clear hN;induction h with
  |nil=>exact .nil
  |cons h1 _ ih=>exact .cons (h1.off hr (hb _ (D2 ..))) (ih fun x hx=>hb x (CZ _ hx))
 |yield h=>simp only[OU] at hN;exact .yield (by rw[<-hr _ (by omega)];exact h)
end
theorem VR.Zs {s:Mk} {c:Value} (h:VR ρ (mkA s N) c): ∃im,ρ N=some im/\ ∀(ρ2:dY) (M:Nat),ρ2 M=some im->VR ρ2 (mkA s M) c:=by
 cases s with
 |ptr=>
  cases h with
  |val h=>cases h with
   |cell h=>cases h with
    |cell h=>cases h with
     | @ptr _ _ r h=>exact⟨r,h,fun ρ2 M hM=> .val (.cell (.cell (.ptr hM)))⟩
 |sl l cp=>
  cases h with
  |val h=>cases h with
   |cell h=>cases h with
    |cell h=>cases h with
     | @slice _ _ _ _ _ _ r h hs=>exact⟨r,h,fun ρ2 M hM=> .val (.cell (.cell (.slice hM hs)))⟩
 |mp=>
  cases h with
  |val h=>cases h with
   |cell h=>cases h with
    |cell h=>cases h with
     | @map _ r h=>exact⟨r,h,fun ρ2 M hM=> .val (.cell (.cell (.map hM)))⟩
theorem Rz (s:Mk) (N:Nat):leads (mkA s N)=some N:=by cases s<;>rfl
structure Stood (w w':World):Prop where
 size:w.heap.size<=w'.heap.size
 os:w'.os=w.os
 tape:w'.tape=w.tape
 output:w'.output=w.output
 tD: ∀k,k<w.heap.size->w'.heap[k]? =w.heap[k]?
theorem cQ.stood (S:cQ CC ρ h w) (W:Stood w w'):cQ CC ρ h w':=
 ⟨fun b r hb=>⟨(S.low b r hb).1,IF (S.low b r hb).2 W.size⟩,fun b r o hb ho=>iA.mono ρ.le_refl (W.tD _ (S.low b r hb).2) (S.obj b r o hb ho),S.inj,S.wf⟩
theorem Ext.stood {ρ0 ρ ρ':dY} {w0 w w':World} (X:Ext ρ0 h0 w0 ρ h w) (W:Stood w w') (hl:ρ.le ρ') (anH: ∀x r,ρ' x=some r->ρ x=none->x=N/\w.heap.size<=r.aA) (hN:h0.next<=N):Ext ρ0 h0 w0 ρ' h w':=by
 have fp: ∀x r,ρ' x=some r->ρ x=some r\/(x=N/\w.heap.size<=r.aA):=by
  intro x r hx;cases hp:ρ x with
  |none=>exact .inr (anH x r hx hp)
  |some r'=>have:=hl x r' hp;rw[hx] at this;exact .inl this.symm
 refine⟨dY.le_trans X.le hl,X.next,ug X.size W.size,W.os.trans X.os,W.tape.trans X.tape,W.output.trans X.output,?_,?_,?_,?_⟩
 .intro k hk xn;rw[W.tD k (IF hk X.size)];exact X.tD k hk xn
 .intro x r hx hw;rcases fp x r hx with h|⟨_,h⟩
  .exact X.own x r h hw
  .exact .inl (ug X.size h)
 .intro x r hx hn;rcases fp x r hx with h|⟨rfl,_⟩
  .exact X.new x r h hn
  .exact hN
 .intro x r o hx ho;rcases fp x r hx with h|⟨_,h⟩
  .exact X.live x r o h ho
  .exact .inl (ug X.size h)
section
variable {P:Program} {T:qd} {ng:Nat} {dr:tV} {F:Nat->Option bZ} {ih:ak->Env->ae->R}
theorem Ij {ops:List Oper} (hk:(aR T ng n ops o).op.kind≠3):aR T ng n ops o= { dst:=o.dst,guard:=guardOf ops o,op:=bQ T o.op } :=by
 unfold aR at hk ⊢;cases hb:tG ng n ops o with
 |true=>rfl
 |false=>rw[hb] at hk;exact absurd rfl hk
theorem MT (hF:Fu P T ng dr F) (hT:cm P T) (hI:tX P T ng dr ih) {n:Nat} (ho:ops[i]? =some o) {e e' e2:Env} {h0 h1 hq:ae}
  (hk:(aR T ng n ops.toList o).op.kind=2)
  (hc:cK F ih (aR T ng n ops.toList o) e h0=some (e',h1)) {ρ:dY} {w:World} (S:cQ (fS T ng dr) ρ hq w) (hG:bS ng ρ) {a a2:Act} (hE:ER ρ e2 a2.tmps) (hn:n<=a.tmps.size)
  (hx: ∀x∈o.op.operands.toList,ev e x=ev e2 x/\a.eval x=a2.eval x) (CP:Region.wanted o (yielded ops a.tmps)=wanted e (guardOf ops.toList o))
  (KX:h0.next<h1.next->ρ h0.next=none) (B1:o.dst.isSome=true->h0.next<h1.next->hq.tr.get h0.next=h1.tr.get h0.next) (hle:h1.next<=hq.next)
  (b:Frame) (k:List Item) (cs:List Frame) (bh:List Nat):
  ∃ρ' w' c v,Steps P (lone (on b a (.inRegion ops (i::bh)::k)) cs w) (lone (on b (a.put o.dst c) (.inRegion ops bh::k)) cs w')/\e'=eX e o.dst v/\VR ρ' v c/\
   (∀d,o.dst=some d->d<a.tmps.size)/\cQ (fS T ng dr) ρ' hq w'/\ρ.le ρ'/\(∀x,ρ x=none->(h0.next<h1.next->x≠h0.next)->ρ' x=none)/\
   (∀(ρ0:dY) (hh:ae) (w0:World),hh.next<=h0.next->Ext ρ0 hh w0 ρ hq w->Ext ρ0 hh w0 ρ' hq w'):=by
 have XS:=Ij (T:=T) (ng:=ng) (n:=n) (ops:=ops.toList) (o:=o) (by rw[hk];decide);have hnc:=kz (o:=(aR T ng n ops.toList o).op) (by omega);cases hw:wanted e (aR T ng n ops.toList o).guard with
 |false=>
  have IQ:cK F ih (aR T ng n ops.toList o) e hq=some (e',hq):=by unfold cK at hc ⊢;simp only[hw,cond_false,kl,wI] at hc ⊢;exact⟨hc.1,trivial⟩
  obtain⟨ρ1,w1,cv,v,s1,QZ,Tt,uj,S1,X1⟩:=xB hF hT hI ho IQ S hG (a:=a) (a2:=a2) hE hn hx CP b k cs bh;refine⟨ρ1,w1,cv,v,s1,QZ,Tt,uj,S1,X1.le,?_,fun ρ0 hh w0 _ X=>X.trans X1⟩;intro x hx _;cases hp:ρ1 x with
  |none=>rfl
  |some r=>
   have g1:=X1.new x r hp hx;have g2:=(S1.low x r hp).1;omega
 |true=>
  have PL:=hc;unfold cK at PL;simp only[hw,cond_true] at PL;split at PL
  .rename_i v0 II AX;simp only[kl,wI] at PL;obtain⟨IS,rfl⟩:=PL;obtain⟨s,cells,rfl,rfl,acA⟩:=xA hk AX;have ef:h0.next<(h0.new (mkO s cells)).next:=by simp[ae.new]
   have G9:=KX ef
   let N:=hq.next+(cells.map OU).foldl (· + ·) 0
   let Z:ae:=⟨N,0,.nil⟩
   have SZ:cQ (fS T ng dr) ρ Z w:=by
    refine⟨fun x r hb=>⟨?_,(S.low x r hb).2⟩,fun x r y _ hy=> ?_,fun x y r r' z _ _ _ hz _=> ?_,fun x y hy=> ?_⟩
    .have:=(S.low x r hb).1;show x<hq.next+_;omega
    .simp[Z,Tr.get] at hy
    .simp[Z,Tr.get] at hz
    .simp[Z,Tr.get] at hy
   have hcZ:cK F ih (aR T ng n ops.toList o) e Z=some (eX e (aR T ng n ops.toList o).dst (mkA s N),Z.new (mkO s cells)):=by unfold cK;simp only[hw,cond_true];rw[acA Z]
   obtain⟨ρ1,w1,cv,v,s1,QZ,Tt,uj,S1,X1⟩:=xB hF hT hI ho hcZ SZ hG (a:=a) (a2:=a2) hE hn hx CP b k cs bh;have hWS:Stood w w1:=⟨X1.size,X1.os,X1.tape,X1.output,fun j hj=>X1.tD j hj (fun x r _ ⟨y,hy,_⟩=>by simp[Z,Tr.get] at hy)⟩;have Va:(aR T ng n ops.toList o).dst=o.dst:=by rw[XS]
   rw[Va] at QZ IS;cases hd:o.dst with
   |none=>
    rw[hd] at s1 IS;refine⟨ρ,w1,undef,.tuple #[],s1,IS.symm,VR.undef,fun d h=>(by cases h),S.stood hWS,ρ.le_refl,fun x hx _=>hx,?_⟩;intro ρ0 hh w0 acG X;exact X.stood hWS (N:=h0.next) ρ.le_refl (fun x r g1 g2=>by rw[g1] at g2;cases g2) acG
   |some d=>
    rw[hd] at s1 IS QZ;have hvN:v=mkA s N:=by have:=congrArg (fun en:Env=>Env.get en d) QZ;simp only[eX,Env.aN,if_true] at this;exact this.symm
    rw[hvN] at Tt;obtain⟨im,IU,hmk⟩:=Tt.Zs;have z8:=tm (r:=im) G9;have aaK:(Z.new (mkO s cells)).tr.get N=some (mkO s cells):=by simp only[ae.new,Tr.aN];rw[aU rfl]
    have ag3:hq.tr.get h0.next=some (mkO s cells):=by rw[B1 (by rw[hd];rfl) ef];simp only[ae.new,Tr.aN,if_true]
    have NL:w.heap.size<=im.aA:=by
     rcases X1.live N im _ IU aaK with h|⟨_,_,_,_,h,_⟩
     .exact h
     .simp[Z,Tr.get] at h
    have hρ1: ∀x,x≠N->ρ1 x=ρ x:=by
     intro x hxN;cases hp:ρ x with
     |some r=>exact X1.le x r hp
     |none=>
      cases hq1:ρ1 x with
      |none=>rfl
      |some r=>
       have g1:=X1.new x r hq1 hp;have g2:=(S1.low x r hq1).1;simp only[ae.new,Z] at g1 g2;omega
    have Vo:iA (fS T ng dr) (jj ρ h0.next im) im (mkO s cells) w1:=by
     have hO:=S1.obj N im _ IU aaK;have hB:iA (fS T ng dr) ρ1 im (.aA cells false 0 0) w1->iA (fS T ng dr) (jj ρ h0.next im) im (.aA cells false 0 0) w1:=by rintro⟨ez,el,fr,q1,q2,q3,q5,q6,q7⟩;refine⟨ez,el,fr,q1,q2,q3,q5,q6,fun j v' hj=> ?_⟩;obtain⟨c',PL,wM⟩:=q7 j v' hj;refine⟨c',PL,KR.mono z8 (wM.off hρ1 ?_)⟩;have:=(foldl_add (cells.map OU) 0).2 (OU v') (j9.2 ⟨v',dk hj,rfl⟩);show OU v'<=hq.next+_;omega
     cases s with
     |ptr=>exact hB hO
     |sl l c=>exact hB hO
     |mp=>
      obtain⟨eU,cl,q1,q2,q3⟩:=hO;refine⟨eU,cl,q1,?_,q3⟩;generalize eU.toList=L at q2 ⊢;cases q2;exact .nil
    have fp: ∀x r,jj ρ h0.next im x=some r->(x=h0.next/\r=im)\/(x≠h0.next/\ρ x=some r):=by
     intro x r hx;unfold jj at hx;by_cases e:x=h0.next
     .rw[aU e] at hx;cases hx;exact .inl ⟨e,rfl⟩
     .rw[aT e] at hx;exact .inr ⟨e,hx⟩
    refine⟨jj ρ h0.next im,w1,cv,mkA s h0.next,s1,IS.symm,hmk _ _ (by simp[jj]),fun d' h=>uj d' (by rw[hd];exact h),?_,z8,?_,?_⟩
    .refine⟨fun x r hb=> ?_,fun x r y hb hy=> ?_,fun x y r r' z hb iy hwz hz cJ=> ?_,S.wf⟩
     .rcases fp x r hb with⟨rfl,rfl⟩|⟨_,hb⟩
      .exact⟨by omega,(S1.low N r IU).2⟩
      .exact⟨(S.low x r hb).1,IF (S.low x r hb).2 hWS.size⟩
     .rcases fp x r hb with⟨rfl,rfl⟩|⟨_,hb⟩
      .rw[ag3] at hy;cases hy;exact Vo
      .exact iA.mono z8 (hWS.tD _ (S.low x r hb).2) (S.obj x r y hb hy)
     .rcases fp x r hb with⟨ex,er⟩|⟨_,hb⟩<;>rcases fp y r' iy with⟨ey,er'⟩|⟨_,iy⟩
      .exact absurd (ex.trans ey.symm) cJ
      .have:=(S.low y r' iy).2;rw[er];omega
      .have:=(S.low x r hb).2;rw[er'];omega
      .exact S.inj x y r r' z hb iy hwz hz cJ
    .intro x hx He;unfold jj;rw[aT (He ef)];exact hx
    .intro ρ0 hh w0 acG X;refine X.stood hWS (N:=h0.next) z8 (fun x r g1 g2=> ?_) acG;rcases fp x r g1 with⟨ex,er⟩|⟨_,g3⟩
     .exact⟨ex,by rw[er];exact NL⟩
     .rw[g3] at g2;cases g2
  .cases PL
end
section
variable {P:Program} {T:qd} {ng:Nat} {dr:tV} {F:Nat->Option bZ} {ih:ak->Env->ae->R} {n c:Nat} {ops:Array Oper} {σ:Nat->Nat} {l:List (bl×List Nat)} {E:Nat->Env} {H:Nat->ae}
theorem AT {tmps:Array Value} (ho:ops[j]? =some o) (hd:o.dst=some t):
  yielded ops tmps j=match tmps.getD t undef with| .bool b=>some b|_=>none:=by
 simp only[yielded,ho,Option.bind_some,hd];rw[Array.getD_eq_getD_getElem?];cases tmps[t]? with
 |none=>rfl
 |some v=>cases v<;>rfl
theorem MU {ao:bl} (hk:ao.op.kind=2) (hc:cK F ih ao e h0=some (e',h1)) (ef:h0.next<h1.next): ∀t,ao.dst=some t->leads (Env.get e' t)=some h0.next:=by
 intro t ht;have hnc:=kz (o:=ao.op) (by omega);unfold cK at hc;cases hw:wanted e ao.guard with
 |false=>
  simp only[hw,cond_false,kl,wI] at hc;rw[hc.2] at ef;omega
 |true=>
  simp only[hw,cond_true] at hc;split at hc
  .rename_i v0 II AX;simp only[kl,wI] at hc;obtain⟨IS,_⟩:=hc;obtain⟨s,cells,hv,_,_⟩:=xA hk AX;rw[<-IS,ht,hv];simp only[eX,Env.aN,if_true];exact Rz s _
  .cases hc
theorem ad5 (hc:cK F ih (aR T ng n ops.toList o) e h=some (e',h')):tG ng n ops.toList o=true:=by
 unfold aR at hc;cases cN:tG ng n ops.toList o with
 |false=>rw[cN] at hc;simp[cK,wanted,bm] at hc
 |true=>rfl
open Classical in
theorem Ut (hF:Fu P T ng dr F) (hT:cm P T) (hI:tX P T ng dr ih) (hK:fT ih) (hq:Dr F ih T ng n ops σ E H) (hg:jn T ng n ops σ l)
  (IY: ∀(k:Nat) (ao:bl) (lL:List Nat),l[k]? =some (ao,lL)->still (E (k+1)) (H (k+1)) c lL=true) (C1:c<(H 0).clock) (hwf:WF (H 0)) (b:Frame) (kk:List Item) (cs:List Frame) (ρ0:dY) (w0:World):
  ∀(D:Nat->Prop) (L:List Nat),Ord ops D L->(∀i o,ops[i]? =some o->D i-> ∀k∈gL .any o,D k)->
  ∀(ρ:dY) (w:World) (a:Act) (q:Nat),q<=ops.size->(∀(p:Nat) (o':Oper),p<ops.size->ops[σ p]? =some o'->(aR T ng n ops.toList o').op.kind=3->(D (σ p)↔p<q))->
   cQ (fS T ng dr) ρ (H q) w->bS ng ρ->n<=a.tmps.size->Ext ρ0 (H 0) w0 ρ (H q) w->
   (∀(p:Nat) (o:Oper) (t:Nat),p<ops.size->ops[σ p]? =some o->o.dst=some t->D (σ p)->VR ρ (Env.get (E (p+1)) t) (a.tmps.getD t undef))->
   (∀t,(∀(i:Nat) (o:Oper),ops[i]? =some o->o.dst=some t-> ¬D i)->VR ρ (Env.get (E 0) t) (a.tmps.getD t undef))->
   (∀(p:Nat) (o:Oper),p<ops.size->ops[σ p]? =some o->(aR T ng n ops.toList o).op.kind=2-> ¬D (σ p)->(H p).next<(H (p+1)).next->ρ (H p).next=none)->
   ∃ρ' w' a',Steps P (lone (on b a (.inRegion ops L::kk)) cs w) (lone (on b a' (.inRegion ops []::kk)) cs w')/\
    cQ (fS T ng dr) ρ' (H ops.size) w'/\ER ρ' (E ops.size) a'.tmps/\a'.tmps.size=a.tmps.size/\a'.defers=a.defers/\Ext ρ0 (H 0) w0 ρ' (H ops.size) w':=by
 have B0: ∀a b,a<=b->b<=ops.size->(H a).next<=(H b).next:=fun a b h1 h2=>(qq hK hq hg b h1 h2).next
 intro D L hO;induction hO with
 | @nil D mM=>
  intro hDc ρ w a q K9 hDq S hG hn X hv hv0 KX;have cJ:JY T ng n ops σ q ops.size:=by intro k o h1 h2 h3 h4;have:=(hDq k o h2 h3 h4).1 (mM _ (hg.bound k h2));omega
  obtain⟨S1,X1⟩:=Jz hq hg S ops.size K9 (dK _) cJ;refine⟨ρ,w,a,Steps.refl P _,S1,?_,rfl,rfl,X.trans X1⟩;intro t;by_cases hex: ∃(i:Nat) (o:Oper),ops[i]? =some o/\o.dst=some t
  .obtain⟨i,o,ho,hd⟩:=hex;obtain⟨p,hp,rfl⟩:=hg.ZA i (Array.getElem?_eq_some_iff.1 ho).1;have:=hv p o t hp ho hd (mM _ (hg.bound p hp));rwa [<-vm hq hg ops.size (a:=p+1) (by omega) (dK _) (fun k ok h1 h2 h3 h4=>by have:=hg.inj p k hp h2 (hg.once (σ p) (σ k) o ok t ho h3 hd h4);omega)] at this
  .have:=hv0 t (fun i o h1 h2=>absurd ⟨i,o,h1,h2⟩ hex);rwa [<-vm hq hg ops.size (a:=0) (by omega) (dK _) (fun k ok h1 h2 h3 h4=>hex ⟨σ k,ok,h3,h4⟩)] at this
 | @cons D i L o ho um he hl ihl=>
  intro hDc ρ w a q K9 hDq S hG hn X hv hv0 KX;have IU:i<ops.size:=(Array.getElem?_eq_some_iff.1 ho).1;obtain⟨p,hp,XY⟩:=hg.ZA i IU;subst XY;have T_: ∀j,Cx ops (σ p) j->D j:=fun j hj=>hj.closed hDc (fun o' MD=>by rw[ho] at MD;cases MD;exact he);have Py: ∀j,Cx ops j (σ p)-> ¬D j:=by
   intro j hj hDj;have hjm: ∃oj,ops[j]? =some oj:=by
    cases hj with
    |No h _=>exact⟨_,h⟩
    |wE h _ _=>exact⟨_,h⟩
   obtain⟨oj,Y7⟩:=hjm;exact um (hj.closed hDc (fun o' MD=>hDc j o' MD hDj))
  
  have JF: ∀t,(∀(j:Nat) (oj:Oper),ops[j]? =some oj->oj.dst=some t->Cx ops (σ p) j\/Cx ops j (σ p))->VR ρ (Env.get (E p) t) (a.tmps.getD t undef):=by
   intro t ht;by_cases hex: ∃(j:Nat) (oj:Oper),ops[j]? =some oj/\oj.dst=some t
   .obtain⟨j,oj,Y7,XU⟩:=hex;obtain⟨pj,NX,rfl⟩:=hg.ZA j (Array.getElem?_eq_some_iff.1 Y7).1;rcases ht _ oj Y7 XU with hj|hj
    .obtain⟨pj',ef,IS⟩:=hg.MV hj p hp rfl;have:=hg.inj pj' pj (by omega) NX IS;subst this;have:=hv pj' oj t NX Y7 XU (T_ _ hj);rwa [<-vm hq hg p (a:=pj'+1) (by omega) (by omega) (fun k ok h1 h2 h3 h4=>by have:=hg.inj pj' k NX (by omega) (hg.once _ _ oj ok t Y7 h3 XU h4);omega)] at this
    .obtain⟨pp,ef,IS⟩:=hg.MV hj pj NX rfl;have hpp:=hg.inj pp p (by omega) hp IS;subst hpp;have:=hv0 t (fun j' oj' h1 h2=>by rw[hg.once j' (σ pj) oj' oj t h1 Y7 h2 XU];exact Py _ hj);rwa [<-vm hq hg pp (a:=0) (by omega) (by omega) (fun k ok h1 h2 h3 h4=>by have:=hg.inj pj k NX (by omega) (hg.once _ _ oj ok t Y7 h3 XU h4);omega)] at this
   .have:=hv0 t (fun j oj h1 h2=>absurd ⟨j,oj,h1,h2⟩ hex);rwa [<-vm hq hg p (a:=0) (by omega) (by omega) (fun k ok h1 h2 h3 h4=>hex ⟨σ k,ok,h3,h4⟩)] at this
  
  let J6:List Nat:=(ops.toList.filterMap (·.dst)).filter fun t=>decide (¬VR ρ (Env.get (E p) t) (a.tmps.getD t undef))
  have amP: ∀t,t∉J6->VR ρ (Env.get (E p) t) (a.tmps.getD t undef):=by
   intro t ht;by_cases hex: ∃(j:Nat) (oj:Oper),ops[j]? =some oj/\oj.dst=some t
   .obtain⟨j,oj,Y7,XU⟩:=hex;apply Classical.byContradiction;intro cJ;refine ht (NA.2 ⟨List.mem_filterMap.2 ⟨oj,?_,XU⟩,by simpa using cJ⟩);exact dk (i:=j) (by simpa using Y7)
   .exact JF t (fun j oj h1 h2=>absurd ⟨j,oj,h1,h2⟩ hex)
  have aaL: ∀t,VR ρ (Env.get (E p) t) (a.tmps.getD t undef)->t∉J6:=by intro t ht hm;have:=(NA.1 hm).2;simp only[decide_eq_true_eq] at this;exact this ht
  let e2:=Hn J6 (E p)
  let a2:Act:= { a with tmps:=Ev J6 a.tmps }
  have Q0:ER ρ e2 a2.tmps:=by
   intro t;show VR ρ (Env.get (Hn J6 (E p)) t) ((Ev J6 a.tmps).getD t undef);rw[xv,xu];by_cases ht:t∈J6
   .rw[aU ht,aU ht];exact VR.undef
   .rw[aT ht,aT ht];exact amP t ht
  have Bn: ∀x∈o.op.operands.toList,ev (E p) x=ev e2 x/\a.eval x=a2.eval x:=by
   intro x hx;cases x with
   |tmp t=>
    have ht:=aaL t (JF t (fun j oj h1 h2=>hg.reads (σ p) o t ho hx j oj h1 h2));simp only[ev,Act.eval,e2,a2];rw[xv,xu,aT ht,aT ht];exact⟨rfl,rfl⟩
   |_=>exact⟨rfl,rfl⟩
  have Q6:=hq p o hp ho;have cN:=ad5 Q6;have CP:Region.wanted o (yielded ops a.tmps)=wanted (E p) (guardOf ops.toList o):=by
   unfold guardOf;cases vJ:o.guard with
   |none=>simp[Region.wanted,vJ,wanted]
   |some x=>
    obtain⟨g,bb⟩:=x;dsimp only;have hgs:(BA ops.toList g).isSome=true:=by simp only[tG,uf,vJ] at cN;exact cN.1.2
    obtain⟨t,ht⟩:=Option.isSome_iff_exists.1 hgs;have amM:=hg.guard (σ p) o g bb ho vJ;have uj: ∃og,ops[g]? =some og/\og.dst=some t:=by
     unfold BA at ht;split at ht
     .rename_i og hog;exact⟨og,by simpa using hog,ht⟩
     .cases ht
    obtain⟨og,hog,hdg⟩:=uj;have anM:=JF t (fun j oj h1 h2=>by rw[<-hg.once g j og oj t hog h1 hdg h2];exact .inl amM);have NV:=aaL t anM;have h1:=Fq (a:=a2) Q0 (ops:=ops) (o:=o) (g:=some (t,bb)) (.inr ⟨g,bb,t,vJ,ht,rfl⟩);have h2:yielded ops a.tmps g=yielded ops a2.tmps g:=by
     have hmk:(Ev J6 a.tmps).getD t undef=a.tmps.getD t undef:=by rw[xu,aT NV]
     rw[AT hog hdg,AT hog hdg];simp only[a2,hmk]
    rw[ht];have h3:wanted (E p) (some (t,bb))=wanted e2 (some (t,bb)):=by simp only[wanted,e2];rw[xv,aT NV]
    show Region.wanted o (yielded ops a.tmps)=wanted (E p) (some (t,bb));rw[h3,<-h1];simp only[Region.wanted,vJ,h2]
  have YX: ∀(k:Nat) (ok:Oper),k<p->ops[σ k]? =some ok->(aR T ng n ops.toList ok).op.kind=3->k<q:=fun k ok h1 h2 h3=>
   (hDq k ok (by omega) h2 h3).1 (T_ _ (hg.eager p k ok h1 hp h2 h3))
  
  have B7: ∃q' ρ1 w1 cv v,q'<=ops.size/\Steps P (lone (on b a (.inRegion ops (σ p::L)::kk)) cs w) (lone (on b (a.put o.dst cv) (.inRegion ops L::kk)) cs w1)/\
    E (p+1)=eX (E p) o.dst v/\VR ρ1 v cv/\(∀d,o.dst=some d->d<a.tmps.size)/\cQ (fS T ng dr) ρ1 (H q') w1/\ρ.le ρ1/\Ext ρ0 (H 0) w0 ρ1 (H q') w1/\
    (∀(k:Nat) (o':Oper),k<ops.size->ops[σ k]? =some o'->(aR T ng n ops.toList o').op.kind=3->((D (σ k)\/σ k=σ p)↔k<q'))/\
    (∀(k:Nat),k<ops.size->k≠p->(H k).next<(H (k+1)).next->ρ (H k).next=none->ρ1 (H k).next=none):=by
   by_cases hk3:(aR T ng n ops.toList o).op.kind=3
   .have Y_:q<=p:=by apply Classical.byContradiction;intro h;exact um ((hDq p o hp ho hk3).2 (by omega))
    obtain⟨S1,X1⟩:=Jz hq hg S p Y_ (by omega) (fun k ok h1 h2 h3 h4=>by have:=YX k ok h2 h3 h4;omega);obtain⟨ρ1,w1,cv,v,s1,QZ,Tt,uj,S2,X2⟩:=xB hF hT hI ho Q6 S1 hG (a:=a) (a2:=a2) Q0 hn Bn CP b kk cs L;refine⟨p+1,ρ1,w1,cv,v,by omega,s1,QZ,Tt,uj,S2,X2.le,(X.trans X1).trans X2,?_,?_⟩
    .intro k o' h1 h2 h3;have:=hDq k o' h1 h2 h3;constructor
     .rintro(h|h)
      .have:=this.1 h;omega
      .have:=hg.inj k p h1 hp h;omega
     .intro h;by_cases hkp:k=p
      .exact .inr (by rw[hkp])
      .exact .inl (this.2 (YX k o' (by omega) h2 h3))
    .intro k h1 h2 h3 h4;cases hr:ρ1 (H k).next with
     |none=>rfl
     |some r=>
      have g1:=X2.new _ r hr h4;have g2:=(S2.low _ r hr).1;rcases AV k p with h|h
      .have:=B0 (k+1) p (by omega) (by omega);omega
      .have:=B0 (p+1) k (by omega) (by omega);omega
   .have anq:=I3 hk3
    
    obtain⟨q1,Vr,Bo,S1,X1,age⟩: ∃q1,q1<=ops.size/\p<q1/\cQ (fS T ng dr) ρ (H q1) w/\Ext ρ0 (H 0) w0 ρ (H q1) w/\
      (∀(k:Nat) (o':Oper),k<ops.size->ops[σ k]? =some o'->(aR T ng n ops.toList o').op.kind=3->(D (σ k)↔k<q1)):=by
     by_cases Y_:p<q
     .exact⟨q,K9,Y_,S,X,hDq⟩
     .have cJ:JY T ng n ops σ q (p+1):=by
       intro k ok h1 h2 h3 h4;by_cases hkp:k=p
       .subst hkp;rw[ho] at h3;cases h3;exact hk3 h4
       .have:=YX k ok (by omega) h3 h4;omega
      obtain⟨S1,X1⟩:=Jz hq hg S (p+1) (by omega) (by omega) cJ;refine⟨p+1,by omega,by omega,S1,X.trans X1,fun k ok h1 h2 h3=> ?_⟩;rw[hDq k ok h1 h2 h3];constructor
      .intro h;omega
      .intro h;by_cases hkp:k=p
       .subst hkp;rw[ho] at h2;cases h2;exact absurd h3 hk3
       .exact YX k ok (by omega) h2 h3
    have PS: ∀(u:Nat) (o':Oper),p<u->u<q1->ops[σ u]? =some o'->(aR T ng n ops.toList o').op.kind=3-> ¬Cx ops (σ u) (σ p):=
     fun u o' h1 h2 h3 h4 ha=>Py _ ha ((age u o' (by omega) h3 h4).2 h2)
    have YN: ∀(k:Nat) (o':Oper),k<ops.size->ops[σ k]? =some o'->(aR T ng n ops.toList o').op.kind=3->((D (σ k)\/σ k=σ p)↔k<q1):=by
     intro k o' h1 h2 h3;have:=age k o' h1 h2 h3;constructor
     .rintro(h|h)
      .exact this.1 h
      .rw[h,ho] at h2;cases h2;exact absurd h3 hk3
     .intro h;exact .inl (this.2 h)
    by_cases BZ:(aR T ng n ops.toList o).op.kind=2
    .obtain⟨ρ1,w1,cv,v,s1,QZ,Tt,uj,S2,hle,hfr,hX⟩:=MT hF hT hI ho BZ Q6 S1 hG (a:=a) (a2:=a2) Q0 hn Bn CP (KX p o hp ho BZ um)
      (fun _ ef=>DD hK hq hg IY C1 Bo Vr ho (.inr BZ) PS (fun h=>by rw[BZ] at h;cases h) (fun _ t ht=>MU BZ Q6 ef t ht) ef)
      (B0 (p+1) q1 Bo Vr) b kk cs L
     refine⟨q1,ρ1,w1,cv,v,Vr,s1,QZ,Tt,uj,S2,hle,hX ρ0 (H 0) w0 (B0 0 p (by omega) (by omega)) X1,YN,?_⟩;intro k h1 h2 h3 h4;refine hfr _ h4 fun ef heq=> ?_;rcases AV k p with h|h
     .have:=B0 (k+1) p (by omega) (by omega);omega
     .have:=B0 (p+1) k (by omega) (by omega);omega
    .
     have iM:=Hv (by omega) Q6;have dm:cK F ih (aR T ng n ops.toList o) (E p) (H q1)=some (E (p+1),H q1):=by
      have zZ:=Q6;rw[iM] at zZ;have hnc:=kz (o:=(aR T ng n ops.toList o).op) anq;unfold cK at zZ ⊢;cases hw:wanted (E p) (aR T ng n ops.toList o).guard with
      |false=>
       simp only[hw,cond_false,kl,wI] at zZ ⊢;exact⟨zZ.1,trivial⟩
      |true=>
       simp only[hw,cond_true] at zZ ⊢;split at zZ
       .rename_i v h1 AX;simp only[kl,wI] at zZ;obtain⟨AW,IQ⟩:=zZ;subst IQ;have acR:bm (E p) (H q1) (aR T ng n ops.toList o).op=some (v,H q1):=by
         by_cases Rc:(aR T ng n ops.toList o).op.kind=0
         .exact(EG Rc AX).2 (H q1)
         .have hk1:(aR T ng n ops.toList o).op.kind=1:=by omega
          obtain⟨_,x,hx,acA,ahp⟩:=y_ hk1 AX;refine acA (H q1) fun bb hbb=> ?_;obtain⟨Il,ro,op',s,hgt⟩:=ahp bb hbb;have aoh:WF (H p):=(qq hK hq hg (a:=0) p (by omega) (by omega)).wf hwf;have:=DD hK hq hg IY C1 Bo Vr ho (.inl hk1) PS (b:=bb) (fun _ t ht _=>by rw[hx] at ht;cases ht;exact hbb) (fun h=>by rw[hk1] at h;cases h)
           (by rw[iM];exact aoh bb _ hgt)
          rw[this,iM]
        rw[acR];simp only[kl,wI];exact⟨AW,trivial⟩
       .cases zZ
     obtain⟨ρ1,w1,cv,v,s1,QZ,Tt,uj,S2,X2⟩:=xB hF hT hI ho dm S1 hG (a:=a) (a2:=a2) Q0 hn Bn CP b kk cs L;refine⟨q1,ρ1,w1,cv,v,Vr,s1,QZ,Tt,uj,S2,X2.le,X1.trans X2,YN,?_⟩;intro k h1 h2 h3 h4;cases hr:ρ1 (H k).next with
     |none=>rfl
     |some r=>
      have g1:=X2.new _ r hr h4;have g2:=(S2.low _ r hr).1;omega
  obtain⟨q',ρ1,w1,cv,v,anZ,s1,QZ,Tt,uj,S1,z8,X1,YN,am7⟩:=B7;have Vq: ∀t,o.dst≠some t->(a.put o.dst cv).tmps.getD t undef=a.tmps.getD t undef:=by
   intro t ht;cases hd:o.dst with
   |none=>rfl
   |some d=>
    have:d≠t:=fun e=>ht (by rw[hd,e]);simp[Act.put,Array.getD_eq_getD_getElem?,Array.getElem?_setIfInBounds,this]
  obtain⟨ρ2,w2,a2',s2,S2,E2,z2,d2,X2⟩:=ihl
   (by
    intro j oj hj hDj k hk;rcases hDj with h|h
    .exact .inl (hDc j oj hj h k hk)
    .subst h;rw[ho] at hj;cases hj;exact .inl (he k hk))
   ρ1 w1 (a.put o.dst cv) q' anZ YN S1 (hG.mono z8) (by rw[uE];exact hn) X1
   (by
    intro pj oj t NX hj hd hDj;by_cases Tl:pj=p
    .subst Tl;rw[ho] at hj;cases hj;rw[QZ,hd];have ef:=uj t hd;simp only[eX,Env.aN,if_true,Act.put];simp[Array.getD_eq_getD_getElem?,ef,Tt]
    .have al8:D (σ pj):=hDj.resolve_right (fun h=>Tl (hg.inj pj p NX hp h));rw[Vq t (fun h=>Tl (hg.inj pj p NX hp (hg.once (σ pj) (σ p) oj o t hj ho hd h)))];exact(hv pj oj t NX hj hd al8).mono z8)
   (by intro t ht;have iD:o.dst≠some t:=fun h=>ht (σ p) o ho h (.inr rfl);rw[Vq t iD];exact(hv0 t (fun j oj h1 h2 h3=>ht j oj h1 h2 (.inl h3))).mono z8)
   (by intro k ok h1 h2 h3 h4 h5;have hnD: ¬D (σ k):=fun h=>h4 (.inl h);have hkp:k≠p:=fun h=>h4 (.inr (by rw[h]));exact am7 k h1 hkp h5 (KX k ok h1 h2 h3 hnD h5))
  exact⟨ρ2,w2,a2',s1.trans s2,S2,E2,z2.trans (uE _ _ _),d2.trans (put_defers _ _ _),X2⟩
end
theorem Uu (hF:Fu P T ng (dZ T ng) F) (hT:cm P T):HL P T ng (dZ T ng) F:=by
 intro ih hK hI n ops e h e' h' hc mixed t ρ w a b k cs S hG hE hn;have cJ:dZ T ng n ops.toList≠uS:=by intro he;rw[he] at hc;simp[uS,mQ,cK,wanted,bm] at hc
 obtain⟨σ,hg⟩:=Kw cJ;obtain⟨E,H,q1,q2,q3,q4,q5⟩:=GK _ _ _ _ _ _ hc;rw[hg.len] at q3 q4;have hq:Dr F ih T ng n ops σ E H:=by intro p o hp ho;obtain⟨lL,hk⟩:=hg.get p o hp ho;exact(q5 p _ lL hk).1
 have hO:=Jx hg.any hg.text hg.gc mixed t;have S0:cQ (fS T ng (dZ T ng)) ρ (H 0) w:=by rw[q2];exact S.clock _
 obtain⟨ρ',w',a',s,S',E',z,d,X⟩:=Ut hF hT hI hK hq hg (fun k ao lL hk=>(q5 k ao lL hk).2) (c:=h.clock) (by rw[q2];exact Nat.lt_succ_self _) S0.wf b k cs ρ w
  (fun _=>False) _ hO (fun _ _ _ h=>h.elim) ρ w a 0 (Nat.zero_le _) (fun j o' _ _ _=>⟨fun h=>h.elim,fun h=>by omega⟩) S0 hG hn (.refl _ _ _)
  (fun _ _ _ _ _ _ h=>h.elim) (fun t _=>by rw[q1];exact hE t)
  (fun p o hp _ _ _ _=>by
   cases hr:ρ (H p).next with
   |none=>rfl
   |some r=>
    have g1:=(S0.low _ r hr).1;have g2:=(qq hK hq hg (a:=0) p (by omega) (by omega)).next
    omega)
 rw[q3] at E';rw[q4] at S' X;refine⟨ρ',w',a',s,S',E',z,d,?_⟩;rw[q2] at X;exact(Ext.clock (ρ:=ρ) (h:=h) (w:=w) (h.clock+1)).trans X
def Ih (T:qd) (ng:Nat) (f:Func):Option bZ:=
 match f.body with
 |none=>none
 |some c=>match f.results.toList.mapM (yX T) with
  |none=>none
  |some rs=>bif f.name== "runtime.NumGoroutine" then none else some { res:=rs,body:=bV T ng f.ntmps (dZ T ng) c }
theorem Hm {α β:Type} {f:α->Option β} : ∀ {l:List α} {r:List β},l.mapM f=some r->All2 (fun a b=>f a=some b) l r
 |[],r,h=>by simp only[List.mapM_nil] at h;cases h;exact .nil
 |a::l,r,h=>by
  rw[List.mapM_cons] at h;cases ha:f a with
  |none=>simp[ha] at h
  |some b=>
   cases hl:l.mapM f with
   |none=>simp[ha,hl] at h
   |some bs=>
    simp[ha,hl] at h;subst h;exact .cons ha (Hm hl)
theorem Nf (h: ∀f af,F f=some af-> ∃fn,P.funcs[f]? =some fn/\Ih T ng fn=some af):Fu P T ng (dZ T ng) F:=by
 intro f af hf;obtain⟨fn,PO,hc⟩:=h f af hf
 suffices hs:af.Bv= .no/\ ∃fn c,P.funcs[f]? =some fn/\fn.body=some c/\(fn.name== "runtime.NumGoroutine")=false/\
   All2 (fun r ar=>yX T r=some ar) fn.results.toList af.res/\af.body=bV T ng fn.ntmps (dZ T ng) c by
  rw[hs.1];exact hs.2
 unfold Ih at hc;split at hc
 .cases hc
 .rename_i c hb;split at hc
  .cases hc
  .rename_i rs N2;cases hn:fn.name== "runtime.NumGoroutine" with
   |true=>rw[hn] at hc;cases hc
   |false=>
    rw[hn] at hc;cases hc;exact⟨rfl,fn,c,PO,hb,hn,Hm N2,rfl⟩
section
variable {P:Program} {T:qd} {ng:Nat} {F:Nat->Option bZ}
theorem yV (hF:Fu P T ng (dZ T ng) F) (hT:cm P T) {fuel f:Nat} {args cw:List Value} (hc:call F fuel f args h=some (v,h'))
  {ρ:dY} {w:World} (S:cQ (fS T ng (dZ T ng)) ρ h w) (hG:bS ng ρ) (ha:All2 (VR ρ) args cw) (cs:List Frame):
  ∃fn ρ' w' c fr,P.funcs[f]? =some fn/\fn.body.isSome=true/\(fn.name== "runtime.NumGoroutine")=false/\
   Steps P (lone (Frame.enter P f ⟨cw⟩ .normal) cs w) (lone fr cs w')/\fr.fn=f/\fr.leaving P w' (.returned c)/\VR ρ' v c/\cQ (fS T ng (dZ T ng)) ρ' h' w'/\Ext ρ h w ρ' h' w':=
 wq hF hT (Su hF hT (Uu hF hT) fuel) hc S hG ha cs
end
def NN (P:Program) (t:Nat):TypeDesc->Bool
 | .struct _=> !P.stoodInHeld t
 |_=>true
def rK (P:Program) (t:Nat):Option TI:=
 match P.info? t,P.underlying t with
 |some ti,some u=>match ti.zero with
  |none=>none
  |some z=>
   bif z.cells.toList.all bK&&(mn u||Nat.beq ti.size 1)&&Nat.beq z.cells.toList.length ti.size&&NN P t u&&(mn u||plain z)
   then some { u:=u,size:=ti.size,bytes:=ti.bytes,zero:=z.cells.toList,agg:=mn u } else none
 |_,_=>none
theorem Mg (P:Program):cm P (rK P):=by
 intro t i h;unfold rK at h;split at h
 .rename_i ti u iD hu;split at h
  .cases h
  .rename_i z hz;cases hb:(z.cells.toList.all bK&&(mn u||Nat.beq ti.size 1)&&Nat.beq z.cells.toList.length ti.size&&NN P t u&&(mn u||plain z)) with
   |false=>rw[hb] at h;cases h
   |true=>
    rw[hb] at h;cases h;simp only[uf] at hb;obtain⟨⟨⟨⟨h1,h2⟩,h3⟩,h4⟩,h5⟩:=hb;refine⟨hu,⟨ti,iD,rfl,rfl,z,hz,rfl⟩,rfl,h1,?_,nO h3,?_,?_⟩
    .intro ha;dsimp only at ha;rw[ha] at h2;exact nO (by simpa using h2)
    .intro fs hfs;dsimp only at hfs;rw[hfs] at h4;simpa [NN] using h4
    .intro ha ti' z' N5 Tw;dsimp only at ha;rw[iD] at N5;cases N5;rw[hz] at Tw;cases Tw;rw[ha] at h5;simpa using h5
 .cases h
theorem aj {f k:Nat} {x fn:Func} {bh:Option Func} (h:(bif Nat.beq f k then some x else bh)=some fn) (hx:P.funcs[k]? =some x):P.funcs[f]? =some fn\/bh=some fn:=by
 cases hb:Nat.beq f k with
 |true=>
  rw[hb] at h;cases h;rw[nO hb];exact .inl hx
 |false=>rw[hb] at h;exact .inr h
def IC (P:Program) (ng:Nat) (G:Nat->Option Func) (f:Nat):Option bZ:=match G f with
 |some fn=>Ih (rK P) ng fn
 |none=>none
theorem Ny {G:Nat->Option Func} (hG: ∀f fn,G f=some fn->P.funcs[f]? =some fn):Fu P (rK P) ng (dZ (rK P) ng) (IC P ng G):=by
 refine Nf fun f af hf=> ?_;unfold IC at hf;split at hf
 .rename_i fn PO;exact⟨fn,hG f fn PO,hf⟩
 .cases hf
def GY (cs:List Value):ae:=⟨1,0,.node (some (.aA cs true 0 0)) .nil .nil⟩
section
open Go.ChangeShapes Go.WideShapes Go.ChangeAt
variable {H:Type} {enc:TypeId×Value->H} {P:Program}
end
end Go.AI
namespace Go.Proofs.YtdhnndleffachaaGreatDoor
open Go.AI
noncomputable def Iv (f:Nat):Option Func:=
 bif Nat.beq f 0 then some Tryz.f0 else
 bif Nat.beq f 1 then some Tryz.f1 else
 bif Nat.beq f 2 then some Tryz.f2 else
 bif Nat.beq f 3 then some Tryz.f3 else
 bif Nat.beq f 4 then some Tryz.f4 else
 bif Nat.beq f 5 then some Tryz.f5 else
 bif Nat.beq f 6 then some Tryz.f6 else
 bif Nat.beq f 7 then some Tryz.f7 else
 bif Nat.beq f 8 then some Tryz.f8 else
 bif Nat.beq f 9 then some Tryz.f9 else
 bif Nat.beq f 10 then some Tryz.f10 else
 bif Nat.beq f 11 then some Tryz.f11 else
 bif Nat.beq f 12 then some Tryz.f12 else
 bif Nat.beq f 13 then some Tryz.f13 else
 bif Nat.beq f 14 then some Tryz.f14 else
 bif Nat.beq f 15 then some Tryz.f15 else
 bif Nat.beq f 16 then some Tryz.f16 else
 bif Nat.beq f 17 then some Tryz.f17 else
 bif Nat.beq f 18 then some Tryz.f18 else
 bif Nat.beq f 19 then some Tryz.f19 else
 bif Nat.beq f 20 then some Tryz.f20 else
 bif Nat.beq f 21 then some Tryz.f21 else
 bif Nat.beq f 22 then some Tryz.f22 else
 bif Nat.beq f 23 then some Tryz.f23 else
 bif Nat.beq f 24 then some Tryz.f24 else
 bif Nat.beq f 25 then some Tryz.f25 else
 bif Nat.beq f 26 then some Tryz.f26 else
 bif Nat.beq f 27 then some Tryz.f27 else
 bif Nat.beq f 28 then some Tryz.f28 else
 bif Nat.beq f 29 then some Tryz.f29 else
 bif Nat.beq f 30 then some Tryz.f30 else
 bif Nat.beq f 31 then some Tryz.f31 else
 bif Nat.beq f 32 then some Tryz.f32 else
 bif Nat.beq f 33 then some Tryz.f33 else
 bif Nat.beq f 34 then some Tryz.f34 else
 bif Nat.beq f 35 then some Tryz.f35 else
 bif Nat.beq f 36 then some Tryz.f36 else
 bif Nat.beq f 37 then some Tryz.f37 else
 bif Nat.beq f 38 then some Tryz.f38 else
 bif Nat.beq f 39 then some Tryz.f39 else
 bif Nat.beq f 40 then some Tryz.f40 else
 bif Nat.beq f 41 then some Tryz.f41 else
 bif Nat.beq f 42 then some Tryz.f42 else
 bif Nat.beq f 43 then some Tryz.f43 else
 bif Nat.beq f 44 then some Tryz.f44 else
 bif Nat.beq f 45 then some Tryz.f45 else
 bif Nat.beq f 46 then some Tryz.f46 else
 bif Nat.beq f 47 then some Tryz.f47 else
 bif Nat.beq f 48 then some Tryz.f48 else
 bif Nat.beq f 49 then some Tryz.f49 else
 bif Nat.beq f 50 then some Tryz.f50 else
 bif Nat.beq f 51 then some Tryz.f51 else
 bif Nat.beq f 52 then some Tryz.f52 else
 bif Nat.beq f 53 then some Tryz.f53 else
 bif Nat.beq f 54 then some Tryz.f54 else
 bif Nat.beq f 55 then some Tryz.f55 else
 bif Nat.beq f 56 then some Tryz.f56 else
 bif Nat.beq f 57 then some Tryz.f57 else
 bif Nat.beq f 58 then some Tryz.f58 else
 bif Nat.beq f 59 then some Tryz.f59 else
 none
theorem Ns: ∀f fn,Iv f=some fn->Tryz.prog.funcs[f]? =some fn:=by
 intro f fn h;unfold Iv at h;rcases aj h Tryz.func0 with h|h
 .exact h
 rcases aj h Tryz.func1 with h|h
 .exact h
 rcases aj h Tryz.func2 with h|h
 .exact h
 rcases aj h Tryz.func3 with h|h
 .exact h
 rcases aj h Tryz.func4 with h|h
 .exact h
 rcases aj h Tryz.func5 with h|h
 .exact h
 rcases aj h Tryz.func6 with h|h
 .exact h
 rcases aj h Tryz.func7 with h|h
 .exact h
 rcases aj h Tryz.func8 with h|h
 .exact h
 rcases aj h Tryz.func9 with h|h
 .exact h
 rcases aj h Tryz.func10 with h|h
 .exact h
 rcases aj h Tryz.func11 with h|h
 .exact h
 rcases aj h Tryz.func12 with h|h
 .exact h
 rcases aj h Tryz.func13 with h|h
 .exact h
 rcases aj h Tryz.func14 with h|h
 .exact h
 rcases aj h Tryz.func15 with h|h
 .exact h
 rcases aj h Tryz.func16 with h|h
 .exact h
 rcases aj h Tryz.func17 with h|h
 .exact h
 rcases aj h Tryz.func18 with h|h
 .exact h
 rcases aj h Tryz.func19 with h|h
 .exact h
 rcases aj h Tryz.func20 with h|h
 .exact h
 rcases aj h Tryz.func21 with h|h
 .exact h
 rcases aj h Tryz.func22 with h|h
 .exact h
 rcases aj h Tryz.func23 with h|h
 .exact h
 rcases aj h Tryz.func24 with h|h
 .exact h
 rcases aj h Tryz.func25 with h|h
 .exact h
 rcases aj h Tryz.func26 with h|h
 .exact h
 rcases aj h Tryz.func27 with h|h
 .exact h
 rcases aj h Tryz.func28 with h|h
 .exact h
 rcases aj h Tryz.func29 with h|h
 .exact h
 rcases aj h Tryz.func30 with h|h
 .exact h
 rcases aj h Tryz.func31 with h|h
 .exact h
 rcases aj h Tryz.func32 with h|h
 .exact h
 rcases aj h Tryz.func33 with h|h
 .exact h
 rcases aj h Tryz.func34 with h|h
 .exact h
 rcases aj h Tryz.func35 with h|h
 .exact h
 rcases aj h Tryz.func36 with h|h
 .exact h
 rcases aj h Tryz.func37 with h|h
 .exact h
 rcases aj h Tryz.func38 with h|h
 .exact h
 rcases aj h Tryz.func39 with h|h
 .exact h
 rcases aj h Tryz.func40 with h|h
 .exact h
 rcases aj h Tryz.func41 with h|h
 .exact h
 rcases aj h Tryz.func42 with h|h
 .exact h
 rcases aj h Tryz.func43 with h|h
 .exact h
 rcases aj h Tryz.func44 with h|h
 .exact h
 rcases aj h Tryz.func45 with h|h
 .exact h
 rcases aj h Tryz.func46 with h|h
 .exact h
 rcases aj h Tryz.func47 with h|h
 .exact h
 rcases aj h Tryz.func48 with h|h
 .exact h
 rcases aj h Tryz.func49 with h|h
 .exact h
 rcases aj h Tryz.func50 with h|h
 .exact h
 rcases aj h Tryz.func51 with h|h
 .exact h
 rcases aj h Tryz.func52 with h|h
 .exact h
 rcases aj h Tryz.func53 with h|h
 .exact h
 rcases aj h Tryz.func54 with h|h
 .exact h
 rcases aj h Tryz.func55 with h|h
 .exact h
 rcases aj h Tryz.func56 with h|h
 .exact h
 rcases aj h Tryz.func57 with h|h
 .exact h
 rcases aj h Tryz.func58 with h|h
 .exact h
 rcases aj h Tryz.func59 with h|h
 .exact h
 cases h
noncomputable def Iw (f:Nat):Option Func:=
 bif Nat.beq f 60 then some Tryz.f60 else
 bif Nat.beq f 61 then some Tryz.f61 else
 bif Nat.beq f 62 then some Tryz.f62 else
 bif Nat.beq f 63 then some Tryz.f63 else
 bif Nat.beq f 64 then some Tryz.f64 else
 bif Nat.beq f 65 then some Tryz.f65 else
 bif Nat.beq f 66 then some Tryz.f66 else
 bif Nat.beq f 67 then some Tryz.f67 else
 bif Nat.beq f 68 then some Tryz.f68 else
 bif Nat.beq f 69 then some Tryz.f69 else
 bif Nat.beq f 70 then some Tryz.f70 else
 bif Nat.beq f 71 then some Tryz.f71 else
 bif Nat.beq f 72 then some Tryz.f72 else
 bif Nat.beq f 73 then some Tryz.f73 else
 bif Nat.beq f 74 then some Tryz.f74 else
 bif Nat.beq f 75 then some Tryz.f75 else
 bif Nat.beq f 76 then some Tryz.f76 else
 bif Nat.beq f 77 then some Tryz.f77 else
 bif Nat.beq f 78 then some Tryz.f78 else
 bif Nat.beq f 79 then some Tryz.f79 else
 bif Nat.beq f 80 then some Tryz.f80 else
 bif Nat.beq f 81 then some Tryz.f81 else
 bif Nat.beq f 82 then some Tryz.f82 else
 bif Nat.beq f 83 then some Tryz.f83 else
 bif Nat.beq f 84 then some Tryz.f84 else
 bif Nat.beq f 85 then some Tryz.f85 else
 bif Nat.beq f 86 then some Tryz.f86 else
 bif Nat.beq f 87 then some Tryz.f87 else
 bif Nat.beq f 88 then some Tryz.f88 else
 bif Nat.beq f 89 then some Tryz.f89 else
 bif Nat.beq f 90 then some Tryz.f90 else
 bif Nat.beq f 91 then some Tryz.f91 else
 bif Nat.beq f 92 then some Tryz.f92 else
 bif Nat.beq f 93 then some Tryz.f93 else
 bif Nat.beq f 94 then some Tryz.f94 else
 bif Nat.beq f 95 then some Tryz.f95 else
 bif Nat.beq f 96 then some Tryz.f96 else
 bif Nat.beq f 97 then some Tryz.f97 else
 bif Nat.beq f 98 then some Tryz.f98 else
 bif Nat.beq f 99 then some Tryz.f99 else
 bif Nat.beq f 100 then some Tryz.f100 else
 bif Nat.beq f 101 then some Tryz.f101 else
 bif Nat.beq f 102 then some Tryz.f102 else
 bif Nat.beq f 103 then some Tryz.f103 else
 bif Nat.beq f 104 then some Tryz.f104 else
 bif Nat.beq f 105 then some Tryz.f105 else
 bif Nat.beq f 106 then some Tryz.f106 else
 bif Nat.beq f 107 then some Tryz.f107 else
 bif Nat.beq f 108 then some Tryz.f108 else
 bif Nat.beq f 109 then some Tryz.f109 else
 bif Nat.beq f 110 then some Tryz.f110 else
 bif Nat.beq f 111 then some Tryz.f111 else
 bif Nat.beq f 112 then some Tryz.f112 else
 bif Nat.beq f 113 then some Tryz.f113 else
 bif Nat.beq f 114 then some Tryz.f114 else
 bif Nat.beq f 115 then some Tryz.f115 else
 bif Nat.beq f 116 then some Tryz.f116 else
 bif Nat.beq f 117 then some Tryz.f117 else
 bif Nat.beq f 118 then some Tryz.f118 else
 bif Nat.beq f 119 then some Tryz.f119 else
 none
theorem Nt: ∀f fn,Iw f=some fn->Tryz.prog.funcs[f]? =some fn:=by
 intro f fn h;unfold Iw at h;rcases aj h Tryz.func60 with h|h
 .exact h
 rcases aj h Tryz.func61 with h|h
 .exact h
 rcases aj h Tryz.func62 with h|h
 .exact h
 rcases aj h Tryz.func63 with h|h
 .exact h
 rcases aj h Tryz.func64 with h|h
 .exact h
 rcases aj h Tryz.func65 with h|h
 .exact h
 rcases aj h Tryz.func66 with h|h
 .exact h
 rcases aj h Tryz.func67 with h|h
 .exact h
 rcases aj h Tryz.func68 with h|h
 .exact h
 rcases aj h Tryz.func69 with h|h
 .exact h
 rcases aj h Tryz.func70 with h|h
 .exact h
 rcases aj h Tryz.func71 with h|h
 .exact h
 rcases aj h Tryz.func72 with h|h
 .exact h
 rcases aj h Tryz.func73 with h|h
 .exact h
 rcases aj h Tryz.func74 with h|h
 .exact h
 rcases aj h Tryz.func75 with h|h
 .exact h
 rcases aj h Tryz.func76 with h|h
 .exact h
 rcases aj h Tryz.func77 with h|h
 .exact h
 rcases aj h Tryz.func78 with h|h
 .exact h
 rcases aj h Tryz.func79 with h|h
 .exact h
 rcases aj h Tryz.func80 with h|h
 .exact h
 rcases aj h Tryz.func81 with h|h
 .exact h
 rcases aj h Tryz.func82 with h|h
 .exact h
 rcases aj h Tryz.func83 with h|h
 .exact h
 rcases aj h Tryz.func84 with h|h
 .exact h
 rcases aj h Tryz.func85 with h|h
 .exact h
 rcases aj h Tryz.func86 with h|h
 .exact h
 rcases aj h Tryz.func87 with h|h
 .exact h
 rcases aj h Tryz.func88 with h|h
 .exact h
 rcases aj h Tryz.func89 with h|h
 .exact h
 rcases aj h Tryz.func90 with h|h
 .exact h
 rcases aj h Tryz.func91 with h|h
 .exact h
 rcases aj h Tryz.func92 with h|h
 .exact h
 rcases aj h Tryz.func93 with h|h
 .exact h
 rcases aj h Tryz.func94 with h|h
 .exact h
 rcases aj h Tryz.func95 with h|h
 .exact h
 rcases aj h Tryz.func96 with h|h
 .exact h
 rcases aj h Tryz.func97 with h|h
 .exact h
 rcases aj h Tryz.func98 with h|h
 .exact h
 rcases aj h Tryz.func99 with h|h
 .exact h
 rcases aj h Tryz.func100 with h|h
 .exact h
 rcases aj h Tryz.func101 with h|h
 .exact h
 rcases aj h Tryz.func102 with h|h
 .exact h
 rcases aj h Tryz.func103 with h|h
 .exact h
 rcases aj h Tryz.func104 with h|h
 .exact h
 rcases aj h Tryz.func105 with h|h
 .exact h
 rcases aj h Tryz.func106 with h|h
 .exact h
 rcases aj h Tryz.func107 with h|h
 .exact h
 rcases aj h Tryz.func108 with h|h
 .exact h
 rcases aj h Tryz.func109 with h|h
 .exact h
 rcases aj h Tryz.func110 with h|h
 .exact h
 rcases aj h Tryz.func111 with h|h
 .exact h
 rcases aj h Tryz.func112 with h|h
 .exact h
 rcases aj h Tryz.func113 with h|h
 .exact h
 rcases aj h Tryz.func114 with h|h
 .exact h
 rcases aj h Tryz.func115 with h|h
 .exact h
 rcases aj h Tryz.func116 with h|h
 .exact h
 rcases aj h Tryz.func117 with h|h
 .exact h
 rcases aj h Tryz.func118 with h|h
 .exact h
 rcases aj h Tryz.func119 with h|h
 .exact h
 cases h
noncomputable def Ix (f:Nat):Option Func:=
 bif Nat.beq f 120 then some Tryz.f120 else
 bif Nat.beq f 121 then some Tryz.f121 else
 bif Nat.beq f 122 then some Tryz.f122 else
 bif Nat.beq f 123 then some Tryz.f123 else
 bif Nat.beq f 124 then some Tryz.f124 else
 bif Nat.beq f 125 then some Tryz.f125 else
 bif Nat.beq f 126 then some Tryz.f126 else
 bif Nat.beq f 127 then some Tryz.f127 else
 bif Nat.beq f 128 then some Tryz.f128 else
 bif Nat.beq f 129 then some Tryz.f129 else
 bif Nat.beq f 130 then some Tryz.f130 else
 bif Nat.beq f 131 then some Tryz.f131 else
 bif Nat.beq f 132 then some Tryz.f132 else
 bif Nat.beq f 133 then some Tryz.f133 else
 bif Nat.beq f 134 then some Tryz.f134 else
 bif Nat.beq f 135 then some Tryz.f135 else
 bif Nat.beq f 136 then some Tryz.f136 else
 bif Nat.beq f 137 then some Tryz.f137 else
 bif Nat.beq f 138 then some Tryz.f138 else
 bif Nat.beq f 139 then some Tryz.f139 else
 bif Nat.beq f 140 then some Tryz.f140 else
 bif Nat.beq f 141 then some Tryz.f141 else
 bif Nat.beq f 142 then some Tryz.f142 else
 bif Nat.beq f 143 then some Tryz.f143 else
 bif Nat.beq f 144 then some Tryz.f144 else
 bif Nat.beq f 145 then some Tryz.f145 else
 bif Nat.beq f 146 then some Tryz.f146 else
 bif Nat.beq f 147 then some Tryz.f147 else
 bif Nat.beq f 148 then some Tryz.f148 else
 bif Nat.beq f 149 then some Tryz.f149 else
 bif Nat.beq f 150 then some Tryz.f150 else
 bif Nat.beq f 151 then some Tryz.f151 else
 bif Nat.beq f 152 then some Tryz.f152 else
 bif Nat.beq f 153 then some Tryz.f153 else
 bif Nat.beq f 154 then some Tryz.f154 else
 bif Nat.beq f 155 then some Tryz.f155 else
 bif Nat.beq f 156 then some Tryz.f156 else
 bif Nat.beq f 157 then some Tryz.f157 else
 bif Nat.beq f 158 then some Tryz.f158 else
 bif Nat.beq f 159 then some Tryz.f159 else
 bif Nat.beq f 160 then some Tryz.f160 else
 bif Nat.beq f 161 then some Tryz.f161 else
 bif Nat.beq f 162 then some Tryz.f162 else
 bif Nat.beq f 163 then some Tryz.f163 else
 bif Nat.beq f 164 then some Tryz.f164 else
 bif Nat.beq f 165 then some Tryz.f165 else
 bif Nat.beq f 166 then some Tryz.f166 else
 bif Nat.beq f 167 then some Tryz.f167 else
 bif Nat.beq f 168 then some Tryz.f168 else
 bif Nat.beq f 169 then some Tryz.f169 else
 bif Nat.beq f 170 then some Tryz.f170 else
 bif Nat.beq f 171 then some Tryz.f171 else
 bif Nat.beq f 172 then some Tryz.f172 else
 bif Nat.beq f 173 then some Tryz.f173 else
 bif Nat.beq f 174 then some Tryz.f174 else
 bif Nat.beq f 175 then some Tryz.f175 else
 bif Nat.beq f 176 then some Tryz.f176 else
 bif Nat.beq f 177 then some Tryz.f177 else
 bif Nat.beq f 178 then some Tryz.f178 else
 bif Nat.beq f 179 then some Tryz.f179 else
 none
theorem Nu: ∀f fn,Ix f=some fn->Tryz.prog.funcs[f]? =some fn:=by
 intro f fn h;unfold Ix at h;rcases aj h Tryz.func120 with h|h
 .exact h
 rcases aj h Tryz.func121 with h|h
 .exact h
 rcases aj h Tryz.func122 with h|h
 .exact h
 rcases aj h Tryz.func123 with h|h
 .exact h
 rcases aj h Tryz.func124 with h|h
 .exact h
 rcases aj h Tryz.func125 with h|h
 .exact h
 rcases aj h Tryz.func126 with h|h
 .exact h
 rcases aj h Tryz.func127 with h|h
 .exact h
 rcases aj h Tryz.func128 with h|h
 .exact h
 rcases aj h Tryz.func129 with h|h
 .exact h
 rcases aj h Tryz.func130 with h|h
 .exact h
 rcases aj h Tryz.func131 with h|h
 .exact h
 rcases aj h Tryz.func132 with h|h
 .exact h
 rcases aj h Tryz.func133 with h|h
 .exact h
 rcases aj h Tryz.func134 with h|h
 .exact h
 rcases aj h Tryz.func135 with h|h
 .exact h
 rcases aj h Tryz.func136 with h|h
 .exact h
 rcases aj h Tryz.func137 with h|h
 .exact h
 rcases aj h Tryz.func138 with h|h
 .exact h
 rcases aj h Tryz.func139 with h|h
 .exact h
 rcases aj h Tryz.func140 with h|h
 .exact h
 rcases aj h Tryz.func141 with h|h
 .exact h
 rcases aj h Tryz.func142 with h|h
 .exact h
 rcases aj h Tryz.func143 with h|h
 .exact h
 rcases aj h Tryz.func144 with h|h
 .exact h
 rcases aj h Tryz.func145 with h|h
 .exact h
 rcases aj h Tryz.func146 with h|h
 .exact h
 rcases aj h Tryz.func147 with h|h
 .exact h
 rcases aj h Tryz.func148 with h|h
 .exact h
 rcases aj h Tryz.func149 with h|h
 .exact h
 rcases aj h Tryz.func150 with h|h
 .exact h
 rcases aj h Tryz.func151 with h|h
 .exact h
 rcases aj h Tryz.func152 with h|h
 .exact h
 rcases aj h Tryz.func153 with h|h
 .exact h
 rcases aj h Tryz.func154 with h|h
 .exact h
 rcases aj h Tryz.func155 with h|h
 .exact h
 rcases aj h Tryz.func156 with h|h
 .exact h
 rcases aj h Tryz.func157 with h|h
 .exact h
 rcases aj h Tryz.func158 with h|h
 .exact h
 rcases aj h Tryz.func159 with h|h
 .exact h
 rcases aj h Tryz.func160 with h|h
 .exact h
 rcases aj h Tryz.func161 with h|h
 .exact h
 rcases aj h Tryz.func162 with h|h
 .exact h
 rcases aj h Tryz.func163 with h|h
 .exact h
 rcases aj h Tryz.func164 with h|h
 .exact h
 rcases aj h Tryz.func165 with h|h
 .exact h
 rcases aj h Tryz.func166 with h|h
 .exact h
 rcases aj h Tryz.func167 with h|h
 .exact h
 rcases aj h Tryz.func168 with h|h
 .exact h
 rcases aj h Tryz.func169 with h|h
 .exact h
 rcases aj h Tryz.func170 with h|h
 .exact h
 rcases aj h Tryz.func171 with h|h
 .exact h
 rcases aj h Tryz.func172 with h|h
 .exact h
 rcases aj h Tryz.func173 with h|h
 .exact h
 rcases aj h Tryz.func174 with h|h
 .exact h
 rcases aj h Tryz.func175 with h|h
 .exact h
 rcases aj h Tryz.func176 with h|h
 .exact h
 rcases aj h Tryz.func177 with h|h
 .exact h
 rcases aj h Tryz.func178 with h|h
 .exact h
 rcases aj h Tryz.func179 with h|h
 .exact h
 cases h
noncomputable def Iy (f:Nat):Option Func:=
 bif Nat.beq f 180 then some Tryz.f180 else
 bif Nat.beq f 181 then some Tryz.f181 else
 bif Nat.beq f 182 then some Tryz.f182 else
 bif Nat.beq f 183 then some Tryz.f183 else
 bif Nat.beq f 184 then some Tryz.f184 else
 bif Nat.beq f 185 then some Tryz.f185 else
 bif Nat.beq f 186 then some Tryz.f186 else
 bif Nat.beq f 187 then some Tryz.f187 else
 bif Nat.beq f 188 then some Tryz.f188 else
 bif Nat.beq f 189 then some Tryz.f189 else
 bif Nat.beq f 190 then some Tryz.f190 else
 bif Nat.beq f 191 then some Tryz.f191 else
 bif Nat.beq f 192 then some Tryz.f192 else
 bif Nat.beq f 193 then some Tryz.f193 else
 bif Nat.beq f 194 then some Tryz.f194 else
 bif Nat.beq f 195 then some Tryz.f195 else
 bif Nat.beq f 196 then some Tryz.f196 else
 bif Nat.beq f 197 then some Tryz.f197 else
 bif Nat.beq f 198 then some Tryz.f198 else
 bif Nat.beq f 199 then some Tryz.f199 else
 bif Nat.beq f 200 then some Tryz.f200 else
 bif Nat.beq f 201 then some Tryz.f201 else
 bif Nat.beq f 202 then some Tryz.f202 else
 bif Nat.beq f 203 then some Tryz.f203 else
 bif Nat.beq f 204 then some Tryz.f204 else
 bif Nat.beq f 205 then some Tryz.f205 else
 bif Nat.beq f 206 then some Tryz.f206 else
 bif Nat.beq f 207 then some Tryz.f207 else
 bif Nat.beq f 208 then some Tryz.f208 else
 bif Nat.beq f 209 then some Tryz.f209 else
 bif Nat.beq f 210 then some Tryz.f210 else
 bif Nat.beq f 211 then some Tryz.f211 else
 bif Nat.beq f 212 then some Tryz.f212 else
 bif Nat.beq f 213 then some Tryz.f213 else
 bif Nat.beq f 214 then some Tryz.f214 else
 bif Nat.beq f 215 then some Tryz.f215 else
 bif Nat.beq f 216 then some Tryz.f216 else
 bif Nat.beq f 217 then some Tryz.f217 else
 bif Nat.beq f 218 then some Tryz.f218 else
 bif Nat.beq f 219 then some Tryz.f219 else
 bif Nat.beq f 220 then some Tryz.f220 else
 bif Nat.beq f 221 then some Tryz.f221 else
 bif Nat.beq f 222 then some Tryz.f222 else
 bif Nat.beq f 223 then some Tryz.f223 else
 bif Nat.beq f 224 then some Tryz.f224 else
 bif Nat.beq f 225 then some Tryz.f225 else
 bif Nat.beq f 226 then some Tryz.f226 else
 bif Nat.beq f 227 then some Tryz.f227 else
 bif Nat.beq f 228 then some Tryz.f228 else
 bif Nat.beq f 229 then some Tryz.f229 else
 bif Nat.beq f 230 then some Tryz.f230 else
 bif Nat.beq f 231 then some Tryz.f231 else
 bif Nat.beq f 232 then some Tryz.f232 else
 bif Nat.beq f 233 then some Tryz.f233 else
 bif Nat.beq f 234 then some Tryz.f234 else
 bif Nat.beq f 235 then some Tryz.f235 else
 bif Nat.beq f 236 then some Tryz.f236 else
 bif Nat.beq f 237 then some Tryz.f237 else
 bif Nat.beq f 238 then some Tryz.f238 else
 bif Nat.beq f 239 then some Tryz.f239 else
 none
theorem Nv: ∀f fn,Iy f=some fn->Tryz.prog.funcs[f]? =some fn:=by
 intro f fn h;unfold Iy at h;rcases aj h Tryz.func180 with h|h
 .exact h
 rcases aj h Tryz.func181 with h|h
 .exact h
 rcases aj h Tryz.func182 with h|h
 .exact h
 rcases aj h Tryz.func183 with h|h
 .exact h
 rcases aj h Tryz.func184 with h|h
 .exact h
 rcases aj h Tryz.func185 with h|h
 .exact h
 rcases aj h Tryz.func186 with h|h
 .exact h
 rcases aj h Tryz.func187 with h|h
 .exact h
 rcases aj h Tryz.func188 with h|h
 .exact h
 rcases aj h Tryz.func189 with h|h
 .exact h
 rcases aj h Tryz.func190 with h|h
 .exact h
 rcases aj h Tryz.func191 with h|h
 .exact h
 rcases aj h Tryz.func192 with h|h
 .exact h
 rcases aj h Tryz.func193 with h|h
 .exact h
 rcases aj h Tryz.func194 with h|h
 .exact h
 rcases aj h Tryz.func195 with h|h
 .exact h
 rcases aj h Tryz.func196 with h|h
 .exact h
 rcases aj h Tryz.func197 with h|h
 .exact h
 rcases aj h Tryz.func198 with h|h
 .exact h
 rcases aj h Tryz.func199 with h|h
 .exact h
 rcases aj h Tryz.func200 with h|h
 .exact h
 rcases aj h Tryz.func201 with h|h
 .exact h
 rcases aj h Tryz.func202 with h|h
 .exact h
 rcases aj h Tryz.func203 with h|h
 .exact h
 rcases aj h Tryz.func204 with h|h
 .exact h
 rcases aj h Tryz.func205 with h|h
 .exact h
 rcases aj h Tryz.func206 with h|h
 .exact h
 rcases aj h Tryz.func207 with h|h
 .exact h
 rcases aj h Tryz.func208 with h|h
 .exact h
 rcases aj h Tryz.func209 with h|h
 .exact h
 rcases aj h Tryz.func210 with h|h
 .exact h
 rcases aj h Tryz.func211 with h|h
 .exact h
 rcases aj h Tryz.func212 with h|h
 .exact h
 rcases aj h Tryz.func213 with h|h
 .exact h
 rcases aj h Tryz.func214 with h|h
 .exact h
 rcases aj h Tryz.func215 with h|h
 .exact h
 rcases aj h Tryz.func216 with h|h
 .exact h
 rcases aj h Tryz.func217 with h|h
 .exact h
 rcases aj h Tryz.func218 with h|h
 .exact h
 rcases aj h Tryz.func219 with h|h
 .exact h
 rcases aj h Tryz.func220 with h|h
 .exact h
 rcases aj h Tryz.func221 with h|h
 .exact h
 rcases aj h Tryz.func222 with h|h
 .exact h
 rcases aj h Tryz.func223 with h|h
 .exact h
 rcases aj h Tryz.func224 with h|h
 .exact h
 rcases aj h Tryz.func225 with h|h
 .exact h
 rcases aj h Tryz.func226 with h|h
 .exact h
 rcases aj h Tryz.func227 with h|h
 .exact h
 rcases aj h Tryz.func228 with h|h
 .exact h
 rcases aj h Tryz.func229 with h|h
 .exact h
 rcases aj h Tryz.func230 with h|h
 .exact h
 rcases aj h Tryz.func231 with h|h
 .exact h
 rcases aj h Tryz.func232 with h|h
 .exact h
 rcases aj h Tryz.func233 with h|h
 .exact h
 rcases aj h Tryz.func234 with h|h
 .exact h
 rcases aj h Tryz.func235 with h|h
 .exact h
 rcases aj h Tryz.func236 with h|h
 .exact h
 rcases aj h Tryz.func237 with h|h
 .exact h
 rcases aj h Tryz.func238 with h|h
 .exact h
 rcases aj h Tryz.func239 with h|h
 .exact h
 cases h
noncomputable def Iz (f:Nat):Option Func:=
 bif Nat.beq f 240 then some Tryz.f240 else
 bif Nat.beq f 241 then some Tryz.f241 else
 bif Nat.beq f 242 then some Tryz.f242 else
 bif Nat.beq f 243 then some Tryz.f243 else
 bif Nat.beq f 244 then some Tryz.f244 else
 bif Nat.beq f 245 then some Tryz.f245 else
 bif Nat.beq f 246 then some Tryz.f246 else
 bif Nat.beq f 247 then some Tryz.f247 else
 bif Nat.beq f 248 then some Tryz.f248 else
 bif Nat.beq f 249 then some Tryz.f249 else
 bif Nat.beq f 250 then some Tryz.f250 else
 bif Nat.beq f 251 then some Tryz.f251 else
 bif Nat.beq f 252 then some Tryz.f252 else
 bif Nat.beq f 253 then some Tryz.f253 else
 bif Nat.beq f 254 then some Tryz.f254 else
 bif Nat.beq f 255 then some Tryz.f255 else
 bif Nat.beq f 256 then some Tryz.f256 else
 bif Nat.beq f 257 then some Tryz.f257 else
 bif Nat.beq f 258 then some Tryz.f258 else
 bif Nat.beq f 259 then some Tryz.f259 else
 bif Nat.beq f 260 then some Tryz.f260 else
 bif Nat.beq f 261 then some Tryz.f261 else
 bif Nat.beq f 262 then some Tryz.f262 else
 bif Nat.beq f 263 then some Tryz.f263 else
 bif Nat.beq f 264 then some Tryz.f264 else
 bif Nat.beq f 265 then some Tryz.f265 else
 bif Nat.beq f 266 then some Tryz.f266 else
 bif Nat.beq f 267 then some Tryz.f267 else
 bif Nat.beq f 268 then some Tryz.f268 else
 bif Nat.beq f 269 then some Tryz.f269 else
 bif Nat.beq f 270 then some Tryz.f270 else
 bif Nat.beq f 271 then some Tryz.f271 else
 bif Nat.beq f 272 then some Tryz.f272 else
 bif Nat.beq f 273 then some Tryz.f273 else
 bif Nat.beq f 274 then some Tryz.f274 else
 bif Nat.beq f 275 then some Tryz.f275 else
 bif Nat.beq f 276 then some Tryz.f276 else
 bif Nat.beq f 277 then some Tryz.f277 else
 bif Nat.beq f 278 then some Tryz.f278 else
 bif Nat.beq f 279 then some Tryz.f279 else
 bif Nat.beq f 280 then some Tryz.f280 else
 bif Nat.beq f 281 then some Tryz.f281 else
 bif Nat.beq f 282 then some Tryz.f282 else
 bif Nat.beq f 283 then some Tryz.f283 else
 bif Nat.beq f 284 then some Tryz.f284 else
 bif Nat.beq f 285 then some Tryz.f285 else
 bif Nat.beq f 286 then some Tryz.f286 else
 bif Nat.beq f 287 then some Tryz.f287 else
 bif Nat.beq f 288 then some Tryz.f288 else
 bif Nat.beq f 289 then some Tryz.f289 else
 bif Nat.beq f 290 then some Tryz.f290 else
 bif Nat.beq f 291 then some Tryz.f291 else
 bif Nat.beq f 292 then some Tryz.f292 else
 bif Nat.beq f 293 then some Tryz.f293 else
 bif Nat.beq f 294 then some Tryz.f294 else
 bif Nat.beq f 295 then some Tryz.f295 else
 bif Nat.beq f 296 then some Tryz.f296 else
 bif Nat.beq f 297 then some Tryz.f297 else
 bif Nat.beq f 298 then some Tryz.f298 else
 bif Nat.beq f 299 then some Tryz.f299 else
 none
theorem Nw: ∀f fn,Iz f=some fn->Tryz.prog.funcs[f]? =some fn:=by
 intro f fn h;unfold Iz at h;rcases aj h Tryz.func240 with h|h
 .exact h
 rcases aj h Tryz.func241 with h|h
 .exact h
 rcases aj h Tryz.func242 with h|h
 .exact h
 rcases aj h Tryz.func243 with h|h
 .exact h
 rcases aj h Tryz.func244 with h|h
 .exact h
 rcases aj h Tryz.func245 with h|h
 .exact h
 rcases aj h Tryz.func246 with h|h
 .exact h
 rcases aj h Tryz.func247 with h|h
 .exact h
 rcases aj h Tryz.func248 with h|h
 .exact h
 rcases aj h Tryz.func249 with h|h
 .exact h
 rcases aj h Tryz.func250 with h|h
 .exact h
 rcases aj h Tryz.func251 with h|h
 .exact h
 rcases aj h Tryz.func252 with h|h
 .exact h
 rcases aj h Tryz.func253 with h|h
 .exact h
 rcases aj h Tryz.func254 with h|h
 .exact h
 rcases aj h Tryz.func255 with h|h
 .exact h
 rcases aj h Tryz.func256 with h|h
 .exact h
 rcases aj h Tryz.func257 with h|h
 .exact h
 rcases aj h Tryz.func258 with h|h
 .exact h
 rcases aj h Tryz.func259 with h|h
 .exact h
 rcases aj h Tryz.func260 with h|h
 .exact h
 rcases aj h Tryz.func261 with h|h
 .exact h
 rcases aj h Tryz.func262 with h|h
 .exact h
 rcases aj h Tryz.func263 with h|h
 .exact h
 rcases aj h Tryz.func264 with h|h
 .exact h
 rcases aj h Tryz.func265 with h|h
 .exact h
 rcases aj h Tryz.func266 with h|h
 .exact h
 rcases aj h Tryz.func267 with h|h
 .exact h
 rcases aj h Tryz.func268 with h|h
 .exact h
 rcases aj h Tryz.func269 with h|h
 .exact h
 rcases aj h Tryz.func270 with h|h
 .exact h
 rcases aj h Tryz.func271 with h|h
 .exact h
 rcases aj h Tryz.func272 with h|h
 .exact h
 rcases aj h Tryz.func273 with h|h
 .exact h
 rcases aj h Tryz.func274 with h|h
 .exact h
 rcases aj h Tryz.func275 with h|h
 .exact h
 rcases aj h Tryz.func276 with h|h
 .exact h
 rcases aj h Tryz.func277 with h|h
 .exact h
 rcases aj h Tryz.func278 with h|h
 .exact h
 rcases aj h Tryz.func279 with h|h
 .exact h
 rcases aj h Tryz.func280 with h|h
 .exact h
 rcases aj h Tryz.func281 with h|h
 .exact h
 rcases aj h Tryz.func282 with h|h
 .exact h
 rcases aj h Tryz.func283 with h|h
 .exact h
 rcases aj h Tryz.func284 with h|h
 .exact h
 rcases aj h Tryz.func285 with h|h
 .exact h
 rcases aj h Tryz.func286 with h|h
 .exact h
 rcases aj h Tryz.func287 with h|h
 .exact h
 rcases aj h Tryz.func288 with h|h
 .exact h
 rcases aj h Tryz.func289 with h|h
 .exact h
 rcases aj h Tryz.func290 with h|h
 .exact h
 rcases aj h Tryz.func291 with h|h
 .exact h
 rcases aj h Tryz.func292 with h|h
 .exact h
 rcases aj h Tryz.func293 with h|h
 .exact h
 rcases aj h Tryz.func294 with h|h
 .exact h
 rcases aj h Tryz.func295 with h|h
 .exact h
 rcases aj h Tryz.func296 with h|h
 .exact h
 rcases aj h Tryz.func297 with h|h
 .exact h
 rcases aj h Tryz.func298 with h|h
 .exact h
 rcases aj h Tryz.func299 with h|h
 .exact h
 cases h
noncomputable def IA (f:Nat):Option Func:=
 bif Nat.beq f 300 then some Tryz.f300 else
 bif Nat.beq f 301 then some Tryz.f301 else
 bif Nat.beq f 302 then some Tryz.f302 else
 none
theorem Nx: ∀f fn,IA f=some fn->Tryz.prog.funcs[f]? =some fn:=by
 intro f fn h;unfold IA at h;rcases aj h Tryz.func300 with h|h
 .exact h
 rcases aj h Tryz.func301 with h|h
 .exact h
 rcases aj h Tryz.func302 with h|h
 .exact h
 cases h
noncomputable def funcAt (f:Nat):Option Func:=
 bif Nat.ble f 59 then Iv f else
 bif Nat.ble f 119 then Iw f else
 bif Nat.ble f 179 then Ix f else
 bif Nat.ble f 239 then Iy f else
 bif Nat.ble f 299 then Iz f else
 IA f
theorem QS: ∀f fn,funcAt f=some fn->Tryz.prog.funcs[f]? =some fn:=by
 intro f fn h;unfold funcAt at h;cases b0:Nat.ble f 59 with
 |true=>rw[b0] at h;exact Ns f fn h
 |false=>
 rw[b0] at h;dsimp only[cond_false] at h;cases b1:Nat.ble f 119 with
 |true=>rw[b1] at h;exact Nt f fn h
 |false=>
 rw[b1] at h;dsimp only[cond_false] at h;cases b2:Nat.ble f 179 with
 |true=>rw[b2] at h;exact Nu f fn h
 |false=>
 rw[b2] at h;dsimp only[cond_false] at h;cases b3:Nat.ble f 239 with
 |true=>rw[b3] at h;exact Nv f fn h
 |false=>
 rw[b3] at h;dsimp only[cond_false] at h;cases b4:Nat.ble f 299 with
 |true=>rw[b4] at h;exact Nw f fn h
 |false=>
 rw[b4] at h;dsimp only[cond_false] at h;exact Nx f fn h
end Go.Proofs.YtdhnndleffachaaGreatDoor
