/- Parts of the proof. -/
import Derived.Test.YtdhnndleffachaaGreatDoorP00
import Derived.Test.YtdhnndleffachaaGreatDoorP02
import Derived.KernelRfl
set_option linter.all false
namespace Go.AI
variable {args cs:List Value} {b f id k l n n0 off:Nat} {c:ak} {d:Option Nat} {e:Env} {fv v:Value} {h h' h₁ h₂:ae} {o:bl} {op:jk} {r:Value×ae}
def Tb (ih Hf:ak->Env->ae->R):Prop:= ∀c e h r,ih c e h=some r->Hf c e h=some r
section
variable {F:Nat->Option bZ} {ih Hf:ak->Env->ae->R}
theorem Ki (H:Tb ih Hf) {o:Bool} (hc:oo F ih o f args h=some r):oo F Hf o f args h=some r:=by
 unfold oo at hc ⊢;cases hf:F f with
 |none=>rw[hf] at hc;cases hc
 |some fn=>
  rw[hf] at hc;dsimp only at hc ⊢;cases hp:fn.Bv with
  |Oy=>rw[hp] at hc;exact hc
  |run p k=>rw[hp] at hc;exact hc
  |no=>
   rw[hp] at hc;dsimp only at hc ⊢;cases hb:ih fn.body (params .nil 0 args) h with
   |none=>rw[hb] at hc;cases hc
   |some x=>rw[hb] at hc;rw[H _ _ _ _ hb];exact hc
theorem Ug (H:Tb ih Hf) (hc:si F ih f args h=some r):si F Hf f args h=some r:=Ki H hc
theorem So (H:Tb ih Hf) {code:ak} (hc:zg ih l code e h=some r):zg Hf l code e h=some r:=by
 unfold zg at hc ⊢;split at hc
 .rename_i env ps asg body hg;cases hb:ih code e (fG h l env ps asg body .busy) with
  |none=>rw[hb] at hc;cases hc
  |some x=>rw[hb] at hc;rw[H _ _ _ _ hb];exact hc
 .cases hc
theorem Sp (H:Tb ih Hf) (hc:vj ih l args h=some r):vj Hf l args h=some r:=by
 unfold vj at hc ⊢;split at hc
 .rename_i env ps asg body hg;cases hs:gV env ps args with
  |none=>rw[hs] at hc;cases hc
  |some e=>
   rw[hs] at hc;dsimp only at hc ⊢;cases hb:ih asg e h with
   |none=>rw[hb] at hc;cases hc
   |some x=>
    obtain⟨x,e1,h1⟩:=x;rw[hb] at hc;rw[H _ _ _ _ hb];cases x with
    |normal=>exact So H hc
    |exit id=>cases hc
    |ret=>cases hc
 .cases hc
theorem Uh (H:Tb ih Hf) (hc:cD F ih fv args h=some r):cD F Hf fv args h=some r:=by
 unfold cD at hc ⊢;split at hc
 .exact Ki H hc
 .exact Sp H hc
 .cases hc
theorem Ax (H:Tb ih Hf) {r:Env×ae} (hc:cK F ih o e h=some r):cK F Hf o e h=some r:=by
 unfold cK at hc ⊢;cases hw:wanted e o.guard with
 |false=>rw[hw] at hc;exact hc
 |true=>
  rw[hw] at hc;simp only[cond_true] at hc ⊢;split at hc
  .rename_i f args vN;cases hb:cD F ih (ev e f) (tM e args) h with
   |none=>rw[hb] at hc;cases hc
   |some x=>rw[hb] at hc;rw[Uh H hb];exact hc
  .exact hc
theorem Jg (H:Tb ih Hf): ∀ {l:List bl} {e:Env} {h:ae} {r:Env×ae},x4 F ih l e h=some r->x4 F Hf l e h=some r
 |[],_,_,_,hc=>hc
 |o::l,e,h,r,hc=>by
  unfold x4 at hc ⊢;cases hb:cK F ih o e h with
  |none=>rw[hb] at hc;cases hc
  |some x=>rw[hb] at hc;rw[Ax H hb];exact Jg H hc
theorem DQ (H:Tb ih Hf) {k:Nat} : ∀ {l:List (bl×List Nat)} {e:Env} {h:ae} {r:Env×ae},mQ F ih k l e h=some r->mQ F Hf k l e h=some r
 |[],_,_,_,hc=>hc
 |(o,lL)::l,e,h,r,hc=>by
  unfold mQ at hc ⊢;cases hb:cK F ih o e h with
  |none=>rw[hb] at hc;cases hc
  |some x=>
   obtain⟨e1,h1⟩:=x;rw[hb] at hc;rw[Ax H hb];dsimp only at hc ⊢;cases hs:still e1 h1 k lL with
   |false=>rw[hs] at hc;cases hc
   |true=>rw[hs] at hc;exact DQ H hc
theorem Xm (H:Tb ih Hf):Tb (ct F ih) (ct F Hf):=by
 intro c e h r hc;cases c with
 |skip=>exact hc
 |ret=>exact hc
 |bad=>exact hc
 |exit id=>exact hc
 |ops l=>
  unfold ct at hc ⊢;cases hb:x4 F ih l e h with
  |none=>simp only[hb] at hc;cases hc
  |some x=>simp only[hb] at hc;simp only[Jg H hb];exact hc
 |draw l=>
  unfold ct at hc ⊢;cases hb:mQ F ih h.clock l e { h with clock:=h.clock+1 } with
  |none=>simp only[hb] at hc;cases hc
  |some x=>simp only[hb] at hc;simp only[DQ H hb];exact hc
 |seq a b=>
  unfold ct at hc ⊢;cases hb:ih a e h with
  |none=>simp only[hb] at hc;cases hc
  |some x=>
   obtain⟨x,e1,h1⟩:=x;simp only[hb] at hc;simp only[H _ _ _ _ hb];cases x with
   |normal=>exact H _ _ _ _ hc
   |exit id=>exact hc
   |ret=>exact hc
 |cond cc a b=>
  unfold ct at hc ⊢;dsimp only at hc ⊢;split at hc
  .first|exact H _ _ _ _ hc|(rename_i hv;rw[hv];exact H _ _ _ _ hc)
  .first|exact H _ _ _ _ hc|(rename_i hv;rw[hv];exact H _ _ _ _ hc)
  .cases hc
 |block id c=>
  unfold ct at hc ⊢;cases hb:ih c e h with
  |none=>simp only[hb] at hc;cases hc
  |some x=>simp only[hb] at hc;simp only[H _ _ _ _ hb];exact hc
 |loop c=>
  unfold ct at hc ⊢;cases hb:ih c e h with
  |none=>simp only[hb] at hc;cases hc
  |some x=>
   obtain⟨x,e1,h1⟩:=x;simp only[hb] at hc;simp only[H _ _ _ _ hb];cases x with
   |normal=>exact H _ _ _ _ hc
   |exit id=>exact hc
   |ret=>exact hc
 |Qk f ps asg body=>
  unfold ct at hc ⊢;dsimp only at hc ⊢;split at hc
  .rename_i g first caps hv
   cases hb:si F ih g (first.toList++[Value.func (.yield h.next) #[] #[]]++caps.toList) (h.new (.loop e ps asg body .ready)) with
   |none=>rw[hb] at hc;cases hc
   |some x=>rw[hb] at hc;rw[Ug H hb];exact hc
  .cases hc
theorem dF (n:Nat):run F (n+1)=ct F (run F n):=rfl
theorem Ql: ∀n,Tb (run F n) (run F (n+1))
 |0=>fun _ _ _ _ h=>by cases h
 |n+1=>Xm (Ql n)
theorem tL {n m:Nat} (h:n<=m):Tb (run F n) (run F m):=by
 induction h with
 |refl=>exact fun _ _ _ _ h=>h
 |step _ ih=>exact fun c e h r hr=>Ql _ c e h r (ih c e h r hr)
end
section
variable (F:Nat->Option bZ)
def aB (c:ak) (e:Env) (h:ae) (Q:aP->Env->ae->Prop):Prop:= ∃n x e' h',run F n c e h=some (x,e',h')/\Q x e' h'
def aE (l:List bl) (e:Env) (h:ae) (Q:Env->ae->Prop):Prop:= ∃n e' h',x4 F (run F n) l e h=some (e',h')/\Q e' h'
def aQ (k:Nat) (l:List (bl×List Nat)) (e:Env) (h:ae) (Q:Env->ae->Prop):Prop:= ∃n e' h',mQ F (run F n) k l e h=some (e',h')/\Q e' h'
def aF (f:Nat) (args:List Value) (h:ae) (Q:Value->ae->Prop):Prop:= ∃n v h',si F (run F n) f args h=some (v,h')/\Q v h'
def cP (fv:Value) (args:List Value) (h:ae) (Q:Value->ae->Prop):Prop:= ∃n v h',cD F (run F n) fv args h=some (v,h')/\Q v h'
end
def Gs (F:Nat->Option bZ) (b:ak) (Q:aP->Env->ae->Prop):aP->Env->ae->Prop
 | .normal=>fun e h=>aB F b e h Q
 | .exit id=>Q (.exit id)
 | .ret=>Q .ret
@[simp] theorem abf (F b Q e h):Gs F b Q .normal e h=aB F b e h Q:=rfl
@[simp] theorem ae0 (F b Q id e h):Gs F b Q (.exit id) e h=Q (.exit id) e h:=rfl
@[simp] theorem aiH (F b Q e h):Gs F b Q .ret e h=Q .ret e h:=rfl
def Dq (I:Env->ae->Prop) (Q:aP->Env->ae->Prop):aP->Env->ae->Prop
 | .normal=>I
 | .exit id=>Q (.exit id)
 | .ret=>Q .ret
@[simp] theorem ZW (I Q e h):Dq I Q .normal e h=I e h:=rfl
@[simp] theorem ad3 (I Q id e h):Dq I Q (.exit id) e h=Q (.exit id) e h:=rfl
@[simp] theorem aeY (I Q e h):Dq I Q .ret e h=Q .ret e h:=rfl
def FD (id:Nat) (Q:aP->Env->ae->Prop):aP->Env->ae->Prop
 | .normal=>Q .normal
 | .exit i=>bif Nat.beq i id then Q .normal else Q (.exit i)
 | .ret=>Q .ret
@[simp] theorem Ox (id Q e h):FD id Q .normal e h=Q .normal e h:=rfl
@[simp] theorem X_ (id Q e h):FD id Q (.exit id) e h=Q .normal e h:=by simp[FD]
theorem ES (id Q i e h):FD id Q (.exit i) e h=(bif Nat.beq i id then Q .normal else Q (.exit i)) e h:=rfl
theorem qW (id Q i e h) (hn: ¬i=id):FD id Q (.exit i) e h=Q (.exit i) e h:=by
 have hb:Nat.beq i id=false:=by
  cases hb:Nat.beq i id with
  |true=>exact absurd (nO hb) hn
  |false=>rfl
 rw[ES,hb];rfl
@[simp] theorem aj2 (id Q e h):FD id Q .ret e h=Q .ret e h:=rfl
section
variable {F:Nat->Option bZ} {Q:aP->Env->ae->Prop} {e:Env} {h:ae}
theorem aB.mono {Q':aP->Env->ae->Prop} (H:aB F c e h Q) (hQ: ∀x e h,Q x e h->Q' x e h):aB F c e h Q':=by obtain⟨n,x,e',h',hr,hq⟩:=H;exact⟨n,x,e',h',hr,hQ _ _ _ hq⟩
theorem aF.mono {R R':Value->ae->Prop} (H:aF F f args h R) (hQ: ∀v h,R v h->R' v h):aF F f args h R':=by obtain⟨n,v,h',hr,hq⟩:=H;exact⟨n,v,h',hr,hQ _ _ hq⟩
theorem cP.mono {R R':Value->ae->Prop} (H:cP F fv args h R) (hQ: ∀v h,R v h->R' v h):cP F fv args h R':=by obtain⟨n,v,h',hr,hq⟩:=H;exact⟨n,v,h',hr,hQ _ _ hq⟩
theorem Sy:aB F .skip e h Q↔Q .normal e h:=by
 constructor
 .rintro⟨n,x,e',h',hr,hq⟩;cases n with
  |zero=>cases hr
  |succ n=>cases hr;exact hq
 .intro hq;exact⟨1,.normal,e,h,rfl,hq⟩
theorem WX:aB F .ret e h Q↔Q .ret e h:=by
 constructor
 .rintro⟨n,x,e',h',hr,hq⟩;cases n with
  |zero=>cases hr
  |succ n=>cases hr;exact hq
 .intro hq;exact⟨1,.ret,e,h,rfl,hq⟩
theorem Sx :aB F (.exit id) e h Q↔Q (.exit id) e h:=by
 constructor
 .rintro⟨n,x,e',h',hr,hq⟩;cases n with
  |zero=>cases hr
  |succ n=>cases hr;exact hq
 .intro hq;exact⟨1,.exit id,e,h,rfl,hq⟩
theorem WY {a b:ak} :aB F (.seq a b) e h Q↔aB F a e h (Gs F b Q):=by
 constructor
 .rintro⟨n,x,e',h',hr,hq⟩;cases n with
  |zero=>cases hr
  |succ n=>
   rw[dF] at hr;unfold ct at hr;dsimp only at hr;cases hb:run F n a e h with
   |none=>simp only[hb] at hr;cases hr
   |some y=>
    obtain⟨y,e1,h1⟩:=y;simp only[hb] at hr;refine⟨n,y,e1,h1,hb,?_⟩;cases y with
    |normal=>exact⟨n,x,e',h',hr,hq⟩
    |exit id=>cases hr;exact hq
    |ret=>cases hr;exact hq
 .rintro⟨n,x,e',h',hr,hq⟩;cases x with
  |normal=>
   obtain⟨m,y,e2,h2,hm,hq⟩:=hq;refine⟨max n m+1,y,e2,h2,?_,hq⟩;rw[dF];unfold ct;dsimp only;simp only[tL (Nat.le_max_left n m) _ _ _ _ hr];exact tL (Nat.le_max_right n m) _ _ _ _ hm
  |exit id=>
   refine⟨n+1,_,_,_,?_,hq⟩;rw[dF];unfold ct;dsimp only;simp only[hr]
  |ret=>
   refine⟨n+1,_,_,_,?_,hq⟩;rw[dF];unfold ct;dsimp only;simp only[hr]
theorem xE {c:Operand} {a b:ak} {t:Bool} (hc:ev e c= .bool t):aB F (.cond c a b) e h Q↔aB F (bif t then a else b) e h Q:=by
 constructor
 .rintro⟨n,x,e',h',hr,hq⟩;cases n with
  |zero=>cases hr
  |succ n=>
   rw[dF] at hr;unfold ct at hr;dsimp only at hr;rw[hc] at hr;cases t<;>exact⟨n,x,e',h',hr,hq⟩
 .rintro⟨n,x,e',h',hr,hq⟩;refine⟨n+1,x,e',h',?_,hq⟩;rw[dF];unfold ct;dsimp only;rw[hc];cases t<;>exact hr
theorem OL :aB F (.block id c) e h Q↔aB F c e h (FD id Q):=by
 constructor
 .rintro⟨n,x,e',h',hr,hq⟩;cases n with
  |zero=>cases hr
  |succ n=>
   rw[dF] at hr;unfold ct at hr;dsimp only at hr;cases hb:run F n c e h with
   |none=>simp only[hb] at hr;cases hr
   |some y=>
    obtain⟨y,e1,h1⟩:=y;simp only[hb] at hr;refine⟨n,y,e1,h1,hb,?_⟩;cases y with
    |normal=>cases hr;exact hq
    |ret=>cases hr;exact hq
    |exit i=>
     rw[ES];dsimp only at hr;cases hi:Nat.beq i id<;>rw[hi] at hr<;>cases hr<;>exact hq
 .rintro⟨n,x,e',h',hr,hq⟩;cases x with
  |normal=>
   refine⟨n+1,_,_,_,?_,hq⟩;rw[dF];unfold ct;dsimp only;simp only[hr]
  |ret=>
   refine⟨n+1,_,_,_,?_,hq⟩;rw[dF];unfold ct;dsimp only;simp only[hr]
  |exit i=>
   rw[ES] at hq;cases hi:Nat.beq i id with
   |true=>
    rw[hi] at hq;refine⟨n+1,.normal,e',h',?_,hq⟩;rw[dF];unfold ct;dsimp only;simp only[hr,hi,cond_true]
   |false=>
    rw[hi] at hq;refine⟨n+1,.exit i,e',h',?_,hq⟩;rw[dF];unfold ct;dsimp only;simp only[hr,hi,cond_false]
theorem nJ :aB F (.loop c) e h Q↔aB F c e h (Gs F (.loop c) Q):=by
 constructor
 .rintro⟨n,x,e',h',hr,hq⟩;cases n with
  |zero=>cases hr
  |succ n=>
   rw[dF] at hr;unfold ct at hr;dsimp only at hr;cases hb:run F n c e h with
   |none=>simp only[hb] at hr;cases hr
   |some y=>
    obtain⟨y,e1,h1⟩:=y;simp only[hb] at hr;refine⟨n,y,e1,h1,hb,?_⟩;cases y with
    |normal=>exact⟨n,x,e',h',hr,hq⟩
    |exit id=>cases hr;exact hq
    |ret=>cases hr;exact hq
 .rintro⟨n,x,e',h',hr,hq⟩;cases x with
  |normal=>
   obtain⟨m,y,e2,h2,hm,hq⟩:=hq;refine⟨max n m+1,y,e2,h2,?_,hq⟩;rw[dF];unfold ct;dsimp only;simp only[tL (Nat.le_max_left n m) _ _ _ _ hr];exact tL (Nat.le_max_right n m) _ _ _ _ hm
  |exit id=>
   refine⟨n+1,_,_,_,?_,hq⟩;rw[dF];unfold ct;dsimp only;simp only[hr]
  |ret=>
   refine⟨n+1,_,_,_,?_,hq⟩;rw[dF];unfold ct;dsimp only;simp only[hr]
theorem aB.loop {c:ak} (I:Nat->Env->ae->Prop) (hI: ∀n e h,I n e h->aB F c e h (Dq (fun e h=> ∃m,m<n/\I m e h) Q)) {n:Nat} (h0:I n e h):aB F (.loop c) e h Q:=by
 induction n using Nat.strongRecOn generalizing e h with
 |ind n ih=>
  rw[nJ];refine(hI n e h h0).mono fun x e h hq=> ?_;cases x with
  |normal=>obtain⟨m,hm,hi⟩:=hq;exact ih m hm hi
  |exit id=>exact hq
  |ret=>exact hq
theorem WW {l:List bl} :aB F (.ops l) e h Q↔aE F l e h (Q .normal):=by
 constructor
 .rintro⟨n,x,e',h',hr,hq⟩;cases n with
  |zero=>cases hr
  |succ n=>
   rw[dF] at hr;unfold ct at hr;dsimp only at hr;cases hb:x4 F (run F n) l e h with
   |none=>simp only[hb] at hr;cases hr
   |some y=>simp only[hb] at hr;cases hr;exact⟨n,_,_,hb,hq⟩
 .rintro⟨n,e',h',hr,hq⟩;refine⟨n+1,.normal,e',h',?_,hq⟩;rw[dF];unfold ct;dsimp only;simp only[hr]
def tick (h:ae):ae:= { h with clock:=h.clock+1 }
theorem Sw {l:List (bl×List Nat)} :aB F (.draw l) e h Q↔aQ F h.clock l e (tick h) (Q .normal):=by
 constructor
 .rintro⟨n,x,e',h',hr,hq⟩;cases n with
  |zero=>cases hr
  |succ n=>
   rw[dF] at hr;unfold ct at hr;dsimp only at hr;cases hb:mQ F (run F n) h.clock l e { h with clock:=h.clock+1 } with
   |none=>simp only[hb] at hr;cases hr
   |some y=>simp only[hb] at hr;cases hr;exact⟨n,_,_,hb,hq⟩
 .rintro⟨n,e',h',hr,hq⟩;refine⟨n+1,.normal,e',h',?_,hq⟩;rw[dF];unfold ct;dsimp only;rw[show({ h with clock:=h.clock+1 } :ae)=tick h from rfl];simp only[hr]
theorem Wq {R:Env->ae->Prop} :aE F [] e h R↔R e h:=by
 constructor
 .rintro⟨n,e',h',hr,hq⟩;cases hr;exact hq
 .intro hq;exact⟨0,e,h,rfl,hq⟩
theorem QN {R:Env->ae->Prop} :aQ F k [] e h R↔R e h:=by
 constructor
 .rintro⟨n,e',h',hr,hq⟩;cases hr;exact hq
 .intro hq;exact⟨0,e,h,rfl,hq⟩
def zw (F:Nat->Option bZ) (o:bl) (e:Env) (h:ae) (R:Env->ae->Prop):Prop:= ∃n e' h',cK F (run F n) o e h=some (e',h')/\R e' h'
theorem qo {l:List bl} {R:Env->ae->Prop} :aE F (o::l) e h R↔zw F o e h (fun e h=>aE F l e h R):=by
 constructor
 .rintro⟨n,e',h',hr,hq⟩;unfold x4 at hr;cases hb:cK F (run F n) o e h with
  |none=>rw[hb] at hr;cases hr
  |some y=>rw[hb] at hr;exact⟨n,_,_,hb,n,_,_,hr,hq⟩
 .rintro⟨n,e1,h1,hb,m,e',h',hr,hq⟩;refine⟨max n m,e',h',?_,hq⟩;unfold x4;rw[Ax (tL (Nat.le_max_left n m)) hb];exact Jg (tL (Nat.le_max_right n m)) hr
theorem nf {lL:List Nat} {l:List (bl×List Nat)} {R:Env->ae->Prop} :aQ F k ((o,lL)::l) e h R↔zw F o e h (fun e h=>still e h k lL=true/\aQ F k l e h R):=by
 constructor
 .rintro⟨n,e',h',hr,hq⟩;unfold mQ at hr;cases hb:cK F (run F n) o e h with
  |none=>rw[hb] at hr;cases hr
  |some y=>
   rw[hb] at hr;dsimp only at hr;cases hs:still y.1 y.2 k lL with
   |false=>rw[hs] at hr;cases hr
   |true=>rw[hs] at hr;exact⟨n,_,_,hb,hs,n,_,_,hr,hq⟩
 .rintro⟨n,e1,h1,hb,hs,m,e',h',hr,hq⟩;refine⟨max n m,e',h',?_,hq⟩;unfold mQ;rw[Ax (tL (Nat.le_max_left n m)) hb];dsimp only;rw[hs];exact DQ (tL (Nat.le_max_right n m)) hr
def calls:jk->Bool
 | .call _ _=>true
 |_=>false
theorem LC {R:Env->ae->Prop} (hn:calls op=false):zw F ⟨d,none,op⟩ e h R↔ ∃v h1,bm e h op=some (v,h1)/\R (eX e d v) h1:=by
 have key: ∀n,cK F (run F n) ⟨d,none,op⟩ e h=(match bm e h op with|some (v,h')=>some (eX e d v,h')|none=>none):=by
  intro n;unfold cK;simp only[wanted,cond_true];split
  .cases hn
  .rfl
 constructor
 .rintro⟨n,e',h',hr,hq⟩;rw[key] at hr;cases ho:bm e h op with
  |none=>rw[ho] at hr;cases hr
  |some y=>rw[ho] at hr;cases hr;exact⟨_,_,rfl,hq⟩
 .rintro⟨v,h1,ho,hq⟩;exact⟨0,_,_,by rw[key,ho],hq⟩
theorem vh {t:Nat} {b c:Bool} {R:Env->ae->Prop} (hg:Env.get e t= .bool c):zw F ⟨d,some (t,b),op⟩ e h R↔(bif c==b then zw F ⟨d,none,op⟩ e h R else R (eX e d (.tuple #[])) h):=by
 have hw:wanted e (some (t,b))=(c==b):=by simp[wanted,hg]
 cases MA:(c==b) with
 |true=>
  have key: ∀n,cK F (run F n) ⟨d,some (t,b),op⟩ e h=cK F (run F n) ⟨d,none,op⟩ e h:=by intro n;unfold cK;dsimp only;rw[hw,MA];rfl
  simp only[zw,key,cond_true]
 |false=>
  have key: ∀n,cK F (run F n) ⟨d,some (t,b),op⟩ e h=some (eX e d (.tuple #[]),h):=by intro n;unfold cK;dsimp only;rw[hw,MA];rfl
  simp only[zw,key,cond_false];constructor
  .rintro⟨n,e',h',hr,hq⟩;cases hr;exact hq
  .intro hq;exact⟨0,_,_,rfl,hq⟩
theorem EL {f:Operand} {args:List Operand} {R:Env->ae->Prop} :zw F ⟨d,none,.call f args⟩ e h R↔cP F (ev e f) (tM e args) h (fun v h=>R (eX e d v) h):=by
 have key: ∀n,cK F (run F n) ⟨d,none,.call f args⟩ e h=(match cD F (run F n) (ev e f) (tM e args) h with|some (v,h')=>some (eX e d v,h')|none=>none):=by intro n;rfl
 constructor
 .rintro⟨n,e',h',hr,hq⟩;rw[key] at hr;cases ho:cD F (run F n) (ev e f) (tM e args) h with
  |none=>rw[ho] at hr;cases hr
  |some y=>rw[ho] at hr;cases hr;exact⟨n,_,_,ho,hq⟩
 .rintro⟨n,v,h1,ho,hq⟩;exact⟨n,_,_,by rw[key,ho],hq⟩
theorem cP.func {f:Nat} {first caps:Array Value} {args:List Value} {R:Value->ae->Prop} (H:aF F f (first.toList++args++caps.toList) h R):cP F (.func (.func f) first caps) args h R:=by obtain⟨n,v,h',hr,hq⟩:=H;exact⟨n,v,h',wv hr,hq⟩
theorem cP.Oy {f:Nat} {fn:bZ} {first caps:Array Value} {args:List Value} {R:Value->ae->Prop} (hf:F f=some fn) (hp:fn.Bv= .Oy) {v:Value} {h':ae}
  (hv:R5 (first.toList++args++caps.toList) h=some (v,h')) (H:R v h'):cP F (.func (.func f) first caps) args h R:=
 ⟨0,v,h',(by simp only[AI.cD,oo,hf,hp,cond_true];exact hv),H⟩
def x6 (rs:List Dk) (R:Value->ae->Prop):aP->Env->ae->Prop
 | .normal,e,h=> ∃vs,results e h rs=some vs/\iH vs=true/\R (result vs) h
 | .ret,e,h=> ∃vs,results e h rs=some vs/\iH vs=true/\R (result vs) h
 | .exit _,_,_=>False
@[simp] theorem Kz {rs R} :x6 rs R .normal e h↔ ∃vs,results e h rs=some vs/\iH vs=true/\R (result vs) h:=Iff.rfl
@[simp] theorem Uz {rs R} :x6 rs R .ret e h↔ ∃vs,results e h rs=some vs/\iH vs=true/\R (result vs) h:=Iff.rfl
@[simp] theorem aem {rs R id} :x6 rs R (.exit id) e h↔False:=Iff.rfl
theorem aF.ofP {fn:bZ} {R:Value->ae->Prop} (hf:F f=some fn) (hp:fn.Bv= .no) (H:aB F fn.body (params .nil 0 args) h (x6 fn.res R)):aF F f args h R:=by
 obtain⟨n,x,e',h',hr,hq⟩:=H;cases x with
 |exit id=>exact hq.elim
 |normal=>
  obtain⟨vs,hv,ho,hq⟩:=hq;refine⟨n,_,h',?_,hq⟩;unfold si oo;rw[hf];dsimp only;rw[hp];dsimp only;rw[hr];dsimp only;rw[hv];dsimp only;rw[ho];rfl
 |ret=>
  obtain⟨vs,hv,ho,hq⟩:=hq;refine⟨n,_,h',?_,hq⟩;unfold si oo;rw[hf];dsimp only;rw[hp];dsimp only;rw[hr];dsimp only;rw[hv];dsimp only;rw[ho];rfl
theorem aF.of {rs:List Dk} {body:ak} {R:Value->ae->Prop} (hf:F f=some ⟨rs,body,.no⟩) (H:aB F body (params .nil 0 args) h (x6 rs R)):aF F f args h R:=
 aF.ofP hf rfl H
end
structure bu (h:ae):Prop where
 wf: ∀b o,h.tr.get b=some o->b<h.next
 st: ∀b cs ro o s,h.tr.get b=some (.aA cs ro o s)->s<=h.clock
structure ab (S:Nat->Prop) (h h':ae):Prop where
 next:h.next<=h'.next
 clock:h.clock<=h'.clock
 same: ∀b,b<h.next-> ¬S b->h'.tr.get b=h.tr.get b
 ok:bu h'
def aG:Nat->Prop:=fun _=>False
theorem ab.refl {S:Nat->Prop} (ok:bu h):ab S h h:=⟨dK _,dK _,fun _ _ _=>rfl,ok⟩
theorem ab.trans' {S S₁ S₂:Nat->Prop} (a:ab S₁ h h₁) (b:ab S₂ h₁ h₂) (h1: ∀b,b<h.next->S₁ b->S b) (h2: ∀b,b<h.next->S₂ b->S b):ab S h h₂:=
 ⟨ug a.next b.next,ug a.clock b.clock,fun x hx hn=>by rw[b.same x (IF hx a.next) (fun hs=>hn (h2 x hx hs)),a.same x hx (fun hs=>hn (h1 x hx hs))],b.ok⟩
theorem ab.trans {S:Nat->Prop} (a:ab S h h₁) (b:ab S h₁ h₂):ab S h h₂:=a.trans' b (fun _ _ h=>h) (fun _ _ h=>h)
theorem ab.bJ {S S':Nat->Prop} (a:ab S h h₁) (hs: ∀b,b<h.next->S b->S' b):ab S' h h₁:=
 ⟨a.next,a.clock,fun b hb hn=>a.same b hb (fun h=>hn (hs b hb h)),a.ok⟩
theorem ab.bt {S:Nat->Prop} (a:ab aG h h₁):ab S h h₁:=a.bJ fun _ _ h=>h.elim
theorem ab.get {S:Nat->Prop} {h h':ae} (g:ab S h h') (ok:bu h) {b:Nat} {o:o9} (hb:h.tr.get b=some o) (hs: ¬S b):h'.tr.get b=some o:=by rw[g.same b (ok.wf b o hb) hs,hb]
theorem aW (ok:bu h):ab aG h (tick h):=
 ⟨dK _,Nat.le_succ _,fun _ _ _=>rfl,⟨ok.wf,fun b cs ro o s hb=>Nat.le_succ_of_le (ok.st b cs ro o s hb)⟩⟩
theorem aO (ok:bu h) (cs:List Value) (o:Nat):ab aG h (aL h cs o):=by
 refine⟨Nat.le_succ _,dK _,fun b hb _=> ?_,⟨fun b ob hb=> ?_,fun b Il ro o' s hb=> ?_⟩⟩
 .simp only[aL,ae.new,Tr.aN];rw[aT (by omega)]
 .simp only[aL,ae.new,Tr.aN] at hb ⊢;by_cases e:b=h.next
  .omega
  .rw[aT e] at hb;exact Nat.lt_succ_of_lt (ok.wf b ob hb)
 .simp only[aL,ae.new,Tr.aN] at hb ⊢;by_cases e:b=h.next
  .rw[aU e] at hb;cases hb;exact Nat.zero_le _
  .rw[aT e] at hb;exact ok.st b Il ro o' s hb
@[simp] theorem cx (h:ae) (cs:List Value) (o:Nat):(aL h cs o).tr.get h.next=some (.aA cs false o 0):=by simp[aL,ae.new,Tr.aN]
@[simp] theorem aa7 (h:ae) (cs:List Value) (o:Nat):(aL h cs o).next=h.next+1:=rfl
@[simp] theorem Ic (h:ae) (cs:List Value) (o:Nat):(aL h cs o).clock=h.clock:=rfl
@[simp] theorem aeP (h:ae):(tick h).next=h.next:=rfl
@[simp] theorem akd (h:ae):(tick h).tr=h.tr:=rfl
theorem cy {ro:Bool} {o s:Nat} (hb:h.tr.get b=some (.aA cs ro o s)) (hl:off+n<=cs.length):
  bc h b off n=some ((cs.drop off).take n):=by
 unfold bc;rw[hb];have:((cs.drop off).take n).length=n:=by simp;omega
 simp[this]
theorem ay (h:ae) (b off n:Nat):bc (tick h) b off n=bc h b off n:=rfl
def put (h:ae) (b off:Nat) (cs vs:List Value) (o:Nat):ae:= { h with clock:=h.clock+1,tr:=h.tr.set b (.aA (aJ cs off vs) false o h.clock) }
@[simp] theorem aD (h:ae) (b off:Nat) (cs vs:List Value) (o:Nat):(put h b off cs vs o).tr.get b=some (.aA (aJ cs off vs) false o h.clock):=by simp[put,Tr.aN]
theorem aM (ok:bu h) {cs vs:List Value} {o s:Nat} (hb:h.tr.get b=some (.aA cs false o s)):ab (· =b) h (put h b off cs vs o):=by
 refine⟨dK _,Nat.le_succ _,fun x hx hn=> ?_,⟨fun x ob hx=> ?_,fun x Il ro o' s' hx=> ?_⟩⟩
 .simp only[put,Tr.aN];rw[aT hn]
 .simp only[put,Tr.aN] at hx ⊢;by_cases e:x=b
  .subst e;exact ok.wf _ _ hb
  .rw[aT e] at hx;exact ok.wf x ob hx
 .simp only[put,Tr.aN] at hx ⊢;by_cases e:x=b
  .rw[aU e] at hx;cases hx;exact Nat.le_succ _
  .rw[aT e] at hx;exact Nat.le_succ_of_le (ok.st x Il ro o' s' hx)
theorem ou (ok:bu h) (b:Nat):ab (· =b) h { h with tr:=h.tr.del b } :=by
 refine⟨dK _,dK _,fun x hx hn=> ?_,⟨fun x ob hx=> ?_,fun x Il ro o' s' hx=> ?_⟩⟩
 .simp only[Tr.mj];rw[aT hn]
 .simp only[Tr.mj] at hx ⊢;by_cases e:x=b
  .rw[aU e] at hx;cases hx
  .rw[aT e] at hx;exact ok.wf x ob hx
 .simp only[Tr.mj] at hx ⊢;by_cases e:x=b
  .rw[aU e] at hx;cases hx
  .rw[aT e] at hx;exact ok.st x Il ro o' s' hx
structure Enc (α:Type) where
 enc:α->List Value
 sz:Nat
 len: ∀x,(enc x).length=sz
 pos:0<sz
 plain: ∀x,(enc x).all plain=true
namespace Enc
variable {α:Type} (E:Enc α)
def flat (xs:List α):List Value:=xs.flatMap E.enc
@[simp] theorem UE:E.flat []=[]:=rfl
@[simp] theorem eM (x:α) (xs:List α):E.flat (x::xs)=E.enc x++E.flat xs:=by simp[flat]
@[simp] theorem dO (xs ys:List α):E.flat (xs++ys)=E.flat xs++E.flat ys:=by simp[flat]
@[simp] theorem bC (xs:List α):(E.flat xs).length=xs.length*E.sz:=by
 induction xs with
 |nil=>simp
 |cons x xs ih=>simp[E.len,ih,rU,Nat.add_comm]
theorem lv (xs:List α) (i:Nat):(E.flat xs).drop (i*E.sz)=E.flat (xs.drop i):=by
 induction xs generalizing i with
 |nil=>simp
 |cons x xs ih=>
  cases i with
  |zero=>simp
  |succ i=>
   rw[eM,List.drop_succ_cons,<-ih i,List.drop_append,E.len,show(i+1)*E.sz-E.sz=i*E.sz by rw[rU];omega];have:(E.enc x).drop ((i+1)*E.sz)=[]:=by apply XC;rw[E.len,rU];omega
   rw[this,List.nil_append]
theorem gZ (xs:List α) (i:Nat):(E.flat xs).take (i*E.sz)=E.flat (xs.take i):=by
 induction xs generalizing i with
 |nil=>simp
 |cons x xs ih=>
  cases i with
  |zero=>simp
  |succ i=>
   rw[eM,List.take_succ_cons,eM,<-ih i,List.take_append,E.len,show(i+1)*E.sz-E.sz=i*E.sz by rw[rU];omega];have:(E.enc x).take ((i+1)*E.sz)=E.enc x:=by apply XD;rw[E.len,rU];omega
   rw[this]
theorem lZ (xs:List α) (i:Nat) (x:α) (h:xs[i]? =some x):((E.flat xs).drop (i*E.sz)).take E.sz=E.enc x:=by rw[lv];have hl:=(bY.mp h).1;rw[List.drop_eq_getElem_cons hl,eM,List.take_append,E.len,Nat.sub_self,List.take_zero,List.append_nil,(bY.mp h).2];exact XD (by rw[E.len];exact dK _)
theorem nq (xs:List α) (i off n:Nat) (x:α) (h:xs[i]? =some x) (hn:off+n<=E.sz):((E.flat xs).drop (i*E.sz+off)).take n=((E.enc x).drop off).take n:=by rw[<-lZ E xs i x h,<-List.drop_drop,List.drop_take,List.take_take,Nat.min_eq_left (by omega)]
theorem fu (xs:List α) (i:Nat) (x:α) (h:i<xs.length):aJ (E.flat xs) (i*E.sz) (E.enc x)=E.flat (xs.set i x):=by unfold aJ;rw[gZ,E.len,show i*E.sz+E.sz=(i+1)*E.sz by rw[rU];omega,lv,List.set_eq_take_append_cons_drop,aU h,dO,eM,xU]
end Enc
def bk {α:Type} (E:Enc α) (h:ae) (v:Value) (xs:List α):Prop:=
 ∃a cap,v= .slice a xs.length cap/\((xs=[]/\(a=none\/ ∃b off,a=some ⟨b,off,none⟩))\/ ∃b off cs ro o s,a=some ⟨b,off,none⟩/\h.tr.get b=some (.aA cs ro o s)/\off+xs.length*E.sz<=cs.length/\(cs.drop off).take (xs.length*E.sz)=E.flat xs)
def ax (v:Value) (b:Nat):Prop:= ∃off n cap,v= .slice (some ⟨b,off,none⟩) n cap
theorem bk.grow {α:Type} {E:Enc α} {S:Nat->Prop} {xs:List α} (s:bk E h v xs) (ok:bu h) (g:ab S h h') (hs: ∀b,ax v b-> ¬S b):bk E h' v xs:=by
 obtain⟨a,cap,rfl,s⟩:=s;refine⟨a,cap,rfl,?_⟩;rcases s with s|⟨b,off,cs,ro,o,st,rfl,hb,hl,hc⟩
 .exact .inl s
 .exact .inr ⟨b,off,cs,ro,o,st,rfl,g.get ok hb (hs b ⟨_,_,_,rfl⟩),hl,hc⟩
theorem bk.bt {α:Type} {E:Enc α} {xs:List α} (s:bk E h v xs) (ok:bu h) (g:ab aG h h'):bk E h' v xs:=s.grow ok g fun _ _ h=>h
theorem bk.nil {α:Type} (E:Enc α) (h:ae) (cap:Nat):bk E h (.slice none 0 cap) []:=⟨none,cap,rfl,.inl ⟨rfl,.inl rfl⟩⟩
theorem bk.read {α:Type} {E:Enc α} {xs:List α} (s:bk E h v xs) {i:Nat} {x:α} (hi:xs[i]? =some x):
  ∃b off cap,v= .slice (some ⟨b,off,none⟩) xs.length cap/\i<xs.length/\(∃cs ro o s,h.tr.get b=some (.aA cs ro o s))/\ ∀o n,o+n<=E.sz->bc h b (off+i*E.sz+o) n=some (((E.enc x).drop o).take n):=by
 obtain⟨a,cap,rfl,s⟩:=s;have hl:=(bY.mp hi).1;rcases s with s|⟨b,off,cs,ro,o,st,rfl,hb,cn,hc⟩
 .rw[s.1] at hl;simp at hl
 .refine⟨b,off,cap,rfl,hl,⟨_,_,_,_,hb⟩,fun o' n hn=> ?_⟩;have h1:(i+1)*E.sz<=xs.length*E.sz:=CI _ hl;rw[rU] at h1;rw[cy hb (by omega)];congr 1;rw[<-E.nq xs i o' n x hi hn,<-hc,List.drop_take,List.take_take,List.drop_drop,Nat.min_eq_left (by omega),BU]
def cI {α:Type} (E:Enc α) (n0:Nat) (h:ae) (v:Value) (xs:List α):Prop:=
 (xs=[]/\v= .slice none 0 0)\/ ∃b s,v= .slice (some ⟨b,0,none⟩) xs.length xs.length/\h.tr.get b=some (.aA (E.flat xs) false E.sz s)/\xs≠[]/\n0<=b
theorem cI.sl {α:Type} {E:Enc α} {xs:List α} (a:cI E n0 h v xs):bk E h v xs:=by
 rcases a with⟨rfl,rfl⟩|⟨b,s,rfl,hb,_,_⟩
 .exact .nil E h _
 .exact⟨_,_,rfl,.inr ⟨b,0,_,_,_,_,rfl,hb,by simp,by simp[XD]⟩⟩
theorem cI.grow {α:Type} {E:Enc α} {S:Nat->Prop} {xs:List α} (a:cI E n0 h v xs) (ok:bu h) (g:ab S h h') (hs: ∀b,ax v b-> ¬S b):cI E n0 h' v xs:=by
 rcases a with a|⟨b,s,rfl,hb,hx,hn⟩
 .exact .inl a
 .exact .inr ⟨b,s,rfl,g.get ok hb (hs b ⟨_,_,_,rfl⟩),hx,hn⟩
theorem cI.of {α:Type} {E:Enc α} {xs:List α} (a:cI E n0 h v xs) (o:ax v b):n0<=b:=by
 obtain⟨off,n,cap,rfl⟩:=o;rcases a with⟨_,h⟩|⟨b',s,h,_,_,hn⟩
 .cases h
 .cases h;exact hn
theorem Jc {α:Type} {E:Enc α} {ys:List α} {z:List Value} (hz:z.length=E.sz) (s:bk E h v ys):news h z false v=some (ys.length,E.flat ys):=by
 obtain⟨a,cap,rfl,s⟩:=s;rcases s with⟨rfl,rfl|⟨b,off,rfl⟩⟩|⟨b,off,cs,ro,o,st,rfl,hb,cn,hc⟩
 .simp[news]
 .simp[news]
 .cases ys with
  |nil=>simp[news]
  |cons y ys=>
   unfold news;dsimp only;rw[show Nat.beq (y::ys).length 0=false from rfl,hz,cy hb cn,hc];rfl
end Go.AI
namespace Go.AI
variable {F:Nat->Option bZ} {args:List Operand} {b bytes f fo fs i id k len o off t:Nat} {c v:Value} {cs vs z:List Value} {fov:bZ} {h h' h1 h₁:ae} {op:jk} {rs:List Dk} {ρ:dY}
section
variable (F:Nat->Option bZ)
def Pl (d:Option Nat) (l:List bl) (e:Env) (R:Env->ae->Prop):Option (Value×ae)->Prop
 |some (v,h)=>aE F l (eX e d v) h R
 |none=>False
def Pk (k:Nat) (lL:List Nat) (d:Option Nat) (l:List (bl×List Nat)) (e:Env) (R:Env->ae->Prop):Option (Value×ae)->Prop
 |some (v,h)=>still (eX e d v) h k lL=true/\aQ F k l (eX e d v) h R
 |none=>False
def TN (R:Value->ae->Prop) (h:ae):Option (List Value)->Prop
 |some vs=>iH vs=true/\R (result vs) h
 |none=>False
def abl (d:Option Nat) (l:List bl) (e:Env) (R:Env->ae->Prop):Value->ae->Prop:=fun v h=>aE F l (eX e d v) h R
def Yh (k:Nat) (lL:List Nat) (d:Option Nat) (l:List (bl×List Nat)) (e:Env) (R:Env->ae->Prop):Value->ae->Prop:=fun v h=>still (eX e d v) h k lL=true/\aQ F k l (eX e d v) h R
end
section
variable {F:Nat->Option bZ} {Q:aP->Env->ae->Prop} {R:Env->ae->Prop} {e:Env} {h:ae} {d:Option Nat} {l:List bl} {k:Nat} {lL:List Nat} {m:List (bl×List Nat)}
@[simp] theorem adw (v:Value) (h:ae):Pl F d l e R (some (v,h))=aE F l (eX e d v) h R:=rfl
@[simp] theorem adu (v:Value) (h:ae):Pk F k lL d m e R (some (v,h))=(still (eX e d v) h k lL=true/\aQ F k m (eX e d v) h R):=rfl
@[simp] theorem adv:Pl F d l e R none=False:=rfl
@[simp] theorem adt:Pk F k lL d m e R none=False:=rfl
@[simp] theorem ael (V:Value->ae->Prop) (vs:List Value):TN V h (some vs)=(iH vs=true/\V (result vs) h):=rfl
@[simp ↓] theorem apv:aB F .skip e h Q↔Q .normal e h:=Sy
@[simp ↓] theorem asi:aB F .ret e h Q↔Q .ret e h:=WX
@[simp ↓] theorem apu :aB F (.exit id) e h Q↔Q (.exit id) e h:=Sx
@[simp ↓] theorem asj {a b:ak} :aB F (.seq a b) e h Q↔aB F a e h (Gs F b Q):=WY
@[simp ↓] theorem aj7 {c:ak} :aB F (.block id c) e h Q↔aB F c e h (FD id Q):=OL
@[simp ↓] theorem ash {l:List bl} :aB F (.ops l) e h Q↔aE F l e h (Q .normal):=WW
@[simp ↓] theorem apt {l:List (bl×List Nat)} :aB F (.draw l) e h Q↔aQ F h.clock l e (tick h) (Q .normal):=Sw
@[simp ↓] theorem apw {c:Operand} {a b:ak} (hc:ev e c= .bool true):aB F (.cond c a b) e h Q↔aB F a e h Q:=xE hc
@[simp ↓] theorem aj9 {c:Operand} {a b:ak} (hc:ev e c= .bool false):aB F (.cond c a b) e h Q↔aB F b e h Q:=xE hc
@[simp ↓] theorem ase:aE F [] e h R↔R e h:=Wq
@[simp ↓] theorem apq:aQ F k [] e h R↔R e h:=QN
@[simp ↓] theorem q_op (hn:calls op=false):aE F (⟨d,none,op⟩::l) e h R↔Pl F d l e R (bm e h op):=by
 rw[qo,LC hn];constructor
 .rintro⟨v,h1,ho,hr⟩;rw[ho];exact hr
 .intro hr;cases ho:bm e h op with
  |none=>rw[ho] at hr;exact hr.elim
  |some x=>rw[ho] at hr;exact⟨_,_,rfl,hr⟩
@[simp ↓] theorem q_do {b:Bool} (hg:Env.get e t= .bool b):aE F (⟨d,some (t,b),op⟩::l) e h R↔aE F (⟨d,none,op⟩::l) e h R:=by rw[qo,vh hg,qo];simp
@[simp ↓] theorem aps {b:Bool} (hg:Env.get e t= .bool (!b)):aE F (⟨d,some (t,b),op⟩::l) e h R↔aE F l (eX e d (.tuple #[])) h R:=by rw[qo,vh hg];cases b<;>rfl
@[simp ↓] theorem asc {b:Bool} (hg:Env.get e t= .bool b):aQ F k ((⟨d,some (t,b),op⟩,lL)::m) e h R↔aQ F k ((⟨d,none,op⟩,lL)::m) e h R:=by rw[nf,vh hg,nf];simp
@[simp ↓] theorem aj8 {b:Bool} (hg:Env.get e t= .bool (!b)):aQ F k ((⟨d,some (t,b),op⟩,lL)::m) e h R↔(still (eX e d (.tuple #[])) h k lL=true/\aQ F k m (eX e d (.tuple #[])) h R):=by rw[nf,vh hg];cases b<;>rfl
@[simp ↓] theorem asd (hn:calls op=false):aQ F k ((⟨d,none,op⟩,lL)::m) e h R↔Pk F k lL d m e R (bm e h op):=by
 rw[nf,LC hn];constructor
 .rintro⟨v,h1,ho,hr⟩;rw[ho];exact hr
 .intro hr;cases ho:bm e h op with
  |none=>rw[ho] at hr;exact hr.elim
  |some x=>rw[ho] at hr;exact⟨_,_,rfl,hr⟩
theorem WN {f:Operand} :aE F (⟨d,none,.call f args⟩::l) e h R↔cP F (ev e f) (tM e args) h (abl F d l e R):=by rw[qo,EL];rfl
theorem Qi {f:Operand} :aQ F k ((⟨d,none,.call f args⟩,lL)::m) e h R↔cP F (ev e f) (tM e args) h (Yh F k lL d m e R):=by rw[nf,EL];rfl
theorem aE.call {f:Nat} {args:List Operand} {V:Value->ae->Prop} (H:aF F f (tM e args) h V) (K: ∀v h',V v h'->aE F l (eX e d v) h' R):aE F (⟨d,none,.call (.func f) args⟩::l) e h R:=by rw[WN];obtain⟨n,v,h',hr,hv⟩:=H;refine⟨n,v,h',?_,K v h' hv⟩;have:=wv hr;simpa [ev,AI.cD] using this
theorem aE.cD {f:Operand} {V:Value->ae->Prop} (H:cP F (ev e f) (tM e args) h V) (K: ∀v h',V v h'->aE F l (eX e d v) h' R):aE F (⟨d,none,.call f args⟩::l) e h R:=by rw[WN];exact H.mono K
@[simp] theorem Yc {V:Value->ae->Prop} :x6 rs V .normal e h↔TN V h (results e h rs):=by rw[Kz];cases results e h rs<;>simp[TN]
@[simp] theorem adY {V:Value->ae->Prop} :x6 rs V .ret e h↔TN V h (results e h rs):=by rw[Uz];cases results e h rs<;>simp[TN]
@[simp] theorem aeV (t:Nat) (v:Value):eX e (some t) v=Tr.set e t v:=rfl
@[simp] theorem aeU (v:Value):eX e none v=e:=rfl
@[simp] theorem alU (t:Nat):ev e (.tmp t)=Env.get e t:=rfl
@[simp] theorem afX (v:Value):ev e (.const v)=v:=rfl
@[simp] theorem aen (g:Nat):ev e (.global g)= .pointer (some ⟨g,0,none⟩):=rfl
@[simp] theorem ai2 (f:Nat):ev e (.func f)= .func (.func f) #[] #[]:=rfl
attribute [simp] Env.aN
@[simp] theorem aay (t:Nat):Env.get .nil t= .tuple #[]:=rfl
@[simp] theorem adM (i:Nat):params e i []=e:=rfl
@[simp] theorem aa9 (i:Nat) (v:Value) (r:List Value):params e i (v::r)=params (Tr.set e i v) (i+1) r:=rfl
@[simp] theorem aiL:tM e []=[]:=rfl
@[simp] theorem ae2 (x:Operand) (xs:List Operand):tM e (x::xs)=ev e x::tM e xs:=rfl
@[simp] theorem aei (op:jk):calls op=(match op with| .call _ _=>true|_=>false):=by cases op<;>rfl
attribute [simp] bm agg width gE bx dI fB Ud unV flat cellsOf plain tA bound results result iH xy simple still
def p8 (h:ae) (z:List Value) (bytes:Nat) (pX:Bool) (s x:Value):Option (Value×ae):=
 match news h z pX x with
 |some (n,cs)=>ie h z bytes s n cs
 |none=>none
@[simp ↓ high] theorem adD (z:List Value) (bytes:Nat) (pX:Bool) (s x:Operand):bm e h (.append z bytes pX s x)=p8 h z bytes pX (ev e s) (ev e x):=rfl
@[simp] theorem abd (cs vs:List Value):aJ cs 0 vs=vs++cs.drop vs.length:=by simp[aJ]
@[simp] theorem abc (c:Value) (cs vs:List Value) (k:Nat):aJ (c::cs) (k+1) vs=c::aJ cs k vs:=by simp[aJ,Nat.add_right_comm k 1]
@[simp] theorem abk (h:ae) (b off:Nat) (vs:List Value):kM h b off vs=match h.tr.get b with
  |some (.aA cs false o _)=>if off+vs.length<=cs.length then some (put h b off cs vs o) else none
  |_=>none:=by
 unfold kM;cases h.tr.get b with
 |none=>rfl
 |some x=>
  cases x with
  |aA cs ro o s=>
   cases ro with
   |true=>rfl
   |false=>
    dsimp only;by_cases hl:off+vs.length<=cs.length<;>simp[hl,put]
  |loop=>rfl
  |map=>rfl
  |itr=>rfl
@[simp] theorem ag (h:ae) (b off n:Nat):bc h b off n=match h.tr.get b with
  |some (.aA cs _ _ _)=>if off+n<=cs.length then some ((cs.drop off).take n) else if n=0 then some [] else none
  |_=>none:=by
 unfold bc;cases h.tr.get b with
 |none=>rfl
 |some x=>
  cases x with
  |aA cs ro o s=>
   dsimp only;have he:((cs.drop off).take n).length=min n (cs.length-off):=by simp
   by_cases hl:off+n<=cs.length
   .have:((cs.drop off).take n).length=n:=by omega
    simp[hl,this]
   .simp only[hl,if_false];by_cases hn:n=0
    .subst hn;simp
    .have: ¬((cs.drop off).take n).length=n:=by omega
     have hb:Nat.beq ((cs.drop off).take n).length n=false:=by
      cases hb:Nat.beq ((cs.drop off).take n).length n with
      |true=>exact absurd (nO hb) this
      |false=>rfl
     simp only[hb,hn,if_false,PG]
  |loop=>rfl
  |map=>rfl
  |itr=>rfl
theorem wG (h:ae) (cs:List Value) (o b:Nat):(aL h cs o).tr.get b=if b=h.next then some (.aA cs false o 0) else h.tr.get b:=by simp[aL,ae.new,Tr.aN]
theorem eV (h:ae) (b off:Nat) (cs vs:List Value) (o j:Nat):(put h b off cs vs o).tr.get j=if j=b then some (.aA (aJ cs off vs) false o h.clock) else h.tr.get j:=by simp[put,Tr.aN]
attribute [simp] wG eV
@[simp] theorem ah9 (h:ae) (b off:Nat) (cs vs:List Value) (o:Nat):(put h b off cs vs o).next=h.next:=rfl
@[simp] theorem aej (h:ae) (b off:Nat) (cs vs:List Value) (o:Nat):(put h b off cs vs o).clock=h.clock+1:=rfl
@[simp] theorem abL (h:ae):(tick h).clock=h.clock+1:=rfl
theorem ab.new {S:Nat->Prop} (g:ab S h h₁) (cs:List Value) (o:Nat):ab S h (aL h₁ cs o):=g.trans (aO g.ok cs o).bt
theorem ab.tick {S:Nat->Prop} {h h₁:ae} (g:ab S h h₁):ab S h (tick h₁):=g.trans (aW g.ok).bt
theorem ab.put {S:Nat->Prop} {h h₁:ae} {b off:Nat} {cs vs:List Value} {o:Nat} (g:ab S h h₁) (hb: ∃s,h₁.tr.get b=some (.aA cs false o s)) (hn:h.next<=b\/S b):ab S h (put h₁ b off cs vs o):=by
 obtain⟨s,hb⟩:=hb;refine g.trans' (aM g.ok hb) (fun _ _ h=>h) fun x hx e=> ?_;rcases hn with hn|hn
 .omega
 .rw[e];exact hn
@[simp] theorem afG (p:Value->Bool):([]:List Value).all p=true:=rfl
end
section
variable {F:Nat->Option bZ} {Q:aP->Env->ae->Prop} {e:Env} {h:ae}
def DR (h:ae) (l:Nat):ae:= { h with tr:=h.tr.del l }
def vT (l:Nat) (e:Env) (Q:aP->Env->ae->Prop) (h:ae):Prop:=
 match h.tr.get l with
 |some (.loop _ _ _ _ .ready)=>Q .normal e (DR h l)
 |some (.loop _ _ _ _ (.done none))=>Q .ret e (DR h l)
 |some (.loop _ _ _ _ (.done (some id)))=>Q (.exit id) e (DR h l)
 |_=>False
theorem aB.Qk {f:Operand} {ps:List Nat} {asg body:ak} {g:Nat} {first caps:Array Value} (hf:ev e f= .func (.func g) first caps)
  (H:aF F g (first.toList++[.func (.yield h.next) #[] #[]]++caps.toList) (h.new (.loop e ps asg body .ready)) (fun _ h'=>vT h.next e Q h')):aB F (.Qk f ps asg body) e h Q:=by
 obtain⟨n,v,h',hr,hq⟩:=H;have dm:run F (n+1) (.Qk f ps asg body) e h=(match h'.tr.get h.next with
    |some (.loop _ _ _ _ .ready)=>some (.normal,e,{ h' with tr:=h'.tr.del h.next })
    |some (.loop _ _ _ _ (.done none))=>some (.ret,e,{ h' with tr:=h'.tr.del h.next })
    |some (.loop _ _ _ _ (.done (some id)))=>some (.exit id,e,{ h' with tr:=h'.tr.del h.next })
    |_=>none):=by
  rw[dF];unfold ct;dsimp only;rw[hf];dsimp only;rw[hr];rfl
 unfold vT at hq;split at hq
 .rename_i hg;rw[hg] at dm;exact⟨n+1,_,_,_,dm,hq⟩
 .rename_i hg;rw[hg] at dm;exact⟨n+1,_,_,_,dm,hq⟩
 .rename_i hg;rw[hg] at dm;exact⟨n+1,_,_,_,dm,hq⟩
 .exact hq.elim
def T1 (l:Nat) (env:Env) (ps:List Nat) (asg body:ak) (R:Value->ae->Prop):aP->Env->ae->Prop
 | .normal,_,h=>(∃a b c d,h.tr.get l=some (.loop a b c d .busy)/\a=env/\b=ps/\c=asg/\d=body)/\R (.bool true) (fG h l env ps asg body .ready)
 | .ret,_,h=>(∃a b c d,h.tr.get l=some (.loop a b c d .busy)/\a=env/\b=ps/\c=asg/\d=body)/\R (.bool false) (fG h l env ps asg body (.done none))
 | .exit id,_,h=>(∃a b c d,h.tr.get l=some (.loop a b c d .busy)/\a=env/\b=ps/\c=asg/\d=body)/\R (.bool false) (fG h l env ps asg body (.done (some id)))
theorem cP.yield {l:Nat} {env:Env} {ps:List Nat} {asg body:ak} {a b:Array Value} {args:List Value} {R:Value->ae->Prop} {e1:Env} (hl:h.tr.get l=some (.loop env ps asg body .ready)) (hs:gV env ps args=some e1)
  (H:aB F asg e1 h (fun x e2 h2=>x= .normal/\h2.tr.get l=some (.loop env ps asg body .ready)/\aB F body e2 (fG h2 l env ps asg body .busy) (T1 l env ps asg body R))):cP F (.func (.yield l) a b) args h R:=by
 obtain⟨n,x,e2,h2,hr,rfl,tT,m,y,e3,h3,hr3,hq⟩:=H;have hra:=tL (Nat.le_max_left n m) _ _ _ _ hr;have X0:=tL (Nat.le_max_right n m) _ _ _ _ hr3;have key:cD F (run F (max n m)) (.func (.yield l) a b) args h=(match(y,e3,h3) with
   |(.normal,_,h)=>nH l h .ready true
   |(.ret,_,h)=>nH l h (.done none) false
   |(.exit id,_,h)=>nH l h (.done (some id)) false:Option (Value×ae)):=by
  clear hq;unfold cD;dsimp only;unfold vj;rw[hl];dsimp only;rw[hs];dsimp only;rw[hra];dsimp only;unfold zg;rw[tT];dsimp only;simp only[X0];cases y<;>rfl
 cases y with
 |normal=>
  obtain⟨⟨_,_,_,_,hg,rfl,rfl,rfl,rfl⟩,hq⟩:=hq;exact⟨max n m,_,_,by rw[key];dsimp only;unfold nH;rw[hg],hq⟩
 |ret=>
  obtain⟨⟨_,_,_,_,hg,rfl,rfl,rfl,rfl⟩,hq⟩:=hq;exact⟨max n m,_,_,by rw[key];dsimp only;unfold nH;rw[hg],hq⟩
 |exit id=>
  obtain⟨⟨_,_,_,_,hg,rfl,rfl,rfl,rfl⟩,hq⟩:=hq;exact⟨max n m,_,_,by rw[key];dsimp only;unfold nH;rw[hg],hq⟩
end
theorem wrap_i64 (n:Int) (h: -9223372036854775808<=n) (h':n<9223372036854775808):IntKind.i64.wrap n=n:=by simp only[IntKind.wrap,IntKind.signed,IntKind.bits];simp;omega
def Old (b:Nat) (h:ae):Prop:=b<h.next
theorem Old.lt (o:Old b h):b<h.next:=o
@[simp] theorem Tz (h:ae) (cs:List Value) (o:Nat):Old h.next (aL h cs o):=Nat.lt_succ_self _
@[simp] theorem RN (h:ae) (cs:List Value) (o:Nat):Old h.next (aL h cs o)=True:=by simp
@[simp] theorem aj1 (b:Nat) (h:ae) (c off:Nat) (cs vs:List Value) (o:Nat):Old b (put h c off cs vs o)↔Old b h:=Iff.rfl
@[simp] theorem aie (b:Nat) (h:ae):Old b (tick h)↔Old b h:=Iff.rfl
@[simp] theorem adC (H:Old b h):Old b (aL h cs o):=Nat.lt_succ_of_lt H
@[simp] theorem aoW (H:Old b h):(b=h.next)=False:=by have:b<h.next:=H;exact propext ⟨fun e=>by omega,False.elim⟩
@[simp] theorem ajZ (H:Old b h):(h.next=b)=False:=by have:b<h.next:=H;exact propext ⟨fun e=>by omega,False.elim⟩
@[simp] theorem aj0 (H:Old b h):(b=h.next+k)=False:=by have:b<h.next:=H;exact propext ⟨fun e=>by omega,False.elim⟩
@[simp] theorem aid (H:Old b h):(h.next+k=b)=False:=by have:b<h.next:=H;exact propext ⟨fun e=>by omega,False.elim⟩
theorem ab.bA {S:Nat->Prop} (g:ab S h h') (H:Old b h):Old b h':=IF H g.next
theorem ab.got (g:ab aG h h') (H:Old b h):h'.tr.get b=h.tr.get b:=g.same b H (fun h=>h)
theorem bu.bA (ok:bu h) {o:o9} (hb:h.tr.get b=some o):Old b h:=ok.wf _ _ hb
theorem ab.var {S:Nat->Prop} (g:ab S h h₁) (zs vs:List Value):ab S h (AI.put (AI.aL h₁ zs 0) h₁.next 0 zs vs 0):=
 (g.new zs 0).put ⟨_,cx _ _ _⟩ (.inl g.next)
theorem D0 (H:Old b h) (cs:List Value) (o:Nat):(aL h cs o).tr.get b=h.tr.get b:=by rw[wG,aT (by intro e;have:=H.lt;omega)]
theorem aI (H:Old b h) (cs:List Value) (o off n:Nat):bc (aL h cs o) b off n=bc h b off n:=by unfold bc;rw[wG,aT (by intro e;have:=H.lt;omega)]
theorem bg {b c:Nat} (H: ¬b=c) (cs vs:List Value) (o off Oq n:Nat):bc (put h c Oq cs vs o) b off n=bc h b off n:=by unfold bc;rw[eV,aT H]
theorem aq {ro:Bool} {o s:Nat} (hb:h.tr.get b=some (.aA cs ro o s)) (off n:Nat):bc h b off n=if off+n<=cs.length then some ((cs.drop off).take n) else if n=0 then some [] else none:=by rw[ag,hb]
theorem av (h:ae) (b Oq:Nat) (cs vs:List Value) (o off n:Nat):bc (put h b Oq cs vs o) b off n=if off+n<=(aJ cs Oq vs).length then some (((aJ cs Oq vs).drop off).take n) else if n=0 then some [] else none:=
 aq (aD h b Oq cs vs o) off n
theorem d_ (h:ae) (cs:List Value) (o off n:Nat):bc (aL h cs o) h.next off n=if off+n<=cs.length then some ((cs.drop off).take n) else if n=0 then some [] else none:=
 aq (cx h cs o) off n
theorem y4 (o:o9) (H:Old b h):(h.new o).tr.get b=h.tr.get b:=by simp only[ae.new,Tr.aN];rw[aT (by intro e;have:=H.lt;omega)]
theorem vT.ready {l:Nat} {e:Env} {Q:aP->Env->ae->Prop} {h:ae} {a:Env} {b:List Nat} {c d:ak} (hl:h.tr.get l=some (.loop a b c d .ready)) (H:Q .normal e (DR h l)):vT l e Q h:=by unfold vT;rw[hl];exact H
section
variable {F:Nat->Option bZ} {Q:aP->Env->ae->Prop} {R:Env->ae->Prop} {e:Env} {h:ae} {l:List bl} {k:Nat} {m:List (bl×List Nat)}
theorem aB.cut {c:ak} (P:ae->Prop) (hp:P h1) (K: ∀h',P h'->aB F c e h' Q):aB F c e h1 Q:=K h1 hp
theorem aE.cut (P:ae->Prop) (hp:P h1) (K: ∀h',P h'->aE F l e h' R):aE F l e h1 R:=K h1 hp
theorem aQ.cut (P:ae->Prop) (hp:P h1) (K: ∀h',P h'->aQ F k m e h' R):aQ F k m e h1 R:=K h1 hp
theorem aQ.call {d:Option Nat} {f:Nat} {args:List Operand} {lL:List Nat} {V:Value->ae->Prop} (H:aF F f (tM e args) h V) (K: ∀v h',V v h'->still (eX e d v) h' k lL=true/\aQ F k m (eX e d v) h' R):aQ F k ((⟨d,none,.call (.func f) args⟩,lL)::m) e h R:=by rw[Qi];obtain⟨n,v,h',hr,hv⟩:=H;refine⟨n,v,h',?_,K v h' hv⟩;have:=wv hr;simpa [ev,AI.cD] using this
theorem aQ.cD {d:Option Nat} {f:Operand} {lL:List Nat} {V:Value->ae->Prop} (H:cP F (ev e f) (tM e args) h V) (K: ∀v h',V v h'->still (eX e d v) h' k lL=true/\aQ F k m (eX e d v) h' R):aQ F k ((⟨d,none,.call f args⟩,lL)::m) e h R:=by rw[Qi];exact H.mono K
end
def sJ (z:List Value) (o bytes fo fs:Nat):ak:=(G_ [o_ 6 (.mv (.const (.slice none 0 0)))] (G_ [m_ 10 0,m_ 11 1,o_ 12 (.slice o (t_ 10) (some (t_ 11)) none none)] (G_ [m_ 13 2,z_ 14 13,m_ 7 14] (J_ (G_ [m_ 15 7,o_ 16 (.bin .eql [1] (t_ 15) (i_ 0))] (I_ 16 (G_ [m_ 17 0,m_ 6 17] .ret) .skip)) (G_ [m_ 18 0,z_ 19 18,m_ 8 19] (J_ (G_ [m_ 20 1,m_ 21 8,o_ 22 (.bin .eql [1] (t_ 20) (t_ 21))] (I_ 22 (G_ [m_ 23 0,m_ 24 2,o_ 25 (.append z bytes false (t_ 23) (t_ 24)),m_ 6 25] .ret) .skip)) (J_ (G_ [m_ 26 8,m_ 27 7,B_ 28 .add 26 27,m_ 29 0,o_ 30 (.MX (t_ 29)),B_ 31 .gtr 28 30] (I_ 31 (G_ [m_ 32 0,m_ 33 1,o_ 34 (.slice o (t_ 32) none (some (t_ 33)) none),m_ 35 8,m_ 36 7,B_ 37 .add 35 36,m_ 38 1,B_ 39 .sub 37 38,o_ 40 (.append z bytes true (t_ 34) (t_ 39)),m_ 9 40] (G_ [m_ 41 9,m_ 42 1,o_ 43 (.slice o (t_ 41) (some (t_ 42)) none none),m_ 44 2,o_ 45 (.copy o (t_ 43) (t_ 44))] (J_ (V_ [D_ (m_ 46 9),D_ (m_ 47 1),D_ (m_ 48 7),D_ (B_ 49 .add 47 48),(o_ 50 (.slice o (t_ 46) (some (t_ 49)) none none),[]),D_ (m_ 51 0),D_ (m_ 52 1),(o_ 53 (.slice o (t_ 51) (some (t_ 52)) none none),[]),(o_ 54 (.copy o (t_ 50) (t_ 53)),[])]) (G_ [m_ 55 9,m_ 6 55] .ret)))) .skip)) (G_ [m_ 56 0,m_ 57 8,m_ 58 7,B_ 59 .add 57 58,o_ 60 (.slice o (t_ 56) none (some (t_ 59)) none),m_ 0 60] (J_ (G_ [m_ 61 2,m_ 62 0,m_ 63 1,m_ 64 7,B_ 65 .add 63 64,o_ 66 (.slice o (t_ 62) (some (t_ 65)) none none),o_ 67 (.call (.func fo) [t_ 61,t_ 66]),o_ 68 (.un .not (t_ 67))] (I_ 68 (J_ (V_ [D_ (m_ 69 0),D_ (m_ 70 1),D_ (m_ 71 7),D_ (B_ 72 .add 70 71),(o_ 73 (.slice o (t_ 69) (some (t_ 72)) none none),[]),D_ (m_ 74 0),D_ (m_ 75 1),(o_ 76 (.slice o (t_ 74) (some (t_ 75)) none none),[]),(o_ 77 (.copy o (t_ 73) (t_ 76)),[])]) (G_ [m_ 78 0,m_ 79 1,o_ 80 (.slice o (t_ 78) (some (t_ 79)) none none),m_ 81 2,o_ 82 (.copy o (t_ 80) (t_ 81))] (G_ [m_ 83 0,m_ 6 83] .ret))) .skip)) (G_ [m_ 84 0,m_ 85 8,o_ 86 (.slice o (t_ 84) (some (t_ 85)) none none),m_ 87 2,o_ 88 (.copy o (t_ 86) (t_ 87))] (G_ [m_ 89 0,m_ 90 1,o_ 91 (.slice o (t_ 89) (some (t_ 90)) none none),m_ 92 7,o_ 93 (.call (.func fs) [t_ 91,t_ 92])] (G_ [m_ 94 0,m_ 6 94] .ret))))))))))))
def aC (cs vs:List Value) (off i len o:Nat):List Value:=(cs.drop off).take (i*o)++vs++(cs.drop (off+i*o)).take ((len-i)*o)
theorem adm (hv:vs.length=o) (hi:i<len) (hl:off+(len+1)*o<=cs.length):
  aJ (aJ cs (off+(i+1)*o) ((cs.drop (off+i*o)).take ((len-i)*o))) (off+i*o) vs=cs.take off++aC cs vs off i len o++cs.drop (off+(len+1)*o):=by
 have e2:(i+1)*o=i*o+o:=by rw[rU];omega
 have e3:(len+1)*o=len*o+o:=by rw[rU];omega
 have e4:i*o+(len-i)*o=len*o:=by rw[<-rU];congr 1;omega
 have hT:((cs.drop (off+i*o)).take ((len-i)*o)).length=(len-i)*o:=by simp;omega
 unfold aJ aC;rw[hT,hv];have a1:(cs.take (off+(i+1)*o)++(cs.drop (off+i*o)).take ((len-i)*o)++cs.drop (off+(i+1)*o+(len-i)*o)).take (off+i*o)=cs.take off++(cs.drop off).take (i*o):=by rw[xU,List.take_append_of_le_length (by simp;omega),List.take_take,Nat.min_eq_left (by omega),List.take_add]
 have a2:(cs.take (off+(i+1)*o)++(cs.drop (off+i*o)).take ((len-i)*o)++cs.drop (off+(i+1)*o+(len-i)*o)).drop (off+i*o+o)=(cs.drop (off+i*o)).take ((len-i)*o)++cs.drop (off+(len+1)*o):=by
  rw[xU,List.drop_append,List.length_take,Nat.min_eq_left (by omega),show off+i*o+o-(off+(i+1)*o)=0 by omega,List.drop_zero,
   XC (by simp;omega),List.nil_append,show off+(i+1)*o+(len-i)*o=off+(len+1)*o by omega]
 rw[a1,a2];simp only[xU]
theorem VL (hf:F f=some ⟨[.tmp 6],sJ z o bytes fo fs,.no⟩) (Vc:F fo=some fov) (AX:fov.Bv= .Oy) (ho:0<o)
  {h:ae} {b off len cap i x xo xc:Nat} {cs vs:List Value} {s xs:Nat} {Qx:List Value} {Qy:Nat} (hi:i<len) (D7:len<cap) (cn:len<1000000) (hb:h.tr.get b=some (.aA cs false 0 s)) (hl:off+cap*o<=cs.length)
  (hx:h.tr.get x=some (.aA Qx false Qy xs)) (uK:bc h x xo o=some vs) (PK:b≠x):
  aF F f [.slice (some ⟨b,off,none⟩) len cap,.int .i64 i,.slice (some ⟨x,xo,none⟩) 1 xc] h (fun v h'=>v= .slice (some ⟨b,off,none⟩) (len+1) cap/\h'.next=h.next/\h.clock<=h'.clock/\
   (∀y,y<h.next->y≠b->h'.tr.get y=h.tr.get y)/\ ∃s',h'.tr.get b=some (.aA (cs.take off++aC cs vs off i len o++cs.drop (off+(len+1)*o)) false 0 s')):=by
 obtain⟨L,hL⟩: ∃L,L=len+1:=⟨_,rfl⟩;obtain⟨I,hI⟩: ∃I,I=i+1:=⟨_,rfl⟩;rw[<-hL];have w1:IntKind.i64.wrap ((len:Int)+1)=(L:Int):=by rw[wrap_i64 _ (by omega) (by omega)];omega
 have w3:IntKind.i64.wrap ((i:Int)+1)=(I:Int):=by rw[wrap_i64 _ (by omega) (by omega)];omega
 have q1:((i:Int)==(len:Int))=false:=by simp;omega
 have q2: ¬cap<L:=by omega
 have q2':L<=cap:=by omega
 have q3:i<=len:=by omega
 have q6:i<=L:=by omega
 have q7:I<=L:=by omega
 have q8:Nat.min 1 (L-i)=1:=by show min 1 (L-i)=1;omega
 have q9:Nat.min (L-i) (L-I)=len-i:=by show min (L-i) (L-I)=len-i;omega
 have Cm: ¬len-i=0:=by omega
 have m1:i*o+(len-i)*o=len*o:=by rw[<-rU];congr 1;omega
 have m2:L*o=len*o+o:=by rw[hL,rU];omega
 have m3:I*o=i*o+o:=by rw[hI,rU];omega
 have m4:L*o<=cap*o:=CI _ q2';have XX:vs.length=o:=by
  unfold bc at uK;rw[hx] at uK;dsimp only at uK;split at uK
  .rename_i hh;cases uK;exact nO hh
  .cases uK
 have HA:bc h b (off+i*o) ((len-i)*o)=some ((cs.drop (off+i*o)).take ((len-i)*o)):=cy hb (by omega);have Az:((cs.drop (off+i*o)).take ((len-i)*o)).length=(len-i)*o:=by simp;omega
 have Gk:min ((len-i)*o) (cs.length-(off+i*o))=(len-i)*o:=by omega
 have q17:off+I*o+(len-i)*o<=cs.length:=by omega
 have q18:(aJ cs (off+I*o) ((cs.drop (off+i*o)).take ((len-i)*o))).length=cs.length:=by simp[aJ];omega
 have q19:off+i*o+o<=cs.length:=by omega
 have q20: ¬x=b:=fun e=>PK e.symm;refine aF.of hf ?_;unfold sJ;simp[w1,w3,q1,q2,q2',q3,q6,q7,q8,q9,Cm,hb];refine aE.cD (V:=fun v h'=>v= .bool false/\h'=h) (cP.Oy Vc AX (v:= .bool false) (h':=h) ?_ ⟨rfl,rfl⟩) ?_
 .have Ge:Nat.beq x b=false:=by
   cases e:Nat.beq x b with
   |true=>exact absurd (nO e) q20
   |false=>rfl
  simp[R5,hx,hb,Ge]
 rintro _ h' ⟨rfl,e⟩;subst e;simp[w1,w3,q1,q2,q2',q3,q6,q7,q8,q9,Cm,hb,HA,ay,bg,uK,XX,Az,Gk,q17,q18,q19,q20,-ag];refine⟨by omega,fun y _ hy=>by simp[hy],?_⟩;rw[hI,hL,adm XX hi (by rw[<-hL];omega)];simp only[xU]
section
variable {P:Program} {CC:cj} {ρ ρ₂:dY} {h h₂:ae} {w w₂:World}
theorem Up (k:KR ρ v c) (hv:bK v=true):bK c=true:=by
 cases k with
 |cell k=>cases k<;>first|exact hv|cases hv
 |fn=>cases hv
 |yield=>cases hv
end
section
variable {P:Program} {T:qd} {ng:Nat} {F:Nat->Option bZ}
theorem MR {a b c:Value} {l:List Value} (h:All2 (VR ρ) [a,b,c] l): ∃x y z,l=[x,y,z]/\VR ρ a x/\VR ρ b y/\VR ρ c z:=by
 cases h with
 |cons h1 h=>cases h with
  |cons h2 h=>cases h with
   |cons h3 h=>cases h with
    |nil=>exact⟨_,_,_,rfl,h1,h2,h3⟩
theorem fw {b o len cap:Nat} (h:VR ρ (.slice (some ⟨b,o,none⟩) len cap) c): ∃r ca ccap,ρ b=some r/\r7 r o len cap ca ccap/\c= .slice (some ca) len ccap:=by
 have:=CR.qn h rfl;cases this with
 |slice h' hs=>exact⟨_,_,_,h',hs,rfl⟩
end
def JK (F:Nat->Option bZ) (fo:Nat) (f:Nat):Option bZ:=bif Nat.beq f fo then some ⟨[],.bad,.Oy⟩ else F f
section
variable {P:Program} {T:qd} {ng:Nat} {F:Nat->Option bZ}
theorem Pf {dr:tV} (hF:Fu P T ng dr F) (ho:Pm P T fo):Fu P T ng dr (JK F fo):=by
 intro f af h;unfold JK at h;cases hb:Nat.beq f fo with
 |true=>
  rw[hb] at h;cases h;rw[nO hb];exact ho
 |false=>rw[hb] at h;exact hF f af h
end
theorem Zk (hf:F f=some ⟨[.tmp 6],sJ z o bytes fo fs,.no⟩) (hz:z.length=o) (ho:0<o) (CM:bytes<=1000)
  {h:ae} {b off len cap x xo xc:Nat} {cs vs:List Value} {s xs:Nat} {Qx:List Value} {Qy:Nat} (D7:len<cap) (cn:len<1000000) (hb:h.tr.get b=some (.aA cs false 0 s)) (hl:off+cap*o<=cs.length)
  (hx:h.tr.get x=some (.aA Qx false Qy xs)) (uK:bc h x xo o=some vs):
  aF F f [.slice (some ⟨b,off,none⟩) len cap,.int .i64 len,.slice (some ⟨x,xo,none⟩) 1 xc] h (fun v h'=>v= .slice (some ⟨b,off,none⟩) (len+1) cap/\h'.next=h.next/\h.clock<=h'.clock/\
   (∀y,y<h.next->y≠b->h'.tr.get y=h.tr.get y)/\ ∃s',h'.tr.get b=some (.aA (aJ cs (off+len*o) vs) false 0 s')):=by
 obtain⟨L,hL⟩: ∃L,L=len+1:=⟨_,rfl⟩;rw[<-hL];have q2:L<=cap:=by omega
 have m2:L*o=len*o+o:=by rw[hL,rU];omega
 have m4:L*o<=cap*o:=CI _ q2;have XX:vs.length=o:=by
  unfold bc at uK;rw[hx] at uK;dsimp only at uK;split at uK
  .rename_i hh;cases uK;exact nO hh
  .cases uK
 have r1:roomy L=true:=by simp[roomy];omega
 have r2:roomy (L*bytes)=true:=by have:L*bytes<=1000000*1000:=Nat.mul_le_mul (by omega) CM;simp[roomy];omega
 have q5:off+len*o+o<=cs.length:=by omega
 refine aF.of hf ?_;unfold sJ;simp[hz,ho,hb,hx,uK,p8,news,ie,<-hL,r1,r2,q2,kM,XX,q5,-ag];exact⟨fun y _ hy=>by simp[Tr.aN,hy],h.clock,by simp[Tr.aN]⟩
theorem Hg (hf:F f=some ⟨[.tmp 6],sJ z o bytes fo fs,.no⟩) (Vc:F fo=some fov) (AX:fov.Bv= .Oy) (hz:z.length=o) (ho:0<o) (CM:bytes<=1000)
  {h:ae} {b off len cap i x xo xc:Nat} {cs vs:List Value} {s xs:Nat} {Qx:List Value} {Qy:Nat} (hi:i<=len) (D7:len<cap) (cn:len<1000000) (hb:h.tr.get b=some (.aA cs false 0 s)) (hl:off+cap*o<=cs.length)
  (hx:h.tr.get x=some (.aA Qx false Qy xs)) (uK:bc h x xo o=some vs) (PK:b≠x):
  aF F f [.slice (some ⟨b,off,none⟩) len cap,.int .i64 i,.slice (some ⟨x,xo,none⟩) 1 xc] h (fun v h'=>v= .slice (some ⟨b,off,none⟩) (len+1) cap/\h'.next=h.next/\h.clock<=h'.clock/\
   (∀y,y<h.next->y≠b->h'.tr.get y=h.tr.get y)/\ ∃s',h'.tr.get b=some (.aA (cs.take off++aC cs vs off i len o++cs.drop (off+(len+1)*o)) false 0 s')):=by
 rcases AV i len with h1|h1
 .exact VL hf Vc AX ho h1 D7 cn hb hl hx uK PK
 .have:i=len:=by omega
  subst this;have m2:(i+1)*o=i*o+o:=by rw[rU];omega
  have m4:(i+1)*o<=cap*o:=CI _ (by omega);have XX:vs.length=o:=by
   unfold bc at uK;rw[hx] at uK;dsimp only at uK;split at uK
   .rename_i hh;cases uK;exact nO hh
   .cases uK
  have e:cs.take off++aC cs vs off i i o++cs.drop (off+(i+1)*o)=aJ cs (off+i*o) vs:=by unfold aC aJ;rw[Nat.sub_self,Nat.zero_mul,List.take_zero,List.append_nil,<-xU,<-List.take_add,XX,m2,BU]
  rw[e];exact Zk hf hz ho CM D7 cn hb hl hx uK
def ZV (o:Nat) (args:List Value) (h:ae):Option (Value×ae):=
 match args with
 |[.slice (some ⟨b,off,none⟩) len cap,.int .i64 (.ofNat i),.slice (some ⟨x,xo,none⟩) m _]=>
  match h.tr.get b,h.tr.get x with
  |some (.aA cs false op _),some (.aA _ false _ _)=>
   if Nat.ble i len&&Nat.blt len cap&&Nat.beq m 1&&(Nat.beq op o||Nat.beq op 0)&&Nat.ble (off+cap*o) cs.length&& !(Nat.beq b x)&&Nat.blt len 1000000 then
    match bc h x xo o with
    |some vs=>some (.slice (some ⟨b,off,none⟩) (len+1) cap,{ put h b off cs (aC cs vs off i len o) op with next:=h.next+8 })
    |none=>none
   else none
  |_,_=>none
 |_=>none
theorem Qj {args:List Value} (hv:ZV o args h=some (v,h')):
  ∃b off len cap i x xo xc cs op s Qx Qy xs vs,args=[.slice (some ⟨b,off,none⟩) len cap,.int .i64 (.ofNat i),.slice (some ⟨x,xo,none⟩) 1 xc]/\h.tr.get b=some (.aA cs false op s)/\h.tr.get x=some (.aA Qx false Qy xs)/\i<=len/\len<cap/\
   (op=o\/op=0)/\off+cap*o<=cs.length/\b≠x/\len<1000000/\bc h x xo o=some vs/\v= .slice (some ⟨b,off,none⟩) (len+1) cap/\h'= { put h b off cs (aC cs vs off i len o) op with next:=h.next+8 } :=by
 unfold ZV at hv;split at hv
 .rename_i b off len cap i x xo m xc;split at hv
  .rename_i cs op s Qx Qy xs hb hx;split at hv
   .rename_i hc;simp only[uf,Bool.not_eq_true',Bool.or_eq_true] at hc;obtain⟨⟨⟨⟨⟨⟨h1,h2⟩,h3⟩,h4⟩,h5⟩,h6⟩,h7⟩:=hc;split at hv
    .rename_i vs uK;cases hv;have e3:=nO h3;subst e3;refine⟨b,off,len,cap,i,x,xo,xc,cs,op,s,Qx,Qy,xs,vs,rfl,hb,hx,Mw h1,by simpa [Nat.blt_eq] using h2,h4.imp nO nO,Mw h5,?_,by simpa [Nat.blt_eq] using h7,uK,rfl,rfl⟩;rintro rfl;rw[Nat.beq_refl] at h6;cases h6
    .cases hv
   .cases hv
  .cases hv
 .cases hv
theorem HD {args:List Value} (hv:ZV o args h=some (v,h')):dg h h':=by
 obtain⟨b,off,len,cap,i,x,xo,xc,cs,op,s,Qx,Qy,xs,vs,_,hb,_,_,_,_,_,_,_,_,_,rfl⟩:=Qj hv;have dM: ∀y,({ put h b off cs (aC cs vs off i len o) op with next:=h.next+8 } :ae).tr.get y=if y=b then some (.aA (aJ cs off (aC cs vs off i len o)) false op h.clock) else h.tr.get y:=by intro y;simp only[put,Tr.aN]
 refine⟨Nat.le_add_right _ _,Nat.le_succ _,?_,?_,?_⟩
 .intro y Il ro o' s' hy hg hs;rw[dM] at hg;by_cases e:y=b
  .rw[aU e] at hg;cases hg;omega
  .rwa [aT e] at hg
 .intro hwf y ob hg;rw[dM] at hg;show y<h.next+8;by_cases e:y=b
  .have:=hwf b _ hb;omega
  .rw[aT e] at hg;have:=hwf y ob hg;omega
 .intro y hy hg;rw[dM] at hg;by_cases e:y=b
  .rw[aU e] at hg;cases hg
  .rwa [aT e] at hg
section
variable {CC:cj} {ρ:dY} {h h':ae} {w:World}
theorem cQ.swap (S:cQ CC ρ h w) {r rk:yJ} {ok ob:o9} (hk:ρ k=some rk) (cN:h.tr.get k=some ok) (hrw:ok.rw=true) (hb:ρ b=some r) (Fx:r.aA=rk.aA) (Vn:h'.tr.get b=some ob) (hO:iA CC ρ r ob w) (hn:h.next<=h'.next)
  (hs: ∀y o,y≠b->h'.tr.get y=some o->y≠k/\ ∃o',h.tr.get y=some o'/\o=o'):cQ CC ρ h' w/\Ext ρ h w ρ h' w:=by
 have MF:dX h k:=⟨ok,cN,hrw⟩;refine⟨⟨fun x rx hx=>⟨IF (S.low x rx hx).1 hn,(S.low x rx hx).2⟩,?_,?_,?_⟩,⟨ρ.le_refl,hn,dK _,rfl,rfl,rfl,fun _ _ _=>rfl,?_,fun x r h1 h2=>(by rw[h1] at h2;cases h2),?_⟩⟩
 .intro x rx o hx ho;by_cases e:x=b
  .subst e;rw[hb] at hx;cases hx;rw[Vn] at ho;cases ho;exact hO
  .obtain⟨_,o',h1,rfl⟩:=hs x o e ho;exact S.obj x rx o hx h1
 .intro x y rx ry o hx hy ⟨q,hq,K_⟩ ho cJ;by_cases e1:x=b
  .subst e1;rw[hb] at hx;cases hx;obtain⟨h2,o',h1,rfl⟩:=hs y o (Ne.symm cJ) ho;rw[Fx];exact S.inj k y rk ry o hk hy MF h1 (Ne.symm h2)
  .obtain⟨h3,q',h4,rfl⟩:=hs x q e1 hq;by_cases e2:y=b
   .subst e2;rw[hb] at hy;cases hy;rw[Fx];exact S.inj x k rx rk ok hx hk ⟨q,h4,K_⟩ cN h3
   .obtain⟨h2,o',h1,rfl⟩:=hs y o e2 ho;exact S.inj x y rx ry o hx hy ⟨q,h4,K_⟩ h1 cJ
 .intro x o hx;by_cases e:x=b
  .subst e;exact IF (S.low x r hb).1 hn
  .obtain⟨_,o',h1,rfl⟩:=hs x o e hx;exact IF (S.wf x o h1) hn
 .intro x rx hx ⟨q,hq,K_⟩;by_cases e:x=b
  .subst e;rw[hb] at hx;cases hx;exact .inr ⟨k,rk,hk,MF,Fx.symm⟩
  .obtain⟨_,o',h1,rfl⟩:=hs x q e hq;exact .inr ⟨x,rx,hx,⟨q,h1,K_⟩,rfl⟩
 .intro x rx o hx ho;by_cases e:x=b
  .subst e;rw[hb] at hx;cases hx;exact .inr ⟨k,rk,ok,hk,cN,Fx.symm⟩
  .obtain⟨_,o',h1,rfl⟩:=hs x o e ho;exact .inr ⟨x,rx,o,hx,h1,rfl⟩
end
theorem N9 (hi:i<=len) (hv:vs.length=o) (hl:off+len*o<=cs.length):cs.take off++aC cs vs off i len o++cs.drop (off+(len+1)*o)=aJ cs off (aC cs vs off i len o)/\(aC cs vs off i len o).length=(len+1)*o:=by
 have h1:i*o+(len-i)*o=len*o:=by rw[<-rU];congr 1;omega
 have h2:(aC cs vs off i len o).length=(len+1)*o:=by simp only[aC,IG,List.length_take,List.length_drop,hv,rU];omega
 exact⟨by unfold aJ;rw[h2],h2⟩
section
variable {P:Program} {T:qd} {ng:Nat} {F:Nat->Option bZ}
theorem Sn (hF:Fu P T ng (dZ T ng) F) (hT:cm P T) (hf:F f=some ⟨[.tmp 6],sJ z o bytes fo fs,.no⟩) (Vc:F fo=some fov) (AX:fov.Bv= .Oy)
  (hz:z.length=o) (ho:0<o) (CM:bytes<=1000):TX P T ng (dZ T ng) f (ZV o):=by
 intro args h v h' hv cw ρ w S hG ha ez;obtain⟨b,off,len,cap,i,x,xo,xc,cs,op,s,Qx,Qy,xs,vs,rfl,hb,hx,hi,D7,vN,cn,PK,hsm,uK,rfl,rfl⟩:=Qj hv;obtain⟨c0,c1,c2,rfl,h0,h1,h2⟩:=MR ha;obtain⟨r,ca,ccap,hρ,Ld,rfl⟩:=fw h0;have Hc:vs.length=o:=by
  unfold bc at uK;rw[hx] at uK;dsimp only at uK;split at uK
  .rename_i hh;cases uK;exact nO hh
  .cases uK
 have PR:len*o+o=(len+1)*o:=by rw[rU];omega
 have hm2:(len+1)*o<=cap*o:=CI _ D7;obtain⟨uq,ff⟩:=N9 (cs:=cs) (off:=off) hi Hc (by omega);have iz:=S.wf _ _ hb;have He:=S.wf _ _ hx;have hB:=S.obj b r _ hρ hb;rcases tP op with rfl|NZ
 .obtain⟨n,v2,JN,hr,rfl,NU,IQ,B1,s',BZ⟩:=Hg (F:=F) hf Vc AX hz ho CM (h:=h) (b:=b) (off:=off) (xc:=xc) hi D7 hsm hb cn hx uK PK;obtain⟨fn,ρ2,w2,c,fr2,g1,g2,g3,g4,g5,g6,g7,S2,E2⟩:=yV hF hT hr S hG ha ez;rw[uq] at BZ;have hρ2:=E2.le b r hρ;have hO:iA (fS T ng (dZ T ng)) ρ2 r (.aA (aJ cs off (aC cs vs off i len o)) false 0 h.clock) w2:=by have:=S2.obj b r _ hρ2 BZ;exact this
  obtain⟨S3,E3⟩:=S2.swap (h':= { put h b off cs (aC cs vs off i len o) 0 with next:=h.next+8 }) hρ2 BZ rfl hρ2 rfl (by simp[put,Tr.aN]) hO (by rw[NU];exact Nat.le_add_right _ _) (fun y o' hy C7=>by simp only[put,Tr.aN] at C7;rw[aT hy] at C7;exact⟨hy,o',by rw[B1 y (S.wf y _ C7) hy];exact C7,rfl⟩)
  exact⟨fn,ρ2,w2,c,fr2,g1,g2,g3,g4,g5,g6,g7,S3,E2.trans E3⟩
 .have acP:op=o:=by omega
  subst acP;obtain⟨HH,el,fr,hw,uJ,JS,⟨lC,ac4⟩,hfr,Bl⟩:=hB;have hrr:r.len<=r.room:=by obtain⟨c,hc,_⟩:=Bl (cs.length-1) _ (aX (by omega));have:=(Array.getElem?_eq_some_iff.mp hc).1;omega
  have aaX:(HH.toList.drop (r.base+r.len)).length=r.room-r.len:=by simp;omega
  have agX:(cs++HH.toList.drop (r.base+r.len)).length=r.room:=by rw[IG,aaX];omega
  have ahH: ∀j v,(HH.toList.drop (r.base+r.len))[j]? =some v->bK v=true/\HH[r.base+(r.len+j)]? =some v:=by
   intro j v hj;rw[List.getElem?_drop] at hj;have Ra:HH[r.base+(r.len+j)]? =some v:=by rw[<-BU];simpa using hj
   exact⟨ac4 (by omega) (r.len+j) v (by omega) Ra,Ra⟩
  let im:yJ:=⟨r.aA,r.base,r.room,0,r.room⟩
  have z8:=tm (r:=im) S.fresh;have anL:iA (fS T ng (dZ T ng)) (jj ρ h.next im) im (.aA (cs++HH.toList.drop (r.base+r.len)) false 0 0) w:=by
   refine⟨HH,el,fr,hw,agX.symm,rfl,⟨lC,fun h=>absurd rfl h⟩,hfr,fun j v hj=> ?_⟩;by_cases aS:j<cs.length
   .rw[KH aS] at hj;obtain⟨c,hc,hk⟩:=Bl j v hj;exact⟨c,hc,hk.mono z8⟩
   .rw[Mv (by omega)] at hj;obtain⟨hc,ht⟩:=ahH _ _ hj;refine⟨v,?_,.cell (gu hc)⟩;rw[<-ht];show HH[r.base+j]? =_;congr 1;omega
  obtain⟨S1,E1⟩:=S.move (im:=im) hρ hb rfl rfl ⟨rfl,rfl,rfl,rfl,fun _ _=>rfl⟩ anL;have GZ: ∀y,(({ h with tr:=h.tr.del b } :ae).new (.aA (cs++HH.toList.drop (r.base+r.len)) false 0 0)).tr.get y=if y=h.next then some (.aA (cs++HH.toList.drop (r.base+r.len)) false 0 0) else if y=b then none else h.tr.get y:=by intro y;simp only[ae.new,Tr.aN,Tr.mj]
  have hn1:(({ h with tr:=h.tr.del b } :ae).new (.aA (cs++HH.toList.drop (r.base+r.len)) false 0 0)).next=h.next+1:=rfl
  generalize hh1:({ h with tr:=h.tr.del b } :ae).new (.aA (cs++HH.toList.drop (r.base+r.len)) false 0 0)=II at*;have KO:II.tr.get h.next=some (.aA (cs++HH.toList.drop (r.base+r.len)) false 0 0):=by rw[GZ,aU rfl]
  have Zi:II.tr.get x=some (.aA Qx false Qy xs):=by rw[GZ,aT (by omega),aT (Ne.symm PK)];exact hx
  have aoe:bc II x xo op=some vs:=by rw[<-uK];unfold bc;rw[Zi,hx]
  have KQ:ca=⟨r.aA,r.base+off,none⟩:=by
   rcases Ld.1 with e|⟨_,e⟩
   .exact e
   .omega
  have U6:cap<=ccap:=by
   rcases Ld.2.1 with e|e
   .omega
   .omega
  have amR:off+ccap*op<=r.room:=by
   rcases Ld.2.1 with e|⟨_,_,_,e⟩
   .rw[e];omega
   .rw[JS] at e;exact e
  have zY:All2 (VR (jj ρ h.next im)) [.slice (some ⟨h.next,off,none⟩) len ccap,.int .i64 (.ofNat i),.slice (some ⟨x,xo,none⟩) 1 xc] [.slice (some ca) len ccap,c1,c2]:=by refine .cons (CR.vr (.slice (r:=im) (by simp[jj]) ⟨.inl KQ,.inl rfl,by omega⟩)) (.cons (h1.mono z8) (.cons (h2.mono z8) .nil))
  have hG1:=hG.mono z8;obtain⟨n,v2,JN,hr,rfl,NU,IQ,B1,s',BZ⟩:=Hg (F:=F) hf Vc AX hz ho CM (h:=II) (b:=h.next) (off:=off) (i:=i) (xc:=xc) hi (show len<ccap by omega) hsm KO (by rw[agX];exact amR) Zi aoe (by omega);obtain⟨fn,ρ2,w2,c,fr2,g1,g2,g3,g4,g5,g6,g7,S2,E2⟩:=yV hF hT hr S1 hG1 zY ez;obtain⟨r2,ca2,afM,hρ2,ahE,rfl⟩:=fw g7;have Ef:r2=im:=by have:=E2.le h.next im (by simp[jj]);rw[this] at hρ2;cases hρ2;rfl
  subst Ef;have tS:aC (cs++HH.toList.drop (r.base+r.len)) vs off i len op=aC cs vs off i len op:=by
   have e4:i*op+(len-i)*op=len*op:=by rw[<-rU];congr 1;omega
   unfold aC;rw[List.drop_append_of_le_length (by omega),List.drop_append_of_le_length (by omega),List.take_append_of_le_length (by simp;omega),List.take_append_of_le_length (by simp;omega)]
  have agJ:(cs++HH.toList.drop (r.base+r.len)).take off++aC (cs++HH.toList.drop (r.base+r.len)) vs off i len op++(cs++HH.toList.drop (r.base+r.len)).drop (off+(len+1)*op)=aJ cs off (aC cs vs off i len op)++HH.toList.drop (r.base+r.len):=by rw[tS,<-uq,List.take_append_of_le_length (by omega),List.drop_append_of_le_length (by omega)];simp only[xU]
  rw[agJ] at BZ;have Vh:(aJ cs off (aC cs vs off i len op)).length=cs.length:=by rw[<-uq];simp only[IG,List.length_take,List.length_drop,ff];omega
  obtain⟨aeb,el2,alX,hw2,tT,_,⟨Vw,_⟩,hfr2,hcells2⟩:=S2.obj _ _ _ hρ2 BZ;have hρb:ρ2 b=some r:=E2.le b r (z8 b r hρ);have hO:iA (fS T ng (dZ T ng)) ρ2 r (.aA (aJ cs off (aC cs vs off i len op)) false op h.clock) w2:=by
   refine⟨aeb,el2,alX,hw2,by omega,JS,⟨Vw,fun _ j c hj hc=> ?_⟩,hfr2,fun j v hj=> ?_⟩
   .have p_:=(Array.getElem?_eq_some_iff.mp hc).1;have ajE:r.base+r.room=aeb.size:=Vw;obtain⟨v,hv⟩: ∃v,(HH.toList.drop (r.base+r.len))[j-cs.length]? =some v:=⟨_,aX (by rw[aaX];omega)⟩;have hC:(aJ cs off (aC cs vs off i len op)++HH.toList.drop (r.base+r.len))[j]? =some v:=by rw[Mv (by omega),Vh];exact hv
    obtain⟨c',PL,vM⟩:=hcells2 _ _ hC;have agN:aeb[r.base+j]? =some c':=PL;rw[hc] at agN;cases agN;exact Up vM (ahH _ _ hv).1
   .have aS:=(bY.mp hj).1;exact hcells2 j v (by rw[KH aS];exact hj)
  obtain⟨S3,E3⟩:=S2.swap (h':= { put h b off cs (aC cs vs off i len op) op with next:=h.next+8 }) hρ2 BZ rfl hρb rfl (by simp[put,Tr.aN]) hO (by rw[NU,hn1];show h.next+1<=h.next+8;omega) (fun y o' hy C7=>by simp only[put,Tr.aN] at C7;rw[aT hy] at C7;have ef:=S.wf y _ C7;exact⟨by omega,o',by rw[B1 y (by omega) (by omega),GZ,aT (by omega),aT hy];exact C7,rfl⟩)
  refine⟨fn,ρ2,w2,_,fr2,g1,g2,g3,g4,g5,g6,CR.vr (.slice (r:=r) hρb ⟨?_,?_,D7⟩),S3,(E1.trans E2).trans E3⟩
  .rcases ahE.1 with e|⟨_,e⟩
   .exact .inl e
   .omega
  .have:afM=ccap:=by
    rcases ahE.2.1 with e|⟨e,_⟩
    .exact e
    .exact absurd rfl e
   rw[this];exact Ld.2.1
def Fs (F:Nat->Option bZ) (fi o:Nat) (f:Nat):Option bZ:=bif Nat.beq f fi then some ⟨[],.bad,.run (ZV o) fun _ _ _ _=>HD⟩ else F f
theorem Mn (hF:Fu P T ng (dZ T ng) F) (hT:cm P T) (hf:F f=some ⟨[.tmp 6],sJ z o bytes fo fs,.no⟩) (Vc:F fo=some fov) (AX:fov.Bv= .Oy)
  (hz:z.length=o) (ho:0<o) (CM:bytes<=1000):Fu P T ng (dZ T ng) (Fs F f o):=by
 intro g af h;unfold Fs at h;cases hb:Nat.beq g f with
 |true=>
  rw[hb] at h;cases h;rw[nO hb];exact Sn hF hT hf Vc AX hz ho CM
 |false=>rw[hb] at h;exact hF g af h
theorem aF.run {F:Nat->Option bZ} {f:Nat} {rs:List Dk} {body:ak} {p:List Value->ae->Option (Value×ae)} {k: ∀args h v h',p args h=some (v,h')->dg h h'} {args:List Value} {h h':ae} {v:Value} {R:Value->ae->Prop} (hf:F f=some ⟨rs,body,.run p k⟩) (hp:p args h=some (v,h')) (H:R v h'):aF F f args h R:=
 ⟨0,v,h',by simp only[si,oo,hf];exact hp,H⟩
end
end Go.AI
namespace Go.Proofs.YtdhnndleffachaaGreatDoor
open Go.AI
noncomputable def FF0:Nat->Option bZ:=JK (IC Tryz.prog 1 funcAt) 218
noncomputable def FF:Nat->Option bZ:=Fs FF0 166 2
set_option maxRecDepth 100000
abbrev kD:Nat:=8
def kq:ak:=(G_ [x_ 1 0,M_ 2 false] (J_ (G_ [L_ 5 2 1,F_ 6 11 [t_ 5]] (I_ 6 (G_ [M_ 2 true] .ret) .skip)) (G_ [L_ 8 2 1,F_ 9 25 [t_ 8],m_ 7 9,o_ 10 (.ext 0 (t_ 7)),o_ 11 (.ext 1 (t_ 7)),o_ 3 (.alloc [(.slice none 0 0),(.slice none 0 0)]),o_ 4 (.alloc [(.int .i64 0),(.int .i64 0)]),s_ 2 3 10,s_ 2 4 11] (J_ (G_ [f_ 12 0 4,l_ 13 12,o_ 14 (.bin .neq [1] (t_ 13) (i_ 0))] (I_ 14 (G_ [L_ 15 2 3,F_ 16 14 [t_ 15],m_ 2 16] .ret) .skip)) (J_ (V_ [D_ (L_ 17 2 3),(F_ 18 14 [t_ 17],[]),(o_ 19 (.un .not (t_ 18)),[]),D_ (m_ 20 19),(q_ 21 20 true (.load (some 2) (t_ 3)),[]),(q_ 23 20 true (.load (some 2) (t_ 1)),[]),(q_ 22 20 true (.call (.func 27) [t_ 21]),[1]),(q_ 24 20 true (.call (.func 27) [t_ 23]),[]),(q_ 25 20 true (.bin .leq [] (t_ 22) (t_ 24)),[]),(o_ 26 (.pick (t_ 20) (t_ 25) (b_ false)),[]),D_ (m_ 2 26)]) .ret)))))
theorem tx:FF kD=some ⟨[(.tmp 2)],kq,.no⟩:=by kernel_rfl
def iw:ak:=(J_ (G_ [m_ 13 5,f_ 14 1 1,l_ 15 14,m_ 16 3,a_ 17 4 15 16,f_ 18 3 17,l_ 19 18,z_ 20 19,B_ 21 .lss 13 20] (H_ 21 2)) (J_ (P_ 3 (V_ [D_ (m_ 24 4),D_ (f_ 25 1 1),D_ (l_ 26 25),D_ (m_ 27 3),D_ (a_ 28 4 26 27),D_ (f_ 29 3 28),D_ (l_ 30 29),D_ (m_ 31 5),D_ (a_ 32 6 30 31),D_ (f_ 33 0 32),D_ (l_ 34 33),D_ (z_ 35 34),D_ (B_ 36 .add 24 35),D_ (f_ 37 1 1),D_ (l_ 38 37),D_ (m_ 39 3),D_ (a_ 40 4 38 39),D_ (f_ 41 3 40),D_ (l_ 42 41),D_ (m_ 43 5),D_ (a_ 44 6 42 43),D_ (f_ 45 1 44),D_ (l_ 46 45),D_ (z_ 47 46),D_ (B_ 48 .add 36 47),D_ (m_ 4 48)])) (O_ [m_ 22 5,C_ 23 .add 22 1,m_ 5 23])))
def mC:ak:=(J_ (G_ [m_ 6 3,f_ 7 1 1,l_ 8 7,z_ 9 8,B_ 10 .lss 6 9] (H_ 10 0)) (J_ (P_ 1 (G_ [k_ 4 0] (J_ (G_ [k_ 5 0] (Q_ 2 iw)) (G_ [f_ 49 1 1,l_ 50 49,m_ 51 3,a_ 52 4 50 51,f_ 53 3 52,l_ 54 53,z_ 55 54,C_ 56 .gtr 55 24,m_ 57 56,q_ 58 57 false (.mv (t_ 4)),q_ 59 57 false (.bin .gtr [] (t_ 58) (i_ 120)),o_ 60 (.pick (t_ 57) (b_ true) (t_ 59))] (I_ 60 (G_ [M_ 2 true] .ret) .skip))))) (O_ [m_ 11 3,C_ 12 .add 11 1,m_ 3 12])))
abbrev oD:Nat:=11
def oi:ak:=(G_ [x_ 1 0,M_ 2 false] (J_ (G_ [k_ 3 0] (Q_ 0 mC)) (G_ [f_ 61 1 1,l_ 62 61,z_ 63 62,C_ 64 .gtr 63 10,m_ 2 64] .ret)))
theorem wo:FF oD=some ⟨[(.tmp 2)],oi,.no⟩:=by kernel_rfl
def yE:ak:=(G_ [B_ 17 .lss 16 15] (J_ (H_ 17 0) (J_ (P_ 1 (G_ [m_ 18 16,a_ 19 4 14 16,L_ 20 4 19,⟨(some 5),none,(.alloc [(.string ⟨⟨[]⟩⟩),(.int .i64 0),(.int .i64 0),(.slice none 0 0)])⟩,m_ 4 18,s_ 4 5 20] (G_ [L_ 21 4 5,F_ 22 35 [t_ 21],m_ 6 22] (G_ [m_ 23 6,o_ 24 (.bin .neq [1] (t_ 23) (i_ 0))] (I_ 24 (G_ [m_ 25 6,m_ 26 4,F_ 27 36 [t_ 25,t_ 26],s_ 2 2 27] .ret) .skip))))) (O_ [C_ 28 .add 16 1,m_ 16 28]))))
abbrev Ci:Nat:=13
def BL:ak:=(G_ [x_ 1 0,o_ 2 (.alloc [(.int .i64 0),(.int .i64 0)])] (J_ (G_ [L_ 7 2 1,F_ 8 34 [t_ 7],o_ 3 (.alloc [(.int .i64 0),(.int .i64 0)]),s_ 2 3 8] (G_ [L_ 9 2 3,o_ 10 (.build [(.int .i64 0),(.int .i64 0)] []),o_ 11 (.bin .neq [9,1,1] (t_ 9) (t_ 10))] (I_ 11 (G_ [L_ 12 2 3,s_ 2 2 12] .ret) .skip))) (J_ (G_ [f_ 13 1 1,l_ 14 13,z_ 15 14,k_ 16 0] (Q_ 0 yE)) (G_ [o_ 29 (.build [(.int .i64 0),(.int .i64 0)] []),s_ 2 2 29] .ret))))
theorem Ke:FF Ci=some ⟨[(.cell 2 (some 2))],BL,.no⟩:=by kernel_rfl
abbrev qU:Nat:=14
def qF:ak:=(G_ [x_ 1 0,M_ 2 false] (G_ [f_ 3 0 1,l_ 4 3,z_ 5 4,o_ 6 (.bin .eql [1] (t_ 5) (i_ 0)),m_ 7 6,q_ 8 7 true (.bM 1 (t_ 1)),q_ 9 7 true (.load none (t_ 8)),q_ 10 7 true (.uU (t_ 9)),q_ 11 7 true (.bin .eql [1] (t_ 10) (i_ 0)),o_ 12 (.pick (t_ 7) (t_ 11) (b_ false)),m_ 2 12] .ret))
theorem yU:FF qU=some ⟨[(.tmp 2)],qF,.no⟩:=by kernel_rfl
def mS:ak:=(J_ (G_ [m_ 5 4,f_ 6 0 1,l_ 7 6,z_ 8 7,B_ 9 .lss 5 8] (H_ 9 0)) (J_ (P_ 1 (O_ [m_ 12 3,f_ 13 0 1,l_ 14 13,m_ 15 4,a_ 16 3 14 15,f_ 17 1 16,l_ 18 17,B_ 19 .add 12 18,m_ 3 19])) (O_ [m_ 10 4,C_ 11 .add 10 1,m_ 4 11])))
abbrev pU:Nat:=16
def pI:ak:=(.seq (.ops [⟨(some 1),none,(.box (.tmp 0))⟩,⟨(some 2),none,(.mv (.const (.int .i64 0)))⟩]) (.seq (.ops [⟨(some 3),none,(.mv (.const (.int .i64 0)))⟩]) (.seq (.seq (.ops [⟨(some 4),none,(.mv (.const (.int .i64 0)))⟩]) (.block 0 (.loop mS))) (.seq (.ops [⟨(some 20),none,(.mv (.tmp 3))⟩,⟨(some 2),none,(.mv (.tmp 20))⟩]) .ret))))
theorem xS:FF pU=some ⟨[(.tmp 2)],pI,.no⟩:=by kernel_rfl
abbrev Ch:Nat:=25
def BK:ak:=(G_ [x_ 1 0,o_ 2 (.alloc [(.slice none 0 0),(.slice none 0 0)]),o_ 3 (.alloc [(.int .i64 0),(.int .i64 0)])] (J_ (G_ [L_ 6 2 1,F_ 7 13 [t_ 6],o_ 4 (.alloc [(.int .i64 0),(.int .i64 0)]),s_ 2 4 7] (G_ [L_ 8 2 4,o_ 9 (.build [(.int .i64 0),(.int .i64 0)] []),o_ 10 (.bin .neq [9,1,1] (t_ 8) (t_ 9))] (I_ 10 (J_ (V_ [(o_ 11 (.build [(.slice none 0 0),(.slice none 0 0)] []),[]),D_ (L_ 12 2 4),(s_ 2 2 11,[4]),D_ (s_ 2 3 12)]) .ret) .skip))) (G_ [L_ 13 2 1,F_ 14 30 [t_ 13],o_ 5 (.alloc [(.int .i64 0)]),s_ 1 5 14] (G_ [L_ 15 2 1,o_ 16 (.uz 55 [t_ 5]),F_ 17 31 [t_ 15,t_ 16],o_ 18 (.ext 0 (t_ 17)),o_ 19 (.ext 1 (t_ 17)),s_ 2 2 18,s_ 2 3 19] .ret))))
theorem Kd:FF Ch=some ⟨[(.cell 2 (some 2)),(.cell 3 (some 2))],BK,.no⟩:=by kernel_rfl
def jM:ak:=(J_ (G_ [m_ 28 7,f_ 29 1 1,l_ 30 29,m_ 31 5,a_ 32 4 30 31,f_ 33 3 32,l_ 34 33,m_ 35 6,a_ 36 6 34 35,f_ 37 1 36,l_ 38 37,z_ 39 38,B_ 40 .lss 28 39] (H_ 40 4)) (J_ (P_ 5 (G_ [m_ 43 3,f_ 44 1 1,l_ 45 44,m_ 46 5,a_ 47 4 45 46,f_ 48 3 47,l_ 49 48,m_ 50 6,a_ 51 6 49 50,f_ 52 1 51,l_ 53 52,m_ 54 7,a_ 55 8 53 54,L_ 56 8 55,F_ 57 43 [t_ 43,t_ 56],o_ 58 (.un .not (t_ 57))] (I_ 58 (O_ [m_ 59 4,C_ 60 .add 59 1,m_ 4 60]) .skip))) (O_ [m_ 41 7,C_ 42 .add 41 1,m_ 7 42])))
def jN:ak:=(J_ (G_ [m_ 17 6,f_ 18 1 1,l_ 19 18,m_ 20 5,a_ 21 4 19 20,f_ 22 3 21,l_ 23 22,z_ 24 23,B_ 25 .lss 17 24] (H_ 25 2)) (J_ (P_ 3 (G_ [k_ 7 0] (Q_ 4 jM))) (O_ [m_ 26 6,C_ 27 .add 26 1,m_ 6 27])))
def oK:ak:=(J_ (G_ [m_ 10 5,f_ 11 1 1,l_ 12 11,z_ 13 12,B_ 14 .lss 10 13] (H_ 14 0)) (J_ (P_ 1 (G_ [k_ 6 0] (Q_ 2 jN))) (O_ [m_ 15 5,C_ 16 .add 15 1,m_ 5 16])))
abbrev qT:Nat:=27
def qE:ak:=(G_ [x_ 1 0,k_ 2 0] (G_ [L_ 8 2 1,F_ 9 16 [t_ 8],m_ 3 9] (G_ [k_ 4 0] (J_ (G_ [k_ 5 0] (Q_ 0 oK)) (G_ [m_ 61 4,m_ 2 61] .ret)))))
theorem yT:FF qT=some ⟨[(.tmp 2)],qE,.no⟩:=by kernel_rfl
def wZ:ak:=(G_ [B_ 10 .lss 9 8] (J_ (H_ 10 0) (J_ (P_ 1 (G_ [a_ 11 3 7 9,L_ 12 3 11,⟨(some 5),none,(.alloc [(.string ⟨⟨[]⟩⟩),(.int .i64 0),(.slice none 0 0)])⟩,s_ 3 5 12] (O_ [m_ 13 3,f_ 14 1 5,l_ 15 14,B_ 16 .add 13 15,m_ 3 16]))) (O_ [C_ 17 .add 9 1,m_ 9 17]))))
abbrev Ao:Nat:=30
def zH:ak:=(G_ [x_ 1 0,k_ 2 0] (G_ [k_ 3 0] (J_ (G_ [f_ 6 0 1,l_ 7 6,z_ 8 7,k_ 9 0] (Q_ 0 wZ)) (G_ [m_ 18 3,m_ 2 18] .ret))))
theorem H7:FF Ao=some ⟨[(.tmp 2)],zH,.no⟩:=by kernel_rfl
def rH:ak:=(G_ [B_ 39 .lss 38 37] (J_ (H_ 39 2) (J_ (P_ 3 (G_ [m_ 40 38,a_ 41 4 36 38,L_ 42 4 41,⟨(some 9),none,(.alloc [(.string ⟨⟨[]⟩⟩),(.int .i64 0),(.int .i64 0),(.slice none 0 0)])⟩,m_ 8 40,s_ 4 9 42] (G_ [m_ 43 1,L_ 44 4 9,F_ 45 69 [t_ 44],o_ 46 (.call (t_ 43) [t_ 45]),s_ 4 9 46] (J_ (G_ [L_ 47 4 9,F_ 48 70 [t_ 47]] (I_ 48 (G_ [o_ 49 (.build [(.slice none 0 0),(.slice none 0 0)] []),m_ 50 8,F_ 51 36 [(i_ 10),t_ 50],s_ 2 4 49,s_ 2 5 51] .ret) .skip)) (O_ [f_ 52 1 2,l_ 53 52,m_ 54 8,L_ 55 4 9,a_ 56 4 53 54,s_ 4 56 55]))))) (O_ [C_ 57 .add 38 1,m_ 38 57]))))
def rI:ak:=(G_ [B_ 18 .lss 17 16] (J_ (H_ 18 0) (J_ (P_ 1 (G_ [m_ 19 17,a_ 20 3 15 17,L_ 21 3 20,⟨(some 7),none,(.alloc [(.string ⟨⟨[]⟩⟩),(.int .i64 0),(.slice none 0 0)])⟩,m_ 6 19,s_ 3 7 21] (V_ [D_ (f_ 22 0 2),D_ (l_ 23 22),D_ (m_ 24 6),D_ (f_ 25 2 7),D_ (l_ 26 25),(F_ 27 67 [t_ 26],[22]),D_ (a_ 28 3 23 24),D_ (f_ 29 2 28),D_ (s_ 1 29 27)]))) (O_ [C_ 30 .add 17 1,m_ 17 30]))))
abbrev Al:Nat:=31
def zF:ak:=(G_ [x_ 2 0,o_ 4 (.alloc [(.slice none 0 0),(.slice none 0 0)]),o_ 5 (.alloc [(.int .i64 0),(.int .i64 0)])] (G_ [f_ 10 0 2,l_ 11 10,F_ 12 66 [t_ 11],f_ 13 0 2,s_ 1 13 12] (J_ (G_ [f_ 14 0 2,l_ 15 14,z_ 16 15,k_ 17 0] (Q_ 0 rI)) (G_ [f_ 31 1 2,l_ 32 31,F_ 33 68 [t_ 32],f_ 34 1 2,s_ 1 34 33] (J_ (G_ [f_ 35 1 2,l_ 36 35,z_ 37 36,k_ 38 0] (Q_ 2 rH)) (G_ [L_ 58 2 2,o_ 59 (.build [(.int .i64 0),(.int .i64 0)] []),s_ 2 4 58,s_ 2 5 59] .ret))))))
theorem H0:FF Al=some ⟨[(.cell 4 (some 2)),(.cell 5 (some 2))],zF,.no⟩:=by kernel_rfl
def qY:ak:=(G_ [B_ 108 .lss 107 106] (J_ (H_ 108 5) (J_ (P_ 6 (G_ [m_ 109 107,a_ 110 4 105 107,L_ 111 4 110,⟨(some 13),none,(.alloc [(.string ⟨⟨[]⟩⟩),(.int .i64 0),(.int .i64 0),(.slice none 0 0)])⟩,m_ 12 109,s_ 4 13 111] (G_ [L_ 112 2 1,L_ 113 4 13,⟨(some 114),none,(.build [(.slice none 0 0),(.slice none 0 0),(.string ⟨⟨[]⟩⟩),(.int .i64 0),(.int .i64 0),(.slice none 0 0),(.slice none 0 0)] [(0,(2,(t_ 112))),(2,(4,(t_ 113)))])⟩,⟨(some 14),none,(.alloc [(.slice none 0 0),(.slice none 0 0),(.string ⟨⟨[]⟩⟩),(.int .i64 0),(.int .i64 0),(.slice none 0 0),(.slice none 0 0)])⟩,s_ 7 14 114] (G_ [L_ 115 7 14,F_ 116 82 [t_ 115],m_ 15 116] (G_ [m_ 117 15,o_ 118 (.bin .neq [1] (t_ 117) (i_ 0))] (I_ 118 (G_ [m_ 119 15,m_ 120 12,F_ 121 36 [t_ 119,t_ 120],s_ 2 2 121] .ret) .skip)))))) (O_ [C_ 122 .add 107 1,m_ 107 122]))))
def qZ:ak:=(G_ [B_ 83 .lss 82 81] (J_ (H_ 83 3) (J_ (P_ 4 (G_ [m_ 84 82,a_ 85 4 80 82,L_ 86 4 85,⟨(some 9),none,(.alloc [(.string ⟨⟨[]⟩⟩),(.int .i64 0),(.int .i64 0),(.slice none 0 0)])⟩,m_ 8 84,s_ 4 9 86] (G_ [L_ 87 2 1,L_ 88 4 9,⟨(some 89),none,(.build [(.slice none 0 0),(.slice none 0 0),(.string ⟨⟨[]⟩⟩),(.int .i64 0),(.int .i64 0),(.slice none 0 0),(.slice none 0 0)] [(0,(2,(t_ 87))),(2,(4,(t_ 88)))])⟩,⟨(some 10),none,(.alloc [(.slice none 0 0),(.slice none 0 0),(.string ⟨⟨[]⟩⟩),(.int .i64 0),(.int .i64 0),(.slice none 0 0),(.slice none 0 0)])⟩,s_ 7 10 89] (J_ (G_ [L_ 90 7 10,m_ 91 3,F_ 92 81 [t_ 90,t_ 91],m_ 11 92] (G_ [m_ 93 11,o_ 94 (.bin .neq [1] (t_ 93) (i_ 0))] (I_ 94 (G_ [m_ 95 11,m_ 96 8,F_ 97 36 [t_ 95,t_ 96],s_ 2 2 97] .ret) .skip))) (O_ [m_ 98 3,f_ 99 0 9,l_ 100 99,⟨(some 101),none,(.cX 1 [(.string ⟨⟨[]⟩⟩)] [(0,(1,(t_ 100)))])⟩,⟨(some 102),none,(.append [(.string ⟨⟨[]⟩⟩)] 16 false (t_ 98) (t_ 101))⟩,m_ 3 102]))))) (O_ [C_ 103 .add 82 1,m_ 82 103]))))
def D1:ak:=(P_ 2 (G_ [f_ 37 0 6,l_ 38 37,F_ 39 78 [t_ 38],o_ 40 (.un .not (t_ 39)),m_ 36 40] (I_ 36 (O_ [k_ 7 12]) (G_ [m_ 42 3,f_ 43 0 6,l_ 44 43,F_ 45 79 [t_ 42,t_ 44],m_ 41 45] (I_ 41 (O_ [k_ 7 7]) (G_ [f_ 47 1 6,l_ 48 47,F_ 49 80 [t_ 48,(i_ 1),(i_ 200)],o_ 50 (.un .not (t_ 49)),m_ 46 50] (I_ 46 (O_ [k_ 7 3]) (G_ [f_ 52 2 6,l_ 53 52,z_ 54 53,f_ 55 1 6,l_ 56 55,B_ 57 .gtr 54 56,m_ 51 57] (I_ 51 (O_ [k_ 7 9]) (G_ [m_ 59 4,f_ 60 1 6,l_ 61 60,B_ 62 .add 59 61,C_ 63 .gtr 62 200,m_ 58 63] (I_ 58 (O_ [k_ 7 10]) .skip)))))))))))
def UM:ak:=(J_ (G_ [m_ 64 7,o_ 65 (.bin .neq [1] (t_ 64) (i_ 0))] (I_ 65 (G_ [m_ 66 7,m_ 67 5,F_ 68 36 [t_ 66,t_ 67],s_ 2 2 68] .ret) .skip)) (G_ [m_ 69 3,f_ 70 0 6,l_ 71 70,⟨(some 72),none,(.cX 1 [(.string ⟨⟨[]⟩⟩)] [(0,(1,(t_ 71)))])⟩,⟨(some 73),none,(.append [(.string ⟨⟨[]⟩⟩)] 16 false (t_ 69) (t_ 72))⟩,m_ 3 73] (O_ [m_ 74 4,f_ 75 1 6,l_ 76 75,B_ 77 .add 74 76,m_ 4 77])))
def re:ak:=(G_ [B_ 32 .lss 31 30] (J_ (H_ 32 0) (J_ (P_ 1 (G_ [m_ 33 31,a_ 34 3 29 31,L_ 35 3 34,⟨(some 6),none,(.alloc [(.string ⟨⟨[]⟩⟩),(.int .i64 0),(.slice none 0 0)])⟩,m_ 5 33,s_ 3 6 35] (G_ [k_ 7 0] (J_ D1 UM)))) (O_ [C_ 78 .add 31 1,m_ 31 78]))))
abbrev Ae:Nat:=34
def zx:ak:=(G_ [x_ 1 0,o_ 2 (.alloc [(.int .i64 0),(.int .i64 0)])] (J_ (G_ [f_ 17 0 1,l_ 18 17,z_ 19 18,C_ 20 .gtr 19 10,m_ 21 20,q_ 22 21 false (.bM 1 (t_ 1)),q_ 23 21 false (.load none (t_ 22)),q_ 24 21 false (.uU (t_ 23)),q_ 25 21 false (.bin .gtr [] (t_ 24) (i_ 10)),o_ 26 (.pick (t_ 21) (b_ true) (t_ 25))] (I_ 26 (G_ [F_ 27 36 [(i_ 2),(i_ 0)],s_ 2 2 27] .ret) .skip)) (G_ [o_ 3 (.mv (.const (.slice none 0 0)))] (G_ [k_ 4 0] (J_ (G_ [f_ 28 0 1,l_ 29 28,z_ 30 29,k_ 31 0] (Q_ 0 re)) (J_ (G_ [f_ 79 1 1,l_ 80 79,z_ 81 80,k_ 82 0] (Q_ 3 qZ)) (J_ (G_ [f_ 104 1 1,l_ 105 104,z_ 106 105,k_ 107 0] (Q_ 5 qY)) (G_ [f_ 123 1 1,l_ 124 123,F_ 125 83 [t_ 124,(.func 84)],m_ 16 125] (J_ (G_ [m_ 126 16,C_ 127 .lss 126 0] (I_ 127 (G_ [F_ 128 36 [(i_ 6),(i_ 0)],s_ 2 2 128] .ret) .skip)) (J_ (G_ [f_ 129 1 1,l_ 130 129,m_ 131 16,a_ 132 4 130 131,f_ 133 1 132,l_ 134 133,C_ 135 .gtr 134 0] (I_ 135 (G_ [m_ 136 16,F_ 137 36 [(i_ 5),t_ 136],s_ 2 2 137] .ret) .skip)) (G_ [o_ 138 (.build [(.int .i64 0),(.int .i64 0)] []),s_ 2 2 138] .ret)))))))))))
theorem HT:FF Ae=some ⟨[(.cell 2 (some 2))],zx,.no⟩:=by kernel_rfl
abbrev yA:Nat:=35
def yk:ak:=(G_ [x_ 1 0,k_ 2 0] (J_ (V_ [D_ (L_ 4 4 1),D_ (L_ 5 4 1),(o_ 7 (.build [(.int .i64 0),(.int .i64 0)] [(0,(1,(.const (.int .i64 (Int.negSucc 0))))),(1,(1,(.const (.int .i64 (Int.negSucc 0)))))]),[]),(o_ 8 (.cX 1 [(.int .i64 0),(.int .i64 0)] [(0,(2,(t_ 7)))]),[]),D_ (f_ 9 2 1),D_ (l_ 10 9),(F_ 6 85 [t_ 5],[8,9]),(F_ 11 86 [t_ 8,t_ 10],[1]),(⟨(some 12),none,(.build [(.string ⟨⟨[]⟩⟩),(.int .i64 0),(.int .i64 0),(.slice none 0 0),(.slice none 0 0),(.slice none 0 0)] [(0,(4,(t_ 4))),(4,(1,(t_ 6))),(5,(1,(t_ 11)))])⟩,[]),D_ (x_ 13 12),D_ (m_ 3 13)]) (J_ (P_ 0 (J_ (V_ [D_ (L_ 15 4 1),D_ (f_ 18 3 1),D_ (l_ 19 18),D_ (z_ 20 19),(F_ 16 87 [t_ 15],[18]),D_ (z_ 17 16),D_ (B_ 21 .lss 17 20),D_ (m_ 14 21)]) (I_ 14 (G_ [k_ 2 5] .ret) (G_ [m_ 23 3,F_ 24 88 [t_ 23],o_ 25 (.un .not (t_ 24)),m_ 22 25] (I_ 22 (G_ [k_ 2 7] .ret) (G_ [m_ 27 3,F_ 28 89 [t_ 27],o_ 29 (.un .not (t_ 28)),m_ 26 29] (I_ 26 (G_ [k_ 2 6] .ret) .skip))))))) (G_ [k_ 2 0] .ret))))
theorem FP:FF yA=some ⟨[(.tmp 2)],yk,.no⟩:=by kernel_rfl
abbrev Ag:Nat:=36
def zB:ak:=(G_ [o_ 4 (.alloc [(.int .i64 0),(.int .i64 0)])] (G_ [m_ 5 0,m_ 6 1,o_ 7 (.build [(.int .i64 0),(.int .i64 0)] [(0,(1,(t_ 5))),(1,(1,(t_ 6)))]),s_ 2 4 7] .ret))
theorem HW:FF Ag=some ⟨[(.cell 4 (some 2))],zB,.no⟩:=by kernel_rfl
abbrev pT:Nat:=43
def pH:ak:=(G_ [x_ 3 1,M_ 4 false] (J_ (G_ [f_ 5 0 3,l_ 6 5,o_ 7 (.bin .eql [1] (t_ 6) (i_ 5)),m_ 8 7,q_ 9 8 false (.bM 0 (t_ 3)),q_ 10 8 false (.load none (t_ 9)),q_ 11 8 false (.bin .eql [1] (t_ 10) (i_ 6)),o_ 12 (.pick (t_ 8) (b_ true) (t_ 11))] (I_ 12 (G_ [f_ 13 4 3,f_ 14 0 13,l_ 15 14,o_ 16 (.un .not (t_ 15)),m_ 17 16,q_ 18 17 true (.bM 4 (t_ 3)),q_ 19 17 true (.bM 1 (t_ 18)),q_ 20 17 true (.load none (t_ 19)),q_ 21 17 true (.bin .neq [1] (t_ 20) (i_ 0)),o_ 22 (.pick (t_ 17) (t_ 21) (b_ false)),m_ 4 22] .ret) .skip)) (J_ (G_ [f_ 23 0 3,l_ 24 23,o_ 25 (.bin .eql [1] (t_ 24) (i_ 18))] (I_ 25 (G_ [f_ 26 2 3,f_ 27 0 26,l_ 28 27,o_ 29 (.un .not (t_ 28)),m_ 30 29,q_ 31 30 true (.bM 2 (t_ 3)),q_ 32 30 true (.bM 1 (t_ 31)),q_ 33 30 true (.load none (t_ 32)),q_ 34 30 true (.bin .geq [] (t_ 33) (i_ 0)),o_ 35 (.pick (t_ 30) (t_ 34) (b_ false)),m_ 36 35,q_ 37 36 true (.bM 2 (t_ 3)),q_ 38 36 true (.bM 1 (t_ 37)),q_ 39 36 true (.load none (t_ 38)),q_ 40 36 true (.mv (t_ 0)),q_ 41 36 true (.bin .lss [] (t_ 39) (t_ 40)),o_ 42 (.pick (t_ 36) (t_ 41) (b_ false)),m_ 4 42] .ret) .skip)) (G_ [f_ 43 0 3,l_ 44 43,C_ 45 .geq 44 1,m_ 46 45,q_ 47 46 true (.bM 0 (t_ 3)),q_ 48 46 true (.load none (t_ 47)),q_ 49 46 true (.bin .leq [] (t_ 48) (i_ 17)),o_ 50 (.pick (t_ 46) (t_ 49) (b_ false)),m_ 4 50] .ret))))
theorem xR:FF pT=some ⟨[(.tmp 4)],pH,.no⟩:=by kernel_rfl
set_option maxRecDepth 100000
abbrev tE:Nat:=55
def yh:ak:=(G_ [x_ 2 0,⟨(some 3),none,(.alloc [(.string ⟨⟨[]⟩⟩),(.int .i64 0),(.int .i64 0),(.slice none 0 0)])⟩] (G_ [l_ 4 1,L_ 5 4 2,F_ 6 56 [t_ 4,t_ 5],s_ 4 3 6] .ret))
theorem FM:FF tE=some ⟨[(.cell 3 (some 4))],yh,.no⟩:=by kernel_rfl
def pt:ak:=(G_ [B_ 14 .lss 13 12] (J_ (H_ 14 0) (J_ (P_ 1 (G_ [m_ 15 13,m_ 7 15] (O_ [m_ 16 6,m_ 17 5,m_ 18 0,m_ 19 7,F_ 20 116 [t_ 17,t_ 18,t_ 19],o_ 21 (.cX 1 [(.slice none 0 0),(.slice none 0 0),(.int .i64 0),(.bool false),(.int .i64 0),(.slice none 0 0)] [(0,(6,(t_ 20)))]),o_ 22 (.append [(.slice none 0 0),(.slice none 0 0),(.int .i64 0),(.bool false),(.int .i64 0),(.slice none 0 0)] 96 false (t_ 16) (t_ 21)),m_ 6 22]))) (O_ [C_ 23 .add 13 1,m_ 13 23]))))
abbrev yy:Nat:=56
def yg:ak:=(G_ [x_ 3 1,⟨(some 4),none,(.alloc [(.string ⟨⟨[]⟩⟩),(.int .i64 0),(.int .i64 0),(.slice none 0 0)])⟩] (G_ [L_ 8 4 3,F_ 9 115 [t_ 8],m_ 5 9] (G_ [o_ 6 (.mv (.const (.slice none 0 0)))] (J_ (G_ [f_ 10 3 3,l_ 11 10,z_ 12 11,k_ 13 0] (Q_ 0 pt)) (G_ [m_ 24 6,f_ 25 3 3,s_ 1 25 24] (G_ [F_ 26 100 [t_ 3]] (G_ [L_ 27 4 3,F_ 28 77 [t_ 27],s_ 4 4 28] .ret)))))))
theorem FL:FF yy=some ⟨[(.cell 4 (some 4))],yg,.no⟩:=by kernel_rfl
abbrev ka:Nat:=66
def j5:ak:=(G_ [o_ 2 (.mv (.const (.slice none 0 0)))] (J_ (G_ [m_ 3 0,o_ 4 (.bin .eql [3] (t_ 3) (.const (.slice none 0 0)))] (I_ 4 (G_ [o_ 2 (.mv (.const (.slice none 0 0)))] .ret) .skip)) (G_ [o_ 5 (.cX 0 [] []),m_ 6 0,⟨(some 7),none,(.append [(.string ⟨⟨[]⟩⟩),(.int .i64 0),(.slice none 0 0)] 48 false (t_ 5) (t_ 6))⟩,m_ 2 7] .ret)))
theorem j6:FF ka=some ⟨[(.tmp 2)],j5,.no⟩:=by kernel_rfl
abbrev ve:Nat:=67
def uQ:ak:=(G_ [o_ 2 (.mv (.const (.slice none 0 0)))] (J_ (G_ [m_ 3 0,o_ 4 (.bin .eql [3] (t_ 3) (.const (.slice none 0 0)))] (I_ 4 (G_ [o_ 2 (.mv (.const (.slice none 0 0)))] .ret) .skip)) (G_ [o_ 5 (.cX 0 [] []),m_ 6 0,o_ 7 (.append [(.int .i64 0)] 8 false (t_ 5) (t_ 6)),m_ 2 7] .ret)))
theorem mf:FF ve=some ⟨[(.tmp 2)],uQ,.no⟩:=by kernel_rfl
abbrev mu:Nat:=68
def l0:ak:=(G_ [o_ 2 (.mv (.const (.slice none 0 0)))] (J_ (G_ [m_ 3 0,o_ 4 (.bin .eql [3] (t_ 3) (.const (.slice none 0 0)))] (I_ 4 (G_ [o_ 2 (.mv (.const (.slice none 0 0)))] .ret) .skip)) (G_ [o_ 5 (.cX 0 [] []),m_ 6 0,⟨(some 7),none,(.append [(.string ⟨⟨[]⟩⟩),(.int .i64 0),(.int .i64 0),(.slice none 0 0)] 56 false (t_ 5) (t_ 6))⟩,m_ 2 7] .ret)))
theorem me:FF mu=some ⟨[(.tmp 2)],l0,.no⟩:=by kernel_rfl
def rD:ak:=(G_ [B_ 50 .lss 49 48] (J_ (H_ 50 4) (J_ (P_ 5 (G_ [m_ 51 49,a_ 52 8 47 49,L_ 53 8 52,o_ 8 (.alloc [(.int .i64 0),(.int .i64 0),(.bool false),(.int .i64 0),(.bool false),(.int .i64 0),(.int .i64 0),(.slice none 0 0)]),m_ 7 51,s_ 8 8 53] (V_ [D_ (f_ 54 1 4),D_ (l_ 55 54),D_ (m_ 56 7),D_ (f_ 57 7 8),D_ (l_ 58 57),(F_ 59 128 [t_ 58],[54]),D_ (a_ 60 8 55 56),D_ (f_ 61 7 60),D_ (s_ 1 61 59)]))) (O_ [C_ 62 .add 49 1,m_ 49 62]))))
def rE:ak:=(G_ [B_ 29 .lss 28 27] (J_ (H_ 29 2) (J_ (P_ 3 (G_ [m_ 30 28,a_ 31 2 26 28,L_ 32 2 31,o_ 6 (.alloc [(.int .i64 0),(.slice none 0 0)]),m_ 5 30,s_ 2 6 32] (V_ [D_ (f_ 33 0 4),D_ (l_ 34 33),D_ (m_ 35 5),D_ (f_ 36 1 6),D_ (l_ 37 36),(F_ 38 128 [t_ 37],[33]),D_ (a_ 39 2 34 35),D_ (f_ 40 1 39),D_ (s_ 1 40 38)]))) (O_ [C_ 41 .add 28 1,m_ 28 41]))))
def rG:ak:=(G_ [B_ 17 .lss 16 15] (J_ (H_ 17 0) (J_ (P_ 1 (G_ [m_ 18 16,a_ 19 6 14 16,L_ 20 6 19,o_ 4 (.alloc [(.slice none 0 0),(.slice none 0 0),(.int .i64 0),(.bool false),(.int .i64 0),(.slice none 0 0)]),m_ 3 18,s_ 6 4 20] (G_ [f_ 21 0 4,l_ 22 21,F_ 23 127 [t_ 22],f_ 24 0 4,s_ 1 24 23] (J_ (G_ [f_ 25 0 4,l_ 26 25,z_ 27 26,k_ 28 0] (Q_ 2 rE)) (G_ [f_ 42 1 4,l_ 43 42,F_ 44 129 [t_ 43],f_ 45 1 4,s_ 1 45 44] (J_ (G_ [f_ 46 1 4,l_ 47 46,z_ 48 47,k_ 49 0] (Q_ 4 rD)) (G_ [f_ 63 2 4,f_ 64 3 63,l_ 65 64,F_ 66 67 [t_ 65],f_ 67 2 4,f_ 68 3 67,s_ 1 68 66] (O_ [f_ 69 3 1,l_ 70 69,m_ 71 3,L_ 72 6 4,a_ 73 6 70 71,s_ 6 73 72])))))))) (O_ [C_ 74 .add 16 1,m_ 16 74]))))
abbrev Ak:Nat:=69
def zE:ak:=(G_ [x_ 1 0,⟨(some 2),none,(.alloc [(.string ⟨⟨[]⟩⟩),(.int .i64 0),(.int .i64 0),(.slice none 0 0)])⟩] (G_ [f_ 9 3 1,l_ 10 9,F_ 11 126 [t_ 10],f_ 12 3 1,s_ 1 12 11] (J_ (G_ [f_ 13 3 1,l_ 14 13,z_ 15 14,k_ 16 0] (Q_ 0 rG)) (G_ [L_ 75 4 1,s_ 4 2 75] .ret))))
theorem HZ:FF Ak=some ⟨[(.cell 2 (some 4))],zE,.no⟩:=by kernel_rfl
def vy:ak:=(G_ [B_ 10 .lss 9 8] (J_ (H_ 10 0) (J_ (P_ 1 (G_ [a_ 11 6 7 9,L_ 12 6 11,o_ 5 (.alloc [(.slice none 0 0),(.slice none 0 0),(.int .i64 0),(.bool false),(.int .i64 0),(.slice none 0 0)]),s_ 6 5 12] (O_ [m_ 13 3,f_ 14 0 5,l_ 15 14,z_ 16 15,f_ 17 1 5,l_ 18 17,z_ 19 18,B_ 20 .add 16 19,B_ 21 .add 13 20,m_ 3 21]))) (O_ [C_ 22 .add 9 1,m_ 9 22]))))
abbrev yx:Nat:=70
def yf:ak:=(G_ [x_ 1 0,M_ 2 false] (G_ [k_ 3 0] (J_ (G_ [f_ 6 3 1,l_ 7 6,z_ 8 7,k_ 9 0] (Q_ 0 vy)) (G_ [f_ 23 3 1,l_ 24 23,z_ 25 24,C_ 26 .gtr 25 40,m_ 27 26,q_ 28 27 false (.mv (t_ 3)),q_ 29 27 false (.bin .gtr [] (t_ 28) (i_ 300)),o_ 30 (.pick (t_ 27) (b_ true) (t_ 29)),m_ 31 30,q_ 32 31 false (.bM 2 (t_ 1)),q_ 33 31 false (.load none (t_ 32)),q_ 34 31 false (.bin .gtr [] (t_ 33) (i_ 100)),o_ 35 (.pick (t_ 31) (b_ true) (t_ 34)),m_ 2 35] .ret))))
theorem FK:FF yx=some ⟨[(.tmp 2)],yf,.no⟩:=by kernel_rfl
def jV:ak:=(J_ (G_ [m_ 16 6,m_ 17 0,z_ 18 17,B_ 19 .lss 16 18] (H_ 19 0)) (J_ (P_ 1 (G_ [m_ 22 0,m_ 23 6,a_ 24 2 22 23,L_ 25 2 24,o_ 7 (.alloc [(.int .i64 0),(.slice none 0 0)]),s_ 2 7 25] (G_ [m_ 26 1,L_ 27 2 7,o_ 28 (.call (t_ 26) [t_ 27]),o_ 29 (.un .not (t_ 28))] (I_ 29 (G_ [m_ 30 0,m_ 31 5,L_ 32 2 7,a_ 33 2 30 31,s_ 2 33 32] (O_ [m_ 34 5,C_ 35 .add 34 1,m_ 5 35])) .skip)))) (O_ [m_ 20 6,C_ 21 .add 20 1,m_ 6 21])))
abbrev fq:Nat:=72
def km:ak:=(G_ [o_ 4 (.mv (.const (.slice none 0 0)))] (G_ [m_ 8 0,m_ 9 1,F_ 10 133 [t_ 8,t_ 9],m_ 5 10] (J_ (G_ [m_ 11 5,o_ 12 (.bin .eql [1] (t_ 11) (.const (.int .i64 (Int.negSucc 0))))] (I_ 12 (G_ [m_ 13 0,m_ 4 13] .ret) .skip)) (J_ (G_ [m_ 14 5,C_ 15 .add 14 1,m_ 6 15] (Q_ 0 jV)) (G_ [m_ 36 0,m_ 37 5,o_ 38 (.slice 2 (t_ 36) (some (t_ 37)) none none),u_ (.clear [(.int .i64 0),(.slice none 0 0)] (t_ 38))] (G_ [m_ 39 0,m_ 40 5,o_ 41 (.slice 2 (t_ 39) none (some (t_ 40)) none),m_ 4 41] .ret))))))
theorem ku:FF fq=some ⟨[(.tmp 4)],km,.no⟩:=by kernel_rfl
abbrev wO:Nat:=76
def vX:ak:=(G_ [x_ 3 1,M_ 4 false] (J_ (P_ 0 (G_ [f_ 6 0 3,l_ 7 6,o_ 8 (.bin .eql [1] (t_ 7) (i_ 5)),m_ 9 8,q_ 10 9 false (.bM 0 (t_ 3)),q_ 11 9 false (.load none (t_ 10)),q_ 12 9 false (.bin .eql [1] (t_ 11) (i_ 6)),o_ 13 (.pick (t_ 9) (b_ true) (t_ 12)),m_ 5 13] (I_ 5 (G_ [f_ 14 4 3,f_ 15 0 14,l_ 16 15,o_ 17 (.un .not (t_ 16)),m_ 18 17,q_ 19 18 true (.bM 4 (t_ 3)),q_ 20 18 true (.bM 1 (t_ 19)),q_ 21 18 true (.load none (t_ 20)),q_ 22 18 true (.bin .neq [1] (t_ 21) (i_ 0)),o_ 23 (.pick (t_ 18) (t_ 22) (b_ false)),m_ 4 23] .ret) (G_ [f_ 25 0 3,l_ 26 25,o_ 27 (.bin .eql [1] (t_ 26) (i_ 18)),m_ 24 27] (I_ 24 (G_ [f_ 28 2 3,f_ 29 0 28,l_ 30 29,o_ 31 (.un .not (t_ 30)),m_ 32 31,q_ 33 32 true (.bM 2 (t_ 3)),q_ 34 32 true (.bM 1 (t_ 33)),q_ 35 32 true (.load none (t_ 34)),q_ 36 32 true (.mv (t_ 0)),q_ 37 32 true (.bin .sub [] (t_ 36) (i_ 1)),q_ 38 32 true (.call (.func 80) [t_ 35,(i_ 0),t_ 37]),o_ 39 (.pick (t_ 32) (t_ 38) (b_ false)),m_ 4 39] .ret) .skip))))) (G_ [f_ 40 0 3,l_ 41 40,F_ 42 80 [t_ 41,(i_ 1),(i_ 17)],m_ 4 42] .ret)))
theorem DI:FF wO=some ⟨[(.tmp 4)],vX,.no⟩:=by kernel_rfl
abbrev Cj:Nat:=77
def BM:ak:=(G_ [x_ 1 0,⟨(some 2),none,(.alloc [(.string ⟨⟨[]⟩⟩),(.int .i64 0),(.int .i64 0),(.slice none 0 0)])⟩] (J_ (V_ [D_ (L_ 3 4 1),D_ (L_ 4 4 1),(F_ 5 138 [t_ 4],[1]),(F_ 6 137 [t_ 3,t_ 5],[]),(F_ 7 136 [t_ 6],[]),(F_ 8 135 [t_ 7],[]),D_ (s_ 4 2 8)]) .ret))
theorem Kf:FF Cj=some ⟨[(.cell 2 (some 4))],BM,.no⟩:=by kernel_rfl
def yC:ak:=(G_ [B_ 16 .lss 15 14] (J_ (H_ 16 0) (J_ (P_ 1 (G_ [m_ 17 15,m_ 3 17] (G_ [m_ 18 0,m_ 19 3,o_ 20 (.index none (t_ 18) (t_ 19)),m_ 4 20] (G_ [m_ 21 4,o_ 22 (.bin .geq [] (t_ 21) (.const (.int .u8 97))),m_ 23 22,q_ 24 23 true (.mv (t_ 4)),q_ 25 23 true (.bin .leq [] (t_ 24) (.const (.int .u8 122))),o_ 26 (.pick (t_ 23) (t_ 25) (b_ false)),m_ 27 26,q_ 28 27 false (.mv (t_ 4)),q_ 29 27 false (.bin .geq [] (t_ 28) (.const (.int .u8 65))),q_ 30 27 false (.mv (t_ 29)),q_ 31 30 true (.mv (t_ 4)),q_ 32 30 true (.bin .leq [] (t_ 31) (.const (.int .u8 90))),q_ 33 27 false (.pick (t_ 30) (t_ 32) (b_ false)),o_ 34 (.pick (t_ 27) (b_ true) (t_ 33)),m_ 35 34,q_ 36 35 false (.mv (t_ 4)),q_ 37 35 false (.bin .eql [1] (t_ 36) (.const (.int .u8 95))),o_ 38 (.pick (t_ 35) (b_ true) (t_ 37)),m_ 39 38,q_ 40 39 false (.mv (t_ 3)),q_ 41 39 false (.bin .gtr [] (t_ 40) (i_ 0)),q_ 42 39 false (.mv (t_ 41)),q_ 43 42 true (.mv (t_ 4)),q_ 44 42 true (.bin .geq [] (t_ 43) (.const (.int .u8 48))),q_ 45 39 false (.pick (t_ 42) (t_ 44) (b_ false)),q_ 46 39 false (.mv (t_ 45)),q_ 47 46 true (.mv (t_ 4)),q_ 48 46 true (.bin .leq [] (t_ 47) (.const (.int .u8 57))),q_ 49 39 false (.pick (t_ 46) (t_ 48) (b_ false)),o_ 50 (.pick (t_ 39) (b_ true) (t_ 49)),o_ 51 (.un .not (t_ 50))] (I_ 51 (G_ [M_ 2 false] .ret) .skip))))) (O_ [C_ 52 .add 15 1,m_ 15 52]))))
abbrev Cc:Nat:=78
def BH:ak:=(G_ [M_ 2 false] (J_ (G_ [m_ 5 0,o_ 6 (.JD (t_ 5)),C_ 7 .lss 6 1,m_ 8 7,q_ 9 8 false (.mv (t_ 0)),q_ 10 8 false (.JD (t_ 9)),q_ 11 8 false (.bin .gtr [] (t_ 10) (i_ 12)),o_ 12 (.pick (t_ 8) (b_ true) (t_ 11))] (I_ 12 (G_ [M_ 2 false] .ret) .skip)) (J_ (G_ [m_ 13 0,o_ 14 (.JD (t_ 13)),k_ 15 0] (Q_ 0 yC)) (G_ [M_ 2 true] .ret))))
theorem Ka:FF Cc=some ⟨[(.tmp 2)],BH,.no⟩:=by kernel_rfl
abbrev gG:Nat:=79
def gC:ak:=(G_ [M_ 4 false] (G_ [m_ 5 0,m_ 6 1,F_ 7 139 [t_ 5,t_ 6],C_ 8 .geq 7 0,m_ 4 8] .ret))
theorem mG:FF gG=some ⟨[(.tmp 4)],gC,.no⟩:=by kernel_rfl
abbrev yv:Nat:=80
def yd:ak:=(G_ [M_ 6 false] (G_ [m_ 7 0,m_ 8 1,B_ 9 .geq 7 8,m_ 10 9,q_ 11 10 true (.mv (t_ 0)),q_ 12 10 true (.mv (t_ 2)),q_ 13 10 true (.bin .leq [] (t_ 11) (t_ 12)),o_ 14 (.pick (t_ 10) (t_ 13) (b_ false)),m_ 6 14] .ret))
theorem FI:FF yv=some ⟨[(.tmp 6)],yd,.no⟩:=by kernel_rfl
def mR:ak:=(G_ [B_ 13 .lss 12 11] (J_ (H_ 13 0) (J_ (P_ 1 (G_ [a_ 14 6 10 12,L_ 15 6 14,o_ 7 (.alloc [(.slice none 0 0),(.slice none 0 0),(.int .i64 0),(.bool false),(.int .i64 0),(.slice none 0 0)]),s_ 6 7 15] (O_ [m_ 16 5,f_ 17 0 7,l_ 18 17,z_ 19 18,f_ 20 1 7,l_ 21 20,z_ 22 21,B_ 23 .add 19 22,B_ 24 .add 16 23,m_ 5 24]))) (O_ [C_ 25 .add 12 1,m_ 12 25]))))
abbrev pN:Nat:=81
def pA:ak:=(G_ [x_ 2 0,k_ 4 0] (G_ [k_ 5 0] (J_ (G_ [f_ 8 2 2,f_ 9 3 8,l_ 10 9,z_ 11 10,k_ 12 0] (Q_ 0 mR)) (J_ (P_ 2 (G_ [f_ 27 2 2,f_ 28 0 27,l_ 29 28,F_ 30 78 [t_ 29],o_ 31 (.un .not (t_ 30)),m_ 26 31] (I_ 26 (G_ [k_ 4 12] .ret) (G_ [m_ 33 1,f_ 34 2 2,f_ 35 0 34,l_ 36 35,F_ 37 79 [t_ 33,t_ 36],m_ 32 37] (I_ 32 (G_ [k_ 4 7] .ret) (G_ [f_ 39 2 2,f_ 40 1 39,l_ 41 40,F_ 42 80 [t_ 41,(i_ 0),(i_ 6)],o_ 43 (.un .not (t_ 42)),m_ 44 43,q_ 45 44 false (.bM 2 (t_ 2)),q_ 46 44 false (.bM 2 (t_ 45)),q_ 47 44 false (.load none (t_ 46)),q_ 48 44 false (.bM 2 (t_ 2)),q_ 49 44 false (.bM 1 (t_ 48)),q_ 50 44 false (.load none (t_ 49)),q_ 51 44 false (.call (.func 80) [t_ 47,t_ 50,(i_ 100)]),q_ 52 44 false (.un .not (t_ 51)),o_ 53 (.pick (t_ 44) (b_ true) (t_ 52)),m_ 38 53] (I_ 38 (G_ [k_ 4 3] .ret) (G_ [f_ 55 2 2,f_ 56 3 55,l_ 57 56,z_ 58 57,F_ 59 80 [t_ 58,(i_ 1),(i_ 40)],o_ 60 (.un .not (t_ 59)),m_ 61 60,q_ 62 61 false (.mv (t_ 5)),q_ 63 61 false (.bin .gtr [] (t_ 62) (i_ 300)),o_ 64 (.pick (t_ 61) (b_ true) (t_ 63)),m_ 54 64] (I_ 54 (G_ [k_ 4 2] .ret) .skip))))))))) (G_ [k_ 4 0] .ret)))))
theorem xK:FF pN=some ⟨[(.tmp 4)],pA,.no⟩:=by kernel_rfl
def iP:ak:=(G_ [B_ 62 .lss 61 60] (J_ (H_ 62 6) (J_ (P_ 7 (G_ [a_ 63 8 59 61,L_ 64 8 63,o_ 12 (.alloc [(.int .i64 0),(.int .i64 0),(.bool false),(.int .i64 0),(.bool false),(.int .i64 0),(.int .i64 0),(.slice none 0 0)]),s_ 8 12 64] (G_ [L_ 65 7 1,L_ 66 8 12,F_ 67 143 [t_ 65,t_ 66],m_ 13 67] (G_ [m_ 68 13,o_ 69 (.bin .neq [1] (t_ 68) (i_ 0))] (I_ 69 (G_ [m_ 70 13,m_ 2 70] .ret) .skip))))) (O_ [C_ 71 .add 61 1,m_ 61 71]))))
def iQ:ak:=(G_ [B_ 47 .lss 46 45] (J_ (H_ 47 4) (J_ (P_ 5 (G_ [a_ 48 2 44 46,L_ 49 2 48,o_ 9 (.alloc [(.int .i64 0),(.slice none 0 0)]),s_ 2 9 49] (G_ [L_ 50 7 1,m_ 51 6,L_ 52 2 9,F_ 53 142 [t_ 50,t_ 51,t_ 52],m_ 10 53] (G_ [m_ 54 10,o_ 55 (.bin .neq [1] (t_ 54) (i_ 0))] (I_ 55 (G_ [m_ 56 10,m_ 2 56] .ret) .skip))))) (O_ [C_ 57 .add 46 1,m_ 46 57]))))
def iS:ak:=(G_ [B_ 39 .lss 38 37] (J_ (H_ 39 2) (J_ (P_ 3 (G_ [m_ 40 38,a_ 41 6 36 38,L_ 42 6 41,o_ 7 (.alloc [(.slice none 0 0),(.slice none 0 0),(.int .i64 0),(.bool false),(.int .i64 0),(.slice none 0 0)]),m_ 6 40,s_ 6 7 42] (J_ (G_ [f_ 43 0 7,l_ 44 43,z_ 45 44,k_ 46 0] (Q_ 4 iQ)) (G_ [f_ 58 1 7,l_ 59 58,z_ 60 59,k_ 61 0] (Q_ 6 iP))))) (O_ [C_ 72 .add 38 1,m_ 38 72]))))
def iT:ak:=(G_ [B_ 19 .lss 18 17] (J_ (H_ 19 0) (J_ (P_ 1 (G_ [a_ 20 6 16 18,L_ 21 6 20,o_ 4 (.alloc [(.slice none 0 0),(.slice none 0 0),(.int .i64 0),(.bool false),(.int .i64 0),(.slice none 0 0)]),s_ 6 4 21] (G_ [L_ 22 7 1,f_ 23 2 4,L_ 24 4 23,F_ 25 140 [t_ 22,t_ 24],m_ 5 25] (G_ [m_ 26 5,o_ 27 (.bin .neq [1] (t_ 26) (i_ 0))] (I_ 27 (G_ [m_ 28 5,m_ 2 28] .ret) .skip))))) (O_ [C_ 29 .add 18 1,m_ 18 29]))))
abbrev pM:Nat:=82
def pz:ak:=(G_ [x_ 1 0,k_ 2 0] (J_ (G_ [f_ 14 2 1,f_ 15 3 14,l_ 16 15,z_ 17 16,k_ 18 0] (Q_ 0 iT)) (G_ [f_ 30 2 1,L_ 31 4 30,F_ 32 141 [t_ 31],f_ 33 6 1,s_ 1 33 32] (J_ (G_ [f_ 34 2 1,f_ 35 3 34,l_ 36 35,z_ 37 36,k_ 38 0] (Q_ 2 iS)) (G_ [k_ 2 0] .ret)))))
theorem xJ:FF pM=some ⟨[(.tmp 2)],pz,.no⟩:=by kernel_rfl
def eE:ak:=(G_ [B_ 9 .lss 8 7] (J_ (H_ 9 0) (J_ (P_ 1 (G_ [m_ 10 8,m_ 5 10] (G_ [m_ 11 1,m_ 12 0,m_ 13 5,a_ 14 4 12 13,L_ 15 4 14,o_ 16 (.call (t_ 11) [t_ 15])] (I_ 16 (G_ [m_ 17 5,m_ 4 17] .ret) .skip)))) (O_ [C_ 18 .add 8 1,m_ 8 18]))))
abbrev eW:Nat:=83
def eT:ak:=(.seq (.ops [⟨(some 4),none,(.mv (.const (.int .i64 0)))⟩]) (.seq (.seq (.ops [⟨(some 6),none,(.mv (.tmp 0))⟩,⟨(some 7),none,(.uU (.tmp 6))⟩,⟨(some 8),none,(.mv (.const (.int .i64 0)))⟩]) (.block 0 (.loop eE))) (.seq (.ops [⟨(some 4),none,(.mv (.const (.int .i64 (Int.negSucc 0))))⟩]) .ret)))
theorem j7:FF eW=some ⟨[(.tmp 4)],eT,.no⟩:=by kernel_rfl
abbrev jC:Nat:=84
def vV:ak:=(G_ [x_ 1 0,M_ 2 false] (G_ [f_ 3 0 1,l_ 4 3,⟨(some 5),none,(.bin .eql [2] (t_ 4) (.const (.string ⟨⟨[109,97,105,110]⟩⟩)))⟩,m_ 2 5] .ret))
theorem DG:FF jC=some ⟨[(.tmp 2)],vV,.no⟩:=by kernel_rfl
def rm:ak:=(G_ [B_ 56 .lss 55 54] (J_ (H_ 56 6) (J_ (P_ 7 (G_ [a_ 57 1 53 55,l_ 58 57,m_ 14 58] (P_ 8 (G_ [m_ 65 5,m_ 66 14,a_ 67 1 65 66,l_ 68 67,C_ 69 .lss 68 0,m_ 64 69] (I_ 64 .skip (G_ [m_ 71 12,C_ 72 .lss 71 0,m_ 70 72] (I_ 70 (O_ [m_ 73 14,m_ 12 73]) (O_ [m_ 59 5,m_ 60 4,m_ 61 12,m_ 62 14,F_ 63 145 [t_ 59,t_ 60,t_ 61,t_ 62],m_ 12 63])))))))) (O_ [C_ 74 .add 55 1,m_ 55 74]))))
def jI:ak:=(G_ [B_ 47 .lss 46 45] (J_ (H_ 47 4) (J_ (P_ 5 (G_ [a_ 48 1 44 46,l_ 49 48,m_ 11 49] (G_ [k_ 12 (Int.negSucc 0)] (J_ (G_ [m_ 50 8,m_ 51 11,a_ 52 1 50 51,l_ 53 52,z_ 54 53,k_ 55 0] (Q_ 6 rm)) (G_ [m_ 75 5,m_ 76 11,a_ 77 1 75 76,l_ 78 77,m_ 79 12,o_ 80 (.bin .neq [1] (t_ 78) (t_ 79))] (I_ 80 (O_ [m_ 81 5,m_ 82 11,m_ 83 12,a_ 84 1 81 82,s_ 1 84 83,M_ 9 true]) .skip)))))) (O_ [C_ 85 .add 46 1,m_ 46 85]))))
def rq:ak:=(J_ (G_ [m_ 42 9] (H_ 42 2)) (P_ 3 (G_ [M_ 9 false] (G_ [m_ 43 3,o_ 44 (.slice 1 (t_ 43) (some (i_ 1)) none none),z_ 45 44,k_ 46 0] (Q_ 4 jI)))))
def rC:ak:=(G_ [B_ 29 .lss 28 27] (J_ (H_ 29 0) (J_ (P_ 1 (G_ [m_ 30 28,a_ 31 1 26 28,l_ 32 31,m_ 6 30,m_ 7 32] (O_ [m_ 33 4,m_ 34 7,m_ 35 6,a_ 36 1 33 34,s_ 1 36 35]))) (O_ [C_ 37 .add 28 1,m_ 28 37]))))
abbrev Aj:Nat:=85
def zD:ak:=(G_ [x_ 1 0,o_ 2 (.mv (.const (.slice none 0 0)))] (G_ [L_ 15 4 1,F_ 16 138 [t_ 15],m_ 3 16] (G_ [f_ 17 3 1,l_ 18 17,z_ 19 18,o_ 20 (.ik [(.int .i64 0)] 8 (t_ 19) (t_ 19)),m_ 4 20] (G_ [o_ 21 (.cX 1 [(.int .i64 0)] [(0,(1,(.const (.int .i64 (Int.negSucc 0)))))]),f_ 22 3 1,l_ 23 22,z_ 24 23,F_ 25 144 [t_ 21,t_ 24],m_ 5 25] (J_ (G_ [m_ 26 3,z_ 27 26,k_ 28 0] (Q_ 0 rC)) (G_ [m_ 38 5,o_ 39 (.cR none 1 (t_ 38) (i_ 0)),u_ (.store 1 (t_ 39) (i_ 0))] (G_ [L_ 40 4 1,F_ 41 101 [t_ 40],m_ 8 41] (J_ (G_ [M_ 9 true] (Q_ 2 rq)) (G_ [m_ 86 5,o_ 87 (.cR none 1 (t_ 86) (i_ 0)),u_ (.store 1 (t_ 87) (.const (.int .i64 (Int.negSucc 0))))] (G_ [m_ 88 5,m_ 2 88] .ret))))))))))
theorem HY:FF Aj=some ⟨[(.tmp 2)],zD,.no⟩:=by kernel_rfl
def iG:ak:=(J_ (G_ [m_ 34 8,m_ 35 7,z_ 36 35,B_ 37 .lss 34 36] (H_ 37 0)) (P_ 1 (V_ [D_ (m_ 38 8),D_ (m_ 39 7),D_ (m_ 40 8),(o_ 41 (.slice 2 (t_ 39) (some (t_ 40)) none none),[]),D_ (m_ 42 7),D_ (m_ 43 8),(o_ 44 (.slice 2 (t_ 42) none (some (t_ 43)) none),[]),(o_ 45 (.copy 2 (t_ 41) (t_ 44)),[]),D_ (B_ 46 .add 38 45),D_ (m_ 8 46)])))
abbrev cO:Nat:=86
def jg:ak:=(G_ [o_ 4 (.mv (.const (.slice none 0 0)))] (J_ (G_ [m_ 9 1,C_ 10 .lss 9 0] (I_ 10 (O_ [⟨(some 11),none,.bad⟩,⟨none,none,.bad⟩]) .skip)) (G_ [m_ 13 0,z_ 14 13,o_ 15 (.conv .u64 (t_ 14)),m_ 16 1,o_ 17 (.conv .u64 (t_ 16)),F_ 18 146 [t_ 15,t_ 17],m_ 12 18,o_ 19 (.ext 0 (t_ 12)),o_ 20 (.ext 1 (t_ 12)),m_ 5 19,m_ 6 20] (J_ (G_ [m_ 21 5,o_ 22 (.bin .gtr [] (t_ 21) (.const (.int .u64 0))),m_ 23 22,q_ 24 23 false (.mv (t_ 6)),q_ 25 23 false (.bin .gtr [] (t_ 24) (.const (.int .u64 9223372036854775807))),o_ 26 (.pick (t_ 23) (b_ true) (t_ 25))] (I_ 26 (O_ [⟨(some 27),none,.bad⟩,⟨none,none,.bad⟩]) .skip)) (G_ [m_ 28 6,o_ 29 (.conv .i64 (t_ 28)),o_ 30 (.ik [(.int .i64 0),(.int .i64 0)] 16 (t_ 29) (t_ 29)),m_ 7 30] (G_ [m_ 31 7,m_ 32 0,o_ 33 (.copy 2 (t_ 31) (t_ 32)),m_ 8 33] (J_ (Q_ 0 iG) (G_ [m_ 47 7,m_ 4 47] .ret))))))))
theorem ed:FF cO=some ⟨[(.tmp 4)],jg,.no⟩:=by kernel_rfl
abbrev Am:Nat:=87
def zG:ak:=(G_ [x_ 1 0,o_ 2 (.mv (.const (.slice none 0 0)))] (G_ [o_ 3 (.alloc [(.slice none 0 0)])] (G_ [f_ 6 3 1,l_ 7 6,z_ 8 7,o_ 9 (.ik [(.bool false)] 1 (t_ 8) (t_ 8)),o_ 4 (.alloc [(.slice none 0 0)]),s_ 1 4 9] (G_ [o_ 5 (.alloc [.nilFunc])] (G_ [o_ 10 (.uz 147 [t_ 4,t_ 1,t_ 5,t_ 3]),s_ 1 5 10] (G_ [l_ 11 5,o_ 12 (.call (t_ 11) [(i_ 0)])] (G_ [l_ 13 3,m_ 2 13] .ret)))))))
theorem H6:FF Am=some ⟨[(.tmp 2)],zG,.no⟩:=by kernel_rfl
def ir:ak:=(G_ [B_ 57 .lss 56 55] (J_ (H_ 57 6) (J_ (P_ 7 (G_ [m_ 58 56,a_ 59 8 54 56,L_ 60 8 59,o_ 10 (.alloc [(.int .i64 0),(.int .i64 0),(.bool false),(.int .i64 0),(.bool false),(.int .i64 0),(.int .i64 0),(.slice none 0 0)]),m_ 9 58,s_ 8 10 60] (O_ [f_ 61 1 10,l_ 62 61,C_ 63 .lss 62 0,m_ 64 63,q_ 65 64 false (.mv (t_ 0)),q_ 66 64 false (.bM 1 (t_ 10)),q_ 67 64 false (.load none (t_ 66)),q_ 68 64 false (.mv (t_ 5)),q_ 69 64 false (.mv (t_ 9)),q_ 70 64 false (.call (.func 149) [t_ 65,t_ 67,t_ 68,t_ 69]),o_ 71 (.pick (t_ 64) (b_ true) (t_ 70)),m_ 72 71,q_ 73 72 true (.mv (t_ 3)),o_ 74 (.pick (t_ 72) (t_ 73) (b_ false)),m_ 3 74]))) (O_ [C_ 75 .add 56 1,m_ 56 75]))))
def iu:ak:=(G_ [B_ 41 .lss 40 39] (J_ (H_ 41 4) (J_ (P_ 5 (G_ [a_ 42 2 38 40,L_ 43 2 42,o_ 8 (.alloc [(.int .i64 0),(.slice none 0 0)]),s_ 2 8 43] (O_ [m_ 44 0,f_ 45 0 8,l_ 46 45,m_ 47 5,F_ 48 149 [t_ 44,t_ 46,t_ 47,(.const (.int .i64 (Int.negSucc 0)))],m_ 49 48,q_ 50 49 true (.mv (t_ 3)),o_ 51 (.pick (t_ 49) (t_ 50) (b_ false)),m_ 3 51]))) (O_ [C_ 52 .add 40 1,m_ 40 52]))))
def mA:ak:=(G_ [B_ 33 .lss 32 31] (J_ (H_ 33 2) (J_ (P_ 3 (G_ [m_ 34 32,a_ 35 6 30 32,L_ 36 6 35,o_ 6 (.alloc [(.slice none 0 0),(.slice none 0 0),(.int .i64 0),(.bool false),(.int .i64 0),(.slice none 0 0)]),m_ 5 34,s_ 6 6 36] (J_ (G_ [f_ 37 0 6,l_ 38 37,z_ 39 38,k_ 40 0] (Q_ 4 iu)) (G_ [f_ 53 1 6,l_ 54 53,z_ 55 54,k_ 56 0] (Q_ 6 ir))))) (O_ [C_ 76 .add 32 1,m_ 32 76]))))
def iv:ak:=(G_ [B_ 17 .lss 16 15] (J_ (H_ 17 0) (J_ (P_ 1 (G_ [m_ 18 16,m_ 4 18] (O_ [m_ 19 0,m_ 20 4,F_ 21 149 [t_ 19,t_ 20,(i_ 0),(.const (.int .i64 (Int.negSucc 0)))],m_ 22 21,q_ 23 22 true (.mv (t_ 3)),o_ 24 (.pick (t_ 22) (t_ 23) (b_ false)),m_ 3 24]))) (O_ [C_ 25 .add 16 1,m_ 16 25]))))
abbrev oz:Nat:=88
def oh:ak:=(G_ [M_ 2 false] (G_ [M_ 3 true] (J_ (G_ [m_ 11 0,o_ 12 (.aY (t_ 11)),f_ 13 0 12,f_ 14 1 13,l_ 15 14,k_ 16 0] (Q_ 0 iv)) (J_ (G_ [m_ 26 0,o_ 27 (.aY (t_ 26)),f_ 28 0 27,f_ 29 3 28,l_ 30 29,z_ 31 30,k_ 32 0] (Q_ 2 mA)) (G_ [m_ 77 3,m_ 2 77] .ret)))))
theorem wh:FF oz=some ⟨[(.tmp 2)],oh,.no⟩:=by kernel_rfl
def jJ:ak:=(G_ [B_ 73 .lss 72 71] (J_ (H_ 73 6) (J_ (P_ 7 (G_ [m_ 74 72,a_ 75 8 70 72,L_ 76 8 75,o_ 11 (.alloc [(.int .i64 0)]),o_ 12 (.alloc [(.int .i64 0),(.int .i64 0),(.bool false),(.int .i64 0),(.bool false),(.int .i64 0),(.int .i64 0),(.slice none 0 0)]),s_ 1 11 74,s_ 8 12 76] (G_ [L_ 77 8 12,F_ 78 132 [t_ 77]] (P_ 8 (.Qk (t_ 78) [79] (O_ [o_ 13 (.alloc [(.bool false),(.int .i64 0)]),s_ 2 13 79]) (P_ 9 (G_ [l_ 80 1,L_ 81 2 13,l_ 82 4,l_ 83 11,F_ 84 150 [t_ 80,t_ 81,t_ 82,t_ 83],o_ 85 (.un .not (t_ 84))] (I_ 85 (G_ [u_ (.store 1 (t_ 2) (b_ false))] .ret) .skip)))))))) (O_ [C_ 86 .add 72 1,m_ 72 86]))))
def jK:ak:=(G_ [B_ 41 .lss 40 39] (J_ (H_ 41 4) (J_ (P_ 5 (G_ [m_ 42 40,a_ 43 2 38 40,L_ 44 2 43,o_ 9 (.alloc [(.bool false),(.int .i64 0)]),m_ 8 42,s_ 2 9 44] (G_ [m_ 45 3,l_ 46 4,a_ 47 1 45 46,l_ 48 47,m_ 49 8,a_ 50 1 48 49,l_ 51 50,m_ 10 51] (J_ (V_ [D_ (l_ 52 1),D_ (L_ 53 2 9),D_ (m_ 54 10),D_ (l_ 55 1),(o_ 56 (.aY (t_ 55)),[]),D_ (f_ 57 0 56),D_ (f_ 58 3 57),D_ (l_ 59 58),D_ (m_ 60 10),D_ (a_ 61 6 59 60),D_ (f_ 62 1 61),D_ (l_ 63 62),D_ (z_ 64 63),(F_ 65 150 [t_ 52,t_ 53,t_ 54,t_ 64],[]),(o_ 66 (.un .not (t_ 65)),[])]) (I_ 66 (G_ [u_ (.store 1 (t_ 2) (b_ false))] .ret) .skip))))) (O_ [C_ 67 .add 40 1,m_ 40 67]))))
def jL:ak:=(G_ [B_ 34 .lss 33 32] (J_ (H_ 34 2) (J_ (P_ 3 (G_ [a_ 35 2 31 33,L_ 36 2 35,o_ 7 (.alloc [(.int .i64 0),(.slice none 0 0)]),s_ 2 7 36] (G_ [f_ 37 1 7,l_ 38 37,z_ 39 38,k_ 40 0] (Q_ 4 jK)))) (O_ [C_ 68 .add 33 1,m_ 33 68]))))
def oJ:ak:=(G_ [B_ 26 .lss 25 24] (J_ (H_ 26 0) (J_ (P_ 1 (G_ [m_ 27 25,a_ 28 6 23 25,L_ 29 6 28,o_ 4 (.alloc [(.int .i64 0)]),o_ 5 (.alloc [(.slice none 0 0),(.slice none 0 0),(.int .i64 0),(.bool false),(.int .i64 0),(.slice none 0 0)]),s_ 1 4 27,s_ 6 5 29] (J_ (G_ [f_ 30 0 5,l_ 31 30,z_ 32 31,k_ 33 0] (Q_ 2 jL)) (J_ (G_ [f_ 69 1 5,l_ 70 69,z_ 71 70,k_ 72 0] (Q_ 6 jJ)) (G_ [l_ 87 1,f_ 88 2 5,f_ 89 1 88,L_ 90 2 89,l_ 91 4,f_ 92 1 5,l_ 93 92,z_ 94 93,F_ 95 150 [t_ 87,t_ 90,t_ 91,t_ 94],o_ 96 (.un .not (t_ 95))] (I_ 96 (G_ [u_ (.store 1 (t_ 2) (b_ false))] .ret) .skip)))))) (O_ [C_ 97 .add 25 1,m_ 25 97]))))
abbrev qS:Nat:=89
def qD:ak:=(G_ [x_ 1 0,o_ 2 (.alloc [(.bool false)])] (G_ [l_ 14 1,o_ 15 (.aY (t_ 14)),f_ 16 0 15,L_ 17 4 16,F_ 18 101 [t_ 17],m_ 3 18] (J_ (G_ [l_ 19 1,o_ 20 (.aY (t_ 19)),f_ 21 0 20,f_ 22 3 21,l_ 23 22,z_ 24 23,k_ 25 0] (Q_ 0 oJ)) (G_ [u_ (.store 1 (t_ 2) (b_ true))] .ret))))
theorem yS:FF qS=some ⟨[(.cell 2 none)],qD,.no⟩:=by kernel_rfl
set_option maxRecDepth 100000
def uF:ak:=(G_ [B_ 10 .lss 9 8] (J_ (H_ 10 0) (J_ (P_ 1 (G_ [m_ 11 9,m_ 2 11] (G_ [m_ 12 0,o_ 13 (.aY (t_ 12)),f_ 14 3 13,l_ 15 14,m_ 16 2,a_ 17 6 15 16,f_ 18 2 17,L_ 19 4 18,o_ 3 (.alloc [(.int .i64 0),(.bool false),(.int .i64 0),(.slice none 0 0)]),s_ 4 3 19] (P_ 2 (G_ [f_ 28 0 3,l_ 29 28,o_ 30 (.bin .neq [1] (t_ 29) (i_ 3)),m_ 31 30,q_ 32 31 false (.bM 1 (t_ 3)),q_ 33 31 false (.bM 0 (t_ 32)),q_ 34 31 false (.load none (t_ 33)),o_ 35 (.pick (t_ 31) (b_ true) (t_ 34)),m_ 27 35] (I_ 27 .skip (G_ [f_ 37 1 3,f_ 38 1 37,l_ 39 38,o_ 40 (.bin .neq [1] (t_ 39) (i_ 0)),m_ 36 40] (I_ 36 (O_ [m_ 41 0,m_ 42 2,f_ 43 3 3,l_ 44 43,o_ 45 (.cR none 1 (t_ 44) (i_ 0)),l_ 46 45,F_ 47 156 [t_ 41,t_ 42,t_ 46]]) (O_ [m_ 20 0,m_ 21 2,f_ 22 3 3,l_ 23 22,o_ 24 (.cR none 1 (t_ 23) (i_ 1)),l_ 25 24,F_ 26 156 [t_ 20,t_ 21,t_ 25]]))))))))) (O_ [C_ 48 .add 9 1,m_ 9 48]))))
abbrev wP:Nat:=100
def vY:ak:=(G_ [m_ 4 0,o_ 5 (.aY (t_ 4)),f_ 6 3 5,l_ 7 6,z_ 8 7,k_ 9 0] (Q_ 0 uF))
theorem DJ:FF wP=some ⟨[],vY,.no⟩:=by kernel_rfl
def po:ak:=(G_ [B_ 25 .lss 24 23] (J_ (H_ 25 2) (J_ (P_ 3 (G_ [a_ 26 1 22 24,l_ 27 26,m_ 7 27] (O_ [m_ 28 3,m_ 29 7,m_ 30 3,m_ 31 7,a_ 32 1 30 31,l_ 33 32,m_ 34 4,o_ 35 (.cX 1 [(.int .i64 0)] [(0,(1,(t_ 34)))]),o_ 36 (.append [(.int .i64 0)] 8 false (t_ 33) (t_ 35)),a_ 37 1 28 29,s_ 1 37 36]))) (O_ [C_ 38 .add 24 1,m_ 24 38]))))
def vx:ak:=(G_ [B_ 16 .lss 15 14] (J_ (H_ 16 0) (J_ (P_ 1 (G_ [m_ 17 15,a_ 18 6 13 15,L_ 19 6 18,o_ 5 (.alloc [(.slice none 0 0),(.slice none 0 0),(.int .i64 0),(.bool false),(.int .i64 0),(.slice none 0 0)]),m_ 4 17,s_ 6 5 19] (G_ [f_ 20 2 5,f_ 21 3 20,l_ 22 21,z_ 23 22,k_ 24 0] (Q_ 2 po)))) (O_ [C_ 39 .add 15 1,m_ 15 39]))))
abbrev yw:Nat:=101
def ye:ak:=(G_ [x_ 1 0,o_ 2 (.mv (.const (.slice none 0 0)))] (G_ [f_ 8 3 1,l_ 9 8,z_ 10 9,o_ 11 (.ik [(.slice none 0 0)] 24 (t_ 10) (t_ 10)),m_ 3 11] (J_ (G_ [f_ 12 3 1,l_ 13 12,z_ 14 13,k_ 15 0] (Q_ 0 vx)) (G_ [m_ 40 3,m_ 2 40] .ret))))
theorem FJ:FF yw=some ⟨[(.tmp 2)],ye,.no⟩:=by kernel_rfl
def nr:ak:=(G_ [B_ 42 .lss 41 40] (J_ (H_ 42 4) (J_ (P_ 5 (G_ [m_ 43 41,m_ 5 43] (G_ [m_ 44 3,m_ 45 5,F_ 46 176 [t_ 44,t_ 45]] (I_ 46 (O_ [m_ 47 3,m_ 48 5,F_ 49 177 [t_ 47,t_ 48]]) .skip)))) (O_ [C_ 50 .add 41 1,m_ 41 50]))))
def nt:ak:=(J_ (G_ [m_ 31 3,o_ 32 (.aY (t_ 31)),f_ 33 7 32,l_ 34 33] (H_ 34 2)) (P_ 3 (G_ [m_ 35 3,o_ 36 (.aY (t_ 35)),f_ 37 7 36,u_ (.store 1 (t_ 37) (b_ false))] (G_ [f_ 38 3 1,l_ 39 38,z_ 40 39,k_ 41 0] (Q_ 4 nr)))))
def nu:ak:=(G_ [B_ 18 .lss 17 16] (J_ (H_ 18 0) (J_ (P_ 1 (G_ [m_ 19 17,m_ 4 19] (O_ [m_ 20 3,o_ 21 (.aY (t_ 20)),f_ 22 5 21,l_ 23 22,m_ 24 4,o_ 25 (.build [(.int .i64 0),(.int .i64 0)] [(0,(1,(i_ 2)))]),a_ 26 2 23 24,s_ 2 26 25]))) (O_ [C_ 27 .add 17 1,m_ 17 27]))))
abbrev wQ:Nat:=115
def vZ:ak:=(G_ [x_ 1 0,o_ 2 (.mv (.const (.pointer none)))] (J_ (V_ [D_ (L_ 6 4 1),D_ (L_ 7 4 1),D_ (f_ 9 2 1),D_ (l_ 10 9),(o_ 11 (.ik [(.int .i64 0),(.int .i64 0)] 16 (t_ 10) (t_ 10)),[]),(⟨(some 12),none,.Ey⟩,[]),(F_ 8 101 [t_ 7],[1,9,11,12]),(⟨(some 13),none,(.build [(.string ⟨⟨[]⟩⟩),(.int .i64 0),(.int .i64 0),(.slice none 0 0),(.slice none 0 0),(.slice none 0 0),(.map none),(.bool false)] [(0,(4,(t_ 6))),(4,(1,(t_ 8))),(5,(1,(t_ 11))),(6,(1,(t_ 12)))])⟩,[]),D_ (x_ 14 13),D_ (m_ 3 14)]) (J_ (G_ [f_ 15 1 1,l_ 16 15,k_ 17 0] (Q_ 0 nu)) (J_ (G_ [m_ 28 3,o_ 29 (.aY (t_ 28)),f_ 30 7 29,u_ (.store 1 (t_ 30) (b_ true))] (Q_ 2 nt)) (G_ [m_ 51 3,m_ 2 51] .ret)))))
theorem DK:FF wQ=some ⟨[(.tmp 2)],vZ,.no⟩:=by kernel_rfl
def iY:ak:=(G_ [B_ 75 .lss 74 73] (J_ (H_ 75 6) (J_ (P_ 7 (G_ [m_ 76 74,a_ 77 2 72 74,L_ 78 2 77,o_ 16 (.alloc [(.bool false),(.int .i64 0)]),m_ 15 76,s_ 2 16 78] (V_ [D_ (f_ 79 7 14),D_ (l_ 80 79),D_ (m_ 81 15),D_ (l_ 82 3),D_ (L_ 83 2 16),(F_ 84 179 [t_ 82,t_ 83],[79]),D_ (a_ 85 2 80 81),D_ (s_ 2 85 84)]))) (O_ [C_ 86 .add 74 1,m_ 74 86]))))
def Fl:ak:=(V_ [D_ (f_ 87 1 14),D_ (l_ 88 87),D_ (C_ 89 .lss 88 0),D_ (m_ 90 89),(q_ 91 90 false (.load none (t_ 3)),[]),(q_ 92 90 false (.aY (t_ 91)),[]),(q_ 93 90 false (.bM 5 (t_ 92)),[]),(q_ 94 90 false (.load none (t_ 93)),[]),(q_ 95 90 false (.bM 1 (t_ 14)),[]),(q_ 96 90 false (.load none (t_ 95)),[]),(q_ 97 90 false (.cR none 2 (t_ 94) (t_ 96)),[]),(q_ 98 90 false (.bM 0 (t_ 97)),[]),(q_ 99 90 false (.load none (t_ 98)),[]),(q_ 100 90 false (.bin .neq [1] (t_ 99) (i_ 1)),[]),(o_ 101 (.pick (t_ 90) (b_ true) (t_ 100)),[]),D_ (m_ 102 101),(q_ 103 102 false (.mv (t_ 1)),[]),(q_ 104 102 false (.load (some 8) (t_ 14)),[]),(q_ 105 102 false (.call (.func 76) [t_ 103,t_ 104]),[]),(q_ 106 102 false (.un .not (t_ 105)),[]),(o_ 107 (.pick (t_ 102) (b_ true) (t_ 106)),[])])
def iZ:ak:=(G_ [B_ 58 .lss 57 56] (J_ (H_ 58 4) (J_ (P_ 5 (G_ [a_ 59 8 55 57,L_ 60 8 59,o_ 14 (.alloc [(.int .i64 0),(.int .i64 0),(.bool false),(.int .i64 0),(.bool false),(.int .i64 0),(.int .i64 0),(.slice none 0 0)]),s_ 8 14 60] (J_ (V_ [D_ (l_ 61 3),D_ (f_ 62 2 14),D_ (L_ 63 2 62),D_ (l_ 65 3),D_ (f_ 66 4 14),D_ (L_ 67 2 66),(F_ 64 179 [t_ 61,t_ 63],[3,66]),D_ (f_ 69 2 14),(F_ 68 179 [t_ 65,t_ 67],[]),D_ (s_ 2 69 64),D_ (f_ 70 4 14),D_ (s_ 2 70 68)]) (J_ (G_ [f_ 71 7 14,l_ 72 71,z_ 73 72,k_ 74 0] (Q_ 6 iY)) (J_ Fl (I_ 107 (O_ [m_ 108 12,L_ 109 8 14,o_ 110 (.cX 1 [(.int .i64 0),(.int .i64 0),(.bool false),(.int .i64 0),(.bool false),(.int .i64 0),(.int .i64 0),(.slice none 0 0)] [(0,(8,(t_ 109)))]),o_ 111 (.append [(.int .i64 0),(.int .i64 0),(.bool false),(.int .i64 0),(.bool false),(.int .i64 0),(.int .i64 0),(.slice none 0 0)] 80 false (t_ 108) (t_ 110)),m_ 12 111]) .skip)))))) (O_ [C_ 112 .add 57 1,m_ 57 112]))))
def ja:ak:=(G_ [B_ 41 .lss 40 39] (J_ (H_ 41 2) (J_ (P_ 3 (G_ [m_ 42 40,a_ 43 2 38 40,L_ 44 2 43,o_ 11 (.alloc [(.bool false),(.int .i64 0)]),m_ 10 42,s_ 2 11 44] (V_ [D_ (f_ 45 1 9),D_ (l_ 46 45),D_ (m_ 47 10),D_ (l_ 48 3),D_ (L_ 49 2 11),(F_ 50 179 [t_ 48,t_ 49],[45]),D_ (a_ 51 2 46 47),D_ (s_ 2 51 50)]))) (O_ [C_ 52 .add 40 1,m_ 40 52]))))
def jb:ak:=(G_ [B_ 34 .lss 33 32] (J_ (H_ 34 0) (J_ (P_ 1 (G_ [a_ 35 2 31 33,L_ 36 2 35,o_ 9 (.alloc [(.int .i64 0),(.slice none 0 0)]),s_ 2 9 36] (G_ [f_ 37 1 9,l_ 38 37,z_ 39 38,k_ 40 0] (Q_ 2 ja)))) (O_ [C_ 53 .add 33 1,m_ 33 53]))))
abbrev pS:Nat:=116
def pE:ak:=(G_ [x_ 3 0,o_ 6 (.alloc [(.slice none 0 0),(.slice none 0 0),(.int .i64 0),(.bool false),(.int .i64 0),(.slice none 0 0)])] (G_ [l_ 17 3,o_ 18 (.aY (t_ 17)),f_ 19 0 18,f_ 20 3 19,l_ 21 20,m_ 22 2,a_ 23 6 21 22,L_ 24 6 23,o_ 7 (.alloc [(.slice none 0 0),(.slice none 0 0),(.int .i64 0),(.bool false),(.int .i64 0),(.slice none 0 0)]),s_ 6 7 24] (G_ [f_ 25 0 7,l_ 26 25,o_ 27 (.uz 178 [t_ 3]),F_ 28 72 [t_ 26,t_ 27],f_ 29 0 7,s_ 1 29 28] (J_ (G_ [f_ 30 0 7,l_ 31 30,z_ 32 31,k_ 33 0] (Q_ 0 jb)) (G_ [o_ 12 (.mv (.const (.slice none 0 0)))] (J_ (G_ [f_ 54 1 7,l_ 55 54,z_ 56 55,k_ 57 0] (Q_ 4 iZ)) (G_ [m_ 113 12,f_ 114 1 7,s_ 1 114 113] (G_ [l_ 115 3,f_ 116 2 7,f_ 117 1 116,L_ 118 2 117,F_ 119 179 [t_ 115,t_ 118],f_ 120 2 7,f_ 121 1 120,s_ 2 121 119] (G_ [L_ 122 6 7,s_ 6 6 122] .ret)))))))))
theorem xO:FF pS=some ⟨[(.cell 6 (some 6))],pE,.no⟩:=by kernel_rfl
abbrev lf:Nat:=126
def kQ:ak:=(G_ [o_ 2 (.mv (.const (.slice none 0 0)))] (J_ (G_ [m_ 3 0,o_ 4 (.bin .eql [3] (t_ 3) (.const (.slice none 0 0)))] (I_ 4 (G_ [o_ 2 (.mv (.const (.slice none 0 0)))] .ret) .skip)) (G_ [o_ 5 (.cX 0 [] []),m_ 6 0,o_ 7 (.append [(.slice none 0 0),(.slice none 0 0),(.int .i64 0),(.bool false),(.int .i64 0),(.slice none 0 0)] 96 false (t_ 5) (t_ 6)),m_ 2 7] .ret)))
theorem kS:FF lf=some ⟨[(.tmp 2)],kQ,.no⟩:=by kernel_rfl
abbrev nk:Nat:=127
def mX:ak:=(G_ [o_ 2 (.mv (.const (.slice none 0 0)))] (J_ (G_ [m_ 3 0,o_ 4 (.bin .eql [3] (t_ 3) (.const (.slice none 0 0)))] (I_ 4 (G_ [o_ 2 (.mv (.const (.slice none 0 0)))] .ret) .skip)) (G_ [o_ 5 (.cX 0 [] []),m_ 6 0,o_ 7 (.append [(.int .i64 0),(.slice none 0 0)] 32 false (t_ 5) (t_ 6)),m_ 2 7] .ret)))
theorem na:FF nk=some ⟨[(.tmp 2)],mX,.no⟩:=by kernel_rfl
abbrev np:Nat:=128
def mY:ak:=(G_ [o_ 2 (.mv (.const (.slice none 0 0)))] (J_ (G_ [m_ 3 0,o_ 4 (.bin .eql [3] (t_ 3) (.const (.slice none 0 0)))] (I_ 4 (G_ [o_ 2 (.mv (.const (.slice none 0 0)))] .ret) .skip)) (G_ [o_ 5 (.cX 0 [] []),m_ 6 0,o_ 7 (.append [(.bool false),(.int .i64 0)] 16 false (t_ 5) (t_ 6)),m_ 2 7] .ret)))
theorem gQ:FF np=some ⟨[(.tmp 2)],mY,.no⟩:=by kernel_rfl
abbrev nj:Nat:=129
def mW:ak:=(G_ [o_ 2 (.mv (.const (.slice none 0 0)))] (J_ (G_ [m_ 3 0,o_ 4 (.bin .eql [3] (t_ 3) (.const (.slice none 0 0)))] (I_ 4 (G_ [o_ 2 (.mv (.const (.slice none 0 0)))] .ret) .skip)) (G_ [o_ 5 (.cX 0 [] []),m_ 6 0,o_ 7 (.append [(.int .i64 0),(.int .i64 0),(.bool false),(.int .i64 0),(.bool false),(.int .i64 0),(.int .i64 0),(.slice none 0 0)] 80 false (t_ 5) (t_ 6)),m_ 2 7] .ret)))
theorem mZ:FF nj=some ⟨[(.tmp 2)],mW,.no⟩:=by kernel_rfl
abbrev CT:Nat:=131
abbrev Cd:Nat:=132
def BI:ak:=(.seq (.ops [⟨(some 1),none,(.box (.tmp 0))⟩,⟨(some 2),none,(.mv (.const .nilFunc))⟩]) (.seq (.ops [⟨(some 3),none,(.uz 192 [(.tmp 1)])⟩,⟨(some 2),none,(.mv (.tmp 3))⟩]) .ret))
theorem Kb:FF Cd=some ⟨[(.tmp 2)],BI,.no⟩:=by kernel_rfl
def kh:ak:=(G_ [B_ 9 .lss 8 7] (J_ (H_ 9 0) (J_ (P_ 1 (G_ [m_ 10 8,m_ 5 10] (G_ [m_ 11 1,m_ 12 0,m_ 13 5,a_ 14 2 12 13,L_ 15 2 14,o_ 16 (.call (t_ 11) [t_ 15])] (I_ 16 (G_ [m_ 17 5,m_ 4 17] .ret) .skip)))) (O_ [C_ 18 .add 8 1,m_ 8 18]))))
abbrev dE:Nat:=133
def kR:ak:=(.seq (.ops [⟨(some 4),none,(.mv (.const (.int .i64 0)))⟩]) (.seq (.seq (.ops [⟨(some 6),none,(.mv (.tmp 0))⟩,⟨(some 7),none,(.uU (.tmp 6))⟩,⟨(some 8),none,(.mv (.const (.int .i64 0)))⟩]) (.block 0 (.loop kh))) (.seq (.ops [⟨(some 4),none,(.mv (.const (.int .i64 (Int.negSucc 0))))⟩]) .ret)))
theorem kU:FF dE=some ⟨[(.tmp 4)],kR,.no⟩:=by kernel_rfl
def nv:ak:=(G_ [B_ 165 .lss 164 163] (J_ (H_ 165 18) (J_ (P_ 19 (G_ [m_ 166 164,a_ 167 2 162 164,L_ 168 2 167,o_ 22 (.alloc [(.bool false),(.int .i64 0)]),m_ 21 166,s_ 2 22 168] (V_ [D_ (f_ 169 7 20),D_ (l_ 170 169),D_ (m_ 171 21),D_ (m_ 172 3),D_ (L_ 173 2 22),(F_ 174 195 [t_ 172,t_ 173],[169]),D_ (a_ 175 2 170 171),D_ (s_ 2 175 174)]))) (O_ [C_ 176 .add 164 1,m_ 164 176]))))
def Ph:ak:=(V_ [D_ (m_ 151 3),D_ (f_ 152 2 20),D_ (L_ 153 2 152),D_ (m_ 155 3),D_ (f_ 156 4 20),D_ (L_ 157 2 156),(F_ 154 195 [t_ 151,t_ 153],[156]),D_ (f_ 159 2 20),(F_ 158 195 [t_ 155,t_ 157],[]),D_ (s_ 2 159 154),D_ (f_ 160 4 20),D_ (s_ 2 160 158)])
def Pg:ak:=(O_ [f_ 185 1 14,l_ 186 185,m_ 187 19,L_ 188 8 20,a_ 189 8 186 187,s_ 8 189 188])
def nw:ak:=(G_ [B_ 147 .lss 146 145] (J_ (H_ 147 16) (J_ (P_ 17 (G_ [m_ 148 146,a_ 149 8 144 146,L_ 150 8 149,o_ 20 (.alloc [(.int .i64 0),(.int .i64 0),(.bool false),(.int .i64 0),(.bool false),(.int .i64 0),(.int .i64 0),(.slice none 0 0)]),m_ 19 148,s_ 8 20 150] (J_ Ph (J_ (G_ [f_ 161 7 20,l_ 162 161,z_ 163 162,k_ 164 0] (Q_ 18 nv)) (J_ (G_ [f_ 177 1 20,l_ 178 177,C_ 179 .geq 178 0] (I_ 179 (O_ [m_ 180 3,f_ 181 1 20,l_ 182 181,F_ 183 194 [t_ 180,t_ 182],f_ 184 1 20,s_ 1 184 183]) .skip)) Pg))))) (O_ [C_ 190 .add 146 1,m_ 146 190]))))
def nx:ak:=(G_ [B_ 130 .lss 129 128] (J_ (H_ 130 14) (J_ (P_ 15 (G_ [m_ 131 129,a_ 132 2 127 129,L_ 133 2 132,o_ 18 (.alloc [(.bool false),(.int .i64 0)]),m_ 17 131,s_ 2 18 133] (V_ [D_ (f_ 134 1 16),D_ (l_ 135 134),D_ (m_ 136 17),D_ (m_ 137 3),D_ (L_ 138 2 18),(F_ 139 195 [t_ 137,t_ 138],[134]),D_ (a_ 140 2 135 136),D_ (s_ 2 140 139)]))) (O_ [C_ 141 .add 129 1,m_ 129 141]))))
def ny:ak:=(G_ [B_ 113 .lss 112 111] (J_ (H_ 113 12) (J_ (P_ 13 (G_ [m_ 114 112,a_ 115 2 110 112,L_ 116 2 115,o_ 16 (.alloc [(.int .i64 0),(.slice none 0 0)]),m_ 15 114,s_ 2 16 116] (J_ (V_ [D_ (f_ 117 0 14),D_ (l_ 118 117),D_ (m_ 119 15),D_ (m_ 120 3),D_ (f_ 121 0 16),D_ (l_ 122 121),(F_ 123 194 [t_ 120,t_ 122],[117]),D_ (a_ 124 2 118 119),D_ (f_ 125 0 124),D_ (s_ 1 125 123)]) (G_ [f_ 126 1 16,l_ 127 126,z_ 128 127,k_ 129 0] (Q_ 14 nx))))) (O_ [C_ 142 .add 112 1,m_ 112 142]))))
def Pd:ak:=(V_ [D_ (f_ 191 3 1),D_ (l_ 192 191),D_ (m_ 193 13),D_ (m_ 194 3),D_ (f_ 195 2 14),D_ (f_ 196 1 195),D_ (L_ 197 2 196),(F_ 198 195 [t_ 194,t_ 197],[191]),D_ (a_ 199 6 192 193),D_ (f_ 200 2 199),D_ (f_ 201 1 200),D_ (s_ 2 201 198)])
def nz:ak:=(G_ [B_ 105 .lss 104 103] (J_ (H_ 105 10) (J_ (P_ 11 (G_ [m_ 106 104,a_ 107 6 102 104,L_ 108 6 107,o_ 14 (.alloc [(.slice none 0 0),(.slice none 0 0),(.int .i64 0),(.bool false),(.int .i64 0),(.slice none 0 0)]),m_ 13 106,s_ 6 14 108] (J_ (G_ [f_ 109 0 14,l_ 110 109,z_ 111 110,k_ 112 0] (Q_ 12 ny)) (J_ (G_ [f_ 143 1 14,l_ 144 143,z_ 145 144,k_ 146 0] (Q_ 16 nw)) Pd)))) (O_ [C_ 202 .add 104 1,m_ 104 202]))))
def nA:ak:=(G_ [B_ 80 .lss 79 78] (J_ (H_ 80 8) (J_ (P_ 9 (G_ [a_ 81 2 77 79,L_ 82 2 81,o_ 12 (.alloc [(.bool false),(.int .i64 0)]),s_ 2 12 82] (O_ [m_ 83 3,L_ 84 2 12,F_ 85 195 [t_ 83,t_ 84]]))) (O_ [C_ 86 .add 79 1,m_ 79 86]))))
def nB:ak:=(G_ [B_ 65 .lss 64 63] (J_ (H_ 65 6) (J_ (P_ 7 (G_ [a_ 66 8 62 64,L_ 67 8 66,o_ 10 (.alloc [(.int .i64 0),(.int .i64 0),(.bool false),(.int .i64 0),(.bool false),(.int .i64 0),(.int .i64 0),(.slice none 0 0)]),s_ 8 10 67] (G_ [m_ 68 3,f_ 69 2 10,L_ 70 2 69,F_ 71 195 [t_ 68,t_ 70]] (G_ [m_ 72 3,f_ 73 4 10,L_ 74 2 73,F_ 75 195 [t_ 72,t_ 74]] (J_ (G_ [f_ 76 7 10,l_ 77 76,z_ 78 77,k_ 79 0] (Q_ 8 nA)) (G_ [f_ 87 1 10,l_ 88 87,C_ 89 .geq 88 0] (I_ 89 (O_ [m_ 90 3,f_ 91 1 10,l_ 92 91,F_ 93 194 [t_ 90,t_ 92]]) .skip))))))) (O_ [C_ 94 .add 64 1,m_ 64 94]))))
def nC:ak:=(G_ [B_ 53 .lss 52 51] (J_ (H_ 53 4) (J_ (P_ 5 (G_ [a_ 54 2 50 52,L_ 55 2 54,o_ 8 (.alloc [(.int .i64 0),(.slice none 0 0)]),s_ 2 8 55] (O_ [m_ 56 3,f_ 57 0 8,l_ 58 57,F_ 59 194 [t_ 56,t_ 58]]))) (O_ [C_ 60 .add 52 1,m_ 52 60]))))
def nD:ak:=(G_ [B_ 46 .lss 45 44] (J_ (H_ 46 2) (J_ (P_ 3 (G_ [a_ 47 6 43 45,L_ 48 6 47,o_ 6 (.alloc [(.slice none 0 0),(.slice none 0 0),(.int .i64 0),(.bool false),(.int .i64 0),(.slice none 0 0)]),s_ 6 6 48] (J_ (G_ [f_ 49 0 6,l_ 50 49,z_ 51 50,k_ 52 0] (Q_ 4 nC)) (J_ (G_ [f_ 61 1 6,l_ 62 61,z_ 63 62,k_ 64 0] (Q_ 6 nB)) (O_ [m_ 95 3,f_ 96 2 6,f_ 97 1 96,L_ 98 2 97,F_ 99 195 [t_ 95,t_ 98]]))))) (O_ [C_ 100 .add 45 1,m_ 45 100]))))
def nE:ak:=(G_ [B_ 36 .lss 35 34] (J_ (H_ 36 0) (J_ (P_ 1 (G_ [m_ 37 35,m_ 4 37] (O_ [m_ 38 3,m_ 39 4,F_ 40 194 [t_ 38,t_ 39]]))) (O_ [C_ 41 .add 35 1,m_ 35 41]))))
abbrev wS:Nat:=135
def v5:ak:=(G_ [x_ 1 0,⟨(some 2),none,(.alloc [(.string ⟨⟨[]⟩⟩),(.int .i64 0),(.int .i64 0),(.slice none 0 0)])⟩] (J_ (V_ [D_ (L_ 23 4 1),D_ (L_ 24 4 1),(F_ 25 138 [t_ 24],[1]),(F_ 26 137 [t_ 23,t_ 25],[]),D_ (s_ 4 1 26)]) (G_ [o_ 27 (.cX 1 [(.int .i64 0)] [(0,(1,(.const (.int .i64 (Int.negSucc 0)))))]),f_ 28 2 1,l_ 29 28,F_ 30 144 [t_ 27,t_ 29],o_ 31 (.build [(.slice none 0 0),(.int .i64 0)] [(0,(1,(t_ 30)))]),x_ 32 31,m_ 3 32] (J_ (G_ [f_ 33 1 1,l_ 34 33,k_ 35 0] (Q_ 0 nE)) (J_ (G_ [f_ 42 3 1,l_ 43 42,z_ 44 43,k_ 45 0] (Q_ 2 nD)) (J_ (G_ [f_ 101 3 1,l_ 102 101,z_ 103 102,k_ 104 0] (Q_ 10 nz)) (G_ [m_ 203 3,o_ 204 (.aY (t_ 203)),f_ 205 1 204,l_ 206 205,f_ 207 2 1,s_ 1 207 206] (G_ [L_ 208 4 1,s_ 4 2 208] .ret))))))))
theorem DL:FF wS=some ⟨[(.cell 2 (some 4))],v5,.no⟩:=by kernel_rfl
def M8:ak:=(V_ [D_ (m_ 54 4),D_ (m_ 55 4),(o_ 56 (.aY (t_ 55)),[]),D_ (f_ 57 1 56),D_ (l_ 58 57),D_ (f_ 59 1 6),D_ (l_ 60 59),(o_ 61 (.append [(.int .i64 0),(.int .i64 0),(.bool false),(.int .i64 0),(.bool false),(.int .i64 0),(.int .i64 0),(.slice none 0 0)] 80 false (t_ 58) (t_ 60)),[]),(o_ 62 (.aY (t_ 54)),[]),D_ (f_ 63 1 62),D_ (s_ 1 63 61)])
def H9:ak:=(G_ [m_ 64 5,m_ 65 3,F_ 66 196 [t_ 1,t_ 64,t_ 65]] (G_ [m_ 67 4,f_ 68 2 6,L_ 69 4 68,o_ 70 (.aY (t_ 67)),f_ 71 2 70,s_ 4 71 69] (O_ [f_ 72 3 1,l_ 73 72,m_ 74 5,o_ 75 (.build [(.int .i64 0),(.bool false),(.int .i64 0),(.slice none 0 0)] [(0,(1,(i_ 1)))]),o_ 76 (.build [(.slice none 0 0),(.slice none 0 0),(.int .i64 0),(.bool false),(.int .i64 0),(.slice none 0 0)] [(2,(4,(t_ 75)))]),a_ 77 6 73 74,s_ 6 77 76])))
def mB:ak:=(J_ (G_ [m_ 18 4,o_ 19 (.aY (t_ 18)),f_ 20 2 19,f_ 21 0 20,l_ 22 21,o_ 23 (.bin .eql [1] (t_ 22) (i_ 2))] (H_ 23 2)) (P_ 3 (G_ [m_ 24 4,o_ 25 (.aY (t_ 24)),f_ 26 2 25,f_ 27 3 26,l_ 28 27,o_ 29 (.cR none 1 (t_ 28) (i_ 0)),l_ 30 29,m_ 5 30] (G_ [f_ 31 3 1,l_ 32 31,m_ 33 5,a_ 34 6 32 33,L_ 35 6 34,o_ 6 (.alloc [(.slice none 0 0),(.slice none 0 0),(.int .i64 0),(.bool false),(.int .i64 0),(.slice none 0 0)]),s_ 6 6 35] (J_ (G_ [m_ 36 5,m_ 37 3,o_ 38 (.bin .eql [1] (t_ 36) (t_ 37)),m_ 39 38,q_ 40 39 false (.bM 0 (t_ 6)),q_ 41 39 false (.load none (t_ 40)),q_ 42 39 false (.uU (t_ 41)),q_ 43 39 false (.bin .gtr [] (t_ 42) (i_ 0)),o_ 44 (.pick (t_ 39) (b_ true) (t_ 43)),m_ 45 44,q_ 46 45 false (.load (some 4) (t_ 1)),q_ 47 45 false (.call (.func 101) [t_ 46]),q_ 48 45 false (.mv (t_ 5)),q_ 49 45 false (.cR none 1 (t_ 47) (t_ 48)),q_ 50 45 false (.load none (t_ 49)),q_ 51 45 false (.uU (t_ 50)),q_ 52 45 false (.bin .gtr [] (t_ 51) (i_ 1)),o_ 53 (.pick (t_ 45) (b_ true) (t_ 52))] (I_ 53 (.exit 2) .skip)) (J_ M8 H9))))))
def th:ak:=(J_ (G_ [m_ 7 3,f_ 8 3 1,l_ 9 8,z_ 10 9,B_ 11 .lss 7 10] (H_ 11 0)) (J_ (P_ 1 (G_ [f_ 14 3 1,l_ 15 14,m_ 16 3,a_ 17 6 15 16,m_ 4 17] (Q_ 2 mB))) (O_ [m_ 12 3,C_ 13 .add 12 1,m_ 3 13])))
abbrev vw:Nat:=136
def vt:ak:=(G_ [x_ 1 0,⟨(some 2),none,(.alloc [(.string ⟨⟨[]⟩⟩),(.int .i64 0),(.int .i64 0),(.slice none 0 0)])⟩] (J_ (G_ [k_ 3 0] (Q_ 0 th)) (G_ [L_ 78 4 1,s_ 4 2 78] .ret)))
theorem CG:FF vw=some ⟨[(.cell 2 (some 4))],vt,.no⟩:=by kernel_rfl
end Go.Proofs.YtdhnndleffachaaGreatDoor
