/- Parts of the proof. -/
import Derived.Test.YtdkdbjecehcekaaGreatDoorP04
set_option linter.all false
set_option linter.unusedSimpArgs false
set_option linter.unusedVariables false
set_option linter.unnecessarySimpa false
namespace Go.AI
section
variable (F:Nat→Option bA)
def Gu (d:Option Nat) (l:List aV) (e:Env) (R:Env→ae→Prop):Option (Value×ae)→Prop
 |some (v,h)=>aD F l (dW e d v) h R
 |none=>False
def GD (k:Nat) (chk:List Nat) (d:Option Nat) (l:List (aV×List Nat)) (e:Env) (R:Env→ae→Prop):Option (Value×ae)→Prop
 |some (v,h)=>still (dW e d v) h k chk=true∧aP F k l (dW e d v) h R
 |none=>False
def JY (R:Value→ae→Prop) (h:ae):Option (List Value)→Prop
 |some vs=>fW vs=true∧R (result vs) h
 |none=>False
def MU (d:Option Nat) (l:List aV) (e:Env) (R:Env→ae→Prop):Value→ae→Prop:=fun v h=>aD F l (dW e d v) h R
def LP (k:Nat) (chk:List Nat) (d:Option Nat) (l:List (aV×List Nat)) (e:Env) (R:Env→ae→Prop):Value→ae→Prop:=fun v h=>still (dW e d v) h k chk=true∧aP F k l (dW e d v) h R
end
section
variable {F:Nat→Option bA} {Q:aO→Env→ae→Prop} {R:Env→ae→Prop} {e:Env} {h:ae} {d:Option Nat} {l:List aV} {k:Nat} {chk:List Nat} {m:List (aV×List Nat)}
@[simp] theorem M_ (v:Value) (h:ae):Gu F d l e R (some (v,h))=aD F l (dW e d v) h R:=rfl
@[simp] theorem MO (v:Value) (h:ae):GD F k chk d m e R (some (v,h))=(still (dW e d v) h k chk=true∧aP F k m (dW e d v) h R):=rfl
@[simp] theorem MC:Gu F d l e R none=False:=rfl
@[simp] theorem Nl:GD F k chk d m e R none=False:=rfl
@[simp] theorem Nu (V:Value→ae→Prop) (vs:List Value):JY V h (some vs)=(fW vs=true∧V (result vs) h):=rfl
@[simp ↓] theorem PB:az F .skip e h Q↔Q .normal e h:=G9
@[simp ↓] theorem Q8:az F .ret e h Q↔Q .ret e h:=J6
@[simp ↓] theorem QC {id:Nat} :az F (.exit id) e h Q↔Q (.exit id) e h:=IC
@[simp ↓] theorem QO {a b:aj} :az F (.seq a b) e h Q↔az F a e h (Ac F b Q):=KJ
@[simp ↓] theorem O9 {id:Nat} {c:aj} :az F (.block id c) e h Q↔az F c e h (zZ id Q):=EO
@[simp ↓] theorem QR {l:List aV} :az F (.ops l) e h Q↔aD F l e h (Q .normal):=JJ
@[simp ↓] theorem PO {l:List (aV×List Nat)} :az F (.draw l) e h Q↔aP F h.clock l e (tick h) (Q .normal):=HD
@[simp ↓] theorem PM {c:Operand} {a b:aj} (hc:ev e c= .bool true):az F (.cond c a b) e h Q↔az F a e h Q:=sQ hc
@[simp ↓] theorem OZ {c:Operand} {a b:aj} (hc:ev e c= .bool false):az F (.cond c a b) e h Q↔az F b e h Q:=sQ hc
@[simp ↓] theorem QK:aD F [] e h R↔R e h:=IZ
@[simp ↓] theorem Qi:aP F k [] e h R↔R e h:=Iq
@[simp ↓] theorem q_op {op:ia} (hn:calls op=false):aD F (⟨d,none,op⟩::l) e h R↔Gu F d l e R (aZ e h op):=by
 rw[mQ,DI hn]
 constructor
 ·rintro⟨v,h1,ho,hr⟩;rw[ho];exact hr
 ·intro hr
  cases ho:aZ e h op with
  |none=>rw[ho] at hr;exact hr.elim
  |some x=>rw[ho] at hr;exact⟨_,_,rfl,hr⟩
@[simp ↓] theorem q_do {op:ia} {t:Nat} {b:Bool} (hg:Env.get e t= .bool b):aD F (⟨d,some (t,b),op⟩::l) e h R↔aD F (⟨d,none,op⟩::l) e h R:=by
 rw[mQ,qp hg,mQ]
 simp
@[simp ↓] theorem QF {op:ia} {t:Nat} {b:Bool} (hg:Env.get e t= .bool (!b)):aD F (⟨d,some (t,b),op⟩::l) e h R↔aD F l (dW e d (.tuple #[])) h R:=by
 rw[mQ,qp hg]
 cases b<;>rfl
@[simp ↓] theorem QQ {op:ia} {t:Nat} {b:Bool} (hg:Env.get e t= .bool b):aP F k ((⟨d,some (t,b),op⟩,chk)::m) e h R↔aP F k ((⟨d,none,op⟩,chk)::m) e h R:=by
 rw[kZ,qp hg,kZ]
 simp
@[simp ↓] theorem OT {op:ia} {t:Nat} {b:Bool} (hg:Env.get e t= .bool (!b)):aP F k ((⟨d,some (t,b),op⟩,chk)::m) e h R↔(still (dW e d (.tuple #[])) h k chk=true∧aP F k m (dW e d (.tuple #[])) h R):=by
 rw[kZ,qp hg]
 cases b<;>rfl
@[simp ↓] theorem QN {op:ia} (hn:calls op=false):aP F k ((⟨d,none,op⟩,chk)::m) e h R↔GD F k chk d m e R (aZ e h op):=by
 rw[kZ,DI hn]
 constructor
 ·rintro⟨v,h1,ho,hr⟩;rw[ho];exact hr
 ·intro hr
  cases ho:aZ e h op with
  |none=>rw[ho] at hr;exact hr.elim
  |some x=>rw[ho] at hr;exact⟨_,_,rfl,hr⟩
theorem IV {f:Operand} {args:List Operand} :aD F (⟨d,none,.call f args⟩::l) e h R↔bZ F (ev e f) (pP e args) h (MU F d l e R):=by
 rw[mQ,yO];rfl
theorem GM {f:Operand} {args:List Operand} :aP F k ((⟨d,none,.call f args⟩,chk)::m) e h R↔bZ F (ev e f) (pP e args) h (LP F k chk d m e R):=by
 rw[kZ,yO];rfl
theorem aD.call {f:Nat} {args:List Operand} {V:Value→ae→Prop} (H:aE F f (pP e args) h V) (K: ∀v h',V v h'→aD F l (dW e d v) h' R):aD F (⟨d,none,.call (.func f) args⟩::l) e h R:=by
 rw[IV]
 obtain⟨n,v,h',hr,hv⟩:=H
 refine⟨n,v,h',?_,K v h' hv⟩
 have:=r8 hr
 simpa [ev,AI.cm] using this
theorem aD.cm {f:Operand} {args:List Operand} {V:Value→ae→Prop} (H:bZ F (ev e f) (pP e args) h V) (K: ∀v h',V v h'→aD F l (dW e d v) h' R):aD F (⟨d,none,.call f args⟩::l) e h R:=by
 rw[IV]
 exact H.mono K
@[simp] theorem KQ {rs:List zA} {V:Value→ae→Prop} :tQ rs V .normal e h↔JY V h (results e h rs):=by
 rw[Eb]
 cases results e h rs<;>simp[JY]
@[simp] theorem MD {rs:List zA} {V:Value→ae→Prop} :tQ rs V .ret e h↔JY V h (results e h rs):=by
 rw[IJ]
 cases results e h rs<;>simp[JY]
@[simp] theorem NG (t:Nat) (v:Value):dW e (some t) v=Tr.set e t v:=rfl
@[simp] theorem NB (v:Value):dW e none v=e:=rfl
@[simp] theorem Qm (t:Nat):ev e (.tmp t)=Env.get e t:=rfl
@[simp] theorem NV (v:Value):ev e (.const v)=v:=rfl
@[simp] theorem NF (g:Nat):ev e (.global g)= .pointer (some ⟨g,0,none⟩):=rfl
@[simp] theorem O8 (f:Nat):ev e (.func f)= .func (.func f) #[] #[]:=rfl
attribute [simp] Env.aN
@[simp] theorem Mu (t:Nat):Env.get .nil t= .tuple #[]:=rfl
@[simp] theorem Ni (i:Nat):params e i []=e:=rfl
@[simp] theorem Mt (i:Nat) (v:Value) (r:List Value):params e i (v::r)=params (Tr.set e i v) (i+1) r:=rfl
@[simp] theorem OD:pP e []=[]:=rfl
@[simp] theorem Nw (x:Operand) (xs:List Operand):pP e (x::xs)=ev e x::pP e xs:=rfl
@[simp] theorem Nx (op:ia):calls op=(match op with| .call _ _=>true|_=>false):=by cases op<;>rfl
attribute [simp] aZ agg width nz bp eu ew J3 Pl flat cellsOf plain pz bound results result fW tj simple still
def j6 (h:ae) (z:List Value) (bytes:Nat) (zeros:Bool) (s x:Value):Option (Value×ae):=
 match news h z zeros x with
 |some (n,cs)=>ff h z bytes s n cs
 |none=>none
@[simp ↓ high] theorem MP (z:List Value) (bytes:Nat) (zeros:Bool) (s x:Operand):aZ e h (.append z bytes zeros s x)=j6 h z bytes zeros (ev e s) (ev e x):=rfl
@[simp] theorem Mb (cs vs:List Value):aK cs 0 vs=vs++cs.drop vs.length:=by simp[aK]
@[simp] theorem MA (c:Value) (cs vs:List Value) (k:Nat):aK (c::cs) (k+1) vs=c::aK cs k vs:=by
 simp[aK,Nat.add_right_comm k 1]
@[simp] theorem Mr (h:ae) (b off:Nat) (vs:List Value):jk h b off vs=match h.tr.get b with
  |some (.aA cs false o _)=>if off+vs.length≤cs.length then some (put h b off cs vs o) else none
  |_=>none:=by
 unfold jk
 cases h.tr.get b with
 |none=>rfl
 |some x=>
  cases x with
  |aA cs ro o s=>
   cases ro with
   |true=>rfl
   |false=>
    dsimp only
    by_cases hl:off+vs.length≤cs.length<;>simp[hl,put]
  |loop=>rfl
  |map=>rfl
  |Mz=>rfl
@[simp] theorem ag (h:ae) (b off n:Nat):aT h b off n=match h.tr.get b with
  |some (.aA cs _ _ _)=>if off+n≤cs.length then some ((cs.drop off).take n) else if n=0 then some [] else none
  |_=>none:=by
 unfold aT
 cases h.tr.get b with
 |none=>rfl
 |some x=>
  cases x with
  |aA cs ro o s=>
   dsimp only
   have he:((cs.drop off).take n).length=min n (cs.length-off):=by simp
   by_cases hl:off+n≤cs.length
   ·have:((cs.drop off).take n).length=n:=by omega
    simp[hl,this]
   ·simp only[hl,if_false]
    by_cases hn:n=0
    ·subst hn;simp
    ·have: ¬((cs.drop off).take n).length=n:=by omega
     have hb:Nat.beq ((cs.drop off).take n).length n=false:=by
      cases hb:Nat.beq ((cs.drop off).take n).length n with
      |true=>exact absurd (Nat.eq_of_beq_eq_true hb) this
      |false=>rfl
     simp only[hb,hn,if_false,Bool.false_eq_true]
  |loop=>rfl
  |map=>rfl
  |Mz=>rfl
theorem rq (h:ae) (cs:List Value) (o b:Nat):(aH h cs o).tr.get b=if b=h.next then some (.aA cs false o 0) else h.tr.get b:=by
 simp[aH,ae.new,Tr.aN]
theorem yf (h:ae) (b off:Nat) (cs vs:List Value) (o j:Nat):(put h b off cs vs o).tr.get j=if j=b then some (.aA (aK cs off vs) false o h.clock) else h.tr.get j:=by
 simp[put,Tr.aN]
attribute [simp] rq yf
@[simp] theorem NM (h:ae) (b off:Nat) (cs vs:List Value) (o:Nat):(put h b off cs vs o).next=h.next:=rfl
@[simp] theorem Nt (h:ae) (b off:Nat) (cs vs:List Value) (o:Nat):(put h b off cs vs o).clock=h.clock+1:=rfl
@[simp] theorem ME (h:ae):(tick h).clock=h.clock+1:=rfl
theorem ab.new {S:Nat→Prop} {h h₁:ae} (g:ab S h h₁) (cs:List Value) (o:Nat):ab S h (aH h₁ cs o):=g.trans (aI g.ok cs o).aW
theorem ab.tick {S:Nat→Prop} {h h₁:ae} (g:ab S h h₁):ab S h (tick h₁):=g.trans (bc g.ok).aW
theorem ab.put {S:Nat→Prop} {h h₁:ae} {b off:Nat} {cs vs:List Value} {o:Nat} (g:ab S h h₁) (hb: ∃s,h₁.tr.get b=some (.aA cs false o s)) (hn:h.next≤b∨S b):ab S h (put h₁ b off cs vs o):=by
 obtain⟨s,hb⟩:=hb
 refine g.trans' (aJ g.ok hb) (fun _ _ h=>h) fun x hx e=> ?_
 rcases hn with hn|hn
 ·omega
 ·rw[e];exact hn
@[simp] theorem NT (p:Value→Bool):([]:List Value).all p=true:=rfl
end
section
variable {F:Nat→Option bA} {Q:aO→Env→ae→Prop} {e:Env} {h:ae}
def ve (h:ae) (l:Nat):ae:= { h with tr:=h.tr.del l }
def pS (l:Nat) (e:Env) (Q:aO→Env→ae→Prop) (h:ae):Prop:=
 match h.tr.get l with
 |some (.loop _ _ _ _ .ready)=>Q .normal e (ve h l)
 |some (.loop _ _ _ _ (.done none))=>Q .ret e (ve h l)
 |some (.loop _ _ _ _ (.done (some id)))=>Q (.exit id) e (ve h l)
 |_=>False
theorem az.AM {f:Operand} {ps:List Nat} {asg body:aj} {g:Nat} {first caps:Array Value} (hf:ev e f= .func (.func g) first caps)
  (H:aE F g (first.toList++[.func (.yield h.next) #[] #[]]++caps.toList) (h.new (.loop e ps asg body .ready)) (fun _ h'=>pS h.next e Q h')):az F (.AM f ps asg body) e h Q:=by
 obtain⟨n,v,h',hr,hq⟩:=H
 have hrun:run F (n+1) (.AM f ps asg body) e h=(match h'.tr.get h.next with
    |some (.loop _ _ _ _ .ready)=>some (.normal,e,{ h' with tr:=h'.tr.del h.next })
    |some (.loop _ _ _ _ (.done none))=>some (.ret,e,{ h' with tr:=h'.tr.del h.next })
    |some (.loop _ _ _ _ (.done (some id)))=>some (.exit id,e,{ h' with tr:=h'.tr.del h.next })
    |_=>none):=by
  rw[cW]
  unfold bK
  dsimp only
  rw[hf]
  dsimp only
  rw[hr]
  rfl
 unfold pS at hq
 split at hq
 ·rename_i hg;rw[hg] at hrun;exact⟨n+1,_,_,_,hrun,hq⟩
 ·rename_i hg;rw[hg] at hrun;exact⟨n+1,_,_,_,hrun,hq⟩
 ·rename_i hg;rw[hg] at hrun;exact⟨n+1,_,_,_,hrun,hq⟩
 ·exact hq.elim
def JT (l:Nat) (env:Env) (ps:List Nat) (asg body:aj) (R:Value→ae→Prop):aO→Env→ae→Prop
 | .normal,_,h=>(∃a b c d,h.tr.get l=some (.loop a b c d .busy)∧a=env∧b=ps∧c=asg∧d=body)∧R (.bool true) (eL h l env ps asg body .ready)
 | .ret,_,h=>(∃a b c d,h.tr.get l=some (.loop a b c d .busy)∧a=env∧b=ps∧c=asg∧d=body)∧R (.bool false) (eL h l env ps asg body (.done none))
 | .exit id,_,h=>(∃a b c d,h.tr.get l=some (.loop a b c d .busy)∧a=env∧b=ps∧c=asg∧d=body)∧R (.bool false) (eL h l env ps asg body (.done (some id)))
theorem bZ.yield {l:Nat} {env:Env} {ps:List Nat} {asg body:aj} {a b:Array Value} {args:List Value} {R:Value→ae→Prop} {e1:Env} (hl:h.tr.get l=some (.loop env ps asg body .ready)) (hs:fH env ps args=some e1)
  (H:az F asg e1 h (fun x e2 h2=>x= .normal∧h2.tr.get l=some (.loop env ps asg body .ready)∧az F body e2 (eL h2 l env ps asg body .busy) (JT l env ps asg body R))):bZ F (.func (.yield l) a b) args h R:=by
 obtain⟨n,x,e2,h2,hr,rfl,hl2,m,y,e3,h3,hr3,hq⟩:=H
 have hra:=pB (Nat.le_max_left n m) _ _ _ _ hr
 have hrb:=pB (Nat.le_max_right n m) _ _ _ _ hr3
 have key:cm F (run F (max n m)) (.func (.yield l) a b) args h=(match(y,e3,h3) with
   |(.normal,_,h)=>kM l h .ready true
   |(.ret,_,h)=>kM l h (.done none) false
   |(.exit id,_,h)=>kM l h (.done (some id)) false:Option (Value×ae)):=by
  clear hq
  unfold cm
  dsimp only
  unfold qi
  rw[hl]
  dsimp only
  rw[hs]
  dsimp only
  rw[hra]
  dsimp only
  unfold uT
  rw[hl2]
  dsimp only
  simp only[hrb]
  cases y<;>rfl
 cases y with
 |normal=>
  obtain⟨⟨_,_,_,_,hg,rfl,rfl,rfl,rfl⟩,hq⟩:=hq
  exact⟨max n m,_,_,by rw[key];dsimp only;unfold kM;rw[hg],hq⟩
 |ret=>
  obtain⟨⟨_,_,_,_,hg,rfl,rfl,rfl,rfl⟩,hq⟩:=hq
  exact⟨max n m,_,_,by rw[key];dsimp only;unfold kM;rw[hg],hq⟩
 |exit id=>
  obtain⟨⟨_,_,_,_,hg,rfl,rfl,rfl,rfl⟩,hq⟩:=hq
  exact⟨max n m,_,_,by rw[key];dsimp only;unfold kM;rw[hg],hq⟩
end
theorem wrap_i64 (n:Int) (h: -9223372036854775808≤n) (h':n<9223372036854775808):IntKind.i64.wrap n=n:=by
 simp only[IntKind.wrap,IntKind.signed,IntKind.bits]
 simp
 omega
def Old (b:Nat) (h:ae):Prop:=b<h.next
theorem Old.lt {b:Nat} {h:ae} (o:Old b h):b<h.next:=o
@[simp] theorem IF (h:ae) (cs:List Value) (o:Nat):Old h.next (aH h cs o):=Nat.lt_succ_self _
@[simp] theorem Hh (h:ae) (cs:List Value) (o:Nat):Old h.next (aH h cs o)=True:=by simp
theorem Old.aH {b:Nat} {h:ae} (H:Old b h) (cs:List Value) (o:Nat):Old b (aH h cs o):=Nat.lt_succ_of_lt H
theorem Old.put {b:Nat} {h:ae} (H:Old b h) (c off:Nat) (cs vs:List Value) (o:Nat):Old b (put h c off cs vs o):=H
theorem Old.tick {b:Nat} {h:ae} (H:Old b h):Old b (tick h):=H
@[simp] theorem O_ (b:Nat) (h:ae) (c off:Nat) (cs vs:List Value) (o:Nat):Old b (put h c off cs vs o)↔Old b h:=Iff.rfl
@[simp] theorem N5 (b:Nat) (h:ae):Old b (tick h)↔Old b h:=Iff.rfl
@[simp] theorem M8 {b:Nat} {h:ae} {cs:List Value} {o:Nat} (H:Old b h):Old b (aH h cs o):=Nat.lt_succ_of_lt H
@[simp] theorem Qc {b:Nat} {h:ae} (H:Old b h):(b=h.next)=False:=by
 have:b<h.next:=H
 exact propext ⟨fun e=>by omega,False.elim⟩
@[simp] theorem OP {b:Nat} {h:ae} (H:Old b h):(h.next=b)=False:=by
 have:b<h.next:=H
 exact propext ⟨fun e=>by omega,False.elim⟩
@[simp] theorem ON {b k:Nat} {h:ae} (H:Old b h):(b=h.next+k)=False:=by
 have:b<h.next:=H
 exact propext ⟨fun e=>by omega,False.elim⟩
@[simp] theorem NQ {b k:Nat} {h:ae} (H:Old b h):(h.next+k=b)=False:=by
 have:b<h.next:=H
 exact propext ⟨fun e=>by omega,False.elim⟩
theorem ab.bl {S:Nat→Prop} {h h':ae} (g:ab S h h') {b:Nat} (H:Old b h):Old b h':=Nat.lt_of_lt_of_le H g.next
theorem ab.got {h h':ae} (g:ab aG h h') {b:Nat} (H:Old b h):h'.tr.get b=h.tr.get b:=g.same b H (fun h=>h)
theorem bh.bl {h:ae} (ok:bh h) {b:Nat} {o:nr} (hb:h.tr.get b=some o):Old b h:=ok.wf _ _ hb
theorem ab.var {S:Nat→Prop} {h h₁:ae} (g:ab S h h₁) (zs vs:List Value):ab S h (AI.put (AI.aH h₁ zs 0) h₁.next 0 zs vs 0):=
 (g.new zs 0).put ⟨_,bH _ _ _⟩ (.inl g.next)
theorem yv {h:ae} {b:Nat} (H:Old b h) (cs:List Value) (o:Nat):(aH h cs o).tr.get b=h.tr.get b:=by
 rw[rq,if_neg (by intro e;have:=H.lt;omega)]
theorem aL {h:ae} {b:Nat} (H:Old b h) (cs:List Value) (o off n:Nat):aT (aH h cs o) b off n=aT h b off n:=by
 unfold aT;rw[rq,if_neg (by intro e;have:=H.lt;omega)]
theorem bg {h:ae} {b c:Nat} (H: ¬b=c) (cs vs:List Value) (o off off' n:Nat):aT (put h c off' cs vs o) b off n=aT h b off n:=by
 unfold aT;rw[yf,if_neg H]
theorem aw {h:ae} {b:Nat} {cs:List Value} {ro:Bool} {o s:Nat} (hb:h.tr.get b=some (.aA cs ro o s)) (off n:Nat):aT h b off n=if off+n≤cs.length then some ((cs.drop off).take n) else if n=0 then some [] else none:=by
 rw[ag,hb]
theorem aq (h:ae) (b off':Nat) (cs vs:List Value) (o off n:Nat):aT (put h b off' cs vs o) b off n=if off+n≤(aK cs off' vs).length then some (((aK cs off' vs).drop off).take n) else if n=0 then some [] else none:=
 aw (ax h b off' cs vs o) off n
theorem dt (h:ae) (cs:List Value) (o off n:Nat):aT (aH h cs o) h.next off n=if off+n≤cs.length then some ((cs.drop off).take n) else if n=0 then some [] else none:=
 aw (bH h cs o) off n
theorem zg {h:ae} {b:Nat} (o:nr) (H:Old b h):(h.new o).tr.get b=h.tr.get b:=by
 simp only[ae.new,Tr.aN]
 rw[if_neg (by intro e;have:=H.lt;omega)]
theorem pS.ready {l:Nat} {e:Env} {Q:aO→Env→ae→Prop} {h:ae} {a:Env} {b:List Nat} {c d:aj} (hl:h.tr.get l=some (.loop a b c d .ready)) (H:Q .normal e (ve h l)):pS l e Q h:=by
 unfold pS;rw[hl];exact H
section
variable {F:Nat→Option bA} {Q:aO→Env→ae→Prop} {R:Env→ae→Prop} {e:Env} {h:ae} {l:List aV} {k:Nat} {m:List (aV×List Nat)}
theorem az.cut {c:aj} {h1:ae} (P:ae→Prop) (hp:P h1) (K: ∀h',P h'→az F c e h' Q):az F c e h1 Q:=K h1 hp
theorem aD.cut {h1:ae} (P:ae→Prop) (hp:P h1) (K: ∀h',P h'→aD F l e h' R):aD F l e h1 R:=K h1 hp
theorem aP.cut {h1:ae} (P:ae→Prop) (hp:P h1) (K: ∀h',P h'→aP F k m e h' R):aP F k m e h1 R:=K h1 hp
theorem aP.call {d:Option Nat} {f:Nat} {args:List Operand} {chk:List Nat} {V:Value→ae→Prop} (H:aE F f (pP e args) h V) (K: ∀v h',V v h'→still (dW e d v) h' k chk=true∧aP F k m (dW e d v) h' R):aP F k ((⟨d,none,.call (.func f) args⟩,chk)::m) e h R:=by
 rw[GM]
 obtain⟨n,v,h',hr,hv⟩:=H
 refine⟨n,v,h',?_,K v h' hv⟩
 have:=r8 hr
 simpa [ev,AI.cm] using this
theorem aP.cm {d:Option Nat} {f:Operand} {args:List Operand} {chk:List Nat} {V:Value→ae→Prop} (H:bZ F (ev e f) (pP e args) h V) (K: ∀v h',V v h'→still (dW e d v) h' k chk=true∧aP F k m (dW e d v) h' R):aP F k ((⟨d,none,.call f args⟩,chk)::m) e h R:=by
 rw[GM]
 exact H.mono K
end
def oH (z:List Value) (o bytes fo fs:Nat):aj:=(.seq (.ops [o_ 6 (.mv (.const (.slice none 0 0)))]) (.seq (.ops [m_ 10 0,m_ 11 1,o_ 12 (.slice o (t_ 10) (some (t_ 11)) none none)]) (.seq (.ops [m_ 13 2,z_ 14 13,m_ 7 14]) (.seq (.seq (.ops [m_ 15 7,o_ 16 (.bin .eql [1] (t_ 15) (i_ 0))]) (.cond (t_ 16) (.seq (.ops [m_ 17 0,m_ 6 17]) .ret) .skip)) (.seq (.ops [m_ 18 0,z_ 19 18,m_ 8 19]) (.seq (.seq (.ops [m_ 20 1,m_ 21 8,o_ 22 (.bin .eql [1] (t_ 20) (t_ 21))]) (.cond (t_ 22) (.seq (.ops [m_ 23 0,m_ 24 2,o_ 25 (.append z bytes false (t_ 23) (t_ 24)),m_ 6 25]) .ret) .skip)) (.seq (.seq (.ops [m_ 26 8,m_ 27 7,B_ 28 .add 26 27,m_ 29 0,o_ 30 (.FV (t_ 29)),B_ 31 .gtr 28 30]) (.cond (t_ 31) (.seq (.ops [m_ 32 0,m_ 33 1,o_ 34 (.slice o (t_ 32) none (some (t_ 33)) none),m_ 35 8,m_ 36 7,B_ 37 .add 35 36,m_ 38 1,B_ 39 .sub 37 38,o_ 40 (.append z bytes true (t_ 34) (t_ 39)),m_ 9 40]) (.seq (.ops [m_ 41 9,m_ 42 1,o_ 43 (.slice o (t_ 41) (some (t_ 42)) none none),m_ 44 2,o_ 45 (.copy o (t_ 43) (t_ 44))]) (.seq (.draw [D_ (m_ 46 9),D_ (m_ 47 1),D_ (m_ 48 7),D_ (B_ 49 .add 47 48),(o_ 50 (.slice o (t_ 46) (some (t_ 49)) none none),[]),D_ (m_ 51 0),D_ (m_ 52 1),(o_ 53 (.slice o (t_ 51) (some (t_ 52)) none none),[]),(o_ 54 (.copy o (t_ 50) (t_ 53)),[])]) (.seq (.ops [m_ 55 9,m_ 6 55]) .ret)))) .skip)) (.seq (.ops [m_ 56 0,m_ 57 8,m_ 58 7,B_ 59 .add 57 58,o_ 60 (.slice o (t_ 56) none (some (t_ 59)) none),m_ 0 60]) (.seq (.seq (.ops [m_ 61 2,m_ 62 0,m_ 63 1,m_ 64 7,B_ 65 .add 63 64,o_ 66 (.slice o (t_ 62) (some (t_ 65)) none none),o_ 67 (.call (.func fo) [t_ 61,t_ 66]),o_ 68 (.un .not (t_ 67))]) (.cond (t_ 68) (.seq (.draw [D_ (m_ 69 0),D_ (m_ 70 1),D_ (m_ 71 7),D_ (B_ 72 .add 70 71),(o_ 73 (.slice o (t_ 69) (some (t_ 72)) none none),[]),D_ (m_ 74 0),D_ (m_ 75 1),(o_ 76 (.slice o (t_ 74) (some (t_ 75)) none none),[]),(o_ 77 (.copy o (t_ 73) (t_ 76)),[])]) (.seq (.ops [m_ 78 0,m_ 79 1,o_ 80 (.slice o (t_ 78) (some (t_ 79)) none none),m_ 81 2,o_ 82 (.copy o (t_ 80) (t_ 81))]) (.seq (.ops [m_ 83 0,m_ 6 83]) .ret))) .skip)) (.seq (.ops [m_ 84 0,m_ 85 8,o_ 86 (.slice o (t_ 84) (some (t_ 85)) none none),m_ 87 2,o_ 88 (.copy o (t_ 86) (t_ 87))]) (.seq (.ops [m_ 89 0,m_ 90 1,o_ 91 (.slice o (t_ 89) (some (t_ 90)) none none),m_ 92 7,o_ 93 (.call (.func fs) [t_ 91,t_ 92])]) (.seq (.ops [m_ 94 0,m_ 6 94]) .ret))))))))))))
def ay (cs vs:List Value) (off i len o:Nat):List Value:=(cs.drop off).take (i*o)++vs++(cs.drop (off+i*o)).take ((len-i)*o)
theorem Nb {cs vs:List Value} {off i o len:Nat} (hv:vs.length=o) (hi:i<len) (hl:off+(len+1)*o≤cs.length):
  aK (aK cs (off+(i+1)*o) ((cs.drop (off+i*o)).take ((len-i)*o))) (off+i*o) vs=cs.take off++ay cs vs off i len o++cs.drop (off+(len+1)*o):=by
 have e2:(i+1)*o=i*o+o:=by rw[Nat.add_mul];omega
 have e3:(len+1)*o=len*o+o:=by rw[Nat.add_mul];omega
 have e4:i*o+(len-i)*o=len*o:=by rw[←Nat.add_mul];congr 1;omega
 have hT:((cs.drop (off+i*o)).take ((len-i)*o)).length=(len-i)*o:=by simp;omega
 unfold aK ay
 rw[hT,hv]
 have a1:(cs.take (off+(i+1)*o)++(cs.drop (off+i*o)).take ((len-i)*o)++cs.drop (off+(i+1)*o+(len-i)*o)).take (off+i*o)=cs.take off++(cs.drop off).take (i*o):=by
  rw[List.append_assoc,List.take_append_of_le_length (by simp;omega),List.take_take,Nat.min_eq_left (by omega),List.take_add]
 have a2:(cs.take (off+(i+1)*o)++(cs.drop (off+i*o)).take ((len-i)*o)++cs.drop (off+(i+1)*o+(len-i)*o)).drop (off+i*o+o)=(cs.drop (off+i*o)).take ((len-i)*o)++cs.drop (off+(len+1)*o):=by
  rw[List.append_assoc,List.drop_append,List.length_take,Nat.min_eq_left (by omega),show off+i*o+o-(off+(i+1)*o)=0 by omega,List.drop_zero,
   List.drop_eq_nil_of_le (by simp;omega),List.nil_append,show off+(i+1)*o+(len-i)*o=off+(len+1)*o by omega]
 rw[a1,a2]
 simp only[List.append_assoc]
theorem IW {F:Nat→Option bA} {f fo fs:Nat} {z:List Value} {o bytes:Nat} {fov:bA} (hf:F f=some ⟨[.tmp 6],oH z o bytes fo fs,.no⟩) (hfo:F fo=some fov) (hov:fov.wF= .FN) (ho:0<o)
  {h:ae} {b off len cap i x xo xc:Nat} {cs vs:List Value} {s xs:Nat} {xcs:List Value} {xop:Nat} (hi:i<len) (hcap:len<cap) (hlen:len<1000000) (hb:h.tr.get b=some (.aA cs false 0 s)) (hl:off+cap*o≤cs.length)
  (hx:h.tr.get x=some (.aA xcs false xop xs)) (hvs:aT h x xo o=some vs) (hbx:b≠x):
  aE F f [.slice (some ⟨b,off,none⟩) len cap,.int .i64 i,.slice (some ⟨x,xo,none⟩) 1 xc] h (fun v h'=>v= .slice (some ⟨b,off,none⟩) (len+1) cap∧h'.next=h.next∧h.clock≤h'.clock∧
   (∀y,y<h.next→y≠b→h'.tr.get y=h.tr.get y)∧ ∃s',h'.tr.get b=some (.aA (cs.take off++ay cs vs off i len o++cs.drop (off+(len+1)*o)) false 0 s')):=by
 obtain⟨L,hL⟩: ∃L,L=len+1:=⟨_,rfl⟩
 obtain⟨I,hI⟩: ∃I,I=i+1:=⟨_,rfl⟩
 rw[←hL]
 have w1:IntKind.i64.wrap ((len:Int)+1)=(L:Int):=by rw[wrap_i64 _ (by omega) (by omega)];omega
 have w3:IntKind.i64.wrap ((i:Int)+1)=(I:Int):=by rw[wrap_i64 _ (by omega) (by omega)];omega
 have q1:((i:Int)==(len:Int))=false:=by simp;omega
 have q2: ¬cap<L:=by omega
 have q2':L≤cap:=by omega
 have q3:i≤len:=by omega
 have q6:i≤L:=by omega
 have q7:I≤L:=by omega
 have q8:Nat.min 1 (L-i)=1:=by show min 1 (L-i)=1;omega
 have q9:Nat.min (L-i) (L-I)=len-i:=by show min (L-i) (L-I)=len-i;omega
 have q10: ¬len-i=0:=by omega
 have m1:i*o+(len-i)*o=len*o:=by rw[←Nat.add_mul];congr 1;omega
 have m2:L*o=len*o+o:=by rw[hL,Nat.add_mul];omega
 have m3:I*o=i*o+o:=by rw[hI,Nat.add_mul];omega
 have m4:L*o≤cap*o:=Nat.mul_le_mul_right _ q2'
 have hlv:vs.length=o:=by
  unfold aT at hvs
  rw[hx] at hvs
  dsimp only at hvs
  split at hvs
  ·rename_i hh;cases hvs;exact Nat.eq_of_beq_eq_true hh
  ·cases hvs
 have q14:aT h b (off+i*o) ((len-i)*o)=some ((cs.drop (off+i*o)).take ((len-i)*o)):=cN hb (by omega)
 have q15:((cs.drop (off+i*o)).take ((len-i)*o)).length=(len-i)*o:=by simp;omega
 have q16:min ((len-i)*o) (cs.length-(off+i*o))=(len-i)*o:=by omega
 have q17:off+I*o+(len-i)*o≤cs.length:=by omega
 have q18:(aK cs (off+I*o) ((cs.drop (off+i*o)).take ((len-i)*o))).length=cs.length:=by simp[aK];omega
 have q19:off+i*o+o≤cs.length:=by omega
 have q20: ¬x=b:=fun e=>hbx e.symm
 refine aE.of hf ?_
 unfold oH
 simp[w1,w3,q1,q2,q2',q3,q6,q7,q8,q9,q10,hb]
 refine aD.cm (V:=fun v h'=>v= .bool false∧h'=h) (bZ.FN hfo hov (v:= .bool false) (h':=h) ?_ ⟨rfl,rfl⟩) ?_
 ·have hxb:Nat.beq x b=false:=by
   cases e:Nat.beq x b with
   |true=>exact absurd (Nat.eq_of_beq_eq_true e) q20
   |false=>rfl
  simp[Hu,hx,hb,hxb]
 rintro _ h' ⟨rfl,e⟩
 subst e
 simp[w1,w3,q1,q2,q2',q3,q6,q7,q8,q9,q10,hb,q14,aB,bg,hvs,hlv,q15,q16,q17,q18,q19,q20,-ag]
 refine⟨by omega,fun y _ hy=>by simp[hy],?_⟩
 rw[hI,hL,Nb hlv hi (by rw[←hL];omega)]
 simp only[List.append_assoc]
section
variable {P:Program} {CC:bI} {ρ ρ₂:dp} {h h₂:ae} {w w₂:World}
theorem Kj {v c:Value} (k:KR ρ v c) (hv:bx v=true):bx c=true:=by
 cases k with
 |cell k=>cases k<;>first|exact hv|cases hv
 |fn=>cases hv
 |yield=>cases hv
theorem cu.part {h':ae} (S:cu CC ρ h w) (hn:h'.next=h.next) (hs: ∀y o,h'.tr.get y=some o→h.tr.get y=some o):cu CC ρ h' w∧Ext ρ h w ρ h' w:=
 ⟨⟨fun b r hb=>by rw[hn];exact S.low b r hb,fun x r o hx ho=>S.obj x r o hx (hs x o ho),fun x y rx ry p hx hy ⟨q,hq,hqr⟩ hp hne=>S.inj x y rx ry p hx hy ⟨q,hs x q hq,hqr⟩ (hs y p hp) hne,fun x p hp=>by rw[hn];exact S.wf x p (hs x p hp)⟩,
  ⟨ρ.le_refl,Nat.le_of_eq hn.symm,Nat.le_refl _,rfl,rfl,rfl,fun _ _ _=>rfl,fun x r hx ⟨q,hq,hqr⟩=> .inr ⟨x,r,hx,⟨q,hs x q hq,hqr⟩,rfl⟩,fun x r h1 h2=>(by rw[h1] at h2;cases h2),fun x r p hx hp=> .inr ⟨x,r,p,hx,hs x p hp,rfl⟩⟩⟩
end
section
variable {P:Program} {T:mV} {ng:Nat} {F:Nat→Option bA}
theorem EF {ρ:dp} {a b c:Value} {l:List Value} (h:All2 (VR ρ) [a,b,c] l): ∃x y z,l=[x,y,z]∧VR ρ a x∧VR ρ b y∧VR ρ c z:=by
 cases h with
 |cons h1 h=>cases h with
  |cons h2 h=>cases h with
   |cons h3 h=>cases h with
    |nil=>exact⟨_,_,_,rfl,h1,h2,h3⟩
theorem ef {ρ:dp} {b o len cap:Nat} {c:Value} (h:VR ρ (.slice (some ⟨b,o,none⟩) len cap) c): ∃r ca ccap,ρ b=some r∧oK r o len cap ca ccap∧c= .slice (some ca) len ccap:=by
 have:=CR.pW h rfl
 cases this with
 |slice h' hs=>exact⟨_,_,_,h',hs,rfl⟩
end
def BQ (F:Nat→Option bA) (fo:Nat) (f:Nat):Option bA:=bif Nat.beq f fo then some ⟨[],.bad,.FN⟩ else F f
section
variable {P:Program} {T:mV} {ng:Nat} {F:Nat→Option bA}
theorem Fs {dr:pU} (hF:zD P T ng dr F) {fo:Nat} (ho:Gn P T fo):zD P T ng dr (BQ F fo):=by
 intro f af h
 unfold BQ at h
 cases hb:Nat.beq f fo with
 |true=>
  rw[hb] at h
  cases h
  rw[Nat.eq_of_beq_eq_true hb]
  exact ho
 |false=>rw[hb] at h;exact hF f af h
end
theorem LJ {F:Nat→Option bA} {f fo fs:Nat} {z:List Value} {o bytes:Nat} (hf:F f=some ⟨[.tmp 6],oH z o bytes fo fs,.no⟩) (hz:z.length=o) (ho:0<o) (hby:bytes≤1000)
  {h:ae} {b off len cap x xo xc:Nat} {cs vs:List Value} {s xs:Nat} {xcs:List Value} {xop:Nat} (hcap:len<cap) (hlen:len<1000000) (hb:h.tr.get b=some (.aA cs false 0 s)) (hl:off+cap*o≤cs.length)
  (hx:h.tr.get x=some (.aA xcs false xop xs)) (hvs:aT h x xo o=some vs):
  aE F f [.slice (some ⟨b,off,none⟩) len cap,.int .i64 len,.slice (some ⟨x,xo,none⟩) 1 xc] h (fun v h'=>v= .slice (some ⟨b,off,none⟩) (len+1) cap∧h'.next=h.next∧h.clock≤h'.clock∧
   (∀y,y<h.next→y≠b→h'.tr.get y=h.tr.get y)∧ ∃s',h'.tr.get b=some (.aA (aK cs (off+len*o) vs) false 0 s')):=by
 obtain⟨L,hL⟩: ∃L,L=len+1:=⟨_,rfl⟩
 rw[←hL]
 have q2:L≤cap:=by omega
 have m2:L*o=len*o+o:=by rw[hL,Nat.add_mul];omega
 have m4:L*o≤cap*o:=Nat.mul_le_mul_right _ q2
 have hlv:vs.length=o:=by
  unfold aT at hvs
  rw[hx] at hvs
  dsimp only at hvs
  split at hvs
  ·rename_i hh;cases hvs;exact Nat.eq_of_beq_eq_true hh
  ·cases hvs
 have r1:roomy L=true:=by simp[roomy];omega
 have r2:roomy (L*bytes)=true:=by
  have:L*bytes≤1000000*1000:=Nat.mul_le_mul (by omega) hby
  simp[roomy];omega
 have q5:off+len*o+o≤cs.length:=by omega
 refine aE.of hf ?_
 unfold oH
 simp[hz,ho,hb,hx,hvs,j6,news,ff,←hL,r1,r2,q2,jk,hlv,q5,-ag]
 exact⟨fun y _ hy=>by simp[Tr.aN,hy],h.clock,by simp[Tr.aN]⟩
theorem Ab {F:Nat→Option bA} {f fo fs:Nat} {z:List Value} {o bytes:Nat} {fov:bA} (hf:F f=some ⟨[.tmp 6],oH z o bytes fo fs,.no⟩) (hfo:F fo=some fov) (hov:fov.wF= .FN) (hz:z.length=o) (ho:0<o) (hby:bytes≤1000)
  {h:ae} {b off len cap i x xo xc:Nat} {cs vs:List Value} {s xs:Nat} {xcs:List Value} {xop:Nat} (hi:i≤len) (hcap:len<cap) (hlen:len<1000000) (hb:h.tr.get b=some (.aA cs false 0 s)) (hl:off+cap*o≤cs.length)
  (hx:h.tr.get x=some (.aA xcs false xop xs)) (hvs:aT h x xo o=some vs) (hbx:b≠x):
  aE F f [.slice (some ⟨b,off,none⟩) len cap,.int .i64 i,.slice (some ⟨x,xo,none⟩) 1 xc] h (fun v h'=>v= .slice (some ⟨b,off,none⟩) (len+1) cap∧h'.next=h.next∧h.clock≤h'.clock∧
   (∀y,y<h.next→y≠b→h'.tr.get y=h.tr.get y)∧ ∃s',h'.tr.get b=some (.aA (cs.take off++ay cs vs off i len o++cs.drop (off+(len+1)*o)) false 0 s')):=by
 rcases Nat.lt_or_ge i len with h1|h1
 ·exact IW hf hfo hov ho h1 hcap hlen hb hl hx hvs hbx
 ·have:i=len:=by omega
  subst this
  have m2:(i+1)*o=i*o+o:=by rw[Nat.add_mul];omega
  have m4:(i+1)*o≤cap*o:=Nat.mul_le_mul_right _ (by omega)
  have hlv:vs.length=o:=by
   unfold aT at hvs
   rw[hx] at hvs
   dsimp only at hvs
   split at hvs
   ·rename_i hh;cases hvs;exact Nat.eq_of_beq_eq_true hh
   ·cases hvs
  have e:cs.take off++ay cs vs off i i o++cs.drop (off+(i+1)*o)=aK cs (off+i*o) vs:=by
   unfold ay aK
   rw[Nat.sub_self,Nat.zero_mul,List.take_zero,List.append_nil,←List.append_assoc,←List.take_add,hlv,m2,Nat.add_assoc]
  rw[e]
  exact LJ hf hz ho hby hcap hlen hb hl hx hvs
def LX (o:Nat) (args:List Value) (h:ae):Option (Value×ae):=
 match args with
 |[.slice (some ⟨b,off,none⟩) len cap,.int .i64 (.ofNat i),.slice (some ⟨x,xo,none⟩) m _]=>
  match h.tr.get b,h.tr.get x with
  |some (.aA cs false op _),some (.aA _ false _ _)=>
   if Nat.ble i len&&Nat.blt len cap&&Nat.beq m 1&&(Nat.beq op o||Nat.beq op 0)&&Nat.ble (off+cap*o) cs.length&& !(Nat.beq b x)&&Nat.blt len 1000000 then
    match aT h x xo o with
    |some vs=>some (.slice (some ⟨b,off,none⟩) (len+1) cap,{ put h b off cs (ay cs vs off i len o) op with next:=h.next+8 })
    |none=>none
   else none
  |_,_=>none
 |_=>none
theorem Gh {o:Nat} {args:List Value} {h h':ae} {v:Value} (hv:LX o args h=some (v,h')):
  ∃b off len cap i x xo xc cs op s xcs xop xs vs,args=[.slice (some ⟨b,off,none⟩) len cap,.int .i64 (.ofNat i),.slice (some ⟨x,xo,none⟩) 1 xc]∧h.tr.get b=some (.aA cs false op s)∧h.tr.get x=some (.aA xcs false xop xs)∧i≤len∧len<cap∧
   (op=o∨op=0)∧off+cap*o≤cs.length∧b≠x∧len<1000000∧aT h x xo o=some vs∧v= .slice (some ⟨b,off,none⟩) (len+1) cap∧h'= { put h b off cs (ay cs vs off i len o) op with next:=h.next+8 } :=by
 unfold LX at hv
 split at hv
 ·rename_i b off len cap i x xo m xc
  split at hv
  ·rename_i cs op s xcs xop xs hb hx
   split at hv
   ·rename_i hc
    simp only[Bool.and_eq_true,Bool.not_eq_true',Bool.or_eq_true] at hc
    obtain⟨⟨⟨⟨⟨⟨h1,h2⟩,h3⟩,h4⟩,h5⟩,h6⟩,h7⟩:=hc
    split at hv
    ·rename_i vs hvs
     cases hv
     have e3:=Nat.eq_of_beq_eq_true h3
     subst e3
     refine⟨b,off,len,cap,i,x,xo,xc,cs,op,s,xcs,xop,xs,vs,rfl,hb,hx,Nat.le_of_ble_eq_true h1,by simpa [Nat.blt_eq] using h2,h4.imp Nat.eq_of_beq_eq_true Nat.eq_of_beq_eq_true,Nat.le_of_ble_eq_true h5,?_,by simpa [Nat.blt_eq] using h7,hvs,rfl,rfl⟩
     rintro rfl
     rw[Nat.beq_refl] at h6;cases h6
    ·cases hv
   ·cases hv
  ·cases hv
 ·cases hv
theorem AA {o:Nat} {args:List Value} {h h':ae} {v:Value} (hv:LX o args h=some (v,h')):cQ h h':=by
 obtain⟨b,off,len,cap,i,x,xo,xc,cs,op,s,xcs,xop,xs,vs,_,hb,_,_,_,_,_,_,_,_,_,rfl⟩:=Gh hv
 have hget: ∀y,({ put h b off cs (ay cs vs off i len o) op with next:=h.next+8 } :ae).tr.get y=if y=b then some (.aA (aK cs off (ay cs vs off i len o)) false op h.clock) else h.tr.get y:=by
  intro y
  simp only[put,Tr.aN]
 refine⟨Nat.le_add_right _ _,Nat.le_succ _,?_,?_,?_⟩
 ·intro y cs' ro o' s' hy hg hs
  rw[hget] at hg
  by_cases e:y=b
  ·rw[if_pos e] at hg;cases hg;omega
  ·rwa [if_neg e] at hg
 ·intro hwf y ob hg
  rw[hget] at hg
  show y<h.next+8
  by_cases e:y=b
  ·have:=hwf b _ hb;omega
  ·rw[if_neg e] at hg
   have:=hwf y ob hg;omega
 ·intro y hy hg
  rw[hget] at hg
  by_cases e:y=b
  ·rw[if_pos e] at hg;cases hg
  ·rwa [if_neg e] at hg
section
variable {CC:bI} {ρ:dp} {h h':ae} {w:World}
theorem cu.swap (S:cu CC ρ h w) {b k:Nat} {r rk:uD} {ok ob:nr} (hk:ρ k=some rk) (hok:h.tr.get k=some ok) (hrw:ok.rw=true) (hb:ρ b=some r) (hbk:r.aA=rk.aA) (hob:h'.tr.get b=some ob) (hO:gh CC ρ r ob w) (hn:h.next≤h'.next)
  (hs: ∀y o,y≠b→h'.tr.get y=some o→y≠k∧ ∃o',h.tr.get y=some o'∧o=o'):cu CC ρ h' w∧Ext ρ h w ρ h' w:=by
 have hwk:dm h k:=⟨ok,hok,hrw⟩
 refine⟨⟨fun x rx hx=>⟨Nat.lt_of_lt_of_le (S.low x rx hx).1 hn,(S.low x rx hx).2⟩,?_,?_,?_⟩,⟨ρ.le_refl,hn,Nat.le_refl _,rfl,rfl,rfl,fun _ _ _=>rfl,?_,fun x r h1 h2=>(by rw[h1] at h2;cases h2),?_⟩⟩
 ·intro x rx o hx ho
  by_cases e:x=b
  ·subst e;rw[hb] at hx;cases hx;rw[hob] at ho;cases ho;exact hO
  ·obtain⟨_,o',h1,rfl⟩:=hs x o e ho
   exact S.obj x rx o hx h1
 ·intro x y rx ry o hx hy ⟨q,hq,hqr⟩ ho hne
  by_cases e1:x=b
  ·subst e1
   rw[hb] at hx;cases hx
   obtain⟨h2,o',h1,rfl⟩:=hs y o (Ne.symm hne) ho
   rw[hbk]
   exact S.inj k y rk ry o hk hy hwk h1 (Ne.symm h2)
  ·obtain⟨h3,q',h4,rfl⟩:=hs x q e1 hq
   by_cases e2:y=b
   ·subst e2
    rw[hb] at hy;cases hy
    rw[hbk]
    exact S.inj x k rx rk ok hx hk ⟨q,h4,hqr⟩ hok h3
   ·obtain⟨h2,o',h1,rfl⟩:=hs y o e2 ho
    exact S.inj x y rx ry o hx hy ⟨q,h4,hqr⟩ h1 hne
 ·intro x o hx
  by_cases e:x=b
  ·subst e;exact Nat.lt_of_lt_of_le (S.low x r hb).1 hn
  ·obtain⟨_,o',h1,rfl⟩:=hs x o e hx
   exact Nat.lt_of_lt_of_le (S.wf x o h1) hn
 ·intro x rx hx ⟨q,hq,hqr⟩
  by_cases e:x=b
  ·subst e;rw[hb] at hx;cases hx;exact .inr ⟨k,rk,hk,hwk,hbk.symm⟩
  ·obtain⟨_,o',h1,rfl⟩:=hs x q e hq
   exact .inr ⟨x,rx,hx,⟨q,h1,hqr⟩,rfl⟩
 ·intro x rx o hx ho
  by_cases e:x=b
  ·subst e;rw[hb] at hx;cases hx;exact .inr ⟨k,rk,ok,hk,hok,hbk.symm⟩
  ·obtain⟨_,o',h1,rfl⟩:=hs x o e ho
   exact .inr ⟨x,rx,o,hx,h1,rfl⟩
end
theorem EP {cs vs:List Value} {off i len o:Nat} (hi:i≤len) (hv:vs.length=o) (hl:off+len*o≤cs.length):cs.take off++ay cs vs off i len o++cs.drop (off+(len+1)*o)=aK cs off (ay cs vs off i len o)∧(ay cs vs off i len o).length=(len+1)*o:=by
 have h1:i*o+(len-i)*o=len*o:=by rw[←Nat.add_mul];congr 1;omega
 have h2:(ay cs vs off i len o).length=(len+1)*o:=by
  simp only[ay,List.length_append,List.length_take,List.length_drop,hv,Nat.add_mul]
  omega
 exact⟨by unfold aK;rw[h2],h2⟩
section
variable {P:Program} {T:mV} {ng:Nat} {F:Nat→Option bA}
theorem HF (hF:zD P T ng (dq T ng) F) (hT:bQ P T) {f fo fs:Nat} {z:List Value} {o bytes:Nat} {fov:bA} (hf:F f=some ⟨[.tmp 6],oH z o bytes fo fs,.no⟩) (hfo:F fo=some fov) (hov:fov.wF= .FN)
  (hz:z.length=o) (ho:0<o) (hby:bytes≤1000):Ky P T ng (dq T ng) f (LX o):=by
 intro args h v h' hv cargs ρ w S hG ha ccs
 obtain⟨b,off,len,cap,i,x,xo,xc,cs,op,s,xcs,xop,xs,vs,rfl,hb,hx,hi,hcap,hop,hlen,hbx,hsm,hvs,rfl,rfl⟩:=Gh hv
 obtain⟨c0,c1,c2,rfl,h0,h1,h2⟩:=EF ha
 obtain⟨r,ca,ccap,hρ,hsl,rfl⟩:=ef h0
 have hvl:vs.length=o:=by
  unfold aT at hvs
  rw[hx] at hvs
  dsimp only at hvs
  split at hvs
  ·rename_i hh;cases hvs;exact Nat.eq_of_beq_eq_true hh
  ·cases hvs
 have hm1:len*o+o=(len+1)*o:=by rw[Nat.add_mul];omega
 have hm2:(len+1)*o≤cap*o:=Nat.mul_le_mul_right _ hcap
 obtain⟨hspl,hil⟩:=EP (cs:=cs) (off:=off) hi hvl (by omega)
 have hbn:=S.wf _ _ hb
 have hxn:=S.wf _ _ hx
 have hB:=S.obj b r _ hρ hb
 rcases Nat.eq_zero_or_pos op with rfl|hpos
 ·obtain⟨n,v2,h2',hr,rfl,hn2,hc2,hsame,s',hk2⟩:=Ab (F:=F) hf hfo hov hz ho hby (h:=h) (b:=b) (off:=off) (xc:=xc) hi hcap hsm hb hlen hx hvs hbx
  obtain⟨fn,ρ2,w2,c,fr2,g1,g2,g3,g4,g5,g6,g7,S2,E2⟩:=uQ hF hT hr S hG ha ccs
  rw[hspl] at hk2
  have hρ2:=E2.le b r hρ
  have hO:gh (eY T ng (dq T ng)) ρ2 r (.aA (aK cs off (ay cs vs off i len o)) false 0 h.clock) w2:=by
   have:=S2.obj b r _ hρ2 hk2
   exact this
  obtain⟨S3,E3⟩:=S2.swap (h':= { put h b off cs (ay cs vs off i len o) 0 with next:=h.next+8 }) hρ2 hk2 rfl hρ2 rfl (by simp[put,Tr.aN]) hO (by rw[hn2];exact Nat.le_add_right _ _) (fun y o' hy hy'=>by
   simp only[put,Tr.aN] at hy'
   rw[if_neg hy] at hy'
   exact⟨hy,o',by rw[hsame y (S.wf y _ hy') hy];exact hy',rfl⟩)
  exact⟨fn,ρ2,w2,c,fr2,g1,g2,g3,g4,g5,g6,g7,S3,E2.trans E3⟩
 ·have hop':op=o:=by omega
  subst hop'
  obtain⟨tcs,el,fr,hw,hrl,hro,⟨hroom,hspare⟩,hfr,hcells⟩:=hB
  have hrr:r.len≤r.room:=by
   obtain⟨c,hc,_⟩:=hcells (cs.length-1) _ (aQ (by omega))
   have:=(Array.getElem?_eq_some_iff.mp hc).1
   omega
  have hspl':(tcs.toList.drop (r.base+r.len)).length=r.room-r.len:=by simp;omega
  have hext:(cs++tcs.toList.drop (r.base+r.len)).length=r.room:=by rw[List.length_append,hspl'];omega
  have hspc: ∀j v,(tcs.toList.drop (r.base+r.len))[j]? =some v→bx v=true∧tcs[r.base+(r.len+j)]? =some v:=by
   intro j v hj
   rw[List.getElem?_drop] at hj
   have hj':tcs[r.base+(r.len+j)]? =some v:=by rw[←Nat.add_assoc];simpa using hj
   exact⟨hspare (by omega) (r.len+j) v (by omega) hj',hj'⟩
  let im:uD:=⟨r.aA,r.base,r.room,0,r.room⟩
  have hle1:=pg (r:=im) S.fresh
  have hob1:gh (eY T ng (dq T ng)) (gM ρ h.next im) im (.aA (cs++tcs.toList.drop (r.base+r.len)) false 0 0) w:=by
   refine⟨tcs,el,fr,hw,hext.symm,rfl,⟨hroom,fun h=>absurd rfl h⟩,hfr,fun j v hj=> ?_⟩
   by_cases hjl:j<cs.length
   ·rw[List.getElem?_append_left hjl] at hj
    obtain⟨c,hc,hk⟩:=hcells j v hj
    exact⟨c,hc,hk.mono hle1⟩
   ·rw[List.getElem?_append_right (by omega)] at hj
    obtain⟨hc,ht⟩:=hspc _ _ hj
    refine⟨v,?_,.cell (gm hc)⟩
    rw[←ht]
    show tcs[r.base+j]? =_
    congr 1;omega
  obtain⟨S1,E1⟩:=S.move (im:=im) hρ hb rfl rfl ⟨rfl,rfl,rfl,rfl,fun _ _=>rfl⟩ hob1
  have hget1: ∀y,(({ h with tr:=h.tr.del b } :ae).new (.aA (cs++tcs.toList.drop (r.base+r.len)) false 0 0)).tr.get y=if y=h.next then some (.aA (cs++tcs.toList.drop (r.base+r.len)) false 0 0) else if y=b then none else h.tr.get y:=by
   intro y
   simp only[ae.new,Tr.aN,Tr.ke]
  have hn1:(({ h with tr:=h.tr.del b } :ae).new (.aA (cs++tcs.toList.drop (r.base+r.len)) false 0 0)).next=h.next+1:=rfl
  generalize hh1:({ h with tr:=h.tr.del b } :ae).new (.aA (cs++tcs.toList.drop (r.base+r.len)) false 0 0)=h1' at*
  have hb1:h1'.tr.get h.next=some (.aA (cs++tcs.toList.drop (r.base+r.len)) false 0 0):=by rw[hget1,if_pos rfl]
  have hx1:h1'.tr.get x=some (.aA xcs false xop xs):=by rw[hget1,if_neg (by omega),if_neg (Ne.symm hbx)];exact hx
  have hvs1:aT h1' x xo op=some vs:=by
   rw[←hvs];unfold aT;rw[hx1,hx]
  have hca:ca=⟨r.aA,r.base+off,none⟩:=by
   rcases hsl.1 with e|⟨_,e⟩
   ·exact e
   ·omega
  have hcc:cap≤ccap:=by
   rcases hsl.2.1 with e|e
   ·omega
   ·omega
  have hbig:off+ccap*op≤r.room:=by
   rcases hsl.2.1 with e|⟨_,_,_,e⟩
   ·rw[e];omega
   ·rw[hro] at e;exact e
  have hargs:All2 (VR (gM ρ h.next im)) [.slice (some ⟨h.next,off,none⟩) len ccap,.int .i64 (.ofNat i),.slice (some ⟨x,xo,none⟩) 1 xc] [.slice (some ca) len ccap,c1,c2]:=by
   refine .cons (CR.vr (.slice (r:=im) (by simp[gM]) ⟨.inl hca,.inl rfl,by omega⟩)) (.cons (h1.mono hle1) (.cons (h2.mono hle1) .nil))
  have hG1:=hG.mono hle1
  obtain⟨n,v2,h2',hr,rfl,hn2,hc2,hsame,s',hk2⟩:=Ab (F:=F) hf hfo hov hz ho hby (h:=h1') (b:=h.next) (off:=off) (i:=i) (xc:=xc) hi (show len<ccap by omega) hsm hb1 (by rw[hext];exact hbig) hx1 hvs1 (by omega)
  obtain⟨fn,ρ2,w2,c,fr2,g1,g2,g3,g4,g5,g6,g7,S2,E2⟩:=uQ hF hT hr S1 hG1 hargs ccs
  obtain⟨r2,ca2,ccap2,hρ2,hsl2,rfl⟩:=ef g7
  have hr2:r2=im:=by
   have:=E2.le h.next im (by simp[gM])
   rw[this] at hρ2;cases hρ2;rfl
  subst hr2
  have hin:ay (cs++tcs.toList.drop (r.base+r.len)) vs off i len op=ay cs vs off i len op:=by
   have e4:i*op+(len-i)*op=len*op:=by rw[←Nat.add_mul];congr 1;omega
   unfold ay
   rw[List.drop_append_of_le_length (by omega),List.drop_append_of_le_length (by omega),List.take_append_of_le_length (by simp;omega),List.take_append_of_le_length (by simp;omega)]
  have hbig2:(cs++tcs.toList.drop (r.base+r.len)).take off++ay (cs++tcs.toList.drop (r.base+r.len)) vs off i len op++(cs++tcs.toList.drop (r.base+r.len)).drop (off+(len+1)*op)=aK cs off (ay cs vs off i len op)++tcs.toList.drop (r.base+r.len):=by
   rw[hin,←hspl,List.take_append_of_le_length (by omega),List.drop_append_of_le_length (by omega)]
   simp only[List.append_assoc]
  rw[hbig2] at hk2
  have hlc:(aK cs off (ay cs vs off i len op)).length=cs.length:=by
   rw[←hspl]
   simp only[List.length_append,List.length_take,List.length_drop,hil]
   omega
  obtain⟨tcs2,el2,fr2',hw2,hl2,_,⟨hroom2,_⟩,hfr2,hcells2⟩:=S2.obj _ _ _ hρ2 hk2
  have hρb:ρ2 b=some r:=E2.le b r (hle1 b r hρ)
  have hO:gh (eY T ng (dq T ng)) ρ2 r (.aA (aK cs off (ay cs vs off i len op)) false op h.clock) w2:=by
   refine⟨tcs2,el2,fr2',hw2,by omega,hro,⟨hroom2,fun _ j c hj hc=> ?_⟩,hfr2,fun j v hj=> ?_⟩
   ·have hsz:=(Array.getElem?_eq_some_iff.mp hc).1
    have hroom2':r.base+r.room=tcs2.size:=hroom2
    obtain⟨v,hv⟩: ∃v,(tcs.toList.drop (r.base+r.len))[j-cs.length]? =some v:=⟨_,aQ (by rw[hspl'];omega)⟩
    have hC:(aK cs off (ay cs vs off i len op)++tcs.toList.drop (r.base+r.len))[j]? =some v:=by
     rw[List.getElem?_append_right (by omega),hlc];exact hv
    obtain⟨c',hc',hk'⟩:=hcells2 _ _ hC
    have hc'':tcs2[r.base+j]? =some c':=hc'
    rw[hc] at hc''
    cases hc''
    exact Kj hk' (hspc _ _ hv).1
   ·have hjl:=(bY.mp hj).1
    exact hcells2 j v (by rw[List.getElem?_append_left hjl];exact hj)
  obtain⟨S3,E3⟩:=S2.swap (h':= { put h b off cs (ay cs vs off i len op) op with next:=h.next+8 }) hρ2 hk2 rfl hρb rfl (by simp[put,Tr.aN]) hO (by rw[hn2,hn1];show h.next+1≤h.next+8;omega) (fun y o' hy hy'=>by
   simp only[put,Tr.aN] at hy'
   rw[if_neg hy] at hy'
   have hlt:=S.wf y _ hy'
   exact⟨by omega,o',by rw[hsame y (by omega) (by omega),hget1,if_neg (by omega),if_neg hy];exact hy',rfl⟩)
  refine⟨fn,ρ2,w2,_,fr2,g1,g2,g3,g4,g5,g6,CR.vr (.slice (r:=r) hρb ⟨?_,?_,hcap⟩),S3,(E1.trans E2).trans E3⟩
  ·rcases hsl2.1 with e|⟨_,e⟩
   ·exact .inl e
   ·omega
  ·have:ccap2=ccap:=by
    rcases hsl2.2.1 with e|⟨e,_⟩
    ·exact e
    ·exact absurd rfl e
   rw[this]
   exact hsl.2.1
def zx (F:Nat→Option bA) (fi o:Nat) (f:Nat):Option bA:=bif Nat.beq f fi then some ⟨[],.bad,.run (LX o) fun _ _ _ _=>AA⟩ else F f
theorem D1 (hF:zD P T ng (dq T ng) F) (hT:bQ P T) {f fo fs:Nat} {z:List Value} {o bytes:Nat} {fov:bA} (hf:F f=some ⟨[.tmp 6],oH z o bytes fo fs,.no⟩) (hfo:F fo=some fov) (hov:fov.wF= .FN)
  (hz:z.length=o) (ho:0<o) (hby:bytes≤1000):zD P T ng (dq T ng) (zx F f o):=by
 intro g af h
 unfold zx at h
 cases hb:Nat.beq g f with
 |true=>
  rw[hb] at h
  cases h
  rw[Nat.eq_of_beq_eq_true hb]
  exact HF hF hT hf hfo hov hz ho hby
 |false=>rw[hb] at h;exact hF g af h
theorem aE.run {F:Nat→Option bA} {f:Nat} {rs:List zA} {body:aj} {p:List Value→ae→Option (Value×ae)} {k: ∀args h v h',p args h=some (v,h')→cQ h h'} {args:List Value} {h h':ae} {v:Value} {R:Value→ae→Prop} (hf:F f=some ⟨rs,body,.run p k⟩) (hp:p args h=some (v,h')) (H:R v h'):aE F f args h R:=
 ⟨0,v,h',by simp only[pb,lK,hf];exact hp,H⟩
end
end Go.AI
namespace Go.Proofs.YtdkdbjecehcekaaGreatDoor
open Go.AI
noncomputable def Pw:Nat→Option bA:=BQ (B6 Tryz.prog 1 funcAt) 96
noncomputable def FF:Nat→Option bA:=zx Pw 91 2
end Go.Proofs.YtdkdbjecehcekaaGreatDoor
