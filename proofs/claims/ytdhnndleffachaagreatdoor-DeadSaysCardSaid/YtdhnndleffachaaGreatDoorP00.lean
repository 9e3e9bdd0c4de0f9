/- Parts of the proof. -/
import GoSem.Dispatch
import Derived.Calls
import Derived.Below
import Derived.Laws.Rows
import Derived.Laws.CopyRow
import Derived.Laws.StructEq
import Derived.Laws.Append
import Derived.ChangeKeysEq
import Derived.Laws.Slices
import Derived.Laws.MakeOwn
import Derived.Laws.AppendOwn
import Derived.Laws.Sem
set_option linter.all false
set_option maxHeartbeats 1000000
namespace Go.AI
def ab {p:Prop} (h:p:=by omega):p:=h
def ae {p:Prop} (h:p:=by simp):p:=h
def ag {p:Prop} (h:p:=by decide):p:=h
def ai {p q:Nat->Prop}:∀x,p x->q x->q x:=fun _ _ h=>h
def aj {p q:Prop} (h:p) (k:p->q:=by intro h;simpa using h):q:=k h
def ak {p q:Prop} (h:p) (k:p->q:=by intro h;simp;exact h):q:=k h
def au {p q:Prop} (h:p) (k:p->q:=by intro h;simp[h]):q:=k h
def av {p q:Prop} (h:p) (k:p->q:=by intro h;omega):q:=k h
variable{args:List Value}{f:Nat}{v:Value}
inductive Tr(α:Type) where
 |nil
 |node (v:Option α) (l r:Tr α)
namespace Tr
variable{α:Type}
def get:Tr α->Nat->Option α
 |.nil,_=>none
 |.node v l r,k=>
  match k with
  |0=>v
  |k+1=>bif Nat.beq (k%2) 0 then l.get (k/2) else r.get (k/2)
def put:Nat->Tr α->Nat->Option α->Tr α
 |0,t,_,_=>t
 |f+1,.nil,k,x=>
  match k with
  |0=>.node x .nil .nil
  |k+1=>bif Nat.beq (k%2) 0 then .node none (put f .nil (k/2) x) .nil else .node none .nil (put f .nil (k/2) x)
 |f+1,.node v l r,k,x=>
  match k with
  |0=>.node x l r
  |k+1=>bif Nat.beq (k%2) 0 then .node v (put f l (k/2) x) r else .node v l (put f r (k/2) x)
def set(t:Tr α)(k:Nat)(x:α):Tr α:=put (k+1) t k (some x)
def del(t:Tr α)(k:Nat):Tr α:=put (k+1) t k none
end Tr
abbrev Env:=Tr Value
def bH(e:Env)(t:Nat):Value:=(Tr.get e t).getD (.tuple #[])
inductive jQ where
 |mv (x:Operand)
 |pick (c a b:Operand)
 |alloc (z:List Value)
 |box (x:Operand)
 |build (z:List Value) (parts:List (Nat×Nat×Operand))
 |fm (n:Nat) (z:List Value) (parts:List (Nat×Nat×Operand))
 |load (n:Option Nat) (a:Operand)
 |store (n:Nat) (a v:Operand)
 |yk (x:Operand)
 |bin (op:BinOp) (n:List Nat) (x y:Operand)
 |un (op:UnOp) (x:Operand)
 |conv (k:IntKind) (x:Operand)
 |uk (f:FuncId) (caps:List Operand)
 |gG (z:List Value) (bytes:Nat) (len cap:Operand)
 |slice (size:Nat) (x:Operand) (lo hi mx:Option Operand)
 |cq (off:Nat) (x:Operand)
 |fw (arr:Option Nat) (size:Nat) (x i:Operand)
 |index (arr:Option (Nat×Nat×Option Nat)) (x i:Operand)
 |ext (i:Nat) (x:Operand)
 |call (f:Operand) (args:List Operand)
 |nu (x:Operand)
 |JS (x:Operand)
 |append (z:List Value) (bytes:Nat) (mw:Bool) (s x:Operand)
 |copy (size:Nat) (d s:Operand)
 |clear (z:List Value) (x:Operand)
 |Tn (x:Operand)
 |bad
 deriving Inhabited
structure bX where
 dst:Option Nat
 guard:Option (Nat×Bool)
 op:jQ
 deriving Inhabited
inductive aG where
 |skip
 |ops (l:List bX)
 |draw (l:List (bX×List Nat))
 |seq (a b:aG)
 |cond (c:Operand) (a b:aG)
 |block (id:Nat) (c:aG)
 |loop (c:aG)
 |Ko (f:Operand) (ps:List Nat) (asg body:aG)
 |exit (id:Nat)
 |ret
 |bad
 deriving Inhabited
inductive GM where
 |tmp (t:Nat)
 |cell (a:Nat) (n:Option Nat)
inductive Tc where
 |ready|busy|done (j:Option Nat)
inductive oZ where
 |bZ (cells:List Value) (ro:Bool) (Jm:Nat) (aA8:Nat)
 |loop (env:Env) (ps:List Nat) (asg body:aG) (st:Tc)
 |map (es:List (Value×Value))
 |itr
structure az where
 aw:Nat
 clock:Nat
 tr:Tr oZ
def WF(h:az):Prop:=∀b o,h.tr.get b=some o->b<h.aw
structure eO(h h':az):Prop where
 aw:h.aw<=h'.aw
 clock:h.clock<=h'.clock
 cn:∀b cs ro o s,b<h.aw->h'.tr.get b=some (.bZ cs ro o s)->s<h.clock->h.tr.get b=some (.bZ cs ro o s)
 wf:WF h->WF h'
 mp:∀b,b<h.aw->h'.tr.get b=some (.map [])->h.tr.get b=some (.map [])
inductive Prim where
 |no
 |run (p:List Value->az->Option (Value×az)) (hp:∀args h v h',p args h=some (v,h')->eO h h')
 |Rv
structure cV where
 res:List GM
 body:aG
 zQ:Prim:=.no
inductive bK where
 |normal
 |exit (id:Nat)
 |ret
def ev(e:Env):Operand->Value
 |.tmp t=>bH e t
 |.const v=>v
 |.global g=>.pointer (some ⟨g,0,none⟩)
 |.func f=>.func (.func f) #[] #[]
def gy(e:Env):Option Nat->Value->Env
 |none,_=>e
 |some t,v=>Tr.set e t v
def az.new(h:az)(o:oZ):az:= {h with aw:=h.aw+1,tr:=h.tr.set h.aw o}
def aK(h:az)(cells:List Value)(j:Nat):az:=h.new (.bZ cells false j 0)
def agg(n:Option Nat)(cs:List Value):Option Value:=
 match n with
 |some n=>if Nat.beq cs.length n then some (.agg ⟨cs⟩) else none
 |none=>match cs with
  |[v]=>some v
  |_=>none
def width(n:Option Nat):Nat:=match n with|some n=>n|none=>1
def cD(h:az)(b off n:Nat):Option (List Value):=
 match h.tr.get b with
 |some (.bZ cs _ _ _)=>let r:=(cs.drop off).take n;if Nat.beq r.length n then some r else none
 |_=>none
def bg(cs:List Value)(off:Nat)(vs:List Value):List Value:=cs.take off++vs++cs.drop (off+vs.length)
def fU(h:az)(b off:Nat)(vs:List Value):Option az:=
 match h.tr.get b with
 |some (.bZ cs false o _)=>
  if Nat.ble (off+vs.length) cs.length then some {h with clock:=h.clock+1,tr:=h.tr.set b (.bZ (bg cs off vs) false o h.clock)} else none
 |_=>none
def cellsOf:Value->List Value
 |.agg cs=>cs.toList
 |v=>[v]
def plain:Value->Bool
 |.agg _=>false
 |.tuple _=>false
 |.chan _=>false
 |_=>true
def simple:Value->Bool
 |.agg _=>false
 |.tuple _=>false
 |.chan _=>false
 |.func _ _ _=>false
 |_=>true
def flat(v:Value):Option (List Value):=bif (cellsOf v).all plain then some (cellsOf v) else none
def mK(e:Env):List Value->List (Nat×Nat×Operand)->Option (List Value)
 |cs,[]=>some cs
 |cs,(off,n,x)::r=>match flat (ev e x) with
  |some vs=>if Nat.beq vs.length n&&Nat.ble (off+n) cs.length then mK e (bg cs off vs) r else none
  |none=>none
def jn(z:List Value):Nat->List Value
 |0=>[]
 |n+1=>z++jn z n
def iH(k:Nat)(a b:Value):Option Bool:=
 match k,a,b with
 |0,.bool a,.bool b=>some (a==b)
 |1,.int k a,.int j b=>if k=j then some (a==b) else none
 |2,.string a,.string b=>some (a==b)
 |_,_,_=>none
def de:List Nat->List Value->List Value->Option Bool
 |[],[],[]=>some true
 |k::ks,a::j,b::s=>match iH k a b,de ks j s with
  |some x,some y=>some (x&&y)
  |_,_=>none
 |_,_,_=>none
def vt(ks:List Nat)(a b:Value):Option Bool:=
 match a,b with
 |.agg a,.agg b=>match ks with
  |9::ks=>de ks a.toList b.toList
  |_=>none
 |a,b=>match ks with
  |[3]=>match a,b with
   |.slice none _ _,.slice b _ _=>some b.isNone
   |.slice (some _) _ _,.slice none _ _=>some false
   |_,_=>none
  |[4]=>match a,b with
   |.pointer none,.pointer b=>some b.isNone
   |.pointer (some _),.pointer none=>some false
   |_,_=>none
  |[5]=>match a,b with
   |.map none,.map b=>some b.isNone
   |.map (some _),.map none=>some false
   |_,_=>none
  |[6]=>match a,b with
   |.nilFunc,.nilFunc=>some true
   |.nilFunc,.func _ _ _=>some false
   |.func _ _ _,.nilFunc=>some false
   |_,_=>none
  |[k]=>iH k a b
  |_=>none
def jc(op:BinOp)(k:IntKind)(a b:Int):Option Value:=
 match op with
 |.add=>some (.int k (k.wrap (a+b)))
 |.sub=>some (.int k (k.wrap (a-b)))
 |.mul=>some (.int k (k.wrap (a*b)))
 |.quo=>if b=0 then none else some (.int k (k.wrap (a.tdiv b)))
 |.rem=>if b=0 then none else some (.int k (a.tmod b))
 |.and=>some (.int k (k.wrap (BitVec.ofInt k.bits a &&& BitVec.ofInt k.bits b).toNat))
 |.or=>some (.int k (k.wrap (BitVec.ofInt k.bits a ||| BitVec.ofInt k.bits b).toNat))
 |.xor=>some (.int k (k.wrap (BitVec.ofInt k.bits a ^^^ BitVec.ofInt k.bits b).toNat))
 |.andNot=>some (.int k (k.wrap (BitVec.ofInt k.bits a &&& ~~~(BitVec.ofInt k.bits b)).toNat))
 |.eql=>some (.bool (a==b))
 |.neq=>some (.bool (a !=b))
 |.lss=>some (.bool (a<b))
 |.leq=>some (.bool (a<=b))
 |.gtr=>some (.bool (a>b))
 |.geq=>some (.bool (a>=b))
 |_=>none
def ov(op:BinOp)(k:IntKind)(a b:Int):Option Value:=
 if b<0 then none else
 match op with
 |.shl=>some (.int k (k.wrap (a*2^(min b.toNat k.bits))))
 |.shr=>some (.int k (a.fdiv (2^(min b.toNat k.bits))))
 |_=>none
def Du(op:BinOp)(n:List Nat)(x y:Value):Option Value:=
 match op with
 |.shl=>match x,y with|.int k a,.int _ b=>ov .shl k a b|_,_=>none
 |.shr=>match x,y with|.int k a,.int _ b=>ov .shr k a b|_,_=>none
 |.eql=>match x,y with
  |.int k a,.int j b=>if k=j then jc .eql k a b else none
  |x,y=>match vt n x y with|some b=>some (.bool b)|none=>none
 |.neq=>match x,y with
  |.int k a,.int j b=>if k=j then jc .neq k a b else none
  |x,y=>match vt n x y with|some b=>some (.bool (!b))|none=>none
 |.gtr=>match x,y with
  |.int k a,.int j b=>if k=j then jc .gtr k a b else none
  |.int .i64 a,.chan (some c)=>if a<=(c:Int) then some (.bool false) else none
  |_,_=>none
 |op=>match x,y with|.int k a,.int j b=>if k=j then jc op k a b else none|_,_=>none
def unV(op:UnOp)(x:Value):Option Value:=
 match op,x with
 |.neg,.int k n=>some (.int k (k.wrap (0-n)))
 |.xor,.int k n=>some (.int k (k.wrap (BitVec.ofInt k.bits (if k.signed then-1 else k.max) ^^^ BitVec.ofInt k.bits n).toNat))
 |.not,.bool b=>some (.bool !b)
 |_,_=>none
def bound(e:Env)(x:Option Operand)(s j:Nat):Option Nat:=
 match x with
 |none=>some s
 |some x=>match ev e x with
  |.int _ (.ofNat i)=>if Nat.ble i j then some i else none
  |_=>none
def roomy(bytes:Nat):Bool:=Nat.ble bytes 1099511627776
def news(h:az)(z:List Value)(mw:Bool)(x:Value):Option (Nat×List Value):=
 match mw,x with
 |true,.int _ (.ofNat n)=>if roomy n then some (n,jn z n) else none
 |false,.slice none n _=>if Nat.beq n 0 then some (0,[]) else none
 |false,.slice (some ⟨b,off,none⟩) n _=>if Nat.beq n 0 then some (0,[]) else match cD h b off (n*z.length) with
  |some cs=>some (n,cs)
  |none=>none
 |_,_=>none
def dy(h:az)(z:List Value)(bytes:Nat)(s:Value)(n:Nat)(cs:List Value):Option (Value×az):=
 match s with
 |.slice a len j=>
  if Nat.blt 0 z.length then
  if Nat.beq n 0 then(if Nat.ble len j then some (.slice a len j,h) else none) else
  if roomy (len+n)&&roomy ((len+n)*bytes) then
   match a with
   |none=>if Nat.beq len 0&&Nat.beq j 0 then some (.slice (some ⟨h.aw,0,none⟩) n n,aK h cs z.length) else none
   |some ⟨b,off,none⟩=>
    match h.tr.get b with
    |some (.bZ cn false o _)=>
     if Nat.ble (len+n) j then
      match fU h b (off+len*z.length) cs with
      |some h'=>some (.slice (some ⟨b,off,none⟩) (len+n) j,h')
      |none=>none
     else
      let r:=(cn.drop off).take (len*z.length)
      if Nat.beq r.length (len*z.length) then
       if Nat.beq o 0|| !(Nat.beq (off+j*o) cn.length) then
        some (.slice (some ⟨h.aw,0,none⟩) (len+n) (len+n),aK h (r++cs) z.length)
       else if Nat.beq o z.length then
        some (.slice (some ⟨h.aw,0,none⟩) (len+n) (len+n),aK {h with tr:=h.tr.del b} (r++cs) z.length)
       else none
      else none
    |_=>none
   |_=>none
  else none
  else none
 |_=>none
def pr(e:Env)(l:List Operand):List Value:=l.map (ev e)
def c_(e:Env)(h:az):jQ->Option (Value×az)
 |.mv x=>some (ev e x,h)
 |.pick c a b=>match ev e c with
  |.bool true=>some (ev e a,h)
  |.bool false=>some (ev e b,h)
  |_=>none
 |.alloc z=>some (.pointer (some ⟨h.aw,0,none⟩),aK h z 0)
 |.box x=>match flat (ev e x) with
  |some vs=>some (.pointer (some ⟨h.aw,0,none⟩),aK h vs 0)
  |none=>none
 |.build z u=>match mK e z u with
  |some cs=>some (.agg ⟨cs⟩,h)
  |none=>none
 |.fm n z u=>match mK e z u with
  |some cs=>some (.slice (some ⟨h.aw,0,none⟩) n n,aK h cs 0)
  |none=>none
 |.load n a=>match ev e a with
  |.pointer (some ⟨b,off,none⟩)=>match cD h b off (width n) with
   |some cs=>match agg n cs with|some v=>some (v,h)|none=>none
   |none=>none
  |_=>none
 |.store n a v=>match ev e a with
  |.pointer (some ⟨b,off,none⟩)=>match flat (ev e v) with
   |some vs=>if Nat.beq vs.length n then match fU h b off vs with
     |some h'=>some (.tuple #[],h')
     |none=>none
    else none
   |none=>none
  |_=>none
 |.yk x=>match ev e x with
  |.pointer (some a)=>some (.pointer (some a),h)
  |_=>none
 |.bin op n x y=>match Du op n (ev e x) (ev e y) with
  |some v=>some (v,h)
  |none=>none
 |.un op x=>match unV op (ev e x) with
  |some v=>some (v,h)
  |none=>none
 |.conv k x=>match ev e x with
  |.int _ n=>some (.int k (k.wrap n),h)
  |_=>none
 |.uk f D=>bif (pr e D).all simple then some (.func (.func f) #[] ⟨pr e D⟩,h) else none
 |.gG z A len C=>match ev e len,ev e C with
  |.int .i64 (.ofNat l),.int .i64 (.ofNat c)=>
   if Nat.ble l c&&roomy (c*A)&&Nat.blt 0 z.length&&roomy c then some (.slice (some ⟨h.aw,0,none⟩) l c,aK h (jn z c) 0) else none
  |_,_=>none
 |.slice j x lo hi mx=>match ev e x with
  |.slice a len C=>
   match bound e mx C C with
   |none=>none
   |some m=>match bound e hi len m with
    |none=>none
    |some G=>match bound e lo 0 G with
     |none=>none
     |some l=>match a with
      |none=>some (.slice none (G-l) (m-l),h)
      |some ⟨b,off,none⟩=>match h.tr.get b with
       |some (.bZ _ _ o _)=>bif Nat.beq o 0||Nat.beq o j then some (.slice (some ⟨b,off+l*j,none⟩) (G-l) (m-l),h) else none
       |_=>none
      |_=>none
  |_=>none
 |.cq off x=>match ev e x with
  |.pointer (some ⟨b,o,none⟩)=>some (.pointer (some ⟨b,o+off,none⟩),h)
  |_=>none
 |.fw E j x i=>match ev e i with
  |.int _ (.ofNat i)=>match E,ev e x with
   |some n,.pointer (some ⟨b,o,none⟩)=>if Nat.blt i n then some (.pointer (some ⟨b,o+i*j,none⟩),h) else none
   |none,.slice (some ⟨b,o,none⟩) len _=>if Nat.blt i len then some (.pointer (some ⟨b,o+i*j,none⟩),h) else none
   |_,_=>none
  |_=>none
 |.index E x i=>match ev e i with
  |.int _ (.ofNat i)=>match E,ev e x with
   |some (len,j,n),.agg cs=>if Nat.blt i len then match agg n ((cs.toList.drop (i*j)).take (width n)) with
     |some v=>some (v,h)
     |none=>none
    else none
   |none,.string s=>match s[i]? with
    |some b=>some (.int .u8 b.toNat,h)
    |none=>none
   |_,_=>none
  |_=>none
 |.ext i x=>match ev e x with
  |.tuple vs=>match vs.toList[i]? with
   |some v=>some (v,h)
   |none=>none
  |_=>none
 |.nu x=>match ev e x with
  |.slice _ n _=>some (.int .i64 n,h)
  |_=>none
 |.JS x=>match ev e x with
  |.string s=>some (.int .i64 s.size,h)
  |_=>none
 |.append z A mw s x=>match news h z mw (ev e x) with
  |some (n,cs)=>dy h z A (ev e s) n cs
  |none=>none
 |.copy j d s=>match ev e d,ev e s with
  |.slice J dn _,.slice M K _=>
   let n:=Nat.min K dn
   if Nat.beq n 0 then some (.int .i64 0,h) else
   match J,M with
   |some ⟨N,H,none⟩,some ⟨O,I,none⟩=>match cD h O I (n*j) with
    |some cs=>match fU h N H cs with
     |some h'=>some (.int .i64 n,h')
     |none=>none
    |none=>none
   |_,_=>none
  |_,_=>none
 |.clear z x=>match ev e x with
  |.slice a n _=>if Nat.beq n 0 then some (.tuple #[],h) else match a with
   |some ⟨b,off,none⟩=>match fU h b off (jn z n) with
    |some h'=>some (.tuple #[],h')
    |none=>none
   |_=>none
  |_=>none
 |.Tn x=>match ev e x with
  |.slice none _ c=>some (.int .i64 c,h)
  |.slice (some ⟨b,_,none⟩) _ c=>match h.tr.get b with
   |some (.bZ _ _ o _)=>if Nat.beq o 0 then some (.int .i64 c,h) else some (.chan (some c),h)
   |_=>none
  |_=>none
 |.call _ _=>none
 |.bad=>none
abbrev R:=Option (bK×Env×az)
def params:Env->Nat->List Value->Env
 |e,_,[]=>e
 |e,i,v::r=>params (Tr.set e i v) (i+1) r
def results(e:Env)(h:az):List GM->Option (List Value)
 |[]=>some []
 |.tmp t::r=>match results e h r with|some l=>some (bH e t::l)|none=>none
 |.cell a n::r=>match bH e a with
  |.pointer (some ⟨b,off,none⟩)=>match cD h b off (width n) with
   |some cs=>match agg n cs with
    |some v=>match results e h r with|some l=>some (v::l)|none=>none
    |none=>none
   |none=>none
  |_=>none
def qm:Value->Bool
 |.tuple _=>false
 |.chan _=>false
 |_=>true
def result:List Value->Value
 |[v]=>v
 |l=>.tuple ⟨l⟩
def fZ:List Value->Bool
 |[_]=>true
 |l=>l.all qm
def fP:Env->List Nat->List Value->Option Env
 |e,[],[]=>some e
 |e,t::j,v::vs=>fP (Tr.set e t v) j vs
 |_,_,_=>none
def Y9:List Value->az->Option (Value×az)
 |[.slice (some ⟨a,_,none⟩) s _,.slice (some ⟨b,_,none⟩) j _],h=>
  match h.tr.get a,h.tr.get b with
  |some (.bZ _ false _ _),some (.bZ _ false _ _)=>bif Nat.beq s 0||Nat.beq j 0|| !(Nat.beq a b) then some (.bool false,h) else none
  |_,_=>none
 |_,_=>none
section
variable(F:Nat->Option cV)(ih:aG->Env->az->R)
def mW(o:Bool)(f:Nat)(args:List Value)(h:az):Option (Value×az):=
 match F f with
 |none=>none
 |some fn=>match fn.zQ with
  |.Rv=>bif o then Y9 args h else none
  |.run p _=>p args h
  |.no=>match ih fn.body (params .nil 0 args) h with
   |some (.normal,j,h')|some (.ret,j,h')=>match results j h' fn.res with
    |some vs=>bif fZ vs then some (result vs,h') else none
    |none=>none
   |_=>none
abbrev su(f:Nat)(args:List Value)(h:az):Option (Value×az):=mW F ih false f args h
def fT(h:az)(l:Nat)(j:Env)(ps:List Nat)(asg body:aG)(st:Tc):az:= {h with tr:=h.tr.set l (.loop j ps asg body st)}
def lY(l:Nat)(h:az)(st:Tc)(v:Bool):Option (Value×az):=
 match h.tr.get l with
 |some (.loop u ps s j .busy)=>some (.bool v,fT h l u ps s j st)
 |_=>none
def wH(l:Nat)(j:aG)(e:Env)(h:az):Option (Value×az):=
 match h.tr.get l with
 |some (.loop A ps u s .ready)=>
  match ih j e (fT h l A ps u s .busy) with
  |some (.normal,_,h)=>lY l h .ready true
  |some (.ret,_,h)=>lY l h (.done none) false
  |some (.exit id,_,h)=>lY l h (.done (some id)) false
  |none=>none
 |_=>none
def rJ(l:Nat)(args:List Value)(h:az):Option (Value×az):=
 match h.tr.get l with
 |some (.loop u ps s j .ready)=>
  match fP u ps args with
  |none=>none
  |some e=>match ih s e h with
   |some (.normal,e,h)=>wH ih l j e h
   |_=>none
 |_=>none
def e_(fv:Value)(args:List Value)(h:az):Option (Value×az):=
 match fv with
 |.func (.func f) first j=>mW F ih true f (first.toList++args++j.toList) h
 |.func (.yield l) _ _=>rJ ih l args h
 |_=>none
def wanted(e:Env):Option (Nat×Bool)->Bool
 |none=>true
 |some (t,b)=>match bH e t with
  |.bool c=>c==b
  |_=>false
def dM(o:bX)(e:Env)(h:az):Option (Env×az):=
 bif wanted e o.guard then
  match o.op with
  |.call f args=>match e_ F ih (ev e f) (pr e args) h with
   |some (v,h')=>some (gy e o.dst v,h')
   |none=>none
  |op=>match c_ e h op with
   |some (v,h')=>some (gy e o.dst v,h')
   |none=>none
 else some (gy e o.dst (.tuple #[]),h)
def xu:List bX->Env->az->Option (Env×az)
 |[],e,h=>some (e,h)
 |o::r,e,h=>match dM F ih o e h with
  |some (e,h)=>xu r e h
  |none=>none
def still(e:Env)(h:az)(clock:Nat):List Nat->Bool
 |[]=>true
 |t::r=>match bH e t with
  |.pointer (some ⟨b,_,none⟩)=>match h.tr.get b with
   |some (.bZ _ _ _ s)=>Nat.ble s clock&&still e h clock r
   |_=>false
  |.slice (some ⟨b,_,none⟩) _ _=>match h.tr.get b with
   |some (.bZ _ _ _ s)=>Nat.ble s clock&&still e h clock r
   |_=>false
  |.map (some b)=>match h.tr.get b with
   |some (.map [])=>still e h clock r
   |_=>false
  |.map none=>still e h clock r
  |.tuple _=>still e h clock r
  |.pointer none=>still e h clock r
  |.slice none _ _=>still e h clock r
  |_=>false
def kP(clock:Nat):List (bX×List Nat)->Env->az->Option (Env×az)
 |[],e,h=>some (e,h)
 |(o,j)::r,e,h=>match dM F ih o e h with
  |some (e,h)=>bif still e h clock j then kP clock r e h else none
  |none=>none
def cX:aG->Env->az->R
 |.skip,e,h=>some (.normal,e,h)
 |.ops l,e,h=>match xu F ih l e h with
  |some (e,h)=>some (.normal,e,h)
  |none=>none
 |.draw l,e,h=>match kP F ih h.clock l e {h with clock:=h.clock+1} with
  |some (e,h)=>some (.normal,e,h)
  |none=>none
 |.seq a b,e,h=>match ih a e h with
  |some (.normal,e,h)=>ih b e h
  |r=>r
 |.cond c a b,e,h=>match ev e c with
  |.bool true=>ih a e h
  |.bool false=>ih b e h
  |_=>none
 |.block id c,e,h=>match ih c e h with
  |some (.exit i,e,h)=>bif Nat.beq i id then some (.normal,e,h) else some (.exit i,e,h)
  |r=>r
 |.loop c,e,h=>match ih c e h with
  |some (.normal,e,h)=>ih (.loop c) e h
  |r=>r
 |.exit id,e,h=>some (.exit id,e,h)
 |.ret,e,h=>some (.ret,e,h)
 |.Ko f ps u s,e,h=>match ev e f with
  |.func (.func g) first j=>match su F ih g (first.toList++[.func (.yield h.aw) #[] #[]]++j.toList) (h.new (.loop e ps u s .ready)) with
   |some (_,h')=>match h'.tr.get h.aw with
    |some (.loop _ _ _ _ .ready)=>some (.normal,e,{h' with tr:=h'.tr.del h.aw})
    |some (.loop _ _ _ _ (.done none))=>some (.ret,e,{h' with tr:=h'.tr.del h.aw})
    |some (.loop _ _ _ _ (.done (some id)))=>some (.exit id,e,{h' with tr:=h'.tr.del h.aw})
    |_=>none
   |none=>none
  |_=>none
 |.bad,_,_=>none
end
def run(F:Nat->Option cV):Nat->aG->Env->az->R:=
 Nat.rec (fun _ _ _=>none) (fun _ ih=>cX F ih)
def call(F:Nat->Option cV)(j f:Nat)(args:List Value)(h:az):Option (Value×az):=su F (run F j) f args h
section
variable{F:Nat->Option cV}{ih:aG->Env->az->R}
def H8{h h':az}(j:mW F ih true f args h=some (v,h')):mW F ih false f args h=some (v,h')\/∃fn,F f=some fn/\fn.zQ=.Rv/\Y9 args h=some (v,h'):=by
 unfold mW at j⊢;cases u:F f with
 |none=>rw[u] at j;cases j
 |some fn=>
  rw[u] at j;dsimp only at j⊢;cases s:fn.zQ with
  |Rv=>rw[s] at j;exact .inr ⟨fn,rfl,s,j⟩
  |run p k=>rw[s] at j;exact .inl j
  |no=>rw[s] at j;exact .inl j
def zw{h h':az}(j:mW F ih false f args h=some (v,h')):mW F ih true f args h=some (v,h'):=by
 unfold mW at j⊢;cases u:F f with
 |none=>rw[u] at j;cases j
 |some fn=>
  rw[u] at j;dsimp only at j⊢;cases s:fn.zQ with
  |Rv=>rw[s] at j;cases j
  |run p k=>rw[s] at j;exact j
  |no=>rw[s] at j;exact j
def MF{h h':az}(j:Y9 args h=some (v,h')):v=.bool false/\h'=h/\∃a E s ca b G u C H M K D I J,args=[.slice (some ⟨a,E,none⟩) s ca,.slice (some ⟨b,G,none⟩) u C]/\h.tr.get a=some (.bZ H false M K)/\h.tr.get b=some (.bZ D false I J)/\(s=0\/u=0\/a≠b):=by
 unfold Y9 at j;split at j
 .rename_i a E s ca b G u C;split at j
  .rename_i U M K Q I J O N;cases A:(Nat.beq s 0||Nat.beq u 0|| !(Nat.beq a b)) with
   |false=>rw[A] at j;cases j
   |true=>
    rw[A] at j;cases j;refine⟨rfl,rfl,a,E,s,ca,b,G,u,C,_,_,_,_,_,_,rfl,O,N,?_⟩;simp only[Bool.or_eq_true,Bool.not_eq_true'] at A;rcases A with(h|h)|h;exact .inl (Nat.eq_of_beq_eq_true h);exact .inr (.inl (Nat.eq_of_beq_eq_true h));exact .inr (.inr fun e=>by rw[e,Nat.beq_refl] at h;cases h)
  cases j
 cases j
end
end Go.AI
namespace Go.AI
variable{i:Nat}{α:Type}
def aV(l:List α)(i:Nat)(h:i<l.length:=by omega):∃x,l[i]?=some x:=⟨_,List.getElem?_eq_getElem h⟩
def g_{l:List α}(h:i<l.length):l[i]?=some l[i]:=List.getElem?_eq_getElem h
def di{l:List α}{a:α} :l[i]?=some a↔ ∃h:i<l.length,l[i]=a:=List.getElem?_eq_some_iff
def cN{l:List α}{a:α}(h:l[i]?=some a):a∈l:=List.mem_of_getElem? h
def iI{l:List α}{a:α}(h:a∈l):∃i:Nat,l[i]?=some a:=List.getElem?_of_mem h
def rm:type_of% @Result.andThen_ok:= @Result.andThen_ok
def rq:type_of% @run_underlying:= @run_underlying
def sy:type_of% @Sem.run_bind:= @Sem.run_bind
def xE:type_of% @Sem.run_pure:= @Sem.run_pure
def xF:type_of% @List.set_set:= @List.set_set
def EX:type_of% @List.mem_map_of_mem:= @List.mem_map_of_mem
def Bc:type_of% @List.append_nil:= @List.append_nil
def kA:type_of% @cond_true:= @cond_true
def xY:type_of% @cond_false:= @cond_false
def Ev:type_of% @Option.bind_eq_some_iff:= @Option.bind_eq_some_iff
def fL:type_of% @List.getElem?_set:= @List.getElem?_set
def rz:type_of% @Nat.eq_of_beq_eq_true:= @Nat.eq_of_beq_eq_true
def fh:type_of% @Nat.le_refl:= @Nat.le_refl
def mL:type_of% @Option.some.injEq:= @Option.some.injEq
def wY:type_of% @List.getElem?_eq_none:= @List.getElem?_eq_none
def gp_:type_of% @Nat.eq_zero_or_pos:= @Nat.eq_zero_or_pos
def js:type_of% @List.getElem?_map:= @List.getElem?_map
def oD:type_of% @Bool.and_eq_true:= @Bool.and_eq_true
def lg:type_of% @List.take_add_one:= @List.take_add_one
def Wg:type_of% @List.eq_nil_of_length_eq_zero:= @List.eq_nil_of_length_eq_zero
def jT:type_of% @List.take_length:= @List.take_length
def CX:type_of% @Nat.mul_le_mul_right:= @Nat.mul_le_mul_right
def uQ:type_of% @List.mem_cons_of_mem:= @List.mem_cons_of_mem
def Cy:type_of% @List.ext_getElem?:= @List.ext_getElem?
def Be:type_of% @List.getElem_mem:= @List.getElem_mem
def Iw:type_of% @List.getElem?_append_left:= @List.getElem?_append_left
def sx:type_of% @Nat.le_trans:= @Nat.le_trans
def Ke:type_of% @List.getElem?_append_right:= @List.getElem?_append_right
def uP:type_of% @Nat.add_mul:= @Nat.add_mul
def Aj:type_of% @Prod.mk.injEq:= @Prod.mk.injEq
def h_:type_of% @List.mem_cons_self:= @List.mem_cons_self
def Cx:type_of% @Option.map_some:= @Option.map_some
def Ph:type_of% @Nat.le_of_ble_eq_true:= @Nat.le_of_ble_eq_true
def Kf:type_of% @Nat.lt_of_lt_of_le:= @Nat.lt_of_lt_of_le
def LV:type_of% @List.length_append:= @List.length_append
def EV:type_of% @Nat.add_assoc:= @Nat.add_assoc
def Gf:type_of% @Nat.lt_or_ge:= @Nat.lt_or_ge
def Hj:type_of% @Nat.zero_add:= @Nat.zero_add
def EW:type_of% @List.length_filter_le:= @List.length_filter_le
def G1:type_of% @List.append_assoc:= @List.append_assoc
def xX:type_of% @List.map_cons:= @List.map_cons
def SI:type_of% @List.getElem?_replicate:= @List.getElem?_replicate
def XE:type_of% @Bool.false_eq_true:= @Bool.false_eq_true
def XH:type_of% @List.drop_eq_nil_of_le:= @List.drop_eq_nil_of_le
def pg:type_of% @List.take_of_length_le:= @List.take_of_length_le
def gT_:type_of% @List.Nodup.length_le_of_subset:= @List.Nodup.length_le_of_subset
def gU_:type_of% @Nat.add_zero:= @Nat.add_zero
def XJ:type_of% @List.getElem?_take:= @List.getElem?_take
def gW_:type_of% @Int.toNat_natCast:= @Int.toNat_natCast
def XK:type_of% @List.mem_of_mem_take:= @List.mem_of_mem_take
def jS:type_of% @List.mem_append:= @List.mem_append
def jo:type_of% @List.mem_map:= @List.mem_map
def Ai:type_of% @List.mem_filter:= @List.mem_filter
def KM:type_of% @List.length_map:= @List.length_map
def N4:type_of% @List.mem_range:= @List.mem_range
def bM:type_of% @if_pos:= @if_pos
def bU:type_of% @if_neg:= @if_neg
@[simp] def t_(n:Nat):Operand:=.tmp n
@[simp] def i_(n:Int):Operand:=.const (.int .i64 n)
@[simp] def o_(d:Nat)(x:jQ):bX:=⟨some d,none,x⟩
@[simp] def u_(x:jQ):bX:=⟨none,none,x⟩
@[simp] def q_(d c:Nat)(b:Bool)(x:jQ):bX:=⟨some d,some (c,b),x⟩
@[simp] def m_(d s:Nat):bX:=⟨some d,none,.mv (.tmp s)⟩
@[simp] def k_(d:Nat)(n:Int):bX:=⟨some d,none,.mv (.const (.int .i64 n))⟩
@[simp] def l_(d a:Nat):bX:=⟨some d,none,.load none (.tmp a)⟩
@[simp] def L_(d n a:Nat):bX:=⟨some d,none,.load (some n) (.tmp a)⟩
@[simp] def f_(d k a:Nat):bX:=⟨some d,none,.cq k (.tmp a)⟩
@[simp] def a_(d k x i:Nat):bX:=⟨some d,none,.fw none k (.tmp x) (.tmp i)⟩
@[simp] def s_(n a v:Nat):bX:=⟨none,none,.store n (.tmp a) (.tmp v)⟩
@[simp] def z_(d x:Nat):bX:=⟨some d,none,.nu (.tmp x)⟩
@[simp] def B_(d:Nat)(op:BinOp)(x y:Nat):bX:=⟨some d,none,.bin op [] (.tmp x) (.tmp y)⟩
@[simp] def C_(d:Nat)(op:BinOp)(x:Nat)(n:Int):bX:=⟨some d,none,.bin op [] (.tmp x) (.const (.int .i64 n))⟩
@[simp] def F_(d f:Nat)(l:List Operand):bX:=⟨some d,none,.call (.func f) l⟩
@[simp] def x_(d x:Nat):bX:=⟨some d,none,.box (.tmp x)⟩
@[simp] def D_(x:bX):bX×List Nat:=(x,[])
@[simp] def G_(l:List bX)(c:aG):aG:=.seq (.ops l) c
@[simp] def O_(l:List bX):aG:=.ops l
@[simp] def V_(l:List (bX×List Nat)):aG:=.draw l
@[simp] def J_(a b:aG):aG:=.seq a b
@[simp] def H_(c n:Nat):aG:=.cond (.tmp c) .skip (.exit n)
@[simp] def I_(c:Nat)(a b:aG):aG:=.cond (.tmp c) a b
@[simp] def P_(n:Nat)(a:aG):aG:=.block n a
@[simp] def Q_(n:Nat)(a:aG):aG:=.block n (.loop a)
@[simp] def b_(b:Bool):Operand:=.const (.bool b)
@[simp] def M_(d:Nat)(b:Bool):bX:=⟨some d,none,.mv (.const (.bool b))⟩
instance:Coe bX (bX×List Nat):=⟨fun x=>(x,[])⟩
@[simp] def N_(c i n x b d:Nat)(X:aG):aG:=.seq (.ops [⟨some c,none,.bin .lss [] (.tmp i) (.tmp n)⟩]) (.seq (.cond (.tmp c) .skip (.exit x)) (.seq (.block b X) (.ops [⟨some d,none,.bin .add [] (.tmp i) (.const (.int .i64 1))⟩,⟨some i,none,.mv (.tmp d)⟩])))
@[simp] def v_(d:Nat)(z:List Value)(n a:Nat):bX:=⟨some d,none,.fm 1 z [(0,(n,(.tmp a)))]⟩
@[simp] def A_(d:Nat)(z:List Value)(n a b:Nat):bX:=⟨some d,none,.append z n false (.tmp a) (.tmp b)⟩
@[simp] def X_(d:Nat)(o:BinOp)(a b:Nat):bX:=⟨some d,none,.bin o [1] (.tmp a) (.tmp b)⟩
@[simp] def Y_(d:Nat)(o:BinOp)(a:Nat)(n:Int):bX:=⟨some d,none,.bin o [1] (.tmp a) (.const (.int .i64 n))⟩
@[simp] def K_(d:Nat)(z:List Value):bX:=⟨some d,none,.alloc z⟩
@[simp] def Z_(d:Nat):bX:=⟨some d,none,.mv (.const (.slice none 0 0))⟩
@[simp] def E_(d i a:Nat):bX:=⟨some d,none,.ext i (.tmp a)⟩
@[simp] def n_(d a:Nat):bX:=⟨some d,none,.yk (.tmp a)⟩
@[simp] def vQ:List Value:=[(.bool false),(.int .i64 0)]
@[simp] def zZ:List Value:=[(.int .i64 0)]
@[simp] def CV:List Value:=[(.slice none 0 0),(.slice none 0 0),(.int .i64 0),(.bool false),(.int .i64 0),(.slice none 0 0)]
@[simp] def C6:List Value:=[(.string ⟨⟨[]⟩⟩),(.int .i64 0),(.int .i64 0),(.slice none 0 0)]
@[simp] def J8:List Value:=[(.int .i64 0),(.int .i64 0)]
@[simp] def Pc:List Value:=[(.int .i64 0),(.int .i64 0),(.bool false),(.int .i64 0),(.bool false),(.int .i64 0),(.int .i64 0),(.slice none 0 0)]
@[simp] def Sy:List Value:=[(.int .i64 0),(.slice none 0 0)]
@[simp] def w7_:List Value:=[(.int .i64 0),(.bool false),(.int .i64 0)]
@[simp] def w8_:List Value:=[(.bool false),(.bool false),(.bool false)]
@[simp] def w9_:List Value:=[(.slice none 0 0),(.slice none 0 0)]
@[simp] def Sw:List Value:=[(.slice none 0 0)]
@[simp] def Vz:List Value:=[(.string ⟨⟨[]⟩⟩),(.int .i64 0),(.slice none 0 0)]
@[simp] def agq:List Value:=[(.slice none 0 0),(.slice none 0 0),(.string ⟨⟨[]⟩⟩),(.int .i64 0),(.int .i64 0),(.slice none 0 0),(.slice none 0 0)]
@[simp] def agr:List Value:=[(.string ⟨⟨[]⟩⟩)]
@[simp] def ags:List Value:=[(.int .i64 0),(.bool false),(.int .i64 0),(.slice none 0 0)]
@[simp] def R_(a k b i s:Nat)(t:List bX):List bX:=f_ a k b::l_ (a+1) a::m_ (a+2) i::a_ (a+3) s (a+1) (a+2)::t
@[simp] def U_(a k b:Nat)(t:List bX):List bX:=f_ a k b::l_ (a+1) a::z_ (a+2) (a+1)::t
@[simp] def W_(a k b:Nat)(t:List bX):List bX:=f_ a k b::l_ (a+1) a::t
@[simp] def T_(a i j s:Nat)(t:List bX):List bX:=m_ a i::m_ (a+1) j::a_ (a+2) s a (a+1)::t
@[simp] def wL(a k b i s:Nat)(t:List (bX×List Nat)):List (bX×List Nat):=(f_ a k b,[])::(l_ (a+1) a,[])::(m_ (a+2) i,[])::(a_ (a+3) s (a+1) (a+2),[])::t
@[simp] def jP(a k b:Nat)(t:List (bX×List Nat)):List (bX×List Nat):=(f_ a k b,[])::(l_ (a+1) a,[])::t
@[simp] def Vs(a i j s:Nat)(t:List (bX×List Nat)):List (bX×List Nat):=(m_ a i,[])::(m_ (a+1) j,[])::(a_ (a+2) s a (a+1),[])::t
@[simp] def S_(a g:Nat)(b:Bool):List jQ->List bX->List bX
 |[],t=>t
 |x::l,t=>⟨some a,some (g,b),x⟩::S_ (a+1) g b l t
@[simp] def y_(a i c x b d:Nat)(p:List bX)(X:aG):aG:=.seq (.seq (.ops (m_ a i::(p++[⟨some c,none,.bin .lss [] (.tmp a) (.tmp (c-1))⟩]))) (.cond (.tmp c) .skip (.exit x))) (.seq (.block b X) (.ops [⟨some d,none,.mv (.tmp i)⟩,⟨some (d+1),none,.bin .add [] (.tmp d) (.const (.int .i64 1))⟩,⟨some i,none,.mv (.tmp (d+1))⟩]))
@[simp] abbrev cm(e:Env)(k b:Nat):Prop:=bH e k=.pointer (some ⟨b,0,none⟩)
@[simp] abbrev bJ(e:Env)(k:Nat)(n:Int):Prop:=bH e k=.int .i64 n
@[simp] abbrev fC(h:az)(X:Nat)(cs:List Value)(s:Nat):Prop:=h.tr.get X=some (.bZ cs false 0 s)
@[simp] abbrev dg(h:az)(X:Nat)(cs:List Value):Prop:=∃s,h.tr.get X=some (.bZ cs false 0 s)
namespace Tr
variable{α:Type}
def We(x:Option α):∀(f:Nat)(t:Tr α)(k j:Nat),k<f->(put f t k x).get j=if j=k then x else t.get j:=by
 intro f;induction f with
 |zero=>intro t k j h;omega
 |succ f ih=>
  intro t k j h;cases t with
  |nil=>
   cases k with
   |zero=>cases j with
    |zero=>simp[put,get]
    |succ j=>simp[put,get]
   |succ k=>
    have D:k/2<f:=ab
    cases j with
    |zero=>
     have:¬(0=k+1):=ab
     unfold put;dsimp only;cases u:Nat.beq (k%2) 0<;>simp[get]
    |succ j=>
     unfold put;dsimp only;cases u:Nat.beq (k%2) 0<;>cases s:Nat.beq (j%2) 0<;>simp only[get,s,kA,xY,ih _ _ _ D]
     .have C:k%2≠0:=by intro h;rw[h] at u;cases u
      have A:j%2≠0:=by intro h;rw[h] at s;cases s
      by_cases e:j=k;subst e;simp
      .have:j/2≠k/2:=ab
       simp[e,this]
     .have C:k%2≠0:=by intro h;rw[h] at u;cases u
      have A:=rz s;have:j≠k:=by rintro rfl;omega
      simp[this]
     .have C:=rz u;have A:j%2≠0:=by intro h;rw[h] at s;cases s
      have:j≠k:=by rintro rfl;omega
      simp[this]
     .have C:=rz u;have A:=rz s;by_cases e:j=k
      subst e;simp
      .have:j/2≠k/2:=ab
       simp[e,this]
  |node v l r=>
   cases k with
   |zero=>cases j with
    |zero=>simp[put,get]
    |succ j=>simp[put,get]
   |succ k=>
    have D:k/2<f:=ab
    cases j with
    |zero=>
     unfold put;dsimp only;cases u:Nat.beq (k%2) 0<;>simp[get]
    |succ j=>
     unfold put;dsimp only;cases u:Nat.beq (k%2) 0<;>cases s:Nat.beq (j%2) 0<;>simp only[get,s,kA,xY,ih _ _ _ D]
     .have C:k%2≠0:=by intro h;rw[h] at u;cases u
      have A:j%2≠0:=by intro h;rw[h] at s;cases s
      by_cases e:j=k;subst e;simp
      .have:j/2≠k/2:=ab
       simp[e,this]
     .have C:k%2≠0:=by intro h;rw[h] at u;cases u
      have A:=rz s;have:j≠k:=by rintro rfl;omega
      simp[this]
     .have C:=rz u;have A:j%2≠0:=by intro h;rw[h] at s;cases s
      have:j≠k:=by rintro rfl;omega
      simp[this]
     .have C:=rz u;have A:=rz s;by_cases e:j=k
      subst e;simp
      .have:j/2≠k/2:=ab
       simp[e,this]
def bN(t:Tr α)(k j:Nat)(x:α):(t.set k x).get j=if j=k then some x else t.get j:=We (some x) _ t k j ab
def kE(t:Tr α)(k j:Nat):(t.del k).get j=if j=k then none else t.get j:=We none _ t k j ab
end Tr
def Env.bN(e:Env)(k j:Nat)(v:Value):bH (Tr.set e k v) j=if j=k then v else bH e j:=by unfold bH;rw[Tr.bN];split<;>rfl
inductive All2{α β:Type}(R:α->β->Prop):List α->List β->Prop
 |nil:All2 R [] []
 |cons {a b as' bs} (h:R a b) (hs:All2 R as' bs):All2 R (a::as') (b::bs)
namespace All2
variable{α β:Type}{R S:α->β->Prop}
def length{l:List α}{m:List β}(h:All2 R l m):l.length=m.length:=by
 induction h with
 |nil=>rfl
 |cons _ _ ih=>simp[ih]
def mono{l:List α}{m:List β}(j:∀a b,R a b->S a b)(h:All2 R l m):All2 S l m:=by
 induction h with
 |nil=>exact .nil
 |cons h _ ih=>exact .cons (j _ _ h) ih
def app{l s:List α}{m j:List β}(h:All2 R l m)(h':All2 R s j):All2 R (l++s) (m++j):=by
 induction h with
 |nil=>exact h'
 |cons h _ ih=>exact .cons h ih
def take{l:List α}{m:List β}(h:All2 R l m):∀n,All2 R (l.take n) (m.take n):=by
 induction h with
 |nil=>intro n;simpa using .nil
 |cons h _ ih=>intro n;cases n with
  |zero=>simpa using .nil
  |succ n=>simpa using .cons h (ih n)
def drop{l:List α}{m:List β}(h:All2 R l m):∀n,All2 R (l.drop n) (m.drop n):=by
 induction h with
 |nil=>intro n;simpa using .nil
 |cons h j ih=>intro n;cases n with
  |zero=>simpa using .cons h j
  |succ n=>simpa using ih n
def get{l:List α}{m:List β}(h:All2 R l m):∀ {i:Nat} {a:α},l[i]?=some a->∃b,m[i]?=some b/\R a b:=by
 induction h with
 |nil=>intro i a h;simp at h
 |cons h _ ih=>
  intro i a hi;cases i with
  |zero=>simp at hi;subst hi;exact⟨_,rfl,h⟩
  |succ i=>simp at hi;simpa using ih hi
def ajU{l:List α} :∀ {m:List β},l.length=m.length->(∀(i:Nat)(a:α)(b:β),l[i]?=some a->m[i]?=some b->R a b)->All2 R l m:=by
 induction l with
 |nil=>intro m h _;cases m with
  |nil=>exact .nil
  |cons=>simp at h
 |cons a l ih=>intro m h j;cases m with
  |nil=>simp at h
  |cons b m=>exact .cons (j 0 a b rfl rfl) (ih (aj h) fun i x y u s=>j (i+1) x y (aj u) (aj s))
end All2
structure BS where
 bZ:Nat
 base:Nat
 len:Nat
 Jm:Nat
 room:Nat
abbrev fJ:=Nat->Option BS
def ve(r:BS)(o len j:Nat)(ca:Addr)(ccap:Nat):Prop:=
 (ca=⟨r.bZ,r.base+o,none⟩\/(ccap=0/\j=0))/\(ccap=j\/(r.Jm≠0/\j<=ccap/\o+j*r.Jm=r.len/\o+ccap*r.Jm<=r.room))/\len<=j
inductive CR(ρ:fJ):Value->Value->Prop
 |bool (b:Bool):CR ρ (.bool b) (.bool b)
 |int (k:IntKind) (n:Int):CR ρ (.int k n) (.int k n)
 |str (s:ByteArray):CR ρ (.string s) (.string s)
 |wz:CR ρ (.pointer none) (.pointer none)
 |ptr {b o:Nat} {r:BS} (h:ρ b=some r):CR ρ (.pointer (some ⟨b,o,none⟩)) (.pointer (some ⟨r.bZ,r.base+o,none⟩))
 |fW (n c:Nat):CR ρ (.slice none n c) (.slice none n c)
 |slice {b o len cap ccap:Nat} {ca:Addr} {r:BS} (h:ρ b=some r) (hs:ve r o len cap ca ccap):CR ρ (.slice (some ⟨b,o,none⟩) len cap) (.slice (some ca) len ccap)
 |uv:CR ρ (.map none) (.map none)
 |map {m:Nat} {r:BS} (h:ρ m=some r):CR ρ (.map (some m)) (.map (some r.bZ))
 |tg:CR ρ .nilFunc .nilFunc
 |oh:CR ρ .nilIface .nilIface
inductive KR(ρ:fJ):Value->Value->Prop
 |cell {v c:Value} (h:CR ρ v c):KR ρ v c
 |fn (f:FuncId) {l m:List Value} (h:All2 (CR ρ) l m):KR ρ (.func (.func f) #[] ⟨l⟩) (.func (.func f) #[] ⟨m⟩)
 |yield {l:Nat} {r:BS} (h:ρ l=some r):KR ρ (.func (.yield l) #[] #[]) (.func (.yield r.bZ) #[] #[])
inductive AR(ρ:fJ):Value->Value->Prop
 |cell {v c:Value} (h:KR ρ v c):AR ρ v c
 |agg {l m:List Value} (h:All2 (KR ρ) l m):AR ρ (.agg ⟨l⟩) (.agg ⟨m⟩)
inductive VR(ρ:fJ):Value->Value->Prop
 |val {v c:Value} (h:AR ρ v c):VR ρ v c
 |tuple {l m:List Value} (h:All2 (AR ρ) l m):VR ρ (.tuple ⟨l⟩) (.tuple ⟨m⟩)
 |atl {n m:Nat} (h:n<=m):VR ρ (.chan (some n)) (.int .i64 m)
def fJ.le(ρ ρ':fJ):Prop:=∀b r,ρ b=some r->ρ' b=some r
def fJ.le_refl(ρ:fJ):ρ.le ρ:=fun _ _ h=>h
def fJ.le_trans{a b c:fJ}(h:a.le b)(h':b.le c):a.le c:=fun _ _ x=>h' _ _ (h _ _ x)
section
variable{ρ ρ':fJ}{v c:Value}
def CR.mono(j:ρ.le ρ')(h:CR ρ v c):CR ρ' v c:=by
 cases h with
 |bool b=>exact .bool b
 |int k n=>exact .int k n
 |str s=>exact .str s
 |wz=>exact .wz
 |ptr h=>exact .ptr (j _ _ h)
 |fW n c=>exact .fW n c
 |slice h u=>exact .slice (j _ _ h) u
 |uv=>exact .uv
 |map h=>exact .map (j _ _ h)
 |tg=>exact .tg
 |oh=>exact .oh
def KR.mono(j:ρ.le ρ')(h:KR ρ v c):KR ρ' v c:=by
 cases h with
 |cell h=>exact .cell (h.mono j)
 |fn f h=>exact .fn f (h.mono fun _ _=>CR.mono j)
 |yield h=>exact .yield (j _ _ h)
def AR.mono(j:ρ.le ρ')(h:AR ρ v c):AR ρ' v c:=by
 cases h with
 |cell h=>exact .cell (h.mono j)
 |agg h=>exact .agg (h.mono fun _ _=>KR.mono j)
def VR.mono(j:ρ.le ρ')(h:VR ρ v c):VR ρ' v c:=by
 cases h with
 |val h=>exact .val (h.mono j)
 |tuple h=>exact .tuple (h.mono fun _ _=>AR.mono j)
 |atl h=>exact .atl h
def CR.vr(h:CR ρ v c):VR ρ v c:=.val (.cell (.cell h))
def KR.vr(h:KR ρ v c):VR ρ v c:=.val (.cell h)
def VR.undef:VR ρ (.tuple #[]) (.tuple #[]):=.tuple .nil
def VR.bool(b:Bool):VR ρ (.bool b) (.bool b):=(CR.bool b).vr
def VR.int(k:IntKind)(n:Int):VR ρ (.int k n) (.int k n):=(CR.int k n).vr
def KR.plain(h:KR ρ v c):AI.plain v=true/\AI.plain c=true:=by
 cases h with
 |cell h=>cases h<;>exact⟨rfl,rfl⟩
 |fn=>exact⟨rfl,rfl⟩
 |yield=>exact⟨rfl,rfl⟩
def CR.Fu(h:VR ρ v c)(j:simple v=true):CR ρ v c:=by
 cases h with
 |tuple=>simp[simple] at j
 |atl=>simp[simple] at j
 |val h=>cases h with
  |agg=>simp[simple] at j
  |cell h=>cases h with
   |cell h=>exact h
   |fn=>simp[simple] at j
   |yield=>simp[simple] at j
def Qb(h:KR ρ v c):cellsOf v=[v]/\c.cells= #[c]:=by
 have:=h.plain;constructor;cases v<;>first|rfl|(simp[AI.plain] at this)
 cases c<;>first|rfl|(simp[AI.plain] at this)
def Io{vs:List Value}(h:VR ρ v c)(s:flat v=some vs):All2 (KR ρ) vs c.cells.toList:=by
 unfold flat at s;cases j:(cellsOf v).all AI.plain with
 |false=>simp[j] at s
 |true=>
  simp[j] at s;subst s;cases h with
  |tuple=>simp[cellsOf,AI.plain] at j
  |atl=>simp[cellsOf,AI.plain] at j
  |val h=>cases h with
   |agg h=>simpa [cellsOf,Value.cells] using h
   |cell h=>
    obtain⟨u,A⟩:=Qb h;rw[u,A];exact .cons h .nil
end
def oZ.rw:oZ->Bool
 |.bZ _ j _ _=> !j
 |_=>true
def fI(h:az)(b:Nat):Prop:=∃o,h.tr.get b=some o/\o.rw=true
end Go.AI
namespace Go.AI
variable{L:Loop}{a:Act}{args tmps:Array Value}{c' p q v v':Value}{ca:Addr}{cp i l len m n off r:Nat}{el t:TypeId}{f x y:Operand}{fK vs:List Value}{fn:Func}{fs:List Field}{hi lo mx:Option Operand}{ks:List Nat}{mw vr:Bool}{o:Oper}{op:BinOp}{ops:Array Oper}{ps rs:Array TypeId}{w w':World}{α β:Type}
def on(b:Frame)(a:Act)(j:List Item):Frame:= {b with tmps:=a.tmps,todo:=j,defers:=a.defers,mode:=.run}
def WJ(b:Frame)(a:Act)(j:List Item):(on b a j).eval=a.eval:=by funext x;cases x<;>rfl
section
variable{P:Program}{b:Frame}{a:Act}{k:List Item}{cs:List Frame}{w:World}
def akv:step P (lone (on b a (.code .skip::k)) cs w)=.next (lone (on b a k) cs w):=
 step_lone_go (by simp[stepG,stepG.exec,on])
def agf :step P (lone (on b a (.code (.label l)::k)) cs w)=.next (lone (on b a k) cs w):=
 step_lone_go (by simp[stepG,stepG.exec,on])
def ZI{id:Nat} :step P (lone (on b a (.inBlock id::k)) cs w)=.next (lone (on b a k) cs w):=
 step_lone_go (by simp[stepG,stepG.exec,on])
def ZL{c:Code} :step P (lone (on b a (.inScope c::k)) cs w)=.next (lone (on b a k) cs w):=
 step_lone_go (by simp[stepG,stepG.exec,on])
def OU{c:Code} :step P (lone (on b a (.code (.scope c)::k)) cs w)=.next (lone (on b a (.code c:: .inScope c::k)) cs w):=
 step_lone_go (by simp[stepG,stepG.exec,on])
def adD{x y:Code} :step P (lone (on b a (.code (.seq x y)::k)) cs w)=.next (lone (on b a (.code x:: .code y::k)) cs w):=
 step_lone_go (by simp[stepG,stepG.exec,on])
def adz{c:Operand}{x y:Code}{t:Bool}(h:a.eval c=.bool t):step P (lone (on b a (.code (.cond c x y)::k)) cs w)=.next (lone (on b a (.code (if t then x else y)::k)) cs w):=
 step_lone_go (by have:=WJ b a (.code (.cond c x y)::k);simp only[on] at this;simp[stepG,stepG.exec,on,this,h])
def Hy{id:Nat}{c:Code} :step P (lone (on b a (.code (.block id c)::k)) cs w)=.next (lone (on b a (.code c:: .inBlock id::k)) cs w):=
 step_lone_go (by simp[stepG,stepG.exec,on])
def OR{c:Code} :step P (lone (on b a (.code (.loop c)::k)) cs w)=.next (lone (on b a (.code c:: .inLoop c::k)) cs w):=
 step_lone_go (by simp[stepG,stepG.exec,on])
def adB{c:Code} :step P (lone (on b a (.inLoop c::k)) cs w)=.next (lone (on b a (.code c:: .inLoop c::k)) cs w):=
 step_lone_go (by simp[stepG,stepG.exec,on])
def aku{id:Nat}{j:List Item}(h:exitTo id k=some j):step P (lone (on b a (.code (.exit id)::k)) cs w)=.next (lone (on b a j) cs w):=
 step_lone_go (by simp[stepG,stepG.exec,on,h])
def adC{id:Nat}{ops:Array Oper} :step P (lone (on b a (.code (.region id ops false)::k)) cs w)=.next (lone (on b a (.inRegion ops (List.range ops.size)::k)) cs w):=
 step_lone_go (by simp[stepG,stepG.exec,on])
def akt{id:Nat}{ops:Array Oper} :step P (lone (on b a (.code (.region id ops true)::k)) cs w)=
   .next (lone (on b a (.inRegion ops (Region.schedule (P.follows .mixedOrders) ops (w.tape w.drawn (.order b.fn id)))::k)) cs {w with drawn:=w.drawn+1}):=
 step_lone_go (by simp[stepG,stepG.exec,on,choose,Sem.run,Question.forced,Question.cut])
def Ej :step P (lone (on b a (.inRegion ops []::k)) cs w)=.next (lone (on b a k) cs w):=
 step_lone_go (by simp[stepG,stepG.exec,on])
def Ah(b:Frame)(a:Act)(ops:Array Oper)(i:Nat)(cj:List Nat)(k:List Item)(v:Value):(on b a (.inRegion ops (i::cj)::k)).finish v=on b (a.put ((ops[i]?).bind (·.dst)) v) (.inRegion ops cj::k):=by
 cases h:(ops[i]?).bind (·.dst)<;>simp[Frame.finish,on,Act.put,h]
def MS{cj:List Nat}(h:((ops[i]?).map (Region.wanted · (yielded ops a.tmps))).getD false=false):step P (lone (on b a (.inRegion ops (i::cj)::k)) cs w)=
   .next (lone (on b (a.put ((ops[i]?).bind (·.dst)) undef) (.inRegion ops cj::k)) cs w):=by
 rw[<-Ah];exact step_lone_go (by have h':=h;simp only[on] at*;simp[stepG,stepG.exec,h'])
def Op.vC:Op->Bool
 |.defer _=>true
 |_=>false
def Er{cj:List Nat}(A:ops[i]?=some o)(u:Region.wanted o (yielded ops a.tmps)=true)(j:Op.vC o.op=false):stepG P true { frame:=on b a (.inRegion ops (i::cj)::k),callers:=cs,status:=.running,dying:=none } w=
   stepG.apply P true (on b a (.inRegion ops (i::cj)::k)) cs none (execOp a.eval o) w:=by
 have s:=WJ b a (.inRegion ops (i::cj)::k);simp only[on] at s;simp only[stepG,stepG.exec,stepG.oper,Frame.oper?,on,A,u,s,Cx,Option.getD_some,if_true];split
 .next heq=>rw[heq] at j;simp[Op.vC] at j
 rfl
def OV{cj:List Nat}(s:ops[i]?=some o)(A:Region.wanted o (yielded ops a.tmps)=true)(u:Op.vC o.op=false)(C:(execOp a.eval o).run P w=.ok (.value v) w'):step P (lone (on b a (.inRegion ops (i::cj)::k)) cs w)=.next (lone (on b (a.put o.dst v) (.inRegion ops cj::k)) cs w'):=by
 refine step_lone_go ?_;have j:=Ah b a ops i cj k v;rw[s] at j;rw[Er s A u];simp only[Option.bind_some] at j;rw[<-j];simp[stepG.apply,C]
def WU{cj:List Nat}(s:ops[i]?=some o)(A:Region.wanted o (yielded ops a.tmps)=true)(u:Op.vC o.op=false)(C:(execOp a.eval o).run P w=.ok .skip w'):step P (lone (on b a (.inRegion ops (i::cj)::k)) cs w)=.next (lone (on b (a.put o.dst undef) (.inRegion ops cj::k)) cs w'):=by
 refine step_lone_go ?_;have j:=Ah b a ops i cj k undef;rw[s] at j;rw[Er s A u];simp only[Option.bind_some] at j;rw[<-j];simp[stepG.apply,C]
def age{cj:List Nat}{f:FuncId}(u:ops[i]?=some o)(s:Region.wanted o (yielded ops a.tmps)=true)(j:Op.vC o.op=false)(A:(execOp a.eval o).run P w=.ok (.enter f args) w'):step P (lone (on b a (.inRegion ops (i::cj)::k)) cs w)=
   .next (lone (Frame.enter P f args .normal) (on b a (.inRegion ops (i::cj)::k)::cs) w'):=by
 refine step_lone_go ?_;rw[Er u s j];simp[stepG.apply,A,on]
def agh{cj:List Nat}{l f:Nat}{asg body:Code}(u:ops[i]?=some o)(s:Region.wanted o (yielded ops a.tmps)=true)(j:Op.vC o.op=false)(A:(execOp a.eval o).run P w=.ok (.round l f tmps asg body) w'):step P (lone (on b a (.inRegion ops (i::cj)::k)) cs w)=
   .next (lone (Frame.round l f tmps asg body .normal) (on b a (.inRegion ops (i::cj)::k)::cs) w'):=by
 refine step_lone_go ?_;rw[Er u s j];simp[stepG.apply,A]
end
def du:Value->Bool
 |.bool _|.int _ _|.string _|.pointer none|.slice none _ _|.map none|.nilFunc|.nilIface=>true
 |_=>false
structure TI where
 u:TypeDesc
 size:Nat
 bytes:Nat
 zero:List Value
 agg:Bool
abbrev ta:=Nat->Option TI
def rB:TypeDesc->Bool
 |.struct _=>true
 |.array _ _=>true
 |_=>false
structure vW(P:Program)(t:Nat)(i:TI):Prop where
 u:P.underlying t=some i.u
 info:∃ti,P.info? t=some ti/\ti.size=i.size/\ti.bytes=i.bytes/\∃z,ti.zero=some z/\z.cells.toList=i.zero
 agg:i.agg=rB i.u
 zero:i.zero.all du=true
 plain:i.agg=false->i.size=1
 len:i.zero.length=i.size
 held:∀fs,i.u=.struct fs->P.stoodInHeld t=false
 one:i.agg=false->∀ti z,P.info? t=some ti->ti.zero=some z->AI.plain z=true
def eE(P:Program)(T:ta):Prop:=∀t i,T t=some i->vW P t i
def tZ(T:ta):Nat->List Field->Option Nat
 |off,[]=>some off
 |off,f::fs=>bif Nat.beq f.offset off then match T f.type with
   |some i=>tZ T (off+i.size) fs
   |none=>none
  else none
def qk(k:Nat->Option (List Nat)):List Field->Option (List Nat)
 |[]=>some []
 |f::fs=>bif f.name != "_" then match k f.type,qk k fs with
   |some a,some b=>some (a++b)
   |_,_=>none
  else none
def U9(ks:List Nat):Nat->List Nat
 |0=>[]
 |n+1=>ks++U9 ks n
def kinds(T:ta):Nat->Nat->Option (List Nat)
 |0,_=>none
 |d+1,t=>match T t with
  |none=>none
  |some i=>match i.u with
   |.bool=>some [0]
   |.int _=>some [1]
   |.string=>some [2]
   |.struct fs=>match tZ T 0 fs.toList with
    |some n=>bif Nat.beq n i.size then qk (kinds T d) fs.toList else none
    |none=>none
   |.array n el=>match T el with
    |some e=>bif Nat.beq (n*e.size) i.size then(match kinds T d el with|some ks=>some (U9 ks n)|none=>none) else none
    |none=>none
   |_=>none
section
variable(T:ta)
def Df(i:TI):Option Nat:=bif i.agg then some i.size else none
def Af(c:Call):jQ:=
 match c.callee with
 |.value f=>.call f c.args.toList
 |.builtin .len=>match c.args.toList,c.argTypes.toList with
  |[x],[t]=>match T t with
   |some i=>match i.u with|.slice _=>.nu x|.string=>.JS x|_=>.bad
   |none=>.bad
  |_,_=>.bad
 |.builtin .append=>match c.args.toList,c.argTypes.toList with
  |[s,x],[t,j]=>match T t,T j with
   |some i,some u=>match i.u with
    |.slice el=>match T el with
     |some e=>match u.u with
      |.int _=>.append e.zero e.bytes true s x
      |.slice _=>.append e.zero e.bytes false s x
      |_=>.bad
     |none=>.bad
    |_=>.bad
   |_,_=>.bad
  |_,_=>.bad
 |.builtin .copy=>match c.args.toList,c.argTypes.toList with
  |[d,s],[t,_]=>match T t with
   |some i=>match i.u with
    |.slice el=>match T el with
     |some e=>.copy e.size d s
     |none=>.bad
    |_=>.bad
   |none=>.bad
  |_,_=>.bad
 |.builtin .clear=>match c.args.toList,c.argTypes.toList with
  |[x],[t]=>match T t with
   |some i=>match i.u with
    |.slice el=>match T el with
     |some e=>.clear e.zero x
     |none=>.bad
    |_=>.bad
   |none=>.bad
  |_,_=>.bad
 |.builtin .cap=>match c.args.toList,c.argTypes.toList with
  |[x],[t]=>match T t with
   |some i=>match i.u with|.slice _=>.Tn x|_=>.bad
   |none=>.bad
  |_,_=>.bad
 |_=>.bad
def yp(fs:List Field):List (Nat×Operand)->Option (List (Nat×Nat×Operand))
 |[]=>some []
 |(i,x)::r=>match fs[i]? with
  |none=>none
  |some f=>match T f.type,yp fs r with
   |some j,some l=>some ((f.offset,j.size,x)::l)
   |_,_=>none
def dR(o:Op):jQ:=
 match o with
 |.move x=>.mv x
 |.assign x=>.mv x
 |.pick c a b=>.pick c a b
 |.alloc t=>match T t with|some i=>.alloc i.zero|none=>.bad
 |.box t x=>match T t with|some _=>.box x|none=>.bad
 |.build t ps=>match T t with
  |some i=>match i.u with
   |.struct fs=>bif fs.toList.all fun f=>(T f.type).isSome then match yp T fs.toList ps.toList with|some l=>.build i.zero l|none=>.bad else .bad
   |.array _ el=>match T el with
    |some e=>.build i.zero (ps.toList.map fun p=>(p.1*e.size,e.size,p.2))
    |none=>.bad
   |_=>.bad
  |none=>.bad
 |.buildSlice t n ps=>match T t with
  |some i=>match i.u with
   |.slice el=>match T el with
    |some e=>bif Nat.ble (n*e.size) 1000000&&Nat.beq e.zero.length e.size then .fm n (jn e.zero n) (ps.toList.map fun p=>(p.1*e.size,e.size,p.2)) else .bad
    |none=>.bad
   |_=>.bad
  |none=>.bad
 |.load t a=>match T t with|some i=>.load (Df i) a|none=>.bad
 |.store t a v=>match T t with|some i=>.store i.size a v|none=>.bad
 |.nilCheck x=>.yk x
 |.binOp op t x y _=>match op with
  |.eql|.neq=>match T t with
   |some i=>match i.u with
    |.slice _=>.bin op [3] x y
    |.pointer _=>.bin op [4] x y
    |.map _ _=>.bin op [5] x y
    |.func _ _ _=>.bin op [6] x y
    |.struct _=>match kinds T 9 t with|some ks=>.bin op (9::ks) x y|none=>.bad
    |.array _ _=>match kinds T 9 t with|some ks=>.bin op (9::ks) x y|none=>.bad
    |.bool=>.bin op [0] x y
    |.int _=>.bin op [1] x y
    |.string=>.bin op [2] x y
    |_=>.bad
   |none=>.bad
  |_=>.bin op [] x y
 |.unOp op _ x=>.un op x
 |.convert s d x=>match T s,T d with
  |some i,some j=>match i.u,j.u with
   |.int _,.int k=>.conv k x
   |_,_=>.bad
  |_,_=>.bad
 |.makeFunc (.func f) first A=>bif first.isEmpty then .uk f A.toList else .bad
 |.makeSlice t l c=>match T t with
  |some i=>match i.u with
   |.slice el=>match T el with
    |some e=>.gG e.zero e.bytes l c
    |none=>.bad
   |_=>.bad
  |none=>.bad
 |.slice t x lo hi mx=>match T t with
  |some i=>match i.u with
   |.slice el=>match T el with
    |some e=>bif mx.isSome&&hi.isNone then .bad else .slice e.size x lo hi mx
    |none=>.bad
   |_=>.bad
  |none=>.bad
 |.fieldAddr t x k=>match T t with
  |some i=>match i.u with
   |.struct fs=>match fs[k]? with
    |some f=>match T f.type with
     |some C=>bif Nat.beq C.size 0 then .bad else .cq f.offset x
     |none=>.bad
    |none=>.bad
   |_=>.bad
  |none=>.bad
 |.indexAddr t x u=>match T t with
  |some i=>match i.u with
   |.slice el=>match T el with|some e=>.fw none e.size x u|none=>.bad
   |.array n el=>match T el with|some e=>.fw (some n) e.size x u|none=>.bad
   |_=>.bad
  |none=>.bad
 |.index t x u=>match T t with
  |some i=>match i.u with
   |.string=>.index none x u
   |.array n el=>match T el with
    |some e=>.index (some (n,e.size,Df e)) x u
    |none=>.bad
   |_=>.bad
  |none=>.bad
 |.extract x i=>.ext i x
 |.call c=>Af T c
 |_=>.bad
def NO:Value->Bool
 |.agg cs=>cs.toList.all du
 |.tuple cs=>cs.toList.isEmpty
 |v=>du v
def cS(ng:Nat):Operand->Bool
 |.const v=>NO v
 |.global g=>Nat.blt g ng
 |_=>true
def FC(ops:List Oper)(j:Nat):Option Nat:=match ops[j]? with|some o=>o.dst|none=>none
def wB(ng n:Nat)(ops:List Oper)(o:Oper):Bool:=
 (match o.dst with|none=>true|some d=>Nat.blt d n)&&(match o.guard with|none=>true|some (j,_)=>(FC ops j).isSome)&&o.op.operands.toList.all (cS ng)
def guardOf(ops:List Oper)(o:Oper):Option (Nat×Bool):=match o.guard with|none=>none|some (j,b)=>some ((FC ops j).getD 0,b)
def bY(ng n:Nat)(ops:List Oper)(o:Oper):bX:=
 bif wB ng n ops o then { dst:=o.dst,guard:=guardOf ops o,op:=dR T o.op } else { dst:=none,guard:=none,op:=.bad }
def jO:Code->Bool
 |.seq a b=>jO a&&jO b
 |.cond _ a b=>jO a&&jO b
 |.block _ c=>jO c
 |.loop c=>jO c
 |.scope c=>jO c
 |.rangeFunc _ _ _ _=>false
 |_=>true
def dv(ng n:Nat)(dr:Nat->List Oper->List (bX×List Nat)):Code->aG
 |.skip=>.skip
 |.region _ ops false=>.ops (ops.toList.map (bY T ng n ops.toList))
 |.region _ ops true=>.draw (dr n ops.toList)
 |.seq a b=>.seq (dv ng n dr a) (dv ng n dr b)
 |.cond c a b=>bif cS ng c then .cond c (dv ng n dr a) (dv ng n dr b) else .bad
 |.block id c=>.block id (dv ng n dr c)
 |.loop c=>.loop (dv ng n dr c)
 |.scope c=>dv ng n dr c
 |.label _=>.skip
 |.rangeFunc f ps a b=>bif cS ng f&&ps.toList.all (Nat.blt · n)&&jO a&&jO b then .Ko f ps.toList (dv ng n dr a) (dv ng n dr b) else .bad
 |.exit id=>.exit id
 |.ret=>.ret
 |_=>.bad
end
def ER(ρ:fJ)(e:Env)(tmps:Array Value):Prop:=∀t,VR ρ (bH e t) (tmps.getD t undef)
def Nb:Tc->Loop->Prop
 |.ready,L=>L.state=.ready/\L.pending=none
 |.busy,L=>L.state=.busy
 |.done none,L=>L.state=.done/\L.pending=some .ret
 |.done (some id),L=>L.state=.done/\L.pending=some (.exit id)
def aaA(ρ:fJ)(r:BS)(cs:List Value)(ro:Bool)(o:Nat)(w:World):Prop:=
 ∃(fK:Array Value) (el:TypeId) (s:Nat×Nat),w.heap[r.bZ]?=some (.cells fK el s)/\r.len=cs.length/\r.Jm=o/\(r.base+r.room=fK.size/\(o≠0->∀(j:Nat)(c:Value),r.len<=j->fK[r.base+j]?=some c->du c=true))/\(ro=false->s=(0,0))/\∀(j:Nat)(v:Value),cs[j]?=some v->∃c,fK[r.base+j]?=some c/\KR ρ v c
abbrev dx:=Nat->aG->Code->Prop
def aaI(CC:dx)(ρ:fJ)(r:BS)(j:Env)(ps:List Nat)(asg body:aG)(st:Tc)(w:World):Prop:=
 ∃L:Loop,w.heap[r.bZ]?=some (.loop L)/\ER ρ j L.tmps/\L.params.toList=ps/\CC L.tmps.size asg L.assign/\CC L.tmps.size body L.body/\(∀t∈ps,t<L.tmps.size)/\Nb st L
def amb(ρ:fJ)(r:BS)(es:List (Value×Value))(w:World):Prop:=
 ∃(j:Array MapEntry) (clock:Nat),w.heap[r.bZ]?=some (.map j clock)/\All2 (fun(x:Value×Value) (y:MapEntry)=>AR ρ x.1 y.key/\AR ρ x.2 y.val) es j.toList/\clock=j.size/\∀(i:Nat)(y:MapEntry),j[i]?=some y->y.born=i
def iT(CC:dx)(ρ:fJ)(r:BS)(o:oZ)(w:World):Prop:=
 match o with
 |.bZ cs A op _=>aaA ρ r cs A op w
 |.loop s ps u j st=>aaI CC ρ r s ps u j st w
 |.map C=>amb ρ r C w
 |.itr=>r.base=0/\w.heap[r.bZ]?=some (.mapIter none 0 #[] 0)
structure eM(CC:dx)(ρ:fJ)(h:az)(w:World):Prop where
 low:∀b r,ρ b=some r->b<h.aw/\r.bZ<w.heap.size
 obj:∀b r o,ρ b=some r->h.tr.get b=some o->iT CC ρ r o w
 inj:∀b b' r r' o,ρ b=some r->ρ b'=some r'->fI h b->h.tr.get b'=some o->b≠b'->r.bZ≠r'.bZ
 wf:∀b o,h.tr.get b=some o->b<h.aw
structure Ext(ρ:fJ)(h:az)(w:World)(ρ':fJ)(h':az)(w':World):Prop where
 le:ρ.le ρ'
 aw:h.aw<=h'.aw
 size:w.heap.size<=w'.heap.size
 os:w'.os=w.os
 tape:w'.tape=w.tape
 output:w'.output=w.output
 xj:∀k,k<w.heap.size->(∀b r,ρ b=some r->fI h b->r.bZ≠k)->w'.heap[k]?=w.heap[k]?
 own:∀b r,ρ' b=some r->fI h' b->w.heap.size<=r.bZ\/∃b₀ r₀,ρ b₀=some r₀/\fI h b₀/\r₀.bZ=r.bZ
 new:∀b r,ρ' b=some r->ρ b=none->h.aw<=b
 live:∀b r o,ρ' b=some r->h'.tr.get b=some o->w.heap.size<=r.bZ\/∃b₀ r₀ o₀,ρ b₀=some r₀/\h.tr.get b₀=some o₀/\r₀.bZ=r.bZ
def Ext.refl(ρ:fJ)(h:az)(w:World):Ext ρ h w ρ h w:=
 ⟨ρ.le_refl,fh _,fh _,rfl,rfl,rfl,fun _ _ _=>rfl,fun b r j s=>.inr ⟨b,r,j,s,rfl⟩,fun b r h h'=>(by rw[h] at h';cases h'),fun b r o j u=>.inr ⟨b,r,o,j,u,rfl⟩⟩
def Ext.trans{ρ G Z:fJ}{h U Y:az}{w V w₂:World}(a:Ext ρ h w G U V)(b:Ext G U V Z Y w₂):Ext ρ h w Z Y w₂:=by
 refine⟨fJ.le_trans a.le b.le,sx a.aw b.aw,sx a.size b.size,b.os.trans a.os,b.tape.trans a.tape,b.output.trans a.output,?_,?_,?_,?_⟩;intro k W E;rw[b.xj k (Kf W a.size) ?_,a.xj k W E];intro x r s J e;rcases a.own x r s J with h|⟨D,A,C,N,j⟩;omega;exact E D A C N (j.trans e);intro x r s J;rcases b.own x r s J with h|⟨D,A,C,N,j⟩;exact .inl (sx a.size h);rcases a.own D A C N with h|⟨I,Q,u,M,O⟩;exact .inl (j▸h);exact .inr ⟨I,Q,u,M,O.trans j⟩
 .intro x r s E;cases u:G x with
  |none=>exact sx a.aw (b.new x r s u)
  |some r1=>exact a.new x r1 u E
 intro x r o s ho;rcases b.live x r o s ho with h|⟨D,A,o₀,C,H,j⟩;exact .inl (sx a.size h);rcases a.live D A o₀ C H with h|⟨I,Q,o₁,u,K,O⟩;exact .inl (j▸h);exact .inr ⟨I,Q,o₁,u,K,O.trans j⟩
def ER.mono{ρ ρ':fJ}{e:Env}{tmps:Array Value}(j:ρ.le ρ')(h:ER ρ e tmps):ER ρ' e tmps:=fun t=>(h t).mono j
def dX(ng:Nat)(ρ:fJ):Prop:=∀g,g<ng->∃r,ρ g=some r/\r.bZ=g/\r.base=0
def qh{ρ:fJ}(h:du v=true):CR ρ v v:=by unfold du at h;split at h;exact .bool _;exact .int _ _;exact .str _;exact .wz;exact .fW _ _;exact .uv;exact .tg;exact .oh;cases h
def fy{ρ:fJ} :∀ {l:List Value},l.all du=true->All2 (KR ρ) l l
 |[],_=>.nil
 |v::l,h=>by simp only[List.all_cons,oD] at h;exact .cons (.cell (qh h.1)) (fy h.2)
def Qf{ρ:fJ}(h:NO v=true):VR ρ v v:=by
 unfold NO at h;split at h;rename_i cs;exact .val (.agg (fy h))
 .rename_i cs;obtain⟨l⟩:=cs;cases l with
  |nil=>exact .tuple .nil
  |cons=>simp at h
 exact(qh h).vr
def ER.eval{ng:Nat}{ρ:fJ}{e:Env}{a:Act}(h:ER ρ e a.tmps)(C:dX ng ρ):∀ {x:Operand},cS ng x=true->VR ρ (ev e x) (a.eval x)
 |.tmp t,_=>h t
 |.const _,j=>Qf j
 |.global g,j=>by obtain⟨r,s,A,u⟩:=C g (by simpa [cS,Nat.blt_eq] using j);have:=CR.ptr (o:=0) s;rw[A,u] at this;exact this.vr
 |.func f,_=>(KR.fn f (l:=[]) (m:=[]) .nil).vr
def xt(h:plain v=true):v.oneCell'=true:=by cases v<;>first|rfl|(simp[plain] at h)
def qu(b o n:Nat):(⟨b,o,none⟩:Addr).add n=⟨b,o+n,none⟩:=by unfold Addr.add;split<;>simp_all
section
variable{P:Program}{CC:dx}{ρ ρ':fJ}{h:az}{w w':World}
def iT.mono{r:BS}{o:oZ}(G:ρ.le ρ')(E:w'.heap[r.bZ]?=w.heap[r.bZ]?)(u:iT CC ρ r o w):iT CC ρ' r o w':=by
 cases o with
 |bZ cs W op s=>
  obtain⟨fK,el,V,C,A,D,U,K,Q⟩:=u;exact⟨fK,el,V,E.trans C,A,D,U,K,fun j v O=>let⟨c,hc,hr⟩:=Q j v O;⟨c,hc,hr.mono G⟩⟩
 |loop J ps N I st=>
  obtain⟨L,C,A,D⟩:=u;exact⟨L,E.trans C,A.mono G,D⟩
 |map Y=>
  obtain⟨H,M,C,A,D⟩:=u;exact⟨H,M,E.trans C,A.mono fun _ _ ⟨a,b⟩=>⟨a.mono G,b.mono G⟩,D⟩
 |itr=>exact⟨u.1,E.trans u.2⟩
def dX.mono{ng:Nat}(s:ρ.le ρ')(j:dX ng ρ):dX ng ρ':=fun g u=>let⟨r,h,x⟩:=j g u;⟨r,s _ _ h,x⟩
structure At1(k:Nat)(w w':World):Prop where
 os:w'.os=w.os
 tape:w'.tape=w.tape
 output:w'.output=w.output
 size:w'.heap.size=w.heap.size
 other:∀j,j≠k->w'.heap[j]?=w.heap[j]?
def At1.row(g:Nat)(cs:Array Value):At1 g w (w.setRow g cs):=⟨rfl,rfl,rfl,ae,fun j s=>setRow_other w g j cs s⟩
def At1.obj(g:Nat)(o:Obj):At1 g w {w with heap:=w.heap.setIfInBounds g o} :=
 ⟨rfl,rfl,rfl,ae,fun j s=>by simp[Ne.symm s]⟩
def eM.drawn(S:eM CC ρ h w)(n:Nat):eM CC ρ h {w with drawn:=n} :=
 ⟨S.low,fun b r o s j=>iT.mono ρ.le_refl (w':= {w with drawn:=n}) rfl (S.obj b r o s j),S.inj,S.wf⟩
def Ext.drawn(n:Nat):Ext ρ h w ρ h {w with drawn:=n} :=
 ⟨ρ.le_refl,fh _,fh _,rfl,rfl,rfl,fun _ _ _=>rfl,fun b r j s=>.inr ⟨b,r,j,s,rfl⟩,fun b r h h'=>(by rw[h] at h';cases h'),fun b r o j u=>.inr ⟨b,r,o,j,u,rfl⟩⟩
def eM.clock(S:eM CC ρ h w)(n:Nat):eM CC ρ {h with clock:=n} w:=⟨S.low,S.obj,S.inj,S.wf⟩
def Ext.clock(n:Nat):Ext ρ h w ρ {h with clock:=n} w:=
 ⟨ρ.le_refl,fh _,fh _,rfl,rfl,rfl,fun _ _ _=>rfl,fun b r j s=>.inr ⟨b,r,j,s,rfl⟩,fun b r h h'=>(by rw[h] at h';cases h'),fun b r o j u=>.inr ⟨b,r,o,j,u,rfl⟩⟩
def eM.tz(S:eM CC ρ h w){b:Nat}{r:BS}{o o':oZ}(I:ρ b=some r)(G:h.tr.get b=some o)(H:o.rw=true)(A:At1 r.bZ w w')(J:iT CC ρ r o' w')(n:Nat):eM CC ρ {h with clock:=n,tr:=h.tr.set b o'} w'/\Ext ρ h w ρ {h with clock:=n,tr:=h.tr.set b o'} w':=by
 have M:fI h b:=⟨o,G,H⟩;have K:∀x,fI {h with clock:=n,tr:=h.tr.set b o'} x->fI h x:=by rintro x⟨p,j,N⟩;simp only[Tr.bN] at j;by_cases s:x=b;subst s;exact M;rw[bU s] at j;exact⟨p,j,N⟩
 refine⟨⟨fun x u s=>⟨(S.low x u s).1,by rw[A.size];exact(S.low x u s).2⟩,?_,?_,fun x p j=>?_⟩,⟨ρ.le_refl,fh _,Nat.le_of_eq A.size.symm,A.os,A.tape,A.output,?_,?_,?_,?_⟩⟩
 rotate_left 2
 simp only[Tr.bN] at j;by_cases s:x=b;subst s;exact S.wf _ _ G;rw[bU s] at j;exact S.wf x p j
 rotate_left 4
 intro x u p s j;simp only[Tr.bN] at j;by_cases C:x=b;subst C;rw[bM rfl] at j;cases j;rw[I] at s;cases s;exact J;rw[bU C] at j;exact iT.mono ρ.le_refl (A.other _ (S.inj b x r u p I s M j (Ne.symm C)).symm) (S.obj x u p s j);intro x y u V p s U E j Q;simp only[Tr.bN] at j;by_cases D:y=b;subst D;exact S.inj x y u V o s U (K x E) G Q;rw[bU D] at j;exact S.inj x y u V p s U (K x E) j Q;intro k _ W;exact A.other k (fun e=>W b r I M e.symm);intro x u s E;exact .inr ⟨x,u,s,K x E,rfl⟩;intro x u Y O;rw[Y] at O;cases O;intro x u p s j;simp only[Tr.bN] at j;by_cases C:x=b;subst C;exact .inr ⟨x,u,o,s,G,rfl⟩;rw[bU C] at j;exact .inr ⟨x,u,p,s,j,rfl⟩
def jU(ρ:fJ)(b:Nat)(r:BS):fJ:=fun x=>if x=b then some r else ρ x
def vN{b:Nat}{r:BS}(s:ρ b=none):ρ.le (jU ρ b r):=by intro x u j;unfold jU;by_cases h:x=b;subst h;rw[s] at j;cases j;rw[bU h];exact j
def eM.fresh(S:eM CC ρ h w):ρ h.aw=none:=by
 cases e:ρ h.aw with
 |none=>rfl
 |some r=>have:=(S.low _ _ e).1;omega
def eM.add(S:eM CC ρ h w){o:oZ}{E:Obj}{im:BS}(K:im.bZ=w.heap.size)(N:iT CC (jU ρ h.aw im) im o (w.alloc E)):eM CC (jU ρ h.aw im) (h.new o) (w.alloc E)/\Ext ρ h w (jU ρ h.aw im) (h.new o) (w.alloc E):=by
 have J:=vN (r:=im) S.fresh;have vy:(w.alloc E).heap.size=w.heap.size+1:=Array.size_push _;have C:∀k,k<w.heap.size->(w.alloc E).heap[k]?=w.heap[k]? :=by intro k Z;show(w.heap.push E)[k]?=_;rw[Array.getElem?_push,bU ab]
 have D:∀x s,jU ρ h.aw im x=some s->(x=h.aw/\s=im)\/(x≠h.aw/\ρ x=some s):=by intro x s j;unfold jU at j;by_cases e:x=h.aw;rw[bM e] at j;cases j;exact .inl ⟨e,rfl⟩;rw[bU e] at j;exact .inr ⟨e,j⟩
 have G:∀x,(h.new o).tr.get x=if x=h.aw then some o else h.tr.get x:=fun x=>Tr.bN _ _ _ _
 refine⟨⟨?_,?_,?_,fun x p u=>?_⟩,⟨J,?_,ab,rfl,rfl,rfl,fun k Z _=>C k Z,?_,?_,?_⟩⟩
 rotate_left 3
 rw[G] at u;by_cases e:x=h.aw;subst e;simp[az.new];rw[bU e] at u;have:=S.wf x p u;simp only[az.new];omega
 rotate_left 4
 intro x s j;rcases D x s j with⟨rfl,rfl⟩|⟨A,j⟩;exact⟨by simp[az.new],by rw[vy,K];omega⟩;have:=S.low x s j;exact⟨by simp only[az.new];omega,ab⟩
 intro x s p j u;rw[G] at u;rcases D x s j with⟨rfl,rfl⟩|⟨A,j⟩;rw[bM rfl] at u;cases u;exact N;rw[bU A] at u;exact iT.mono J (C _ (S.low x s j).2) (S.obj x s p j u);intro x y s V p j hy O u A;rw[G] at u;rcases D x s j with⟨ex,er⟩|⟨Q,Y⟩<;>rcases D y V hy with⟨ey,U⟩|⟨M,H⟩;exact absurd (ex.trans ey.symm) A;have:=(S.low y V H).2;rw[er,K];omega;have:=(S.low x s Y).2;rw[U,K];omega;rw[bU M] at u;obtain⟨q,I,W⟩:=O;rw[G,bU Q] at I;exact S.inj x y s V p Y H ⟨q,I,W⟩ u A
 simp[az.new];intro x s j O;rcases D x s j with⟨rfl,rfl⟩|⟨A,j⟩;exact .inl ab;obtain⟨q,I,W⟩:=O;rw[G,bU A] at I;exact .inr ⟨x,s,j,⟨q,I,W⟩,rfl⟩;intro x s j hn;rcases D x s j with⟨rfl,rfl⟩|⟨A,j⟩;exact fh _;rw[j] at hn;cases hn;intro x s p j u;rcases D x s j with⟨rfl,rfl⟩|⟨A,j⟩;exact .inl ab;rw[G,bU A] at u;exact .inr ⟨x,s,p,j,u,rfl⟩
def eM.less(S:eM CC ρ h w)(b:Nat):eM CC ρ {h with tr:=h.tr.del b} w/\Ext ρ h w ρ {h with tr:=h.tr.del b} w:=by
 have s:∀x p,({h with tr:=h.tr.del b} :az).tr.get x=some p->h.tr.get x=some p:=by intro x p j;simp only[Tr.kE] at j;by_cases e:x=b;rw[bM e] at j;cases j;rwa [bU e] at j
 refine⟨⟨S.low,fun x r o j E=>S.obj x r o j (s x o E),fun x y I J p j G ⟨q,A,C⟩ u K=>S.inj x y I J p j G ⟨q,s x q A,C⟩ (s y p u) K,fun x p u=>S.wf x p (s x p u)⟩,⟨ρ.le_refl,fh _,fh _,rfl,rfl,rfl,fun _ _ _=>rfl,fun x r j ⟨q,A,C⟩=>.inr ⟨x,r,j,⟨q,s x q A,C⟩,rfl⟩,fun x r H D=>(by rw[H] at D;cases D),fun x r p j u=>.inr ⟨x,r,p,j,s x p u,rfl⟩⟩⟩
def eM.move(S:eM CC ρ h w){b:Nat}{r im:BS}{o o':oZ}(G:ρ b=some r)(ho:h.tr.get b=some o)(W:o.rw=true)(I:im.bZ=r.bZ)(E:At1 r.bZ w w')(Y:iT CC (jU ρ h.aw im) im o' w'):eM CC (jU ρ h.aw im) (({h with tr:=h.tr.del b} :az).new o') w'/\Ext ρ h w (jU ρ h.aw im) (({h with tr:=h.tr.del b} :az).new o') w':=by
 have U:fI h b:=⟨o,ho,W⟩;have O:=vN (r:=im) S.fresh;have H:∀x A,jU ρ h.aw im x=some A->(x=h.aw/\A=im)\/(x≠h.aw/\ρ x=some A):=by intro x A s;unfold jU at s;by_cases e:x=h.aw;rw[bM e] at s;cases s;exact .inl ⟨e,rfl⟩;rw[bU e] at s;exact .inr ⟨e,s⟩
 have fq:∀x,(({h with tr:=h.tr.del b} :az).new o').tr.get x=if x=h.aw then some o' else if x=b then none else h.tr.get x:=by intro x;simp only[az.new,Tr.bN,Tr.kE]
 have u:∀x p,x≠h.aw->(({h with tr:=h.tr.del b} :az).new o').tr.get x=some p->x≠b/\h.tr.get x=some p:=by intro x p s j;rw[fq,bU s] at j;by_cases e:x=b;rw[bM e] at j;cases j;rw[bU e] at j;exact⟨e,j⟩
 refine⟨⟨?_,?_,?_,fun x p j=>?_⟩,⟨O,by simp[az.new],Nat.le_of_eq E.size.symm,E.os,E.tape,E.output,?_,?_,?_,?_⟩⟩
 rotate_left 3
 rw[fq] at j;by_cases e:x=h.aw;subst e;simp[az.new];rw[bU e] at j;by_cases e2:x=b;rw[bM e2] at j;cases j;rw[bU e2] at j;have:=S.wf x p j;simp only[az.new];omega
 rotate_left 4
 intro x A s;rcases H x A s with⟨rfl,rfl⟩|⟨C,s⟩;exact⟨by simp[az.new],by rw[I,E.size];exact(S.low b r G).2⟩;have:=S.low x A s;exact⟨by simp only[az.new];omega,by rw[E.size];exact this.2⟩
 intro x A p s j;rcases H x A s with⟨rfl,rfl⟩|⟨C,s⟩;rw[fq,bM rfl] at j;cases j;exact Y;obtain⟨Q,j⟩:=u x p C j;exact iT.mono O (E.other _ (S.inj b x r A p G s U j (Ne.symm Q)).symm) (S.obj x A p s j);intro x y A ry p s hy Z j C;obtain⟨q,D,V⟩:=Z;rcases H x A s with⟨ex,er⟩|⟨N,Yf⟩<;>rcases H y ry hy with⟨ey,er'⟩|⟨K,J⟩;exact absurd (ex.trans ey.symm) C;obtain⟨M,j⟩:=u y p K j;rw[er,I];exact S.inj b y r ry p G J U j (Ne.symm M);obtain⟨Q,D⟩:=u x q N D;rw[er',I];exact S.inj x b A r o Yf G ⟨q,D,V⟩ ho Q;obtain⟨Q,D⟩:=u x q N D;obtain⟨M,j⟩:=u y p K j;exact S.inj x y A ry p Yf J ⟨q,D,V⟩ j C;intro k _ hk;exact E.other k (fun e=>hk b r G U e.symm);intro x A s Z;obtain⟨q,D,V⟩:=Z;rcases H x A s with⟨rfl,rfl⟩|⟨C,s⟩;exact .inr ⟨b,r,G,U,I.symm⟩;obtain⟨_,D⟩:=u x q C D;exact .inr ⟨x,A,s,⟨q,D,V⟩,rfl⟩;intro x A s hn;rcases H x A s with⟨rfl,rfl⟩|⟨C,s⟩;exact fh _;rw[s] at hn;cases hn;intro x A p s j;rcases H x A s with⟨rfl,rfl⟩|⟨C,s⟩;exact .inr ⟨b,r,o,G,ho,I.symm⟩;obtain⟨_,j⟩:=u x p C j;exact .inr ⟨x,A,p,s,j,rfl⟩
def Ed(S:eM CC ρ h w){b off n:Nat}{r:BS}{cs:List Value}(G:ρ b=some r)(C:cD h b off n=some cs):cs.length=n/\∃fK:List Value,All2 (KR ρ) cs fK/\∀(j:Nat)(v:Value),fK[j]?=some v->w.cell? ((⟨r.bZ,r.base+off,none⟩:Addr).add j)=some v:=by
 unfold cD at C;split at C
 .rename_i cells Q op s I;by_cases D:((cells.drop off).take n).length=n
  .simp only[D,Nat.beq_refl] at C;simp only[if_true,mL] at C;subst C;refine⟨D,?_⟩;obtain⟨fK,el,V,M,_,_,_,_,N⟩:=S.obj b r _ G I;have H:∀(j:Nat)(v:Value),((cells.drop off).take n)[j]?=some v->∃c,fK[r.base+off+j]?=some c/\KR ρ v c:=by intro j v u;rw[XJ] at u;split at u;rw[List.getElem?_drop] at u;obtain⟨c,A,E⟩:=N _ _ u;exact⟨c,by rw[<-A];congr 1;omega,E⟩;cases u
   refine⟨(fK.toList.drop (r.base+off)).take n,?_,?_⟩
   .refine All2.ajU ?_ ?_;rw[D];by_cases O:n=0;subst O;simp;have:((cells.drop off).take n)[n-1]?=some ((cells.drop off).take n)[n-1]:=g_ ab;obtain⟨c,A,_⟩:=H _ _ this;have U:=(Array.getElem?_eq_some_iff.1 A).1;simp;omega
    .intro i a c J A;obtain⟨c',K,E⟩:=H i a J;rw[XJ] at A;split at A
     .rw[List.getElem?_drop] at A;have:fK.toList[r.base+off+i]?=some c':=aj K
      rw[this] at A;cases A;exact E
     cases A
   .intro j v u;rw[XJ] at u;split at u
    .rw[List.getElem?_drop] at u;rw[qu];have:fK[r.base+off+j]?=some v:=aj u
     simp[World.cell?,M,this]
    cases u
  .have:Nat.beq ((cells.drop off).take n).length n=false:=by
    cases G:Nat.beq ((cells.drop off).take n).length n with
    |false=>rfl
    |true=>exact absurd (rz G) D
   simp only[this] at C;simp at C
 cases C
def qo{cs vs:List Value}(h:off+vs.length<=cs.length):(bg cs off vs).length=cs.length:=by simp[bg];omega
def iz{cs vs:List Value}{off j:Nat}(h:off+vs.length<=cs.length):(bg cs off vs)[j]?=if off<=j/\j<off+vs.length then vs[j-off]? else cs[j]? :=by unfold bg;by_cases s:j<off;rw[bU ab,G1,Iw (by simp;omega),XJ,bM s];by_cases u:j<off+vs.length;rw[bM ⟨ab,u⟩,G1,Ke (by simp;omega),List.length_take,Nat.min_eq_left ab,Iw ab];rw[bU ab,Ke (by simp;omega),LV,List.length_take,Nat.min_eq_left ab,List.getElem?_drop];congr 1;omega
def AE(S:eM CC ρ h w){b off:Nat}{r:BS}{vs u:List Value}{h':az}(E:ρ b=some r)(C:fU h b off vs=some h')(Q:All2 (KR ρ) vs u):∃w',(storeCells ⟨r.bZ,r.base+off,none⟩ u).run P w=.ok () w'/\eM CC ρ h' w'/\Ext ρ h w ρ h' w':=by
 unfold fU at C;split at C
 .rename_i cells op s O;by_cases H:off+vs.length<=cells.length
  .rw[bM (Nat.ble_eq_true_of_le H)] at C;cases C;obtain⟨fK,el,fr,I,U,V,K,Z,J⟩:=S.obj b r _ E O;have Wn:fr=(0,0):=Z rfl;subst Wn;have dJ:=Q.length;by_cases h0:vs.length=0
   .have N:vs=[]:=Wg h0;have Gi:u=[]:=Wg ab;subst N;subst Gi;refine⟨w,rfl,eM.tz S E O rfl ⟨rfl,rfl,rfl,rfl,fun _ _=>rfl⟩ ?_ _⟩;have:bg cells off []=cells:=by simp[bg]
    rw[this];exact⟨fK,el,(0,0),I,U,V,K,Z,J⟩
   have M:r.base+off+0+u.length<=fK.size:=by have:cells[off+vs.length-1]?=some cells[off+vs.length-1]:=g_ ab;obtain⟨c,A,_⟩:=J _ _ this;have gX:=(Array.getElem?_eq_some_iff.1 A).1;omega
   have eN:=run_storeCells_at (P:=P) r.bZ (r.base+off) el u 0 fK w I M (fun v hm=>by obtain⟨i,hi⟩:=iI hm;have hx:vs[i]?=some (vs[i]'(by rw[dJ];exact(di.1 hi).1)):=g_ _;obtain⟨c,A,G⟩:=Q.get hx;rw[hi] at A;cases A;exact xt G.plain.2);refine⟨_,eN,?_⟩;refine eM.tz S E O rfl (At1.row _ _) ?_ _;have Y:fK.toList.take (r.base+off+0)++u++fK.toList.drop (r.base+off+0+u.length)=bg fK.toList (r.base+off) u:=by simp[bg]
   refine⟨_,el,(0,0),setRow_heap w r.bZ fK _ el _ I,by rw[qo H];exact U,V,⟨?_,?_⟩,fun _=>rfl,?_⟩
   rotate_left 1
   intro yX j c D A;rw[Y] at A;simp only[List.getElem?_toArray] at A;rw[iz (aj M),bU ab] at A;exact K.2 yX j c D (aj A)
   rotate_left 1
   rw[K.1];simp only[List.size_toArray,LV,List.length_take,List.length_drop,Array.length_toList];omega;intro j v D;rw[iz H] at D;rw[Y];have hg:=iz (cs:=fK.toList) (vs:=u) (off:=r.base+off) (j:=r.base+j) (aj M);simp only[List.getElem?_toArray];rw[hg];by_cases W:off<=j/\j<off+vs.length
   rw[bM W] at D;rw[bM ab];obtain⟨c,A,G⟩:=Q.get D;exact⟨c,by rw[<-A];congr 1;omega,G⟩;rw[bU W] at D;rw[bU ab];obtain⟨c,A,G⟩:=J j v D;exact⟨c,aj A,G⟩
  .have:Nat.ble (off+vs.length) cells.length=false:=by
    cases E:Nat.ble (off+vs.length) cells.length with
    |false=>rfl
    |true=>exact absurd (Ph E) H
   rw[this] at C;simp at C
 cases C
end
def Out(CC:dx)(ρ:fJ)(h:az)(w:World)(v:Value)(h':az)(r:Result Next):Prop:=
 ∃ρ' w' c,(r=.ok (.value c) w'\/(c=undef/\r=.ok .skip w'))/\VR ρ' v c/\eM CC ρ' h' w'/\Ext ρ h w ρ' h' w'
section
variable{P:Program}{CC:dx}{ρ:fJ}{h:az}{w:World}{T:ta}{ng:Nat}{e:Env}{a:Act}
def Out.same(S:eM CC ρ h w){v c:Value}{r:Result Next}(s:r=.ok (.value c) w)(j:VR ρ v c):Out CC ρ h w v h r:=
 ⟨ρ,w,c,.inl s,j,S,.refl ρ h w⟩
def fG{s:Sem Value}{c:Value}(j:s.run P w=.ok c w'):((do pure (Next.value (<-s))):Sem Next).run P w=.ok (.value c) w':=by simp[j]
def HR{l:Array α}{x:α}(h:l[i]?=some x):i<l.size:=(Array.getElem?_eq_some_iff.1 h).1
def Xh(w:World)(o:Obj):(w.alloc o).heap[w.heap.size]?=some o:=by show(w.heap.push o)[w.heap.size]?=some o;simp
def D4(S:eM CC ρ h w){cs fK cj:List Value}(D:All2 (KR ρ) cs fK)(el:Nat)(A:Nat)(H:A≠0->∀c∈cj,du c=true):∃s:BS,s.bZ=w.heap.size/\s.base=0/\s.len=cs.length/\s.Jm=A/\s.room=(fK++cj).length/\eM CC (jU ρ h.aw s) (aK h cs A) (w.alloc (.cells ⟨fK++cj⟩ el))/\Ext ρ h w (jU ρ h.aw s) (aK h cs A) (w.alloc (.cells ⟨fK++cj⟩ el)):=by
 refine⟨⟨w.heap.size,0,cs.length,A,(fK++cj).length⟩,rfl,rfl,rfl,rfl,rfl,?_⟩;refine eM.add S rfl ?_;refine⟨_,_,_,Xh w _,rfl,rfl,⟨Hj _,?_⟩,fun _=>rfl,?_⟩;intro G j c C u;dsimp only at C u;rw[show(⟨fK++cj⟩:Array Value)[0+j]?=(fK++cj)[0+j]? by simp,Hj,Ke (by rw[<-D.length];exact C)] at u;exact H G c (cN u);intro j v C;obtain⟨c,u,E⟩:=D.get C;refine⟨c,?_,E.mono (vN S.fresh)⟩;show(⟨fK++cj⟩:Array Value)[0+j]?=some c;rw[show(⟨fK++cj⟩:Array Value)[0+j]?=(fK++cj)[0+j]? by simp,Hj,Iw (di.1 u).1,u]
def xC(ρ:fJ)(b:Nat)(r:BS):jU ρ b r b=some r:=by simp[jU]
def WQ{im:BS}(j:im.bZ=w.heap.size)(h0:im.base=0):VR (jU ρ h.aw im) (.pointer (some ⟨h.aw,0,none⟩)) (.pointer (some ⟨w.heap.size,0,none⟩)):=by have:=CR.ptr (ρ:=jU ρ h.aw im) (o:=0) (xC ρ h.aw im);rw[j,h0] at this;exact this.vr
def JP(el:TypeId)(v:Value):(newVar el v).run P w=.ok ⟨w.heap.size,0,none⟩ (w.alloc (.cells v.cells el)):=rfl
def Eu{t:Nat}{i:TI}(hi:vW P t i):∃z,(zeroValue t).run P w=.ok z w/\z.cells.toList=i.zero:=by obtain⟨A,j,_,_,z,s,u⟩:=hi.info;exact⟨z,by simp[zeroValue,typeInfo,j,s],u⟩
def iu{t:Nat}{i:TI}(hi:vW P t i):(sizeOf t).run P w=.ok i.size w/\P.cellsOf t=i.size:=by obtain⟨u,j,s,_⟩:=hi.info;exact⟨by simp[sizeOf,typeInfo,j,s],by simp[Program.cellsOf,j,s]⟩
def tp{t:Nat}{i:TI}(hi:vW P t i):(isAgg t).run P w=.ok i.agg w:=by simp only[isAgg,sy,rq hi.u,rm,hi.agg];cases i.u<;>rfl
def aaZ(v:Value)(l:List Value)(h:v.cells.toList=l):v.cells=⟨l++[]⟩:=by
 cases j:v.cells with
 |mk x=>rw[j] at h;simp at h;simp[h]
def ac3(S:eM CC ρ h w){t:Nat}{i:TI}(hi:vW P t i):Out CC ρ h w (.pointer (some ⟨h.aw,0,none⟩)) (aK h i.zero 0) (((do pure (Next.value (<-Instr.alloc t true (.tuple #[])))):Sem Next).run P w):=by
 obtain⟨z,D,C⟩:=Eu (w:=w) hi;obtain⟨E,A,u,_,_,_,s,j⟩:=D4 (cj:=[]) S (fy hi.zero) t 0 (fun h=>absurd rfl h);rw[<-aaZ z _ C] at s j;refine⟨_,_,_,.inl (fG ?_),WQ A u,s,j⟩;simp[Instr.alloc,D,JP]
def aj3(S:eM CC ρ h w){t:Nat}{v c:Value}(A:VR ρ v c)(u:flat v=some vs):Out CC ρ h w (.pointer (some ⟨h.aw,0,none⟩)) (aK h vs 0) (((do pure (Next.value (<-Instr.box t c))):Sem Next).run P w):=by
 obtain⟨E,D,C,_,_,_,s,j⟩:=D4 (cj:=[]) S (Io A u) t 0 (fun h=>absurd rfl h);rw[<-aaZ c _ rfl] at s j;refine⟨_,_,_,.inl (fG ?_),WQ D C,s,j⟩;simp[Instr.box,JP]
def WK(S:eM CC ρ h w){t:Nat}{i:TI}(hi:vW P t i){b off:Nat}{r:BS}{cs:List Value}(I:ρ b=some r)(H:cD h b off (width (Df i))=some cs)(j:agg (Df i) cs=some v):∃c,(loadVar t ⟨r.bZ,r.base+off,none⟩).run P w=.ok c w/\VR ρ v c:=by
 obtain⟨s,fK,C,E⟩:=Ed S I H;have J:=(iu (w:=w) hi).1;cases u:i.agg with
 |true=>
  simp only[Df,u,kA,width] at s j;have G:=C.length;simp only[agg,s,Nat.beq_refl,if_true,mL] at j;subst j;refine⟨.agg fK.toArray,?_,.val (.agg C)⟩;simp only[loadVar,sy,tp hi,u,rm,if_true,J];rw[<-s,G,run_loadCells_list w _ fK E];rfl
 |false=>
  simp only[Df,u,xY,width] at s j
  match cs,fK,C,s with
  |[x],[y],.cons A .nil,_=>
   simp only[agg,mL] at j;subst j;have D:=E 0 y rfl;rw[qu,gU_] at D;refine⟨y,?_,A.vr⟩;simp[loadVar,tp hi,u,D]
def ac8(S:eM CC ρ h w){t:Nat}{i:TI}(hi:vW P t i){b off:Nat}{r:BS}{v c:Value}{h':az}(G:ρ b=some r)(D:VR ρ v c)(A:flat v=some vs)(E:vs.length=i.size)(s:fU h b off vs=some h'):∃w',(storeVar t ⟨r.bZ,r.base+off,none⟩ c).run P w=.ok () w'/\eM CC ρ h' w'/\Ext ρ h w ρ h' w':=by
 have j:=Io D A;obtain⟨w',H,u,C⟩:=AE S G s j;refine⟨w',?_,u,C⟩;have I:=(iu (w:=w) hi).1;have J:c.cells.size=i.size:=by rw[<-E,j.length];simp
 simp only[storeVar,sy,I,rm,J,ne_eq,not_true_eq_false,if_false];simpa using H
def adb{t:Nat}{i:TI}(hi:vW P t i){l m:List Value}(D:All2 (KR ρ) l m)(j:agg (Df i) ((l.drop off).take (width (Df i)))=some v):∃c,(part t ⟨m⟩ off).run P w=.ok c w/\VR ρ v c:=by
 have s:=(D.drop off).take (width (Df i));cases u:i.agg with
 |true=>
  simp only[Df,u,kA,width,agg] at j s;split at j;cases j;refine⟨.agg ⟨(m.drop off).take i.size⟩,?_,.val (.agg s)⟩;simp only[part,sy,tp hi,u,rm,if_true,(iu (w:=w) hi).1,xE];congr 2;simp;cases j
 |false=>
  simp only[Df,u,xY,width,agg] at j s;split at j
  .rename_i x G;cases j;rw[G] at s
   match C:(m.drop off).take 1,s with
   |[y],.cons A .nil=>
    refine⟨y,?_,A.vr⟩;have E:m[off]?=some y:=by
     have:((m.drop off).take 1)[0]?=some y:=by rw[C];rfl
     simpa [XJ,List.getElem?_drop] using this
    simp[part,tp hi,u,E]
  cases j
def Il(W:ER ρ e a.tmps)(hG:dX ng ρ)(place:Nat->Option (Nat×Nat)):∀(ps:List (Nat×Operand))(qs:List (Nat×Nat×Operand))(l m:List Value)(r:List Value),ps.all (fun p=>cS ng p.2)=true->All2 (fun(p:Nat×Operand) (q:Nat×Nat×Operand)=>place p.1=some (q.1,q.2.1)/\q.2.2=p.2) ps qs->All2 (KR ρ) l m->mK e l qs=some r->∃s:List Value,Instr.fill place ⟨m⟩ (ps.map fun p=>(p.1,a.eval p.2))=some ⟨s⟩/\All2 (KR ρ) r s:=by
 intro ps;induction ps with
 |nil=>
  intro qs l m r _ J A u;cases J;simp only[mK,mL] at u;subst u;exact⟨m,rfl,A⟩
 |cons p ps ih=>
  intro qs l m r G J A u;obtain⟨j,x⟩:=p;cases J with
  | @cons _ q _ qs U E=>
  obtain⟨off,n,y⟩:=q;obtain⟨Z,rfl⟩:=U;simp only[List.all_cons,oD] at G;simp only[mK] at u;split at u
  .rename_i vs Y;split at u
   .rename_i C;simp only[oD] at C;have N:=rz C.1;have I:=Ph C.2;have Q:=Io (W.eval hG G.1) Y;have D:=A.length;have H:=Q.length;have u6:All2 (KR ρ) (bg l off vs) (bg m off (a.eval y).cells.toList):=by unfold bg;rw[<-H];exact((A.take off).app Q).app (A.drop _)
    obtain⟨s,hs,V⟩:=ih qs _ _ r G.2 E u6 u;refine⟨s,?_,V⟩;rw[<-hs];simp only[xX,Instr.fill,Z];have vy:(a.eval y).cells.size=n:=by rw[<-N,H];simp
    rw[bU (by simp[vy];omega)];congr 1;have key:∀(vs:List Value)(k:Nat)(m:List Value),off+k+vs.length<=m.length->(vs.zipIdx k).foldl (fun(cs:Array Value) (x:Value×Nat)=>cs.setIfInBounds (off+x.2) x.1) ⟨m⟩=⟨bg m (off+k) vs⟩:=by
     intro vs;induction vs with
     |nil=>intro k m _;simp[bg]
     |cons v vs ih=>
      intro k m O;simp only[List.zipIdx_cons,List.foldl_cons];have:(Array.setIfInBounds ⟨m⟩ (off+k) v)=⟨m.set (off+k) v⟩:=ae
      rw[this,ih (k+1) (m.set (off+k) v) (by simp at O⊢;omega)];congr 1;simp at O;apply Cy;intro i;rw[iz (by simp;omega),iz (by simp;omega)];by_cases M:off+(k+1)<=i/\i<off+(k+1)+vs.length;rw[bM M,bM (by simp;omega)];rw[show i-(off+k)=(i-(off+(k+1)))+1 by omega];simp;rw[bU M];by_cases K:i=off+k;subst K;rw[bM ae];simp[List.getElem?_set_self (show off+k<m.length by omega)];rw[bU (by simp;omega),List.getElem?_set_ne (Ne.symm K)]
    have:=key (a.eval y).cells.toList 0 m (by rw[gU_,<-H,N,<-D];exact I);rw[<-Array.foldl_toList];simpa using this
   cases u
  cases u
end
def zy:∀ {ks s:List Nat} {a j b u:List Value} {x:Bool},a.length=ks.length->j.length=ks.length->de (ks++s) (a++b) (j++u)=some x->∃y z,de ks a j=some y/\de s b u=some z/\x=(y&&z):=by
 intro ks;induction ks with
 |nil=>
  intro s a j b u x A D h;cases a with
  |cons=>simp at A
  |nil=>cases j with
   |cons=>simp at D
   |nil=>exact⟨true,x,rfl,h,ae⟩
 |cons k ks ih=>
  intro s a j b u x A D h;cases a with
  |nil=>simp at A
  |cons v a=>cases j with
   |nil=>simp at D
   |cons v' j=>
    simp only[List.cons_append,de] at h;cases C:iH k v v' with
    |none=>simp[C] at h
    |some p=>
     cases E:de (ks++s) (a++b) (j++u) with
     |none=>simp[C,E] at h
     |some q=>
      simp only[C,E,mL] at h;obtain⟨y,z,G,H,rfl⟩:=ih (aj A) (aj D) E;refine⟨p&&y,z,by simp[de,C,G],H,?_⟩;rw[<-h,Bool.and_assoc]
def ub:∀ {ks:List Nat} {a b:List Value} {x:Bool},de ks a b=some x->a.length=ks.length/\b.length=ks.length:=by
 intro ks;induction ks with
 |nil=>intro a b x h;cases a with
  |nil=>cases b with
   |nil=>exact⟨rfl,rfl⟩
   |cons=>simp[de] at h
  |cons=>cases b<;>simp[de] at h
 |cons k ks ih=>
  intro a b x h;cases a with
  |nil=>simp[de] at h
  |cons v a=>cases b with
   |nil=>simp[de] at h
   |cons v' b=>
    simp only[de] at h;cases j:iH k v v' with
    |none=>simp[j] at h
    |some p=>
     cases s:de ks a b with
     |none=>simp[j,s] at h
     |some q=>have:=ih s;simp[this.1,this.2]
section
variable{P:Program}{T:ta}{ρ:fJ}
def TG{k:Nat}{v v' c c':Value}{x:Bool}(h:KR ρ v c)(h':KR ρ v' c')(j:iH k v v'=some x):iH k c c'=some x:=by
 have:c=v/\c'=v':=by
  unfold iH at j;split at j
  .cases h with
   |cell h=>cases h;cases h' with
    |cell h'=>cases h';exact⟨rfl,rfl⟩
  .cases h with
   |cell h=>cases h;cases h' with
    |cell h'=>cases h';exact⟨rfl,rfl⟩
  .cases h with
   |cell h=>cases h;cases h' with
    |cell h'=>cases h';exact⟨rfl,rfl⟩
  cases j
 rw[this.1,this.2,j]
def Qp:∀ {ks:List Nat} {l m s u:List Value} {x:Bool},All2 (KR ρ) l m->All2 (KR ρ) s u->de ks l s=some x->de ks m u=some x:=by
 intro ks;induction ks with
 |nil=>
  intro l m s u x h h' j;cases h with
  |nil=>cases h' with
   |nil=>exact j
   |cons=>simp[de] at j
  |cons=>cases h'<;>simp[de] at j
 |cons k ks ih=>
  intro l m s u x h h' j;cases h with
  |nil=>simp[de] at j
  | @cons v c l m D G=>cases h' with
   |nil=>simp[de] at j
   | @cons v' c' s u E H=>
    simp only[de] at j⊢;cases A:iH k v v' with
    |none=>simp[A] at j
    |some p=>
     cases C:de ks l s with
     |none=>simp[A,C] at j
     |some q=>
      rw[TG D E A,ih G H C];simpa [A,C] using j
def valOf(i:TI)(l:List Value):Value:=bif i.agg then .agg ⟨l⟩ else l.headD (.tuple #[])
def Au{t:Nat}{i:TI}(hi:vW P t i){m:List Value}(C:off+i.size<=m.length)(w:World):(part t ⟨m⟩ off).run P w=.ok (valOf i ((m.drop off).take i.size)) w:=by
 cases j:i.agg with
 |true=>
  simp only[part,sy,tp hi,j,rm,if_true,(iu (w:=w) hi).1,xE,valOf,kA];congr 2;simp
 |false=>
  have u:=hi.plain j;have s:off<m.length:=ab
  simp only[part,sy,tp hi,j,rm,valOf,xY,u];rw[List.drop_eq_getElem_cons s];have A:(⟨m⟩:Array Value)[off]?=some m[off]:=by rw[show(⟨m⟩:Array Value)[off]?=m[off]? by simp,g_ s]
  rw[A];rfl
def Xs:∀ {fs:List Field} {off n:Nat},tZ T off fs=some n->off<=n:=by
 intro fs;induction fs with
 |nil=>intro off n h;simp[tZ] at h;omega
 |cons f fs ih=>
  intro off n h;simp only[tZ] at h;cases s:Nat.beq f.offset off with
  |false=>simp[s] at h
  |true=>
   simp only[s,kA] at h;cases j:T f.type with
   |none=>simp[j] at h
   |some i=>simp only[j] at h;have:=ih h;omega
def yd{k:Nat->Option (List Nat)}{f:Field}(h:qk k (f::fs)=some ks):f.name≠ "_" /\∃a b,k f.type=some a/\qk k fs=some b/\ks=a++b:=by
 simp only[qk] at h;cases j:f.name != "_" with
 |false=>simp[j] at h
 |true=>
  simp only[j,kA] at h;refine⟨aj j,?_⟩;split at h;rename_i a b s u;cases h;exact⟨a,b,s,u,rfl⟩;cases h
def zV(ks:List Nat):∀n,(U9 ks n).length=n*ks.length
 |0=>by simp[U9]
 |n+1=>by simp[U9,zV ks n,uP,Nat.add_comm]
def ye:∀ {d t:Nat} {i:TI} {ks:List Nat},T t=some i->eE P T->kinds T d t=some ks->ks.length=i.size:=by
 intro d;induction d with
 |zero=>intro t i ks _ _ h;simp[kinds] at h
 |succ d ih=>
  intro t i ks J H h;have hi:=H t i J;simp only[kinds,J] at h;have C:=hi.agg;split at h
  rename_i A;rw[A] at C;cases h;exact(hi.plain C).symm;rename_i A;rw[A] at C;cases h;exact(hi.plain C).symm;rename_i A;rw[A] at C;cases h;exact(hi.plain C).symm
  .rename_i fs A;split at h
   .rename_i n Q;cases s:Nat.beq n i.size with
    |false=>simp[s] at h
    |true=>
     simp only[s,kA] at h;rw[<-rz s];have key:∀(D:List Field)(off n:Nat)(ks:List Nat),tZ T off D=some n->qk (kinds T d) D=some ks->off+ks.length=n:=by
      intro D;induction D with
      |nil=>intro off n ks u E;simp[tZ] at u;simp[qk] at E;subst E;simpa using u
      |cons f D G=>
       intro off n ks u E;simp only[tZ] at u;cases s:Nat.beq f.offset off with
       |false=>simp[s] at u
       |true=>
        simp only[s,kA] at u;cases I:T f.type with
        |none=>simp[I] at u
        |some j=>
         simp only[I] at u;obtain⟨_,a,b,O,U,rfl⟩:=yd E;have M:=ih I H O;have W:=G _ _ _ u U;rw[LV,M];omega
     have:=key fs.toList 0 n ks Q h;omega
   cases h
  .rename_i n el A;split at h
   .rename_i e N;cases s:Nat.beq (n*e.size) i.size with
    |false=>simp[s] at h
    |true=>
     simp only[s,kA] at h;split at h;rename_i V K;cases h;rw[zV,ih N H K,rz s];cases h
   cases h
  cases h
def XB(N:eE P T):∀(d t:Nat)(i:TI)(s:Nat)(ks:List Nat),T t=some i->kinds T d t=some ks->d<=s->∀(l m:List Value)(x:Bool),de ks l m=some x->∀w,(Op.equalIn s t (valOf i l) (valOf i m)).run P w=.ok x w:=by
 intro d;induction d with
 |zero=>intro t i s ks _ h;simp[kinds] at h
 |succ d ih=>
  intro t i s ks Z u hd l m x E w;obtain⟨s,rfl⟩:∃k,s=k+1:=⟨s-1,ab⟩;have hi:=N t i Z;simp only[kinds,Z] at u;have I:=hi.agg;have one:∀k:Nat,de [k] l m=some x->∃p q,l=[p]/\m=[q]/\iH k p q=some x:=by
   intro k E;obtain⟨M,K⟩:=ub E
   match l,m,M,K with
   |[p],[q],_,_=>
    refine⟨p,q,rfl,rfl,?_⟩;simp only[de] at E;cases A:iH k p q with
    |none=>simp[A] at E
    |some y=>simpa [A] using E
  split at u;rename_i C;rw[C] at I;cases u;obtain⟨p,q,rfl,rfl,A⟩:=one _ E;simp only[valOf,I,rB,xY,List.headD_cons];unfold iH at A;split at A;cases A;exact run_equalIn_bool' w s t _ _ (by rw[hi.u,C]);omega;omega;cases A;rename_i k C;rw[C] at I;cases u;obtain⟨p,q,rfl,rfl,A⟩:=one _ E;simp only[valOf,I,rB,xY,List.headD_cons];unfold iH at A;split at A;omega;split at A;rename_i J;subst J;cases A;exact run_equalIn_int w s t _ k _ _ (by rw[hi.u,C]);cases A;omega;cases A;rename_i C;rw[C] at I;cases u;obtain⟨p,q,rfl,rfl,A⟩:=one _ E;simp only[valOf,I,rB,xY,List.headD_cons];unfold iH at A;split at A;omega;omega;cases A;rw[run_equalIn_string w s t _ _ (by rw[hi.u,C]),beq_toListBytes];cases A
  .rename_i fs C;rw[C] at I;have Y:P.underlying t=some (.struct fs):=by rw[hi.u,C]
   have U:P.fieldsOf t=fs:=by simp[Program.fieldsOf,Y]
   simp only[valOf,I,rB,kA];rw[run_equalIn_struct w s t _ _ (by rw[U];exact Y) (hi.held fs C),U];split at u
   .rename_i n G;cases H:Nat.beq n i.size with
    |false=>simp[H] at u
    |true=>
     simp only[H,kA] at u;have key:∀(O:List Field)(off:Nat)(ks:List Nat),tZ T off O=some n->qk (kinds T d) O=some ks->n=l.length->n=m.length->∀y,de ks (l.drop off) (m.drop off)=some y->∀w,(Op.eqFields s ⟨l⟩ ⟨m⟩ O).run P w=.ok y w:=by
      intro O;induction O with
      |nil=>
       intro off ks G J hn hm y D w;simp only[tZ,mL] at G;simp only[qk,mL] at J;subst J;have M:l.drop off=[]:=XH ab;have K:m.drop off=[]:=XH ab;rw[M,K] at D;simp only[de,mL] at D;subst D;rfl
      |cons f O ihg=>
       intro off ks G J hn hm y D w;simp only[tZ] at G;cases H:Nat.beq f.offset off with
       |false=>simp[H] at G
       |true=>
        simp only[H,kA] at G;have ajd:=rz H;cases Q:T f.type with
        |none=>simp[Q] at G
        |some j=>
         simp only[Q] at G;obtain⟨ab6,a,b,ha,Pm,rfl⟩:=yd J;have hj:=N _ _ Q;have W:=Xs G;have x5:=ye Q N ha;have V:∀z:List Value,z.drop off=(z.drop off).take j.size++z.drop (off+j.size):=by intro z;rw[<-List.drop_drop,List.take_append_drop]
         rw[V l,V m] at D;obtain⟨p,q,hp,hq,rfl⟩:=zy (by simp;omega) (by simp;omega) D;simp only[Op.eqFields,ne_eq,ab6,not_false_eq_true,if_true,sy,ajd,Au hj (m:=l) (show off+j.size<=l.length by omega),Au hj (m:=m) (show off+j.size<=m.length by omega),rm]
         rw[ih f.type j s a Q ha ab _ _ p hp];simp only[rm];cases p with
         |true=>
          simp only[Bool.not_true,XE,if_false,Bool.true_and];exact ihg _ _ G Pm hn hm q hq w
         |false=>simp
     have oK:=ye (d:=d+1) Z N (ks:=ks) (by simp only[kinds,Z,C,G,H,kA];exact u);obtain⟨M,K⟩:=ub E;have hn:=rz H;exact key fs.toList 0 ks G u ab ab x (aj E) w
   cases u
  .rename_i n el C;rw[C] at I;have Y:P.underlying t=some (.array n el):=by rw[hi.u,C]
   simp only[valOf,I,rB,kA];split at u
   .rename_i e lh;cases H:Nat.beq (n*e.size) i.size with
    |false=>simp[H] at u
    |true=>
     simp only[H,kA] at u;split at u
     .rename_i Pv J;cases u;have hE:=N el e lh;obtain⟨ti,Ur,vy,_,_⟩:=hE.info;have hce:P.cellsOf el=e.size:=by rw[<-vy];simp[Program.cellsOf,Ur]
      rw[run_equalIn_array w s ⟨l⟩ ⟨m⟩ Y Ur,hce,List.range_eq_range'];have oK:=ye lh N J;obtain⟨M,K⟩:=ub E;rw[zV,oK] at M K;have key:∀(k j:Nat),j+k=n->∀y,de (U9 Pv k) (l.drop (j*e.size)) (m.drop (j*e.size))=some y->∀w,(Op.eqItems s el e.size ⟨l⟩ ⟨m⟩ (List.range' j k)).run P w=.ok y w:=by
       intro k;induction k with
       |zero=>
        intro j hj y D w;have hz1:l.drop (j*e.size)=[]:=XH (by rw[M];exact CX _ ab);have Wv:m.drop (j*e.size)=[]:=XH (by rw[K];exact CX _ ab);rw[hz1,Wv] at D;simp only[U9,de,mL] at D;subst D;rfl
       |succ k ihk=>
        intro j hj y D w;have W:(j+1)*e.size<=n*e.size:=CX _ ab;rw[uP,Nat.one_mul] at W;have V:∀z:List Value,z.drop (j*e.size)=(z.drop (j*e.size)).take e.size++z.drop ((j+1)*e.size):=by intro z;rw[uP,Nat.one_mul,<-List.drop_drop,List.take_append_drop]
        rw[V l,V m] at D;obtain⟨p,q,hp,hq,rfl⟩:=zy (ks:=Pv) (by simp;omega) (by simp;omega) D;simp only[List.range'_succ,Op.eqItems,sy,Au hE (m:=l) (show j*e.size+e.size<=l.length by omega),Au hE (m:=m) (show j*e.size+e.size<=m.length by omega),rm]
        rw[ih el e s Pv lh J ab _ _ p hp];simp only[rm];cases p with
        |true=>
         simp only[Bool.not_true,XE,if_false,Bool.true_and];exact ihk (j+1) ab q hq w
        |false=>simp
      exact key n 0 ab x (aj E) w
     cases u
   cases u
  cases u
def DG(J:eE P T):∀(d t:Nat)(j:Nat)(ks:List Nat),kinds T d t=some ks->d<=j->P.eqGuardType j t=false:=by
 intro d;induction d with
 |zero=>intro t j ks h;simp[kinds] at h
 |succ d ih=>
  intro t j ks s M;obtain⟨j,rfl⟩:∃k,j=k+1:=⟨j-1,ab⟩;simp only[kinds] at s;split at s;cases s
  .rename_i i K;have hi:=J t i K;simp only[Program.eqGuardType,hi.u];split at s
   rename_i u;rw[u];rename_i u;rw[u];rename_i u;rw[u]
   .rename_i fs u;rw[u];split at s
    .rename_i n O;cases C:Nat.beq n i.size with
     |false=>simp[C] at s
     |true=>
      simp only[C,kA] at s;dsimp only;rw[<-Array.any_toList];have key:∀(A:List Field)(ks:List Nat),qk (kinds T d) A=some ks->(A.any fun f=>f.name != "_" &&P.eqGuardType j f.type)=false:=by
       intro A;induction A with
       |nil=>intro _ _;rfl
       |cons f A E=>
        intro ks D;obtain⟨_,a,b,H,I,_⟩:=yd D;rw[List.any_cons,E b I,ih f.type j a H ab];simp
      exact key _ _ s
    cases s
   .rename_i n el u;rw[u];dsimp only;split at s
    .rename_i e N;cases C:Nat.beq (n*e.size) i.size with
     |false=>simp[C] at s
     |true=>
      simp only[C,kA] at s;split at s;rename_i G D;exact ih el j G D ab;cases s
    cases s
   cases s
end
section
variable{P:Program}{CC:dx}{ρ:fJ}{h:az}{w:World}{T:ta}{ng:Nat}{e:Env}{a:Act}{c:Value}
def VR.eI{k:IntKind}{n:Int}(h:VR ρ (.int k n) c):c=.int k n:=by
 cases h with
 |val h=>cases h with
  |cell h=>cases h with
   |cell h=>cases h;rfl
def VR.nQ{b:Bool}(h:VR ρ (.bool b) c):c=.bool b:=by
 cases h with
 |val h=>cases h with
  |cell h=>cases h with
   |cell h=>cases h;rfl
def VR.Hz{s:ByteArray}(h:VR ρ (.string s) c):c=.string s:=by
 cases h with
 |val h=>cases h with
  |cell h=>cases h with
   |cell h=>cases h;rfl
def VR.D9{b o:Nat}(h:VR ρ (.pointer (some ⟨b,o,none⟩)) c):∃r,ρ b=some r/\c=.pointer (some ⟨r.bZ,r.base+o,none⟩):=by
 cases h with
 |val h=>cases h with
  |cell h=>cases h with
   |cell h=>cases h with
    |ptr h=>exact⟨_,h,rfl⟩
def VR.CE(h:VR ρ (.pointer none) c):c=.pointer none:=by
 cases h with
 |val h=>cases h with
  |cell h=>cases h with
   |cell h=>cases h;rfl
def VR.Jy{x:Addr}(h:VR ρ (.pointer (some x)) c):∃y,c=.pointer (some y):=by
 cases h with
 |val h=>cases h with
  |cell h=>cases h with
   |cell h=>cases h with
    |ptr h=>exact⟨_,rfl⟩
def VR.gm{b o n cp:Nat}(h:VR ρ (.slice (some ⟨b,o,none⟩) n cp) c):∃r ca j,ρ b=some r/\c=.slice (some ca) n j/\ve r o n cp ca j:=by
 cases h with
 |val h=>cases h with
  |cell h=>cases h with
   |cell h=>cases h with
    |slice h s=>exact⟨_,_,_,h,rfl,s⟩
def VR.je(h:VR ρ (.slice none n cp) c):c=.slice none n cp:=by
 cases h with
 |val h=>cases h with
  |cell h=>cases h with
   |cell h=>cases h;rfl
def VR.tx{x:Option Addr}(h:VR ρ (.slice x n cp) c):∃y j,c=.slice y n j/\y.isNone=x.isNone:=by
 cases h with
 |val h=>cases h with
  |cell h=>cases h with
   |cell h=>cases h with
    |fW=>exact⟨_,_,rfl,rfl⟩
    |slice h s=>exact⟨_,_,rfl,rfl⟩
def VR.Hp{x:Option Nat}(h:VR ρ (.map x) c):∃y,c=.map y/\y.isNone=x.isNone:=by
 cases h with
 |val h=>cases h with
  |cell h=>cases h with
   |cell h=>cases h with
    |uv=>exact⟨_,rfl,rfl⟩
    |map h=>exact⟨_,rfl,rfl⟩
def VR.vF(h:VR ρ .nilFunc c):c=.nilFunc:=by
 cases h with
 |val h=>cases h with
  |cell h=>cases h with
   |cell h=>cases h;rfl
def VR.Qx{fn:Fn}{x y:Array Value}(h:VR ρ (.func fn x y) c):∃j s u,c=.func j s u:=by
 cases h with
 |val h=>cases h with
  |cell h=>cases h with
   |cell h=>cases h
   |fn=>exact⟨_,_,_,rfl⟩
   |yield=>exact⟨_,_,_,rfl⟩
def VR.Ni{l:Array Value}(h:VR ρ (.agg l) c):∃m,c=.agg ⟨m⟩/\All2 (KR ρ) l.toList m:=by
 cases h with
 |val h=>cases h with
  |cell h=>exact absurd h.plain.1 (by simp[AI.plain])
  |agg h=>exact⟨_,rfl,h⟩
def VR.aeU(h:VR ρ (.chan (some n)) c):∃m:Nat,c=.int .i64 m/\n<=m:=by
 cases h with
 |val h=>cases h with
  |cell h=>cases h with
   |cell h=>cases h
 |atl h=>exact⟨_,rfl,h⟩
def VR.MW{l:Array Value}(h:VR ρ (.tuple l) c):∃m,c=.tuple ⟨m⟩/\All2 (AR ρ) l.toList m:=by
 cases h with
 |val h=>cases h with
  |cell h=>exact absurd h.plain.1 (by simp[AI.plain])
 |tuple h=>exact⟨_,rfl,h⟩
def VR.agg{l m:List Value}(h:All2 (KR ρ) l m):VR ρ (.agg ⟨l⟩) (.agg ⟨m⟩):=.val (.agg h)
def afZ{x y z:Operand}(S:eM CC ρ h w)(A:ER ρ e a.tmps)(C:dX ng ρ)(G:cS ng x=true)(D:cS ng y=true)(E:cS ng z=true){h':az}(s:c_ e h (.pick x y z)=some (v,h')):Out CC ρ h w v h' (((do pure (.value (if<-asBool (a.eval x) then a.eval y else a.eval z))):Sem Next).run P w):=by
 have u:=A.eval C G;simp only[c_] at s;split at s;rename_i j;cases s;rw[j] at u;rw[u.nQ];exact Out.same S (by simp[asBool]) (A.eval C D);rename_i j;cases s;rw[j] at u;rw[u.nQ];exact Out.same S (by simp[asBool]) (A.eval C E);cases s
def uh{k:IntKind}{t:TypeId}{x y:Int}(j:jc op k x y=some v):(binOp op t (.int k x) (.int k y)).run P w=.ok v w/\VR ρ v v:=by
 cases op<;>simp only[jc] at j<;>first
  |(cases j;exact⟨by simp[binOp,Op.intBits,Op.intCmp,Op.intArith],CR.vr (by constructor)⟩)
  |(split at j
    cases j;rename_i s;cases j;refine⟨?_,CR.vr (by constructor)⟩;simp[binOp,Op.intDiv,s])
  |(cases j;done)
def Em{k s:IntKind}{t:TypeId}{x y:Int}(A:op=.shl\/op=.shr)(j:ov op k x y=some v):(binOp op t (.int k x) (.int s y)).run P w=.ok v w/\VR ρ v v:=by
 unfold ov at j;split at j;cases j;rename_i u;rcases A with rfl|rfl<;>(cases j;refine⟨?_,CR.vr (by constructor)⟩;simp[binOp,Op.shift,u])
def dw(s:p≠ .nilIface)(j:∀l,p≠ .agg l):(eqGuard op t x y p q).run P w=.ok () w:=by
 have u:(match p,q with
  |.nilIface,.nilIface=>False
  |.agg _,.agg _=>False
  |_,_=>True):=by
  cases p<;>first|trivial|(exact absurd rfl s)|(exact absurd rfl (j _))|(cases q<;>trivial)
 cases op<;>first
  |rfl
  |(cases p<;>first|rfl|(exact absurd rfl s)|(exact absurd rfl (j _))|(cases q<;>rfl))
def KL(j:op≠ .eql)(s:op≠ .neq):(eqGuard op t x y p q).run P w=.ok () w:=by unfold eqGuard;cases op<;>first|rfl|(exact absurd rfl j)|(exact absurd rfl s)
def HD(T:ta)(t:Nat)(u:TypeDesc)(ks:List Nat):Prop:=
 (∃el,u=.slice el/\ks=[3])\/(∃el,u=.pointer el/\ks=[4])\/(∃k el,u=.map k el/\ks=[5])\/(∃ps rs vr,u=.func ps rs vr/\ks=[6])\/(∃(_:Unit) (j:List Nat),rB u=true/\kinds T 9 t=some j/\ks=9::j)\/(u=.bool/\ks=[0])\/(∃k,u=.int k/\ks=[1])\/(u=.string/\ks=[2])
section
variable{t:TypeId}{d:Nat}
def gH(s:P.underlying t=some (.slice el))(n m u j:Nat)(y:Option Addr):(Op.equalIn (d+1) t (.slice none n m) (.slice y u j)).run P w=.ok y.isNone w:=by simp only[Op.equalIn,sy,rq s,rm,xE]
def iW(s:P.underlying t=some (.slice el))(n m u j:Nat)(y:Addr):(Op.equalIn (d+1) t (.slice (some y) n m) (.slice none u j)).run P w=.ok false w:=by simp only[Op.equalIn,sy,rq s,rm,xE]
def nf(j:P.underlying t=some (.pointer el))(y:Option Addr):(Op.equalIn (d+1) t (.pointer none) (.pointer y)).run P w=.ok y.isNone w:=by simp only[Op.equalIn,sy,rq j,rm,xE]
def nh(j:P.underlying t=some (.pointer el))(y:Addr):(Op.equalIn (d+1) t (.pointer (some y)) (.pointer none)).run P w=.ok false w:=by simp only[Op.equalIn,sy,rq j,rm,xE]
def LM{k el:TypeId}(j:P.underlying t=some (.map k el))(y:Option Nat):(Op.equalIn (d+1) t (.map none) (.map y)).run P w=.ok y.isNone w:=by simp only[Op.equalIn,sy,rq j,rm,xE]
def mZ{k el:TypeId}(j:P.underlying t=some (.map k el))(y:Nat):(Op.equalIn (d+1) t (.map (some y)) (.map none)).run P w=.ok false w:=by simp only[Op.equalIn,sy,rq j,rm,xE]
def jZ(j:P.underlying t=some (.func ps rs vr)):(Op.equalIn (d+1) t .nilFunc .nilFunc).run P w=.ok true w:=by simp only[Op.equalIn,sy,rq j,rm,xE]
def j1(j:P.underlying t=some (.func ps rs vr))(f:Fn)(x y:Array Value):(Op.equalIn (d+1) t .nilFunc (.func f x y)).run P w=.ok false w:=by simp only[Op.equalIn,sy,rq j,rm,xE]
def j2(j:P.underlying t=some (.func ps rs vr))(f:Fn)(x y:Array Value):(Op.equalIn (d+1) t (.func f x y) .nilFunc).run P w=.ok false w:=by simp only[Op.equalIn,sy,rq j,rm,xE]
end
def j3{b:Bool}(E:∀k n A j,¬(p=.int k n/\q=.int A j))(C:∀k n A j,¬(p=.float k n/\q=.float A j))(D:∀s H,¬(p=.string s/\q=.string H))(G:∀k n m A j J,¬(p=.complex k n m/\q=.complex A j J))(I:(Op.equalIn (9999+1) t p q).run P w=.ok b w):(binOp .eql t p q).run P w=.ok (.bool b) w/\(binOp .neq t p q).run P w=.ok (.bool (!b)) w:=by
 have u:(Op.equal t p q).run P w=.ok b w:=I;constructor
 .unfold binOp;split<;>first
   |(exact absurd ⟨rfl,rfl⟩ (E _ _ _ _))
   |(exact absurd ⟨rfl,rfl⟩ (C _ _ _ _))
   |(exact absurd ⟨rfl,rfl⟩ (D _ _))
   |(exact absurd ⟨rfl,rfl⟩ (G _ _ _ _ _ _))
   |contradiction
   |(simp only[sy,u,rm,xE];done)
 .unfold binOp;split<;>first
   |(exact absurd ⟨rfl,rfl⟩ (E _ _ _ _))
   |(exact absurd ⟨rfl,rfl⟩ (C _ _ _ _))
   |(exact absurd ⟨rfl,rfl⟩ (D _ _))
   |(exact absurd ⟨rfl,rfl⟩ (G _ _ _ _ _ _))
   |contradiction
   |(simp only[sy,u,rm,xE];done)
def LN(M:eE P T){t:Nat}{i:TI}(V:T t=some i)(I:HD T t i.u ks){b:Bool}(A:VR ρ v c)(u:VR ρ v' c')(s:vt ks v v'=some b){x y:Operand}{op:BinOp} :(eqGuard op t x y c c').run P w=.ok () w/\(binOp .eql t c c').run P w=.ok (.bool b) w/\(binOp .neq t c c').run P w=.ok (.bool (!b)) w:=by
 have hi:=M t i V;have E:9<=P.depth:=by unfold Program.depth Made.depth;omega
 unfold vt at s;split at s
 .
  rename_i l l';obtain⟨m,rfl,hm⟩:=A.Ni;obtain⟨m',rfl,K⟩:=u.Ni;rcases I with⟨_,_,rfl⟩|⟨_,_,rfl⟩|⟨_,_,_,rfl⟩|⟨_,_,_,_,rfl⟩|⟨fs,U,j,J,rfl⟩|⟨_,rfl⟩|⟨_,_,rfl⟩|⟨_,rfl⟩;cases s;cases s;cases s;cases s
  .have X0:=Qp hm K s;have Z:i.agg=true:=by rw[hi.agg,j]
   have N:=XB M 9 t i 10000 U V J ab m m' b X0 w;simp only[valOf,Z,kA] at N;refine⟨run_eqGuard_agg w op t x y _ _ (DG M 9 t P.depth U J E),?_,?_⟩;rw[run_eql_struct,N];rfl;rw[run_neq_struct,N];rfl
  cases s;cases s;cases s
 .rename_i Wr;have j:=hi.u;split at s
  .
   have H:∃el,i.u=.slice el:=by rcases I with⟨el,h,_⟩|⟨_,_,h⟩|⟨_,_,_,h⟩|⟨_,_,_,_,h⟩|⟨_,_,_,_,h⟩|⟨_,h⟩|⟨_,_,h⟩|⟨_,h⟩<;>first|exact⟨_,h⟩|(simp at h;done)
   obtain⟨el,G⟩:=H;rw[G] at j;split at s;cases s;rw[A.je];obtain⟨C,W,rfl,D⟩:=u.tx;refine⟨dw ae ae,j3 ae ae ae ae ?_⟩;rw[<-D];first|exact gH j _ _ _ _ _|exact LM j _
   .cases s;obtain⟨C,W,rfl,D⟩:=A.tx;rw[u.je];refine⟨dw ae ae,?_⟩;cases C with
    |none=>simp at D
    |some z=>exact j3 ae ae ae ae (by first|exact gH j _ _ _ _ _|exact iW j _ _ _ _ _|exact nf j _|exact nh j _|exact mZ j _|exact jZ j|exact j1 j _ _ _|exact j2 j _ _ _)
   cases s
  .
   have H:∃el,i.u=.pointer el:=by rcases I with⟨el,_,h⟩|⟨_,h,_⟩|⟨_,_,_,h⟩|⟨_,_,_,_,h⟩|⟨_,_,_,_,h⟩|⟨_,h⟩|⟨_,_,h⟩|⟨_,h⟩<;>first|exact⟨_,h⟩|(simp at h;done)
   obtain⟨el,G⟩:=H;rw[G] at j;split at s
   .rename_i z;cases s;rw[A.CE];cases z with
    |none=>
     rw[u.CE];exact⟨dw ae ae,j3 ae ae ae ae (by first|exact gH j _ _ _ _ _|exact iW j _ _ _ _ _|exact nf j _|exact nh j _|exact mZ j _|exact jZ j|exact j1 j _ _ _|exact j2 j _ _ _)⟩
    |some z=>
     obtain⟨C,rfl⟩:=u.Jy;exact⟨dw ae ae,j3 ae ae ae ae (by first|exact gH j _ _ _ _ _|exact iW j _ _ _ _ _|exact nf j _|exact nh j _|exact mZ j _|exact jZ j|exact j1 j _ _ _|exact j2 j _ _ _)⟩
   cases s;obtain⟨C,rfl⟩:=A.Jy;rw[u.CE];exact⟨dw ae ae,j3 ae ae ae ae (by first|exact gH j _ _ _ _ _|exact iW j _ _ _ _ _|exact nf j _|exact nh j _|exact mZ j _|exact jZ j|exact j1 j _ _ _|exact j2 j _ _ _)⟩;cases s
  .
   have H:∃k el,i.u=.map k el:=by rcases I with⟨el,_,h⟩|⟨_,_,h⟩|⟨_,_,h,_⟩|⟨_,_,_,_,h⟩|⟨_,_,_,_,h⟩|⟨_,h⟩|⟨_,_,h⟩|⟨_,h⟩<;>first|exact⟨_,_,h⟩|(simp at h;done)
   obtain⟨k,el,G⟩:=H;rw[G] at j;split at s
   .cases s;obtain⟨Q,rfl,O⟩:=A.Hp;obtain⟨C,rfl,D⟩:=u.Hp;cases Q with
    |some z=>simp at O
    |none=>
     refine⟨dw ae ae,j3 ae ae ae ae ?_⟩;rw[<-D];first|exact gH j _ _ _ _ _|exact LM j _
   .cases s;obtain⟨Q,rfl,O⟩:=A.Hp;obtain⟨C,rfl,D⟩:=u.Hp;cases Q with
    |none=>simp at O
    |some z=>cases C with
     |some z=>simp at D
     |none=>exact⟨dw ae ae,j3 ae ae ae ae (by first|exact gH j _ _ _ _ _|exact iW j _ _ _ _ _|exact nf j _|exact nh j _|exact mZ j _|exact jZ j|exact j1 j _ _ _|exact j2 j _ _ _)⟩
   cases s
  .
   have H:∃ps rs vr,i.u=.func ps rs vr:=by rcases I with⟨el,_,h⟩|⟨_,_,h⟩|⟨_,_,_,h⟩|⟨_,_,_,h,_⟩|⟨_,_,_,_,h⟩|⟨_,h⟩|⟨_,_,h⟩|⟨_,h⟩<;>first|exact⟨_,_,_,h⟩|(simp at h;done)
   obtain⟨ps,rs,vr,G⟩:=H;rw[G] at j;split at s;cases s;rw[A.vF,u.vF];exact⟨dw ae ae,j3 ae ae ae ae (by first|exact gH j _ _ _ _ _|exact iW j _ _ _ _ _|exact nf j _|exact nh j _|exact mZ j _|exact jZ j|exact j1 j _ _ _|exact j2 j _ _ _)⟩;cases s;obtain⟨_,_,_,rfl⟩:=u.Qx;rw[A.vF];exact⟨dw ae ae,j3 ae ae ae ae (by first|exact gH j _ _ _ _ _|exact iW j _ _ _ _ _|exact nf j _|exact nh j _|exact mZ j _|exact jZ j|exact j1 j _ _ _|exact j2 j _ _ _)⟩;cases s;obtain⟨_,_,_,rfl⟩:=A.Qx;rw[u.vF];exact⟨dw ae ae,j3 ae ae ae ae (by first|exact gH j _ _ _ _ _|exact iW j _ _ _ _ _|exact nf j _|exact nh j _|exact mZ j _|exact jZ j|exact j1 j _ _ _|exact j2 j _ _ _)⟩;cases s
  .
   unfold iH at s;split at s
   .have Y:i.u=.bool:=by rcases I with⟨el,_,h⟩|⟨_,_,h⟩|⟨_,_,_,h⟩|⟨_,_,_,_,h⟩|⟨_,_,_,_,h⟩|⟨h,_⟩|⟨_,_,h⟩|⟨_,h⟩<;>first|exact h|(simp at h;done)
    cases s;rw[A.nQ,u.nQ];rw[Y] at j;exact⟨dw ae ae,j3 ae ae ae ae (run_equalIn_bool' w _ t _ _ j)⟩
   rw[A.eI,u.eI];split at s;rename_i J;subst J;cases s;refine⟨dw ae ae,?_,?_⟩;simp[binOp,Op.intCmp];simp only[binOp,ne_eq,not_true_eq_false,if_false,Op.intCmp,xE];rfl;cases s;cases s;rw[A.Hz,u.Hz];refine⟨dw ae ae,?_,?_⟩;simp[binOp,Op.stringOp,beq_toListBytes];simp[binOp,Op.stringOp,beq_toListBytes];cases s
  cases s
end
section
variable{P:Program}{CC:dx}{ρ:fJ}{h h':az}{w:World}{T:ta}{ng:Nat}{e:Env}{a:Act}{c v:Value}
def UU{t:TypeId}(S:eM CC ρ h w)(I:ER ρ e a.tmps)(M:dX ng ρ)(V:cS ng x=true)(O:cS ng y=true)(E:op≠ .eql/\op≠ .neq)(D:c_ e h (.bin op ks x y)=some (v,h')):Out CC ρ h w v h' (((do pure (Next.value (<-(do eqGuard op t x y (a.eval x) (a.eval y);binOp op t (a.eval x) (a.eval y))))):Sem Next).run P w):=by
 have s:=I.eval M V;have u:=I.eval M O;simp only[c_] at D;split at D
 .rename_i r j;cases D;have key:(binOp op t (a.eval x) (a.eval y)).run P w=.ok v w/\VR ρ v v:=by
   unfold Du at j;split at j;split at j;rename_i C A;rw[C] at s;rw[A] at u;rw[s.eI,u.eI];exact Em (.inl rfl) j;cases j;split at j;rename_i C A;rw[C] at s;rw[A] at u;rw[s.eI,u.eI];exact Em (.inr rfl) j;cases j;exact absurd rfl E.1;exact absurd rfl E.2
   .split at j;rename_i C A;rw[C] at s;rw[A] at u;rw[s.eI,u.eI];split at j;rename_i G;subst G;exact uh j;cases j
    .rename_i K Q C A;rw[C] at s;rw[A] at u;rw[s.eI];obtain⟨m,N,U⟩:=u.aeU;rw[N];split at j
     .rename_i J;cases j;have H:decide (K>(m:Int))=false:=by simp;omega
      have:=uh (op:=.gtr) (t:=t) (k:=.i64) (x:=K) (y:=(m:Int)) (P:=P) (w:=w) (ρ:=ρ) (v:=.bool false) (by simp only[jc];rw[H]);exact this
     cases j
    cases j
   split at j;rename_i C A;rw[C] at s;rw[A] at u;rw[s.eI,u.eI];split at j;rename_i G;subst G;exact uh j;cases j;cases j
  refine Out.same S (fG ?_) key.2;simp only[sy,KL E.1 E.2,rm,key.1]
 cases D
def YW(I:eE P T){i:TI}(S:eM CC ρ h w)(H:ER ρ e a.tmps)(M:dX ng ρ)(Q:cS ng x=true)(O:cS ng y=true)(N:op=.eql\/op=.neq)(K:T t=some i)(J:HD T t i.u ks)(A:c_ e h (.bin op ks x y)=some (v,h')):Out CC ρ h w v h' (((do pure (Next.value (<-(do eqGuard op t x y (a.eval x) (a.eval y);binOp op t (a.eval x) (a.eval y))))):Sem Next).run P w):=by
 have s:=H.eval M Q;have u:=H.eval M O;simp only[c_] at A;split at A
 .rename_i r j;cases A;have key:(eqGuard op t x y (a.eval x) (a.eval y)).run P w=.ok () w/\(binOp op t (a.eval x) (a.eval y)).run P w=.ok v w/\VR ρ v v:=by
   rcases N with rfl|rfl
   .simp only[Du] at j;split at j;rename_i G E;rw[G] at s;rw[E] at u;rw[s.eI,u.eI];split at j;rename_i C;subst C;exact⟨dw ae ae,uh j⟩;cases j
    .split at j;rename_i b D;cases j;have:=LN (w:=w) I K J s u D (x:=x) (y:=y) (op:=.eql);exact⟨this.1,this.2.1,VR.bool _⟩
     cases j
   .simp only[Du] at j;split at j;rename_i G E;rw[G] at s;rw[E] at u;rw[s.eI,u.eI];split at j;rename_i C;subst C;exact⟨dw ae ae,uh j⟩;cases j
    .split at j;rename_i b D;cases j;have:=LN (w:=w) I K J s u D (x:=x) (y:=y) (op:=.neq);exact⟨this.1,this.2.2,VR.bool _⟩
     cases j
  refine Out.same S (fG ?_) key.2.2;simp only[sy,key.1,rm,key.2.1]
 cases A
def apF{op:UnOp}(S:eM CC ρ h w)(C:ER ρ e a.tmps)(D:dX ng ρ)(E:cS ng x=true)(A:c_ e h (.un op x)=some (v,h')):Out CC ρ h w v h' (((do pure (Next.value (<-Op.unary op (a.eval x)))):Sem Next).run P w):=by
 have j:=C.eval D E;simp only[c_] at A;split at A;rename_i r s;cases A;unfold unV at s;split at s;rename_i u;cases s;rw[u] at j;rw[j.eI];exact Out.same S (fG (by simp[Op.unary,Op.intArith])) (VR.int _ _);rename_i u;cases s;rw[u] at j;rw[j.eI];exact Out.same S (fG (by simp[Op.unary,Op.intBits])) (VR.int _ _);rename_i u;cases s;rw[u] at j;rw[j.nQ];exact Out.same S (fG (by simp[Op.unary])) (VR.bool _);cases s;cases A
def afW(G:eE P T){s d:TypeId}{i j:TI}{ks k:IntKind}(M:T s=some i)(I:T d=some j)(A:i.u=.int ks)(C:j.u=.int k)(S:eM CC ρ h w)(J:ER ρ e a.tmps)(N:dX ng ρ)(O:cS ng x=true)(u:c_ e h (.conv k x)=some (v,h')):Out CC ρ h w v h' (((do pure (Next.value (<-convert s d (a.eval x)))):Sem Next).run P w):=by
 have D:=J.eval N O;simp only[c_] at u;split at u;rename_i K;cases u;rw[K] at D;rw[D.eI];have E:=(G s i M).u;rw[A] at E;have H:=(G d j I).u;rw[C] at H;exact Out.same S (fG (by simp[convert,rq E,rq H,Conv.intToInt])) (VR.int _ _)
 cases u
def Es(s:ER ρ e a.tmps)(u:dX ng ρ):∀l:List Operand,l.all (cS ng)=true->All2 (VR ρ) (pr e l) (l.map a.eval)
 |[],_=>.nil
 |x::l,j=>by simp only[List.all_cons,oD] at j;exact .cons (s.eval u j.1) (Es s u l j.2)
def Vn{l m:List Value}(h:All2 (VR ρ) l m):l.all simple=true->All2 (CR ρ) l m:=by
 induction h with
 |nil=>intro _;exact .nil
 |cons h _ ih=>
  intro j;simp only[List.all_cons,oD] at j;exact .cons (CR.Fu h j.1) (ih j.2)
def afY{f:FuncId}{first caps:Array Operand}(S:eM CC ρ h w)(u:ER ρ e a.tmps)(G:dX ng ρ)(C:first.isEmpty=true)(H:caps.toList.all (cS ng)=true)(j:c_ e h (.uk f caps.toList)=some (v,h')):Out CC ρ h w v h' (((do pure (Next.value (<-Instr.makeFunc (.func f) (first.map a.eval) (caps.map a.eval)))):Sem Next).run P w):=by
 have E:=Es u G caps.toList H;simp only[c_] at j;cases s:(pr e caps.toList).all simple with
 |false=>simp[s] at j
 |true=>
  simp only[s,kA,mL,Aj] at j;obtain⟨rfl,rfl⟩:=j;have D:first= #[]:=aj C
  subst D;refine Out.same S (c:=.func (.func f) #[] ⟨caps.toList.map a.eval⟩) (fG ?_) (KR.fn f (Vn E s)).vr;have A:caps.map a.eval=⟨caps.toList.map a.eval⟩:=by apply Array.ext';simp
  simp[Instr.makeFunc,A]
def YY(S:eM CC ρ h w)(C:ER ρ e a.tmps)(G:dX ng ρ)(H:cS ng x=true){ty:TypeId}{pos:String}{u:Array Edge}{D:Option (Nat×Bool)}{dst:Option Tmp}(s:c_ e h (.yk x)=some (v,h')):Out CC ρ h w v h' ((execOp a.eval { dst:=dst,op:=.nilCheck x,type:=ty,pos:=pos,after:=u,guard:=D }).run P w):=by
 have j:=C.eval G H;simp only[c_] at s;split at s;rename_i y E;cases s;rw[E] at j;obtain⟨z,A⟩:=j.Jy;refine Out.same S (c:=.pointer (some z)) ?_ (by rw[A] at j;exact j);simp[execOp,A];cases s
def aj5(S:eM CC ρ h w)(D:ER ρ e a.tmps)(J:dX ng ρ)(K:cS ng x=true)(j:c_ e h (.ext i x)=some (v,h')):Out CC ρ h w v h' (((do pure (Next.value (<-Instr.extract (a.eval x) i))):Sem Next).run P w):=by
 have s:=D.eval J K;simp only[c_] at j;split at j
 .rename_i l H;split at j
  .rename_i u E;cases j;rw[H] at s;obtain⟨m,A,C⟩:=s.MW;obtain⟨c,I,G⟩:=C.get E;rw[A];refine Out.same S (c:=c) (fG ?_) (.val G);have:(⟨m⟩:Array Value)[i]?=some c:=by rw[<-I];simp
   simp[Instr.extract,this]
  cases j
 cases j
def aj6(C:eE P T){i:TI}(G:T t=some i)(E:i.u=.slice el){ty:TypeId}(S:eM CC ρ h w)(u:ER ρ e a.tmps)(H:dX ng ρ)(I:cS ng x=true)(j:c_ e h (.nu x)=some (v,h')):Out CC ρ h w v h' (((do pure (Next.value (<-Builtin.len_ #[t] ty #[a.eval x]))):Sem Next).run P w):=by
 have s:=u.eval H I;have hi:=(C t i G).u;rw[E] at hi;simp only[c_] at j;split at j
 rename_i D;cases j;rw[D] at s;obtain⟨y,J,A,_⟩:=s.tx;rw[A];exact Out.same S (fG (by simp[Builtin.len_,rq hi,goInt])) (VR.int _ _);cases j
def aj4(J:eE P T){i:TI}(K:T t=some i)(Q:i.u=.slice el){ty:TypeId}(S:eM CC ρ h w)(M:ER ρ e a.tmps)(V:dX ng ρ)(U:cS ng x=true)(s:c_ e h (.Tn x)=some (v,h')):Out CC ρ h w v h' (((do pure (Next.value (<-Builtin.cap_ #[t] ty #[a.eval x]))):Sem Next).run P w):=by
 have u:=M.eval V U;have hi:=(J t i K).u;rw[Q] at hi;simp only[c_] at s;split at s
 rename_i C;cases s;rw[C] at u;rw[u.je];exact Out.same S (fG (by simp[Builtin.cap_,rq hi,goInt])) (VR.int _ _)
 .rename_i b off len cp C;rw[C] at u;obtain⟨r,ca,j,O,W,H⟩:=u.gm;rw[W];split at s
  .rename_i cs Y o st I;have G:=S.obj b r _ O I;obtain⟨fK,Z,fr,_,_,N,_⟩:=G;have D:(Builtin.cap_ #[t] ty #[.slice (some ca) len j]).run P w=.ok (.int .i64 j) w:=by simp[Builtin.cap_,rq hi,goInt]
   cases E:Nat.beq o 0 with
   |true=>
    simp only[E,if_true] at s;cases s;have A:=rz E;have:j=cp:=by rcases H.2.1 with h|⟨h,_⟩;exact h;exact absurd (N.trans A) h
    rw[this] at D⊢;exact Out.same S (fG D) (VR.int _ _)
   |false=>
    simp only[E,XE,if_false] at s;cases s;have:cp<=j:=by rcases H.2.1 with h|⟨_,h,_⟩;omega;exact h
    exact Out.same S (fG D) (.atl this)
  cases s
 cases s
def af0(A:eE P T){i:TI}(E:T t=some i)(D:i.u=.string){ty:TypeId}(S:eM CC ρ h w)(u:ER ρ e a.tmps)(G:dX ng ρ)(H:cS ng x=true)(j:c_ e h (.JS x)=some (v,h')):Out CC ρ h w v h' (((do pure (Next.value (<-Builtin.len_ #[t] ty #[a.eval x]))):Sem Next).run P w):=by
 have s:=u.eval G H;have hi:=(A t i E).u;rw[D] at hi;simp only[c_] at j;split at j
 rename_i C;cases j;rw[C] at s;rw[s.Hz];exact Out.same S (fG (by simp[Builtin.len_,rq hi,goInt])) (VR.int _ _);cases j
def ac5(A:eE P T){i C:TI}{fs:Array Field}{f:Field}{k:Nat}(K:T t=some i)(J:i.u=.struct fs)(E:fs[k]?=some f)(s:T f.type=some C)(G:C.size≠0)(S:eM CC ρ h w)(D:ER ρ e a.tmps)(N:dX ng ρ)(O:cS ng x=true)(j:c_ e h (.cq f.offset x)=some (v,h')):Out CC ρ h w v h' (((do pure (Next.value (<-Instr.fieldAt t (a.eval x) k))):Sem Next).run P w):=by
 have u:=D.eval N O;have hi:=(A t i K).u;rw[J] at hi;simp only[c_] at j;split at j
 rename_i b o I;cases j;rw[I] at u;obtain⟨r,H,M⟩:=u.D9;rw[M];refine Out.same S (c:=.pointer (some ⟨r.bZ,r.base+(o+f.offset),none⟩)) (fG ?_) (CR.ptr H).vr;simp[Instr.fieldAt,rq hi,E,Instr.sureAddr,fieldPlace,(iu (w:=w) (A _ _ s)).1,G,qu,EV];cases j
def Jj(E:eE P T){i u:TI}(Q:T t=some i)(W:i.u=.slice el)(Y:T el=some u)(S:eM CC ρ h w)(G:ER ρ e a.tmps)(I:dX ng ρ)(Z:cS ng x=true)(U:cS ng y=true)(j:c_ e h (.fw none u.size x y)=some (v,h')):Out CC ρ h w v h' (((do pure (Next.value (<-Instr.indexAt t (a.eval x) (a.eval y)))):Sem Next).run P w):=by
 have H:=G.eval I Z;have D:=G.eval I U;have hi:=(E t i Q).u;rw[W] at hi;simp only[c_] at j;split at j
 .rename_i k n N;split at j;contradiction
  .rename_i b o len cp _ J;by_cases C:n<len
   .have s:Nat.blt n len=true:=by simp[Nat.blt_eq];exact C
    simp only[s,if_true,mL,Aj] at j;obtain⟨rfl,rfl⟩:=j;rw[N] at D;rw[J] at H;rw[D.eI];obtain⟨r,ca,cc,V,hc,⟨O,K,hle⟩⟩:=H.gm;rw[hc];have A:ca=⟨r.bZ,r.base+o,none⟩:=by rcases O with h|⟨_,h⟩;exact h;omega
    subst A;refine Out.same S (c:=.pointer (some ⟨r.bZ,r.base+(o+n*u.size),none⟩)) (fG ?_) (CR.ptr V).vr;have M:(0:Int)<=Int.ofNat n/\Int.ofNat n<(len:Int):=⟨Int.natCast_nonneg n,by exact Int.ofNat_lt.2 C⟩;simp only[Instr.indexAt,asIntOf,sy,xE,rm,rq hi];rw[bM M];simp[(iu (w:=w) (E _ _ Y)).1,qu,EV]
   .have s:Nat.blt n len=false:=by
     cases s:Nat.blt n len with
     |false=>rfl
     |true=>exact absurd (by simpa [Nat.blt_eq] using s) C
    simp[s] at j
  cases j
 cases j
def Ji(D:eE P T){i u:TI}(M:T t=some i)(U:i.u=.array m el)(V:T el=some u)(S:eM CC ρ h w)(E:ER ρ e a.tmps)(H:dX ng ρ)(W:cS ng x=true)(O:cS ng y=true)(j:c_ e h (.fw (some m) u.size x y)=some (v,h')):Out CC ρ h w v h' (((do pure (Next.value (<-Instr.indexAt t (a.eval x) (a.eval y)))):Sem Next).run P w):=by
 have G:=E.eval H W;have C:=E.eval H O;have hi:=(D t i M).u;rw[U] at hi;simp only[c_] at j;split at j
 .rename_i k n K;split at j
  .rename_i Z b o N I;cases N;by_cases A:n<m
   .have s:Nat.blt n m=true:=by simp[Nat.blt_eq];exact A
    simp only[s,if_true,mL,Aj] at j;obtain⟨rfl,rfl⟩:=j;rw[K] at C;rw[I] at G;rw[C.eI];obtain⟨r,Q,Y⟩:=G.D9;rw[Y];refine Out.same S (c:=.pointer (some ⟨r.bZ,r.base+(o+n*u.size),none⟩)) (fG ?_) (CR.ptr Q).vr;have J:(0:Int)<=Int.ofNat n/\Int.ofNat n<(m:Int):=⟨Int.natCast_nonneg n,by exact Int.ofNat_lt.2 A⟩;simp only[Instr.indexAt,asIntOf,sy,xE,rm,rq hi,Instr.sureAddr];rw[bM J];simp[(iu (w:=w) (D _ _ V)).1,qu,EV]
   .have s:Nat.blt n m=false:=by
     cases s:Nat.blt n m with
     |false=>rfl
     |true=>exact absurd (by simpa [Nat.blt_eq] using s) A
    simp[s] at j
  contradiction;cases j
 cases j
def Oz(H:eE P T){i:TI}(N:T t=some i)(J:i.u=.string)(S:eM CC ρ h w)(A:ER ρ e a.tmps)(D:dX ng ρ)(O:cS ng x=true)(G:cS ng y=true)(j:c_ e h (.index none x y)=some (v,h')):Out CC ρ h w v h' (((do pure (Next.value (<-Instr.index t (a.eval x) (a.eval y)))):Sem Next).run P w):=by
 have u:=A.eval D O;have C:=A.eval D G;have hi:=(H t i N).u;rw[J] at hi;simp only[c_] at j;split at j
 .rename_i k n I;split at j;contradiction
  .rename_i s _ E;split at j;rename_i b M;cases j;rw[I] at C;rw[E] at u;rw[C.eI,u.Hz];refine Out.same S (fG ?_) (VR.int _ _);have K:(0:Int)<=Int.ofNat n:=Int.natCast_nonneg n;simp only[Instr.index,asIntOf,sy,xE,rm,rq hi];simp only[K,if_true];have:(Int.ofNat n).toNat=n:=rfl;rw[this,M];rfl
   cases j
  cases j
 cases j
def Oy(C:eE P T){i D:TI}(V:T t=some i)(hu:i.u=.array len el)(K:T el=some D)(S:eM CC ρ h w)(I:ER ρ e a.tmps)(M:dX ng ρ)(hx:cS ng x=true)(Z:cS ng y=true)(j:c_ e h (.index (some (len,D.size,Df D)) x y)=some (v,h')):Out CC ρ h w v h' (((do pure (Next.value (<-Instr.index t (a.eval x) (a.eval y)))):Sem Next).run P w):=by
 have J:=I.eval M hx;have G:=I.eval M Z;have hi:=(C t i V).u;rw[hu] at hi;simp only[c_] at j;split at j
 .rename_i k n U;split at j
  .rename_i H W n' l Y N;cases Y;by_cases E:n<len
   .have s:Nat.blt n len=true:=by simp[Nat.blt_eq];exact E
    simp only[s,if_true] at j;split at j;rename_i u A;cases j;rw[U] at G;rw[N] at J;rw[G.eI];obtain⟨m,hm,O⟩:=J.Ni;obtain⟨c,hc,hr⟩:=adb (w:=w) (C _ _ K) O A;rw[hm];refine Out.same S (c:=c) (fG ?_) hr;have Q:(0:Int)<=Int.ofNat n/\Int.ofNat n<(len:Int):=⟨Int.natCast_nonneg n,by exact Int.ofNat_lt.2 E⟩;simp only[Instr.index,asIntOf,sy,xE,rm,rq hi];rw[bM Q];simp only[sy,(iu (w:=w) (C _ _ K)).1,rm];exact hc
    cases j
   .have s:Nat.blt n len=false:=by
     cases s:Nat.blt n len with
     |false=>rfl
     |true=>exact absurd (by simpa [Nat.blt_eq] using s) E
    simp[s] at j
  contradiction;cases j
 cases j
end
section
variable{P:Program}{CC:dx}{ρ:fJ}{h h':az}{w:World}{T:ta}{ng:Nat}{e:Env}{a:Act}{c v:Value}
def ac6(E:eE P T){i:TI}(K:T t=some i)(S:eM CC ρ h w)(C:ER ρ e a.tmps)(N:dX ng ρ)(O:cS ng x=true)(j:c_ e h (.load (Df i) x)=some (v,h')):Out CC ρ h w v h' (((do pure (Next.value (<-Instr.loadAt t (a.eval x)))):Sem Next).run P w):=by
 have A:=C.eval N O;simp only[c_] at j;split at j;rename_i b off H;split at j;rename_i cs D;split at j;rename_i u I;cases j;rw[H] at A;obtain⟨r,G,M⟩:=A.D9;obtain⟨c,J,s⟩:=WK S (E t i K) G D I;rw[M];exact Out.same S (c:=c) (fG (by simp[Instr.loadAt,Instr.sureAddr,J])) s;cases j;cases j;cases j
def YZ(H:eE P T){i:TI}(K:T t=some i)(S:eM CC ρ h w)(s:ER ρ e a.tmps)(A:dX ng ρ)(Q:cS ng x=true)(M:cS ng y=true)(j:c_ e h (.store i.size x y)=some (v,h')):Out CC ρ h w v h' (((do Instr.storeAt t (a.eval x) (a.eval y);pure Next.skip):Sem Next).run P w):=by
 have u:=s.eval A Q;have D:=s.eval A M;simp only[c_] at j;split at j
 rename_i b off I;split at j;rename_i vs C;split at j;rename_i O;split at j;rename_i W G;cases j;rw[I] at u;obtain⟨r,N,V⟩:=u.D9;obtain⟨w',J,U,E⟩:=ac8 S (H t i K) N D C (rz O) G;rw[V];refine⟨ρ,w',undef,.inr ⟨rfl,?_⟩,VR.undef,U,E⟩;simp[Instr.storeAt,Instr.sureAddr,J];cases j;cases j;cases j;cases j
def Dv(x:Sem α)(f:α->β):(f <$> x).run P w=(x.run P w).andThen fun y w'=>.ok (f y) w':=Sem.run_map P w x f
def Nl(f:α->Sem β)(g:α->β)(l:Array α)(C:∀x∈l.toList,(f x).run P w=.ok (g x) w):(l.mapM f).run P w=.ok (l.map g) w:=by
 have key:∀(m:List α)(j:Array β),(∀x∈m,(f x).run P w=.ok (g x) w)->(m.foldlM (fun A x=>A.push <$> f x) j).run P w=.ok (j++(m.map g).toArray) w:=by
  intro m;induction m with
  |nil=>intro j _;simp
  |cons x m ih=>
   intro j s;simp only[List.foldlM_cons,sy,Dv,s x ae,rm];rw[ih _ (fun y u=>s y (au u))];congr 1;apply Array.ext';simp
 rw[Array.mapM_eq_foldlM,<-Array.foldlM_toList];rw[key l.toList #[] C];congr 1;apply Array.ext';simp
def U0 :∀ {ps:List (Nat×Operand)} {qs:List (Nat×Nat×Operand)},yp T fs ps=some qs->(fs.all fun f=>(T f.type).isSome)=true->All2 (fun(p:Nat×Operand) (q:Nat×Nat×Operand)=>((fs.map fun f=>(f.offset,((T f.type).map (·.size)).getD 0)).toArray[p.1]?)=some (q.1,q.2.1)/\q.2.2=p.2) ps qs:=by
 intro ps;induction ps with
 |nil=>intro qs h _;simp only[yp,mL] at h;subst h;exact .nil
 |cons p ps ih=>
  intro qs h C;obtain⟨j,x⟩:=p;simp only[yp] at h;split at h;cases h;rename_i f s;split at h;rename_i D l A u;cases h;refine .cons ⟨?_,rfl⟩ (ih u C);simp[s,A];cases h
def Hc(H:eE P T){i:TI}{fs:Array Field}{ps:Array (Nat×Operand)}{qs:List (Nat×Nat×Operand)}(Q:T t=some i)(Y:i.u=.struct fs)(J:(fs.toList.all fun f=>(T f.type).isSome)=true)(M:yp T fs.toList ps.toList=some qs)(S:eM CC ρ h w)(V:ER ρ e a.tmps)(Z:dX ng ρ)(hx:(ps.toList.map (·.2)).all (cS ng)=true)(A:c_ e h (.build i.zero qs)=some (v,h')):Out CC ρ h w v h' (((do pure (Next.value (<-Instr.build t (ps.map fun p=>(p.1,a.eval p.2))))):Sem Next).run P w):=by
 have hi:=H t i Q;have j:=hi.u;rw[Y] at j;simp only[c_] at A;split at A
 .rename_i cs O;cases A;obtain⟨z,U,Yh⟩:=Eu (w:=w) hi;obtain⟨s,I,K⟩:=Il (ρ:=ρ) (a:=a) (ng:=ng) V Z _ ps.toList qs i.zero i.zero cs (by simpa [List.all_map] using hx) (U0 M J) (fy hi.zero) O;refine Out.same S (c:=.agg ⟨s⟩) (fG ?_) (VR.agg K);have N:(fs.mapM fun f=>(do pure (f.offset,<-sizeOf f.type):Sem (Nat×Nat))).run P w=.ok (fs.map fun f=>(f.offset,((T f.type).map (·.size)).getD 0)) w:=by refine Nl _ _ fs ?_;intro f W;have E:=List.all_eq_true.1 J f W;obtain⟨fi,u⟩:=Option.isSome_iff_exists.1 E;simp[(iu (w:=w) (H _ _ u)).1,u]
  have G:z.cells=⟨i.zero⟩:=by apply Array.ext';simpa using Yh
  have C:(ps.map fun p=>(p.1,a.eval p.2)).toList=ps.toList.map fun p=>(p.1,a.eval p.2):=ae
  have D:(fs.toList.map fun f=>(f.offset,((T f.type).map (·.size)).getD 0)).toArray=fs.map fun f=>(f.offset,((T f.type).map (·.size)).getD 0):=by apply Array.ext';simp
  rw[D] at I;simp only[Instr.build,sy,U,rm,rq j,N,G,C,I,xE]
 cases A
def xM{el:TI} :∀ps:List (Nat×Operand),All2 (fun(p:Nat×Operand) (q:Nat×Nat×Operand)=>(fun i=>some (i*el.size,el.size)) p.1=some (q.1,q.2.1)/\q.2.2=p.2) ps (ps.map fun p=>(p.1*el.size,el.size,p.2))
 |[]=>.nil
 |_::ps=>.cons ⟨rfl,rfl⟩ (xM ps)
def Jh(E:eE P T){i j:TI}{ps:Array (Nat×Operand)}(M:T t=some i)(K:i.u=.array n el)(N:T el=some j)(S:eM CC ρ h w)(G:ER ρ e a.tmps)(V:dX ng ρ)(Q:(ps.toList.map (·.2)).all (cS ng)=true)(A:c_ e h (.build i.zero (ps.toList.map fun p=>(p.1*j.size,j.size,p.2)))=some (v,h')):Out CC ρ h w v h' (((do pure (Next.value (<-Instr.build t (ps.map fun p=>(p.1,a.eval p.2))))):Sem Next).run P w):=by
 have hi:=E t i M;have u:=hi.u;rw[K] at u;simp only[c_] at A;split at A
 .rename_i cs J;cases A;obtain⟨z,I,U⟩:=Eu (w:=w) hi;obtain⟨s,O,H⟩:=Il (ρ:=ρ) (a:=a) (ng:=ng) G V (fun i=>some (i*j.size,j.size)) ps.toList _ i.zero i.zero cs (by simpa [List.all_map] using Q) (xM (el:=j) ps.toList) (fy hi.zero) J;refine Out.same S (c:=.agg ⟨s⟩) (fG ?_) (VR.agg H);have D:z.cells=⟨i.zero⟩:=by apply Array.ext';simpa using U
  have C:(ps.map fun p=>(p.1,a.eval p.2)).toList=ps.toList.map fun p=>(p.1,a.eval p.2):=ae
  simp only[Instr.build,sy,I,rm,rq u,(iu (w:=w) (E _ _ N)).1,D,C,O,xE]
 cases A
def qS(z:List Value):∀n,(jn z n).length=n*z.length
 |0=>by simp[jn]
 |n+1=>by rw[jn,LV,qS z n,uP];omega
def RH(z:List Value):∀(n i:Nat),i<n*z.length->(jn z n)[i]?=z[i%z.length]?
 |0,i,h=>by simp at h
 |n+1,i,h=>by
  have j:0<z.length:=by
   cases j:z.length with
   |zero=>rw[j] at h;simp at h
   |succ k=>omega
  rw[jn];by_cases hi:i<z.length;rw[Iw hi,Nat.mod_eq_of_lt hi]
  .rw[Ke ab,RH z n _ (by rw[uP] at h;omega)];congr 1
   conv=>rhs;rw[show i=(i-z.length)+z.length by omega,Nat.add_mod_right]
def Az{z:List Value}(u:0<z.length\/n=0):(jn z n)=((Array.range (n*z.length)).map (fun i=>(⟨z⟩:Array Value)[i%z.length]!)).toList:=by
 apply Cy;intro i;by_cases hi:i<n*z.length
 .have j:0<z.length:=by rcases u with h|h;exact h;subst h;simp at hi
  have s:i%z.length<z.length:=Nat.mod_lt _ j;rw[RH z n i hi];simp[hi,s,getElem!_def]
 rw[wY (by rw[qS];omega),wY (by simp;omega)]
def jr{z:List Value}(j:z.all du=true):∀n,(jn z n).all du=true
 |0=>rfl
 |n+1=>by rw[jn,List.all_append,j,jr j n];rfl
def YX(J:eE P T){i j:TI}{ps:Array (Nat×Operand)}(Y:T t=some i)(hu:i.u=.slice el)(lh:T el=some j)(hn:n*j.size<=1000000)(S:eM CC ρ h w)(hE:ER ρ e a.tmps)(hG:dX ng ρ)(hx:(ps.toList.map (·.2)).all (cS ng)=true)(H:c_ e h (.fm n (jn j.zero n) (ps.toList.map fun p=>(p.1*j.size,j.size,p.2)))=some (v,h')):Out CC ρ h w v h' (((do pure (Next.value (<-Instr.buildSlice t n (ps.map fun p=>(p.1,a.eval p.2))))):Sem Next).run P w):=by
 have hi:=J t i Y;have u:=hi.u;rw[hu] at u;have A:=J _ _ lh;simp only[c_] at H;split at H
 .rename_i cs U;cases H;obtain⟨z,Z,Yh⟩:=Eu (w:=w) A;have E:z.cells=⟨j.zero⟩:=by apply Array.ext';simpa using Yh
  have G:=A.len;obtain⟨s,I,O⟩:=Il (ρ:=ρ) (a:=a) (ng:=ng) hE hG (fun i=>some (i*j.size,j.size)) ps.toList _ _ _ cs (by simpa [List.all_map] using hx) (xM (el:=j) ps.toList) (fy (jr A.zero n)) U;obtain⟨im,g1,Q,_,_,_,K,M⟩:=D4 (cj:=[]) S O el 0 (fun h=>absurd rfl h);rw[Bc] at K M;refine⟨_,_,.slice (some ⟨w.heap.size,0,none⟩) n n,.inl (fG ?_),?_,K,M⟩
  .have D:(ps.map fun p=>(p.1,a.eval p.2)).toList=ps.toList.map fun p=>(p.1,a.eval p.2):=ae
   by_cases C:n*j.size=0
   .have hr:jn j.zero n=[]:=Wg (by rw[qS,G];exact C);rw[hr] at I;simp only[Instr.buildSlice,sy,rq u,rm,(iu (w:=w) A).1,Sem.run_ite,C,if_true,xE,D];have he:((Array.range 0).map fun i=>(#[]:Array Value)[i%(#[]:Array Value).size]!)=⟨[]⟩:=by apply Array.ext';simp
    rw[he,I];rfl
   .have gX:¬(n*j.size>2^24):=ab
    have N:=Az (z:=j.zero) (n:=n) (by
     by_cases W:0<j.zero.length;exact .inl W
     .right;have:j.zero.length=0:=ab
      rw[G] at this;rw[this] at C;simp at C)
    rw[G] at N;have V:z.cells.size=j.size:=by rw[E];simpa using G
    have X9:((Array.range (n*j.size)).map fun i=>(⟨j.zero⟩:Array Value)[i%j.size]!)=⟨jn j.zero n⟩:=by apply Array.ext';rw[<-N]
    simp only[Instr.buildSlice,sy,rq u,rm,(iu (w:=w) A).1,Sem.run_ite,gX,if_false,C,Z,xE,D,V];rw[E,X9,I];rfl
  refine(CR.slice (xC _ _ _) ⟨.inl ?_,.inl rfl,fh _⟩).vr;rw[g1,Q]
 cases H
def UW(K:eE P T){i j:TI}(ma:T t=some i)(hu:i.u=.slice el)(lh:T el=some j)(S:eM CC ρ h w)(N:ER ρ e a.tmps)(U:dX ng ρ)(hx:cS ng x=true)(hy:cS ng y=true)(s:c_ e h (.gG j.zero j.bytes x y)=some (v,h')):Out CC ρ h w v h' (((do pure (Next.value (<-Instr.makeSlice t (a.eval x) (a.eval y)))):Sem Next).run P w):=by
 have hi:=K t i ma;have u:=hi.u;rw[hu] at u;have C:=K _ _ lh;have O:=N.eval U hx;have J:=N.eval U hy;simp only[c_] at s;split at s
 .rename_i l c h1 Y;split at s
  .rename_i Q;cases s;simp only[oD] at Q;obtain⟨⟨⟨A,H⟩,G⟩,D⟩:=Q;have A:=Ph A;have H:=Ph H;have D:=Ph D;have G:0<j.zero.length:=by simpa [Nat.blt_eq] using G
   rw[h1] at O;rw[Y] at J;rw[O.eI,J.eI];obtain⟨V,W,k2,k3,z,k4,k5⟩:=C.info;have I:z.cells=⟨j.zero⟩:=by apply Array.ext';simpa using k5
   have M:=run_make (P:=P) w t el V z u W k4 .i64 .i64 (Int.ofNat l) (Int.ofNat c) (Int.natCast_nonneg l) (Int.ofNat_le.2 A)
    (by rw[k3];show(j.bytes:Int)*(c:Int)<=_;rw[<-Int.natCast_mul,Nat.mul_comm];exact Int.le_trans (Int.ofNat_le.2 H) ag) (by show(c:Int)<=_;exact Int.le_trans (Int.ofNat_le.2 D) ag)
   have E:madeCells z.cells ((Int.ofNat c).toNat*V.size)=⟨jn j.zero c++[]⟩:=by apply Array.ext';rw[Bc,Az (.inl G),I];simp[madeCells,k2,C.len]
   rw[E] at M;obtain⟨im,g1,Z,_,_,_,g7,g8⟩:=D4 (cj:=[]) S (fy (jr C.zero c)) el 0 (fun h=>absurd rfl h);refine⟨_,_,.slice (some ⟨w.heap.size,0,none⟩) l c,.inl (fG M),?_,g7,g8⟩;refine(CR.slice (xC _ _ _) ⟨.inl ?_,.inl rfl,A⟩).vr;rw[g1,Z]
  cases s
 cases s
end
def xQ :Nat.blt m n=true↔m<n:=by simp[Nat.blt_eq]
section
variable{P:Program}{CC:dx}{ρ:fJ}{h h':az}{w:World}{T:ta}{ng:Nat}{e:Env}{a:Act}{c v:Value}
def Ae{j n:Nat}{d:Nat}(D:ER ρ e a.tmps)(I:dX ng ρ)(J:cS ng x=true)(s:bound e (some x) d j=some n)(u:BoundsCode){y:Nat}(K:j<=y):n<=j/\(Instr.sliceBound (a.eval x) y u).run P w=.ok n w:=by
 have C:=D.eval I J;simp only[bound] at s;split at s
 .rename_i k i G;split at s;rename_i E;cases s;have A:=Ph E;refine⟨A,?_⟩;rw[G] at C;rw[C.eI];have H:(0:Int)<=Int.ofNat n/\Int.ofNat n<=(y:Int):=⟨Int.natCast_nonneg n,Int.ofNat_le.2 ab⟩;simp only[Instr.sliceBound,asIntOf,sy,xE,rm];rw[bM H];rfl
  cases s
 cases s
def HX(K:ER ρ e a.tmps)(N:dX ng ρ)(Z:(lo.toList).all (cS ng)=true)(W:(hi.toList).all (cS ng)=true)(V:(mx.toList).all (cS ng)=true)(U:(mx.isSome&&hi.isNone)=false){len s ccap m j l:Nat}(I:s<=ccap)(J:bound e mx s s=some m)(H:bound e hi len m=some j)(M:bound e lo 0 j=some l):∃u,(Instr.sliceBounds true len ccap (lo.map a.eval) (hi.map a.eval) (mx.map a.eval)).run P w=.ok (l,j,u) w/\l<=j/\(hi.isSome->j<=m)/\((mx.isSome/\u=m/\m<=s)\/(mx=none/\m=s/\u=ccap)):=by
 have key:∀(u:Nat),m<=u->(mx.isSome->u=m)->(match mx.map a.eval with
   |some v=>Instr.sliceBound v ccap (if true then .slice3Acap else .slice3Alen)
   |none=>(pure ccap:Sem Nat)).run P w=.ok u w->(Instr.sliceBounds true len ccap (lo.map a.eval) (hi.map a.eval) (mx.map a.eval)).run P w=.ok (l,j,u) w/\l<=j/\(hi.isSome->j<=m):=by
  intro u X9 hmx' D;have C:(match hi.map a.eval,mx.map a.eval with
    |some v,some _=>Instr.sliceBound v u .slice3B
    |some v,none=>Instr.sliceBound v u (if true then .sliceAcap else .sliceAlen)
    |none,none=>(pure len:Sem Nat)
    |none,some _=>stuck "Slice: max without high").run P w=.ok j w/\(hi.isSome->j<=m):=by
   cases hi with
   |none=>
    cases mx with
    |some _=>simp at U
    |none=>
     simp only[bound,mL] at H;subst H;exact⟨rfl,ae⟩
   |some x=>
    have G:cS ng x=true:=aj W
    cases mx with
    |none=>
     have:=Ae (P:=P) (w:=w) K N G H .sliceAcap X9;exact⟨this.2,fun _=>this.1⟩
    |some y=>
     have:=Ae (P:=P) (w:=w) K N G H .slice3B X9;exact⟨this.2,fun _=>this.1⟩
  have Ue:(match lo.map a.eval with
    |some v=>Instr.sliceBound v j (if(mx.map a.eval).isSome then .slice3C else .sliceB)
    |none=>(pure 0:Sem Nat)).run P w=.ok l w/\l<=j:=by
   cases lo with
   |none=>
    simp only[bound,mL] at M;subst M;exact⟨rfl,Nat.zero_le _⟩
   |some x=>
    have G:cS ng x=true:=aj Z
    have:=Ae (P:=P) (w:=w) K N G M (if(mx.map a.eval).isSome then .slice3C else .sliceB) (fh j);exact⟨this.2,this.1⟩
  refine⟨?_,Ue.2,C.2⟩;have A:=C.1;have E:=Ue.1;clear C Ue J H M;rcases mx with _|mx<;>rcases hi with _|hi<;>rcases lo with _|lo<;>
   simp only[Option.map_none,Cx,Option.isSome_none,Option.isSome_some,xE,Result.ok.injEq,and_true,run_stuck,reduceCtorEq,if_true,if_false,XE] at D A E<;>
   first
    |(subst D;subst A;subst E;rfl)
    |(subst D;subst A;simp only[Instr.sliceBounds,Option.map_none,Cx,Option.isSome_none,Option.isSome_some,if_true,if_false,XE,sy,xE,E,rm];done)
    |(subst D;subst E;simp only[Instr.sliceBounds,Option.map_none,Cx,Option.isSome_none,Option.isSome_some,if_true,if_false,XE,sy,xE,A,rm];done)
    |(subst D;simp only[Instr.sliceBounds,Option.map_none,Cx,Option.isSome_none,Option.isSome_some,if_true,if_false,XE,sy,xE,A,E,rm];done)
    |(subst E;simp only[Instr.sliceBounds,Option.map_none,Cx,Option.isSome_none,Option.isSome_some,if_true,if_false,XE,sy,xE,D,A,rm];done)
    |(simp only[Instr.sliceBounds,Option.map_none,Cx,Option.isSome_none,Option.isSome_some,if_true,if_false,XE,sy,xE,D,A,E,rm];done)
 cases mx with
 |none=>
  simp only[bound,mL] at J;subst J;obtain⟨O,Y,Q⟩:=key ccap I ae rfl;exact⟨ccap,O,Y,Q,.inr ⟨rfl,rfl,rfl⟩⟩
 |some x=>
  have G:cS ng x=true:=aj V
  have hb:=Ae (P:=P) (w:=w) K N G J .slice3Acap I;obtain⟨O,Y,Q⟩:=key m (fh m) (fun _=>rfl) hb.2;exact⟨m,O,Y,Q,.inl ⟨rfl,rfl,hb.1⟩⟩
def ac7(hT:eE P T){i H:TI}(ma:T t=some i)(hu:i.u=.slice el)(lh:T el=some H)(u:(mx.isSome&&hi.isNone)=false)(S:eM CC ρ h w)(Y:ER ρ e a.tmps)(hG:dX ng ρ)(hx:cS ng x=true)(N:(lo.toList).all (cS ng)=true)(K:(hi.toList).all (cS ng)=true)(I:(mx.toList).all (cS ng)=true)(j:c_ e h (.slice H.size x lo hi mx)=some (v,h')):Out CC ρ h w v h' (((do pure (Next.value (<-Instr.sliceAt t (a.eval x) (lo.map a.eval) (hi.map a.eval) (mx.map a.eval)))):Sem Next).run P w):=by
 have G9:=(hT t i ma).u;rw[hu] at G9;have vy:=(iu (w:=w) (hT _ _ lh)).1;have Z:=Y.eval hG hx;simp only[c_] at j;split at j
 .rename_i sa len D h0;split at j;cases j
  .rename_i m U;split at j;cases j
   .rename_i hh O;split at j;cases j
    .rename_i l h3;rw[h0] at Z;split at j
     .cases j;rw[Z.je];obtain⟨M,Q,hlh,_,E⟩:=HX (P:=P) (w:=w) Y hG N K I u (fh D) U O h3;have X9:M=m:=by rcases E with⟨_,h,_⟩|⟨_,h,h'⟩<;>omega
      subst X9;refine Out.same S (fG ?_) (CR.fW _ _).vr;simp only[Instr.sliceAt,Instr.slice,sy,rq G9,rm,Q,vy,xE,Option.map_none];congr 2;split<;>rfl
     .rename_i b off;split at j
      .rename_i cs ro o s ho;cases A:Nat.beq o 0||Nat.beq o H.size with
       |false=>simp[A] at j
       |true=>
        simp only[A,kA,mL,Aj] at j;obtain⟨rfl,rfl⟩:=j;obtain⟨r,ca,C,hr,hc,⟨KS,G,hle⟩⟩:=Z.gm;obtain⟨fK,Qn,fr,_,dJ,Yc,_,_,_⟩:=S.obj b r _ hr ho;have IC:D<=C:=by rcases G with h|⟨_,h,_,_⟩<;>omega
        obtain⟨M,Q,hlh,V,E⟩:=HX (P:=P) (w:=w) Y hG N K I u IC U O h3;have hhm':hh<=m:=by
         cases hi with
         |some y=>exact V rfl
         |none=>
          simp only[bound,mL] at O;rcases E with⟨hs,_⟩|⟨_,h,_⟩;rw[hs] at u;simp at u;omega
        rw[hc];refine Out.same S (c:=.slice (some (if M=l then ca else ca.add (l*H.size))) (hh-l) (M-l)) (fG ?_) (CR.slice hr ⟨?_,?_,?_⟩).vr;simp only[Instr.sliceAt,Instr.slice,sy,rq G9,rm,Q,vy,xE];congr 2;split<;>simp
        .by_cases hml:M=l;right;rcases E with⟨_,h,_⟩|⟨_,h,h'⟩<;>omega
         .left;rw[bU hml];have abS:ca=⟨r.bZ,r.base+off,none⟩:=by rcases KS with h|⟨U,O⟩;exact h;rcases E with⟨_,h,_⟩|⟨_,h,h'⟩<;>omega
          rw[abS,qu,EV]
        .rcases E with⟨_,h,_⟩|⟨_,h,h'⟩;left;omega
         .rcases G with W|⟨W,h6,h7,h8⟩;left;omega
          .right;have J:r.Jm=H.size:=by rw[Yc];simp only[Bool.or_eq_true] at A;rcases A with h|h;exact absurd (Yc.trans (rz h)) W;exact rz h
           refine⟨W,ab,?_,?_⟩;rw[<-J,h,Nat.sub_mul,<-h7];have:l*r.Jm<=D*r.Jm:=CX _ ab;omega
           rw[<-J,h',Nat.sub_mul];have:l*r.Jm<=C*r.Jm:=CX _ ab;omega
        omega
      cases j
     cases j
 cases j
def Lp(P:Program)(w:World)(s:TypeId)(j:Nat)(el:TypeId)(x:Value)(n:Nat)(fK:List Value):Prop:=
 (∃D A C,P.underlying s=some (.slice D)/\x=.slice A n C/\∀k,(Builtin.firstCells j n x).run P {w with drawn:=k} =.ok ⟨fK⟩ {w with drawn:=k})\/(∃k u,P.underlying s=some (.int u)/\x=.int k (n:Int)/\n<=1099511627776/\∃z,(∀w',(zeroValue el).run P w'=.ok z w')/\z.cells.toList.length=j/\fK=jn z.cells.toList n)
def acX(Q:eE P T){el N:TypeId}{G K:TI}(lh:T el=some G)(ma:T N=some K)(I:if mw then ∃k,K.u=.int k else ∃D,K.u=.slice D)(S:eM CC ρ h w){x y:Value}(J:VR ρ x y){cs:List Value}(j:news h G.zero mw x=some (n,cs)):∃fK,All2 (KR ρ) cs fK/\cs.length=n*G.size/\Lp P w N G.size el y n fK:=by
 have C:=Q _ _ lh;have u:=(Q _ _ ma).u;unfold news at j;split at j
 .
  rename_i k m;split at j
  .rename_i kS;cases j;obtain⟨kk,H⟩:=aj I
   rw[H] at u;rw[J.eI];refine⟨_,fy (jr C.zero n),by rw[qS,C.len],.inr ⟨k,kk,u,rfl,Ph kS,?_⟩⟩;obtain⟨ti,W,k2,k3,z,k4,U⟩:=C.info;exact⟨z,fun w'=>by simp[zeroValue,typeInfo,W,k4],by rw[U];exact C.len,by rw[U]⟩
  cases j
 .
  rename_i m _;split at j
  .rename_i s;cases j;have s:=rz s;subst s;obtain⟨D,A⟩:=aj I
   rw[A] at u;rw[J.je];exact⟨[],.nil,ae,.inl ⟨D,none,_,u,rfl,fun k=>by simp[Builtin.firstCells]⟩⟩
  cases j
 .
  rename_i b off m _;obtain⟨D,A⟩:=aj I
  rw[A] at u;obtain⟨r,ca,E,Z,hc,⟨KS,hcc,hle⟩⟩:=J.gm;rw[hc];split at j;rename_i s;cases j;have s:=rz s;subst s;exact⟨[],.nil,ae,.inl ⟨D,_,_,u,rfl,fun k=>by simp[Builtin.firstCells,loadCells,loadCellsFrom]⟩⟩
  .rename_i s;split at j
   .rename_i wT cZ;cases j;have eQ:n≠0:=by intro e;rw[e] at s;exact s rfl
    have M:ca=⟨r.bZ,r.base+off,none⟩:=by rcases KS with h|⟨_,h⟩;exact h;omega
    subst M;obtain⟨V,fK,O,Y⟩:=Ed S Z cZ;refine⟨fK,O,by rw[V,C.len],.inl ⟨D,_,_,u,rfl,fun k=>?_⟩⟩;have:=run_firstCells_some (P:=P) {w with drawn:=k} G.size n ⟨r.bZ,r.base+off,none⟩ n E fK (by rw[<-O.length,V,C.len]) Y;exact this
   cases j
 cases j
def Hf{z:Array Value}{c:Value}(C:z.toList.all du=true)(s:c∈(Builtin.zeroCells z m).toList):du c=true:=by
 simp only[Builtin.zeroCells,Array.toList_map,jo] at s;obtain⟨i,hi,rfl⟩:=s;have j:i<m*z.size:=aj hi
 have u:0<z.size:=by rcases gp_ z.size with h|h;rw[h] at j;simp at j;exact h
 have A:i%z.size<z.size:=Nat.mod_lt _ u;rw[getElem!_pos z _ A];exact List.all_eq_true.1 C _ ae
def tn{t t' ty el:TypeId}{j:TI}(Bj:vW P el j)(G:P.underlying t=some (.slice el)){sa:Option Addr}{len ccap n:Nat}{x:Value}(ha:Lp P w t' j.size el x n fK)(hl:fK.length=n*j.size)(vy:0<j.size)(hb:n*j.bytes<=1099511627776):(len+n<=ccap->(Builtin.append_ #[t,t'] ty #[.slice sa len ccap,x]).run P w=
   (((match sa with|some ad=>storeCells (ad.add (len*j.size)) fK|none=>pure ()):Sem Unit).run P w).andThen fun _ w'=>.ok (.slice sa (len+n) ccap) w')/\(ccap<len+n->(len+n)*j.bytes<=1099511627776->len+n<=1099511627776->∀H:List Value,H.length=len*j.size->(∀k,(Builtin.firstCells j.size len (.slice sa len ccap)).run P {w with drawn:=k} =.ok ⟨H⟩ {w with drawn:=k})->∃(Jb:Nat) (cj:List Value),len+n<=Jb/\cj.length=(Jb-(len+n))*j.size/\(∀c∈cj,du c=true)/\(Builtin.append_ #[t,t'] ty #[.slice sa len ccap,x]).run P w=.ok (.slice (some ⟨w.heap.size,0,none⟩) (len+n) Jb) (({w with drawn:=w.drawn+1} :World).alloc (.cells ⟨(H++fK)++cj⟩ el))):=by
 obtain⟨ti,C,I,U,z,N,k5⟩:=Bj.info;have wK:z.cells.size=j.size:=by have:=Bj.len;rw[<-k5] at this;simpa using this
 have M:∀(m:Nat),∀c∈(Builtin.zeroCells z.cells m).toList,du c=true:=by intro m c hc;have hz:=Bj.zero;rw[<-k5] at hz;exact Hf hz hc
 rcases ha with⟨Qn,xa,xc,D,rfl,hf⟩|⟨k,kk,D,rfl,hn40,J,hz',QR,hcc⟩
 .have V:(Builtin.firstCells j.size n (.slice xa n xc)).run P w=.ok ⟨fK⟩ w:=by have:=hf w.drawn;exact this
  constructor
  .intro O;cases sa with
   |none=>simp[Builtin.append_,rq G,rq D,sizeOf,typeInfo,C,I,Builtin.lenOf,O,V]
   |some ad=>simp[Builtin.append_,rq G,rq D,sizeOf,typeInfo,C,I,Builtin.lenOf,O,V]
  .intro Q yW W H CB s;have E:¬(len+n<=ccap):=ab
   have u:¬(9223372036854775807<((len:Int)+(n:Int))):=ab
   have A:¬(281474976710656<Builtin.nextslicecap (len+n) ccap*ti.bytes):=by rw[U];have:=growslice_fits (bytes:=j.bytes) Q ab;omega
   have wa:(Builtin.firstCells j.size n (.slice xa n xc)).run P w.drew=.ok ⟨fK⟩ w.drew:=hf (w.drawn+1);have Pr:(Builtin.firstCells j.size len (.slice sa len ccap)).run P w.drew=.ok ⟨H⟩ w.drew:=s (w.drawn+1);refine⟨grownCap w (len+n) ccap el,(Builtin.zeroCells z.cells (grownCap w (len+n) ccap el-(len+n))).toList,grownCap_ge w _ _ _,?_,M _,?_⟩
   have:=size_zeroCells z.cells (grownCap w (len+n) ccap el-(len+n));rw[wK] at this;simpa using this;simp[Builtin.append_,rq G,rq D,sizeOf,typeInfo,zeroValue,C,I,N,Builtin.lenOf,E,u,A,Question.forced,wa,Pr,newRow,grownCap];congr 2;apply Array.ext';simp[G1]
 .have hw:IntKind.i64.wrap (n:Int)=n:=by rw[IntKind.wrap_i64];omega
  have E8:¬((n:Int)<0):=ab
  have K:¬(281474976710656<(n:Int)*(j.bytes:Int)):=by have:((n*j.bytes:Nat):Int)<=1099511627776:=Int.ofNat_le.2 hb;rw[Int.natCast_mul] at this;omega
  have hz1:=hz' w;have hzz:J=z:=by
   have h1:(zeroValue el).run P w=.ok z w:=by simp[zeroValue,typeInfo,C,N]
   rw[hz1] at h1;injection h1
  subst hzz;have hcz:n*j.size=0->fK=[]:=fun h=>Wg (by rw[hl,h]);have Yh:(Builtin.zeroCells J.cells n)=⟨fK⟩:=by apply Array.ext';rw[hcc,Az (.inl (by rw[QR];exact vy)),QR];have:J.cells=⟨J.cells.toList⟩:=rfl;simp[Builtin.zeroCells,wK]
  have uU:n*j.size=0↔n=0:=by constructor;intro h;rcases Nat.mul_eq_zero.1 h with h|h;exact h;omega;rintro rfl;simp
  have SX:IntKind.i64.wrap 0=0:=by rw[IntKind.wrap_i64];omega
  by_cases Z:n=0
  .subst Z;have Gi:fK=[]:=hcz ae;subst Gi;constructor
   .intro O;have acg:len<=ccap:=ab
    cases sa with
    |none=>simp[Builtin.append_,rq G,rq D,sizeOf,typeInfo,C,I,asInt,asIntOf,SX,acg,storeCells]
    |some ad=>simp[Builtin.append_,rq G,rq D,sizeOf,typeInfo,C,I,asInt,asIntOf,SX,acg,storeCells]
   .intro Q yW W H CB s;have E:¬(len+0<=ccap):=ab
    have avF:¬(len<=ccap):=ab
    have u:¬(9223372036854775807<(len:Int)):=ab
    have A:¬(281474976710656<Builtin.nextslicecap len ccap*ti.bytes):=by rw[U];have:=growslice_fits (bytes:=j.bytes) Q ab;simp only[gU_] at this;omega
    have Pr:(Builtin.firstCells j.size len (.slice sa len ccap)).run P w.drew=.ok ⟨H⟩ w.drew:=s (w.drawn+1);refine⟨grownCap w (len+0) ccap el,(Builtin.zeroCells J.cells (grownCap w (len+0) ccap el-(len+0))).toList,grownCap_ge w _ _ _,?_,M _,?_⟩;have:=size_zeroCells J.cells (grownCap w (len+0) ccap el-(len+0));rw[wK] at this;simpa using this;simp[Builtin.append_,rq G,rq D,sizeOf,typeInfo,zeroValue,C,I,N,asInt,asIntOf,SX,avF,u,A,Question.forced,Pr,newRow,grownCap];congr 2;apply Array.ext';simp
  .have Y:¬(n*j.size=0):=fun h=>Z (uU.1 h);have Wu:¬(j.size=0):=ab
   constructor
   .intro O;cases sa with
    |none=>simp[Builtin.append_,rq G,rq D,sizeOf,typeInfo,zeroValue,C,I,U,N,asInt,asIntOf,hw,E8,K,O,Z,Wu,Yh]
    |some ad=>
     simp[Builtin.append_,rq G,rq D,sizeOf,typeInfo,zeroValue,C,I,U,N,asInt,asIntOf,hw,E8,K,O,Z,Wu,Yh];intro h0;exact absurd h0 Y
   .intro Q yW W H CB s;have E:¬(len+n<=ccap):=ab
    have u:¬(9223372036854775807<((len:Int)+(n:Int))):=ab
    have A:¬(281474976710656<Builtin.nextslicecap (len+n) ccap*j.bytes):=av (growslice_fits (bytes:=j.bytes) Q ab)
    have Pr:(Builtin.firstCells j.size len (.slice sa len ccap)).run P w.drew=.ok ⟨H⟩ w.drew:=s (w.drawn+1);refine⟨grownCap w (len+n) ccap el,(Builtin.zeroCells J.cells (grownCap w (len+n) ccap el-(len+n))).toList,grownCap_ge w _ _ _,?_,M _,?_⟩;have:=size_zeroCells J.cells (grownCap w (len+n) ccap el-(len+n));rw[wK] at this;simpa using this;simp[Builtin.append_,rq G,rq D,sizeOf,typeInfo,zeroValue,C,I,U,N,asInt,asIntOf,hw,E8,K,E,u,A,Z,Wu,Question.forced,Pr,newRow,grownCap,Yh];rw[bU Y];congr 3;apply Array.ext';simp[G1]
end
section
variable{P:Program}{CC:dx}{ρ:fJ}{h h':az}{w:World}{T:ta}{ng:Nat}{e:Env}{a:Act}{c v:Value}
def VR.Vo{x:Addr}(h:VR ρ (.slice (some x) n cp) c):∃b o r ca j,x=⟨b,o,none⟩/\ρ b=some r/\c=.slice (some ca) n j/\ve r o n cp ca j:=by
 cases h with
 |val h=>cases h with
  |cell h=>cases h with
   |cell h=>cases h with
    |slice h s=>exact⟨_,_,_,_,_,rfl,h,rfl,s⟩
def ve.Cr{r:BS}{o len j ccap:Nat}(h:ve r o len j ca ccap):j<=ccap:=by rcases h.2.1 with h|⟨_,h,_⟩<;>omega
def ve.addr{r:BS}{o len j ccap:Nat}(h:ve r o len j ca ccap)(s:0<ccap):ca=⟨r.bZ,r.base+o,none⟩:=by rcases h.1 with h|⟨h,_⟩;exact h;omega
def eM.drew(S:eM CC ρ h w):eM CC ρ h ({w with drawn:=w.drawn+1} :World):=S.drawn _
def LW(S:eM CC ρ h w){cs fK cj:List Value}{el n s j:Nat}(A:All2 (KR ρ) cs fK)(C:cs.length=n*j)(U:0<j)(D:n<=s)(J:cj.length=(s-n)*j)(K:∀c∈cj,du c=true):∃ρ',VR ρ' (.slice (some ⟨h.aw,0,none⟩) n n) (.slice (some ⟨w.heap.size,0,none⟩) n s)/\eM CC ρ' (aK h cs j) (({w with drawn:=w.drawn+1} :World).alloc (.cells ⟨fK++cj⟩ el))/\Ext ρ h w ρ' (aK h cs j) (({w with drawn:=w.drawn+1} :World).alloc (.cells ⟨fK++cj⟩ el)):=by
 obtain⟨Q,I,G,O,u,H,N,M⟩:=D4 (cj:=cj) S.drew A el j (fun _=>K);have E:(fK++cj).length=s*j:=by rw[LV,<-A.length,C,J,Nat.sub_mul];have:n*j<=s*j:=CX _ D;omega
 refine⟨_,(CR.slice (xC _ _ _) ⟨.inl ?_,.inr ⟨ab,D,?_,?_⟩,fh _⟩).vr,N,(Ext.drawn _).trans M⟩;rw[I,G];rw[O,u,C];omega;rw[u,H,E];omega
def MB(hT:eE P T){t t' ty el:TypeId}{i i' A:TI}(ma:T t=some i)(hu:i.u=.slice el)(lh:T el=some A)(Ur:T t'=some i')(hz:if mw then ∃k,i'.u=.int k else ∃Qn,i'.u=.slice Qn)(S:eM CC ρ h w)(hE:ER ρ e a.tmps)(hG:dX ng ρ)(hx:cS ng x=true)(hy:cS ng y=true)(C:c_ e h (.append A.zero A.bytes mw x y)=some (v,h')):Out CC ρ h w v h' (((do pure (Next.value (<-Builtin.append_ #[t,t'] ty #[a.eval x,a.eval y]))):Sem Next).run P w):=by
 have U:=(hT t i ma).u;rw[hu] at U;have Bj:=hT _ _ lh;have Y:=Bj.len;have G:=hE.eval hG hx;have wh:=hE.eval hG hy;simp only[c_] at C;split at C
 .rename_i n cs hn;obtain⟨fK,V,Gj,XX⟩:=acX hT lh Ur hz S wh hn;have J:fK.length=n*A.size:=by rw[<-V.length,Gj]
  unfold dy at C;split at C
  .rename_i O len E hs;rw[hs] at G;split at C
   .rename_i ao6;have I:0<A.size:=by rw[<-Y];exact xQ.1 ao6
    split at C
    .
     rename_i Z;have Z:=rz Z;subst Z;split at C
     .rename_i Wq;have Wq:=Ph Wq;cases C;have Gi:fK=[]:=Wg (by rw[J];simp);subst Gi;cases O with
      |none=>
       have hxe:=G.je;rw[hxe] at G⊢;have:=(tn (t:=t) (ty:=ty) Bj U (sa:=none) (len:=len) (ccap:=E) XX J I ae).1 ab;exact Out.same S (fG (this.trans rfl)) G
      |some ad=>
       obtain⟨b,o,r,ca,s,rfl,hr,hc,D⟩:=G.Vo;have hle:=D.Cr;rw[hc] at G⊢;have:=(tn (t:=t) (ty:=ty) Bj U (sa:=some ca) (len:=len) (ccap:=s) XX J I ae).1 ab;exact Out.same S (fG (this.trans rfl)) G
     cases C
    .rename_i uU;have azK:0<n:=by rcases gp_ n with h|h;subst h;exact absurd rfl uU;exact h
     split at C
     .rename_i kS;simp only[oD] at kS;have yE:=Ph kS.1;have SS:=Ph kS.2;have Ug:n*A.bytes<=1099511627776:=sx (CX _ ab) SS;split at C
      .
       split at C;rename_i Z;simp only[oD] at Z;have QF:=rz Z.1;have Gi:=rz Z.2;subst QF;subst Gi;cases C;rw[G.je];obtain⟨Jb,cj,g1,g2,g4,g3⟩:=(tn (t:=t) (ty:=ty) Bj U (sa:=none) (len:=0) (ccap:=0) XX J I Ug).2 ab SS yE [] ae (fun k=>by simp[Builtin.firstCells]);rw[Hj] at g1 g2 g3;obtain⟨ρ',H,II,kG⟩:=LW (el:=el) S V Gj I g1 g2 g4;rw[Y];exact⟨ρ',_,_,.inl (fG g3),H,II,kG⟩
       cases C
      .rename_i b off;split at C
       .rename_i cn o st ho;obtain⟨r,ca,s,hr,hc,D⟩:=G.gm;have IC:=D.Cr;have dJ:=D.2.2;obtain⟨K,Qn,fr,q1,q2,q3,q4,q5,q6⟩:=S.obj b r _ hr ho;have Wn:=q5 rfl;subst Wn;rw[hc];split at C
        .
         rename_i dQ;have dQ:=Ph dQ;split at C
         rename_i h'' hw;cases C;obtain⟨w',eN,S',E'⟩:=AE (P:=P) S hr hw V;have:=(tn (t:=t) (ty:=ty) Bj U (sa:=some ca) (len:=len) (ccap:=s) XX J I Ug).1 ab;refine⟨ρ,w',.slice (some ca) (len+n) s,.inl (fG ?_),(CR.slice hr ⟨D.1,D.2.1,dQ⟩).vr,S',E'⟩;rw[this];dsimp only;rw[D.addr ab,qu,EV,<-Y,eN];rfl
         cases C
        .rename_i ab8;have ab8:E<len+n:=by rcases Gf E (len+n) with h|h;exact h;exact absurd (Nat.ble_eq_true_of_le h) ab8
         dsimp only at C;by_cases ajo:Nat.beq ((cn.drop off).take (len*A.zero.length)).length (len*A.zero.length)=true
         .rw[bM ajo] at C;have yb:=rz ajo;have cZ:cD h b off (len*A.size)=some ((cn.drop off).take (len*A.size)):=by unfold cD;rw[ho];rw[Y] at yb;simp only[yb,Nat.beq_refl,if_true]
          obtain⟨CB,CH,hko,hoc⟩:=Ed S hr cZ;have W:CH.length=len*A.size:=by rw[<-hko.length,CB]
          have aiY:∀k,(Builtin.firstCells A.size len (.slice (some ca) len s)).run P {w with drawn:=k} =.ok ⟨CH⟩ {w with drawn:=k} :=by
           intro k;by_cases Gi:0<s;rw[D.addr Gi];exact run_firstCells_some (P:=P) {w with drawn:=k} A.size len ⟨r.bZ,r.base+off,none⟩ len s CH W hoc
           .have QF:len=0:=ab
            subst QF;have:CH=[]:=Wg (by rw[W];simp);subst this;simp[Builtin.firstCells,loadCells,loadCellsFrom]
          have hkk:=hko.app V;have oK:((cn.drop off).take (len*A.size)++cs).length=(len+n)*A.size:=by rw[LV,CB,Gj,uP]
          have grow:∀(h1:az),(eM CC ρ h1 w/\Ext ρ h w ρ h1 w)->h1.aw=h.aw->s<len+n->Out CC ρ h w (.slice (some ⟨h.aw,0,none⟩) (len+n) (len+n)) (aK h1 ((cn.drop off).take (len*A.size)++cs) A.size)
             (((do pure (Next.value (<-Builtin.append_ #[t,t'] ty #[.slice (some ca) len s,a.eval y]))):Sem Next).run P w):=by
           intro h1 ⟨S1,E1⟩ Gl gX;obtain⟨Jb,cj,g1,g2,g4,g3⟩:=(tn (t:=t) (ty:=ty) Bj U (sa:=some ca) (len:=len) (ccap:=s) XX J I Ug).2 gX SS yE CH W aiY;obtain⟨ρ',H,II,kG⟩:=LW (el:=el) S1 hkk oK I g1 g2 g4;rw[Gl] at H;exact⟨ρ',_,_,.inl (fG g3),H,II,E1.trans kG⟩
          split at C;rename_i abW;cases C;rw[Y];refine grow h ⟨S,.refl ρ h w⟩ rfl ?_;rcases D.2.1 with h5|⟨h5,h6,h7,_⟩;omega;exfalso;simp only[Bool.or_eq_true,Bool.not_eq_true'] at abW;rcases abW with M|M;exact h5 (q3.trans (rz M));rw[q3,q2] at h7;rw[h7,Nat.beq_refl] at M;cases M
          .rename_i azL;split at C
           .rename_i N;have N:=rz N;cases C;rw[Y];by_cases gX:s<len+n
            exact grow _ (S.less b) rfl gX
            .
             have Um:len+n<=s:=ab
             have Yc:r.Jm=A.size:=by rw[q3,N,Y]
             have halt:off+s*r.Jm<=r.room:=by rcases D.2.1 with h5|⟨_,_,_,M⟩;omega;exact M
             have Uf:off+E*r.Jm=r.len:=by rcases D.2.1 with h5|⟨_,_,M,_⟩;omega;exact M
             have azG:E*A.size<=(len+n)*A.size:=CX _ ab;rw[Yc] at halt Uf;have agY:=D.addr (show 0<s by omega);have hmul:(len+n)*A.size<=s*A.size:=CX _ Um;rw[uP] at hmul;have dQ:r.base+(off+len*A.size)+0+fK.length<=K.size:=by rw[J,<-q4.1];omega
             have eN:=run_storeCells_at (P:=P) r.bZ (r.base+(off+len*A.size)) Qn fK 0 K w q1 dQ (fun u hm=>by obtain⟨i,hi⟩:=iI hm;have hx:cs[i]?=some (cs[i]'(by rw[V.length];exact(di.1 hi).1)):=g_ _;obtain⟨c,hc,hkr⟩:=V.get hx;rw[hi] at hc;cases hc;exact xt hkr.plain.2);have auW:=(tn (t:=t) (ty:=ty) Bj U (sa:=some ca) (len:=len) (ccap:=s) XX J I Ug).1 Um;have u6:K.toList.take (r.base+(off+len*A.size)+0)++fK++K.toList.drop (r.base+(off+len*A.size)+0+fK.length)=bg K.toList (r.base+(off+len*A.size)) fK:=by simp[bg]
             rw[u6] at eN;have Ma:r.base+(off+len*A.size)+fK.length<=K.toList.length:=aj dQ
             have hob:iT CC (jU ρ h.aw ⟨r.bZ,r.base+off,(len+n)*A.size,A.size,r.room-off⟩) ⟨r.bZ,r.base+off,(len+n)*A.size,A.size,r.room-off⟩
               (.bZ ((cn.drop off).take (len*A.size)++cs) false A.size 0) (w.setRow r.bZ (bg K.toList (r.base+(off+len*A.size)) fK).toArray):=by
              refine⟨_,Qn,(0,0),setRow_heap w r.bZ K _ Qn _ q1,oK.symm,rfl,⟨?_,?_⟩,fun _=>rfl,?_⟩
              rotate_left 1
              intro yX j u Q hu;dsimp only at Q hu;simp only[List.getElem?_toArray] at hu;have hj2:=Q;rw[uP] at hj2;rw[iz Ma,bU ab] at hu;exact q4.2 ab (off+j) u ab (by simpa [EV] using hu)
              rotate_left 1
              have q4:=q4.1;simp only[List.size_toArray,qo Ma,Array.length_toList];omega;intro j u Q;simp only[List.getElem?_toArray];rw[iz Ma];by_cases bk:j<len*A.size;rw[bU ab];rw[Iw (by rw[CB];exact bk),XJ,bM bk,List.getElem?_drop] at Q;obtain⟨c,Kh,Po⟩:=q6 _ _ Q;exact⟨c,by rw[<-Kh];simp[EV],Po.mono (vN S.fresh)⟩;rw[Ke (by rw[CB];omega),CB] at Q;obtain⟨c,Kh,Po⟩:=V.get Q;have hjn:=(di.1 Kh).1;rw[bM ab];refine⟨c,?_,Po.mono (vN S.fresh)⟩;rw[<-Kh];congr 1;omega
             obtain⟨S',E'⟩:=eM.move S hr ho rfl (im:=⟨r.bZ,r.base+off,(len+n)*A.size,A.size,r.room-off⟩) rfl (At1.row _ _) hob;refine⟨_,_,.slice (some ca) (len+n) s,.inl (fG ?_),(CR.slice (xC _ _ _) ⟨.inl ?_,.inr ⟨by show A.size≠0;omega,Um,by show 0+(len+n)*A.size=(len+n)*A.size;omega,by show 0+s*A.size<=r.room-off;omega⟩,fh _⟩).vr,S',E'⟩;rw[auW];dsimp only;rw[agY,qu,EV,eN];rfl;rw[agY];rfl
           cases C
         rw[bU ajo] at C;cases C
       cases C
      cases C
     cases C
   cases C
  cases C
 cases C
end
section
variable{P:Program}{CC:dx}{ρ:fJ}{h h':az}{w:World}{T:ta}{ng:Nat}{e:Env}{a:Act}{c v:Value}
def afX(U:eE P T){t t' ty el:TypeId}{i D:TI}(ma:T t=some i)(hu:i.u=.slice el)(lh:T el=some D)(S:eM CC ρ h w)(W:ER ρ e a.tmps)(Z:dX ng ρ)(hx:cS ng x=true)(hy:cS ng y=true)(j:c_ e h (.copy D.size x y)=some (v,h')):Out CC ρ h w v h' (((do pure (Next.value (<-Builtin.copy_ #[t,t'] ty #[a.eval x,a.eval y]))):Sem Next).run P w):=by
 have E:=(U t i ma).u;rw[hu] at E;have Y:=(iu (w:=w) (U _ _ lh)).1;have K:=W.eval Z hx;have G:=W.eval Z hy;simp only[c_] at j;split at j
 .rename_i da dn dc sa s sc h1 h2;rw[h1] at K;rw[h2] at G;split at j;rename_i A;have A:=rz A;cases j;obtain⟨y1,H,M,_⟩:=K.tx;obtain⟨y2,u,I,_⟩:=G.tx;rw[M,I];refine Out.same S (fG ?_) (VR.int _ _);cases y1<;>cases y2<;>simp[Builtin.copy_,rq E,Builtin.lenOf,A,Y,Builtin.firstCells,loadCells,loadCellsFrom,storeCells,goInt]
  .rename_i A;split at j
   .rename_i db amE sb apZ;split at j
    .rename_i cs hr;split at j
     .rename_i h'' hw;cases j;obtain⟨r1,ca1,H,yE,Kh,N⟩:=K.gm;obtain⟨r2,C,u,SS,Po,J⟩:=G.gm;obtain⟨hl,fK,O,zG⟩:=Ed S SS hr;obtain⟨w',V,S',E'⟩:=AE (P:=P) S yE hw O;have uU:Nat.min s dn≠0:=by intro h;rw[h] at A;exact A rfl
      have Q:Nat.min s dn<=s/\Nat.min s dn<=dn:=⟨Nat.min_le_left _ _,Nat.min_le_right _ _⟩;have l1:=N.2.2;have l2:=J.2.2;have c1:=N.Cr;have c2:=J.Cr;rw[Kh,Po];have M:=N.addr ab;have I:=J.addr ab;have hf:=run_firstCells_some (P:=P) w D.size (Nat.min s dn) C s u fK (by rw[<-O.length,hl]) (by rw[I];exact zG);refine⟨ρ,w',.int .i64 (Nat.min s dn),.inl (fG ?_),VR.int _ _,S',E'⟩;rw[<-M] at V;have Pq:(Builtin.firstCells D.size (min s dn) (.slice (some C) s u)).run P w=.ok fK.toArray w:=hf;simp[Builtin.copy_,rq E,Builtin.lenOf,Y,Pq,V,goInt]
     cases j
    cases j
   cases j
 cases j
def ac4(O:eE P T){t ty el:TypeId}{i s:TI}(ma:T t=some i)(hu:i.u=.slice el)(lh:T el=some s)(S:eM CC ρ h w)(hE:ER ρ e a.tmps)(hG:dX ng ρ)(hx:cS ng x=true)(j:c_ e h (.clear s.zero x)=some (v,h')):Out CC ρ h w v h' (((do pure (Next.value (<-Builtin.clear_ #[t] ty #[a.eval x]))):Sem Next).run P w):=by
 have E:=(O t i ma).u;rw[hu] at E;have N:=O _ _ lh;have I:=hE.eval hG hx;simp only[c_] at j;split at j
 .rename_i sa n sc h1;rw[h1] at I;split at j;rename_i u;have u:=rz u;subst u;cases j;obtain⟨W,C,K,_⟩:=I.tx;rw[K];refine Out.same S (c:=undef) (fG ?_) VR.undef;cases W<;>simp[Builtin.clear_,rq E,undef]
  .rename_i u;split at j
   .rename_i b off;split at j
    .rename_i Y hw;cases j;obtain⟨r1,J,C,yE,Kh,G⟩:=I.gm;have uU:n≠0:=by intro h;subst h;exact u rfl
     have l1:=G.2.2;have c1:=G.Cr;have K:=G.addr ab;obtain⟨ti,V,k2,k3,z,k4,Q⟩:=N.info;have M:(zeroValue el).run P w=.ok z w:=by simp[zeroValue,typeInfo,V,k4]
     have Z:=fy (ρ:=ρ) (jr N.zero n);obtain⟨w',U,S',E'⟩:=AE (P:=P) S yE hw Z;rw[Kh];refine⟨ρ,w',undef,.inl (fG ?_),VR.undef,S',E'⟩;rw[<-K] at U;have Yh:(Builtin.zeroCells z.cells n).toList=jn s.zero n:=by
      by_cases Wu:0<s.zero.length
      .rw[Az (.inl Wu)];have:z.cells=⟨s.zero⟩:=by apply Array.ext';simpa using Q
       simp[Builtin.zeroCells,this]
      .have A:s.zero=[]:=Wg ab;have:z.cells=⟨[]⟩:=by apply Array.ext';rw[Q,A]
       rw[A];have D:jn [] n=[]:=Wg (by rw[qS];simp);rw[D];simp[Builtin.zeroCells,this]
     have H:(Builtin.clear_ #[t] ty #[.slice (some J) n C]).run P w=.ok undef w':=by unfold Builtin.clear_;simp only[sy];simp[rq E,M,Yh,U,undef]
     exact H
    cases j
   cases j
 cases j
def Rp(H:eE P T)(S:eM CC ρ h w)(D:ER ρ e a.tmps)(E:dX ng ρ)(o:Oper)(C:o.op.operands.toList.all (cS ng)=true)(u:c_ e h (dR T o.op)=some (v,h')):Out CC ρ h w v h' ((execOp a.eval o).run P w):=by
 obtain⟨dst,op,ty,pos,aft,gd⟩:=o;dsimp only at C u;cases op with
 |move x=>
  simp only[dR,c_,mL,Aj] at u;obtain⟨rfl,rfl⟩:=u;exact Out.same S rfl (D.eval E (by simpa [Op.operands] using C))
 |assign x=>
  simp only[dR,c_,mL,Aj] at u;obtain⟨rfl,rfl⟩:=u;exact Out.same S rfl (D.eval E (by simpa [Op.operands] using C))
 |pick x y z=>
  simp[Op.operands] at C;exact afZ S D E C.1 C.2.1 C.2.2 u
 |alloc t=>
  simp only[dR] at u;split at u;rename_i i hi;simp only[c_,mL,Aj] at u;obtain⟨rfl,rfl⟩:=u;exact ac3 S (H t i hi);simp[c_] at u
 |box t x=>
  simp[Op.operands] at C;simp only[dR] at u;split at u;simp only[c_] at u;split at u;rename_i vs Z;cases u;exact aj3 S (D.eval E C) Z;cases u;simp[c_] at u
 |build t ps=>
  have Ya:(ps.toList.map (·.2)).all (cS ng)=true:=by simpa [Op.operands] using C
  simp only[dR] at u;split at u
  .rename_i i hi;split at u
   .rename_i fs A;cases pq:fs.toList.all fun f=>(T f.type).isSome with
    |false=>simp[pq,c_] at u
    |true=>
     simp only[pq,kA] at u;split at u;rename_i qs hq;exact Hc H hi A pq hq S D E Ya u;simp[c_] at u
   rename_i n el A;split at u;rename_i N I;exact Jh H hi A I S D E Ya u;simp[c_] at u;simp[c_] at u
  simp[c_] at u
 |buildSlice t n ps=>
  have Ya:(ps.toList.map (·.2)).all (cS ng)=true:=by simpa [Op.operands] using C
  simp only[dR] at u;split at u
  .rename_i i hi;split at u
   .rename_i el A;split at u
    .rename_i N I;cases hc:Nat.ble (n*N.size) 1000000&&Nat.beq N.zero.length N.size with
     |false=>simp[hc,c_] at u
     |true=>
      simp only[hc,kA] at u;simp only[oD] at hc;exact YX H hi A I (Ph hc.1) S D E Ya u
    simp[c_] at u
   simp[c_] at u
  simp[c_] at u
 |load t x=>
  simp[Op.operands] at C;simp only[dR] at u;split at u;rename_i i hi;exact ac6 H hi S D E C u;simp[c_] at u
 |store t x y=>
  simp[Op.operands] at C;simp only[dR] at u;split at u;rename_i i hi;exact YZ H hi S D E C.1 C.2 u;simp[c_] at u
 |nilCheck x=>
  simp[Op.operands] at C;exact YY S D E C u
 |binOp J t x y yt=>
  simp[Op.operands] at C;by_cases M:J=.eql\/J=.neq
  .have U:∃ks i,dR T (.binOp J t x y yt)=.bin J ks x y/\T t=some i/\HD T t i.u ks:=by
    have avc:dR T (.binOp J t x y yt)=(match T t with
      |some i=>match i.u with
       |.slice _=>.bin J [3] x y
       |.pointer _=>.bin J [4] x y
       |.map _ _=>.bin J [5] x y
       |.func _ _ _=>.bin J [6] x y
       |.struct _=>match kinds T 9 t with|some ks=>.bin J (9::ks) x y|none=>.bad
       |.array _ _=>match kinds T 9 t with|some ks=>.bin J (9::ks) x y|none=>.bad
       |.bool=>.bin J [0] x y
       |.int _=>.bin J [1] x y
       |.string=>.bin J [2] x y
       |_=>.bad
      |none=>.bad):=by
     rcases M with rfl|rfl<;>rfl
    rw[avc] at u⊢;split at u;rename_i i hi;simp only[hi];split at u;rename_i A;exact⟨[3],i,rfl,rfl,.inl ⟨_,A,rfl⟩⟩;rename_i A;exact⟨[4],i,rfl,rfl,.inr (.inl ⟨_,A,rfl⟩)⟩;rename_i A;exact⟨[5],i,rfl,rfl,.inr (.inr (.inl ⟨_,_,A,rfl⟩))⟩;rename_i A;exact⟨[6],i,rfl,rfl,.inr (.inr (.inr (.inl ⟨_,_,_,A,rfl⟩)))⟩;rename_i A;split at u;rename_i ks X7;exact⟨9::ks,i,rfl,rfl,.inr (.inr (.inr (.inr (.inl ⟨(),_,by rw[A];rfl,X7,rfl⟩))))⟩;simp[c_] at u;rename_i A;split at u;rename_i ks X7;exact⟨9::ks,i,rfl,rfl,.inr (.inr (.inr (.inr (.inl ⟨(),_,by rw[A];rfl,X7,rfl⟩))))⟩;simp[c_] at u;rename_i A;exact⟨[0],i,rfl,rfl,.inr (.inr (.inr (.inr (.inr (.inl ⟨A,rfl⟩)))))⟩;rename_i A;exact⟨[1],i,rfl,rfl,.inr (.inr (.inr (.inr (.inr (.inr (.inl ⟨_,A,rfl⟩))))))⟩;rename_i A;exact⟨[2],i,rfl,rfl,.inr (.inr (.inr (.inr (.inr (.inr (.inr ⟨A,rfl⟩))))))⟩;simp[c_] at u;simp[c_] at u
   obtain⟨ks,i,U,ma,hka⟩:=U;rw[U] at u;exact YW H S D E C.1 C.2 M ma hka u
  .have U:dR T (.binOp J t x y yt)=.bin J [] x y:=by cases J<;>first|rfl|(exact absurd (.inl rfl) M)|(exact absurd (.inr rfl) M)
   rw[U] at u;exact UU S D E C.1 C.2 ⟨fun h=>M (.inl h),fun h=>M (.inr h)⟩ u
 |unOp uo t x=>
  simp[Op.operands] at C;exact apF S D E C u
 |convert s d x=>
  simp[Op.operands] at C;simp only[dR] at u;split at u;rename_i i j hi hj;split at u;rename_i h1 h2;exact afW H hi hj h1 h2 S D E C u;simp[c_] at u;simp[c_] at u
 |makeFunc fn first caps=>
  cases fn with
  |func f=>
   simp only[dR] at u;cases Z:first.isEmpty with
   |false=>simp[Z,c_] at u
   |true=>
    simp only[Z,kA] at u;have Ya:caps.toList.all (cS ng)=true:=by
     have Wl:first= #[]:=aj Z
     subst Wl;simpa [Op.operands] using C
    exact afY S D E Z Ya u
  |_=>simp[dR,c_] at u
 |makeSlice t l c=>
  simp[Op.operands] at C;simp only[dR] at u;split at u;rename_i i hi;split at u;rename_i el A;split at u;rename_i N I;exact UW H hi A I S D E C.1 C.2 u;simp[c_] at u;simp[c_] at u;simp[c_] at u
 |slice t x lo hi mx=>
  simp only[dR] at u;split at u
  .rename_i i G9;split at u
   .rename_i el A;split at u
    .rename_i N I;cases hc:mx.isSome&&hi.isNone with
     |true=>simp[hc,c_] at u
     |false=>
      simp only[hc,xY] at u;have G:cS ng x=true/\lo.toList.all (cS ng)=true/\hi.toList.all (cS ng)=true/\mx.toList.all (cS ng)=true:=by simp[Op.operands] at C;refine⟨C.1,?_⟩;cases lo<;>cases hi<;>cases mx<;>simp_all
      exact ac7 H G9 A I hc S D E G.1 G.2.1 G.2.2.1 G.2.2.2 u
    simp[c_] at u
   simp[c_] at u
  simp[c_] at u
 |fieldAddr t x k=>
  simp[Op.operands] at C;simp only[dR] at u;split at u
  .rename_i i hi;split at u
   .rename_i fs A;split at u
    .rename_i f Z;split at u
     .rename_i fi hfi;cases hz:Nat.beq fi.size 0 with
      |true=>simp[hz,c_] at u
      |false=>
       simp only[hz,xY] at u;exact ac5 H hi A Z hfi (by intro h;rw[h] at hz;cases hz) S D E C u
     simp[c_] at u
    simp[c_] at u
   simp[c_] at u
  simp[c_] at u
 |indexAddr t x y=>
  simp[Op.operands] at C;simp only[dR] at u;split at u;rename_i i hi;split at u;rename_i el A;split at u;rename_i N I;exact Jj H hi A I S D E C.1 C.2 u;simp[c_] at u;rename_i n el A;split at u;rename_i N I;exact Ji H hi A I S D E C.1 C.2 u;simp[c_] at u;simp[c_] at u;simp[c_] at u
 |index t x y=>
  simp[Op.operands] at C;simp only[dR] at u;split at u;rename_i i hi;split at u;rename_i A;exact Oz H hi A S D E C.1 C.2 u;rename_i n el A;split at u;rename_i N I;exact Oy H hi A I S D E C.1 C.2 u;simp[c_] at u;simp[c_] at u;simp[c_] at u
 |extract x i=>
  simp[Op.operands] at C;exact aj5 S D E C u
 |call c=>
  obtain⟨cal,args,Y⟩:=c;have eN:∀b,cal=.builtin b->∃cs,((execOp a.eval { dst:=dst,op:=.call { callee:=cal,args:=args,argTypes:=Y },type:=ty,pos:=pos,after:=aft,guard:=gd }).run P w)=(builtin b Y ty cs (args.map a.eval)).run P w:=by rintro b rfl;exact⟨_,rfl⟩
  have Q:∀ {l:List Operand},args.toList=l->args.map a.eval=(l.map a.eval).toArray:=by intro l hl;apply Array.ext';simp[<-hl]
  have O:∀ {l:List TypeId},Y.toList=l->Y=l.toArray:=by intro l hl;apply Array.ext';simp[<-hl]
  have G:args.toList.all (cS ng)=true:=by cases cal<;>simp[Op.operands,Call.operands] at C<;>simp<;>first|exact C|exact C.2
  simp only[dR,Af] at u;split at u;simp[c_] at u
  .
   obtain⟨cs,W⟩:=eN _ rfl;rw[W];split at u;rename_i x t K V;rw[Q K,O V];rw[K] at G;simp at G;split at u;rename_i i hi;split at u;rename_i el A;exact aj6 H hi A S D E G u;rename_i A;exact af0 H hi A S D E G u;simp[c_] at u;simp[c_] at u;simp[c_] at u
  .
   obtain⟨cs,W⟩:=eN _ rfl;rw[W];split at u;rename_i x y t t' K V;rw[Q K,O V];rw[K] at G;simp at G;split at u;rename_i i i' hi G9;split at u;rename_i el A;split at u;rename_i N I;split at u;rename_i k hk;exact MB H hi A I G9 (by simpa using⟨k,hk⟩) S D E G.1 G.2 u;rename_i k hk;exact MB H hi A I G9 (by simpa using⟨k,hk⟩) S D E G.1 G.2 u;simp[c_] at u;simp[c_] at u;simp[c_] at u;simp[c_] at u;simp[c_] at u
  .
   obtain⟨cs,W⟩:=eN _ rfl;rw[W];split at u;rename_i x y t t' K V;rw[Q K,O V];rw[K] at G;simp at G;split at u;rename_i i hi;split at u;rename_i el A;split at u;rename_i N I;exact afX H hi A I S D E G.1 G.2 u;simp[c_] at u;simp[c_] at u;simp[c_] at u;simp[c_] at u
  .
   obtain⟨cs,W⟩:=eN _ rfl;rw[W];split at u;rename_i x t K V;rw[Q K,O V];rw[K] at G;simp at G;split at u;rename_i i hi;split at u;rename_i el A;split at u;rename_i N I;exact ac4 H hi A I S D E G u;simp[c_] at u;simp[c_] at u;simp[c_] at u;simp[c_] at u
  .
   obtain⟨cs,W⟩:=eN _ rfl;rw[W];split at u;rename_i x t K V;rw[Q K,O V];rw[K] at G;simp at G;split at u;rename_i i hi;split at u;rename_i el A;exact aj4 H hi A S D E G u;simp[c_] at u;simp[c_] at u;simp[c_] at u
  simp[c_] at u
 |_=>simp[dR,c_] at u
end
section
variable{P:Program}{b:Frame}{a:Act}{k:List Item}{c:Frame}{cs:List Frame}{w:World}
def apV(j:b.roundOf=none):step P (lone (on b a (.code .ret::k)) cs w)=.next (lone {on b a (.code .ret::k) with mode:=.returning} cs w):=
 step_lone_go (by simp[stepG,stepG.exec,on,j])
def apU(j:b.roundOf=none):step P (lone (on b a []) cs w)=.next (lone {on b a [] with mode:=.returning} cs w):=
 step_lone_go (by simp[stepG,stepG.exec,on,j])
def N7{x:Option (List Deferred)}(j:w.heap[r]?=some (.deferred x)):(getObj r).run P w=.ok (.deferred x) w:=by simp only[getObj,Sem.run,j]
def O2{x:Option (List Deferred)}(o:Obj)(j:w.heap[r]?=some (.deferred x)):(setObj r o).run P w=.ok () {w with heap:=w.heap.setIfInBounds r o} :=by simp only[setObj,Sem.run,j]
def abu(j:w.heap[r]?=some (.loop L)):(getObj r).run P w=.ok (.loop L) w:=by simp only[getObj,Sem.run,j]
def JQ(o:Obj)(j:w.heap[r]?=some (.loop L)):(setObj r o).run P w=.ok () {w with heap:=w.heap.setIfInBounds r o} :=by simp only[setObj,Sem.run,j]
def vw(j:w.heap[r]?=some (.loop L)):(Instr.getLoop r).run P w=.ok L w:=by simp only[Instr.getLoop,sy,abu j,rm,xE]
def R0{j:Frame}{ds:List Deferred}(A:j.mode=.returning)(u:j.defers= { target:=.collected r,args:= #[] } ::ds)(s:w.heap[r]?=some (.deferred (some []))):step P (lone j cs w)=.next (lone {j with defers:=ds} cs {w with heap:=w.heap.setIfInBounds r (.deferred none)}):=by
 refine step_lone_go ?_;have C:(Instr.takeDeferred r).run P w=.ok [] {w with heap:=w.heap.setIfInBounds r (.deferred none)} :=by simp only[Instr.takeDeferred,sy,N7 s,O2 _ s,rm,xE]
 simp[stepG,A,unwind,u,C]
def OQ(A:b.roundOf=some l)(j:w.heap[l]?=some (.loop L))(s:L.state=.ready):step P (lone (on b a (.beginRound::k)) cs w)=.next (lone (on b a k) cs { w with heap:=w.heap.setIfInBounds l (.loop {L with state:=.busy}) }):=by
 refine step_lone_go ?_;have u:(Instr.beginRound l).run P w=.ok () { w with heap:=w.heap.setIfInBounds l (.loop {L with state:=.busy}) } :=by simp only[Instr.beginRound,sy,vw j,JQ _ j,rm,s,xE]
 simp[stepG,stepG.exec,stepG.apply,on,A,u,Frame.finish]
def xU(j:Option Code)(s:w.heap[l]?=some (.loop L)):(Instr.endRound l j).run P w=.ok (.bool j.isNone) { w with heap:=w.heap.setIfInBounds l (.loop {L with state:=if j.isNone then .ready else .done,pending:=j}) } :=by
 simp only[Instr.endRound,sy,vw s,JQ _ s,rm,xE]
def R3(A:b.roundOf=some l)(s:b.kind=.normal)(u:w.heap[l]?=some (.loop L)):step P (lone (on b a []) (c::cs) w)=.next (lone (c.finish (.bool true)) cs { w with heap:=w.heap.setIfInBounds l (.loop {L with state:=.ready,pending:=none}) }):=by
 refine step_lone_go ?_;have j:=xU (P:=P) none u;simp[stepG,stepG.exec,on,A,j,doReturn,s]
def R7(A:b.roundOf=some l)(s:b.kind=.normal)(u:w.heap[l]?=some (.loop L)):step P (lone (on b a (.code .ret::k)) (c::cs) w)=.next (lone (c.finish (.bool false)) cs { w with heap:=w.heap.setIfInBounds l (.loop {L with state:=.done,pending:=some .ret}) }):=by
 refine step_lone_go ?_;have j:=xU (P:=P) (some .ret) u;simp[stepG,stepG.exec,on,A,j,doReturn,s]
def OT{l id:Nat}(A:b.roundOf=some l)(j:b.kind=.normal)(u:w.heap[l]?=some (.loop L))(s:exitTo id k=none):step P (lone (on b a (.code (.exit id)::k)) (c::cs) w)=.next (lone (c.finish (.bool false)) cs { w with heap:=w.heap.setIfInBounds l (.loop {L with state:=.done,pending:=some (.exit id)}) }):=by
 refine step_lone_go ?_;have C:=xU (P:=P) (some (.exit id)) u;simp[stepG,stepG.exec,on,A,C,doReturn,j,s]
def apW{ps:Array Tmp}{asg body:Code}{g:FuncId}{w':World}(s:b.roundOf=none)(C:(do let d<-resolve a.eval { callee:=.value f,args:= #[.const (.func (.yield (w.heap.size+1)) #[] #[])],argTypes:= #[] } 0;invoke d.target d.args).run P
   { w with heap:=(w.heap.push (.deferred (some []))).push (.loop { state:=.ready,pending:=none,fn:=b.fn,tmps:=a.tmps,params:=ps,assign:=asg,body:=body,defers:=w.heap.size }) } =.ok (.enter g args) w'):
  step P (lone (on b a (.code (.rangeFunc f ps asg body)::k)) cs w)=
   .next (lone (Frame.enter P g args .normal) (on b { a with defers:= { target:=.collected w.heap.size,args:= #[] } ::a.defers } (.inRangeFunc (w.heap.size+1)::k)::cs) w'):=by
 refine step_lone_go ?_;have A:(Instr.enterLoop b.fn a.tmps ps asg body none).run P w=.ok (w.heap.size+1,[{ target:=.collected w.heap.size,args:= #[] }])
   { w with heap:=(w.heap.push (.deferred (some []))).push (.loop { state:=.ready,pending:=none,fn:=b.fn,tmps:=a.tmps,params:=ps,assign:=asg,body:=body,defers:=w.heap.size }) } :=by
  simp only[Instr.enterLoop,sy,run_newObj,rm,xE,Array.size_push]
 have j:∀(t:List Item)(u:List Deferred),({ fn:=b.fn,tmps:=a.tmps,todo:=t,defers:=u,mode:=.run,kind:=b.kind,roundOf:=b.roundOf } :Frame).eval=a.eval:=by intro t u;funext x;cases x<;>rfl
 rw[s] at j;simp only[stepG,stepG.exec,on,s,Sem.runT_eq,A,GStep.bare_after];simp only[List.cons_append,List.nil_append,j];simp[stepG.apply,C]
def adA(j:w.heap[l]?=some (.loop L))(s:(L.state==.busy)=false):step P (lone (on b a (.endRangeFunc l::k)) cs w)=.next (lone (on b a ((L.pending.map Item.code).toList++k)) cs { w with heap:=w.heap.setIfInBounds l (.loop {L with state:=.exhausted}) }):=by
 refine step_lone_go ?_;have u:(Instr.endLoop l).run P w=.ok L.pending { w with heap:=w.heap.setIfInBounds l (.loop {L with state:=.exhausted}) } :=by simp only[Instr.endLoop,sy,vw j,rm,s,XE,if_false,JQ _ j,xE]
 simp[stepG,stepG.exec,on,u]
def Qa{ρ:Operand->Value}{args:Array Operand}{ats:Array TypeId}{ty:TypeId}{g:FuncId}{first caps:Array Value}(s:ρ f=.func (.func g) first caps)(D:P.funcs[g]?=some fn)(j:fn.body.isSome=true)(C:(fn.name== "runtime.NumGoroutine")=false):(do let d<-resolve ρ { callee:=.value f,args:=args,argTypes:=ats } ty;invoke d.target d.args).run P w=.ok (.enter g (first++args.map ρ++caps)) w:=by
 have A:¬(fn.body=none):=by intro h;rw[h] at j;cases j
 have u:¬(fn.name= "runtime.NumGoroutine"):=aj C
 simp[resolve,s,Deferred.ofValue,invoke,callFunc,D,u,A]
def Z4{ρ:Operand->Value}{args:Array Operand}{ats:Array TypeId}{ty:TypeId}(s:ρ f=.func (.yield l) #[] #[])(u:w.heap[l]?=some (.loop L))(j:args.size=L.params.size):(do let d<-resolve ρ { callee:=.value f,args:=args,argTypes:=ats } ty;invoke d.target d.args).run P w=
   .ok (.round l L.fn ((L.params.zip (args.map ρ)).foldl (fun tmps (t,a)=>tmps.setIfInBounds t a) L.tmps) L.assign L.body) w:=by
 simp[resolve,s,Deferred.ofValue,invoke,Instr.yield,vw u,j]
end
abbrev tB:=Nat->List Oper->List (bX×List Nat)
def Cs(T:ta):ResultVar->Option GM
 |.tmp t=>some (.tmp t)
 |.cell a t=>match T t with
  |some i=>some (.cell a (Df i))
  |none=>none
section
variable(P:Program)(T:ta)(ng:Nat)(dr:tB)(F:Nat->Option cV)
def ik:dx:=fun k j c=>∃n,n<=k/\j=dv T ng n dr c/\jO c=true
def ahN(f:Nat)(args:List Value)(h:az)(v:Value)(h':az):Prop:=
 ∀(s:List Value)(ρ:fJ)(w:World),eM (ik T ng dr) ρ h w->dX ng ρ->All2 (VR ρ) args s->∀cs:List Frame,∃fn ρ' w' c j,P.funcs[f]?=some fn/\fn.body.isSome=true/\(fn.name== "runtime.NumGoroutine")=false/\Steps P (lone (Frame.enter P f ⟨s⟩ .normal) cs w) (lone j cs w')/\j.fn=f/\j.leaving P w' (.returned c)/\VR ρ' v c/\eM (ik T ng dr) ρ' h' w'/\Ext ρ h w ρ' h' w'
def Nc(f:Nat)(p:List Value->az->Option (Value×az)):Prop:=∀args h v h',p args h=some (v,h')->ahN P T ng dr f args h v h'
def VO(f:Nat):Prop:=∃fn t el i j,P.funcs[f]?=some fn/\fn.body.isNone=true/\(fn.name== "runtime.NumGoroutine")=false/\Extern.findNext fn=none/\Extern.find fn=some (Extern.SlicesOverlaps.overlaps fn.params fn.resultTypes)/\fn.params[0]?=some t/\T t=some i/\i.u=.slice el/\T el=some j
def GO:Prop:=∀f j,F f=some j->match j.zQ with
 |.no=>∃fn c,P.funcs[f]?=some fn/\fn.body=some c/\(fn.name== "runtime.NumGoroutine")=false/\All2 (fun r s=>Cs T r=some s) fn.results.toList j.res/\j.body=dv T ng fn.ntmps dr c
 |.run p _=>Nc P T ng dr f p
 |.Rv=>VO P T f
end
def Pz(ρ:fJ)(h:az)(k:Nat):Prop:=∀x r o,ρ x=some r->h.tr.get x=some o->r.bZ≠k
def mark(r:Nat):Deferred:= { target:=.collected r,args:= #[] }
def C8(B:Nat)(ρ:fJ)(h:az)(w:World)(ds:List Deferred):Prop:=
 ∃rs:List Nat,ds=rs.map mark/\rs.Nodup/\∀r∈rs,B<=r/\w.heap[r]?=some (.deferred (some []))/\Pz ρ h r
def Pz.ext{ρ ρ':fJ}{h h':az}{k:Nat}(s:Pz ρ h k)(E:Ext ρ h w ρ' h' w')(I:k<w.heap.size):Pz ρ' h' k:=by intro x r o H u e;rcases E.live x r o H u with j|⟨b,D,A,j,C,G⟩;omega;exact s b D A j C (G.trans e)
def C8.ext{B:Nat}{ρ ρ':fJ}{h h':az}{w w':World}{ds:List Deferred}(A:C8 B ρ h w ds)(E:Ext ρ h w ρ' h' w'):C8 B ρ' h' w' ds:=by obtain⟨rs,I,D,J⟩:=A;refine⟨rs,I,D,fun r H=>?_⟩;obtain⟨G,s,j⟩:=J r H;have u:=HR s;refine⟨G,?_,j.ext E u⟩;rw[E.xj r u,s];rintro x K M⟨o,C,_⟩;exact j x K o M C
def Kr(P:Program)(b:Frame)(k:List Item)(cs:List Frame)(m:Machine):bK->Act->World->Prop
 |.normal,a,w=>Steps P m (lone (on b a k) cs w)
 |.exit id,a,w=>∃j,Steps P m (lone (on b a (.code (.exit id)::j)) cs w)/\exitTo id j=exitTo id k
 |.ret,a,w=>∃j,Steps P m (lone (on b a (.code .ret::j)) cs w)
def Kr.of_steps{P:Program}{b:Frame}{k:List Item}{cs:List Frame}{m u:Machine}{x:bK}(h:Steps P m u)(g:Kr P b k cs u x a w):Kr P b k cs m x a w:=by
 cases x with
 |normal=>exact Steps.trans h g
 |exit id=>obtain⟨s,j,A⟩:=g;exact⟨s,h.trans j,A⟩
 |ret=>obtain⟨s,j⟩:=g;exact⟨s,h.trans j⟩
section
variable{P:Program}{T:ta}{ng:Nat}{dr:tB}{F:Nat->Option cV}{ih:aG->Env->az->R}
structure Bo(CC:dx)(B:Nat)(ρ:fJ)(h:az)(w:World)(a:Act)(ρ':fJ)(e':Env)(h':az)(w':World)(a':Act):Prop where
 S8:eM CC ρ' h' w'
 er:ER ρ' e' a'.tmps
 size:a'.tmps.size=a.tmps.size
 ext:Ext ρ h w ρ' h' w'
 defs:C8 B ρ' h' w' a'.defers
def wO(P:Program)(T:ta)(ng:Nat)(dr:tB)(ih:aG->Env->az->R):Prop:=
 ∀(n:Nat)(c:Code)(e:Env)(h:az)(x:bK)(s:Env)(h':az),ih (dv T ng n dr c) e h=some (x,s,h')->∀(B:Nat)(ρ:fJ)(w:World)(a:Act)(b:Frame)(k:List Item)(cs:List Frame),eM (ik T ng dr) ρ h w->dX ng ρ->ER ρ e a.tmps->n<=a.tmps.size->B<=w.heap.size->C8 B ρ h w a.defers->(b.roundOf=none\/jO c=true)->∃ρ' w' j,Kr P b k cs (lone (on b a (.code c::k)) cs w) x j w'/\Bo (ik T ng dr) B ρ h w a ρ' s h' w' j
def ER.put{ρ:fJ}{e:Env}{a:Act}(s:ER ρ e a.tmps){dst:Option Nat}{v c:Value}(u:∀d,dst=some d->d<a.tmps.size)(A:VR ρ v c):ER ρ (gy e dst v) (a.put dst c).tmps:=by
 cases dst with
 |none=>exact s
 |some d=>
  intro t;have D:=u d rfl;simp only[gy,Act.put,Env.bN];by_cases j:t=d
  subst j;simp[Array.getD,D,A]
  .rw[bU j];have:=s t;have C:(a.tmps.setIfInBounds d c).getD t undef=a.tmps.getD t undef:=by simp[Array.getD_eq_getD_getElem?,Array.getElem?_setIfInBounds,Ne.symm j]
   rw[C];exact this
def xv(a:Act)(dst:Option Nat)(c:Value):(a.put dst c).tmps.size=a.tmps.size:=by cases dst<;>simp[Act.put]
def put_defers(a:Act)(dst:Option Nat)(c:Value):(a.put dst c).defers=a.defers:=by cases dst<;>rfl
def VR.of_bool{ρ:fJ}{b:Bool}(h:VR ρ v (.bool b)):v=.bool b:=by
 cases h with
 |val h=>cases h with
  |cell h=>cases h with
   |cell h=>cases h;rfl
def J9{ρ:fJ}{e:Env}(J:ER ρ e a.tmps){g:Option (Nat×Bool)}(M:(o.guard=none/\g=none)\/∃j b t,o.guard=some (j,b)/\FC ops.toList j=some t/\g=some (t,b)):Region.wanted o (yielded ops a.tmps)=wanted e g:=by
 rcases M with⟨G,rfl⟩|⟨j,b,t,G,D,rfl⟩;simp[Region.wanted,G,wanted]
 .simp only[Region.wanted,G,wanted];have K:yielded ops a.tmps j=match a.tmps[t]? with|some (.bool c)=>some c|_=>none:=by
   unfold FC at D;split at D
   .rename_i N Q;have E:ops[j]?=some N:=aj Q
    simp only[yielded,E,Option.bind_some,D];rfl
   cases D
  have s:=J t;rw[Array.getD_eq_getD_getElem?] at s;rw[K];cases H:a.tmps[t]? with
  |none=>
   rw[H] at s;simp only[Option.getD_none] at s;have O:bH e t=.tuple #[]:=by
    cases C:bH e t with
    |tuple l=>
     rw[C] at s;obtain⟨m,A,I⟩:=s.MW;have:m=[]:=by unfold undef at A;injection A with A;injection A with A;exact A.symm
     subst this;obtain⟨l⟩:=l;cases I;rfl
    |_=>rw[C] at s;unfold undef at s;cases s with
     |val h=>cases h with
      |cell h=>exact absurd h.plain.2 (by simp[AI.plain])
   rw[O];simp
  |some u=>
   rw[H] at s;simp only[Option.getD_some] at s;cases u with
   |bool c=>
    rw[VR.of_bool s];simp
   |_=>
    cases C:bH e t with
    |bool c=>rw[C] at s;have:=s.nQ;cases this
    |_=>simp
def Jq:∀(l:List Value)(e:Env)(i t:Nat),bH (params e i l) t=if i<=t then(match l[t-i]? with|some v=>v|none=>bH e t) else bH e t
 |[],e,i,t=>by simp[params]
 |v::l,e,i,t=>by rw[params,Jq l _ (i+1) t];by_cases j:i+1<=t;rw[bM j,bM ab,show t-i=(t-(i+1))+1 by omega,List.getElem?_cons_succ];split;rfl;rw[Env.bN,bU ab];rw[bU j,Env.bN];by_cases s:t=i;subst s;simp;rw[bU s,bU ab]
def Za{ρ:fJ}{args j:List Value}(h:All2 (VR ρ) args j)(m:Nat):ER ρ (params .nil 0 args) ((⟨j⟩:Array Value)++Array.replicate m undef):=by
 intro t;rw[Jq];simp only[Nat.zero_le,if_true,Nat.sub_zero];rw[Array.getD_eq_getD_getElem?];cases s:args[t]? with
 |some v=>
  obtain⟨c,u,D⟩:=h.get s;have E:=(di.1 u).1;rw[Array.getElem?_append_left (aj E)];have:(⟨j⟩:Array Value)[t]?=some c:=by rw[<-u];simp
  rw[this];exact D
 |none=>
  have C:args.length<=t:=List.getElem?_eq_none_iff.1 s;have G:=h.length;have:((⟨j⟩:Array Value)++Array.replicate m undef)[t]?.getD undef=undef:=by by_cases H:t<j.length+m;rw[Array.getElem?_append_right (by simp;omega)];simp;by_cases A:t-j.length<m;simp[A];simp[A];rw[Array.getElem?_eq_none (by simp;omega)];rfl
  rw[this];exact VR.undef
def O1{ρ:fJ} :∀(ps:List Nat)(args j:List Value)(e e':Env)(tmps:Array Value),All2 (VR ρ) args j->fP e ps args=some e'->ER ρ e tmps->(∀t∈ps,t<tmps.size)->ER ρ e' ((ps.zip j).foldl (fun(tmps:Array Value) (x:Nat×Value)=>tmps.setIfInBounds x.1 x.2) tmps)/\((ps.zip j).foldl (fun(tmps:Array Value) (x:Nat×Value)=>tmps.setIfInBounds x.1 x.2) tmps).size=tmps.size/\ps.length=args.length:=by
 intro ps;induction ps with
 |nil=>
  intro args j e e' tmps E s C _;cases E with
  |nil=>simp only[fP,mL] at s;subst s;exact⟨C,rfl,rfl⟩
  |cons=>simp[fP] at s
 |cons t ps D=>
  intro args j e e' tmps E s C G;cases E with
  |nil=>simp[fP] at s
  | @cons v c args j J I=>
   simp only[fP] at s;have A:=ER.put (a:=⟨tmps,[]⟩) (dst:=some t) C (fun d H=>by cases H;exact G t ae) J;simp only[gy,Act.put] at A;obtain⟨M,K,O⟩:=D args j _ e' (tmps.setIfInBounds t c) I s A (fun u N=>aj (G u (au N)));exact⟨M,aj K,au O⟩
def aga(tmps:Array Value):ResultVar->Sem Value
 |.tmp t=>pure (tmps.getD t undef)
 |.cell a t=>do loadVar t (<-asAddr (tmps.getD a undef))
def Vb(fn:Func)(tmps:Array Value):Go.results fn tmps=(do
  let vs<-fn.results.mapM (aga tmps)
  pure (if h:vs.size=1 then vs[0] else .tuple vs)):=by
 unfold Go.results;congr 1
def RI{CC:dx}{ρ:fJ}{e:Env}{h:az}(W:eE P T)(S:eM CC ρ h w)(U:ER ρ e tmps):∀(rs:List ResultVar)(u:List GM)(vs:List Value),All2 (fun r O=>Cs T r=some O) rs u->results e h u=some vs->∃cs:List Value,All2 (VR ρ) vs cs/\∀r c,(r,c)∈rs.zip cs->(aga tmps r).run P w=.ok c w:=by
 intro rs;induction rs with
 |nil=>
  intro u vs N j;cases N;simp only[results,mL] at j;subst j;exact⟨[],.nil,fun r c h=>by simp at h⟩
 |cons r rs C=>
  intro u vs N j;cases N with
  | @cons _ O _ u A Q=>
  cases r with
  |tmp t=>
   simp only[Cs,mL] at A;subst A;simp only[results] at j;split at j;rename_i l I;cases j;obtain⟨cs,M,H⟩:=C u l Q I;refine⟨_::cs,.cons (U t) M,?_⟩;intro r c s;simp only[List.zip_cons_cons,List.mem_cons,Aj] at s;rcases s with⟨rfl,rfl⟩|s;rfl;exact H r c s;cases j
  |cell Y t=>
   simp only[Cs] at A;split at A
   .rename_i i hi;cases A;simp only[results] at j;split at j
    .rename_i b off D;split at j
     .rename_i cells K;split at j
      .rename_i v Z;split at j
       .rename_i l I;cases j;obtain⟨cs,M,H⟩:=C u l Q I;have V:=U Y;rw[D] at V;obtain⟨rr,J,hc⟩:=V.D9;obtain⟨c,E,G⟩:=WK (P:=P) S (W t i hi) J K Z;refine⟨c::cs,.cons G M,?_⟩;intro r c' s;simp only[List.zip_cons_cons,List.mem_cons,Aj] at s;rcases s with⟨rfl,rfl⟩|s
        simp only[aga,sy,hc,asAddr,xE,rm,E];exact H r c' s
       cases j
      cases j
     cases j
    cases j
   cases A
def acI(f:α->Sem β):∀(l:List α)(m:List β)(w:World),l.length=m.length->(∀x y,(x,y)∈l.zip m->(f x).run P w=.ok y w)->∀j:Array β,(l.foldlM (fun E x=>E.push <$> f x) j).run P w=.ok (j++m.toArray) w:=by
 intro l;induction l with
 |nil=>intro m w s _ j;cases m with
  |nil=>simp
  |cons=>simp at s
 |cons x l C=>
  intro m w s D j;cases m with
  |nil=>simp at s
  |cons y m=>
   simp only[List.foldlM_cons,sy,Dv,D x y ae,rm];rw[C m w (aj s) (fun u v A=>D u v (au A))];congr 1;apply Array.ext';simp
def RJ{CC:dx}{ρ:fJ}{e:Env}{h:az}(J:eE P T)(S:eM CC ρ h w)(O:ER ρ e tmps){j:List GM}(G:All2 (fun r H=>Cs T r=some H) fn.results.toList j)(D:results e h j=some vs)(fO:fZ vs=true):∃c,(Go.results fn tmps).run P w=.ok c w/\VR ρ (result vs) c:=by
 obtain⟨cs,E,M⟩:=RI J S O _ _ _ G D;have Q:fn.results.toList.length=cs.length:=by
  have h1:=G.length;have h2:=E.length;have Y:∀(j:List GM)(vs:List Value),results e h j=some vs->vs.length=j.length:=by
   intro j;induction j with
   |nil=>intro vs h;simp only[results,mL] at h;subst h;rfl
   |cons r j u=>
    intro vs h;cases r with
    |tmp t=>
     simp only[results] at h;split at h;rename_i l s;cases h;simp[u l s];cases h
    |cell ad n=>
     simp only[results] at h
     repeat (split at h<;>try cases h)
     rename_i l s;simp[u l s]
  have:=Y _ _ D;omega
 have hm:(fn.results.mapM (aga tmps)).run P w=.ok ⟨cs⟩ w:=by rw[Array.mapM_eq_foldlM,<-Array.foldlM_toList,acI _ _ cs w Q M];congr 1;apply Array.ext';simp
 refine⟨if h:(⟨cs⟩:Array Value).size=1 then(⟨cs⟩:Array Value)[0] else .tuple ⟨cs⟩,?_,?_⟩;rw[Vb];simp only[sy,hm,rm,xE]
 .match vs,cs,E with
  |[v],[c],.cons C .nil=>simpa [result] using C
  |[],[],.nil=>simpa [result] using VR.tuple (ρ:=ρ) .nil
  |K::W::vs,N::U::cs,V=>
   have I:¬((⟨N::U::cs⟩:Array Value).size=1):=ae
   rw[dif_neg I];simp only[result];have Z:(K::W::vs).all qm=true:=fO;have conv:∀ {l m:List Value},All2 (VR ρ) l m->l.all qm=true->All2 (AR ρ) l m:=by
    intro l m h;induction h with
    |nil=>intro _;exact .nil
    |cons C _ A=>
     intro s;simp only[List.all_cons,oD] at s;refine .cons ?_ (A s.2);cases C with
     |val h=>exact h
     |tuple=>simp[qm] at s
     |atl=>simp[qm] at s
   exact VR.tuple (conv V Z)
end
end Go.AI
