/- Parts of the proof. -/
import GoSem.Dispatch
import Derived.Calls
import Derived.Below
import Derived.Laws.Rows
import Derived.Laws.CopyRow
import Derived.Laws.StructEq
import Derived.Laws.Append
import Derived.ChangeKeysEq
import Derived.Laws.Slices
import Derived.Laws.MakeOwn
import Derived.Laws.AppendOwn
import Derived.Laws.Sem
set_option linter.all false
namespace Go.AI
variable{args:List Value}{f:Nat}{v:Value}
inductive Tr(α:Type) where
 |nil
 |node (v:Option α) (l r:Tr α)
namespace Tr
variable{α:Type}
def get:Tr α->Nat->Option α
 |.nil,_=>none
 |.node v l r,k=>
  match k with
  |0=>v
  |k+1=>bif Nat.beq (k%2) 0 then l.get (k/2) else r.get (k/2)
def put:Nat->Tr α->Nat->Option α->Tr α
 |0,t,_,_=>t
 |f+1,.nil,k,x=>
  match k with
  |0=>.node x .nil .nil
  |k+1=>bif Nat.beq (k%2) 0 then .node none (put f .nil (k/2) x) .nil else .node none .nil (put f .nil (k/2) x)
 |f+1,.node v l r,k,x=>
  match k with
  |0=>.node x l r
  |k+1=>bif Nat.beq (k%2) 0 then .node v (put f l (k/2) x) r else .node v l (put f r (k/2) x)
def set(t:Tr α)(k:Nat)(x:α):Tr α:=put (k+1) t k (some x)
def del(t:Tr α)(k:Nat):Tr α:=put (k+1) t k none
end Tr
abbrev Env:=Tr Value
def ai(e:Env)(t:Nat):Value:=(Tr.get e t).getD (.tuple #[])
inductive kM where
 |mv (x:Operand)
 |pick (c a b:Operand)
 |alloc (z:List Value)
 |box (x:Operand)
 |build (z:List Value) (parts:List (Nat×Nat×Operand))
 |gC (n:Nat) (z:List Value) (parts:List (Nat×Nat×Operand))
 |load (n:Option Nat) (a:Operand)
 |store (n:Nat) (a v:Operand)
 |xY (x:Operand)
 |bin (op:BinOp) (n:List Nat) (x y:Operand)
 |un (op:UnOp) (x:Operand)
 |conv (k:IntKind) (x:Operand)
 |tX (f:FuncId) (caps:List Operand)
 |gK (z:List Value) (bytes:Nat) (len cap:Operand)
 |slice (size:Nat) (x:Operand) (lo hi mx:Option Operand)
 |ee (off:Nat) (x:Operand)
 |dx (arr:Option Nat) (size:Nat) (x i:Operand)
 |index (arr:Option (Nat×Nat×Option Nat)) (x i:Operand)
 |ext (i:Nat) (x:Operand)
 |call (f:Operand) (args:List Operand)
 |tS (x:Operand)
 |Lz (x:Operand)
 |append (z:List Value) (bytes:Nat) (qT:Bool) (s x:Operand)
 |copy (size:Nat) (d s:Operand)
 |clear (z:List Value) (x:Operand)
 |Mi (x y:Operand)
 |Pq (x:Operand)
 |bad
 deriving Inhabited
structure bm where
 dst:Option Nat
 guard:Option (Nat×Bool)
 op:kM
 deriving Inhabited
inductive ak where
 |skip
 |ops (l:List bm)
 |draw (l:List (bm×List Nat))
 |seq (a b:ak)
 |cond (c:Operand) (a b:ak)
 |block (id:Nat) (c:ak)
 |loop (c:ak)
 |ET (f:Operand) (ps:List Nat) (asg body:ak)
 |exit (id:Nat)
 |ret
 |bad
 deriving Inhabited
inductive EY where
 |tmp (t:Nat)
 |cell (a:Nat) (n:Option Nat)
inductive VT where
 |ready|busy|done (j:Option Nat)
inductive rV where
 |aC (cells:List Value) (ro:Bool) (GR:Nat) (axM:Nat)
 |loop (env:Env) (ps:List Nat) (asg body:ak) (st:VT)
 |map (es:List (Value×Value))
 |itr
structure ab where
 next:Nat
 clock:Nat
 tr:Tr rV
def WF(h:ab):Prop:=∀b o,h.tr.get b=some o->b<h.next
structure dN(h h':ab):Prop where
 next:h.next<=h'.next
 clock:h.clock<=h'.clock
 bE:∀b cs ro o s,b<h.next->h'.tr.get b=some (.aC cs ro o s)->s<h.clock->h.tr.get b=some (.aC cs ro o s)
 wf:WF h->WF h'
 mp:∀b,b<h.next->h'.tr.get b=some (.map [])->h.tr.get b=some (.map [])
inductive Prim where
 |no
 |run (p:List Value->ab->Option (Value×ab)) (hp:∀args h v h',p args h=some (v,h')->dN h h')
 |Q1
structure bZ where
 res:List EY
 body:ak
 CW:Prim:=.no
inductive aO where
 |normal
 |exit (id:Nat)
 |ret
def ev(e:Env):Operand->Value
 |.tmp t=>ai e t
 |.const v=>v
 |.global g=>.pointer (some ⟨g,0,none⟩)
 |.func f=>.func (.func f) #[] #[]
def fN(e:Env):Option Nat->Value->Env
 |none,_=>e
 |some t,v=>Tr.set e t v
def ab.new(h:ab)(o:rV):ab:= {h with next:=h.next+1,tr:=h.tr.set h.next o}
def aD(h:ab)(cells:List Value)(GR:Nat):ab:=h.new (.aC cells false GR 0)
def agg(n:Option Nat)(cs:List Value):Option Value:=
 match n with
 |some n=>if Nat.beq cs.length n then some (.agg ⟨cs⟩) else none
 |none=>match cs with
  |[v]=>some v
  |_=>none
def width(n:Option Nat):Nat:=match n with|some n=>n|none=>1
def aV(h:ab)(b off n:Nat):Option (List Value):=
 match h.tr.get b with
 |some (.aC cs _ _ _)=>let r:=(cs.drop off).take n;if Nat.beq r.length n then some r else none
 |_=>none
def aR(cs:List Value)(off:Nat)(vs:List Value):List Value:=cs.take off++vs++cs.drop (off+vs.length)
def jz(h:ab)(b off:Nat)(vs:List Value):Option ab:=
 match h.tr.get b with
 |some (.aC cs false o _)=>
  if Nat.ble (off+vs.length) cs.length then some {h with clock:=h.clock+1,tr:=h.tr.set b (.aC (aR cs off vs) false o h.clock)} else none
 |_=>none
def cellsOf:Value->List Value
 |.agg cs=>cs.toList
 |v=>[v]
def plain:Value->Bool
 |.agg _=>false
 |.tuple _=>false
 |.chan _=>false
 |_=>true
def simple:Value->Bool
 |.agg _=>false
 |.tuple _=>false
 |.chan _=>false
 |.func _ _ _=>false
 |_=>true
def flat(v:Value):Option (List Value):=bif (cellsOf v).all plain then some (cellsOf v) else none
def uL(e:Env):List Value->List (Nat×Nat×Operand)->Option (List Value)
 |cs,[]=>some cs
 |cs,(off,n,x)::r=>match flat (ev e x) with
  |some vs=>if Nat.beq vs.length n&&Nat.ble (off+n) cs.length then uL e (aR cs off vs) r else none
  |none=>none
def iP(z:List Value):Nat->List Value
 |0=>[]
 |n+1=>z++iP z n
def mu(k:Nat)(a b:Value):Option Bool:=
 match k,a,b with
 |0,.bool a,.bool b=>some (a==b)
 |1,.int k a,.int k' b=>if k=k' then some (a==b) else none
 |2,.string a,.string b=>some (a==b)
 |_,_,_=>none
def cy:List Nat->List Value->List Value->Option Bool
 |[],[],[]=>some true
 |k::ks,a::as',b::bs=>match mu k a b,cy ks as' bs with
  |some x,some y=>some (x&&y)
  |_,_=>none
 |_,_,_=>none
def Dm(ks:List Nat)(a b:Value):Option Bool:=
 match a,b with
 |.agg a,.agg b=>match ks with
  |9::ks=>cy ks a.toList b.toList
  |_=>none
 |a,b=>match ks with
  |[3]=>match a,b with
   |.slice none _ _,.slice b _ _=>some b.isNone
   |.slice (some _) _ _,.slice none _ _=>some false
   |_,_=>none
  |[4]=>match a,b with
   |.pointer none,.pointer b=>some b.isNone
   |.pointer (some _),.pointer none=>some false
   |_,_=>none
  |[5]=>match a,b with
   |.map none,.map b=>some b.isNone
   |.map (some _),.map none=>some false
   |_,_=>none
  |[6]=>match a,b with
   |.nilFunc,.nilFunc=>some true
   |.nilFunc,.func _ _ _=>some false
   |.func _ _ _,.nilFunc=>some false
   |_,_=>none
  |[k]=>mu k a b
  |_=>none
def gD(op:BinOp)(k:IntKind)(a b:Int):Option Value:=
 match op with
 |.add=>some (.int k (k.wrap (a+b)))
 |.sub=>some (.int k (k.wrap (a-b)))
 |.mul=>some (.int k (k.wrap (a*b)))
 |.quo=>if b=0 then none else some (.int k (k.wrap (a.tdiv b)))
 |.rem=>if b=0 then none else some (.int k (a.tmod b))
 |.and=>some (.int k (k.wrap (BitVec.ofInt k.bits a &&& BitVec.ofInt k.bits b).toNat))
 |.or=>some (.int k (k.wrap (BitVec.ofInt k.bits a ||| BitVec.ofInt k.bits b).toNat))
 |.xor=>some (.int k (k.wrap (BitVec.ofInt k.bits a ^^^ BitVec.ofInt k.bits b).toNat))
 |.andNot=>some (.int k (k.wrap (BitVec.ofInt k.bits a &&& ~~~(BitVec.ofInt k.bits b)).toNat))
 |.eql=>some (.bool (a==b))
 |.neq=>some (.bool (a !=b))
 |.lss=>some (.bool (a<b))
 |.leq=>some (.bool (a<=b))
 |.gtr=>some (.bool (a>b))
 |.geq=>some (.bool (a>=b))
 |_=>none
def kJ(op:BinOp)(k:IntKind)(a b:Int):Option Value:=
 if b<0 then none else
 match op with
 |.shl=>some (.int k (k.wrap (a*2^(min b.toNat k.bits))))
 |.shr=>some (.int k (a.fdiv (2^(min b.toNat k.bits))))
 |_=>none
def WY(op:BinOp)(n:List Nat)(x y:Value):Option Value:=
 match op with
 |.shl=>match x,y with|.int k a,.int _ b=>kJ .shl k a b|_,_=>none
 |.shr=>match x,y with|.int k a,.int _ b=>kJ .shr k a b|_,_=>none
 |.eql=>match x,y with
  |.int k a,.int k' b=>if k=k' then gD .eql k a b else none
  |x,y=>match Dm n x y with|some b=>some (.bool b)|none=>none
 |.neq=>match x,y with
  |.int k a,.int k' b=>if k=k' then gD .neq k a b else none
  |x,y=>match Dm n x y with|some b=>some (.bool (!b))|none=>none
 |.gtr=>match x,y with
  |.int k a,.int k' b=>if k=k' then gD .gtr k a b else none
  |.int .i64 a,.chan (some c)=>if a<=(c:Int) then some (.bool false) else none
  |_,_=>none
 |op=>match x,y with|.int k a,.int k' b=>if k=k' then gD op k a b else none|_,_=>none
def unV(op:UnOp)(x:Value):Option Value:=
 match op,x with
 |.neg,.int k n=>some (.int k (k.wrap (0-n)))
 |.xor,.int k n=>some (.int k (k.wrap (BitVec.ofInt k.bits (if k.signed then-1 else k.max) ^^^ BitVec.ofInt k.bits n).toNat))
 |.not,.bool b=>some (.bool !b)
 |_,_=>none
def bound(e:Env)(x:Option Operand)(apU top:Nat):Option Nat:=
 match x with
 |none=>some apU
 |some x=>match ev e x with
  |.int _ (.ofNat i)=>if Nat.ble i top then some i else none
  |_=>none
def roomy(bytes:Nat):Bool:=Nat.ble bytes 1099511627776
def news(h:ab)(z:List Value)(qT:Bool)(x:Value):Option (Nat×List Value):=
 match qT,x with
 |true,.int _ (.ofNat n)=>if roomy n then some (n,iP z n) else none
 |false,.slice none n _=>if Nat.beq n 0 then some (0,[]) else none
 |false,.slice (some ⟨b,off,none⟩) n _=>if Nat.beq n 0 then some (0,[]) else match aV h b off (n*z.length) with
  |some cs=>some (n,cs)
  |none=>none
 |_,_=>none
def eA(h:ab)(z:List Value)(bytes:Nat)(s:Value)(n:Nat)(cs:List Value):Option (Value×ab):=
 match s with
 |.slice a len cap=>
  if Nat.blt 0 z.length then
  if Nat.beq n 0 then(if Nat.ble len cap then some (.slice a len cap,h) else none) else
  if roomy (len+n)&&roomy ((len+n)*bytes) then
   match a with
   |none=>if Nat.beq len 0&&Nat.beq cap 0 then some (.slice (some ⟨h.next,0,none⟩) n n,aD h cs z.length) else none
   |some ⟨b,off,none⟩=>
    match h.tr.get b with
    |some (.aC bE false o _)=>
     if Nat.ble (len+n) cap then
      match jz h b (off+len*z.length) cs with
      |some h'=>some (.slice (some ⟨b,off,none⟩) (len+n) cap,h')
      |none=>none
     else
      let r:=(bE.drop off).take (len*z.length)
      if Nat.beq r.length (len*z.length) then
       if Nat.beq o 0|| !(Nat.beq (off+cap*o) bE.length) then
        some (.slice (some ⟨h.next,0,none⟩) (len+n) (len+n),aD h (r++cs) z.length)
       else if Nat.beq o z.length then
        some (.slice (some ⟨h.next,0,none⟩) (len+n) (len+n),aD {h with tr:=h.tr.del b} (r++cs) z.length)
       else none
      else none
    |_=>none
   |_=>none
  else none
  else none
 |_=>none
def u4(e:Env)(l:List Operand):List Value:=l.map (ev e)
def bV(e:Env)(h:ab):kM->Option (Value×ab)
 |.mv x=>some (ev e x,h)
 |.pick c a b=>match ev e c with
  |.bool true=>some (ev e a,h)
  |.bool false=>some (ev e b,h)
  |_=>none
 |.alloc z=>some (.pointer (some ⟨h.next,0,none⟩),aD h z 0)
 |.box x=>match flat (ev e x) with
  |some vs=>some (.pointer (some ⟨h.next,0,none⟩),aD h vs 0)
  |none=>none
 |.build z parts=>match uL e z parts with
  |some cs=>some (.agg ⟨cs⟩,h)
  |none=>none
 |.gC n z parts=>match uL e z parts with
  |some cs=>some (.slice (some ⟨h.next,0,none⟩) n n,aD h cs 0)
  |none=>none
 |.load n a=>match ev e a with
  |.pointer (some ⟨b,off,none⟩)=>match aV h b off (width n) with
   |some cs=>match agg n cs with|some v=>some (v,h)|none=>none
   |none=>none
  |_=>none
 |.store n a v=>match ev e a with
  |.pointer (some ⟨b,off,none⟩)=>match flat (ev e v) with
   |some vs=>if Nat.beq vs.length n then match jz h b off vs with
     |some h'=>some (.tuple #[],h')
     |none=>none
    else none
   |none=>none
  |_=>none
 |.xY x=>match ev e x with
  |.pointer (some a)=>some (.pointer (some a),h)
  |_=>none
 |.bin op n x y=>match WY op n (ev e x) (ev e y) with
  |some v=>some (v,h)
  |none=>none
 |.un op x=>match unV op (ev e x) with
  |some v=>some (v,h)
  |none=>none
 |.conv k x=>match ev e x with
  |.int _ n=>some (.int k (k.wrap n),h)
  |_=>none
 |.tX f caps=>bif (u4 e caps).all simple then some (.func (.func f) #[] ⟨u4 e caps⟩,h) else none
 |.gK z bytes len cap=>match ev e len,ev e cap with
  |.int .i64 (.ofNat l),.int .i64 (.ofNat c)=>
   if Nat.ble l c&&roomy (c*bytes)&&Nat.blt 0 z.length&&roomy c then some (.slice (some ⟨h.next,0,none⟩) l c,aD h (iP z c) 0) else none
  |_,_=>none
 |.slice size x lo hi mx=>match ev e x with
  |.slice a len cap=>
   match bound e mx cap cap with
   |none=>none
   |some m=>match bound e hi len m with
    |none=>none
    |some hh=>match bound e lo 0 hh with
     |none=>none
     |some l=>match a with
      |none=>some (.slice none (hh-l) (m-l),h)
      |some ⟨b,off,none⟩=>match h.tr.get b with
       |some (.aC _ _ o _)=>bif Nat.beq o 0||Nat.beq o size then some (.slice (some ⟨b,off+l*size,none⟩) (hh-l) (m-l),h) else none
       |_=>none
      |_=>none
  |_=>none
 |.ee off x=>match ev e x with
  |.pointer (some ⟨b,o,none⟩)=>some (.pointer (some ⟨b,o+off,none⟩),h)
  |_=>none
 |.dx arr size x i=>match ev e i with
  |.int _ (.ofNat i)=>match arr,ev e x with
   |some n,.pointer (some ⟨b,o,none⟩)=>if Nat.blt i n then some (.pointer (some ⟨b,o+i*size,none⟩),h) else none
   |none,.slice (some ⟨b,o,none⟩) len _=>if Nat.blt i len then some (.pointer (some ⟨b,o+i*size,none⟩),h) else none
   |_,_=>none
  |_=>none
 |.index arr x i=>match ev e i with
  |.int _ (.ofNat i)=>match arr,ev e x with
   |some (len,size,n),.agg cs=>if Nat.blt i len then match agg n ((cs.toList.drop (i*size)).take (width n)) with
     |some v=>some (v,h)
     |none=>none
    else none
   |none,.string s=>match s[i]? with
    |some b=>some (.int .u8 b.toNat,h)
    |none=>none
   |_,_=>none
  |_=>none
 |.ext i x=>match ev e x with
  |.tuple vs=>match vs.toList[i]? with
   |some v=>some (v,h)
   |none=>none
  |_=>none
 |.tS x=>match ev e x with
  |.slice _ n _=>some (.int .i64 n,h)
  |_=>none
 |.Lz x=>match ev e x with
  |.string s=>some (.int .i64 s.size,h)
  |_=>none
 |.append z bytes qT s x=>match news h z qT (ev e x) with
  |some (n,cs)=>eA h z bytes (ev e s) n cs
  |none=>none
 |.copy size d s=>match ev e d,ev e s with
  |.slice da dn _,.slice sa sn _=>
   let n:=Nat.min sn dn
   if Nat.beq n 0 then some (.int .i64 0,h) else
   match da,sa with
   |some ⟨db,ajo,none⟩,some ⟨sb,amV,none⟩=>match aV h sb amV (n*size) with
    |some cs=>match jz h db ajo cs with
     |some h'=>some (.int .i64 n,h')
     |none=>none
    |none=>none
   |_,_=>none
  |_,_=>none
 |.clear z x=>match ev e x with
  |.slice a n _=>if Nat.beq n 0 then some (.tuple #[],h) else match a with
   |some ⟨b,off,none⟩=>match jz h b off (iP z n) with
    |some h'=>some (.tuple #[],h')
    |none=>none
   |_=>none
  |_=>none
 |.Mi x y=>match ev e x,ev e y with
  |.int k a,.int k' b=>if k=k' then some (.int k (if b<a then b else a),h) else none
  |_,_=>none
 |.Pq x=>match ev e x with
  |.slice none _ c=>some (.int .i64 c,h)
  |.slice (some ⟨b,_,none⟩) _ c=>match h.tr.get b with
   |some (.aC _ _ o _)=>if Nat.beq o 0 then some (.int .i64 c,h) else some (.chan (some c),h)
   |_=>none
  |_=>none
 |.call _ _=>none
 |.bad=>none
abbrev R:=Option (aO×Env×ab)
def params:Env->Nat->List Value->Env
 |e,_,[]=>e
 |e,i,v::r=>params (Tr.set e i v) (i+1) r
def results(e:Env)(h:ab):List EY->Option (List Value)
 |[]=>some []
 |.tmp t::r=>match results e h r with|some l=>some (ai e t::l)|none=>none
 |.cell a n::r=>match ai e a with
  |.pointer (some ⟨b,off,none⟩)=>match aV h b off (width n) with
   |some cs=>match agg n cs with
    |some v=>match results e h r with|some l=>some (v::l)|none=>none
    |none=>none
   |none=>none
  |_=>none
def yz:Value->Bool
 |.tuple _=>false
 |.chan _=>false
 |_=>true
def result:List Value->Value
 |[v]=>v
 |l=>.tuple ⟨l⟩
def jM:List Value->Bool
 |[_]=>true
 |l=>l.all yz
def jb:Env->List Nat->List Value->Option Env
 |e,[],[]=>some e
 |e,t::ts,v::vs=>jb (Tr.set e t v) ts vs
 |_,_,_=>none
def Vd:List Value->ab->Option (Value×ab)
 |[.slice (some ⟨a,_,none⟩) la _,.slice (some ⟨b,_,none⟩) lb _],h=>
  match h.tr.get a,h.tr.get b with
  |some (.aC _ false _ _),some (.aC _ false _ _)=>bif Nat.beq la 0||Nat.beq lb 0|| !(Nat.beq a b) then some (.bool false,h) else none
  |_,_=>none
 |_,_=>none
section
variable(F:Nat->Option bZ)(ih:ak->Env->ab->R)
def pZ(o:Bool)(f:Nat)(args:List Value)(h:ab):Option (Value×ab):=
 match F f with
 |none=>none
 |some fn=>match fn.CW with
  |.Q1=>bif o then Vd args h else none
  |.run p _=>p args h
  |.no=>match ih fn.body (params .nil 0 args) h with
   |some (.normal,e',h')|some (.ret,e',h')=>match results e' h' fn.res with
    |some vs=>bif jM vs then some (result vs,h') else none
    |none=>none
   |_=>none
abbrev uh(f:Nat)(args:List Value)(h:ab):Option (Value×ab):=pZ F ih false f args h
def gM(h:ab)(l:Nat)(env:Env)(ps:List Nat)(asg body:ak)(st:VT):ab:= {h with tr:=h.tr.set l (.loop env ps asg body st)}
def pG(l:Nat)(h:ab)(st:VT)(v:Bool):Option (Value×ab):=
 match h.tr.get l with
 |some (.loop env ps asg body .busy)=>some (.bool v,gM h l env ps asg body st)
 |_=>none
def AE(l:Nat)(code:ak)(e:Env)(h:ab):Option (Value×ab):=
 match h.tr.get l with
 |some (.loop env ps asg body .ready)=>
  match ih code e (gM h l env ps asg body .busy) with
  |some (.normal,_,h)=>pG l h .ready true
  |some (.ret,_,h)=>pG l h (.done none) false
  |some (.exit id,_,h)=>pG l h (.done (some id)) false
  |none=>none
 |_=>none
def wz(l:Nat)(args:List Value)(h:ab):Option (Value×ab):=
 match h.tr.get l with
 |some (.loop env ps asg body .ready)=>
  match jb env ps args with
  |none=>none
  |some e=>match ih asg e h with
   |some (.normal,e,h)=>AE ih l body e h
   |_=>none
 |_=>none
def cu(fv:Value)(args:List Value)(h:ab):Option (Value×ab):=
 match fv with
 |.func (.func f) first caps=>pZ F ih true f (first.toList++args++caps.toList) h
 |.func (.yield l) _ _=>wz ih l args h
 |_=>none
def wanted(e:Env):Option (Nat×Bool)->Bool
 |none=>true
 |some (t,b)=>match ai e t with
  |.bool c=>c==b
  |_=>false
def cU(o:bm)(e:Env)(h:ab):Option (Env×ab):=
 bif wanted e o.guard then
  match o.op with
  |.call f args=>match cu F ih (ev e f) (u4 e args) h with
   |some (v,h')=>some (fN e o.dst v,h')
   |none=>none
  |op=>match bV e h op with
   |some (v,h')=>some (fN e o.dst v,h')
   |none=>none
 else some (fN e o.dst (.tuple #[]),h)
def y7:List bm->Env->ab->Option (Env×ab)
 |[],e,h=>some (e,h)
 |o::r,e,h=>match cU F ih o e h with
  |some (e,h)=>y7 r e h
  |none=>none
def still(e:Env)(h:ab)(clock:Nat):List Nat->Bool
 |[]=>true
 |t::r=>match ai e t with
  |.pointer (some ⟨b,_,none⟩)=>match h.tr.get b with
   |some (.aC _ _ _ s)=>Nat.ble s clock&&still e h clock r
   |_=>false
  |.slice (some ⟨b,_,none⟩) _ _=>match h.tr.get b with
   |some (.aC _ _ _ s)=>Nat.ble s clock&&still e h clock r
   |_=>false
  |.map (some b)=>match h.tr.get b with
   |some (.map [])=>still e h clock r
   |_=>false
  |.map none=>still e h clock r
  |.tuple _=>still e h clock r
  |.pointer none=>still e h clock r
  |.slice none _ _=>still e h clock r
  |_=>false
def oM(clock:Nat):List (bm×List Nat)->Env->ab->Option (Env×ab)
 |[],e,h=>some (e,h)
 |(o,mU)::r,e,h=>match cU F ih o e h with
  |some (e,h)=>bif still e h clock mU then oM clock r e h else none
  |none=>none
def cm:ak->Env->ab->R
 |.skip,e,h=>some (.normal,e,h)
 |.ops l,e,h=>match y7 F ih l e h with
  |some (e,h)=>some (.normal,e,h)
  |none=>none
 |.draw l,e,h=>match oM F ih h.clock l e {h with clock:=h.clock+1} with
  |some (e,h)=>some (.normal,e,h)
  |none=>none
 |.seq a b,e,h=>match ih a e h with
  |some (.normal,e,h)=>ih b e h
  |r=>r
 |.cond c a b,e,h=>match ev e c with
  |.bool true=>ih a e h
  |.bool false=>ih b e h
  |_=>none
 |.block id c,e,h=>match ih c e h with
  |some (.exit i,e,h)=>bif Nat.beq i id then some (.normal,e,h) else some (.exit i,e,h)
  |r=>r
 |.loop c,e,h=>match ih c e h with
  |some (.normal,e,h)=>ih (.loop c) e h
  |r=>r
 |.exit id,e,h=>some (.exit id,e,h)
 |.ret,e,h=>some (.ret,e,h)
 |.ET f ps asg body,e,h=>match ev e f with
  |.func (.func g) first caps=>match uh F ih g (first.toList++[.func (.yield h.next) #[] #[]]++caps.toList) (h.new (.loop e ps asg body .ready)) with
   |some (_,h')=>match h'.tr.get h.next with
    |some (.loop _ _ _ _ .ready)=>some (.normal,e,{h' with tr:=h'.tr.del h.next})
    |some (.loop _ _ _ _ (.done none))=>some (.ret,e,{h' with tr:=h'.tr.del h.next})
    |some (.loop _ _ _ _ (.done (some id)))=>some (.exit id,e,{h' with tr:=h'.tr.del h.next})
    |_=>none
   |none=>none
  |_=>none
 |.bad,_,_=>none
end
def run(F:Nat->Option bZ):Nat->ak->Env->ab->R:=
 Nat.rec (fun _ _ _=>none) (fun _ ih=>cm F ih)
def call(F:Nat->Option bZ)(fuel f:Nat)(args:List Value)(h:ab):Option (Value×ab):=uh F (run F fuel) f args h
section
variable{F:Nat->Option bZ}{ih:ak->Env->ab->R}
theorem Fz{h h':ab}(hc:pZ F ih true f args h=some (v,h')):pZ F ih false f args h=some (v,h')\/∃fn,F f=some fn/\fn.CW=.Q1/\Vd args h=some (v,h'):=by
 unfold pZ at hc⊢;cases hf:F f with
 |none=>rw[hf] at hc;cases hc
 |some fn=>
  rw[hf] at hc;dsimp only at hc⊢;cases hp:fn.CW with
  |Q1=>rw[hp] at hc;exact .inr ⟨fn,rfl,hp,hc⟩
  |run p k=>rw[hp] at hc;exact .inl hc
  |no=>rw[hp] at hc;exact .inl hc
theorem xD{h h':ab}(hc:pZ F ih false f args h=some (v,h')):pZ F ih true f args h=some (v,h'):=by
 unfold pZ at hc⊢;cases hf:F f with
 |none=>rw[hf] at hc;cases hc
 |some fn=>
  rw[hf] at hc;dsimp only at hc⊢;cases hp:fn.CW with
  |Q1=>rw[hp] at hc;cases hc
  |run p k=>rw[hp] at hc;exact hc
  |no=>rw[hp] at hc;exact hc
theorem Jx{h h':ab}(hc:Vd args h=some (v,h')):v=.bool false/\h'=h/\∃a oa la ca b ob lb cb csa o1 s1 csb o2 s2,args=[.slice (some ⟨a,oa,none⟩) la ca,.slice (some ⟨b,ob,none⟩) lb cb]/\h.tr.get a=some (.aC csa false o1 s1)/\h.tr.get b=some (.aC csb false o2 s2)/\(la=0\/lb=0\/a≠b):=by
 unfold Vd at hc;split at hc
 .rename_i a oa la ca b ob lb cb;split at hc
  .rename_i c1 o1 s1 c2 o2 s2 h1 h2;cases hb:(Nat.beq la 0||Nat.beq lb 0|| !(Nat.beq a b)) with
   |false=>rw[hb] at hc;cases hc
   |true=>
    rw[hb] at hc;cases hc;refine⟨rfl,rfl,a,oa,la,ca,b,ob,lb,cb,_,_,_,_,_,_,rfl,h1,h2,?_⟩;simp only[Bool.or_eq_true,Bool.not_eq_true'] at hb;rcases hb with(h|h)|h
    .exact .inl (Nat.eq_of_beq_eq_true h)
    .exact .inr (.inl (Nat.eq_of_beq_eq_true h))
    .exact .inr (.inr fun e=>by rw[e,Nat.beq_refl] at h;cases h)
  .cases hc
 .cases hc
end
end Go.AI
namespace Go.AI
variable{i:Nat}{α:Type}
theorem ay(l:List α)(i:Nat)(h:i<l.length:=by omega):∃x,l[i]?=some x:=⟨_,List.getElem?_eq_getElem h⟩
theorem ff{l:List α}(h:i<l.length):l[i]?=some l[i]:=List.getElem?_eq_getElem h
theorem bK{l:List α}{a:α} :l[i]?=some a↔ ∃h:i<l.length,l[i]=a:=List.getElem?_eq_some_iff
theorem bU{l:List α}{a:α}(h:l[i]?=some a):a∈l:=List.mem_of_getElem? h
theorem oD{l:List α}{a:α}(h:a∈l):∃i:Nat,l[i]?=some a:=List.getElem?_of_mem h
theorem eu:type_of% @List.getElem?_set:= @List.getElem?_set
theorem qW:type_of% @Nat.eq_of_beq_eq_true:= @Nat.eq_of_beq_eq_true
theorem dH:type_of% @Nat.le_refl:= @Nat.le_refl
theorem mw:type_of% @Option.some.injEq:= @Option.some.injEq
theorem qY:type_of% @List.getElem?_eq_none:= @List.getElem?_eq_none
theorem uM:type_of% @Nat.eq_zero_or_pos:= @Nat.eq_zero_or_pos
theorem tV:type_of% @List.getElem?_map:= @List.getElem?_map
theorem zr:type_of% @Bool.and_eq_true:= @Bool.and_eq_true
theorem yS:type_of% @List.take_add_one:= @List.take_add_one
theorem IX:type_of% @List.eq_nil_of_length_eq_zero:= @List.eq_nil_of_length_eq_zero
theorem xK:type_of% @List.take_length:= @List.take_length
theorem FW:type_of% @Nat.mul_le_mul_right:= @Nat.mul_le_mul_right
theorem EE:type_of% @List.mem_cons_of_mem:= @List.mem_cons_of_mem
theorem yT:type_of% @List.ext_getElem?:= @List.ext_getElem?
theorem Em:type_of% @List.mem_or_eq_of_mem_set:= @List.mem_or_eq_of_mem_set
theorem Ai:type_of% @List.getElem_mem:= @List.getElem_mem
theorem FX:type_of% @List.getElem?_append_left:= @List.getElem?_append_left
theorem xf:type_of% @Nat.le_trans:= @Nat.le_trans
theorem HA:type_of% @List.getElem?_append_right:= @List.getElem?_append_right
theorem tW:type_of% @Nat.add_mul:= @Nat.add_mul
theorem yU:type_of% @Prod.mk.injEq:= @Prod.mk.injEq
theorem Dq:type_of% @List.mem_cons_self:= @List.mem_cons_self
theorem EF:type_of% @Option.map_some:= @Option.map_some
theorem OJ:type_of% @Nat.le_of_ble_eq_true:= @Nat.le_of_ble_eq_true
theorem En:type_of% @Nat.lt_of_lt_of_le:= @Nat.lt_of_lt_of_le
theorem IZ:type_of% @List.length_append:= @List.length_append
theorem AL:type_of% @Nat.add_assoc:= @Nat.add_assoc
theorem Ae:type_of% @Nat.lt_or_ge:= @Nat.lt_or_ge
theorem Ek:type_of% @Nat.zero_add:= @Nat.zero_add
theorem Xs:type_of% @List.length_filter_le:= @List.length_filter_le
theorem Af:type_of% @List.append_assoc:= @List.append_assoc
theorem IV:type_of% @List.map_cons:= @List.map_cons
theorem T7:type_of% @List.getElem?_replicate:= @List.getElem?_replicate
theorem Sp:type_of% @Bool.false_eq_true:= @Bool.false_eq_true
theorem Xt:type_of% @List.drop_eq_nil_of_le:= @List.drop_eq_nil_of_le
theorem gJ_:type_of% @List.take_of_length_le:= @List.take_of_length_le
theorem gK_:type_of% @List.Nodup.length_le_of_subset:= @List.Nodup.length_le_of_subset
theorem IW:type_of% @Nat.add_zero:= @Nat.add_zero
theorem El:type_of% @List.getElem?_take:= @List.getElem?_take
theorem OI:type_of% @List.sum_cons:= @List.sum_cons
theorem FQ:type_of% @List.not_mem_nil:= @List.not_mem_nil
theorem gP_:type_of% @Int.toNat_natCast:= @Int.toNat_natCast
theorem gQ_:type_of% @List.mem_of_mem_take:= @List.mem_of_mem_take
theorem rM:type_of% @List.mem_append:= @List.mem_append
theorem j_:type_of% @List.mem_map:= @List.mem_map
theorem VX:type_of% @List.mem_filter:= @List.mem_filter
theorem gU_:type_of% @List.length_map:= @List.length_map
theorem PY:type_of% @List.mem_range:= @List.mem_range
theorem aY:type_of% @if_pos:= @if_pos
theorem bc:type_of% @if_neg:= @if_neg
@[simp] def t_(n:Nat):Operand:=.tmp n
@[simp] def i_(n:Int):Operand:=.const (.int .i64 n)
@[simp] def o_(d:Nat)(x:kM):bm:=⟨some d,none,x⟩
@[simp] def u_(x:kM):bm:=⟨none,none,x⟩
@[simp] def q_(d c:Nat)(b:Bool)(x:kM):bm:=⟨some d,some (c,b),x⟩
@[simp] def m_(d s:Nat):bm:=⟨some d,none,.mv (.tmp s)⟩
@[simp] def k_(d:Nat)(n:Int):bm:=⟨some d,none,.mv (.const (.int .i64 n))⟩
@[simp] def l_(d a:Nat):bm:=⟨some d,none,.load none (.tmp a)⟩
@[simp] def L_(d n a:Nat):bm:=⟨some d,none,.load (some n) (.tmp a)⟩
@[simp] def f_(d k a:Nat):bm:=⟨some d,none,.ee k (.tmp a)⟩
@[simp] def a_(d k x i:Nat):bm:=⟨some d,none,.dx none k (.tmp x) (.tmp i)⟩
@[simp] def s_(n a v:Nat):bm:=⟨none,none,.store n (.tmp a) (.tmp v)⟩
@[simp] def z_(d x:Nat):bm:=⟨some d,none,.tS (.tmp x)⟩
@[simp] def B_(d:Nat)(op:BinOp)(x y:Nat):bm:=⟨some d,none,.bin op [] (.tmp x) (.tmp y)⟩
@[simp] def C_(d:Nat)(op:BinOp)(x:Nat)(n:Int):bm:=⟨some d,none,.bin op [] (.tmp x) (.const (.int .i64 n))⟩
@[simp] def F_(d f:Nat)(l:List Operand):bm:=⟨some d,none,.call (.func f) l⟩
@[simp] def x_(d x:Nat):bm:=⟨some d,none,.box (.tmp x)⟩
@[simp] def D_(x:bm):bm×List Nat:=(x,[])
@[simp] def G_(l:List bm)(c:ak):ak:=.seq (.ops l) c
@[simp] def O_(l:List bm):ak:=.ops l
@[simp] def V_(l:List (bm×List Nat)):ak:=.draw l
@[simp] def J_(a b:ak):ak:=.seq a b
@[simp] def H_(c n:Nat):ak:=.cond (.tmp c) .skip (.exit n)
@[simp] def I_(c:Nat)(a b:ak):ak:=.cond (.tmp c) a b
@[simp] def P_(n:Nat)(a:ak):ak:=.block n a
@[simp] def Q_(n:Nat)(a:ak):ak:=.block n (.loop a)
@[simp] def b_(b:Bool):Operand:=.const (.bool b)
@[simp] def M_(d:Nat)(b:Bool):bm:=⟨some d,none,.mv (.const (.bool b))⟩
instance:Coe bm (bm×List Nat):=⟨fun x=>(x,[])⟩
@[simp] def N_(c i n x b d:Nat)(X:ak):ak:=.seq (.ops [⟨some c,none,.bin .lss [] (.tmp i) (.tmp n)⟩]) (.seq (.cond (.tmp c) .skip (.exit x)) (.seq (.block b X) (.ops [⟨some d,none,.bin .add [] (.tmp i) (.const (.int .i64 1))⟩,⟨some i,none,.mv (.tmp d)⟩])))
@[simp] def v_(d:Nat)(z:List Value)(n a:Nat):bm:=⟨some d,none,.gC 1 z [(0,(n,(.tmp a)))]⟩
@[simp] def A_(d:Nat)(z:List Value)(n a b:Nat):bm:=⟨some d,none,.append z n false (.tmp a) (.tmp b)⟩
@[simp] def X_(d:Nat)(o:BinOp)(a b:Nat):bm:=⟨some d,none,.bin o [1] (.tmp a) (.tmp b)⟩
@[simp] def Y_(d:Nat)(o:BinOp)(a:Nat)(n:Int):bm:=⟨some d,none,.bin o [1] (.tmp a) (.const (.int .i64 n))⟩
@[simp] def K_(d:Nat)(z:List Value):bm:=⟨some d,none,.alloc z⟩
@[simp] def Z_(d:Nat):bm:=⟨some d,none,.mv (.const (.slice none 0 0))⟩
@[simp] def E_(d i a:Nat):bm:=⟨some d,none,.ext i (.tmp a)⟩
@[simp] def n_(d a:Nat):bm:=⟨some d,none,.xY (.tmp a)⟩
@[simp] def yK:List Value:=[(.bool false),(.int .i64 0)]
@[simp] def D6:List Value:=[(.int .i64 0)]
@[simp] def EA:List Value:=[(.slice none 0 0),(.slice none 0 0),(.int .i64 0),(.bool false),(.int .i64 0),(.slice none 0 0)]
@[simp] def LI:List Value:=[(.int .i64 0),(.int .i64 0)]
@[simp] def LJ:List Value:=[(.int .i64 0),(.bool false),(.int .i64 0)]
@[simp] def L0:List Value:=[(.int .i64 0),(.int .i64 0),(.bool false),(.int .i64 0),(.bool false),(.int .i64 0),(.int .i64 0),(.slice none 0 0)]
@[simp] def Ry:List Value:=[(.int .i64 0),(.slice none 0 0)]
@[simp] def VO:List Value:=[(.slice none 0 0)]
@[simp] def Wt:List Value:=[(.string ⟨⟨[]⟩⟩),(.int .i64 0),(.int .i64 0),(.slice none 0 0)]
@[simp] def w9_:List Value:=[(.bool false),(.bool false),(.bool false)]
@[simp] def Rw:List Value:=[(.bool false)]
@[simp] def VN:List Value:=[(.slice none 0 0),(.slice none 0 0)]
@[simp] def acR:List Value:=[(.slice none 0 0),(.slice none 0 0),(.string ⟨⟨[]⟩⟩),(.int .i64 0),(.int .i64 0),(.slice none 0 0),(.slice none 0 0)]
@[simp] def acS:List Value:=[(.string ⟨⟨[]⟩⟩)]
@[simp] def ahv:List Value:=[(.string ⟨⟨[]⟩⟩),(.int .i64 0),(.slice none 0 0)]
@[simp] def am3:List Value:=[(.int .i64 0),(.bool false),(.int .i64 0),(.slice none 0 0)]
namespace Tr
variable{α:Type}
theorem Sq(x:Option α):∀(f:Nat)(t:Tr α)(k j:Nat),k<f->(put f t k x).get j=if j=k then x else t.get j:=by
 intro f;induction f with
 |zero=>intro t k j h;omega
 |succ f ih=>
  intro t k j h;cases t with
  |nil=>
   cases k with
   |zero=>cases j with
    |zero=>simp[put,get]
    |succ j=>simp[put,get]
   |succ k=>
    have hk:k/2<f:=by omega
    cases j with
    |zero=>
     have:¬(0=k+1):=by omega
     unfold put;dsimp only;cases hb:Nat.beq (k%2) 0<;>simp[get]
    |succ j=>
     unfold put;dsimp only;cases hb:Nat.beq (k%2) 0<;>cases hj:Nat.beq (j%2) 0<;>simp only[get,hj,cond_true,cond_false,ih _ _ _ hk]
     .have h1:k%2≠0:=by intro h;rw[h] at hb;cases hb
      have h2:j%2≠0:=by intro h;rw[h] at hj;cases hj
      by_cases e:j=k
      .subst e;simp
      .have:j/2≠k/2:=by omega
       simp[e,this]
     .have h1:k%2≠0:=by intro h;rw[h] at hb;cases hb
      have h2:=qW hj;have:j≠k:=by rintro rfl;omega
      simp[this]
     .have h1:=qW hb;have h2:j%2≠0:=by intro h;rw[h] at hj;cases hj
      have:j≠k:=by rintro rfl;omega
      simp[this]
     .have h1:=qW hb;have h2:=qW hj;by_cases e:j=k
      .subst e;simp
      .have:j/2≠k/2:=by omega
       simp[e,this]
  |node v l r=>
   cases k with
   |zero=>cases j with
    |zero=>simp[put,get]
    |succ j=>simp[put,get]
   |succ k=>
    have hk:k/2<f:=by omega
    cases j with
    |zero=>
     unfold put;dsimp only;cases hb:Nat.beq (k%2) 0<;>simp[get]
    |succ j=>
     unfold put;dsimp only;cases hb:Nat.beq (k%2) 0<;>cases hj:Nat.beq (j%2) 0<;>simp only[get,hj,cond_true,cond_false,ih _ _ _ hk]
     .have h1:k%2≠0:=by intro h;rw[h] at hb;cases hb
      have h2:j%2≠0:=by intro h;rw[h] at hj;cases hj
      by_cases e:j=k
      .subst e;simp
      .have:j/2≠k/2:=by omega
       simp[e,this]
     .have h1:k%2≠0:=by intro h;rw[h] at hb;cases hb
      have h2:=qW hj;have:j≠k:=by rintro rfl;omega
      simp[this]
     .have h1:=qW hb;have h2:j%2≠0:=by intro h;rw[h] at hj;cases hj
      have:j≠k:=by rintro rfl;omega
      simp[this]
     .have h1:=qW hb;have h2:=qW hj;by_cases e:j=k
      .subst e;simp
      .have:j/2≠k/2:=by omega
       simp[e,this]
theorem aW(t:Tr α)(k j:Nat)(x:α):(t.set k x).get j=if j=k then some x else t.get j:=Sq (some x) _ t k j (by omega)
theorem nq(t:Tr α)(k j:Nat):(t.del k).get j=if j=k then none else t.get j:=Sq none _ t k j (by omega)
end Tr
theorem Env.aW(e:Env)(k j:Nat)(v:Value):ai (Tr.set e k v) j=if j=k then v else ai e j:=by unfold ai;rw[Tr.aW];split<;>rfl
inductive All2{α β:Type}(R:α->β->Prop):List α->List β->Prop
 |nil:All2 R [] []
 |cons {a b as' bs} (h:R a b) (hs:All2 R as' bs):All2 R (a::as') (b::bs)
namespace All2
variable{α β:Type}{R S:α->β->Prop}
theorem length{l:List α}{m:List β}(h:All2 R l m):l.length=m.length:=by
 induction h with
 |nil=>rfl
 |cons _ _ ih=>simp[ih]
theorem mono{l:List α}{m:List β}(hm:∀a b,R a b->S a b)(h:All2 R l m):All2 S l m:=by
 induction h with
 |nil=>exact .nil
 |cons h _ ih=>exact .cons (hm _ _ h) ih
theorem app{l l':List α}{m m':List β}(h:All2 R l m)(h':All2 R l' m'):All2 R (l++l') (m++m'):=by
 induction h with
 |nil=>exact h'
 |cons h _ ih=>exact .cons h ih
theorem take{l:List α}{m:List β}(h:All2 R l m):∀n,All2 R (l.take n) (m.take n):=by
 induction h with
 |nil=>intro n;simpa using .nil
 |cons h _ ih=>intro n;cases n with
  |zero=>simpa using .nil
  |succ n=>simpa using .cons h (ih n)
theorem drop{l:List α}{m:List β}(h:All2 R l m):∀n,All2 R (l.drop n) (m.drop n):=by
 induction h with
 |nil=>intro n;simpa using .nil
 |cons h hs ih=>intro n;cases n with
  |zero=>simpa using .cons h hs
  |succ n=>simpa using ih n
theorem get{l:List α}{m:List β}(h:All2 R l m):∀ {i:Nat} {a:α},l[i]?=some a->∃b,m[i]?=some b/\R a b:=by
 induction h with
 |nil=>intro i a h;simp at h
 |cons h _ ih=>
  intro i a hi;cases i with
  |zero=>simp at hi;subst hi;exact⟨_,rfl,h⟩
  |succ i=>simp at hi;simpa using ih hi
theorem agL{l:List α} :∀ {m:List β},l.length=m.length->(∀(i:Nat)(a:α)(b:β),l[i]?=some a->m[i]?=some b->R a b)->All2 R l m:=by
 induction l with
 |nil=>intro m h _;cases m with
  |nil=>exact .nil
  |cons=>simp at h
 |cons a l ih=>intro m h hg;cases m with
  |nil=>simp at h
  |cons b m=>exact .cons (hg 0 a b rfl rfl) (ih (by simpa using h) fun i x y hx hy=>hg (i+1) x y (by simpa using hx) (by simpa using hy))
end All2
structure zP where
 aC:Nat
 base:Nat
 len:Nat
 GR:Nat
 room:Nat
abbrev eU:=Nat->Option zP
def ua(r:zP)(o len cap:Nat)(ca:Addr)(ccap:Nat):Prop:=
 (ca=⟨r.aC,r.base+o,none⟩\/(ccap=0/\cap=0))/\(ccap=cap\/(r.GR≠0/\cap<=ccap/\o+cap*r.GR=r.len/\o+ccap*r.GR<=r.room))/\len<=cap
inductive CR(ρ:eU):Value->Value->Prop
 |bool (b:Bool):CR ρ (.bool b) (.bool b)
 |int (k:IntKind) (n:Int):CR ρ (.int k n) (.int k n)
 |str (s:ByteArray):CR ρ (.string s) (.string s)
 |GH:CR ρ (.pointer none) (.pointer none)
 |ptr {b o:Nat} {r:zP} (h:ρ b=some r):CR ρ (.pointer (some ⟨b,o,none⟩)) (.pointer (some ⟨r.aC,r.base+o,none⟩))
 |qb (n c:Nat):CR ρ (.slice none n c) (.slice none n c)
 |slice {b o len cap ccap:Nat} {ca:Addr} {r:zP} (h:ρ b=some r) (hs:ua r o len cap ca ccap):CR ρ (.slice (some ⟨b,o,none⟩) len cap) (.slice (some ca) len ccap)
 |CU:CR ρ (.map none) (.map none)
 |map {m:Nat} {r:zP} (h:ρ m=some r):CR ρ (.map (some m)) (.map (some r.aC))
 |BU:CR ρ .nilFunc .nilFunc
 |xZ:CR ρ .nilIface .nilIface
inductive KR(ρ:eU):Value->Value->Prop
 |cell {v c:Value} (h:CR ρ v c):KR ρ v c
 |fn (f:FuncId) {l m:List Value} (h:All2 (CR ρ) l m):KR ρ (.func (.func f) #[] ⟨l⟩) (.func (.func f) #[] ⟨m⟩)
 |yield {l:Nat} {r:zP} (h:ρ l=some r):KR ρ (.func (.yield l) #[] #[]) (.func (.yield r.aC) #[] #[])
inductive AR(ρ:eU):Value->Value->Prop
 |cell {v c:Value} (h:KR ρ v c):AR ρ v c
 |agg {l m:List Value} (h:All2 (KR ρ) l m):AR ρ (.agg ⟨l⟩) (.agg ⟨m⟩)
inductive VR(ρ:eU):Value->Value->Prop
 |val {v c:Value} (h:AR ρ v c):VR ρ v c
 |tuple {l m:List Value} (h:All2 (AR ρ) l m):VR ρ (.tuple ⟨l⟩) (.tuple ⟨m⟩)
 |atl {n m:Nat} (h:n<=m):VR ρ (.chan (some n)) (.int .i64 m)
def eU.le(ρ ρ':eU):Prop:=∀b r,ρ b=some r->ρ' b=some r
theorem eU.le_refl(ρ:eU):ρ.le ρ:=fun _ _ h=>h
theorem eU.le_trans{a b c:eU}(h:a.le b)(h':b.le c):a.le c:=fun _ _ x=>h' _ _ (h _ _ x)
section
variable{ρ ρ':eU}{v c:Value}
theorem CR.mono(hl:ρ.le ρ')(h:CR ρ v c):CR ρ' v c:=by
 cases h with
 |bool b=>exact .bool b
 |int k n=>exact .int k n
 |str s=>exact .str s
 |GH=>exact .GH
 |ptr h=>exact .ptr (hl _ _ h)
 |qb n c=>exact .qb n c
 |slice h hs=>exact .slice (hl _ _ h) hs
 |CU=>exact .CU
 |map h=>exact .map (hl _ _ h)
 |BU=>exact .BU
 |xZ=>exact .xZ
theorem KR.mono(hl:ρ.le ρ')(h:KR ρ v c):KR ρ' v c:=by
 cases h with
 |cell h=>exact .cell (h.mono hl)
 |fn f h=>exact .fn f (h.mono fun _ _=>CR.mono hl)
 |yield h=>exact .yield (hl _ _ h)
theorem AR.mono(hl:ρ.le ρ')(h:AR ρ v c):AR ρ' v c:=by
 cases h with
 |cell h=>exact .cell (h.mono hl)
 |agg h=>exact .agg (h.mono fun _ _=>KR.mono hl)
theorem VR.mono(hl:ρ.le ρ')(h:VR ρ v c):VR ρ' v c:=by
 cases h with
 |val h=>exact .val (h.mono hl)
 |tuple h=>exact .tuple (h.mono fun _ _=>AR.mono hl)
 |atl h=>exact .atl h
theorem CR.vr(h:CR ρ v c):VR ρ v c:=.val (.cell (.cell h))
theorem KR.vr(h:KR ρ v c):VR ρ v c:=.val (.cell h)
theorem VR.undef:VR ρ (.tuple #[]) (.tuple #[]):=.tuple .nil
theorem VR.bool(b:Bool):VR ρ (.bool b) (.bool b):=(CR.bool b).vr
theorem VR.int(k:IntKind)(n:Int):VR ρ (.int k n) (.int k n):=(CR.int k n).vr
theorem KR.plain(h:KR ρ v c):AI.plain v=true/\AI.plain c=true:=by
 cases h with
 |cell h=>cases h<;>exact⟨rfl,rfl⟩
 |fn=>exact⟨rfl,rfl⟩
 |yield=>exact⟨rfl,rfl⟩
theorem CR.Js(h:VR ρ v c)(hs:simple v=true):CR ρ v c:=by
 cases h with
 |tuple=>simp[simple] at hs
 |atl=>simp[simple] at hs
 |val h=>cases h with
  |agg=>simp[simple] at hs
  |cell h=>cases h with
   |cell h=>exact h
   |fn=>simp[simple] at hs
   |yield=>simp[simple] at hs
theorem Mz(h:KR ρ v c):cellsOf v=[v]/\c.cells= #[c]:=by
 have:=h.plain;constructor
 .cases v<;>first|rfl|(simp[AI.plain] at this)
 .cases c<;>first|rfl|(simp[AI.plain] at this)
theorem FN{vs:List Value}(h:VR ρ v c)(hf:flat v=some vs):All2 (KR ρ) vs c.cells.toList:=by
 unfold flat at hf;cases hp:(cellsOf v).all AI.plain with
 |false=>simp[hp] at hf
 |true=>
  simp[hp] at hf;subst hf;cases h with
  |tuple=>simp[cellsOf,AI.plain] at hp
  |atl=>simp[cellsOf,AI.plain] at hp
  |val h=>cases h with
   |agg h=>simpa [cellsOf,Value.cells] using h
   |cell h=>
    obtain⟨h1,h2⟩:=Mz h;rw[h1,h2];exact .cons h .nil
end
def rV.rw:rV->Bool
 |.aC _ ro _ _=> !ro
 |_=>true
def eH(h:ab)(b:Nat):Prop:=∃o,h.tr.get b=some o/\o.rw=true
end Go.AI
namespace Go.AI
variable{L:Loop}{a:Act}{args tmps:Array Value}{c' p q v v':Value}{ca:Addr}{cp i id l len m n off r:Nat}{e_ vs:List Value}{el t:TypeId}{f x y:Operand}{fn:Func}{fs:List Field}{hi lo mx:Option Operand}{ks:List Nat}{o:Oper}{op:BinOp}{ops:Array Oper}{ps rs:Array TypeId}{qT vr:Bool}{w w':World}{α β:Type}
def on(b:Frame)(a:Act)(todo:List Item):Frame:= {b with tmps:=a.tmps,todo:=todo,defers:=a.defers,mode:=.run}
theorem SP(b:Frame)(a:Act)(todo:List Item):(on b a todo).eval=a.eval:=by funext x;cases x<;>rfl
section
variable{P:Program}{b:Frame}{a:Act}{k:List Item}{cs:List Frame}{w:World}
theorem ahq:step P (lone (on b a (.code .skip::k)) cs w)=.next (lone (on b a k) cs w):=
 step_lone_go (by simp[stepG,stepG.exec,on])
theorem acC :step P (lone (on b a (.code (.label l)::k)) cs w)=.next (lone (on b a k) cs w):=
 step_lone_go (by simp[stepG,stepG.exec,on])
theorem VC :step P (lone (on b a (.inBlock id::k)) cs w)=.next (lone (on b a k) cs w):=
 step_lone_go (by simp[stepG,stepG.exec,on])
theorem VD{c:Code} :step P (lone (on b a (.inScope c::k)) cs w)=.next (lone (on b a k) cs w):=
 step_lone_go (by simp[stepG,stepG.exec,on])
theorem Lq{c:Code} :step P (lone (on b a (.code (.scope c)::k)) cs w)=.next (lone (on b a (.code c:: .inScope c::k)) cs w):=
 step_lone_go (by simp[stepG,stepG.exec,on])
theorem ZN{x y:Code} :step P (lone (on b a (.code (.seq x y)::k)) cs w)=.next (lone (on b a (.code x:: .code y::k)) cs w):=
 step_lone_go (by simp[stepG,stepG.exec,on])
theorem ZJ{c:Operand}{x y:Code}{t:Bool}(h:a.eval c=.bool t):step P (lone (on b a (.code (.cond c x y)::k)) cs w)=.next (lone (on b a (.code (if t then x else y)::k)) cs w):=
 step_lone_go (by have:=SP b a (.code (.cond c x y)::k);simp only[on] at this;simp[stepG,stepG.exec,on,this,h])
theorem EU{c:Code} :step P (lone (on b a (.code (.block id c)::k)) cs w)=.next (lone (on b a (.code c:: .inBlock id::k)) cs w):=
 step_lone_go (by simp[stepG,stepG.exec,on])
theorem Lo{c:Code} :step P (lone (on b a (.code (.loop c)::k)) cs w)=.next (lone (on b a (.code c:: .inLoop c::k)) cs w):=
 step_lone_go (by simp[stepG,stepG.exec,on])
theorem ZL{c:Code} :step P (lone (on b a (.inLoop c::k)) cs w)=.next (lone (on b a (.code c:: .inLoop c::k)) cs w):=
 step_lone_go (by simp[stepG,stepG.exec,on])
theorem ahp{k':List Item}(h:exitTo id k=some k'):step P (lone (on b a (.code (.exit id)::k)) cs w)=.next (lone (on b a k') cs w):=
 step_lone_go (by simp[stepG,stepG.exec,on,h])
theorem ZM{id:Nat}{ops:Array Oper} :step P (lone (on b a (.code (.region id ops false)::k)) cs w)=.next (lone (on b a (.inRegion ops (List.range ops.size)::k)) cs w):=
 step_lone_go (by simp[stepG,stepG.exec,on])
theorem aho{id:Nat}{ops:Array Oper} :step P (lone (on b a (.code (.region id ops true)::k)) cs w)=
   .next (lone (on b a (.inRegion ops (Region.schedule (P.follows .mixedOrders) ops (w.tape w.drawn (.order b.fn id)))::k)) cs {w with drawn:=w.drawn+1}):=
 step_lone_go (by simp[stepG,stepG.exec,on,choose,Sem.run,Question.forced,Question.cut])
theorem B7 :step P (lone (on b a (.inRegion ops []::k)) cs w)=.next (lone (on b a k) cs w):=
 step_lone_go (by simp[stepG,stepG.exec,on])
theorem yk(b:Frame)(a:Act)(ops:Array Oper)(i:Nat)(bw:List Nat)(k:List Item)(v:Value):(on b a (.inRegion ops (i::bw)::k)).finish v=on b (a.put ((ops[i]?).bind (·.dst)) v) (.inRegion ops bw::k):=by
 cases h:(ops[i]?).bind (·.dst)<;>simp[Frame.finish,on,Act.put,h]
theorem JE{bw:List Nat}(h:((ops[i]?).map (Region.wanted · (yielded ops a.tmps))).getD false=false):step P (lone (on b a (.inRegion ops (i::bw)::k)) cs w)=
   .next (lone (on b (a.put ((ops[i]?).bind (·.dst)) undef) (.inRegion ops bw::k)) cs w):=by
 rw[<-yk];exact step_lone_go (by have h':=h;simp only[on] at*;simp[stepG,stepG.exec,h'])
def Op.uq:Op->Bool
 |.defer _=>true
 |_=>false
theorem Cd{bw:List Nat}(ho:ops[i]?=some o)(hw:Region.wanted o (yielded ops a.tmps)=true)(hd:Op.uq o.op=false):stepG P true { frame:=on b a (.inRegion ops (i::bw)::k),callers:=cs,status:=.running,dying:=none } w=
   stepG.apply P true (on b a (.inRegion ops (i::bw)::k)) cs none (execOp a.eval o) w:=by
 have he:=SP b a (.inRegion ops (i::bw)::k);simp only[on] at he;simp only[stepG,stepG.exec,stepG.oper,Frame.oper?,on,ho,hw,he,EF,Option.getD_some,if_true];split
 .next heq=>rw[heq] at hd;simp[Op.uq] at hd
 .rfl
theorem Ls{bw:List Nat}(ho:ops[i]?=some o)(hw:Region.wanted o (yielded ops a.tmps)=true)(hd:Op.uq o.op=false)(hr:(execOp a.eval o).run P w=.ok (.value v) w'):step P (lone (on b a (.inRegion ops (i::bw)::k)) cs w)=.next (lone (on b (a.put o.dst v) (.inRegion ops bw::k)) cs w'):=by
 refine step_lone_go ?_;have hf:=yk b a ops i bw k v;rw[ho] at hf;rw[Cd ho hw hd];simp only[Option.bind_some] at hf;rw[<-hf];simp[stepG.apply,hr]
theorem S8{bw:List Nat}(ho:ops[i]?=some o)(hw:Region.wanted o (yielded ops a.tmps)=true)(hd:Op.uq o.op=false)(hr:(execOp a.eval o).run P w=.ok .skip w'):step P (lone (on b a (.inRegion ops (i::bw)::k)) cs w)=.next (lone (on b (a.put o.dst undef) (.inRegion ops bw::k)) cs w'):=by
 refine step_lone_go ?_;have hf:=yk b a ops i bw k undef;rw[ho] at hf;rw[Cd ho hw hd];simp only[Option.bind_some] at hf;rw[<-hf];simp[stepG.apply,hr]
theorem acB{bw:List Nat}{f:FuncId}(ho:ops[i]?=some o)(hw:Region.wanted o (yielded ops a.tmps)=true)(hd:Op.uq o.op=false)(hr:(execOp a.eval o).run P w=.ok (.enter f args) w'):step P (lone (on b a (.inRegion ops (i::bw)::k)) cs w)=
   .next (lone (Frame.enter P f args .normal) (on b a (.inRegion ops (i::bw)::k)::cs) w'):=by
 refine step_lone_go ?_;rw[Cd ho hw hd];simp[stepG.apply,hr,on]
theorem acD{bw:List Nat}{l f:Nat}{asg body:Code}(ho:ops[i]?=some o)(hw:Region.wanted o (yielded ops a.tmps)=true)(hd:Op.uq o.op=false)(hr:(execOp a.eval o).run P w=.ok (.round l f tmps asg body) w'):step P (lone (on b a (.inRegion ops (i::bw)::k)) cs w)=
   .next (lone (Frame.round l f tmps asg body .normal) (on b a (.inRegion ops (i::bw)::k)::cs) w'):=by
 refine step_lone_go ?_;rw[Cd ho hw hd];simp[stepG.apply,hr]
end
def cr:Value->Bool
 |.bool _|.int _ _|.string _|.pointer none|.slice none _ _|.map none|.nilFunc|.nilIface=>true
 |_=>false
structure TI where
 u:TypeDesc
 size:Nat
 bytes:Nat
 zero:List Value
 agg:Bool
abbrev r8:=Nat->Option TI
def qt:TypeDesc->Bool
 |.struct _=>true
 |.array _ _=>true
 |_=>false
structure uG(P:Program)(t:Nat)(i:TI):Prop where
 u:P.underlying t=some i.u
 info:∃ti,P.info? t=some ti/\ti.size=i.size/\ti.bytes=i.bytes/\∃z,ti.zero=some z/\z.cells.toList=i.zero
 agg:i.agg=qt i.u
 zero:i.zero.all cr=true
 plain:i.agg=false->i.size=1
 len:i.zero.length=i.size
 held:∀fs,i.u=.struct fs->P.stoodInHeld t=false
 one:i.agg=false->∀ti z,P.info? t=some ti->ti.zero=some z->AI.plain z=true
def dv(P:Program)(T:r8):Prop:=∀t i,T t=some i->uG P t i
def sQ(T:r8):Nat->List Field->Option Nat
 |off,[]=>some off
 |off,f::fs=>bif Nat.beq f.offset off then match T f.type with
   |some i=>sQ T (off+i.size) fs
   |none=>none
  else none
def pL(k:Nat->Option (List Nat)):List Field->Option (List Nat)
 |[]=>some []
 |f::fs=>bif f.name != "_" then match k f.type,pL k fs with
   |some a,some b=>some (a++b)
   |_,_=>none
  else none
def Q9(ks:List Nat):Nat->List Nat
 |0=>[]
 |n+1=>ks++Q9 ks n
def kinds(T:r8):Nat->Nat->Option (List Nat)
 |0,_=>none
 |d+1,t=>match T t with
  |none=>none
  |some i=>match i.u with
   |.bool=>some [0]
   |.int _=>some [1]
   |.string=>some [2]
   |.struct fs=>match sQ T 0 fs.toList with
    |some n=>bif Nat.beq n i.size then pL (kinds T d) fs.toList else none
    |none=>none
   |.array n el=>match T el with
    |some e=>bif Nat.beq (n*e.size) i.size then(match kinds T d el with|some ks=>some (Q9 ks n)|none=>none) else none
    |none=>none
   |_=>none
section
variable(T:r8)
def AZ(i:TI):Option Nat:=bif i.agg then some i.size else none
def yi(c:Call):kM:=
 match c.callee with
 |.value f=>.call f c.args.toList
 |.builtin .len=>match c.args.toList,c.argTypes.toList with
  |[x],[t]=>match T t with
   |some i=>match i.u with|.slice _=>.tS x|.string=>.Lz x|_=>.bad
   |none=>.bad
  |_,_=>.bad
 |.builtin .append=>match c.args.toList,c.argTypes.toList with
  |[s,x],[t,t']=>match T t,T t' with
   |some i,some i'=>match i.u with
    |.slice el=>match T el with
     |some e=>match i'.u with
      |.int _=>.append e.zero e.bytes true s x
      |.slice _=>.append e.zero e.bytes false s x
      |_=>.bad
     |none=>.bad
    |_=>.bad
   |_,_=>.bad
  |_,_=>.bad
 |.builtin .copy=>match c.args.toList,c.argTypes.toList with
  |[d,s],[t,_]=>match T t with
   |some i=>match i.u with
    |.slice el=>match T el with
     |some e=>.copy e.size d s
     |none=>.bad
    |_=>.bad
   |none=>.bad
  |_,_=>.bad
 |.builtin .clear=>match c.args.toList,c.argTypes.toList with
  |[x],[t]=>match T t with
   |some i=>match i.u with
    |.slice el=>match T el with
     |some e=>.clear e.zero x
     |none=>.bad
    |_=>.bad
   |none=>.bad
  |_,_=>.bad
 |.builtin .cap=>match c.args.toList,c.argTypes.toList with
  |[x],[t]=>match T t with
   |some i=>match i.u with|.slice _=>.Pq x|_=>.bad
   |none=>.bad
  |_,_=>.bad
 |.builtin .min=>match c.args.toList with
  |[x,y]=>.Mi x y
  |_=>.bad
 |_=>.bad
def v9(fs:List Field):List (Nat×Operand)->Option (List (Nat×Nat×Operand))
 |[]=>some []
 |(i,x)::r=>match fs[i]? with
  |none=>none
  |some f=>match T f.type,v9 fs r with
   |some ti,some l=>some ((f.offset,ti.size,x)::l)
   |_,_=>none
def cI(o:Op):kM:=
 match o with
 |.move x=>.mv x
 |.assign x=>.mv x
 |.pick c a b=>.pick c a b
 |.alloc t=>match T t with|some i=>.alloc i.zero|none=>.bad
 |.box t x=>match T t with|some _=>.box x|none=>.bad
 |.build t ps=>match T t with
  |some i=>match i.u with
   |.struct fs=>bif fs.toList.all fun f=>(T f.type).isSome then match v9 T fs.toList ps.toList with|some l=>.build i.zero l|none=>.bad else .bad
   |.array _ el=>match T el with
    |some e=>.build i.zero (ps.toList.map fun p=>(p.1*e.size,e.size,p.2))
    |none=>.bad
   |_=>.bad
  |none=>.bad
 |.buildSlice t n ps=>match T t with
  |some i=>match i.u with
   |.slice el=>match T el with
    |some e=>bif Nat.ble (n*e.size) 1000000&&Nat.beq e.zero.length e.size then .gC n (iP e.zero n) (ps.toList.map fun p=>(p.1*e.size,e.size,p.2)) else .bad
    |none=>.bad
   |_=>.bad
  |none=>.bad
 |.load t a=>match T t with|some i=>.load (AZ i) a|none=>.bad
 |.store t a v=>match T t with|some i=>.store i.size a v|none=>.bad
 |.nilCheck x=>.xY x
 |.binOp op t x y _=>match op with
  |.eql|.neq=>match T t with
   |some i=>match i.u with
    |.slice _=>.bin op [3] x y
    |.pointer _=>.bin op [4] x y
    |.map _ _=>.bin op [5] x y
    |.func _ _ _=>.bin op [6] x y
    |.struct _=>match kinds T 9 t with|some ks=>.bin op (9::ks) x y|none=>.bad
    |.array _ _=>match kinds T 9 t with|some ks=>.bin op (9::ks) x y|none=>.bad
    |.bool=>.bin op [0] x y
    |.int _=>.bin op [1] x y
    |.string=>.bin op [2] x y
    |_=>.bad
   |none=>.bad
  |_=>.bin op [] x y
 |.unOp op _ x=>.un op x
 |.convert s d x=>match T s,T d with
  |some i,some j=>match i.u,j.u with
   |.int _,.int k=>.conv k x
   |_,_=>.bad
  |_,_=>.bad
 |.makeFunc (.func f) first caps=>bif first.isEmpty then .tX f caps.toList else .bad
 |.makeSlice t l c=>match T t with
  |some i=>match i.u with
   |.slice el=>match T el with
    |some e=>.gK e.zero e.bytes l c
    |none=>.bad
   |_=>.bad
  |none=>.bad
 |.slice t x lo hi mx=>match T t with
  |some i=>match i.u with
   |.slice el=>match T el with
    |some e=>bif mx.isSome&&hi.isNone then .bad else .slice e.size x lo hi mx
    |none=>.bad
   |_=>.bad
  |none=>.bad
 |.fieldAddr t x k=>match T t with
  |some i=>match i.u with
   |.struct fs=>match fs[k]? with
    |some f=>match T f.type with
     |some fi=>bif Nat.beq fi.size 0 then .bad else .ee f.offset x
     |none=>.bad
    |none=>.bad
   |_=>.bad
  |none=>.bad
 |.indexAddr t x ix=>match T t with
  |some i=>match i.u with
   |.slice el=>match T el with|some e=>.dx none e.size x ix|none=>.bad
   |.array n el=>match T el with|some e=>.dx (some n) e.size x ix|none=>.bad
   |_=>.bad
  |none=>.bad
 |.index t x ix=>match T t with
  |some i=>match i.u with
   |.string=>.index none x ix
   |.array n el=>match T el with
    |some e=>.index (some (n,e.size,AZ e)) x ix
    |none=>.bad
   |_=>.bad
  |none=>.bad
 |.extract x i=>.ext i x
 |.call c=>yi T c
 |_=>.bad
def Km:Value->Bool
 |.agg cs=>cs.toList.all cr
 |.tuple cs=>cs.toList.isEmpty
 |v=>cr v
def bG(ng:Nat):Operand->Bool
 |.const v=>Km v
 |.global g=>Nat.blt g ng
 |_=>true
def C0(ops:List Oper)(j:Nat):Option Nat:=match ops[j]? with|some o=>o.dst|none=>none
def uV(ng n:Nat)(ops:List Oper)(o:Oper):Bool:=
 (match o.dst with|none=>true|some d=>Nat.blt d n)&&(match o.guard with|none=>true|some (j,_)=>(C0 ops j).isSome)&&o.op.operands.toList.all (bG ng)
def guardOf(ops:List Oper)(o:Oper):Option (Nat×Bool):=match o.guard with|none=>none|some (j,b)=>some ((C0 ops j).getD 0,b)
def aU(ng n:Nat)(ops:List Oper)(o:Oper):bm:=
 bif uV ng n ops o then { dst:=o.dst,guard:=guardOf ops o,op:=cI T o.op } else { dst:=none,guard:=none,op:=.bad }
def j6:Code->Bool
 |.seq a b=>j6 a&&j6 b
 |.cond _ a b=>j6 a&&j6 b
 |.block _ c=>j6 c
 |.loop c=>j6 c
 |.scope c=>j6 c
 |.rangeFunc _ _ _ _=>false
 |_=>true
def bX(ng n:Nat)(dr:Nat->List Oper->List (bm×List Nat)):Code->ak
 |.skip=>.skip
 |.region _ ops false=>.ops (ops.toList.map (aU T ng n ops.toList))
 |.region _ ops true=>.draw (dr n ops.toList)
 |.seq a b=>.seq (bX ng n dr a) (bX ng n dr b)
 |.cond c a b=>bif bG ng c then .cond c (bX ng n dr a) (bX ng n dr b) else .bad
 |.block id c=>.block id (bX ng n dr c)
 |.loop c=>.loop (bX ng n dr c)
 |.scope c=>bX ng n dr c
 |.label _=>.skip
 |.rangeFunc f ps a b=>bif bG ng f&&ps.toList.all (Nat.blt · n)&&j6 a&&j6 b then .ET f ps.toList (bX ng n dr a) (bX ng n dr b) else .bad
 |.exit id=>.exit id
 |.ret=>.ret
 |_=>.bad
end
def ER(ρ:eU)(e:Env)(tmps:Array Value):Prop:=∀t,VR ρ (ai e t) (tmps.getD t undef)
def JM:VT->Loop->Prop
 |.ready,L=>L.state=.ready/\L.pending=none
 |.busy,L=>L.state=.busy
 |.done none,L=>L.state=.done/\L.pending=some .ret
 |.done (some id),L=>L.state=.done/\L.pending=some (.exit id)
def Wv(ρ:eU)(r:zP)(cs:List Value)(ro:Bool)(o:Nat)(w:World):Prop:=
 ∃(e_:Array Value) (el:TypeId) (fr:Nat×Nat),w.heap[r.aC]?=some (.cells e_ el fr)/\r.len=cs.length/\r.GR=o/\(r.base+r.room=e_.size/\(o≠0->∀(j:Nat)(c:Value),r.len<=j->e_[r.base+j]?=some c->cr c=true))/\(ro=false->fr=(0,0))/\∀(j:Nat)(v:Value),cs[j]?=some v->∃c,e_[r.base+j]?=some c/\KR ρ v c
abbrev cn:=Nat->ak->Code->Prop
def WD(CC:cn)(ρ:eU)(r:zP)(env:Env)(ps:List Nat)(asg body:ak)(st:VT)(w:World):Prop:=
 ∃L:Loop,w.heap[r.aC]?=some (.loop L)/\ER ρ env L.tmps/\L.params.toList=ps/\CC L.tmps.size asg L.assign/\CC L.tmps.size body L.body/\(∀t∈ps,t<L.tmps.size)/\JM st L
def aiU(ρ:eU)(r:zP)(es:List (Value×Value))(w:World):Prop:=
 ∃(ces:Array MapEntry) (clock:Nat),w.heap[r.aC]?=some (.map ces clock)/\All2 (fun(x:Value×Value) (y:MapEntry)=>AR ρ x.1 y.key/\AR ρ x.2 y.val) es ces.toList/\clock=ces.size/\∀(i:Nat)(y:MapEntry),ces[i]?=some y->y.born=i
def jA(CC:cn)(ρ:eU)(r:zP)(o:rV)(w:World):Prop:=
 match o with
 |.aC cs ro op _=>Wv ρ r cs ro op w
 |.loop env ps asg body st=>WD CC ρ r env ps asg body st w
 |.map es=>aiU ρ r es w
 |.itr=>r.base=0/\w.heap[r.aC]?=some (.mapIter none 0 #[] 0)
structure dI(CC:cn)(ρ:eU)(h:ab)(w:World):Prop where
 low:∀b r,ρ b=some r->b<h.next/\r.aC<w.heap.size
 obj:∀b r o,ρ b=some r->h.tr.get b=some o->jA CC ρ r o w
 inj:∀b b' r r' o,ρ b=some r->ρ b'=some r'->eH h b->h.tr.get b'=some o->b≠b'->r.aC≠r'.aC
 wf:∀b o,h.tr.get b=some o->b<h.next
structure Ext(ρ:eU)(h:ab)(w:World)(ρ':eU)(h':ab)(w':World):Prop where
 le:ρ.le ρ'
 next:h.next<=h'.next
 size:w.heap.size<=w'.heap.size
 os:w'.os=w.os
 tape:w'.tape=w.tape
 output:w'.output=w.output
 uQ:∀k,k<w.heap.size->(∀b r,ρ b=some r->eH h b->r.aC≠k)->w'.heap[k]?=w.heap[k]?
 own:∀b r,ρ' b=some r->eH h' b->w.heap.size<=r.aC\/∃b₀ r₀,ρ b₀=some r₀/\eH h b₀/\r₀.aC=r.aC
 new:∀b r,ρ' b=some r->ρ b=none->h.next<=b
 live:∀b r o,ρ' b=some r->h'.tr.get b=some o->w.heap.size<=r.aC\/∃b₀ r₀ o₀,ρ b₀=some r₀/\h.tr.get b₀=some o₀/\r₀.aC=r.aC
theorem Ext.refl(ρ:eU)(h:ab)(w:World):Ext ρ h w ρ h w:=
 ⟨ρ.le_refl,dH _,dH _,rfl,rfl,rfl,fun _ _ _=>rfl,fun b r hb hw=>.inr ⟨b,r,hb,hw,rfl⟩,fun b r h h'=>(by rw[h] at h';cases h'),fun b r o hb ho=>.inr ⟨b,r,o,hb,ho,rfl⟩⟩
theorem Ext.trans{ρ ρ₁ ρ₂:eU}{h h₁ h₂:ab}{w w₁ w₂:World}(a:Ext ρ h w ρ₁ h₁ w₁)(b:Ext ρ₁ h₁ w₁ ρ₂ h₂ w₂):Ext ρ h w ρ₂ h₂ w₂:=by
 refine⟨eU.le_trans a.le b.le,xf a.next b.next,xf a.size b.size,b.os.trans a.os,b.tape.trans a.tape,b.output.trans a.output,?_,?_,?_,?_⟩
 .intro k hk hn;rw[b.uQ k (En hk a.size) ?_,a.uQ k hk hn];intro x r hx hw e;rcases a.own x r hx hw with h|⟨b₀,r₀,h0,Wl,e0⟩
  .omega
  .exact hn b₀ r₀ h0 Wl (e0.trans e)
 .intro x r hx hw;rcases b.own x r hx hw with h|⟨b₀,r₀,h0,Wl,e0⟩
  .exact .inl (xf a.size h)
  .rcases a.own b₀ r₀ h0 Wl with h|⟨b₁,r₁,h1,hw1,e1⟩
   .exact .inl (e0▸h)
   .exact .inr ⟨b₁,r₁,h1,hw1,e1.trans e0⟩
 .intro x r hx hn;cases h1:ρ₁ x with
  |none=>exact xf a.next (b.new x r hx h1)
  |some r1=>exact a.new x r1 h1 hn
 .intro x r o hx ho;rcases b.live x r o hx ho with h|⟨b₀,r₀,o₀,h0,ho0,e0⟩
  .exact .inl (xf a.size h)
  .rcases a.live b₀ r₀ o₀ h0 ho0 with h|⟨b₁,r₁,o₁,h1,ho1,e1⟩
   .exact .inl (e0▸h)
   .exact .inr ⟨b₁,r₁,o₁,h1,ho1,e1.trans e0⟩
theorem ER.mono{ρ ρ':eU}{e:Env}{tmps:Array Value}(hl:ρ.le ρ')(h:ER ρ e tmps):ER ρ' e tmps:=fun t=>(h t).mono hl
def cQ(ng:Nat)(ρ:eU):Prop:=∀g,g<ng->∃r,ρ g=some r/\r.aC=g/\r.base=0
theorem pK{ρ:eU}(h:cr v=true):CR ρ v v:=by
 unfold cr at h;split at h
 .exact .bool _
 .exact .int _ _
 .exact .str _
 .exact .GH
 .exact .qb _ _
 .exact .CU
 .exact .BU
 .exact .xZ
 .cases h
theorem ec{ρ:eU} :∀ {l:List Value},l.all cr=true->All2 (KR ρ) l l
 |[],_=>.nil
 |v::l,h=>by simp only[List.all_cons,zr] at h;exact .cons (.cell (pK h.1)) (ec h.2)
theorem MI{ρ:eU}(h:Km v=true):VR ρ v v:=by
 unfold Km at h;split at h
 .rename_i cs;exact .val (.agg (ec h))
 .rename_i cs;obtain⟨l⟩:=cs;cases l with
  |nil=>exact .tuple .nil
  |cons=>simp at h
 .exact(pK h).vr
theorem ER.eval{ng:Nat}{ρ:eU}{e:Env}{a:Act}(h:ER ρ e a.tmps)(hg:cQ ng ρ):∀ {x:Operand},bG ng x=true->VR ρ (ev e x) (a.eval x)
 |.tmp t,_=>h t
 |.const _,hc=>MI hc
 |.global g,hc=>by obtain⟨r,hr,hb,h0⟩:=hg g (by simpa [bG,Nat.blt_eq] using hc);have:=CR.ptr (o:=0) hr;rw[hb,h0] at this;exact this.vr
 |.func f,_=>(KR.fn f (l:=[]) (m:=[]) .nil).vr
theorem vu(h:plain v=true):v.oneCell'=true:=by cases v<;>first|rfl|(simp[plain] at h)
theorem pQ(b o n:Nat):(⟨b,o,none⟩:Addr).add n=⟨b,o+n,none⟩:=by unfold Addr.add;split<;>simp_all
section
variable{P:Program}{CC:cn}{ρ ρ':eU}{h:ab}{w w':World}
theorem jA.mono{r:zP}{o:rV}(hl:ρ.le ρ')(hw:w'.heap[r.aC]?=w.heap[r.aC]?)(hk:jA CC ρ r o w):jA CC ρ' r o w':=by
 cases o with
 |aC cs ro op s=>
  obtain⟨e_,el,fr,h1,h2,h3,h5,h6,h7⟩:=hk;exact⟨e_,el,fr,hw.trans h1,h2,h3,h5,h6,fun j v hv=>let⟨c,hc,hr⟩:=h7 j v hv;⟨c,hc,hr.mono hl⟩⟩
 |loop env ps asg body st=>
  obtain⟨L,h1,h2,h3⟩:=hk;exact⟨L,hw.trans h1,h2.mono hl,h3⟩
 |map es=>
  obtain⟨ces,cl,h1,h2,h3⟩:=hk;exact⟨ces,cl,hw.trans h1,h2.mono fun _ _ ⟨a,b⟩=>⟨a.mono hl,b.mono hl⟩,h3⟩
 |itr=>exact⟨hk.1,hw.trans hk.2⟩
theorem cQ.mono{ng:Nat}(hl:ρ.le ρ')(hg:cQ ng ρ):cQ ng ρ':=fun g dQ=>let⟨r,h,x⟩:=hg g dQ;⟨r,hl _ _ h,x⟩
structure Wu(k:Nat)(w w':World):Prop where
 os:w'.os=w.os
 tape:w'.tape=w.tape
 output:w'.output=w.output
 size:w'.heap.size=w.heap.size
 other:∀j,j≠k->w'.heap[j]?=w.heap[j]?
theorem Wu.row(g:Nat)(cs:Array Value):Wu g w (w.setRow g cs):=⟨rfl,rfl,rfl,by simp,fun j hj=>setRow_other w g j cs hj⟩
theorem Wu.obj(g:Nat)(o:Obj):Wu g w {w with heap:=w.heap.setIfInBounds g o} :=
 ⟨rfl,rfl,rfl,by simp,fun j hj=>by simp[Ne.symm hj]⟩
theorem dI.drawn(S:dI CC ρ h w)(n:Nat):dI CC ρ h {w with drawn:=n} :=
 ⟨S.low,fun b r o hb ho=>jA.mono ρ.le_refl (w':= {w with drawn:=n}) rfl (S.obj b r o hb ho),S.inj,S.wf⟩
theorem Ext.drawn(n:Nat):Ext ρ h w ρ h {w with drawn:=n} :=
 ⟨ρ.le_refl,dH _,dH _,rfl,rfl,rfl,fun _ _ _=>rfl,fun b r hb hw=>.inr ⟨b,r,hb,hw,rfl⟩,fun b r h h'=>(by rw[h] at h';cases h'),fun b r o hb ho=>.inr ⟨b,r,o,hb,ho,rfl⟩⟩
theorem dI.clock(S:dI CC ρ h w)(n:Nat):dI CC ρ {h with clock:=n} w:=⟨S.low,S.obj,S.inj,S.wf⟩
theorem Ext.clock(n:Nat):Ext ρ h w ρ {h with clock:=n} w:=
 ⟨ρ.le_refl,dH _,dH _,rfl,rfl,rfl,fun _ _ _=>rfl,fun b r hb hw=>.inr ⟨b,r,hb,hw,rfl⟩,fun b r h h'=>(by rw[h] at h';cases h'),fun b r o hb ho=>.inr ⟨b,r,o,hb,ho,rfl⟩⟩
theorem dI.zc(S:dI CC ρ h w){b:Nat}{r:zP}{o o':rV}(hb:ρ b=some r)(ho:h.tr.get b=some o)(hrw:o.rw=true)(ha:Wu r.aC w w')(hob:jA CC ρ r o' w')(n:Nat):dI CC ρ {h with clock:=n,tr:=h.tr.set b o'} w'/\Ext ρ h w ρ {h with clock:=n,tr:=h.tr.set b o'} w':=by
 have Eu:eH h b:=⟨o,ho,hrw⟩;have I1:∀x,eH {h with clock:=n,tr:=h.tr.set b o'} x->eH h x:=by
  rintro x⟨p,hp,Wi⟩;simp only[Tr.aW] at hp;by_cases hx:x=b
  .subst hx;exact Eu
  .rw[bc hx] at hp;exact⟨p,hp,Wi⟩
 refine⟨⟨fun x rx hx=>⟨(S.low x rx hx).1,by rw[ha.size];exact(S.low x rx hx).2⟩,?_,?_,fun x p hp=>?_⟩,⟨ρ.le_refl,dH _,Nat.le_of_eq ha.size.symm,ha.os,ha.tape,ha.output,?_,?_,?_,?_⟩⟩
 rotate_left 2
 .simp only[Tr.aW] at hp;by_cases hx:x=b
  .subst hx;exact S.wf _ _ ho
  .rw[bc hx] at hp;exact S.wf x p hp
 rotate_left 4
 .intro x rx p hx hp;simp only[Tr.aW] at hp;by_cases Gg:x=b
  .subst Gg;rw[aY rfl] at hp;cases hp;rw[hb] at hx;cases hx;exact hob
  .rw[bc Gg] at hp;exact jA.mono ρ.le_refl (ha.other _ (S.inj b x r rx p hb hx Eu hp (Ne.symm Gg)).symm) (S.obj x rx p hx hp)
 .intro x y rx ry p hx hy hw hp ct;simp only[Tr.aW] at hp;by_cases hyb:y=b
  .subst hyb;exact S.inj x y rx ry o hx hy (I1 x hw) ho ct
  .rw[bc hyb] at hp;exact S.inj x y rx ry p hx hy (I1 x hw) hp ct
 .intro k _ hk;exact ha.other k (fun e=>hk b r hb Eu e.symm)
 .intro x rx hx hw;exact .inr ⟨x,rx,hx,I1 x hw,rfl⟩
 .intro x rx h1 h2;rw[h1] at h2;cases h2
 .intro x rx p hx hp;simp only[Tr.aW] at hp;by_cases Gg:x=b
  .subst Gg;exact .inr ⟨x,rx,o,hx,ho,rfl⟩
  .rw[bc Gg] at hp;exact .inr ⟨x,rx,p,hx,hp,rfl⟩
def ka(ρ:eU)(b:Nat)(r:zP):eU:=fun x=>if x=b then some r else ρ x
theorem uE{b:Nat}{r:zP}(hn:ρ b=none):ρ.le (ka ρ b r):=by
 intro x rx hx;unfold ka;by_cases h:x=b
 .subst h;rw[hn] at hx;cases hx
 .rw[bc h];exact hx
theorem dI.fresh(S:dI CC ρ h w):ρ h.next=none:=by
 cases e:ρ h.next with
 |none=>rfl
 |some r=>have:=(S.low _ _ e).1;omega
theorem dI.add(S:dI CC ρ h w){o:rV}{co:Obj}{im:zP}(KE:im.aC=w.heap.size)(hob:jA CC (ka ρ h.next im) im o (w.alloc co)):dI CC (ka ρ h.next im) (h.new o) (w.alloc co)/\Ext ρ h w (ka ρ h.next im) (h.new o) (w.alloc co):=by
 have hle:=uE (r:=im) S.fresh;have tg:(w.alloc co).heap.size=w.heap.size+1:=Array.size_push _;have hold:∀k,k<w.heap.size->(w.alloc co).heap[k]?=w.heap[k]? :=by intro k hk;show(w.heap.push co)[k]?=_;rw[Array.getElem?_push,bc (by omega)]
 have gh:∀x rx,ka ρ h.next im x=some rx->(x=h.next/\rx=im)\/(x≠h.next/\ρ x=some rx):=by
  intro x rx hx;unfold ka at hx;by_cases e:x=h.next
  .rw[aY e] at hx;cases hx;exact .inl ⟨e,rfl⟩
  .rw[bc e] at hx;exact .inr ⟨e,hx⟩
 have dW:∀x,(h.new o).tr.get x=if x=h.next then some o else h.tr.get x:=fun x=>Tr.aW _ _ _ _
 refine⟨⟨?_,?_,?_,fun x p hp=>?_⟩,⟨hle,?_,by omega,rfl,rfl,rfl,fun k hk _=>hold k hk,?_,?_,?_⟩⟩
 rotate_left 3
 .rw[dW] at hp;by_cases e:x=h.next
  .subst e;simp[ab.new]
  .rw[bc e] at hp;have:=S.wf x p hp;simp only[ab.new];omega
 rotate_left 4
 .intro x rx hx;rcases gh x rx hx with⟨rfl,rfl⟩|⟨ct,hx⟩
  .exact⟨by simp[ab.new],by rw[tg,KE];omega⟩
  .have:=S.low x rx hx;exact⟨by simp only[ab.new];omega,by omega⟩
 .intro x rx p hx hp;rw[dW] at hp;rcases gh x rx hx with⟨rfl,rfl⟩|⟨ct,hx⟩
  .rw[aY rfl] at hp;cases hp;exact hob
  .rw[bc ct] at hp;exact jA.mono hle (hold _ (S.low x rx hx).2) (S.obj x rx p hx hp)
 .intro x y rx ry p hx hy hw hp ct;rw[dW] at hp;rcases gh x rx hx with⟨ex,er⟩|⟨SB,Gf⟩<;>rcases gh y ry hy with⟨ey,er'⟩|⟨hny,Yp⟩
  .exact absurd (ex.trans ey.symm) ct
  .have:=(S.low y ry Yp).2;rw[er,KE];omega
  .have:=(S.low x rx Gf).2;rw[er',KE];omega
  .rw[bc hny] at hp;obtain⟨q,hq,Ng⟩:=hw;rw[dW,bc SB] at hq;exact S.inj x y rx ry p Gf Yp ⟨q,hq,Ng⟩ hp ct
 .simp[ab.new]
 .intro x rx hx hw;rcases gh x rx hx with⟨rfl,rfl⟩|⟨ct,hx⟩
  .exact .inl (by omega)
  .obtain⟨q,hq,Ng⟩:=hw;rw[dW,bc ct] at hq;exact .inr ⟨x,rx,hx,⟨q,hq,Ng⟩,rfl⟩
 .intro x rx hx hn;rcases gh x rx hx with⟨rfl,rfl⟩|⟨ct,hx⟩
  .exact dH _
  .rw[hx] at hn;cases hn
 .intro x rx p hx hp;rcases gh x rx hx with⟨rfl,rfl⟩|⟨ct,hx⟩
  .exact .inl (by omega)
  .rw[dW,bc ct] at hp;exact .inr ⟨x,rx,p,hx,hp,rfl⟩
theorem dI.less(S:dI CC ρ h w)(b:Nat):dI CC ρ {h with tr:=h.tr.del b} w/\Ext ρ h w ρ {h with tr:=h.tr.del b} w:=by
 have dW:∀x p,({h with tr:=h.tr.del b} :ab).tr.get x=some p->h.tr.get x=some p:=by
  intro x p hx;simp only[Tr.nq] at hx;by_cases e:x=b
  .rw[aY e] at hx;cases hx
  .rwa [bc e] at hx
 refine⟨⟨S.low,fun x r o hx ho=>S.obj x r o hx (dW x o ho),fun x y rx ry p hx hy ⟨q,hq,Ng⟩ hp ct=>S.inj x y rx ry p hx hy ⟨q,dW x q hq,Ng⟩ (dW y p hp) ct,fun x p hp=>S.wf x p (dW x p hp)⟩,⟨ρ.le_refl,dH _,dH _,rfl,rfl,rfl,fun _ _ _=>rfl,fun x r hx ⟨q,hq,Ng⟩=>.inr ⟨x,r,hx,⟨q,dW x q hq,Ng⟩,rfl⟩,fun x r h1 h2=>(by rw[h1] at h2;cases h2),fun x r p hx hp=>.inr ⟨x,r,p,hx,dW x p hp,rfl⟩⟩⟩
theorem dI.move(S:dI CC ρ h w){b:Nat}{r im:zP}{o o':rV}(hb:ρ b=some r)(ho:h.tr.get b=some o)(hrw:o.rw=true)(KE:im.aC=r.aC)(ha:Wu r.aC w w')(hob:jA CC (ka ρ h.next im) im o' w'):dI CC (ka ρ h.next im) (({h with tr:=h.tr.del b} :ab).new o') w'/\Ext ρ h w (ka ρ h.next im) (({h with tr:=h.tr.del b} :ab).new o') w':=by
 have Eu:eH h b:=⟨o,ho,hrw⟩;have hle:=uE (r:=im) S.fresh;have gh:∀x rx,ka ρ h.next im x=some rx->(x=h.next/\rx=im)\/(x≠h.next/\ρ x=some rx):=by
  intro x rx hx;unfold ka at hx;by_cases e:x=h.next
  .rw[aY e] at hx;cases hx;exact .inl ⟨e,rfl⟩
  .rw[bc e] at hx;exact .inr ⟨e,hx⟩
 have dW:∀x,(({h with tr:=h.tr.del b} :ab).new o').tr.get x=if x=h.next then some o' else if x=b then none else h.tr.get x:=by intro x;simp only[ab.new,Tr.aW,Tr.nq]
 have hold:∀x p,x≠h.next->(({h with tr:=h.tr.del b} :ab).new o').tr.get x=some p->x≠b/\h.tr.get x=some p:=by
  intro x p hx hp;rw[dW,bc hx] at hp;by_cases e:x=b
  .rw[aY e] at hp;cases hp
  .rw[bc e] at hp;exact⟨e,hp⟩
 refine⟨⟨?_,?_,?_,fun x p hp=>?_⟩,⟨hle,by simp[ab.new],Nat.le_of_eq ha.size.symm,ha.os,ha.tape,ha.output,?_,?_,?_,?_⟩⟩
 rotate_left 3
 .rw[dW] at hp;by_cases e:x=h.next
  .subst e;simp[ab.new]
  .rw[bc e] at hp;by_cases e2:x=b
   .rw[aY e2] at hp;cases hp
   .rw[bc e2] at hp;have:=S.wf x p hp;simp only[ab.new];omega
 rotate_left 4
 .intro x rx hx;rcases gh x rx hx with⟨rfl,rfl⟩|⟨ct,hx⟩
  .exact⟨by simp[ab.new],by rw[KE,ha.size];exact(S.low b r hb).2⟩
  .have:=S.low x rx hx;exact⟨by simp only[ab.new];omega,by rw[ha.size];exact this.2⟩
 .intro x rx p hx hp;rcases gh x rx hx with⟨rfl,rfl⟩|⟨ct,hx⟩
  .rw[dW,aY rfl] at hp;cases hp;exact hob
  .obtain⟨Gg,hp⟩:=hold x p ct hp;exact jA.mono hle (ha.other _ (S.inj b x r rx p hb hx Eu hp (Ne.symm Gg)).symm) (S.obj x rx p hx hp)
 .intro x y rx ry p hx hy hw hp ct;obtain⟨q,hq,Ng⟩:=hw;rcases gh x rx hx with⟨ex,er⟩|⟨SB,Gf⟩<;>rcases gh y ry hy with⟨ey,er'⟩|⟨hny,Yp⟩
  .exact absurd (ex.trans ey.symm) ct
  .obtain⟨hyb,hp⟩:=hold y p hny hp;rw[er,KE];exact S.inj b y r ry p hb Yp Eu hp (Ne.symm hyb)
  .obtain⟨Gg,hq⟩:=hold x q SB hq;rw[er',KE];exact S.inj x b rx r o Gf hb ⟨q,hq,Ng⟩ ho Gg
  .obtain⟨Gg,hq⟩:=hold x q SB hq;obtain⟨hyb,hp⟩:=hold y p hny hp;exact S.inj x y rx ry p Gf Yp ⟨q,hq,Ng⟩ hp ct
 .intro k _ hk;exact ha.other k (fun e=>hk b r hb Eu e.symm)
 .intro x rx hx hw;obtain⟨q,hq,Ng⟩:=hw;rcases gh x rx hx with⟨rfl,rfl⟩|⟨ct,hx⟩
  .exact .inr ⟨b,r,hb,Eu,KE.symm⟩
  .obtain⟨_,hq⟩:=hold x q ct hq;exact .inr ⟨x,rx,hx,⟨q,hq,Ng⟩,rfl⟩
 .intro x rx hx hn;rcases gh x rx hx with⟨rfl,rfl⟩|⟨ct,hx⟩
  .exact dH _
  .rw[hx] at hn;cases hn
 .intro x rx p hx hp;rcases gh x rx hx with⟨rfl,rfl⟩|⟨ct,hx⟩
  .exact .inr ⟨b,r,o,hb,ho,KE.symm⟩
  .obtain⟨_,hp⟩:=hold x p ct hp;exact .inr ⟨x,rx,p,hx,hp,rfl⟩
theorem B0(S:dI CC ρ h w){b off n:Nat}{r:zP}{cs:List Value}(hb:ρ b=some r)(hr:aV h b off n=some cs):cs.length=n/\∃e_:List Value,All2 (KR ρ) cs e_/\∀(j:Nat)(v:Value),e_[j]?=some v->w.cell? ((⟨r.aC,r.base+off,none⟩:Addr).add j)=some v:=by
 unfold aV at hr;split at hr
 .rename_i cells ro op s ho;by_cases hl:((cells.drop off).take n).length=n
  .simp only[hl,Nat.beq_refl] at hr;simp only[if_true,mw] at hr;subst hr;refine⟨hl,?_⟩;obtain⟨e_,el,fr,h1,_,_,_,_,h7⟩:=S.obj b r _ hb ho;have hj:∀(j:Nat)(v:Value),((cells.drop off).take n)[j]?=some v->∃c,e_[r.base+off+j]?=some c/\KR ρ v c:=by
    intro j v hv;rw[El] at hv;split at hv
    .rw[List.getElem?_drop] at hv;obtain⟨c,hc,hk⟩:=h7 _ _ hv;exact⟨c,by rw[<-hc];congr 1;omega,hk⟩
    .cases hv
   refine⟨(e_.toList.drop (r.base+off)).take n,?_,?_⟩
   .refine All2.agL ?_ ?_
    .rw[hl];by_cases h0:n=0
     .subst h0;simp
     .have:((cells.drop off).take n)[n-1]?=some ((cells.drop off).take n)[n-1]:=ff (by omega);obtain⟨c,hc,_⟩:=hj _ _ this;have dQ:=(Array.getElem?_eq_some_iff.1 hc).1;simp;omega
    .intro i a c ha hc;obtain⟨c',Ib,hk⟩:=hj i a ha;rw[El] at hc;split at hc
     .rw[List.getElem?_drop] at hc;have:e_.toList[r.base+off+i]?=some c':=by simpa using Ib
      rw[this] at hc;cases hc;exact hk
     .cases hc
   .intro j v hv;rw[El] at hv;split at hv
    .rw[List.getElem?_drop] at hv;rw[pQ];have:e_[r.base+off+j]?=some v:=by simpa using hv
     simp[World.cell?,h1,this]
    .cases hv
  .have:Nat.beq ((cells.drop off).take n).length n=false:=by
    cases hb:Nat.beq ((cells.drop off).take n).length n with
    |false=>rfl
    |true=>exact absurd (qW hb) hl
   simp only[this] at hr;simp at hr
 .cases hr
theorem zL{cs vs:List Value}(h:off+vs.length<=cs.length):(aR cs off vs).length=cs.length:=by simp[aR];omega
theorem mD{cs vs:List Value}{off j:Nat}(h:off+vs.length<=cs.length):(aR cs off vs)[j]?=if off<=j/\j<off+vs.length then vs[j-off]? else cs[j]? :=by
 unfold aR;by_cases h1:j<off
 .rw[bc (by omega),Af,FX (by simp;omega),El,aY h1]
 .by_cases h2:j<off+vs.length
  .rw[aY ⟨by omega,h2⟩,Af,HA (by simp;omega),List.length_take,Nat.min_eq_left (by omega),FX (by omega)]
  .rw[bc (by omega),HA (by simp;omega),IZ,List.length_take,Nat.min_eq_left (by omega),List.getElem?_drop];congr 1;omega
theorem yL(S:dI CC ρ h w){b off:Nat}{r:zP}{vs cvs:List Value}{h':ab}(hb:ρ b=some r)(hw:jz h b off vs=some h')(hv:All2 (KR ρ) vs cvs):∃w',(storeCells ⟨r.aC,r.base+off,none⟩ cvs).run P w=.ok () w'/\dI CC ρ h' w'/\Ext ρ h w ρ h' w':=by
 unfold jz at hw;split at hw
 .rename_i cells op s ho;by_cases hl:off+vs.length<=cells.length
  .rw[aY (Nat.ble_eq_true_of_le hl)] at hw;cases hw;obtain⟨e_,el,fr,h1,h2,h3,h5,h6,h7⟩:=S.obj b r _ hb ho;have hfr:fr=(0,0):=h6 rfl;subst hfr;have cj:=hv.length;by_cases h0:vs.length=0
   .have hv0:vs=[]:=IX h0;have Dy:cvs=[]:=IX (by omega);subst hv0;subst Dy;refine⟨w,rfl,dI.zc S hb ho rfl ⟨rfl,rfl,rfl,rfl,fun _ _=>rfl⟩ ?_ _⟩;have:aR cells off []=cells:=by simp[aR]
    rw[this];exact⟨e_,el,(0,0),h1,h2,h3,h5,h6,h7⟩
   have dV:r.base+off+0+cvs.length<=e_.size:=by have:cells[off+vs.length-1]?=some cells[off+vs.length-1]:=ff (by omega);obtain⟨c,hc,_⟩:=h7 _ _ this;have dQ:=(Array.getElem?_eq_some_iff.1 hc).1;omega
   have dE:=run_storeCells_at (P:=P) r.aC (r.base+off) el cvs 0 e_ w h1 dV (fun v hm=>by obtain⟨i,hi⟩:=oD hm;have hx:vs[i]?=some (vs[i]'(by rw[cj];exact(bK.1 hi).1)):=ff _;obtain⟨c,hc,hk⟩:=hv.get hx;rw[hi] at hc;cases hc;exact vu hk.plain.2)
   refine⟨_,dE,?_⟩;refine dI.zc S hb ho rfl (Wu.row _ _) ?_ _;have vo:e_.toList.take (r.base+off+0)++cvs++e_.toList.drop (r.base+off+0+cvs.length)=aR e_.toList (r.base+off) cvs:=by simp[aR]
   refine⟨_,el,(0,0),setRow_heap w r.aC e_ _ el _ h1,by rw[zL hl];exact h2,h3,⟨?_,?_⟩,fun _=>rfl,?_⟩
   rotate_left 1
   .intro Aq j c hj hc;rw[vo] at hc;simp only[List.getElem?_toArray] at hc;rw[mD (by simpa using dV),bc (by omega)] at hc;exact h5.2 Aq j c hj (by simpa using hc)
   rotate_left 1
   .rw[h5.1];simp only[List.size_toArray,IZ,List.length_take,List.length_drop,Array.length_toList];omega
   intro j v hj;rw[mD hl] at hj;rw[vo];have hg:=mD (cs:=e_.toList) (vs:=cvs) (off:=r.base+off) (j:=r.base+j) (by simpa using dV);simp only[List.getElem?_toArray];rw[hg];by_cases oJ:off<=j/\j<off+vs.length
   .rw[aY oJ] at hj;rw[aY (by omega)];obtain⟨c,hc,hk⟩:=hv.get hj;exact⟨c,by rw[<-hc];congr 1;omega,hk⟩
   .rw[bc oJ] at hj;rw[bc (by omega)];obtain⟨c,hc,hk⟩:=h7 j v hj;exact⟨c,by simpa using hc,hk⟩
  .have:Nat.ble (off+vs.length) cells.length=false:=by
    cases hb:Nat.ble (off+vs.length) cells.length with
    |false=>rfl
    |true=>exact absurd (OJ hb) hl
   rw[this] at hw;simp at hw
 .cases hw
end
def Out(CC:cn)(ρ:eU)(h:ab)(w:World)(v:Value)(h':ab)(r:Result Next):Prop:=
 ∃ρ' w' c,(r=.ok (.value c) w'\/(c=undef/\r=.ok .skip w'))/\VR ρ' v c/\dI CC ρ' h' w'/\Ext ρ h w ρ' h' w'
section
variable{P:Program}{CC:cn}{ρ:eU}{h:ab}{w:World}{T:r8}{ng:Nat}{e:Env}{a:Act}
theorem Out.same(S:dI CC ρ h w){v c:Value}{r:Result Next}(hr:r=.ok (.value c) w)(hv:VR ρ v c):Out CC ρ h w v h r:=
 ⟨ρ,w,c,.inl hr,hv,S,.refl ρ h w⟩
theorem ez{s:Sem Value}{c:Value}(hs:s.run P w=.ok c w'):((do pure (Next.value (<-s))):Sem Next).run P w=.ok (.value c) w':=by simp[hs]
theorem Fq{l:Array α}{x:α}(h:l[i]?=some x):i<l.size:=(Array.getElem?_eq_some_iff.1 h).1
theorem Tx(w:World)(o:Obj):(w.alloc o).heap[w.heap.size]?=some o:=by show(w.heap.push o)[w.heap.size]?=some o;simp
theorem BT(S:dI CC ρ h w){cs e_ bw:List Value}(hv:All2 (KR ρ) cs e_)(el:Nat)(GR:Nat)(Nh:GR≠0->∀c∈bw,cr c=true):∃im:zP,im.aC=w.heap.size/\im.base=0/\im.len=cs.length/\im.GR=GR/\im.room=(e_++bw).length/\dI CC (ka ρ h.next im) (aD h cs GR) (w.alloc (.cells ⟨e_++bw⟩ el))/\Ext ρ h w (ka ρ h.next im) (aD h cs GR) (w.alloc (.cells ⟨e_++bw⟩ el)):=by
 refine⟨⟨w.heap.size,0,cs.length,GR,(e_++bw).length⟩,rfl,rfl,rfl,rfl,rfl,?_⟩;refine dI.add S rfl ?_;refine⟨_,_,_,Tx w _,rfl,rfl,⟨Ek _,?_⟩,fun _=>rfl,?_⟩
 .intro Aq j c hj hc;dsimp only at hj hc;rw[show(⟨e_++bw⟩:Array Value)[0+j]?=(e_++bw)[0+j]? by simp,Ek,HA (by rw[<-hv.length];exact hj)] at hc;exact Nh Aq c (bU hc)
 intro j v hj;obtain⟨c,hc,hk⟩:=hv.get hj;refine⟨c,?_,hk.mono (uE S.fresh)⟩;show(⟨e_++bw⟩:Array Value)[0+j]?=some c;rw[show(⟨e_++bw⟩:Array Value)[0+j]?=(e_++bw)[0+j]? by simp,Ek,FX (bK.1 hc).1,hc]
theorem vy(ρ:eU)(b:Nat)(r:zP):ka ρ b r b=some r:=by simp[ka]
theorem SY{im:zP}(hb:im.aC=w.heap.size)(h0:im.base=0):VR (ka ρ h.next im) (.pointer (some ⟨h.next,0,none⟩)) (.pointer (some ⟨w.heap.size,0,none⟩)):=by have:=CR.ptr (ρ:=ka ρ h.next im) (o:=0) (vy ρ h.next im);rw[hb,h0] at this;exact this.vr
theorem Hk(el:TypeId)(v:Value):(newVar el v).run P w=.ok ⟨w.heap.size,0,none⟩ (w.alloc (.cells v.cells el)):=rfl
theorem Cl{t:Nat}{i:TI}(hi:uG P t i):∃z,(zeroValue t).run P w=.ok z w/\z.cells.toList=i.zero:=by obtain⟨ti,h1,_,_,z,h2,h3⟩:=hi.info;exact⟨z,by simp[zeroValue,typeInfo,h1,h2],h3⟩
theorem iB{t:Nat}{i:TI}(hi:uG P t i):(sizeOf t).run P w=.ok i.size w/\P.cellsOf t=i.size:=by obtain⟨ti,h1,h2,_⟩:=hi.info;exact⟨by simp[sizeOf,typeInfo,h1,h2],by simp[Program.cellsOf,h1,h2]⟩
theorem rN{t:Nat}{i:TI}(hi:uG P t i):(isAgg t).run P w=.ok i.agg w:=by simp only[isAgg,Sem.run_bind,run_underlying hi.u,Result.andThen_ok,hi.agg];cases i.u<;>rfl
theorem WT(v:Value)(l:List Value)(h:v.cells.toList=l):v.cells=⟨l++[]⟩:=by
 cases hc:v.cells with
 |mk x=>rw[hc] at h;simp at h;simp[h]
theorem Y1(S:dI CC ρ h w){t:Nat}{i:TI}(hi:uG P t i):Out CC ρ h w (.pointer (some ⟨h.next,0,none⟩)) (aD h i.zero 0) (((do pure (Next.value (<-Instr.alloc t true (.tuple #[])))):Sem Next).run P w):=by
 obtain⟨z,hz,UB⟩:=Cl (w:=w) hi;obtain⟨im,h1,h2,_,_,_,h3,h4⟩:=BT (bw:=[]) S (ec hi.zero) t 0 (fun h=>absurd rfl h);rw[<-WT z _ UB] at h3 h4;refine⟨_,_,_,.inl (ez ?_),SY h1 h2,h3,h4⟩;simp[Instr.alloc,hz,Hk]
theorem agS(S:dI CC ρ h w){t:Nat}{v c:Value}(hv:VR ρ v c)(hf:flat v=some vs):Out CC ρ h w (.pointer (some ⟨h.next,0,none⟩)) (aD h vs 0) (((do pure (Next.value (<-Instr.box t c))):Sem Next).run P w):=by
 obtain⟨im,h1,h2,_,_,_,h3,h4⟩:=BT (bw:=[]) S (FN hv hf) t 0 (fun h=>absurd rfl h);rw[<-WT c _ rfl] at h3 h4;refine⟨_,_,_,.inl (ez ?_),SY h1 h2,h3,h4⟩;simp[Instr.box,Hk]
theorem SQ(S:dI CC ρ h w){t:Nat}{i:TI}(hi:uG P t i){b off:Nat}{r:zP}{cs:List Value}(hb:ρ b=some r)(hr:aV h b off (width (AZ i))=some cs)(hv:agg (AZ i) cs=some v):∃c,(loadVar t ⟨r.aC,r.base+off,none⟩).run P w=.ok c w/\VR ρ v c:=by
 obtain⟨hl,e_,hk,hc⟩:=B0 S hb hr;have tg:=(iB (w:=w) hi).1;cases yX:i.agg with
 |true=>
  simp only[AZ,yX,cond_true,width] at hl hv;have cj:=hk.length;simp only[agg,hl,Nat.beq_refl,if_true,mw] at hv;subst hv;refine⟨.agg e_.toArray,?_,.val (.agg hk)⟩;simp only[loadVar,Sem.run_bind,rN hi,yX,Result.andThen_ok,if_true,tg];rw[<-hl,cj,run_loadCells_list w _ e_ hc];rfl
 |false=>
  simp only[AZ,yX,cond_false,width] at hl hv
  match cs,e_,hk,hl with
  |[x],[y],.cons hxy .nil,_=>
   simp only[agg,mw] at hv;subst hv;have h0:=hc 0 y rfl;rw[pQ,IW] at h0;refine⟨y,?_,hxy.vr⟩;simp[loadVar,rN hi,yX,h0]
theorem Y6(S:dI CC ρ h w){t:Nat}{i:TI}(hi:uG P t i){b off:Nat}{r:zP}{v c:Value}{h':ab}(hb:ρ b=some r)(hv:VR ρ v c)(hf:flat v=some vs)(hl:vs.length=i.size)(hw:jz h b off vs=some h'):∃w',(storeVar t ⟨r.aC,r.base+off,none⟩ c).run P w=.ok () w'/\dI CC ρ h' w'/\Ext ρ h w ρ h' w':=by
 have hk:=FN hv hf;obtain⟨w',dE,S',E'⟩:=yL S hb hw hk;refine⟨w',?_,S',E'⟩;have tg:=(iB (w:=w) hi).1;have KC:c.cells.size=i.size:=by rw[<-hl,hk.length];simp
 simp only[storeVar,Sem.run_bind,tg,Result.andThen_ok,KC,ne_eq,not_true_eq_false,if_false];simpa using dE
theorem Zd{t:Nat}{i:TI}(hi:uG P t i){l m:List Value}(hk:All2 (KR ρ) l m)(hv:agg (AZ i) ((l.drop off).take (width (AZ i)))=some v):∃c,(part t ⟨m⟩ off).run P w=.ok c w/\VR ρ v c:=by
 have CH:=(hk.drop off).take (width (AZ i));cases yX:i.agg with
 |true=>
  simp only[AZ,yX,cond_true,width,agg] at hv CH;split at hv
  .cases hv;refine⟨.agg ⟨(m.drop off).take i.size⟩,?_,.val (.agg CH)⟩;simp only[part,Sem.run_bind,rN hi,yX,Result.andThen_ok,if_true,(iB (w:=w) hi).1,Sem.run_pure];congr 2;simp
  .cases hv
 |false=>
  simp only[AZ,yX,cond_false,width,agg] at hv CH;split at hv
  .rename_i x hx;cases hv;rw[hx] at CH
   match hm:(m.drop off).take 1,CH with
   |[y],.cons hxy .nil=>
    refine⟨y,?_,hxy.vr⟩;have hy:m[off]?=some y:=by
     have:((m.drop off).take 1)[0]?=some y:=by rw[hm];rfl
     simpa [El,List.getElem?_drop] using this
    simp[part,rN hi,yX,hy]
  .cases hv
theorem FM(hE:ER ρ e a.tmps)(hG:cQ ng ρ)(place:Nat->Option (Nat×Nat)):∀(ps:List (Nat×Operand))(qs:List (Nat×Nat×Operand))(l m:List Value)(r:List Value),ps.all (fun p=>bG ng p.2)=true->All2 (fun(p:Nat×Operand) (q:Nat×Nat×Operand)=>place p.1=some (q.1,q.2.1)/\q.2.2=p.2) ps qs->All2 (KR ρ) l m->uL e l qs=some r->∃s:List Value,Instr.fill place ⟨m⟩ (ps.map fun p=>(p.1,a.eval p.2))=some ⟨s⟩/\All2 (KR ρ) r s:=by
 intro ps;induction ps with
 |nil=>
  intro qs l m r _ CJ hk hr;cases CJ;simp only[uL,mw] at hr;subst hr;exact⟨m,rfl,hk⟩
 |cons p ps ih=>
  intro qs l m r eX CJ hk hr;obtain⟨j,x⟩:=p;cases CJ with
  | @cons _ q _ qs hq hqs=>
  obtain⟨off,n,y⟩:=q;obtain⟨hp,rfl⟩:=hq;simp only[List.all_cons,zr] at eX;simp only[uL] at hr;split at hr
  .rename_i vs hf;split at hr
   .rename_i vm;simp only[zr] at vm;have hn:=qW vm.1;have hle:=OJ vm.2;have hv:=FN (hE.eval hG eX.1) hf;have hlm:=hk.length;have hlv:=hv.length;have vo:All2 (KR ρ) (aR l off vs) (aR m off (a.eval y).cells.toList):=by unfold aR;rw[<-hlv];exact((hk.take off).app hv).app (hk.drop _)
    obtain⟨s,hs,Qp⟩:=ih qs _ _ r eX.2 hqs vo hr;refine⟨s,?_,Qp⟩;rw[<-hs];simp only[IV,Instr.fill,hp];have tg:(a.eval y).cells.size=n:=by rw[<-hn,hlv];simp
    rw[bc (by simp[tg];omega)];congr 1;have key:∀(vs:List Value)(k:Nat)(m:List Value),off+k+vs.length<=m.length->(vs.zipIdx k).foldl (fun(cs:Array Value) (x:Value×Nat)=>cs.setIfInBounds (off+x.2) x.1) ⟨m⟩=⟨aR m (off+k) vs⟩:=by
     intro vs;induction vs with
     |nil=>intro k m _;simp[aR]
     |cons v vs ih=>
      intro k m hm;simp only[List.zipIdx_cons,List.foldl_cons];have:(Array.setIfInBounds ⟨m⟩ (off+k) v)=⟨m.set (off+k) v⟩:=by simp
      rw[this,ih (k+1) (m.set (off+k) v) (by simp at hm⊢;omega)];congr 1;simp at hm;apply yT;intro i;rw[mD (by simp;omega),mD (by simp;omega)];by_cases h1:off+(k+1)<=i/\i<off+(k+1)+vs.length
      .rw[aY h1,aY (by simp;omega)];rw[show i-(off+k)=(i-(off+(k+1)))+1 by omega];simp
      .rw[bc h1];by_cases h2:i=off+k
       .subst h2;rw[aY (by simp)];simp[List.getElem?_set_self (show off+k<m.length by omega)]
       .rw[bc (by simp;omega),List.getElem?_set_ne (Ne.symm h2)]
    have:=key (a.eval y).cells.toList 0 m (by rw[IW,<-hlv,hn,<-hlm];exact hle);rw[<-Array.foldl_toList];simpa using this
   .cases hr
  .cases hr
end
theorem xH:∀ {ks LW:List Nat} {a a' b b':List Value} {x:Bool},a.length=ks.length->a'.length=ks.length->cy (ks++LW) (a++b) (a'++b')=some x->∃y z,cy ks a a'=some y/\cy LW b b'=some z/\x=(y&&z):=by
 intro ks;induction ks with
 |nil=>
  intro LW a a' b b' x hl Ga h;cases a with
  |cons=>simp at hl
  |nil=>cases a' with
   |cons=>simp at Ga
   |nil=>exact⟨true,x,rfl,h,by simp⟩
 |cons k ks ih=>
  intro LW a a' b b' x hl Ga h;cases a with
  |nil=>simp at hl
  |cons v a=>cases a' with
   |nil=>simp at Ga
   |cons v' a'=>
    simp only[List.cons_append,cy] at h;cases h1:mu k v v' with
    |none=>simp[h1] at h
    |some p=>
     cases h2:cy (ks++LW) (a++b) (a'++b') with
     |none=>simp[h1,h2] at h
     |some q=>
      simp only[h1,h2,mw] at h;obtain⟨y,z,hy,hz,rfl⟩:=ih (by simpa using hl) (by simpa using Ga) h2;refine⟨p&&y,z,by simp[cy,h1,hy],hz,?_⟩;rw[<-h,Bool.and_assoc]
theorem sZ:∀ {ks:List Nat} {a b:List Value} {x:Bool},cy ks a b=some x->a.length=ks.length/\b.length=ks.length:=by
 intro ks;induction ks with
 |nil=>intro a b x h;cases a with
  |nil=>cases b with
   |nil=>exact⟨rfl,rfl⟩
   |cons=>simp[cy] at h
  |cons=>cases b<;>simp[cy] at h
 |cons k ks ih=>
  intro a b x h;cases a with
  |nil=>simp[cy] at h
  |cons v a=>cases b with
   |nil=>simp[cy] at h
   |cons v' b=>
    simp only[cy] at h;cases h1:mu k v v' with
    |none=>simp[h1] at h
    |some p=>
     cases h2:cy ks a b with
     |none=>simp[h1,h2] at h
     |some q=>have:=ih h2;simp[this.1,this.2]
section
variable{P:Program}{T:r8}{ρ:eU}
theorem PU{k:Nat}{v v' c c':Value}{x:Bool}(h:KR ρ v c)(h':KR ρ v' c')(he:mu k v v'=some x):mu k c c'=some x:=by
 have:c=v/\c'=v':=by
  unfold mu at he;split at he
  .cases h with
   |cell h=>cases h;cases h' with
    |cell h'=>cases h';exact⟨rfl,rfl⟩
  .cases h with
   |cell h=>cases h;cases h' with
    |cell h'=>cases h';exact⟨rfl,rfl⟩
  .cases h with
   |cell h=>cases h;cases h' with
    |cell h'=>cases h';exact⟨rfl,rfl⟩
  .cases he
 rw[this.1,this.2,he]
theorem MP:∀ {ks:List Nat} {l m l' m':List Value} {x:Bool},All2 (KR ρ) l m->All2 (KR ρ) l' m'->cy ks l l'=some x->cy ks m m'=some x:=by
 intro ks;induction ks with
 |nil=>
  intro l m l' m' x h h' he;cases h with
  |nil=>cases h' with
   |nil=>exact he
   |cons=>simp[cy] at he
  |cons=>cases h'<;>simp[cy] at he
 |cons k ks ih=>
  intro l m l' m' x h h' he;cases h with
  |nil=>simp[cy] at he
  | @cons v c l m hk hs=>cases h' with
   |nil=>simp[cy] at he
   | @cons v' c' l' m' CH Yk=>
    simp only[cy] at he⊢;cases h1:mu k v v' with
    |none=>simp[h1] at he
    |some p=>
     cases h2:cy ks l l' with
     |none=>simp[h1,h2] at he
     |some q=>
      rw[PU hk CH h1,ih hs Yk h2];simpa [h1,h2] using he
def x9(i:TI)(l:List Value):Value:=bif i.agg then .agg ⟨l⟩ else l.headD (.tuple #[])
theorem yC{t:Nat}{i:TI}(hi:uG P t i){m:List Value}(hl:off+i.size<=m.length)(w:World):(part t ⟨m⟩ off).run P w=.ok (x9 i ((m.drop off).take i.size)) w:=by
 cases yX:i.agg with
 |true=>
  simp only[part,Sem.run_bind,rN hi,yX,Result.andThen_ok,if_true,(iB (w:=w) hi).1,Sem.run_pure,x9,cond_true];congr 2;simp
 |false=>
  have h1:=hi.plain yX;have dQ:off<m.length:=by omega
  simp only[part,Sem.run_bind,rN hi,yX,Result.andThen_ok,x9,cond_false,h1];rw[List.drop_eq_getElem_cons dQ];have hg:(⟨m⟩:Array Value)[off]?=some m[off]:=by rw[show(⟨m⟩:Array Value)[off]?=m[off]? by simp,ff dQ]
  rw[hg];rfl
theorem TM:∀ {fs:List Field} {off n:Nat},sQ T off fs=some n->off<=n:=by
 intro fs;induction fs with
 |nil=>intro off n h;simp[sQ] at h;omega
 |cons f fs ih=>
  intro off n h;simp only[sQ] at h;cases hb:Nat.beq f.offset off with
  |false=>simp[hb] at h
  |true=>
   simp only[hb,cond_true] at h;cases ht:T f.type with
   |none=>simp[ht] at h
   |some i=>simp only[ht] at h;have:=ih h;omega
theorem vU{k:Nat->Option (List Nat)}{f:Field}(h:pL k (f::fs)=some ks):f.name≠ "_" /\∃a b,k f.type=some a/\pL k fs=some b/\ks=a++b:=by
 simp only[pL] at h;cases hn:f.name != "_" with
 |false=>simp[hn] at h
 |true=>
  simp only[hn,cond_true] at h;refine⟨by simpa using hn,?_⟩;split at h
  .rename_i a b h1 h2;cases h;exact⟨a,b,h1,h2,rfl⟩
  .cases h
theorem x8(ks:List Nat):∀n,(Q9 ks n).length=n*ks.length
 |0=>by simp[Q9]
 |n+1=>by simp[Q9,x8 ks n,tW,Nat.add_comm]
theorem vV:∀ {d t:Nat} {i:TI} {ks:List Nat},T t=some i->dv P T->kinds T d t=some ks->ks.length=i.size:=by
 intro d;induction d with
 |zero=>intro t i ks _ _ h;simp[kinds] at h
 |succ d ih=>
  intro t i ks mW hT h;have hi:=hT t i mW;simp only[kinds,mW] at h;have yX:=hi.agg;split at h
  .rename_i hu;rw[hu] at yX;cases h;exact(hi.plain yX).symm
  .rename_i hu;rw[hu] at yX;cases h;exact(hi.plain yX).symm
  .rename_i hu;rw[hu] at yX;cases h;exact(hi.plain yX).symm
  .rename_i fs hu;split at h
   .rename_i n hc;cases hb:Nat.beq n i.size with
    |false=>simp[hb] at h
    |true=>
     simp only[hb,cond_true] at h;rw[<-qW hb];have key:∀(gs:List Field)(off n:Nat)(ks:List Nat),sQ T off gs=some n->pL (kinds T d) gs=some ks->off+ks.length=n:=by
      intro gs;induction gs with
      |nil=>intro off n ks h1 h2;simp[sQ] at h1;simp[pL] at h2;subst h2;simpa using h1
      |cons f gs ihg=>
       intro off n ks h1 h2;simp only[sQ] at h1;cases hb:Nat.beq f.offset off with
       |false=>simp[hb] at h1
       |true=>
        simp only[hb,cond_true] at h1;cases ht:T f.type with
        |none=>simp[ht] at h1
        |some j=>
         simp only[ht] at h1;obtain⟨_,a,b,ha,jf,rfl⟩:=vU h2;have e1:=ih ht hT ha;have e2:=ihg _ _ _ h1 jf;rw[IZ,e1];omega
     have:=key fs.toList 0 n ks hc h;omega
   .cases h
  .rename_i n el hu;split at h
   .rename_i e he;cases hb:Nat.beq (n*e.size) i.size with
    |false=>simp[hb] at h
    |true=>
     simp only[hb,cond_true] at h;split at h
     .rename_i LW hk;cases h;rw[x8,ih he hT hk,qW hb]
     .cases h
   .cases h
  .cases h
theorem TZ(hT:dv P T):∀(d t:Nat)(i:TI)(dep:Nat)(ks:List Nat),T t=some i->kinds T d t=some ks->d<=dep->∀(l m:List Value)(x:Bool),cy ks l m=some x->∀w,(Op.equalIn dep t (x9 i l) (x9 i m)).run P w=.ok x w:=by
 intro d;induction d with
 |zero=>intro t i dep ks _ h;simp[kinds] at h
 |succ d ih=>
  intro t i dep ks mW mV hd l m x he w;obtain⟨dep,rfl⟩:∃k,dep=k+1:=⟨dep-1,by omega⟩;have hi:=hT t i mW;simp only[kinds,mW] at mV;have yX:=hi.agg;have one:∀k:Nat,cy [k] l m=some x->∃p q,l=[p]/\m=[q]/\mu k p q=some x:=by
   intro k he;obtain⟨h1,h2⟩:=sZ he
   match l,m,h1,h2 with
   |[p],[q],_,_=>
    refine⟨p,q,rfl,rfl,?_⟩;simp only[cy] at he;cases CJ:mu k p q with
    |none=>simp[CJ] at he
    |some y=>simpa [CJ] using he
  split at mV
  .rename_i hu;rw[hu] at yX;cases mV;obtain⟨p,q,rfl,rfl,CJ⟩:=one _ he;simp only[x9,yX,qt,cond_false,List.headD_cons];unfold mu at CJ;split at CJ
   .cases CJ;exact run_equalIn_bool' w dep t _ _ (by rw[hi.u,hu])
   .omega
   .omega
   .cases CJ
  .rename_i k hu;rw[hu] at yX;cases mV;obtain⟨p,q,rfl,rfl,CJ⟩:=one _ he;simp only[x9,yX,qt,cond_false,List.headD_cons];unfold mu at CJ;split at CJ
   .omega
   .split at CJ
    .rename_i hk;subst hk;cases CJ;exact run_equalIn_int w dep t _ k _ _ (by rw[hi.u,hu])
    .cases CJ
   .omega
   .cases CJ
  .rename_i hu;rw[hu] at yX;cases mV;obtain⟨p,q,rfl,rfl,CJ⟩:=one _ he;simp only[x9,yX,qt,cond_false,List.headD_cons];unfold mu at CJ;split at CJ
   .omega
   .omega
   .cases CJ;rw[run_equalIn_string w dep t _ _ (by rw[hi.u,hu]),beq_toListBytes]
   .cases CJ
  .rename_i fs hu;rw[hu] at yX;have uj:P.underlying t=some (.struct fs):=by rw[hi.u,hu]
   have Up:P.fieldsOf t=fs:=by simp[Program.fieldsOf,uj]
   simp only[x9,yX,qt,cond_true];rw[run_equalIn_struct w dep t _ _ (by rw[Up];exact uj) (hi.held fs hu),Up];split at mV
   .rename_i n hc;cases hb:Nat.beq n i.size with
    |false=>simp[hb] at mV
    |true=>
     simp only[hb,cond_true] at mV;have key:∀(gs:List Field)(off:Nat)(ks:List Nat),sQ T off gs=some n->pL (kinds T d) gs=some ks->n=l.length->n=m.length->∀y,cy ks (l.drop off) (m.drop off)=some y->∀w,(Op.eqFields dep ⟨l⟩ ⟨m⟩ gs).run P w=.ok y w:=by
      intro gs;induction gs with
      |nil=>
       intro off ks hc hk hn hm y hy w;simp only[sQ,mw] at hc;simp only[pL,mw] at hk;subst hk;have h1:l.drop off=[]:=Xt (by omega);have h2:m.drop off=[]:=Xt (by omega);rw[h1,h2] at hy;simp only[cy,mw] at hy;subst hy;rfl
      |cons f gs ihg=>
       intro off ks hc hk hn hm y hy w;simp only[sQ] at hc;cases hb:Nat.beq f.offset off with
       |false=>simp[hb] at hc
       |true=>
        simp only[hb,cond_true] at hc;have afZ:=qW hb;cases ht:T f.type with
        |none=>simp[ht] at hc
        |some j=>
         simp only[ht] at hc;obtain⟨X4,a,b,ha,HD,rfl⟩:=vU hk;have hj:=hT _ _ ht;have hle:=TM hc;have KA:=vV ht hT ha;have vo:∀z:List Value,z.drop off=(z.drop off).take j.size++z.drop (off+j.size):=by intro z;rw[<-List.drop_drop,List.take_append_drop]
         rw[vo l,vo m] at hy;obtain⟨p,q,hp,hq,rfl⟩:=xH (by simp;omega) (by simp;omega) hy;simp only[Op.eqFields,ne_eq,X4,not_false_eq_true,if_true,Sem.run_bind,afZ,yC hj (m:=l) (show off+j.size<=l.length by omega),yC hj (m:=m) (show off+j.size<=m.length by omega),Result.andThen_ok]
         rw[ih f.type j dep a ht ha (by omega) _ _ p hp];simp only[Result.andThen_ok];cases p with
         |true=>
          simp only[Bool.not_true,Sp,if_false,Bool.true_and];exact ihg _ _ hc HD hn hm q hq w
         |false=>simp
     have pc:=vV (d:=d+1) mW hT (ks:=ks) (by simp only[kinds,mW,hu,hc,hb,cond_true];exact mV);obtain⟨h1,h2⟩:=sZ he;have hn:=qW hb;exact key fs.toList 0 ks hc mV (by omega) (by omega) x (by simpa using he) w
   .cases mV
  .rename_i n el hu;rw[hu] at yX;have uj:P.underlying t=some (.array n el):=by rw[hi.u,hu]
   simp only[x9,yX,qt,cond_true];split at mV
   .rename_i e nu;cases hb:Nat.beq (n*e.size) i.size with
    |false=>simp[hb] at mV
    |true=>
     simp only[hb,cond_true] at mV;split at mV
     .rename_i LW hk;cases mV;have hE:=hT el e nu;obtain⟨ti,Qs,tg,_,_⟩:=hE.info;have hce:P.cellsOf el=e.size:=by rw[<-tg];simp[Program.cellsOf,Qs]
      rw[run_equalIn_array w dep ⟨l⟩ ⟨m⟩ uj Qs,hce,List.range_eq_range'];have pc:=vV nu hT hk;obtain⟨h1,h2⟩:=sZ he;rw[x8,pc] at h1 h2;have key:∀(k j:Nat),j+k=n->∀y,cy (Q9 LW k) (l.drop (j*e.size)) (m.drop (j*e.size))=some y->∀w,(Op.eqItems dep el e.size ⟨l⟩ ⟨m⟩ (List.range' j k)).run P w=.ok y w:=by
       intro k;induction k with
       |zero=>
        intro j hj y hy w;have hz1:l.drop (j*e.size)=[]:=Xt (by rw[h1];exact FW _ (by omega));have DF:m.drop (j*e.size)=[]:=Xt (by rw[h2];exact FW _ (by omega));rw[hz1,DF] at hy;simp only[Q9,cy,mw] at hy;subst hy;rfl
       |succ k ihk=>
        intro j hj y hy w;have hle:(j+1)*e.size<=n*e.size:=FW _ (by omega);rw[tW,Nat.one_mul] at hle;have vo:∀z:List Value,z.drop (j*e.size)=(z.drop (j*e.size)).take e.size++z.drop ((j+1)*e.size):=by intro z;rw[tW,Nat.one_mul,<-List.drop_drop,List.take_append_drop]
        rw[vo l,vo m] at hy;obtain⟨p,q,hp,hq,rfl⟩:=xH (ks:=LW) (by simp;omega) (by simp;omega) hy;simp only[List.range'_succ,Op.eqItems,Sem.run_bind,yC hE (m:=l) (show j*e.size+e.size<=l.length by omega),yC hE (m:=m) (show j*e.size+e.size<=m.length by omega),Result.andThen_ok]
        rw[ih el e dep LW nu hk (by omega) _ _ p hp];simp only[Result.andThen_ok];cases p with
        |true=>
         simp only[Bool.not_true,Sp,if_false,Bool.true_and];exact ihk (j+1) (by omega) q hq w
        |false=>simp
      exact key n 0 (by omega) x (by simpa using he) w
     .cases mV
   .cases mV
  .cases mV
theorem Bt(hT:dv P T):∀(d t:Nat)(dep:Nat)(ks:List Nat),kinds T d t=some ks->d<=dep->P.eqGuardType dep t=false:=by
 intro d;induction d with
 |zero=>intro t dep ks h;simp[kinds] at h
 |succ d ih=>
  intro t dep ks mV hd;obtain⟨dep,rfl⟩:∃k,dep=k+1:=⟨dep-1,by omega⟩;simp only[kinds] at mV;split at mV
  .cases mV
  .rename_i i mW;have hi:=hT t i mW;simp only[Program.eqGuardType,hi.u];split at mV
   .rename_i hu;rw[hu]
   .rename_i hu;rw[hu]
   .rename_i hu;rw[hu]
   .rename_i fs hu;rw[hu];split at mV
    .rename_i n hc;cases hb:Nat.beq n i.size with
     |false=>simp[hb] at mV
     |true=>
      simp only[hb,cond_true] at mV;dsimp only;rw[<-Array.any_toList];have key:∀(gs:List Field)(ks:List Nat),pL (kinds T d) gs=some ks->(gs.any fun f=>f.name != "_" &&P.eqGuardType dep f.type)=false:=by
       intro gs;induction gs with
       |nil=>intro _ _;rfl
       |cons f gs ihg=>
        intro ks hk;obtain⟨_,a,b,ha,HD,_⟩:=vU hk;rw[List.any_cons,ihg b HD,ih f.type dep a ha (by omega)];simp
      exact key _ _ mV
    .cases mV
   .rename_i n el hu;rw[hu];dsimp only;split at mV
    .rename_i e he;cases hb:Nat.beq (n*e.size) i.size with
     |false=>simp[hb] at mV
     |true=>
      simp only[hb,cond_true] at mV;split at mV
      .rename_i LW hk;exact ih el dep LW hk (by omega)
      .cases mV
    .cases mV
   .cases mV
end
section
variable{P:Program}{CC:cn}{ρ:eU}{h:ab}{w:World}{T:r8}{ng:Nat}{e:Env}{a:Act}{c:Value}
theorem VR.cZ{k:IntKind}{n:Int}(h:VR ρ (.int k n) c):c=.int k n:=by
 cases h with
 |val h=>cases h with
  |cell h=>cases h with
   |cell h=>cases h;rfl
theorem VR.nh{b:Bool}(h:VR ρ (.bool b) c):c=.bool b:=by
 cases h with
 |val h=>cases h with
  |cell h=>cases h with
   |cell h=>cases h;rfl
theorem VR.EW{s:ByteArray}(h:VR ρ (.string s) c):c=.string s:=by
 cases h with
 |val h=>cases h with
  |cell h=>cases h with
   |cell h=>cases h;rfl
theorem VR.BY{b o:Nat}(h:VR ρ (.pointer (some ⟨b,o,none⟩)) c):∃r,ρ b=some r/\c=.pointer (some ⟨r.aC,r.base+o,none⟩):=by
 cases h with
 |val h=>cases h with
  |cell h=>cases h with
   |cell h=>cases h with
    |ptr h=>exact⟨_,h,rfl⟩
theorem VR.Az(h:VR ρ (.pointer none) c):c=.pointer none:=by
 cases h with
 |val h=>cases h with
  |cell h=>cases h with
   |cell h=>cases h;rfl
theorem VR.G9{x:Addr}(h:VR ρ (.pointer (some x)) c):∃y,c=.pointer (some y):=by
 cases h with
 |val h=>cases h with
  |cell h=>cases h with
   |cell h=>cases h with
    |ptr h=>exact⟨_,rfl⟩
theorem VR.gu{b o n cp:Nat}(h:VR ρ (.slice (some ⟨b,o,none⟩) n cp) c):∃r ca ccap,ρ b=some r/\c=.slice (some ca) n ccap/\ua r o n cp ca ccap:=by
 cases h with
 |val h=>cases h with
  |cell h=>cases h with
   |cell h=>cases h with
    |slice h hs=>exact⟨_,_,_,h,rfl,hs⟩
theorem VR.js(h:VR ρ (.slice none n cp) c):c=.slice none n cp:=by
 cases h with
 |val h=>cases h with
  |cell h=>cases h with
   |cell h=>cases h;rfl
theorem VR.rU{x:Option Addr}(h:VR ρ (.slice x n cp) c):∃y ccap,c=.slice y n ccap/\y.isNone=x.isNone:=by
 cases h with
 |val h=>cases h with
  |cell h=>cases h with
   |cell h=>cases h with
    |qb=>exact⟨_,_,rfl,rfl⟩
    |slice h hs=>exact⟨_,_,rfl,rfl⟩
theorem VR.EJ{x:Option Nat}(h:VR ρ (.map x) c):∃y,c=.map y/\y.isNone=x.isNone:=by
 cases h with
 |val h=>cases h with
  |cell h=>cases h with
   |cell h=>cases h with
    |CU=>exact⟨_,rfl,rfl⟩
    |map h=>exact⟨_,rfl,rfl⟩
theorem VR.uA(h:VR ρ .nilFunc c):c=.nilFunc:=by
 cases h with
 |val h=>cases h with
  |cell h=>cases h with
   |cell h=>cases h;rfl
theorem VR.MT{fn:Fn}{x y:Array Value}(h:VR ρ (.func fn x y) c):∃fn' x' y',c=.func fn' x' y':=by
 cases h with
 |val h=>cases h with
  |cell h=>cases h with
   |cell h=>cases h
   |fn=>exact⟨_,_,_,rfl⟩
   |yield=>exact⟨_,_,_,rfl⟩
theorem VR.JQ{l:Array Value}(h:VR ρ (.agg l) c):∃m,c=.agg ⟨m⟩/\All2 (KR ρ) l.toList m:=by
 cases h with
 |val h=>cases h with
  |cell h=>exact absurd h.plain.1 (by simp[AI.plain])
  |agg h=>exact⟨_,rfl,h⟩
theorem VR.aaQ(h:VR ρ (.chan (some n)) c):∃m:Nat,c=.int .i64 m/\n<=m:=by
 cases h with
 |val h=>cases h with
  |cell h=>cases h with
   |cell h=>cases h
 |atl h=>exact⟨_,rfl,h⟩
theorem VR.JH{l:Array Value}(h:VR ρ (.tuple l) c):∃m,c=.tuple ⟨m⟩/\All2 (AR ρ) l.toList m:=by
 cases h with
 |val h=>cases h with
  |cell h=>exact absurd h.plain.1 (by simp[AI.plain])
 |tuple h=>exact⟨_,rfl,h⟩
theorem VR.agg{l m:List Value}(h:All2 (KR ρ) l m):VR ρ (.agg ⟨l⟩) (.agg ⟨m⟩):=.val (.agg h)
theorem acd{x y z:Operand}(S:dI CC ρ h w)(hE:ER ρ e a.tmps)(hG:cQ ng ρ)(hx:bG ng x=true)(hy:bG ng y=true)(hz:bG ng z=true){h':ab}(hv:bV e h (.pick x y z)=some (v,h')):Out CC ρ h w v h' (((do pure (.value (if<-asBool (a.eval x) then a.eval y else a.eval z))):Sem Next).run P w):=by
 have hr:=hE.eval hG hx;simp only[bV] at hv;split at hv
 .rename_i heq;cases hv;rw[heq] at hr;rw[hr.nh];exact Out.same S (by simp[asBool]) (hE.eval hG hy)
 .rename_i heq;cases hv;rw[heq] at hr;rw[hr.nh];exact Out.same S (by simp[asBool]) (hE.eval hG hz)
 .cases hv
theorem th{k:IntKind}{t:TypeId}{x y:Int}(hv:gD op k x y=some v):(binOp op t (.int k x) (.int k y)).run P w=.ok v w/\VR ρ v v:=by
 cases op<;>simp only[gD] at hv<;>first
  |(cases hv;exact⟨by simp[binOp,Op.intBits,Op.intCmp,Op.intArith],CR.vr (by constructor)⟩)
  |(split at hv
    .cases hv
    .rename_i hz;cases hv;refine⟨?_,CR.vr (by constructor)⟩;simp[binOp,Op.intDiv,hz])
  |(cases hv;done)
theorem Ca{k k':IntKind}{t:TypeId}{x y:Int}(Aq:op=.shl\/op=.shr)(hv:kJ op k x y=some v):(binOp op t (.int k x) (.int k' y)).run P w=.ok v w/\VR ρ v v:=by
 unfold kJ at hv;split at hv
 .cases hv
 .rename_i X5;rcases Aq with rfl|rfl<;>(cases hv;refine⟨?_,CR.vr (by constructor)⟩;simp[binOp,Op.shift,X5])
theorem cg(h1:p≠ .nilIface)(h2:∀l,p≠ .agg l):(eqGuard op t x y p q).run P w=.ok () w:=by
 have h3:(match p,q with
  |.nilIface,.nilIface=>False
  |.agg _,.agg _=>False
  |_,_=>True):=by
  cases p<;>first|trivial|(exact absurd rfl h1)|(exact absurd rfl (h2 _))|(cases q<;>trivial)
 cases op<;>first
  |rfl
  |(cases p<;>first|rfl|(exact absurd rfl h1)|(exact absurd rfl (h2 _))|(cases q<;>rfl))
theorem HZ(h1:op≠ .eql)(h2:op≠ .neq):(eqGuard op t x y p q).run P w=.ok () w:=by unfold eqGuard;cases op<;>first|rfl|(exact absurd rfl h1)|(exact absurd rfl h2)
def E0(T:r8)(t:Nat)(u:TypeDesc)(ks:List Nat):Prop:=
 (∃el,u=.slice el/\ks=[3])\/(∃el,u=.pointer el/\ks=[4])\/(∃k el,u=.map k el/\ks=[5])\/(∃ps rs vr,u=.func ps rs vr/\ks=[6])\/(∃(_:Unit) (LW:List Nat),qt u=true/\kinds T 9 t=some LW/\ks=9::LW)\/(u=.bool/\ks=[0])\/(∃k,u=.int k/\ks=[1])\/(u=.string/\ks=[2])
section
variable{t:TypeId}{d:Nat}
theorem gf(hu:P.underlying t=some (.slice el))(n m n' m':Nat)(y:Option Addr):(Op.equalIn (d+1) t (.slice none n m) (.slice y n' m')).run P w=.ok y.isNone w:=by simp only[Op.equalIn,Sem.run_bind,run_underlying hu,Result.andThen_ok,Sem.run_pure]
theorem jj(hu:P.underlying t=some (.slice el))(n m n' m':Nat)(y:Addr):(Op.equalIn (d+1) t (.slice (some y) n m) (.slice none n' m')).run P w=.ok false w:=by simp only[Op.equalIn,Sem.run_bind,run_underlying hu,Result.andThen_ok,Sem.run_pure]
theorem mI(hu:P.underlying t=some (.pointer el))(y:Option Addr):(Op.equalIn (d+1) t (.pointer none) (.pointer y)).run P w=.ok y.isNone w:=by simp only[Op.equalIn,Sem.run_bind,run_underlying hu,Result.andThen_ok,Sem.run_pure]
theorem mJ(hu:P.underlying t=some (.pointer el))(y:Addr):(Op.equalIn (d+1) t (.pointer (some y)) (.pointer none)).run P w=.ok false w:=by simp only[Op.equalIn,Sem.run_bind,run_underlying hu,Result.andThen_ok,Sem.run_pure]
theorem IL{k el:TypeId}(hu:P.underlying t=some (.map k el))(y:Option Nat):(Op.equalIn (d+1) t (.map none) (.map y)).run P w=.ok y.isNone w:=by simp only[Op.equalIn,Sem.run_bind,run_underlying hu,Result.andThen_ok,Sem.run_pure]
theorem mH{k el:TypeId}(hu:P.underlying t=some (.map k el))(y:Nat):(Op.equalIn (d+1) t (.map (some y)) (.map none)).run P w=.ok false w:=by simp only[Op.equalIn,Sem.run_bind,run_underlying hu,Result.andThen_ok,Sem.run_pure]
theorem kj(hu:P.underlying t=some (.func ps rs vr)):(Op.equalIn (d+1) t .nilFunc .nilFunc).run P w=.ok true w:=by simp only[Op.equalIn,Sem.run_bind,run_underlying hu,Result.andThen_ok,Sem.run_pure]
theorem kl(hu:P.underlying t=some (.func ps rs vr))(f:Fn)(x y:Array Value):(Op.equalIn (d+1) t .nilFunc (.func f x y)).run P w=.ok false w:=by simp only[Op.equalIn,Sem.run_bind,run_underlying hu,Result.andThen_ok,Sem.run_pure]
theorem km(hu:P.underlying t=some (.func ps rs vr))(f:Fn)(x y:Array Value):(Op.equalIn (d+1) t (.func f x y) .nilFunc).run P w=.ok false w:=by simp only[Op.equalIn,Sem.run_bind,run_underlying hu,Result.andThen_ok,Sem.run_pure]
end
theorem kn{b:Bool}(h1:∀k n k' n',¬(p=.int k n/\q=.int k' n'))(h2:∀k n k' n',¬(p=.float k n/\q=.float k' n'))(h4:∀s s',¬(p=.string s/\q=.string s'))(h5:∀k n m k' n' m',¬(p=.complex k n m/\q=.complex k' n' m'))(h3:(Op.equalIn (9999+1) t p q).run P w=.ok b w):(binOp .eql t p q).run P w=.ok (.bool b) w/\(binOp .neq t p q).run P w=.ok (.bool (!b)) w:=by
 have h3':(Op.equal t p q).run P w=.ok b w:=h3;constructor
 .unfold binOp;split<;>first
   |(exact absurd ⟨rfl,rfl⟩ (h1 _ _ _ _))
   |(exact absurd ⟨rfl,rfl⟩ (h2 _ _ _ _))
   |(exact absurd ⟨rfl,rfl⟩ (h4 _ _))
   |(exact absurd ⟨rfl,rfl⟩ (h5 _ _ _ _ _ _))
   |contradiction
   |(simp only[Sem.run_bind,h3',Result.andThen_ok,Sem.run_pure];done)
 .unfold binOp;split<;>first
   |(exact absurd ⟨rfl,rfl⟩ (h1 _ _ _ _))
   |(exact absurd ⟨rfl,rfl⟩ (h2 _ _ _ _))
   |(exact absurd ⟨rfl,rfl⟩ (h4 _ _))
   |(exact absurd ⟨rfl,rfl⟩ (h5 _ _ _ _ _ _))
   |contradiction
   |(simp only[Sem.run_bind,h3',Result.andThen_ok,Sem.run_pure];done)
theorem IM(hT:dv P T){t:Nat}{i:TI}(mW:T t=some i)(Uu:E0 T t i.u ks){b:Bool}(hv:VR ρ v c)(Ge:VR ρ v' c')(he:Dm ks v v'=some b){x y:Operand}{op:BinOp} :(eqGuard op t x y c c').run P w=.ok () w/\(binOp .eql t c c').run P w=.ok (.bool b) w/\(binOp .neq t c c').run P w=.ok (.bool (!b)) w:=by
 have hi:=hT t i mW;have depth:9<=P.depth:=by unfold Program.depth Made.depth;omega
 unfold Dm at he;split at he
 .
  rename_i l l';obtain⟨m,rfl,hm⟩:=hv.JQ;obtain⟨m',rfl,We⟩:=Ge.JQ;rcases Uu with⟨_,_,rfl⟩|⟨_,_,rfl⟩|⟨_,_,_,rfl⟩|⟨_,_,_,_,rfl⟩|⟨fs,LW,hu,hk,rfl⟩|⟨_,rfl⟩|⟨_,_,rfl⟩|⟨_,rfl⟩
  .cases he
  .cases he
  .cases he
  .cases he
  .have Ul:=MP hm We he;have yX:i.agg=true:=by rw[hi.agg,hu]
   have dE:=TZ hT 9 t i 10000 LW mW hk (by omega) m m' b Ul w;simp only[x9,yX,cond_true] at dE;refine⟨run_eqGuard_agg w op t x y _ _ (Bt hT 9 t P.depth LW hk depth),?_,?_⟩
   .rw[run_eql_struct,dE];rfl
   .rw[run_neq_struct,dE];rfl
  .cases he
  .cases he
  .cases he
 .rename_i Sz;have hu:=hi.u;split at he
  .
   have y5:∃el,i.u=.slice el:=by rcases Uu with⟨el,h,_⟩|⟨_,_,h⟩|⟨_,_,_,h⟩|⟨_,_,_,_,h⟩|⟨_,_,_,_,h⟩|⟨_,h⟩|⟨_,_,h⟩|⟨_,h⟩<;>first|exact⟨_,h⟩|(simp at h;done)
   obtain⟨el,nu⟩:=y5;rw[nu] at hu;split at he
   .cases he;rw[hv.js];obtain⟨y',cc,rfl,hy⟩:=Ge.rU;refine⟨cg (by simp) (by simp),kn (by simp) (by simp) (by simp) (by simp) ?_⟩;rw[<-hy];first|exact gf hu _ _ _ _ _|exact IL hu _
   .cases he;obtain⟨y',cc,rfl,hy⟩:=hv.rU;rw[Ge.js];refine⟨cg (by simp) (by simp),?_⟩;cases y' with
    |none=>simp at hy
    |some z=>exact kn (by simp) (by simp) (by simp) (by simp) (by first|exact gf hu _ _ _ _ _|exact jj hu _ _ _ _ _|exact mI hu _|exact mJ hu _|exact mH hu _|exact kj hu|exact kl hu _ _ _|exact km hu _ _ _)
   .cases he
  .
   have y5:∃el,i.u=.pointer el:=by rcases Uu with⟨el,_,h⟩|⟨_,h,_⟩|⟨_,_,_,h⟩|⟨_,_,_,_,h⟩|⟨_,_,_,_,h⟩|⟨_,h⟩|⟨_,_,h⟩|⟨_,h⟩<;>first|exact⟨_,h⟩|(simp at h;done)
   obtain⟨el,nu⟩:=y5;rw[nu] at hu;split at he
   .rename_i z;cases he;rw[hv.Az];cases z with
    |none=>
     rw[Ge.Az];exact⟨cg (by simp) (by simp),kn (by simp) (by simp) (by simp) (by simp) (by first|exact gf hu _ _ _ _ _|exact jj hu _ _ _ _ _|exact mI hu _|exact mJ hu _|exact mH hu _|exact kj hu|exact kl hu _ _ _|exact km hu _ _ _)⟩
    |some z=>
     obtain⟨y',rfl⟩:=Ge.G9;exact⟨cg (by simp) (by simp),kn (by simp) (by simp) (by simp) (by simp) (by first|exact gf hu _ _ _ _ _|exact jj hu _ _ _ _ _|exact mI hu _|exact mJ hu _|exact mH hu _|exact kj hu|exact kl hu _ _ _|exact km hu _ _ _)⟩
   .cases he;obtain⟨y',rfl⟩:=hv.G9;rw[Ge.Az];exact⟨cg (by simp) (by simp),kn (by simp) (by simp) (by simp) (by simp) (by first|exact gf hu _ _ _ _ _|exact jj hu _ _ _ _ _|exact mI hu _|exact mJ hu _|exact mH hu _|exact kj hu|exact kl hu _ _ _|exact km hu _ _ _)⟩
   .cases he
  .
   have y5:∃k el,i.u=.map k el:=by rcases Uu with⟨el,_,h⟩|⟨_,_,h⟩|⟨_,_,h,_⟩|⟨_,_,_,_,h⟩|⟨_,_,_,_,h⟩|⟨_,h⟩|⟨_,_,h⟩|⟨_,h⟩<;>first|exact⟨_,_,h⟩|(simp at h;done)
   obtain⟨k,el,nu⟩:=y5;rw[nu] at hu;split at he
   .cases he;obtain⟨y0,rfl,hy0⟩:=hv.EJ;obtain⟨y',rfl,hy⟩:=Ge.EJ;cases y0 with
    |some z=>simp at hy0
    |none=>
     refine⟨cg (by simp) (by simp),kn (by simp) (by simp) (by simp) (by simp) ?_⟩;rw[<-hy];first|exact gf hu _ _ _ _ _|exact IL hu _
   .cases he;obtain⟨y0,rfl,hy0⟩:=hv.EJ;obtain⟨y',rfl,hy⟩:=Ge.EJ;cases y0 with
    |none=>simp at hy0
    |some z=>cases y' with
     |some z=>simp at hy
     |none=>exact⟨cg (by simp) (by simp),kn (by simp) (by simp) (by simp) (by simp) (by first|exact gf hu _ _ _ _ _|exact jj hu _ _ _ _ _|exact mI hu _|exact mJ hu _|exact mH hu _|exact kj hu|exact kl hu _ _ _|exact km hu _ _ _)⟩
   .cases he
  .
   have y5:∃ps rs vr,i.u=.func ps rs vr:=by rcases Uu with⟨el,_,h⟩|⟨_,_,h⟩|⟨_,_,_,h⟩|⟨_,_,_,h,_⟩|⟨_,_,_,_,h⟩|⟨_,h⟩|⟨_,_,h⟩|⟨_,h⟩<;>first|exact⟨_,_,_,h⟩|(simp at h;done)
   obtain⟨ps,rs,vr,nu⟩:=y5;rw[nu] at hu;split at he
   .cases he;rw[hv.uA,Ge.uA];exact⟨cg (by simp) (by simp),kn (by simp) (by simp) (by simp) (by simp) (by first|exact gf hu _ _ _ _ _|exact jj hu _ _ _ _ _|exact mI hu _|exact mJ hu _|exact mH hu _|exact kj hu|exact kl hu _ _ _|exact km hu _ _ _)⟩
   .cases he;obtain⟨_,_,_,rfl⟩:=Ge.MT;rw[hv.uA];exact⟨cg (by simp) (by simp),kn (by simp) (by simp) (by simp) (by simp) (by first|exact gf hu _ _ _ _ _|exact jj hu _ _ _ _ _|exact mI hu _|exact mJ hu _|exact mH hu _|exact kj hu|exact kl hu _ _ _|exact km hu _ _ _)⟩
   .cases he;obtain⟨_,_,_,rfl⟩:=hv.MT;rw[Ge.uA];exact⟨cg (by simp) (by simp),kn (by simp) (by simp) (by simp) (by simp) (by first|exact gf hu _ _ _ _ _|exact jj hu _ _ _ _ _|exact mI hu _|exact mJ hu _|exact mH hu _|exact kj hu|exact kl hu _ _ _|exact km hu _ _ _)⟩
   .cases he
  .
   unfold mu at he;split at he
   .have hb:i.u=.bool:=by rcases Uu with⟨el,_,h⟩|⟨_,_,h⟩|⟨_,_,_,h⟩|⟨_,_,_,_,h⟩|⟨_,_,_,_,h⟩|⟨h,_⟩|⟨_,_,h⟩|⟨_,h⟩<;>first|exact h|(simp at h;done)
    cases he;rw[hv.nh,Ge.nh];rw[hb] at hu;exact⟨cg (by simp) (by simp),kn (by simp) (by simp) (by simp) (by simp) (run_equalIn_bool' w _ t _ _ hu)⟩
   .rw[hv.cZ,Ge.cZ];split at he
    .rename_i hk;subst hk;cases he;refine⟨cg (by simp) (by simp),?_,?_⟩
     .simp[binOp,Op.intCmp]
     .simp only[binOp,ne_eq,not_true_eq_false,if_false,Op.intCmp,Sem.run_pure];rfl
    .cases he
   .cases he;rw[hv.EW,Ge.EW];refine⟨cg (by simp) (by simp),?_,?_⟩
    .simp[binOp,Op.stringOp,beq_toListBytes]
    .simp[binOp,Op.stringOp,beq_toListBytes]
   .cases he
  .cases he
end
section
variable{P:Program}{CC:cn}{ρ:eU}{h h':ab}{w:World}{T:r8}{ng:Nat}{e:Env}{a:Act}{c v:Value}
theorem QW{t:TypeId}(S:dI CC ρ h w)(hE:ER ρ e a.tmps)(hG:cQ ng ρ)(hx:bG ng x=true)(hy:bG ng y=true)(hn:op≠ .eql/\op≠ .neq)(hv:bV e h (.bin op ks x y)=some (v,h')):Out CC ρ h w v h' (((do pure (Next.value (<-(do eqGuard op t x y (a.eval x) (a.eval y);binOp op t (a.eval x) (a.eval y))))):Sem Next).run P w):=by
 have gi:=hE.eval hG hx;have rq:=hE.eval hG hy;simp only[bV] at hv;split at hv
 .rename_i r hb;cases hv;have key:(binOp op t (a.eval x) (a.eval y)).run P w=.ok v w/\VR ρ v v:=by
   unfold WY at hb;split at hb
   .split at hb
    .rename_i h1 h2;rw[h1] at gi;rw[h2] at rq;rw[gi.cZ,rq.cZ];exact Ca (.inl rfl) hb
    .cases hb
   .split at hb
    .rename_i h1 h2;rw[h1] at gi;rw[h2] at rq;rw[gi.cZ,rq.cZ];exact Ca (.inr rfl) hb
    .cases hb
   .exact absurd rfl hn.1
   .exact absurd rfl hn.2
   .split at hb
    .rename_i h1 h2;rw[h1] at gi;rw[h2] at rq;rw[gi.cZ,rq.cZ];split at hb
     .rename_i hk;subst hk;exact th hb
     .cases hb
    .rename_i x' iN h1 h2;rw[h1] at gi;rw[h2] at rq;rw[gi.cZ];obtain⟨m,hm,hle⟩:=rq.aaQ;rw[hm];split at hb
     .rename_i hle';cases hb;have afx:decide (x'>(m:Int))=false:=by simp;omega
      have:=th (op:=.gtr) (t:=t) (k:=.i64) (x:=x') (y:=(m:Int)) (P:=P) (w:=w) (ρ:=ρ) (v:=.bool false) (by simp only[gD];rw[afx]);exact this
     .cases hb
    .cases hb
   .split at hb
    .rename_i h1 h2;rw[h1] at gi;rw[h2] at rq;rw[gi.cZ,rq.cZ];split at hb
     .rename_i hk;subst hk;exact th hb
     .cases hb
    .cases hb
  refine Out.same S (ez ?_) key.2;simp only[Sem.run_bind,HZ hn.1 hn.2,Result.andThen_ok,key.1]
 .cases hv
theorem U7(hT:dv P T){i:TI}(S:dI CC ρ h w)(hE:ER ρ e a.tmps)(hG:cQ ng ρ)(hx:bG ng x=true)(hy:bG ng y=true)(Aq:op=.eql\/op=.neq)(mW:T t=some i)(Uu:E0 T t i.u ks)(hv:bV e h (.bin op ks x y)=some (v,h')):Out CC ρ h w v h' (((do pure (Next.value (<-(do eqGuard op t x y (a.eval x) (a.eval y);binOp op t (a.eval x) (a.eval y))))):Sem Next).run P w):=by
 have gi:=hE.eval hG hx;have rq:=hE.eval hG hy;simp only[bV] at hv;split at hv
 .rename_i r hb;cases hv;have key:(eqGuard op t x y (a.eval x) (a.eval y)).run P w=.ok () w/\(binOp op t (a.eval x) (a.eval y)).run P w=.ok v w/\VR ρ v v:=by
   rcases Aq with rfl|rfl
   .simp only[WY] at hb;split at hb
    .rename_i h1 h2;rw[h1] at gi;rw[h2] at rq;rw[gi.cZ,rq.cZ];split at hb
     .rename_i hk;subst hk;exact⟨cg (by simp) (by simp),th hb⟩
     .cases hb
    .split at hb
     .rename_i b he;cases hb;have:=IM (w:=w) hT mW Uu gi rq he (x:=x) (y:=y) (op:=.eql);exact⟨this.1,this.2.1,VR.bool _⟩
     .cases hb
   .simp only[WY] at hb;split at hb
    .rename_i h1 h2;rw[h1] at gi;rw[h2] at rq;rw[gi.cZ,rq.cZ];split at hb
     .rename_i hk;subst hk;exact⟨cg (by simp) (by simp),th hb⟩
     .cases hb
    .split at hb
     .rename_i b he;cases hb;have:=IM (w:=w) hT mW Uu gi rq he (x:=x) (y:=y) (op:=.neq);exact⟨this.1,this.2.2,VR.bool _⟩
     .cases hb
  refine Out.same S (ez ?_) key.2.2;simp only[Sem.run_bind,key.1,Result.andThen_ok,key.2.1]
 .cases hv
theorem amp{op:UnOp}(S:dI CC ρ h w)(hE:ER ρ e a.tmps)(hG:cQ ng ρ)(hx:bG ng x=true)(hv:bV e h (.un op x)=some (v,h')):Out CC ρ h w v h' (((do pure (Next.value (<-Op.unary op (a.eval x)))):Sem Next).run P w):=by
 have gi:=hE.eval hG hx;simp only[bV] at hv;split at hv
 .rename_i r hb;cases hv;unfold unV at hb;split at hb
  .rename_i h1;cases hb;rw[h1] at gi;rw[gi.cZ];exact Out.same S (ez (by simp[Op.unary,Op.intArith])) (VR.int _ _)
  .rename_i h1;cases hb;rw[h1] at gi;rw[gi.cZ];exact Out.same S (ez (by simp[Op.unary,Op.intBits])) (VR.int _ _)
  .rename_i h1;cases hb;rw[h1] at gi;rw[gi.nh];exact Out.same S (ez (by simp[Op.unary])) (VR.bool _)
  .cases hb
 .cases hv
theorem ab_(hT:dv P T){s d:TypeId}{i j:TI}{ks k:IntKind}(hs:T s=some i)(hd:T d=some j)(hsu:i.u=.int ks)(hdu:j.u=.int k)(S:dI CC ρ h w)(hE:ER ρ e a.tmps)(hG:cQ ng ρ)(hx:bG ng x=true)(hv:bV e h (.conv k x)=some (v,h')):Out CC ρ h w v h' (((do pure (Next.value (<-convert s d (a.eval x)))):Sem Next).run P w):=by
 have gi:=hE.eval hG hx;simp only[bV] at hv;split at hv
 .rename_i h1;cases hv;rw[h1] at gi;rw[gi.cZ];have h2:=(hT s i hs).u;rw[hsu] at h2;have h3:=(hT d j hd).u;rw[hdu] at h3;exact Out.same S (ez (by simp[convert,run_underlying h2,run_underlying h3,Conv.intToInt])) (VR.int _ _)
 .cases hv
theorem Ch(hE:ER ρ e a.tmps)(hG:cQ ng ρ):∀l:List Operand,l.all (bG ng)=true->All2 (VR ρ) (u4 e l) (l.map a.eval)
 |[],_=>.nil
 |x::l,hl=>by simp only[List.all_cons,zr] at hl;exact .cons (hE.eval hG hl.1) (Ch hE hG l hl.2)
theorem Rh{l m:List Value}(h:All2 (VR ρ) l m):l.all simple=true->All2 (CR ρ) l m:=by
 induction h with
 |nil=>intro _;exact .nil
 |cons h _ ih=>
  intro hs;simp only[List.all_cons,zr] at hs;exact .cons (CR.Js h hs.1) (ih hs.2)
theorem acb{f:FuncId}{first caps:Array Operand}(S:dI CC ρ h w)(hE:ER ρ e a.tmps)(hG:cQ ng ρ)(hf:first.isEmpty=true)(hx:caps.toList.all (bG ng)=true)(hv:bV e h (.tX f caps.toList)=some (v,h')):Out CC ρ h w v h' (((do pure (Next.value (<-Instr.makeFunc (.func f) (first.map a.eval) (caps.map a.eval)))):Sem Next).run P w):=by
 have hr:=Ch hE hG caps.toList hx;simp only[bV] at hv;cases hs:(u4 e caps.toList).all simple with
 |false=>simp[hs] at hv
 |true=>
  simp only[hs,cond_true,mw,yU] at hv;obtain⟨rfl,rfl⟩:=hv;have hf0:first= #[]:=by simpa using hf
  subst hf0;refine Out.same S (c:=.func (.func f) #[] ⟨caps.toList.map a.eval⟩) (ez ?_) (KR.fn f (Rh hr hs)).vr;have hm:caps.map a.eval=⟨caps.toList.map a.eval⟩:=by apply Array.ext';simp
  simp[Instr.makeFunc,hm]
theorem U9(S:dI CC ρ h w)(hE:ER ρ e a.tmps)(hG:cQ ng ρ)(hx:bG ng x=true){ty:TypeId}{pos:String}{aft:Array Edge}{gd:Option (Nat×Bool)}{dst:Option Tmp}(hv:bV e h (.xY x)=some (v,h')):Out CC ρ h w v h' ((execOp a.eval { dst:=dst,op:=.nilCheck x,type:=ty,pos:=pos,after:=aft,guard:=gd }).run P w):=by
 have gi:=hE.eval hG hx;simp only[bV] at hv;split at hv
 .rename_i y h1;cases hv;rw[h1] at gi;obtain⟨z,hz⟩:=gi.G9;refine Out.same S (c:=.pointer (some z)) ?_ (by rw[hz] at gi;exact gi);simp[execOp,hz]
 .cases hv
theorem agU(S:dI CC ρ h w)(hE:ER ρ e a.tmps)(hG:cQ ng ρ)(hx:bG ng x=true)(hv:bV e h (.ext i x)=some (v,h')):Out CC ρ h w v h' (((do pure (Next.value (<-Instr.extract (a.eval x) i))):Sem Next).run P w):=by
 have gi:=hE.eval hG hx;simp only[bV] at hv;split at hv
 .rename_i l h1;split at hv
  .rename_i u h2;cases hv;rw[h1] at gi;obtain⟨m,hm,hk⟩:=gi.JH;obtain⟨c,hc,hr⟩:=hk.get h2;rw[hm];refine Out.same S (c:=c) (ez ?_) (.val hr);have:(⟨m⟩:Array Value)[i]?=some c:=by rw[<-hc];simp
   simp[Instr.extract,this]
  .cases hv
 .cases hv
theorem agV(hT:dv P T){i:TI}(mW:T t=some i)(hu:i.u=.slice el){ty:TypeId}(S:dI CC ρ h w)(hE:ER ρ e a.tmps)(hG:cQ ng ρ)(hx:bG ng x=true)(hv:bV e h (.tS x)=some (v,h')):Out CC ρ h w v h' (((do pure (Next.value (<-Builtin.len_ #[t] ty #[a.eval x]))):Sem Next).run P w):=by
 have gi:=hE.eval hG hx;have hi:=(hT t i mW).u;rw[hu] at hi;simp only[bV] at hv;split at hv
 .rename_i h1;cases hv;rw[h1] at gi;obtain⟨y,cc,hy,_⟩:=gi.rU;rw[hy];exact Out.same S (ez (by simp[Builtin.len_,run_underlying hi,goInt])) (VR.int _ _)
 .cases hv
theorem agT(hT:dv P T){i:TI}(mW:T t=some i)(hu:i.u=.slice el){ty:TypeId}(S:dI CC ρ h w)(hE:ER ρ e a.tmps)(hG:cQ ng ρ)(hx:bG ng x=true)(hv:bV e h (.Pq x)=some (v,h')):Out CC ρ h w v h' (((do pure (Next.value (<-Builtin.cap_ #[t] ty #[a.eval x]))):Sem Next).run P w):=by
 have gi:=hE.eval hG hx;have hi:=(hT t i mW).u;rw[hu] at hi;simp only[bV] at hv;split at hv
 .rename_i h1;cases hv;rw[h1] at gi;rw[gi.js];exact Out.same S (ez (by simp[Builtin.cap_,run_underlying hi,goInt])) (VR.int _ _)
 .rename_i b off len cp h1;rw[h1] at gi;obtain⟨r,ca,ccap,hr,hc,hs⟩:=gi.gu;rw[hc];split at hv
  .rename_i cs ro o st hb;have X7:=S.obj b r _ hr hb;obtain⟨e_,MM,fr,_,_,Ux,_⟩:=X7;have dE:(Builtin.cap_ #[t] ty #[.slice (some ca) len ccap]).run P w=.ok (.int .i64 ccap) w:=by simp[Builtin.cap_,run_underlying hi,goInt]
   cases ho:Nat.beq o 0 with
   |true=>
    simp only[ho,if_true] at hv;cases hv;have ho0:=qW ho;have:ccap=cp:=by
     rcases hs.2.1 with h|⟨h,_⟩
     .exact h
     .exact absurd (Ux.trans ho0) h
    rw[this] at dE⊢;exact Out.same S (ez dE) (VR.int _ _)
   |false=>
    simp only[ho,Sp,if_false] at hv;cases hv;have:cp<=ccap:=by
     rcases hs.2.1 with h|⟨_,h,_⟩
     .omega
     .exact h
    exact Out.same S (ez dE) (.atl this)
  .cases hv
 .cases hv
theorem ace(hT:dv P T){i:TI}(mW:T t=some i)(hu:i.u=.string){ty:TypeId}(S:dI CC ρ h w)(hE:ER ρ e a.tmps)(hG:cQ ng ρ)(hx:bG ng x=true)(hv:bV e h (.Lz x)=some (v,h')):Out CC ρ h w v h' (((do pure (Next.value (<-Builtin.len_ #[t] ty #[a.eval x]))):Sem Next).run P w):=by
 have gi:=hE.eval hG hx;have hi:=(hT t i mW).u;rw[hu] at hi;simp only[bV] at hv;split at hv
 .rename_i h1;cases hv;rw[h1] at gi;rw[gi.EW];exact Out.same S (ez (by simp[Builtin.len_,run_underlying hi,goInt])) (VR.int _ _)
 .cases hv
theorem agW{ts:Array TypeId}{ty:TypeId}(S:dI CC ρ h w)(hE:ER ρ e a.tmps)(hG:cQ ng ρ)(hx:bG ng x=true)(hy:bG ng y=true)(hv:bV e h (.Mi x y)=some (v,h')):Out CC ρ h w v h' (((do pure (Next.value (<-Builtin.min_ ts ty #[a.eval x,a.eval y]))):Sem Next).run P w):=by
 have gi:=hE.eval hG hx;have rq:=hE.eval hG hy;simp only[bV] at hv;split at hv
 .rename_i h1 h2;split at hv
  .rename_i hk;subst hk;cases hv;rw[h1] at gi;rw[h2] at rq;rw[gi.cZ,rq.cZ];exact Out.same S (ez (by simp[Builtin.min_,Builtin.min2])) (VR.int _ _)
  .cases hv
 .cases hv
theorem Y3(hT:dv P T){i fi:TI}{fs:Array Field}{f:Field}{k:Nat}(mW:T t=some i)(hu:i.u=.struct fs)(hf:fs[k]?=some f)(hfi:T f.type=some fi)(hz:fi.size≠0)(S:dI CC ρ h w)(hE:ER ρ e a.tmps)(hG:cQ ng ρ)(hx:bG ng x=true)(hv:bV e h (.ee f.offset x)=some (v,h')):Out CC ρ h w v h' (((do pure (Next.value (<-Instr.fieldAt t (a.eval x) k))):Sem Next).run P w):=by
 have gi:=hE.eval hG hx;have hi:=(hT t i mW).u;rw[hu] at hi;simp only[bV] at hv;split at hv
 .rename_i b o h1;cases hv;rw[h1] at gi;obtain⟨r,hr,hc⟩:=gi.BY;rw[hc];refine Out.same S (c:=.pointer (some ⟨r.aC,r.base+(o+f.offset),none⟩)) (ez ?_) (CR.ptr hr).vr;simp[Instr.fieldAt,run_underlying hi,hf,Instr.sureAddr,fieldPlace,(iB (w:=w) (hT _ _ hfi)).1,hz,pQ,AL]
 .cases hv
theorem GN(hT:dv P T){i ei:TI}(mW:T t=some i)(hu:i.u=.slice el)(nu:T el=some ei)(S:dI CC ρ h w)(hE:ER ρ e a.tmps)(hG:cQ ng ρ)(hx:bG ng x=true)(hy:bG ng y=true)(hv:bV e h (.dx none ei.size x y)=some (v,h')):Out CC ρ h w v h' (((do pure (Next.value (<-Instr.indexAt t (a.eval x) (a.eval y)))):Sem Next).run P w):=by
 have gi:=hE.eval hG hx;have rq:=hE.eval hG hy;have hi:=(hT t i mW).u;rw[hu] at hi;simp only[bV] at hv;split at hv
 .rename_i k n h1;split at hv
  .contradiction
  .rename_i b o len cp _ h2;by_cases dQ:n<len
   .have hb:Nat.blt n len=true:=by simp[Nat.blt_eq];exact dQ
    simp only[hb,if_true,mw,yU] at hv;obtain⟨rfl,rfl⟩:=hv;rw[h1] at rq;rw[h2] at gi;rw[rq.cZ];obtain⟨r,ca,cc,hr,hc,⟨M6,Uk,hle⟩⟩:=gi.gu;rw[hc];have XN:ca=⟨r.aC,r.base+o,none⟩:=by
     rcases M6 with h|⟨_,h⟩
     .exact h
     .omega
    subst XN;refine Out.same S (c:=.pointer (some ⟨r.aC,r.base+(o+n*ei.size),none⟩)) (ez ?_) (CR.ptr hr).vr;have wN:(0:Int)<=Int.ofNat n/\Int.ofNat n<(len:Int):=⟨Int.natCast_nonneg n,by exact Int.ofNat_lt.2 dQ⟩;simp only[Instr.indexAt,asIntOf,Sem.run_bind,Sem.run_pure,Result.andThen_ok,run_underlying hi];rw[aY wN];simp[(iB (w:=w) (hT _ _ nu)).1,pQ,AL]
   .have hb:Nat.blt n len=false:=by
     cases hb:Nat.blt n len with
     |false=>rfl
     |true=>exact absurd (by simpa [Nat.blt_eq] using hb) dQ
    simp[hb] at hv
  .cases hv
 .cases hv
theorem GM(hT:dv P T){i ei:TI}(mW:T t=some i)(hu:i.u=.array m el)(nu:T el=some ei)(S:dI CC ρ h w)(hE:ER ρ e a.tmps)(hG:cQ ng ρ)(hx:bG ng x=true)(hy:bG ng y=true)(hv:bV e h (.dx (some m) ei.size x y)=some (v,h')):Out CC ρ h w v h' (((do pure (Next.value (<-Instr.indexAt t (a.eval x) (a.eval y)))):Sem Next).run P w):=by
 have gi:=hE.eval hG hx;have rq:=hE.eval hG hy;have hi:=(hT t i mW).u;rw[hu] at hi;simp only[bV] at hv;split at hv
 .rename_i k n h1;split at hv
  .rename_i m' b o LN h2;cases LN;by_cases dQ:n<m
   .have hb:Nat.blt n m=true:=by simp[Nat.blt_eq];exact dQ
    simp only[hb,if_true,mw,yU] at hv;obtain⟨rfl,rfl⟩:=hv;rw[h1] at rq;rw[h2] at gi;rw[rq.cZ];obtain⟨r,hr,hc⟩:=gi.BY;rw[hc];refine Out.same S (c:=.pointer (some ⟨r.aC,r.base+(o+n*ei.size),none⟩)) (ez ?_) (CR.ptr hr).vr;have wN:(0:Int)<=Int.ofNat n/\Int.ofNat n<(m:Int):=⟨Int.natCast_nonneg n,by exact Int.ofNat_lt.2 dQ⟩;simp only[Instr.indexAt,asIntOf,Sem.run_bind,Sem.run_pure,Result.andThen_ok,run_underlying hi,Instr.sureAddr];rw[aY wN];simp[(iB (w:=w) (hT _ _ nu)).1,pQ,AL]
   .have hb:Nat.blt n m=false:=by
     cases hb:Nat.blt n m with
     |false=>rfl
     |true=>exact absurd (by simpa [Nat.blt_eq] using hb) dQ
    simp[hb] at hv
  .contradiction
  .cases hv
 .cases hv
theorem KX(hT:dv P T){i:TI}(mW:T t=some i)(hu:i.u=.string)(S:dI CC ρ h w)(hE:ER ρ e a.tmps)(hG:cQ ng ρ)(hx:bG ng x=true)(hy:bG ng y=true)(hv:bV e h (.index none x y)=some (v,h')):Out CC ρ h w v h' (((do pure (Next.value (<-Instr.index t (a.eval x) (a.eval y)))):Sem Next).run P w):=by
 have gi:=hE.eval hG hx;have rq:=hE.eval hG hy;have hi:=(hT t i mW).u;rw[hu] at hi;simp only[bV] at hv;split at hv
 .rename_i k n h1;split at hv
  .contradiction
  .rename_i s _ h2;split at hv
   .rename_i b hb;cases hv;rw[h1] at rq;rw[h2] at gi;rw[rq.cZ,gi.EW];refine Out.same S (ez ?_) (VR.int _ _);have h0:(0:Int)<=Int.ofNat n:=Int.natCast_nonneg n;simp only[Instr.index,asIntOf,Sem.run_bind,Sem.run_pure,Result.andThen_ok,run_underlying hi];simp only[h0,if_true];have:(Int.ofNat n).toNat=n:=rfl;rw[this,hb];rfl
   .cases hv
  .cases hv
 .cases hv
theorem KW(hT:dv P T){i ei:TI}(mW:T t=some i)(hu:i.u=.array len el)(nu:T el=some ei)(S:dI CC ρ h w)(hE:ER ρ e a.tmps)(hG:cQ ng ρ)(hx:bG ng x=true)(hy:bG ng y=true)(hv:bV e h (.index (some (len,ei.size,AZ ei)) x y)=some (v,h')):Out CC ρ h w v h' (((do pure (Next.value (<-Instr.index t (a.eval x) (a.eval y)))):Sem Next).run P w):=by
 have gi:=hE.eval hG hx;have rq:=hE.eval hG hy;have hi:=(hT t i mW).u;rw[hu] at hi;simp only[bV] at hv;split at hv
 .rename_i k n h1;split at hv
  .rename_i len' axI n' l LN h2;cases LN;by_cases dQ:n<len
   .have hb:Nat.blt n len=true:=by simp[Nat.blt_eq];exact dQ
    simp only[hb,if_true] at hv;split at hv
    .rename_i u hu2;cases hv;rw[h1] at rq;rw[h2] at gi;rw[rq.cZ];obtain⟨m,hm,hk⟩:=gi.JQ;obtain⟨c,hc,hr⟩:=Zd (w:=w) (hT _ _ nu) hk hu2;rw[hm];refine Out.same S (c:=c) (ez ?_) hr;have wN:(0:Int)<=Int.ofNat n/\Int.ofNat n<(len:Int):=⟨Int.natCast_nonneg n,by exact Int.ofNat_lt.2 dQ⟩;simp only[Instr.index,asIntOf,Sem.run_bind,Sem.run_pure,Result.andThen_ok,run_underlying hi];rw[aY wN];simp only[Sem.run_bind,(iB (w:=w) (hT _ _ nu)).1,Result.andThen_ok];exact hc
    .cases hv
   .have hb:Nat.blt n len=false:=by
     cases hb:Nat.blt n len with
     |false=>rfl
     |true=>exact absurd (by simpa [Nat.blt_eq] using hb) dQ
    simp[hb] at hv
  .contradiction
  .cases hv
 .cases hv
end
section
variable{P:Program}{CC:cn}{ρ:eU}{h h':ab}{w:World}{T:r8}{ng:Nat}{e:Env}{a:Act}{c v:Value}
theorem Y4(hT:dv P T){i:TI}(mW:T t=some i)(S:dI CC ρ h w)(hE:ER ρ e a.tmps)(hG:cQ ng ρ)(hx:bG ng x=true)(hv:bV e h (.load (AZ i) x)=some (v,h')):Out CC ρ h w v h' (((do pure (Next.value (<-Instr.loadAt t (a.eval x)))):Sem Next).run P w):=by
 have gi:=hE.eval hG hx;simp only[bV] at hv;split at hv
 .rename_i b off h1;split at hv
  .rename_i cs h2;split at hv
   .rename_i u h3;cases hv;rw[h1] at gi;obtain⟨r,hr,hc⟩:=gi.BY;obtain⟨c,dE,asz⟩:=SQ S (hT t i mW) hr h2 h3;rw[hc];exact Out.same S (c:=c) (ez (by simp[Instr.loadAt,Instr.sureAddr,dE])) asz
   .cases hv
  .cases hv
 .cases hv
theorem U_(hT:dv P T){i:TI}(mW:T t=some i)(S:dI CC ρ h w)(hE:ER ρ e a.tmps)(hG:cQ ng ρ)(hx:bG ng x=true)(hy:bG ng y=true)(hv:bV e h (.store i.size x y)=some (v,h')):Out CC ρ h w v h' (((do Instr.storeAt t (a.eval x) (a.eval y);pure Next.skip):Sem Next).run P w):=by
 have gi:=hE.eval hG hx;have rq:=hE.eval hG hy;simp only[bV] at hv;split at hv
 .rename_i b off h1;split at hv
  .rename_i vs h2;split at hv
   .rename_i h3;split at hv
    .rename_i hh h4;cases hv;rw[h1] at gi;obtain⟨r,hr,hc⟩:=gi.BY;obtain⟨w',dE,S',E'⟩:=Y6 S (hT t i mW) hr rq h2 (qW h3) h4;rw[hc];refine⟨ρ,w',undef,.inr ⟨rfl,?_⟩,VR.undef,S',E'⟩;simp[Instr.storeAt,Instr.sureAddr,dE]
    .cases hv
   .cases hv
  .cases hv
 .cases hv
theorem Bj(x:Sem α)(f:α->β):(f <$> x).run P w=(x.run P w).andThen fun y w'=>.ok (f y) w':=Sem.run_map P w x f
theorem JT(f:α->Sem β)(g:α->β)(l:Array α)(hx:∀x∈l.toList,(f x).run P w=.ok (g x) w):(l.mapM f).run P w=.ok (l.map g) w:=by
 have key:∀(m:List α)(acc:Array β),(∀x∈m,(f x).run P w=.ok (g x) w)->(m.foldlM (fun bs x=>bs.push <$> f x) acc).run P w=.ok (acc++(m.map g).toArray) w:=by
  intro m;induction m with
  |nil=>intro acc _;simp
  |cons x m ih=>
   intro acc hm;simp only[List.foldlM_cons,Sem.run_bind,Bj,hm x (by simp),Result.andThen_ok];rw[ih _ (fun y hy=>hm y (by simp[hy]))];congr 1;apply Array.ext';simp
 rw[Array.mapM_eq_foldlM,<-Array.foldlM_toList];rw[key l.toList #[] hx];congr 1;apply Array.ext';simp
theorem Q3 :∀ {ps:List (Nat×Operand)} {qs:List (Nat×Nat×Operand)},v9 T fs ps=some qs->(fs.all fun f=>(T f.type).isSome)=true->All2 (fun(p:Nat×Operand) (q:Nat×Nat×Operand)=>((fs.map fun f=>(f.offset,((T f.type).map (·.size)).getD 0)).toArray[p.1]?)=some (q.1,q.2.1)/\q.2.2=p.2) ps qs:=by
 intro ps;induction ps with
 |nil=>intro qs h _;simp only[v9,mw] at h;subst h;exact .nil
 |cons p ps ih=>
  intro qs h oH;obtain⟨j,x⟩:=p;simp only[v9] at h;split at h
  .cases h
  .rename_i f hf;split at h
   .rename_i ti l ht hl;cases h;refine .cons ⟨?_,rfl⟩ (ih hl oH);simp[hf,ht]
   .cases h
theorem Ey(hT:dv P T){i:TI}{fs:Array Field}{ps:Array (Nat×Operand)}{qs:List (Nat×Nat×Operand)}(mW:T t=some i)(hu:i.u=.struct fs)(oH:(fs.toList.all fun f=>(T f.type).isSome)=true)(hq:v9 T fs.toList ps.toList=some qs)(S:dI CC ρ h w)(hE:ER ρ e a.tmps)(hG:cQ ng ρ)(hx:(ps.toList.map (·.2)).all (bG ng)=true)(hv:bV e h (.build i.zero qs)=some (v,h')):Out CC ρ h w v h' (((do pure (Next.value (<-Instr.build t (ps.map fun p=>(p.1,a.eval p.2))))):Sem Next).run P w):=by
 have hi:=hT t i mW;have Wj:=hi.u;rw[hu] at Wj;simp only[bV] at hv;split at hv
 .rename_i cs h1;cases hv;obtain⟨z,hz,UB⟩:=Cl (w:=w) hi;obtain⟨s,hs,hk⟩:=FM (ρ:=ρ) (a:=a) (ng:=ng) hE hG _ ps.toList qs i.zero i.zero cs (by simpa [List.all_map] using hx) (Q3 hq oH) (ec hi.zero) h1;refine Out.same S (c:=.agg ⟨s⟩) (ez ?_) (VR.agg hk);have xh:(fs.mapM fun f=>(do pure (f.offset,<-sizeOf f.type):Sem (Nat×Nat))).run P w=.ok (fs.map fun f=>(f.offset,((T f.type).map (·.size)).getD 0)) w:=by refine JT _ _ fs ?_;intro f hf;have alH:=List.all_eq_true.1 oH f hf;obtain⟨fi,hfi⟩:=Option.isSome_iff_exists.1 alH;simp[(iB (w:=w) (hT _ _ hfi)).1,hfi]
  have Wn:z.cells=⟨i.zero⟩:=by apply Array.ext';simpa using UB
  have hpp:(ps.map fun p=>(p.1,a.eval p.2)).toList=ps.toList.map fun p=>(p.1,a.eval p.2):=by simp
  have hpa:(fs.toList.map fun f=>(f.offset,((T f.type).map (·.size)).getD 0)).toArray=fs.map fun f=>(f.offset,((T f.type).map (·.size)).getD 0):=by apply Array.ext';simp
  rw[hpa] at hs;simp only[Instr.build,Sem.run_bind,hz,Result.andThen_ok,run_underlying Wj,xh,Wn,hpp,hs,Sem.run_pure]
 .cases hv
theorem vG{el:TI} :∀ps:List (Nat×Operand),All2 (fun(p:Nat×Operand) (q:Nat×Nat×Operand)=>(fun i=>some (i*el.size,el.size)) p.1=some (q.1,q.2.1)/\q.2.2=p.2) ps (ps.map fun p=>(p.1*el.size,el.size,p.2))
 |[]=>.nil
 |_::ps=>.cons ⟨rfl,rfl⟩ (vG ps)
theorem GL(hT:dv P T){i ei:TI}{ps:Array (Nat×Operand)}(mW:T t=some i)(hu:i.u=.array n el)(nu:T el=some ei)(S:dI CC ρ h w)(hE:ER ρ e a.tmps)(hG:cQ ng ρ)(hx:(ps.toList.map (·.2)).all (bG ng)=true)(hv:bV e h (.build i.zero (ps.toList.map fun p=>(p.1*ei.size,ei.size,p.2)))=some (v,h')):Out CC ρ h w v h' (((do pure (Next.value (<-Instr.build t (ps.map fun p=>(p.1,a.eval p.2))))):Sem Next).run P w):=by
 have hi:=hT t i mW;have Wj:=hi.u;rw[hu] at Wj;simp only[bV] at hv;split at hv
 .rename_i cs h1;cases hv;obtain⟨z,hz,UB⟩:=Cl (w:=w) hi;obtain⟨s,hs,hk⟩:=FM (ρ:=ρ) (a:=a) (ng:=ng) hE hG (fun i=>some (i*ei.size,ei.size)) ps.toList _ i.zero i.zero cs (by simpa [List.all_map] using hx) (vG (el:=ei) ps.toList) (ec hi.zero) h1;refine Out.same S (c:=.agg ⟨s⟩) (ez ?_) (VR.agg hk);have Wn:z.cells=⟨i.zero⟩:=by apply Array.ext';simpa using UB
  have hpp:(ps.map fun p=>(p.1,a.eval p.2)).toList=ps.toList.map fun p=>(p.1,a.eval p.2):=by simp
  simp only[Instr.build,Sem.run_bind,hz,Result.andThen_ok,run_underlying Wj,(iB (w:=w) (hT _ _ nu)).1,Wn,hpp,hs,Sem.run_pure]
 .cases hv
theorem qe(z:List Value):∀n,(iP z n).length=n*z.length
 |0=>by simp[iP]
 |n+1=>by rw[iP,IZ,qe z n,tW];omega
theorem N7(z:List Value):∀(n i:Nat),i<n*z.length->(iP z n)[i]?=z[i%z.length]?
 |0,i,h=>by simp at h
 |n+1,i,h=>by
  have hz:0<z.length:=by
   cases hz:z.length with
   |zero=>rw[hz] at h;simp at h
   |succ k=>omega
  rw[iP];by_cases hi:i<z.length
  .rw[FX hi,Nat.mod_eq_of_lt hi]
  .rw[HA (by omega),N7 z n _ (by rw[tW] at h;omega)];congr 1
   conv=>rhs;rw[show i=(i-z.length)+z.length by omega,Nat.add_mod_right]
theorem yG{z:List Value}(hz:0<z.length\/n=0):(iP z n)=((Array.range (n*z.length)).map (fun i=>(⟨z⟩:Array Value)[i%z.length]!)).toList:=by
 apply yT;intro i;by_cases hi:i<n*z.length
 .have Wm:0<z.length:=by
   rcases hz with h|h
   .exact h
   .subst h;simp at hi
  have hm:i%z.length<z.length:=Nat.mod_lt _ Wm;rw[N7 z n i hi];simp[hi,hm,getElem!_def]
 .rw[qY (by rw[qe];omega),qY (by simp;omega)]
theorem jH{z:List Value}(hz:z.all cr=true):∀n,(iP z n).all cr=true
 |0=>rfl
 |n+1=>by rw[iP,List.all_append,hz,jH hz n];rfl
theorem U8(hT:dv P T){i ei:TI}{ps:Array (Nat×Operand)}(mW:T t=some i)(hu:i.u=.slice el)(nu:T el=some ei)(hn:n*ei.size<=1000000)(S:dI CC ρ h w)(hE:ER ρ e a.tmps)(hG:cQ ng ρ)(hx:(ps.toList.map (·.2)).all (bG ng)=true)(hv:bV e h (.gC n (iP ei.zero n) (ps.toList.map fun p=>(p.1*ei.size,ei.size,p.2)))=some (v,h')):Out CC ρ h w v h' (((do pure (Next.value (<-Instr.buildSlice t n (ps.map fun p=>(p.1,a.eval p.2))))):Sem Next).run P w):=by
 have hi:=hT t i mW;have Wj:=hi.u;rw[hu] at Wj;have yY:=hT _ _ nu;simp only[bV] at hv;split at hv
 .rename_i cs h1;cases hv;obtain⟨z,hz,UB⟩:=Cl (w:=w) yY;have Wn:z.cells=⟨ei.zero⟩:=by apply Array.ext';simpa using UB
  have cj:=yY.len;obtain⟨s,hs,hk⟩:=FM (ρ:=ρ) (a:=a) (ng:=ng) hE hG (fun i=>some (i*ei.size,ei.size)) ps.toList _ _ _ cs (by simpa [List.all_map] using hx) (vG (el:=ei) ps.toList) (ec (jH yY.zero n)) h1;obtain⟨im,g1,g2,_,_,_,g7,g8⟩:=BT (bw:=[]) S hk el 0 (fun h=>absurd rfl h);rw[List.append_nil] at g7 g8;refine⟨_,_,.slice (some ⟨w.heap.size,0,none⟩) n n,.inl (ez ?_),?_,g7,g8⟩
  .have hpp:(ps.map fun p=>(p.1,a.eval p.2)).toList=ps.toList.map fun p=>(p.1,a.eval p.2):=by simp
   by_cases h0:n*ei.size=0
   .have hr:iP ei.zero n=[]:=IX (by rw[qe,cj];exact h0);rw[hr] at hs;simp only[Instr.buildSlice,Sem.run_bind,run_underlying Wj,Result.andThen_ok,(iB (w:=w) yY).1,Sem.run_ite,h0,if_true,Sem.run_pure,hpp];have he:((Array.range 0).map fun i=>(#[]:Array Value)[i%(#[]:Array Value).size]!)=⟨[]⟩:=by apply Array.ext';simp
    rw[he,hs];rfl
   .have dQ:¬(n*ei.size>2^24):=by omega
    have hm:=yG (z:=ei.zero) (n:=n) (by
     by_cases Ys:0<ei.zero.length
     .exact .inl Ys
     .right;have:ei.zero.length=0:=by omega
      rw[cj] at this;rw[this] at h0;simp at h0)
    rw[cj] at hm;have UC:z.cells.size=ei.size:=by rw[Wn];simpa using cj
    have hmm:((Array.range (n*ei.size)).map fun i=>(⟨ei.zero⟩:Array Value)[i%ei.size]!)=⟨iP ei.zero n⟩:=by apply Array.ext';rw[<-hm]
    simp only[Instr.buildSlice,Sem.run_bind,run_underlying Wj,Result.andThen_ok,(iB (w:=w) yY).1,Sem.run_ite,dQ,if_false,h0,hz,Sem.run_pure,hpp,UC];rw[Wn,hmm,hs];rfl
  .refine(CR.slice (vy _ _ _) ⟨.inl ?_,.inl rfl,dH _⟩).vr;rw[g1,g2]
 .cases hv
theorem QX(hT:dv P T){i ei:TI}(mW:T t=some i)(hu:i.u=.slice el)(nu:T el=some ei)(S:dI CC ρ h w)(hE:ER ρ e a.tmps)(hG:cQ ng ρ)(hx:bG ng x=true)(hy:bG ng y=true)(hv:bV e h (.gK ei.zero ei.bytes x y)=some (v,h')):Out CC ρ h w v h' (((do pure (Next.value (<-Instr.makeSlice t (a.eval x) (a.eval y)))):Sem Next).run P w):=by
 have hi:=hT t i mW;have Wj:=hi.u;rw[hu] at Wj;have yY:=hT _ _ nu;have gi:=hE.eval hG hx;have rq:=hE.eval hG hy;simp only[bV] at hv;split at hv
 .rename_i l c h1 h2;split at hv
  .rename_i h3;cases hv;simp only[zr] at h3;obtain⟨⟨⟨XZ,OO⟩,Ys⟩,Dy⟩:=h3;have XZ:=OJ XZ;have OO:=OJ OO;have Dy:=OJ Dy;have Ys:0<ei.zero.length:=by simpa [Nat.blt_eq] using Ys
   rw[h1] at gi;rw[h2] at rq;rw[gi.cZ,rq.cZ];obtain⟨ti,k1,k2,k3,z,k4,k5⟩:=yY.info;have Wn:z.cells=⟨ei.zero⟩:=by apply Array.ext';simpa using k5
   have dE:=run_make (P:=P) w t el ti z Wj k1 k4 .i64 .i64 (Int.ofNat l) (Int.ofNat c) (Int.natCast_nonneg l) (Int.ofNat_le.2 XZ)
    (by rw[k3];show(ei.bytes:Int)*(c:Int)<=_;rw[<-Int.natCast_mul,Nat.mul_comm];exact Int.le_trans (Int.ofNat_le.2 OO) (by decide)) (by show(c:Int)<=_;exact Int.le_trans (Int.ofNat_le.2 Dy) (by decide))
   have alg:madeCells z.cells ((Int.ofNat c).toNat*ti.size)=⟨iP ei.zero c++[]⟩:=by apply Array.ext';rw[List.append_nil,yG (.inl Ys),Wn];simp[madeCells,k2,yY.len]
   rw[alg] at dE;obtain⟨im,g1,g2,_,_,_,g7,g8⟩:=BT (bw:=[]) S (ec (jH yY.zero c)) el 0 (fun h=>absurd rfl h);refine⟨_,_,.slice (some ⟨w.heap.size,0,none⟩) l c,.inl (ez dE),?_,g7,g8⟩;refine(CR.slice (vy _ _ _) ⟨.inl ?_,.inl rfl,XZ⟩).vr;rw[g1,g2]
  .cases hv
 .cases hv
end
theorem vK :Nat.blt m n=true↔m<n:=by simp[Nat.blt_eq]
section
variable{P:Program}{CC:cn}{ρ:eU}{h h':ab}{w:World}{T:r8}{ng:Nat}{e:Env}{a:Act}{c v:Value}
theorem yh{top n:Nat}{d:Nat}(hE:ER ρ e a.tmps)(hG:cQ ng ρ)(hx:bG ng x=true)(hb:bound e (some x) d top=some n)(code:BoundsCode){y:Nat}(hy:top<=y):n<=top/\(Instr.sliceBound (a.eval x) y code).run P w=.ok n w:=by
 have gi:=hE.eval hG hx;simp only[bound] at hb;split at hb
 .rename_i k i h1;split at hb
  .rename_i h2;cases hb;have hle:=OJ h2;refine⟨hle,?_⟩;rw[h1] at gi;rw[gi.cZ];have hc:(0:Int)<=Int.ofNat n/\Int.ofNat n<=(y:Int):=⟨Int.natCast_nonneg n,Int.ofNat_le.2 (by omega)⟩;simp only[Instr.sliceBound,asIntOf,Sem.run_bind,Sem.run_pure,Result.andThen_ok];rw[aY hc];rfl
  .cases hb
 .cases hb
theorem Fv(hE:ER ρ e a.tmps)(hG:cQ ng ρ)(HF:(lo.toList).all (bG ng)=true)(hhi:(hi.toList).all (bG ng)=true)(hmx:(mx.toList).all (bG ng)=true)(hm3:(mx.isSome&&hi.isNone)=false){len cap ccap m hh l:Nat}(Uk:cap<=ccap)(h1:bound e mx cap cap=some m)(h2:bound e hi len m=some hh)(h3:bound e lo 0 hh=some l):∃m',(Instr.sliceBounds true len ccap (lo.map a.eval) (hi.map a.eval) (mx.map a.eval)).run P w=.ok (l,hh,m') w/\l<=hh/\(hi.isSome->hh<=m)/\((mx.isSome/\m'=m/\m<=cap)\/(mx=none/\m=cap/\m'=ccap)):=by
 have key:∀(m':Nat),m<=m'->(mx.isSome->m'=m)->(match mx.map a.eval with
   |some v=>Instr.sliceBound v ccap (if true then .slice3Acap else .slice3Alen)
   |none=>(pure ccap:Sem Nat)).run P w=.ok m' w->(Instr.sliceBounds true len ccap (lo.map a.eval) (hi.map a.eval) (mx.map a.eval)).run P w=.ok (l,hh,m') w/\l<=hh/\(hi.isSome->hh<=m):=by
  intro m' hmm hmx' qM;have hh2:(match hi.map a.eval,mx.map a.eval with
    |some v,some _=>Instr.sliceBound v m' .slice3B
    |some v,none=>Instr.sliceBound v m' (if true then .sliceAcap else .sliceAlen)
    |none,none=>(pure len:Sem Nat)
    |none,some _=>stuck "Slice: max without high").run P w=.ok hh w/\(hi.isSome->hh<=m):=by
   cases hi with
   |none=>
    cases mx with
    |some _=>simp at hm3
    |none=>
     simp only[bound,mw] at h2;subst h2;exact⟨rfl,by simp⟩
   |some x=>
    have hx:bG ng x=true:=by simpa using hhi
    cases mx with
    |none=>
     have:=yh (P:=P) (w:=w) hE hG hx h2 .sliceAcap hmm;exact⟨this.2,fun _=>this.1⟩
    |some y=>
     have:=yh (P:=P) (w:=w) hE hG hx h2 .slice3B hmm;exact⟨this.2,fun _=>this.1⟩
  have Qg:(match lo.map a.eval with
    |some v=>Instr.sliceBound v hh (if(mx.map a.eval).isSome then .slice3C else .sliceB)
    |none=>(pure 0:Sem Nat)).run P w=.ok l w/\l<=hh:=by
   cases lo with
   |none=>
    simp only[bound,mw] at h3;subst h3;exact⟨rfl,Nat.zero_le _⟩
   |some x=>
    have hx:bG ng x=true:=by simpa using HF
    have:=yh (P:=P) (w:=w) hE hG hx h3 (if(mx.map a.eval).isSome then .slice3C else .sliceB) (dH hh);exact⟨this.2,this.1⟩
  refine⟨?_,Qg.2,hh2.2⟩;have h5:=hh2.1;have h6:=Qg.1;clear hh2 Qg h1 h2 h3;rcases mx with _|mx<;>rcases hi with _|hi<;>rcases lo with _|lo<;>
   simp only[Option.map_none,EF,Option.isSome_none,Option.isSome_some,Sem.run_pure,Result.ok.injEq,and_true,run_stuck,reduceCtorEq,if_true,if_false,Sp] at qM h5 h6<;>
   first
    |(subst qM;subst h5;subst h6;rfl)
    |(subst qM;subst h5;simp only[Instr.sliceBounds,Option.map_none,EF,Option.isSome_none,Option.isSome_some,if_true,if_false,Sp,Sem.run_bind,Sem.run_pure,h6,Result.andThen_ok];done)
    |(subst qM;subst h6;simp only[Instr.sliceBounds,Option.map_none,EF,Option.isSome_none,Option.isSome_some,if_true,if_false,Sp,Sem.run_bind,Sem.run_pure,h5,Result.andThen_ok];done)
    |(subst qM;simp only[Instr.sliceBounds,Option.map_none,EF,Option.isSome_none,Option.isSome_some,if_true,if_false,Sp,Sem.run_bind,Sem.run_pure,h5,h6,Result.andThen_ok];done)
    |(subst h6;simp only[Instr.sliceBounds,Option.map_none,EF,Option.isSome_none,Option.isSome_some,if_true,if_false,Sp,Sem.run_bind,Sem.run_pure,qM,h5,Result.andThen_ok];done)
    |(simp only[Instr.sliceBounds,Option.map_none,EF,Option.isSome_none,Option.isSome_some,if_true,if_false,Sp,Sem.run_bind,Sem.run_pure,qM,h5,h6,Result.andThen_ok];done)
 cases mx with
 |none=>
  simp only[bound,mw] at h1;subst h1;obtain⟨k1,k2,k3⟩:=key ccap Uk (by simp) rfl;exact⟨ccap,k1,k2,k3,.inr ⟨rfl,rfl,rfl⟩⟩
 |some x=>
  have hx:bG ng x=true:=by simpa using hmx
  have hb:=yh (P:=P) (w:=w) hE hG hx h1 .slice3Acap Uk;obtain⟨k1,k2,k3⟩:=key m (dH m) (fun _=>rfl) hb.2;exact⟨m,k1,k2,k3,.inl ⟨rfl,rfl,hb.1⟩⟩
theorem Y5(hT:dv P T){i ei:TI}(mW:T t=some i)(hu:i.u=.slice el)(nu:T el=some ei)(hm3:(mx.isSome&&hi.isNone)=false)(S:dI CC ρ h w)(hE:ER ρ e a.tmps)(hG:cQ ng ρ)(hx:bG ng x=true)(HF:(lo.toList).all (bG ng)=true)(hhi:(hi.toList).all (bG ng)=true)(hmx:(mx.toList).all (bG ng)=true)(hv:bV e h (.slice ei.size x lo hi mx)=some (v,h')):Out CC ρ h w v h' (((do pure (Next.value (<-Instr.sliceAt t (a.eval x) (lo.map a.eval) (hi.map a.eval) (mx.map a.eval)))):Sem Next).run P w):=by
 have Dz:=(hT t i mW).u;rw[hu] at Dz;have tg:=(iB (w:=w) (hT _ _ nu)).1;have gi:=hE.eval hG hx;simp only[bV] at hv;split at hv
 .rename_i sa len cap h0;split at hv
  .cases hv
  .rename_i m h1;split at hv
   .cases hv
   .rename_i hh h2;split at hv
    .cases hv
    .rename_i l h3;rw[h0] at gi;split at hv
     .cases hv;rw[gi.js];obtain⟨m',hb,hlh,_,gh⟩:=Fv (P:=P) (w:=w) hE hG HF hhi hmx hm3 (dH cap) h1 h2 h3;have hmm:m'=m:=by rcases gh with⟨_,h,_⟩|⟨_,h,h'⟩<;>omega
      subst hmm;refine Out.same S (ez ?_) (CR.qb _ _).vr;simp only[Instr.sliceAt,Instr.slice,Sem.run_bind,run_underlying Dz,Result.andThen_ok,hb,tg,Sem.run_pure,Option.map_none];congr 2;split<;>rfl
     .rename_i b off;split at hv
      .rename_i cs ro o s ho;cases hcz:Nat.beq o 0||Nat.beq o ei.size with
       |false=>simp[hcz] at hv
       |true=>
        simp only[hcz,cond_true,mw,yU] at hv;obtain⟨rfl,rfl⟩:=hv;obtain⟨r,ca,ccap,hr,hc,⟨M6,Uk,hle⟩⟩:=gi.gu;obtain⟨e_,MM,fr,_,cj,Ux,_,_,_⟩:=S.obj b r _ hr ho;have CF:cap<=ccap:=by rcases Uk with h|⟨_,h,_,_⟩<;>omega
        obtain⟨m',hb,hlh,hhm,gh⟩:=Fv (P:=P) (w:=w) hE hG HF hhi hmx hm3 CF h1 h2 h3;have hhm':hh<=m:=by
         cases hi with
         |some y=>exact hhm rfl
         |none=>
          simp only[bound,mw] at h2;rcases gh with⟨hs,_⟩|⟨_,h,_⟩
          .rw[hs] at hm3;simp at hm3
          .omega
        rw[hc];refine Out.same S (c:=.slice (some (if m'=l then ca else ca.add (l*ei.size))) (hh-l) (m'-l)) (ez ?_) (CR.slice hr ⟨?_,?_,?_⟩).vr
        .simp only[Instr.sliceAt,Instr.slice,Sem.run_bind,run_underlying Dz,Result.andThen_ok,hb,tg,Sem.run_pure];congr 2;split<;>simp
        .by_cases AO:m'=l
         .right;rcases gh with⟨_,h,_⟩|⟨_,h,h'⟩<;>omega
         .left;rw[bc AO];have XN:ca=⟨r.aC,r.base+off,none⟩:=by
           rcases M6 with h|⟨h1,h2⟩
           .exact h
           .rcases gh with⟨_,h,_⟩|⟨_,h,h'⟩<;>omega
          rw[XN,pQ,AL]
        .rcases gh with⟨_,h,_⟩|⟨_,h,h'⟩
         .left;omega
         .rcases Uk with h5|⟨h5,h6,h7,h8⟩
          .left;omega
          .right;have aln:r.GR=ei.size:=by
            rw[Ux];simp only[Bool.or_eq_true] at hcz;rcases hcz with h|h
            .exact absurd (Ux.trans (qW h)) h5
            .exact qW h
           refine⟨h5,by omega,?_,?_⟩
           .rw[<-aln,h,Nat.sub_mul,<-h7];have:l*r.GR<=cap*r.GR:=FW _ (by omega);omega
           .rw[<-aln,h',Nat.sub_mul];have:l*r.GR<=ccap*r.GR:=FW _ (by omega);omega
        .omega
      .cases hv
     .cases hv
 .cases hv
def Is(P:Program)(w:World)(t':TypeId)(size:Nat)(el:TypeId)(x:Value)(n:Nat)(e_:List Value):Prop:=
 (∃MM sa cc,P.underlying t'=some (.slice MM)/\x=.slice sa n cc/\∀k,(Builtin.firstCells size n x).run P {w with drawn:=k} =.ok ⟨e_⟩ {w with drawn:=k})\/(∃k kk,P.underlying t'=some (.int kk)/\x=.int k (n:Int)/\n<=1099511627776/\∃z,(∀w',(zeroValue el).run P w'=.ok z w')/\z.cells.toList.length=size/\e_=iP z.cells.toList n)
theorem YS(hT:dv P T){el t':TypeId}{ei i':TI}(nu:T el=some ei)(mW:T t'=some i')(hz:if qT then ∃k,i'.u=.int k else ∃MM,i'.u=.slice MM)(S:dI CC ρ h w){x y:Value}(hr:VR ρ x y){cs:List Value}(hn:news h ei.zero qT x=some (n,cs)):∃e_,All2 (KR ρ) cs e_/\cs.length=n*ei.size/\Is P w t' ei.size el y n e_:=by
 have yY:=hT _ _ nu;have uj:=(hT _ _ mW).u;unfold news at hn;split at hn
 .
  rename_i k m;split at hn
  .rename_i mK;cases hn;obtain⟨kk,hkk⟩:=by simpa using hz
   rw[hkk] at uj;rw[hr.cZ];refine⟨_,ec (jH yY.zero n),by rw[qe,yY.len],.inr ⟨k,kk,uj,rfl,OJ mK,?_⟩⟩;obtain⟨ti,k1,k2,k3,z,k4,k5⟩:=yY.info;exact⟨z,fun w'=>by simp[zeroValue,typeInfo,k1,k4],by rw[k5];exact yY.len,by rw[k5]⟩
  .cases hn
 .
  rename_i m _;split at hn
  .rename_i h0;cases hn;have h0:=qW h0;subst h0;obtain⟨MM,afv⟩:=by simpa using hz
   rw[afv] at uj;rw[hr.js];exact⟨[],.nil,by simp,.inl ⟨MM,none,_,uj,rfl,fun k=>by simp[Builtin.firstCells]⟩⟩
  .cases hn
 .
  rename_i b off m _;obtain⟨MM,afv⟩:=by simpa using hz
  rw[afv] at uj;obtain⟨r,ca,ccap,hb,hc,⟨M6,Uk,hle⟩⟩:=hr.gu;rw[hc];split at hn
  .rename_i h0;cases hn;have h0:=qW h0;subst h0;exact⟨[],.nil,by simp,.inl ⟨MM,_,_,uj,rfl,fun k=>by simp[Builtin.firstCells,loadCells,loadCellsFrom]⟩⟩
  .rename_i h0;split at hn
   .rename_i TR cS;cases hn;have ct:n≠0:=by intro e;rw[e] at h0;exact h0 rfl
    have XN:ca=⟨r.aC,r.base+off,none⟩:=by
     rcases M6 with h|⟨_,h⟩
     .exact h
     .omega
    subst XN;obtain⟨hl,e_,hk,CG⟩:=B0 S hb cS;refine⟨e_,hk,by rw[hl,yY.len],.inl ⟨MM,_,_,uj,rfl,fun k=>?_⟩⟩;have:=run_firstCells_some (P:=P) {w with drawn:=k} ei.size n ⟨r.aC,r.base+off,none⟩ n ccap e_ (by rw[<-hk.length,hl,yY.len]) CG;exact this
   .cases hn
 .cases hn
theorem EC{z:Array Value}{c:Value}(hz:z.toList.all cr=true)(hc:c∈(Builtin.zeroCells z m).toList):cr c=true:=by
 simp only[Builtin.zeroCells,Array.toList_map,j_] at hc;obtain⟨i,hi,rfl⟩:=hc;have Dz:i<m*z.size:=by simpa using hi
 have Ep:0<z.size:=by
  rcases uM z.size with h|h
  .rw[h] at Dz;simp at Dz
  .exact h
 have dQ:i%z.size<z.size:=Nat.mod_lt _ Ep;rw[getElem!_pos z _ dQ];exact List.all_eq_true.1 hz _ (by simp)
theorem rJ{t t' ty el:TypeId}{ei:TI}(yY:uG P el ei)(uj:P.underlying t=some (.slice el)){sa:Option Addr}{len ccap n:Nat}{x:Value}(ha:Is P w t' ei.size el x n e_)(hl:e_.length=n*ei.size)(tg:0<ei.size)(hb:n*ei.bytes<=1099511627776):(len+n<=ccap->(Builtin.append_ #[t,t'] ty #[.slice sa len ccap,x]).run P w=
   (((match sa with|some ad=>storeCells (ad.add (len*ei.size)) e_|none=>pure ()):Sem Unit).run P w).andThen fun _ w'=>.ok (.slice sa (len+n) ccap) w')/\(ccap<len+n->(len+n)*ei.bytes<=1099511627776->len+n<=1099511627776->∀AA:List Value,AA.length=len*ei.size->(∀k,(Builtin.firstCells ei.size len (.slice sa len ccap)).run P {w with drawn:=k} =.ok ⟨AA⟩ {w with drawn:=k})->∃(GD:Nat) (bw:List Value),len+n<=GD/\bw.length=(GD-(len+n))*ei.size/\(∀c∈bw,cr c=true)/\(Builtin.append_ #[t,t'] ty #[.slice sa len ccap,x]).run P w=.ok (.slice (some ⟨w.heap.size,0,none⟩) (len+n) GD) (({w with drawn:=w.drawn+1} :World).alloc (.cells ⟨(AA++e_)++bw⟩ el))):=by
 obtain⟨ti,k1,k2,k3,z,k4,k5⟩:=yY.info;have zx:z.cells.size=ei.size:=by have:=yY.len;rw[<-k5] at this;simpa using this
 have Yt:∀(m:Nat),∀c∈(Builtin.zeroCells z.cells m).toList,cr c=true:=by intro m c hc;have hz:=yY.zero;rw[<-k5] at hz;exact EC hz hc
 rcases ha with⟨MM,xa,xc,Ie,rfl,hf⟩|⟨k,kk,Ie,rfl,hn40,z',Wm,Nl,Uk⟩
 .have hfw:(Builtin.firstCells ei.size n (.slice xa n xc)).run P w=.ok ⟨e_⟩ w:=by have:=hf w.drawn;exact this
  constructor
  .intro mK;cases sa with
   |none=>simp[Builtin.append_,run_underlying uj,run_underlying Ie,sizeOf,typeInfo,k1,k2,Builtin.lenOf,mK,hfw]
   |some ad=>simp[Builtin.append_,run_underlying uj,run_underlying Ie,sizeOf,typeInfo,k1,k2,Builtin.lenOf,mK,hfw]
  .intro hg Eo h63 AA KH hold;have hng:¬(len+n<=ccap):=by omega
   have Xz:¬(9223372036854775807<((len:Int)+(n:Int))):=by omega
   have Xy:¬(281474976710656<Builtin.nextslicecap (len+n) ccap*ti.bytes):=by rw[k3];have:=growslice_fits (bytes:=ei.bytes) hg (by omega);omega
   have EG:(Builtin.firstCells ei.size n (.slice xa n xc)).run P w.drew=.ok ⟨e_⟩ w.drew:=hf (w.drawn+1);have HE:(Builtin.firstCells ei.size len (.slice sa len ccap)).run P w.drew=.ok ⟨AA⟩ w.drew:=hold (w.drawn+1);refine⟨grownCap w (len+n) ccap el,(Builtin.zeroCells z.cells (grownCap w (len+n) ccap el-(len+n))).toList,grownCap_ge w _ _ _,?_,Yt _,?_⟩
   .have:=size_zeroCells z.cells (grownCap w (len+n) ccap el-(len+n));rw[zx] at this;simpa using this
   .simp[Builtin.append_,run_underlying uj,run_underlying Ie,sizeOf,typeInfo,zeroValue,k1,k2,k4,Builtin.lenOf,hng,Xz,Xy,Question.forced,EG,HE,newRow,grownCap];congr 2;apply Array.ext';simp[Af]
 .have hw:IntKind.i64.wrap (n:Int)=n:=by rw[IntKind.wrap_i64];omega
  have X5:¬((n:Int)<0):=by omega
  have h48:¬(281474976710656<(n:Int)*(ei.bytes:Int)):=by have:((n*ei.bytes:Nat):Int)<=1099511627776:=Int.ofNat_le.2 hb;rw[Int.natCast_mul] at this;omega
  have hz1:=Wm w;have Wn:z'=z:=by
   have h1:(zeroValue el).run P w=.ok z w:=by simp[zeroValue,typeInfo,k1,k4]
   rw[hz1] at h1;injection h1
  subst Wn;have hcz:n*ei.size=0->e_=[]:=fun h=>IX (by rw[hl,h]);have UB:(Builtin.zeroCells z'.cells n)=⟨e_⟩:=by apply Array.ext';rw[Uk,yG (.inl (by rw[Nl];exact tg)),Nl];have:z'.cells=⟨z'.cells.toList⟩:=rfl;simp[Builtin.zeroCells,zx]
  have qk:n*ei.size=0↔n=0:=by
   constructor
   .intro h;rcases Nat.mul_eq_zero.1 h with h|h
    .exact h
    .omega
   .rintro rfl;simp
  have Wl:IntKind.i64.wrap 0=0:=by rw[IntKind.wrap_i64];omega
  by_cases hn:n=0
  .subst hn;have Dy:e_=[]:=hcz (by simp);subst Dy;constructor
   .intro mK;have Yi:len<=ccap:=by omega
    cases sa with
    |none=>simp[Builtin.append_,run_underlying uj,run_underlying Ie,sizeOf,typeInfo,k1,k2,asInt,asIntOf,Wl,Yi,storeCells]
    |some ad=>simp[Builtin.append_,run_underlying uj,run_underlying Ie,sizeOf,typeInfo,k1,k2,asInt,asIntOf,Wl,Yi,storeCells]
   .intro hg Eo h63 AA KH hold;have hng:¬(len+0<=ccap):=by omega
    have ar6:¬(len<=ccap):=by omega
    have Xz:¬(9223372036854775807<(len:Int)):=by omega
    have Xy:¬(281474976710656<Builtin.nextslicecap len ccap*ti.bytes):=by rw[k3];have:=growslice_fits (bytes:=ei.bytes) hg (by omega);simp only[IW] at this;omega
    have HE:(Builtin.firstCells ei.size len (.slice sa len ccap)).run P w.drew=.ok ⟨AA⟩ w.drew:=hold (w.drawn+1);refine⟨grownCap w (len+0) ccap el,(Builtin.zeroCells z'.cells (grownCap w (len+0) ccap el-(len+0))).toList,grownCap_ge w _ _ _,?_,Yt _,?_⟩
    .have:=size_zeroCells z'.cells (grownCap w (len+0) ccap el-(len+0));rw[zx] at this;simpa using this
    .simp[Builtin.append_,run_underlying uj,run_underlying Ie,sizeOf,typeInfo,zeroValue,k1,k2,k4,asInt,asIntOf,Wl,ar6,Xz,Xy,Question.forced,HE,newRow,grownCap];congr 2;apply Array.ext';simp
  .have hns:¬(n*ei.size=0):=fun h=>hn (qk.1 h);have Ys:¬(ei.size=0):=by omega
   constructor
   .intro mK;cases sa with
    |none=>simp[Builtin.append_,run_underlying uj,run_underlying Ie,sizeOf,typeInfo,zeroValue,k1,k2,k3,k4,asInt,asIntOf,hw,X5,h48,mK,hn,Ys,UB]
    |some ad=>
     simp[Builtin.append_,run_underlying uj,run_underlying Ie,sizeOf,typeInfo,zeroValue,k1,k2,k3,k4,asInt,asIntOf,hw,X5,h48,mK,hn,Ys,UB];intro h0;exact absurd h0 hns
   .intro hg Eo h63 AA KH hold;have hng:¬(len+n<=ccap):=by omega
    have Xz:¬(9223372036854775807<((len:Int)+(n:Int))):=by omega
    have Xy:¬(281474976710656<Builtin.nextslicecap (len+n) ccap*ei.bytes):=by have:=growslice_fits (bytes:=ei.bytes) hg (by omega);omega
    have HE:(Builtin.firstCells ei.size len (.slice sa len ccap)).run P w.drew=.ok ⟨AA⟩ w.drew:=hold (w.drawn+1);refine⟨grownCap w (len+n) ccap el,(Builtin.zeroCells z'.cells (grownCap w (len+n) ccap el-(len+n))).toList,grownCap_ge w _ _ _,?_,Yt _,?_⟩
    .have:=size_zeroCells z'.cells (grownCap w (len+n) ccap el-(len+n));rw[zx] at this;simpa using this
    .simp[Builtin.append_,run_underlying uj,run_underlying Ie,sizeOf,typeInfo,zeroValue,k1,k2,k3,k4,asInt,asIntOf,hw,X5,h48,hng,Xz,Xy,hn,Ys,Question.forced,HE,newRow,grownCap,UB];rw[bc hns];congr 3;apply Array.ext';simp[Af]
end
section
variable{P:Program}{CC:cn}{ρ:eU}{h h':ab}{w:World}{T:r8}{ng:Nat}{e:Env}{a:Act}{c v:Value}
theorem VR.Ri{x:Addr}(h:VR ρ (.slice (some x) n cp) c):∃b o r ca ccap,x=⟨b,o,none⟩/\ρ b=some r/\c=.slice (some ca) n ccap/\ua r o n cp ca ccap:=by
 cases h with
 |val h=>cases h with
  |cell h=>cases h with
   |cell h=>cases h with
    |slice h hs=>exact⟨_,_,_,_,_,rfl,h,rfl,hs⟩
theorem ua.z9{r:zP}{o len cap ccap:Nat}(h:ua r o len cap ca ccap):cap<=ccap:=by rcases h.2.1 with h|⟨_,h,_⟩<;>omega
theorem ua.addr{r:zP}{o len cap ccap:Nat}(h:ua r o len cap ca ccap)(hc:0<ccap):ca=⟨r.aC,r.base+o,none⟩:=by
 rcases h.1 with h|⟨h,_⟩
 .exact h
 .omega
theorem dI.drew(S:dI CC ρ h w):dI CC ρ h ({w with drawn:=w.drawn+1} :World):=S.drawn _
theorem IY(S:dI CC ρ h w){cs e_ bw:List Value}{el n GD size:Nat}(hk:All2 (KR ρ) cs e_)(hl:cs.length=n*size)(tg:0<size)(hn:n<=GD)(hr:bw.length=(GD-n)*size)(hc:∀c∈bw,cr c=true):∃ρ',VR ρ' (.slice (some ⟨h.next,0,none⟩) n n) (.slice (some ⟨w.heap.size,0,none⟩) n GD)/\dI CC ρ' (aD h cs size) (({w with drawn:=w.drawn+1} :World).alloc (.cells ⟨e_++bw⟩ el))/\Ext ρ h w ρ' (aD h cs size) (({w with drawn:=w.drawn+1} :World).alloc (.cells ⟨e_++bw⟩ el)):=by
 obtain⟨im,g1,g2,g3,g4,g5,g7,g8⟩:=BT (bw:=bw) S.drew hk el size (fun _=>hc);have mK:(e_++bw).length=GD*size:=by rw[IZ,<-hk.length,hl,hr,Nat.sub_mul];have:n*size<=GD*size:=FW _ hn;omega
 refine⟨_,(CR.slice (vy _ _ _) ⟨.inl ?_,.inr ⟨by omega,hn,?_,?_⟩,dH _⟩).vr,g7,(Ext.drawn _).trans g8⟩
 .rw[g1,g2]
 .rw[g3,g4,hl];omega
 .rw[g4,g5,mK];omega
theorem Ju(hT:dv P T){t t' ty el:TypeId}{i i' ei:TI}(mW:T t=some i)(hu:i.u=.slice el)(nu:T el=some ei)(Qs:T t'=some i')(hz:if qT then ∃k,i'.u=.int k else ∃MM,i'.u=.slice MM)(S:dI CC ρ h w)(hE:ER ρ e a.tmps)(hG:cQ ng ρ)(hx:bG ng x=true)(hy:bG ng y=true)(hv:bV e h (.append ei.zero ei.bytes qT x y)=some (v,h')):Out CC ρ h w v h' (((do pure (Next.value (<-Builtin.append_ #[t,t'] ty #[a.eval x,a.eval y]))):Sem Next).run P w):=by
 have uj:=(hT t i mW).u;rw[hu] at uj;have yY:=hT _ _ nu;have zx:=yY.len;have gi:=hE.eval hG hx;have rq:=hE.eval hG hy;simp only[bV] at hv;split at hv
 .rename_i n cs hn;obtain⟨e_,hk,AN,Uh⟩:=YS hT nu Qs hz S rq hn;have M8:e_.length=n*ei.size:=by rw[<-hk.length,AN]
  unfold eA at hv;split at hv
  .rename_i sa len cap hs;rw[hs] at gi;split at hv
   .rename_i al0;have tg:0<ei.size:=by rw[<-zx];exact vK.1 al0
    split at hv
    .
     rename_i h0;have h0:=qW h0;subst h0;split at hv
     .rename_i XZ;have XZ:=OJ XZ;cases hv;have Dy:e_=[]:=IX (by rw[M8];simp);subst Dy;cases sa with
      |none=>
       have hxe:=gi.js;rw[hxe] at gi⊢;have:=(rJ (t:=t) (ty:=ty) yY uj (sa:=none) (len:=len) (ccap:=cap) Uh M8 tg (by simp)).1 (by omega);exact Out.same S (ez (this.trans rfl)) gi
      |some ad=>
       obtain⟨b,o,r,ca,ccap,rfl,hr,hc,eX⟩:=gi.Ri;have hle:=eX.z9;rw[hc] at gi⊢;have:=(rJ (t:=t) (ty:=ty) yY uj (sa:=some ca) (len:=len) (ccap:=ccap) Uh M8 tg (by simp)).1 (by omega);exact Out.same S (ez (this.trans rfl)) gi
     .cases hv
    .rename_i qk;have awj:0<n:=by
      rcases uM n with h|h
      .subst h;exact absurd rfl qk
      .exact h
     split at hv
     .rename_i mK;simp only[zr] at mK;have qM:=OJ mK.1;have uP:=OJ mK.2;have Nc:n*ei.bytes<=1099511627776:=xf (FW _ (by omega)) uP;split at hv
      .
       split at hv
       .rename_i h0;simp only[zr] at h0;have KG:=qW h0.1;have Dy:=qW h0.2;subst KG;subst Dy;cases hv;rw[gi.js];obtain⟨GD,bw,g1,g2,g4,g3⟩:=(rJ (t:=t) (ty:=ty) yY uj (sa:=none) (len:=0) (ccap:=0) Uh M8 tg Nc).2 (by omega) uP qM [] (by simp) (fun k=>by simp[Builtin.firstCells]);rw[Ek] at g1 g2 g3;obtain⟨ρ',hvr,Yk,qm⟩:=IY (el:=el) S hk AN tg g1 g2 g4;rw[zx];exact⟨ρ',_,_,.inl (ez g3),hvr,Yk,qm⟩
       .cases hv
      .rename_i b off;split at hv
       .rename_i bE o st ho;obtain⟨r,ca,ccap,hr,hc,eX⟩:=gi.gu;have CF:=eX.z9;have cj:=eX.2.2;obtain⟨xE,MM,fr,q1,q2,q3,q4,q5,q6⟩:=S.obj b r _ hr ho;have hfr:=q5 rfl;subst hfr;rw[hc];split at hv
        .
         rename_i dV;have dV:=OJ dV;split at hv
         .rename_i Dr hw;cases hv;obtain⟨w',dE,S',E'⟩:=yL (P:=P) S hr hw hk;have:=(rJ (t:=t) (ty:=ty) yY uj (sa:=some ca) (len:=len) (ccap:=ccap) Uh M8 tg Nc).1 (by omega);refine⟨ρ,w',.slice (some ca) (len+n) ccap,.inl (ez ?_),(CR.slice hr ⟨eX.1,eX.2.1,dV⟩).vr,S',E'⟩;rw[this];dsimp only;rw[eX.addr (by omega),pQ,AL,<-zx,dE];rfl
         .cases hv
        .rename_i X6;have X6:cap<len+n:=by
          rcases Ae cap (len+n) with h|h
          .exact h
          .exact absurd (Nat.ble_eq_true_of_le h) X6
         dsimp only at hv;by_cases aga:Nat.beq ((bE.drop off).take (len*ei.zero.length)).length (len*ei.zero.length)=true
         .rw[aY aga] at hv;have rh:=qW aga
          
          have cS:aV h b off (len*ei.size)=some ((bE.drop off).take (len*ei.size)):=by unfold aV;rw[ho];rw[zx] at rh;simp only[rh,Nat.beq_refl,if_true]
          obtain⟨KH,AA,hko,hoc⟩:=B0 S hr cS;have af0:AA.length=len*ei.size:=by rw[<-hko.length,KH]
          have afy:∀k,(Builtin.firstCells ei.size len (.slice (some ca) len ccap)).run P {w with drawn:=k} =.ok ⟨AA⟩ {w with drawn:=k} :=by
           intro k;by_cases Dy:0<ccap
           .rw[eX.addr Dy];exact run_firstCells_some (P:=P) {w with drawn:=k} ei.size len ⟨r.aC,r.base+off,none⟩ len ccap AA af0 hoc
           .have KG:len=0:=by omega
            subst KG;have:AA=[]:=IX (by rw[af0];simp);subst this;simp[Builtin.firstCells,loadCells,loadCellsFrom]
          have hkk:=hko.app hk;have pc:((bE.drop off).take (len*ei.size)++cs).length=(len+n)*ei.size:=by rw[IZ,KH,AN,tW]
          
          have grow:∀(h1:ab),(dI CC ρ h1 w/\Ext ρ h w ρ h1 w)->h1.next=h.next->ccap<len+n->Out CC ρ h w (.slice (some ⟨h.next,0,none⟩) (len+n) (len+n)) (aD h1 ((bE.drop off).take (len*ei.size)++cs) ei.size)
             (((do pure (Next.value (<-Builtin.append_ #[t,t'] ty #[.slice (some ca) len ccap,a.eval y]))):Sem Next).run P w):=by
           intro h1 ⟨S1,E1⟩ DC dQ;obtain⟨GD,bw,g1,g2,g4,g3⟩:=(rJ (t:=t) (ty:=ty) yY uj (sa:=some ca) (len:=len) (ccap:=ccap) Uh M8 tg Nc).2 dQ uP qM AA af0 afy;obtain⟨ρ',hvr,Yk,qm⟩:=IY (el:=el) S1 hkk pc tg g1 g2 g4;rw[DC] at hvr;exact⟨ρ',_,_,.inl (ez g3),hvr,Yk,E1.trans qm⟩
          split at hv
          .rename_i XT;cases hv;rw[zx];refine grow h ⟨S,.refl ρ h w⟩ rfl ?_;rcases eX.2.1 with h5|⟨h5,h6,h7,_⟩
           .omega
           .exfalso;simp only[Bool.or_eq_true,Bool.not_eq_true'] at XT;rcases XT with h8|h8
            .exact h5 (q3.trans (qW h8))
            .rw[q3,q2] at h7;rw[h7,Nat.beq_refl] at h8;cases h8
          .rename_i awl;split at hv
           .rename_i hoz;have hoz:=qW hoz;cases hv;rw[zx];by_cases dQ:ccap<len+n
            .exact grow _ (S.less b) rfl dQ
            .
             have Qo:len+n<=ccap:=by omega
             have Ux:r.GR=ei.size:=by rw[q3,hoz,zx]
             have halt:off+ccap*r.GR<=r.room:=by
              rcases eX.2.1 with h5|⟨_,_,_,h8⟩
              .omega
              .exact h8
             have jg:off+cap*r.GR=r.len:=by
              rcases eX.2.1 with h5|⟨_,_,h8,_⟩
              .omega
              .exact h8
             have awc:cap*ei.size<=(len+n)*ei.size:=FW _ (by omega);rw[Ux] at halt jg;have adl:=eX.addr (show 0<ccap by omega);have hmul:(len+n)*ei.size<=ccap*ei.size:=FW _ Qo;rw[tW] at hmul;have dV:r.base+(off+len*ei.size)+0+e_.length<=xE.size:=by rw[M8,<-q4.1];omega
             have dE:=run_storeCells_at (P:=P) r.aC (r.base+(off+len*ei.size)) MM e_ 0 xE w q1 dV (fun u hm=>by obtain⟨i,hi⟩:=oD hm;have hx:cs[i]?=some (cs[i]'(by rw[hk.length];exact(bK.1 hi).1)):=ff _;obtain⟨c,hc,hkr⟩:=hk.get hx;rw[hi] at hc;cases hc;exact vu hkr.plain.2)
             have afn:=(rJ (t:=t) (ty:=ty) yY uj (sa:=some ca) (len:=len) (ccap:=ccap) Uh M8 tg Nc).1 Qo;have vo:xE.toList.take (r.base+(off+len*ei.size)+0)++e_++xE.toList.drop (r.base+(off+len*ei.size)+0+e_.length)=aR xE.toList (r.base+(off+len*ei.size)) e_:=by simp[aR]
             rw[vo] at dE;have I3:r.base+(off+len*ei.size)+e_.length<=xE.toList.length:=by simpa using dV
             have hob:jA CC (ka ρ h.next ⟨r.aC,r.base+off,(len+n)*ei.size,ei.size,r.room-off⟩) ⟨r.aC,r.base+off,(len+n)*ei.size,ei.size,r.room-off⟩
               (.aC ((bE.drop off).take (len*ei.size)++cs) false ei.size 0) (w.setRow r.aC (aR xE.toList (r.base+(off+len*ei.size)) e_).toArray):=by
              refine⟨_,MM,(0,0),setRow_heap w r.aC xE _ MM _ q1,pc.symm,rfl,⟨?_,?_⟩,fun _=>rfl,?_⟩
              rotate_left 1
              .intro Aq j u hj hu;dsimp only at hj hu;simp only[List.getElem?_toArray] at hu;have DA:=hj;rw[tW] at DA;rw[mD I3,bc (by omega)] at hu;exact q4.2 (by omega) (off+j) u (by omega) (by simpa [AL] using hu)
              rotate_left 1
              .have q4:=q4.1;simp only[List.size_toArray,zL I3,Array.length_toList];omega
              .intro j u hj;simp only[List.getElem?_toArray];rw[mD I3];by_cases aM:j<len*ei.size
               .rw[bc (by omega)];rw[FX (by rw[KH];exact aM),El,aY aM,List.getElem?_drop] at hj;obtain⟨c,wN,F9⟩:=q6 _ _ hj;exact⟨c,by rw[<-wN];simp[AL],F9.mono (uE S.fresh)⟩
               .rw[HA (by rw[KH];omega),KH] at hj;obtain⟨c,wN,F9⟩:=hk.get hj;have I7:=(bK.1 wN).1;rw[aY (by omega)];refine⟨c,?_,F9.mono (uE S.fresh)⟩;rw[<-wN];congr 1;omega
             obtain⟨S',E'⟩:=dI.move S hr ho rfl (im:=⟨r.aC,r.base+off,(len+n)*ei.size,ei.size,r.room-off⟩) rfl (Wu.row _ _) hob;refine⟨_,_,.slice (some ca) (len+n) ccap,.inl (ez ?_),(CR.slice (vy _ _ _) ⟨.inl ?_,.inr ⟨by show ei.size≠0;omega,Qo,by show 0+(len+n)*ei.size=(len+n)*ei.size;omega,by show 0+ccap*ei.size<=r.room-off;omega⟩,dH _⟩).vr,S',E'⟩
             .rw[afn];dsimp only;rw[adl,pQ,AL,dE];rfl
             .rw[adl];rfl
           .cases hv
         .rw[bc aga] at hv;cases hv
       .cases hv
      .cases hv
     .cases hv
   .cases hv
  .cases hv
 .cases hv
end
section
variable{P:Program}{CC:cn}{ρ:eU}{h h':ab}{w:World}{T:r8}{ng:Nat}{e:Env}{a:Act}{c v:Value}
theorem aca(hT:dv P T){t t' ty el:TypeId}{i ei:TI}(mW:T t=some i)(hu:i.u=.slice el)(nu:T el=some ei)(S:dI CC ρ h w)(hE:ER ρ e a.tmps)(hG:cQ ng ρ)(hx:bG ng x=true)(hy:bG ng y=true)(hv:bV e h (.copy ei.size x y)=some (v,h')):Out CC ρ h w v h' (((do pure (Next.value (<-Builtin.copy_ #[t,t'] ty #[a.eval x,a.eval y]))):Sem Next).run P w):=by
 have uj:=(hT t i mW).u;rw[hu] at uj;have tg:=(iB (w:=w) (hT _ _ nu)).1;have gi:=hE.eval hG hx;have rq:=hE.eval hG hy;simp only[bV] at hv;split at hv
 .rename_i da dn dc sa sn sc h1 h2;rw[h1] at gi;rw[h2] at rq;split at hv
  .rename_i h0;have h0:=qW h0;cases hv;obtain⟨y1,cc1,e1,_⟩:=gi.rU;obtain⟨y2,cc2,e2,_⟩:=rq.rU;rw[e1,e2];refine Out.same S (ez ?_) (VR.int _ _);cases y1<;>cases y2<;>simp[Builtin.copy_,run_underlying uj,Builtin.lenOf,h0,tg,Builtin.firstCells,loadCells,loadCellsFrom,storeCells,goInt]
  .rename_i h0;split at hv
   .rename_i db ajo sb amV;split at hv
    .rename_i cs hr;split at hv
     .rename_i Dr hw;cases hv;obtain⟨r1,ca1,cc1,qM,wN,mN⟩:=gi.gu;obtain⟨r2,ca2,cc2,uP,F9,ok2⟩:=rq.gu;obtain⟨hl,e_,hk,CG⟩:=B0 S uP hr;obtain⟨w',dE,S',E'⟩:=yL (P:=P) S qM hw hk;have qk:Nat.min sn dn≠0:=by intro h;rw[h] at h0;exact h0 rfl
      have hmin:Nat.min sn dn<=sn/\Nat.min sn dn<=dn:=⟨Nat.min_le_left _ _,Nat.min_le_right _ _⟩;have l1:=mN.2.2;have l2:=ok2.2.2;have c1:=mN.z9;have c2:=ok2.z9;rw[wN,F9];have e1:=mN.addr (by omega);have e2:=ok2.addr (by omega);have hf:=run_firstCells_some (P:=P) w ei.size (Nat.min sn dn) ca2 sn cc2 e_ (by rw[<-hk.length,hl]) (by rw[e2];exact CG);refine⟨ρ,w',.int .i64 (Nat.min sn dn),.inl (ez ?_),VR.int _ _,S',E'⟩;rw[<-e1] at dE;have hf':(Builtin.firstCells ei.size (min sn dn) (.slice (some ca2) sn cc2)).run P w=.ok e_.toArray w:=hf;simp[Builtin.copy_,run_underlying uj,Builtin.lenOf,tg,hf',dE,goInt]
     .cases hv
    .cases hv
   .cases hv
 .cases hv
theorem Y2(hT:dv P T){t ty el:TypeId}{i ei:TI}(mW:T t=some i)(hu:i.u=.slice el)(nu:T el=some ei)(S:dI CC ρ h w)(hE:ER ρ e a.tmps)(hG:cQ ng ρ)(hx:bG ng x=true)(hv:bV e h (.clear ei.zero x)=some (v,h')):Out CC ρ h w v h' (((do pure (Next.value (<-Builtin.clear_ #[t] ty #[a.eval x]))):Sem Next).run P w):=by
 have uj:=(hT t i mW).u;rw[hu] at uj;have yY:=hT _ _ nu;have gi:=hE.eval hG hx;simp only[bV] at hv;split at hv
 .rename_i sa n sc h1;rw[h1] at gi;split at hv
  .rename_i h0;have h0:=qW h0;subst h0;cases hv;obtain⟨y1,cc1,e1,_⟩:=gi.rU;rw[e1];refine Out.same S (c:=undef) (ez ?_) VR.undef;cases y1<;>simp[Builtin.clear_,run_underlying uj,undef]
  .rename_i h0;split at hv
   .rename_i b off;split at hv
    .rename_i Dr hw;cases hv;obtain⟨r1,ca1,cc1,qM,wN,mN⟩:=gi.gu;have qk:n≠0:=by intro h;subst h;exact h0 rfl
     have l1:=mN.2.2;have c1:=mN.z9;have e1:=mN.addr (by omega);obtain⟨ti,k1,k2,k3,z,k4,k5⟩:=yY.info;have Wn:(zeroValue el).run P w=.ok z w:=by simp[zeroValue,typeInfo,k1,k4]
     have hk:=ec (ρ:=ρ) (jH yY.zero n);obtain⟨w',dE,S',E'⟩:=yL (P:=P) S qM hw hk;rw[wN];refine⟨ρ,w',undef,.inl (ez ?_),VR.undef,S',E'⟩;rw[<-e1] at dE;have UB:(Builtin.zeroCells z.cells n).toList=iP ei.zero n:=by
      by_cases Ys:0<ei.zero.length
      .rw[yG (.inl Ys)];have:z.cells=⟨ei.zero⟩:=by apply Array.ext';simpa using k5
       simp[Builtin.zeroCells,this]
      .have hzn:ei.zero=[]:=IX (by omega);have:z.cells=⟨[]⟩:=by apply Array.ext';rw[k5,hzn]
       rw[hzn];have Yh:iP [] n=[]:=IX (by rw[qe];simp);rw[Yh];simp[Builtin.zeroCells,this]
     have aro:(Builtin.clear_ #[t] ty #[.slice (some ca1) n cc1]).run P w=.ok undef w':=by unfold Builtin.clear_;simp only[Sem.run_bind];simp[run_underlying uj,Wn,UB,dE,undef]
     exact aro
    .cases hv
   .cases hv
 .cases hv
theorem NM(hT:dv P T)(S:dI CC ρ h w)(hE:ER ρ e a.tmps)(hG:cQ ng ρ)(o:Oper)(eX:o.op.operands.toList.all (bG ng)=true)(hv:bV e h (cI T o.op)=some (v,h')):Out CC ρ h w v h' ((execOp a.eval o).run P w):=by
 obtain⟨dst,op,ty,pos,aft,gd⟩:=o;dsimp only at eX hv;cases op with
 |move x=>
  simp only[cI,bV,mw,yU] at hv;obtain⟨rfl,rfl⟩:=hv;exact Out.same S rfl (hE.eval hG (by simpa [Op.operands] using eX))
 |assign x=>
  simp only[cI,bV,mw,yU] at hv;obtain⟨rfl,rfl⟩:=hv;exact Out.same S rfl (hE.eval hG (by simpa [Op.operands] using eX))
 |pick x y z=>
  simp[Op.operands] at eX;exact acd S hE hG eX.1 eX.2.1 eX.2.2 hv
 |alloc t=>
  simp only[cI] at hv;split at hv
  .rename_i i hi;simp only[bV,mw,yU] at hv;obtain⟨rfl,rfl⟩:=hv;exact Y1 S (hT t i hi)
  .simp[bV] at hv
 |box t x=>
  simp[Op.operands] at eX;simp only[cI] at hv;split at hv
  .simp only[bV] at hv;split at hv
   .rename_i vs hf;cases hv;exact agS S (hE.eval hG eX) hf
   .cases hv
  .simp[bV] at hv
 |build t ps=>
  have Uw:(ps.toList.map (·.2)).all (bG ng)=true:=by simpa [Op.operands] using eX
  simp only[cI] at hv;split at hv
  .rename_i i hi;split at hv
   .rename_i fs hu;cases oH:fs.toList.all fun f=>(T f.type).isSome with
    |false=>simp[oH,bV] at hv
    |true=>
     simp only[oH,cond_true] at hv;split at hv
     .rename_i qs hq;exact Ey hT hi hu oH hq S hE hG Uw hv
     .simp[bV] at hv
   .rename_i n el hu;split at hv
    .rename_i ei nu;exact GL hT hi hu nu S hE hG Uw hv
    .simp[bV] at hv
   .simp[bV] at hv
  .simp[bV] at hv
 |buildSlice t n ps=>
  have Uw:(ps.toList.map (·.2)).all (bG ng)=true:=by simpa [Op.operands] using eX
  simp only[cI] at hv;split at hv
  .rename_i i hi;split at hv
   .rename_i el hu;split at hv
    .rename_i ei nu;cases hc:Nat.ble (n*ei.size) 1000000&&Nat.beq ei.zero.length ei.size with
     |false=>simp[hc,bV] at hv
     |true=>
      simp only[hc,cond_true] at hv;simp only[zr] at hc;exact U8 hT hi hu nu (OJ hc.1) S hE hG Uw hv
    .simp[bV] at hv
   .simp[bV] at hv
  .simp[bV] at hv
 |load t x=>
  simp[Op.operands] at eX;simp only[cI] at hv;split at hv
  .rename_i i hi;exact Y4 hT hi S hE hG eX hv
  .simp[bV] at hv
 |store t x y=>
  simp[Op.operands] at eX;simp only[cI] at hv;split at hv
  .rename_i i hi;exact U_ hT hi S hE hG eX.1 eX.2 hv
  .simp[bV] at hv
 |nilCheck x=>
  simp[Op.operands] at eX;exact U9 S hE hG eX hv
 |binOp bo t x y yt=>
  simp[Op.operands] at eX;by_cases XM:bo=.eql\/bo=.neq
  .have hcm:∃ks i,cI T (.binOp bo t x y yt)=.bin bo ks x y/\T t=some i/\E0 T t i.u ks:=by
    have akV:cI T (.binOp bo t x y yt)=(match T t with
      |some i=>match i.u with
       |.slice _=>.bin bo [3] x y
       |.pointer _=>.bin bo [4] x y
       |.map _ _=>.bin bo [5] x y
       |.func _ _ _=>.bin bo [6] x y
       |.struct _=>match kinds T 9 t with|some ks=>.bin bo (9::ks) x y|none=>.bad
       |.array _ _=>match kinds T 9 t with|some ks=>.bin bo (9::ks) x y|none=>.bad
       |.bool=>.bin bo [0] x y
       |.int _=>.bin bo [1] x y
       |.string=>.bin bo [2] x y
       |_=>.bad
      |none=>.bad):=by
     rcases XM with rfl|rfl<;>rfl
    rw[akV] at hv⊢;split at hv
    .rename_i i hi;simp only[hi];split at hv
     .rename_i hu;exact⟨[3],i,rfl,rfl,.inl ⟨_,hu,rfl⟩⟩
     .rename_i hu;exact⟨[4],i,rfl,rfl,.inr (.inl ⟨_,hu,rfl⟩)⟩
     .rename_i hu;exact⟨[5],i,rfl,rfl,.inr (.inr (.inl ⟨_,_,hu,rfl⟩))⟩
     .rename_i hu;exact⟨[6],i,rfl,rfl,.inr (.inr (.inr (.inl ⟨_,_,_,hu,rfl⟩)))⟩
     .rename_i hu;split at hv
      .rename_i ks Uu;exact⟨9::ks,i,rfl,rfl,.inr (.inr (.inr (.inr (.inl ⟨(),_,by rw[hu];rfl,Uu,rfl⟩))))⟩
      .simp[bV] at hv
     .rename_i hu;split at hv
      .rename_i ks Uu;exact⟨9::ks,i,rfl,rfl,.inr (.inr (.inr (.inr (.inl ⟨(),_,by rw[hu];rfl,Uu,rfl⟩))))⟩
      .simp[bV] at hv
     .rename_i hu;exact⟨[0],i,rfl,rfl,.inr (.inr (.inr (.inr (.inr (.inl ⟨hu,rfl⟩)))))⟩
     .rename_i hu;exact⟨[1],i,rfl,rfl,.inr (.inr (.inr (.inr (.inr (.inr (.inl ⟨_,hu,rfl⟩))))))⟩
     .rename_i hu;exact⟨[2],i,rfl,rfl,.inr (.inr (.inr (.inr (.inr (.inr (.inr ⟨hu,rfl⟩))))))⟩
     .simp[bV] at hv
    .simp[bV] at hv
   obtain⟨ks,i,hcm,mW,hka⟩:=hcm;rw[hcm] at hv;exact U7 hT S hE hG eX.1 eX.2 XM mW hka hv
  .have hcm:cI T (.binOp bo t x y yt)=.bin bo [] x y:=by cases bo<;>first|rfl|(exact absurd (.inl rfl) XM)|(exact absurd (.inr rfl) XM)
   rw[hcm] at hv;exact QW S hE hG eX.1 eX.2 ⟨fun h=>XM (.inl h),fun h=>XM (.inr h)⟩ hv
 |unOp uo t x=>
  simp[Op.operands] at eX;exact amp S hE hG eX hv
 |convert s d x=>
  simp[Op.operands] at eX;simp only[cI] at hv;split at hv
  .rename_i i j hi hj;split at hv
   .rename_i h1 h2;exact ab_ hT hi hj h1 h2 S hE hG eX hv
   .simp[bV] at hv
  .simp[bV] at hv
 |makeFunc fn first caps=>
  cases fn with
  |func f=>
   simp only[cI] at hv;cases hf:first.isEmpty with
   |false=>simp[hf,bV] at hv
   |true=>
    simp only[hf,cond_true] at hv;have Uw:caps.toList.all (bG ng)=true:=by
     have hf0:first= #[]:=by simpa using hf
     subst hf0;simpa [Op.operands] using eX
    exact acb S hE hG hf Uw hv
  |_=>simp[cI,bV] at hv
 |makeSlice t l c=>
  simp[Op.operands] at eX;simp only[cI] at hv;split at hv
  .rename_i i hi;split at hv
   .rename_i el hu;split at hv
    .rename_i ei nu;exact QX hT hi hu nu S hE hG eX.1 eX.2 hv
    .simp[bV] at hv
   .simp[bV] at hv
  .simp[bV] at hv
 |slice t x lo hi mx=>
  simp only[cI] at hv;split at hv
  .rename_i i Dz;split at hv
   .rename_i el hu;split at hv
    .rename_i ei nu;cases hc:mx.isSome&&hi.isNone with
     |true=>simp[hc,bV] at hv
     |false=>
      simp only[hc,cond_false] at hv;have kt:bG ng x=true/\lo.toList.all (bG ng)=true/\hi.toList.all (bG ng)=true/\mx.toList.all (bG ng)=true:=by simp[Op.operands] at eX;refine⟨eX.1,?_⟩;cases lo<;>cases hi<;>cases mx<;>simp_all
      exact Y5 hT Dz hu nu hc S hE hG kt.1 kt.2.1 kt.2.2.1 kt.2.2.2 hv
    .simp[bV] at hv
   .simp[bV] at hv
  .simp[bV] at hv
 |fieldAddr t x k=>
  simp[Op.operands] at eX;simp only[cI] at hv;split at hv
  .rename_i i hi;split at hv
   .rename_i fs hu;split at hv
    .rename_i f hf;split at hv
     .rename_i fi hfi;cases hz:Nat.beq fi.size 0 with
      |true=>simp[hz,bV] at hv
      |false=>
       simp only[hz,cond_false] at hv;exact Y3 hT hi hu hf hfi (by intro h;rw[h] at hz;cases hz) S hE hG eX hv
     .simp[bV] at hv
    .simp[bV] at hv
   .simp[bV] at hv
  .simp[bV] at hv
 |indexAddr t x y=>
  simp[Op.operands] at eX;simp only[cI] at hv;split at hv
  .rename_i i hi;split at hv
   .rename_i el hu;split at hv
    .rename_i ei nu;exact GN hT hi hu nu S hE hG eX.1 eX.2 hv
    .simp[bV] at hv
   .rename_i n el hu;split at hv
    .rename_i ei nu;exact GM hT hi hu nu S hE hG eX.1 eX.2 hv
    .simp[bV] at hv
   .simp[bV] at hv
  .simp[bV] at hv
 |index t x y=>
  simp[Op.operands] at eX;simp only[cI] at hv;split at hv
  .rename_i i hi;split at hv
   .rename_i hu;exact KX hT hi hu S hE hG eX.1 eX.2 hv
   .rename_i n el hu;split at hv
    .rename_i ei nu;exact KW hT hi hu nu S hE hG eX.1 eX.2 hv
    .simp[bV] at hv
   .simp[bV] at hv
  .simp[bV] at hv
 |extract x i=>
  simp[Op.operands] at eX;exact agU S hE hG eX hv
 |call c=>
  obtain⟨cal,args,ats⟩:=c;have dE:∀b,cal=.builtin b->∃cs,((execOp a.eval { dst:=dst,op:=.call { callee:=cal,args:=args,argTypes:=ats },type:=ty,pos:=pos,after:=aft,guard:=gd }).run P w)=(builtin b ats ty cs (args.map a.eval)).run P w:=by rintro b rfl;exact⟨_,rfl⟩
  have Ui:∀ {l:List Operand},args.toList=l->args.map a.eval=(l.map a.eval).toArray:=by intro l hl;apply Array.ext';simp[<-hl]
  have XK:∀ {l:List TypeId},ats.toList=l->ats=l.toArray:=by intro l hl;apply Array.ext';simp[<-hl]
  have kt:args.toList.all (bG ng)=true:=by cases cal<;>simp[Op.operands,Call.operands] at eX<;>simp<;>first|exact eX|exact eX.2
  simp only[cI,yi] at hv;split at hv
  .simp[bV] at hv
  .
   obtain⟨cs,hr⟩:=dE _ rfl;rw[hr];split at hv
   .rename_i x t hx ht;rw[Ui hx,XK ht];rw[hx] at kt;simp at kt;split at hv
    .rename_i i hi;split at hv
     .rename_i el hu;exact agV hT hi hu S hE hG kt hv
     .rename_i hu;exact ace hT hi hu S hE hG kt hv
     .simp[bV] at hv
    .simp[bV] at hv
   .simp[bV] at hv
  .
   obtain⟨cs,hr⟩:=dE _ rfl;rw[hr];split at hv
   .rename_i x y t t' hx ht;rw[Ui hx,XK ht];rw[hx] at kt;simp at kt;split at hv
    .rename_i i i' hi Dz;split at hv
     .rename_i el hu;split at hv
      .rename_i ei nu;split at hv
       .rename_i k hk;exact Ju hT hi hu nu Dz (by simpa using⟨k,hk⟩) S hE hG kt.1 kt.2 hv
       .rename_i k hk;exact Ju hT hi hu nu Dz (by simpa using⟨k,hk⟩) S hE hG kt.1 kt.2 hv
       .simp[bV] at hv
      .simp[bV] at hv
     .simp[bV] at hv
    .simp[bV] at hv
   .simp[bV] at hv
  .
   obtain⟨cs,hr⟩:=dE _ rfl;rw[hr];split at hv
   .rename_i x y t t' hx ht;rw[Ui hx,XK ht];rw[hx] at kt;simp at kt;split at hv
    .rename_i i hi;split at hv
     .rename_i el hu;split at hv
      .rename_i ei nu;exact aca hT hi hu nu S hE hG kt.1 kt.2 hv
      .simp[bV] at hv
     .simp[bV] at hv
    .simp[bV] at hv
   .simp[bV] at hv
  .
   obtain⟨cs,hr⟩:=dE _ rfl;rw[hr];split at hv
   .rename_i x t hx ht;rw[Ui hx,XK ht];rw[hx] at kt;simp at kt;split at hv
    .rename_i i hi;split at hv
     .rename_i el hu;split at hv
      .rename_i ei nu;exact Y2 hT hi hu nu S hE hG kt hv
      .simp[bV] at hv
     .simp[bV] at hv
    .simp[bV] at hv
   .simp[bV] at hv
  .
   obtain⟨cs,hr⟩:=dE _ rfl;rw[hr];split at hv
   .rename_i x t hx ht;rw[Ui hx,XK ht];rw[hx] at kt;simp at kt;split at hv
    .rename_i i hi;split at hv
     .rename_i el hu;exact agT hT hi hu S hE hG kt hv
     .simp[bV] at hv
    .simp[bV] at hv
   .simp[bV] at hv
  .
   obtain⟨cs,hr⟩:=dE _ rfl;rw[hr];split at hv
   .rename_i x y hx;rw[Ui hx];rw[hx] at kt;simp at kt;exact agW S hE hG kt.1 kt.2 hv
   .simp[bV] at hv
  .simp[bV] at hv
 |_=>simp[cI,bV] at hv
end
section
variable{P:Program}{b:Frame}{a:Act}{k:List Item}{c:Frame}{cs:List Frame}{w:World}
theorem amQ(hr:b.roundOf=none):step P (lone (on b a (.code .ret::k)) cs w)=.next (lone {on b a (.code .ret::k) with mode:=.returning} cs w):=
 step_lone_go (by simp[stepG,stepG.exec,on,hr])
theorem amP(hr:b.roundOf=none):step P (lone (on b a []) cs w)=.next (lone {on b a [] with mode:=.returning} cs w):=
 step_lone_go (by simp[stepG,stepG.exec,on,hr])
theorem Kv{x:Option (List Deferred)}(hh:w.heap[r]?=some (.deferred x)):(getObj r).run P w=.ok (.deferred x) w:=by simp only[getObj,Sem.run,hh]
theorem Lx{x:Option (List Deferred)}(o:Obj)(hh:w.heap[r]?=some (.deferred x)):(setObj r o).run P w=.ok () {w with heap:=w.heap.setIfInBounds r o} :=by simp only[setObj,Sem.run,hh]
theorem Xu(hh:w.heap[r]?=some (.loop L)):(getObj r).run P w=.ok (.loop L) w:=by simp only[getObj,Sem.run,hh]
theorem Hl(o:Obj)(hh:w.heap[r]?=some (.loop L)):(setObj r o).run P w=.ok () {w with heap:=w.heap.setIfInBounds r o} :=by simp only[setObj,Sem.run,hh]
theorem ui(hh:w.heap[r]?=some (.loop L)):(Instr.getLoop r).run P w=.ok L w:=by simp only[Instr.getLoop,Sem.run_bind,Xu hh,Result.andThen_ok,Sem.run_pure]
theorem Od{fr:Frame}{ds:List Deferred}(hm:fr.mode=.returning)(hd:fr.defers= { target:=.collected r,args:= #[] } ::ds)(hh:w.heap[r]?=some (.deferred (some []))):step P (lone fr cs w)=.next (lone {fr with defers:=ds} cs {w with heap:=w.heap.setIfInBounds r (.deferred none)}):=by
 refine step_lone_go ?_;have h1:(Instr.takeDeferred r).run P w=.ok [] {w with heap:=w.heap.setIfInBounds r (.deferred none)} :=by simp only[Instr.takeDeferred,Sem.run_bind,Kv hh,Lx _ hh,Result.andThen_ok,Sem.run_pure]
 simp[stepG,hm,unwind,hd,h1]
theorem Ln(hr:b.roundOf=some l)(hh:w.heap[l]?=some (.loop L))(hs:L.state=.ready):step P (lone (on b a (.beginRound::k)) cs w)=.next (lone (on b a k) cs { w with heap:=w.heap.setIfInBounds l (.loop {L with state:=.busy}) }):=by
 refine step_lone_go ?_;have h1:(Instr.beginRound l).run P w=.ok () { w with heap:=w.heap.setIfInBounds l (.loop {L with state:=.busy}) } :=by simp only[Instr.beginRound,Sem.run_bind,ui hh,Hl _ hh,Result.andThen_ok,hs,Sem.run_pure]
 simp[stepG,stepG.exec,stepG.apply,on,hr,h1,Frame.finish]
theorem vM(abO:Option Code)(hh:w.heap[l]?=some (.loop L)):(Instr.endRound l abO).run P w=.ok (.bool abO.isNone) { w with heap:=w.heap.setIfInBounds l (.loop {L with state:=if abO.isNone then .ready else .done,pending:=abO}) } :=by
 simp only[Instr.endRound,Sem.run_bind,ui hh,Hl _ hh,Result.andThen_ok,Sem.run_pure]
theorem Oe(hr:b.roundOf=some l)(hk:b.kind=.normal)(hh:w.heap[l]?=some (.loop L)):step P (lone (on b a []) (c::cs) w)=.next (lone (c.finish (.bool true)) cs { w with heap:=w.heap.setIfInBounds l (.loop {L with state:=.ready,pending:=none}) }):=by
 refine step_lone_go ?_;have h1:=vM (P:=P) none hh;simp[stepG,stepG.exec,on,hr,h1,doReturn,hk]
theorem Of(hr:b.roundOf=some l)(hk:b.kind=.normal)(hh:w.heap[l]?=some (.loop L)):step P (lone (on b a (.code .ret::k)) (c::cs) w)=.next (lone (c.finish (.bool false)) cs { w with heap:=w.heap.setIfInBounds l (.loop {L with state:=.done,pending:=some .ret}) }):=by
 refine step_lone_go ?_;have h1:=vM (P:=P) (some .ret) hh;simp[stepG,stepG.exec,on,hr,h1,doReturn,hk]
theorem Lp(hr:b.roundOf=some l)(hk:b.kind=.normal)(hh:w.heap[l]?=some (.loop L))(he:exitTo id k=none):step P (lone (on b a (.code (.exit id)::k)) (c::cs) w)=.next (lone (c.finish (.bool false)) cs { w with heap:=w.heap.setIfInBounds l (.loop {L with state:=.done,pending:=some (.exit id)}) }):=by
 refine step_lone_go ?_;have h1:=vM (P:=P) (some (.exit id)) hh;simp[stepG,stepG.exec,on,hr,h1,doReturn,hk,he]
theorem amR{ps:Array Tmp}{asg body:Code}{g:FuncId}{w':World}(hr:b.roundOf=none)(dE:(do let d<-resolve a.eval { callee:=.value f,args:= #[.const (.func (.yield (w.heap.size+1)) #[] #[])],argTypes:= #[] } 0;invoke d.target d.args).run P
   { w with heap:=(w.heap.push (.deferred (some []))).push (.loop { state:=.ready,pending:=none,fn:=b.fn,tmps:=a.tmps,params:=ps,assign:=asg,body:=body,defers:=w.heap.size }) } =.ok (.enter g args) w'):
  step P (lone (on b a (.code (.rangeFunc f ps asg body)::k)) cs w)=
   .next (lone (Frame.enter P g args .normal) (on b { a with defers:= { target:=.collected w.heap.size,args:= #[] } ::a.defers } (.inRangeFunc (w.heap.size+1)::k)::cs) w'):=by
 refine step_lone_go ?_;have h1:(Instr.enterLoop b.fn a.tmps ps asg body none).run P w=.ok (w.heap.size+1,[{ target:=.collected w.heap.size,args:= #[] }])
   { w with heap:=(w.heap.push (.deferred (some []))).push (.loop { state:=.ready,pending:=none,fn:=b.fn,tmps:=a.tmps,params:=ps,assign:=asg,body:=body,defers:=w.heap.size }) } :=by
  simp only[Instr.enterLoop,Sem.run_bind,run_newObj,Result.andThen_ok,Sem.run_pure,Array.size_push]
 have he:∀(t:List Item)(ds:List Deferred),({ fn:=b.fn,tmps:=a.tmps,todo:=t,defers:=ds,mode:=.run,kind:=b.kind,roundOf:=b.roundOf } :Frame).eval=a.eval:=by intro t ds;funext x;cases x<;>rfl
 rw[hr] at he;simp only[stepG,stepG.exec,on,hr,Sem.runT_eq,h1,GStep.bare_after];simp only[List.cons_append,List.nil_append,he];simp[stepG.apply,dE]
theorem ZK(hh:w.heap[l]?=some (.loop L))(hs:(L.state==.busy)=false):step P (lone (on b a (.endRangeFunc l::k)) cs w)=.next (lone (on b a ((L.pending.map Item.code).toList++k)) cs { w with heap:=w.heap.setIfInBounds l (.loop {L with state:=.exhausted}) }):=by
 refine step_lone_go ?_;have h1:(Instr.endLoop l).run P w=.ok L.pending { w with heap:=w.heap.setIfInBounds l (.loop {L with state:=.exhausted}) } :=by simp only[Instr.endLoop,Sem.run_bind,ui hh,Result.andThen_ok,hs,Sp,if_false,Hl _ hh,Sem.run_pure]
 simp[stepG,stepG.exec,on,h1]
theorem My{ρ:Operand->Value}{args:Array Operand}{ats:Array TypeId}{ty:TypeId}{g:FuncId}{first caps:Array Value}(hf:ρ f=.func (.func g) first caps)(Sx:P.funcs[g]?=some fn)(hb:fn.body.isSome=true)(hn:(fn.name== "runtime.NumGoroutine")=false):(do let d<-resolve ρ { callee:=.value f,args:=args,argTypes:=ats } ty;invoke d.target d.args).run P w=.ok (.enter g (first++args.map ρ++caps)) w:=by
 have jf:¬(fn.body=none):=by intro h;rw[h] at hb;cases hb
 have Uv:¬(fn.name= "runtime.NumGoroutine"):=by simpa using hn
 simp[resolve,hf,Deferred.ofValue,invoke,callFunc,Sx,Uv,jf]
theorem VS{ρ:Operand->Value}{args:Array Operand}{ats:Array TypeId}{ty:TypeId}(hf:ρ f=.func (.yield l) #[] #[])(hh:w.heap[l]?=some (.loop L))(hs:args.size=L.params.size):(do let d<-resolve ρ { callee:=.value f,args:=args,argTypes:=ats } ty;invoke d.target d.args).run P w=
   .ok (.round l L.fn ((L.params.zip (args.map ρ)).foldl (fun tmps (t,a)=>tmps.setIfInBounds t a) L.tmps) L.assign L.body) w:=by
 simp[resolve,hf,Deferred.ofValue,invoke,Instr.yield,ui hh,hs]
end
abbrev u9:=Nat->List Oper->List (bm×List Nat)
def Aa(T:r8):ResultVar->Option EY
 |.tmp t=>some (.tmp t)
 |.cell a t=>match T t with
  |some i=>some (.cell a (AZ i))
  |none=>none
section
variable(P:Program)(T:r8)(ng:Nat)(dr:u9)(F:Nat->Option bZ)
def ig:cn:=fun k ac c=>∃n,n<=k/\ac=bX T ng n dr c/\j6 c=true
def aec(f:Nat)(args:List Value)(h:ab)(v:Value)(h':ab):Prop:=
 ∀(cq:List Value)(ρ:eU)(w:World),dI (ig T ng dr) ρ h w->cQ ng ρ->All2 (VR ρ) args cq->∀cs:List Frame,∃fn ρ' w' c fr,P.funcs[f]?=some fn/\fn.body.isSome=true/\(fn.name== "runtime.NumGoroutine")=false/\Steps P (lone (Frame.enter P f ⟨cq⟩ .normal) cs w) (lone fr cs w')/\fr.fn=f/\fr.leaving P w' (.returned c)/\VR ρ' v c/\dI (ig T ng dr) ρ' h' w'/\Ext ρ h w ρ' h' w'
def WL(f:Nat)(p:List Value->ab->Option (Value×ab)):Prop:=∀args h v h',p args h=some (v,h')->aec P T ng dr f args h v h'
def RS(f:Nat):Prop:=∃fn t el i ei,P.funcs[f]?=some fn/\fn.body.isNone=true/\(fn.name== "runtime.NumGoroutine")=false/\Extern.findNext fn=none/\Extern.find fn=some (Extern.SlicesOverlaps.overlaps fn.params fn.resultTypes)/\fn.params[0]?=some t/\T t=some i/\i.u=.slice el/\T el=some ei
def Hx:Prop:=∀f af,F f=some af->match af.CW with
 |.no=>∃fn c,P.funcs[f]?=some fn/\fn.body=some c/\(fn.name== "runtime.NumGoroutine")=false/\All2 (fun r ar=>Aa T r=some ar) fn.results.toList af.res/\af.body=bX T ng fn.ntmps dr c
 |.run p _=>WL P T ng dr f p
 |.Q1=>RS P T f
end
def L8(ρ:eU)(h:ab)(k:Nat):Prop:=∀x r o,ρ x=some r->h.tr.get x=some o->r.aC≠k
def mark(r:Nat):Deferred:= { target:=.collected r,args:= #[] }
def AU(B:Nat)(ρ:eU)(h:ab)(w:World)(ds:List Deferred):Prop:=
 ∃rs:List Nat,ds=rs.map mark/\rs.Nodup/\∀r∈rs,B<=r/\w.heap[r]?=some (.deferred (some []))/\L8 ρ h r
theorem L8.ext{ρ ρ':eU}{h h':ab}{k:Nat}(hf:L8 ρ h k)(E:Ext ρ h w ρ' h' w')(hk:k<w.heap.size):L8 ρ' h' k:=by
 intro x r o hx ho e;rcases E.live x r o hx ho with h1|⟨b,r0,o0,h1,h2,h3⟩
 .omega
 .exact hf b r0 o0 h1 h2 (h3.trans e)
theorem AU.ext{B:Nat}{ρ ρ':eU}{h h':ab}{w w':World}{ds:List Deferred}(hd:AU B ρ h w ds)(E:Ext ρ h w ρ' h' w'):AU B ρ' h' w' ds:=by obtain⟨rs,h1,h2,h3⟩:=hd;refine⟨rs,h1,h2,fun r hr=>?_⟩;obtain⟨h4,h5,h6⟩:=h3 r hr;have dQ:=Fq h5;refine⟨h4,?_,h6.ext E dQ⟩;rw[E.uQ r dQ,h5];rintro x rx hx⟨o,ho,_⟩;exact h6 x rx o hx ho
def HH(P:Program)(b:Frame)(k:List Item)(cs:List Frame)(m:Machine):aO->Act->World->Prop
 |.normal,a,w=>Steps P m (lone (on b a k) cs w)
 |.exit id,a,w=>∃k',Steps P m (lone (on b a (.code (.exit id)::k')) cs w)/\exitTo id k'=exitTo id k
 |.ret,a,w=>∃k',Steps P m (lone (on b a (.code .ret::k')) cs w)
theorem HH.of_steps{P:Program}{b:Frame}{k:List Item}{cs:List Frame}{m m':Machine}{x:aO}(h:Steps P m m')(g:HH P b k cs m' x a w):HH P b k cs m x a w:=by
 cases x with
 |normal=>exact Steps.trans h g
 |exit id=>obtain⟨k',h1,h2⟩:=g;exact⟨k',h.trans h1,h2⟩
 |ret=>obtain⟨k',h1⟩:=g;exact⟨k',h.trans h1⟩
section
variable{P:Program}{T:r8}{ng:Nat}{dr:u9}{F:Nat->Option bZ}{ih:ak->Env->ab->R}
structure zd(CC:cn)(B:Nat)(ρ:eU)(h:ab)(w:World)(a:Act)(ρ':eU)(e':Env)(h':ab)(w':World)(a':Act):Prop where
 Tb:dI CC ρ' h' w'
 er:ER ρ' e' a'.tmps
 size:a'.tmps.size=a.tmps.size
 ext:Ext ρ h w ρ' h' w'
 defs:AU B ρ' h' w' a'.defers
def vc(P:Program)(T:r8)(ng:Nat)(dr:u9)(ih:ak->Env->ab->R):Prop:=
 ∀(n:Nat)(c:Code)(e:Env)(h:ab)(x:aO)(e':Env)(h':ab),ih (bX T ng n dr c) e h=some (x,e',h')->∀(B:Nat)(ρ:eU)(w:World)(a:Act)(b:Frame)(k:List Item)(cs:List Frame),dI (ig T ng dr) ρ h w->cQ ng ρ->ER ρ e a.tmps->n<=a.tmps.size->B<=w.heap.size->AU B ρ h w a.defers->(b.roundOf=none\/j6 c=true)->∃ρ' w' a',HH P b k cs (lone (on b a (.code c::k)) cs w) x a' w'/\zd (ig T ng dr) B ρ h w a ρ' e' h' w' a'
theorem ER.put{ρ:eU}{e:Env}{a:Act}(hE:ER ρ e a.tmps){dst:Option Nat}{v c:Value}(hd:∀d,dst=some d->d<a.tmps.size)(hv:VR ρ v c):ER ρ (fN e dst v) (a.put dst c).tmps:=by
 cases dst with
 |none=>exact hE
 |some d=>
  intro t;have dQ:=hd d rfl;simp only[fN,Act.put,Env.aW];by_cases ht:t=d
  .subst ht;simp[Array.getD,dQ,hv]
  .rw[bc ht];have:=hE t;have he:(a.tmps.setIfInBounds d c).getD t undef=a.tmps.getD t undef:=by simp[Array.getD_eq_getD_getElem?,Array.getElem?_setIfInBounds,Ne.symm ht]
   rw[he];exact this
theorem vw(a:Act)(dst:Option Nat)(c:Value):(a.put dst c).tmps.size=a.tmps.size:=by cases dst<;>simp[Act.put]
theorem put_defers(a:Act)(dst:Option Nat)(c:Value):(a.put dst c).defers=a.defers:=by cases dst<;>rfl
theorem VR.of_bool{ρ:eU}{b:Bool}(h:VR ρ v (.bool b)):v=.bool b:=by
 cases h with
 |val h=>cases h with
  |cell h=>cases h with
   |cell h=>cases h;rfl
theorem Hu{ρ:eU}{e:Env}(hE:ER ρ e a.tmps){g:Option (Nat×Bool)}(hg:(o.guard=none/\g=none)\/∃j b t,o.guard=some (j,b)/\C0 ops.toList j=some t/\g=some (t,b)):Region.wanted o (yielded ops a.tmps)=wanted e g:=by
 rcases hg with⟨h1,rfl⟩|⟨j,b,t,h1,h2,rfl⟩
 .simp[Region.wanted,h1,wanted]
 .simp only[Region.wanted,h1,wanted];have hy:yielded ops a.tmps j=match a.tmps[t]? with|some (.bool c)=>some c|_=>none:=by
   unfold C0 at h2;split at h2
   .rename_i o' Jb;have ar_:ops[j]?=some o':=by simpa using Jb
    simp only[yielded,ar_,Option.bind_some,h2];rfl
   .cases h2
  have hr:=hE t;rw[Array.getD_eq_getD_getElem?] at hr;rw[hy];cases hv:a.tmps[t]? with
  |none=>
   rw[hv] at hr;simp only[Option.getD_none] at hr;have hx:ai e t=.tuple #[]:=by
    cases hq:ai e t with
    |tuple l=>
     rw[hq] at hr;obtain⟨m,hm,hk⟩:=hr.JH;have:m=[]:=by unfold undef at hm;injection hm with hm;injection hm with hm;exact hm.symm
     subst this;obtain⟨l⟩:=l;cases hk;rfl
    |_=>rw[hq] at hr;unfold undef at hr;cases hr with
     |val h=>cases h with
      |cell h=>exact absurd h.plain.2 (by simp[AI.plain])
   rw[hx];simp
  |some u=>
   rw[hv] at hr;simp only[Option.getD_some] at hr;cases u with
   |bool c=>
    rw[VR.of_bool hr];simp
   |_=>
    cases hq:ai e t with
    |bool c=>rw[hq] at hr;have:=hr.nh;cases this
    |_=>simp
theorem GZ:∀(l:List Value)(e:Env)(i t:Nat),ai (params e i l) t=if i<=t then(match l[t-i]? with|some v=>v|none=>ai e t) else ai e t
 |[],e,i,t=>by simp[params]
 |v::l,e,i,t=>by
  rw[params,GZ l _ (i+1) t];by_cases h1:i+1<=t
  .rw[aY h1,aY (by omega),show t-i=(t-(i+1))+1 by omega,List.getElem?_cons_succ];split
   .rfl
   .rw[Env.aW,bc (by omega)]
  .rw[bc h1,Env.aW];by_cases h2:t=i
   .subst h2;simp
   .rw[bc h2,bc (by omega)]
theorem Ve{ρ:eU}{args cq:List Value}(h:All2 (VR ρ) args cq)(m:Nat):ER ρ (params .nil 0 args) ((⟨cq⟩:Array Value)++Array.replicate m undef):=by
 intro t;rw[GZ];simp only[Nat.zero_le,if_true,Nat.sub_zero];rw[Array.getD_eq_getD_getElem?];cases ha:args[t]? with
 |some v=>
  obtain⟨c,hc,hr⟩:=h.get ha;have dQ:=(bK.1 hc).1;rw[Array.getElem?_append_left (by simpa using dQ)];have:(⟨cq⟩:Array Value)[t]?=some c:=by rw[<-hc];simp
  rw[this];exact hr
 |none=>
  have hge:args.length<=t:=List.getElem?_eq_none_iff.1 ha;have hl:=h.length;have:((⟨cq⟩:Array Value)++Array.replicate m undef)[t]?.getD undef=undef:=by
   by_cases ht:t<cq.length+m
   .rw[Array.getElem?_append_right (by simp;omega)];simp;by_cases hx:t-cq.length<m
    .simp[hx]
    .simp[hx]
   .rw[Array.getElem?_eq_none (by simp;omega)];rfl
  rw[this];exact VR.undef
theorem Lw{ρ:eU} :∀(ps:List Nat)(args cq:List Value)(e e':Env)(tmps:Array Value),All2 (VR ρ) args cq->jb e ps args=some e'->ER ρ e tmps->(∀t∈ps,t<tmps.size)->ER ρ e' ((ps.zip cq).foldl (fun(tmps:Array Value) (x:Nat×Value)=>tmps.setIfInBounds x.1 x.2) tmps)/\((ps.zip cq).foldl (fun(tmps:Array Value) (x:Nat×Value)=>tmps.setIfInBounds x.1 x.2) tmps).size=tmps.size/\ps.length=args.length:=by
 intro ps;induction ps with
 |nil=>
  intro args cq e e' tmps ha hs hE _;cases ha with
  |nil=>simp only[jb,mw] at hs;subst hs;exact⟨hE,rfl,rfl⟩
  |cons=>simp[jb] at hs
 |cons t ps ihp=>
  intro args cq e e' tmps ha hs hE dQ;cases ha with
  |nil=>simp[jb] at hs
  | @cons v c args cq hv Nh=>
   simp only[jb] at hs;have Ya:=ER.put (a:=⟨tmps,[]⟩) (dst:=some t) hE (fun d hd=>by cases hd;exact dQ t (by simp)) hv;simp only[fN,Act.put] at Ya;obtain⟨h1,h2,h3⟩:=ihp args cq _ e' (tmps.setIfInBounds t c) Nh hs Ya (fun u hu=>by simpa using dQ u (by simp[hu]));exact⟨h1,by simpa using h2,by simp[h3]⟩
def acw(tmps:Array Value):ResultVar->Sem Value
 |.tmp t=>pure (tmps.getD t undef)
 |.cell a t=>do loadVar t (<-asAddr (tmps.getD a undef))
theorem Rc(fn:Func)(tmps:Array Value):Go.results fn tmps=(do
  let vs<-fn.results.mapM (acw tmps)
  pure (if h:vs.size=1 then vs[0] else .tuple vs)):=by
 unfold Go.results;congr 1
theorem N8{CC:cn}{ρ:eU}{e:Env}{h:ab}(hT:dv P T)(S:dI CC ρ h w)(hE:ER ρ e tmps):∀(rs:List ResultVar)(OH:List EY)(vs:List Value),All2 (fun r ar=>Aa T r=some ar) rs OH->results e h OH=some vs->∃cs:List Value,All2 (VR ρ) vs cs/\∀r c,(r,c)∈rs.zip cs->(acw tmps r).run P w=.ok c w:=by
 intro rs;induction rs with
 |nil=>
  intro OH vs ha hr;cases ha;simp only[results,mw] at hr;subst hr;exact⟨[],.nil,fun r c h=>by simp at h⟩
 |cons r rs ihr=>
  intro OH vs ha hr;cases ha with
  | @cons _ ar _ OH h1 h2=>
  cases r with
  |tmp t=>
   simp only[Aa,mw] at h1;subst h1;simp only[results] at hr;split at hr
   .rename_i l hl;cases hr;obtain⟨cs,KC,dE⟩:=ihr OH l h2 hl;refine⟨_::cs,.cons (hE t) KC,?_⟩;intro r c hm;simp only[List.zip_cons_cons,List.mem_cons,yU] at hm;rcases hm with⟨rfl,rfl⟩|hm
    .rfl
    .exact dE r c hm
   .cases hr
  |cell ad t=>
   simp only[Aa] at h1;split at h1
   .rename_i i hi;cases h1;simp only[results] at hr;split at hr
    .rename_i b off heq;split at hr
     .rename_i cells adD;split at hr
      .rename_i v hv;split at hr
       .rename_i l hl;cases hr;obtain⟨cs,KC,dE⟩:=ihr OH l h2 hl;have hp:=hE ad;rw[heq] at hp;obtain⟨rr,hrr,hc⟩:=hp.BY;obtain⟨c,alc,hvr⟩:=SQ (P:=P) S (hT t i hi) hrr adD hv;refine⟨c::cs,.cons hvr KC,?_⟩;intro r c' hm;simp only[List.zip_cons_cons,List.mem_cons,yU] at hm;rcases hm with⟨rfl,rfl⟩|hm
        .simp only[acw,Sem.run_bind,hc,asAddr,Sem.run_pure,Result.andThen_ok,alc]
        .exact dE r c' hm
       .cases hr
      .cases hr
     .cases hr
    .cases hr
   .cases h1
theorem YN(f:α->Sem β):∀(l:List α)(m:List β)(w:World),l.length=m.length->(∀x y,(x,y)∈l.zip m->(f x).run P w=.ok y w)->∀acc:Array β,(l.foldlM (fun bs x=>bs.push <$> f x) acc).run P w=.ok (acc++m.toArray) w:=by
 intro l;induction l with
 |nil=>intro m w hl _ acc;cases m with
  |nil=>simp
  |cons=>simp at hl
 |cons x l ihl=>
  intro m w hl hx acc;cases m with
  |nil=>simp at hl
  |cons y m=>
   simp only[List.foldlM_cons,Sem.run_bind,Bj,hx x y (by simp),Result.andThen_ok];rw[ihl m w (by simpa using hl) (fun u v huv=>hx u v (by simp[huv]))];congr 1;apply Array.ext';simp
theorem N9{CC:cn}{ρ:eU}{e:Env}{h:ab}(hT:dv P T)(S:dI CC ρ h w)(hE:ER ρ e tmps){OH:List EY}(ha:All2 (fun r ar=>Aa T r=some ar) fn.results.toList OH)(hr:results e h OH=some vs)(eX:jM vs=true):∃c,(Go.results fn tmps).run P w=.ok c w/\VR ρ (result vs) c:=by
 obtain⟨cs,KC,dE⟩:=N8 hT S hE _ _ _ ha hr;have cj:fn.results.toList.length=cs.length:=by
  have h1:=ha.length;have h2:=KC.length;have h3:∀(OH:List EY)(vs:List Value),results e h OH=some vs->vs.length=OH.length:=by
   intro OH;induction OH with
   |nil=>intro vs h;simp only[results,mw] at h;subst h;rfl
   |cons r OH ihr=>
    intro vs h;cases r with
    |tmp t=>
     simp only[results] at h;split at h
     .rename_i l hl;cases h;simp[ihr l hl]
     .cases h
    |cell ad n=>
     simp only[results] at h
     repeat (split at h<;>try cases h)
     rename_i l hl;simp[ihr l hl]
  have:=h3 _ _ hr;omega
 have hm:(fn.results.mapM (acw tmps)).run P w=.ok ⟨cs⟩ w:=by rw[Array.mapM_eq_foldlM,<-Array.foldlM_toList,YN _ _ cs w cj dE];congr 1;apply Array.ext';simp
 refine⟨if h:(⟨cs⟩:Array Value).size=1 then(⟨cs⟩:Array Value)[0] else .tuple ⟨cs⟩,?_,?_⟩
 .rw[Rc];simp only[Sem.run_bind,hm,Result.andThen_ok,Sem.run_pure]
 .match vs,cs,KC with
  |[v],[c],.cons hv .nil=>simpa [result] using hv
  |[],[],.nil=>simpa [result] using VR.tuple (ρ:=ρ) .nil
  |v1::v2::vs,c1::c2::cs,hh=>
   have ct:¬((⟨c1::c2::cs⟩:Array Value).size=1):=by simp
   rw[dif_neg ct];simp only[result];have oH:(v1::v2::vs).all yz=true:=eX;have conv:∀ {l m:List Value},All2 (VR ρ) l m->l.all yz=true->All2 (AR ρ) l m:=by
    intro l m h;induction h with
    |nil=>intro _;exact .nil
    |cons hv _ ihh=>
     intro hl;simp only[List.all_cons,zr] at hl;refine .cons ?_ (ihh hl.2);cases hv with
     |val h=>exact h
     |tuple=>simp[yz] at hl
     |atl=>simp[yz] at hl
   exact VR.tuple (conv hh oH)
end
end Go.AI
