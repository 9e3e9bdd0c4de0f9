/- Parts of the proof. -/
import GoSem.Dispatch
import Derived.Calls
import Derived.Below
import Derived.Laws.Rows
import Derived.Laws.CopyRow
import Derived.Laws.StructEq
import Derived.Laws.Append
import Derived.ChangeKeysEq
import Derived.Laws.Slices
import Derived.Laws.MakeOwn
import Derived.Laws.AppendOwn
set_option linter.all false
namespace Go.AI
variable{args:List Value}{f:Nat}{v:Value}
inductive Tr(α:Type) where
 |nil
 |node (v:Option α) (l r:Tr α)
namespace Tr
variable{α:Type}
def get:Tr α->Nat->Option α
 |.nil,_=>none
 |.node v l r,k=>
  match k with
  |0=>v
  |k+1=>bif Nat.beq (k%2) 0 then l.get (k/2) else r.get (k/2)
def put:Nat->Tr α->Nat->Option α->Tr α
 |0,t,_,_=>t
 |f+1,.nil,k,x=>
  match k with
  |0=>.node x .nil .nil
  |k+1=>bif Nat.beq (k%2) 0 then .node none (put f .nil (k/2) x) .nil else .node none .nil (put f .nil (k/2) x)
 |f+1,.node v l r,k,x=>
  match k with
  |0=>.node x l r
  |k+1=>bif Nat.beq (k%2) 0 then .node v (put f l (k/2) x) r else .node v l (put f r (k/2) x)
def set(t:Tr α)(k:Nat)(x:α):Tr α:=put (k+1) t k (some x)
def del(t:Tr α)(k:Nat):Tr α:=put (k+1) t k none
end Tr
abbrev Env:=Tr Value
def ak(e:Env)(t:Nat):Value:=(Tr.get e t).getD (.tuple #[])
inductive ja where
 |mv (x:Operand)
 |pick (c a b:Operand)
 |alloc (z:List Value)
 |box (x:Operand)
 |build (z:List Value) (parts:List (Nat×Nat×Operand))
 |fH (n:Nat) (z:List Value) (parts:List (Nat×Nat×Operand))
 |load (n:Option Nat) (a:Operand)
 |store (n:Nat) (a v:Operand)
 |uS (x:Operand)
 |bin (op:BinOp) (n:List Nat) (x y:Operand)
 |un (op:UnOp) (x:Operand)
 |conv (k:IntKind) (x:Operand)
 |uM (f:FuncId) (caps:List Operand)
 |En
 |ik (z:List Value) (bytes:Nat) (len cap:Operand)
 |slice (size:Nat) (x:Operand) (lo hi mx:Option Operand)
 |cP (off:Nat) (x:Operand)
 |dt (arr:Option Nat) (size:Nat) (x i:Operand)
 |field (off:Nat) (n:Option Nat) (x:Operand)
 |index (arr:Option (Nat×Nat×Option Nat)) (x i:Operand)
 |look (n:List Nat) (z:Value) (ok:Bool) (x i:Operand)
 |Eo (n:List Nat) (m k v:Operand)
 |ext (i:Nat) (x:Operand)
 |call (f:Operand) (args:List Operand)
 |uC (x:Operand)
 |Jt (x:Operand)
 |append (z:List Value) (bytes:Nat) (pM:Bool) (s x:Operand)
 |copy (size:Nat) (d s:Operand)
 |clear (z:List Value) (x:Operand)
 |MV (x y:Operand)
 |MU (x:Operand)
 |bad
 deriving Inhabited
structure aY where
 dst:Option Nat
 guard:Option (Nat×Bool)
 op:ja
 deriving Inhabited
inductive aq where
 |skip
 |ops (l:List aY)
 |draw (l:List (aY×List Nat))
 |seq (a b:aq)
 |cond (c:Operand) (a b:aq)
 |block (id:Nat) (c:aq)
 |loop (c:aq)
 |Qr (f:Operand) (ps:List Nat) (asg body:aq)
 |exit (id:Nat)
 |ret
 |mcp (src:Operand) (d:Nat) (n jn js:List Nat) (t u:Nat)
 |bad
 deriving Inhabited
inductive AY where
 |tmp (t:Nat)
 |cell (a:Nat) (n:Option Nat)
inductive Th where
 |ready|busy|done (j:Option Nat)
inductive o9 where
 |aC (cells:List Value) (ro:Bool) (ED:Nat) (auQ:Nat)
 |loop (env:Env) (ps:List Nat) (asg body:aq) (st:Th)
 |map (es:List (Value×Value))
structure ae where
 next:Nat
 clock:Nat
 tr:Tr o9
def WF(h:ae):Prop:=∀b o,h.tr.get b=some o->b<h.next
structure dm(h h':ae):Prop where
 next:h.next<=h'.next
 clock:h.clock<=h'.clock
 bC:∀b cs ro o s,b<h.next->h'.tr.get b=some (.aC cs ro o s)->s<h.clock->h.tr.get b=some (.aC cs ro o s)
 wf:WF h->WF h'
 mp:∀b,b<h.next->h'.tr.get b=some (.map [])->h.tr.get b=some (.map [])
inductive Prim where
 |no
 |run (p:List Value->ae->Option (Value×ae)) (hp:∀args h v h',p args h=some (v,h')->dm h h')
 |Ox
structure bM where
 res:List AY
 body:aq
 Bw:Prim:=.no
inductive aT where
 |normal
 |exit (id:Nat)
 |ret
def ev(e:Env):Operand->Value
 |.tmp t=>ak e t
 |.const v=>v
 |.global g=>.pointer (some ⟨g,0,none⟩)
 |.func f=>.func (.func f) #[] #[]
def cG(e:Env):Option Nat->Value->Env
 |none,_=>e
 |some t,v=>Tr.set e t v
def ae.new(h:ae)(o:o9):ae:= {h with next:=h.next+1,tr:=h.tr.set h.next o}
def aJ(h:ae)(cells:List Value)(ED:Nat):ae:=h.new (.aC cells false ED 0)
def agg(n:Option Nat)(cs:List Value):Option Value:=
 match n with
 |some n=>if Nat.beq cs.length n then some (.agg ⟨cs⟩) else none
 |none=>match cs with
  |[v]=>some v
  |_=>none
def width(n:Option Nat):Nat:=match n with|some n=>n|none=>1
def aV(h:ae)(b off n:Nat):Option (List Value):=
 match h.tr.get b with
 |some (.aC cs _ _ _)=>let r:=(cs.drop off).take n;if Nat.beq r.length n then some r else none
 |_=>none
def aH(cs:List Value)(off:Nat)(vs:List Value):List Value:=cs.take off++vs++cs.drop (off+vs.length)
def iX(h:ae)(b off:Nat)(vs:List Value):Option ae:=
 match h.tr.get b with
 |some (.aC cs false o _)=>
  if Nat.ble (off+vs.length) cs.length then some {h with clock:=h.clock+1,tr:=h.tr.set b (.aC (aH cs off vs) false o h.clock)} else none
 |_=>none
def cellsOf:Value->List Value
 |.agg cs=>cs.toList
 |v=>[v]
def plain:Value->Bool
 |.agg _=>false
 |.tuple _=>false
 |.chan _=>false
 |_=>true
def simple:Value->Bool
 |.agg _=>false
 |.tuple _=>false
 |.chan _=>false
 |.func _ _ _=>false
 |_=>true
def flat(v:Value):Option (List Value):=bif (cellsOf v).all plain then some (cellsOf v) else none
def tv(e:Env):List Value->List (Nat×Nat×Operand)->Option (List Value)
 |cs,[]=>some cs
 |cs,(off,n,x)::r=>match flat (ev e x) with
  |some vs=>if Nat.beq vs.length n&&Nat.ble (off+n) cs.length then tv e (aH cs off vs) r else none
  |none=>none
def jP(z:List Value):Nat->List Value
 |0=>[]
 |n+1=>z++jP z n
def ig(k:Nat)(a b:Value):Option Bool:=
 match k,a,b with
 |0,.bool a,.bool b=>some (a==b)
 |1,.int k a,.int k' b=>if k=k' then some (a==b) else none
 |2,.string a,.string b=>some (a==b)
 |_,_,_=>none
def bQ:List Nat->List Value->List Value->Option Bool
 |[],[],[]=>some true
 |k::ks,a::as',b::bs=>match ig k a b,bQ ks as' bs with
  |some x,some y=>some (x&&y)
  |_,_=>none
 |_,_,_=>none
def pB(ks:List Nat)(a b:Value):Option Bool:=
 match a,b with
 |.agg a,.agg b=>match ks with
  |9::ks=>bQ ks a.toList b.toList
  |_=>none
 |a,b=>match ks with
  |[3]=>match a,b with
   |.slice none _ _,.slice b _ _=>some b.isNone
   |.slice (some _) _ _,.slice none _ _=>some false
   |_,_=>none
  |[4]=>match a,b with
   |.pointer none,.pointer b=>some b.isNone
   |.pointer (some _),.pointer none=>some false
   |_,_=>none
  |[5]=>match a,b with
   |.map none,.map b=>some b.isNone
   |.map (some _),.map none=>some false
   |_,_=>none
  |[6]=>match a,b with
   |.nilFunc,.nilFunc=>some true
   |.nilFunc,.func _ _ _=>some false
   |.func _ _ _,.nilFunc=>some false
   |_,_=>none
  |[k]=>ig k a b
  |_=>none
def fq(op:BinOp)(k:IntKind)(a b:Int):Option Value:=
 match op with
 |.add=>some (.int k (k.wrap (a+b)))
 |.sub=>some (.int k (k.wrap (a-b)))
 |.mul=>some (.int k (k.wrap (a*b)))
 |.quo=>if b=0 then none else some (.int k (k.wrap (a.tdiv b)))
 |.rem=>if b=0 then none else some (.int k (a.tmod b))
 |.and=>some (.int k (k.wrap (BitVec.ofInt k.bits a &&& BitVec.ofInt k.bits b).toNat))
 |.or=>some (.int k (k.wrap (BitVec.ofInt k.bits a ||| BitVec.ofInt k.bits b).toNat))
 |.xor=>some (.int k (k.wrap (BitVec.ofInt k.bits a ^^^ BitVec.ofInt k.bits b).toNat))
 |.andNot=>some (.int k (k.wrap (BitVec.ofInt k.bits a &&& ~~~(BitVec.ofInt k.bits b)).toNat))
 |.eql=>some (.bool (a==b))
 |.neq=>some (.bool (a !=b))
 |.lss=>some (.bool (a<b))
 |.leq=>some (.bool (a<=b))
 |.gtr=>some (.bool (a>b))
 |.geq=>some (.bool (a>=b))
 |_=>none
def jJ(op:BinOp)(k:IntKind)(a b:Int):Option Value:=
 if b<0 then none else
 match op with
 |.shl=>some (.int k (k.wrap (a*2^(min b.toNat k.bits))))
 |.shr=>some (.int k (a.fdiv (2^(min b.toNat k.bits))))
 |_=>none
def Uk(op:BinOp)(n:List Nat)(x y:Value):Option Value:=
 match op with
 |.shl=>match x,y with|.int k a,.int _ b=>jJ .shl k a b|_,_=>none
 |.shr=>match x,y with|.int k a,.int _ b=>jJ .shr k a b|_,_=>none
 |.eql=>match x,y with
  |.int k a,.int k' b=>if k=k' then fq .eql k a b else none
  |x,y=>match pB n x y with|some b=>some (.bool b)|none=>none
 |.neq=>match x,y with
  |.int k a,.int k' b=>if k=k' then fq .neq k a b else none
  |x,y=>match pB n x y with|some b=>some (.bool (!b))|none=>none
 |.gtr=>match x,y with
  |.int k a,.int k' b=>if k=k' then fq .gtr k a b else none
  |.int .i64 a,.chan (some c)=>if a<=(c:Int) then some (.bool false) else none
  |_,_=>none
 |op=>match x,y with|.int k a,.int k' b=>if k=k' then fq op k a b else none|_,_=>none
def unV(op:UnOp)(x:Value):Option Value:=
 match op,x with
 |.neg,.int k n=>some (.int k (k.wrap (0-n)))
 |.xor,.int k n=>some (.int k (k.wrap (BitVec.ofInt k.bits (if k.signed then-1 else k.max) ^^^ BitVec.ofInt k.bits n).toNat))
 |.not,.bool b=>some (.bool !b)
 |_,_=>none
def bound(e:Env)(x:Option Operand)(amW top:Nat):Option Nat:=
 match x with
 |none=>some amW
 |some x=>match ev e x with
  |.int _ (.ofNat i)=>if Nat.ble i top then some i else none
  |_=>none
def roomy(bytes:Nat):Bool:=Nat.ble bytes 1099511627776
def news(h:ae)(z:List Value)(pM:Bool)(x:Value):Option (Nat×List Value):=
 match pM,x with
 |true,.int _ (.ofNat n)=>if roomy n then some (n,jP z n) else none
 |false,.slice none n _=>if Nat.beq n 0 then some (0,[]) else none
 |false,.slice (some ⟨b,off,none⟩) n _=>if Nat.beq n 0 then some (0,[]) else match aV h b off (n*z.length) with
  |some cs=>some (n,cs)
  |none=>none
 |_,_=>none
def ib(h:ae)(z:List Value)(bytes:Nat)(s:Value)(n:Nat)(cs:List Value):Option (Value×ae):=
 match s with
 |.slice a len cap=>
  if Nat.blt 0 z.length then
  if Nat.beq n 0 then(if Nat.ble len cap then some (.slice a len cap,h) else none) else
  if roomy (len+n)&&roomy ((len+n)*bytes) then
   match a with
   |none=>if Nat.beq len 0&&Nat.beq cap 0 then some (.slice (some ⟨h.next,0,none⟩) n n,aJ h cs z.length) else none
   |some ⟨b,off,none⟩=>
    match h.tr.get b with
    |some (.aC bC false o _)=>
     if Nat.ble (len+n) cap then
      match iX h b (off+len*z.length) cs with
      |some h'=>some (.slice (some ⟨b,off,none⟩) (len+n) cap,h')
      |none=>none
     else
      let r:=(bC.drop off).take (len*z.length)
      if Nat.beq r.length (len*z.length) then
       if Nat.beq o 0|| !(Nat.beq (off+cap*o) bC.length) then
        some (.slice (some ⟨h.next,0,none⟩) (len+n) (len+n),aJ h (r++cs) z.length)
       else if Nat.beq o z.length then
        some (.slice (some ⟨h.next,0,none⟩) (len+n) (len+n),aJ {h with tr:=h.tr.del b} (r++cs) z.length)
       else none
      else none
    |_=>none
   |_=>none
  else none
  else none
 |_=>none
def gM(n:List Nat)(k:Value):List (Value×Value)->Option (Option Value)
 |[]=>some none
 |(k',v)::r=>match pB n k k',gM n k r with
  |some true,some none=>some (some v)
  |some false,x=>x
  |_,_=>none
def Bv:Value->Bool
 |.agg cs=>cs.toList.all plain
 |k=>plain k
def pE:List Nat->Value->Bool
 |9::ks,.agg cs=>Nat.beq cs.toList.length ks.length
 |9::_,_=>false
 |_,_=>true
def yr(n:List Nat)(k v:Value)(es:List (Value×Value)):Option (List (Value×Value)):=
 match gM n k es with
 |some none=>if Bv k&&plain v then some (es++[(k,v)]) else none
 |_=>none
def CM:Value->Bool
 |.bool _=>false
 |_=>true
def Ce(n:List Nat):List (Value×Value)->Bool
 |[]=>true
 |(k,v)::r=>pE n k&&Bv k&&plain v&&CM v&&(match gM n k r with|some none=>true|_=>false)&&Ce n r
def x6:Env->List Nat->Env
 |e,[]=>e
 |e,t::r=>x6 (Tr.set e t (.chan none)) r
def xJ(e:Env)(js:List Nat)(t u:Nat):Env:=Tr.set (Tr.set (x6 e js) t (.tuple #[.bool false])) u (.bool false)
def tI(e:Env)(l:List Operand):List Value:=l.map (ev e)
def bw(e:Env)(h:ae):ja->Option (Value×ae)
 |.mv x=>some (ev e x,h)
 |.pick c a b=>match ev e c with
  |.bool true=>some (ev e a,h)
  |.bool false=>some (ev e b,h)
  |_=>none
 |.alloc z=>some (.pointer (some ⟨h.next,0,none⟩),aJ h z 0)
 |.box x=>match flat (ev e x) with
  |some vs=>some (.pointer (some ⟨h.next,0,none⟩),aJ h vs 0)
  |none=>none
 |.build z parts=>match tv e z parts with
  |some cs=>some (.agg ⟨cs⟩,h)
  |none=>none
 |.fH n z parts=>match tv e z parts with
  |some cs=>some (.slice (some ⟨h.next,0,none⟩) n n,aJ h cs 0)
  |none=>none
 |.load n a=>match ev e a with
  |.pointer (some ⟨b,off,none⟩)=>match aV h b off (width n) with
   |some cs=>match agg n cs with|some v=>some (v,h)|none=>none
   |none=>none
  |_=>none
 |.store n a v=>match ev e a with
  |.pointer (some ⟨b,off,none⟩)=>match flat (ev e v) with
   |some vs=>if Nat.beq vs.length n then match iX h b off vs with
     |some h'=>some (.tuple #[],h')
     |none=>none
    else none
   |none=>none
  |_=>none
 |.uS x=>match ev e x with
  |.pointer (some a)=>some (.pointer (some a),h)
  |_=>none
 |.bin op n x y=>match Uk op n (ev e x) (ev e y) with
  |some v=>some (v,h)
  |none=>none
 |.un op x=>match unV op (ev e x) with
  |some v=>some (v,h)
  |none=>none
 |.conv k x=>match ev e x with
  |.int _ n=>some (.int k (k.wrap n),h)
  |_=>none
 |.uM f caps=>bif (tI e caps).all simple then some (.func (.func f) #[] ⟨tI e caps⟩,h) else none
 |.En=>some (.map (some h.next),h.new (.map []))
 |.ik z bytes len cap=>match ev e len,ev e cap with
  |.int .i64 (.ofNat l),.int .i64 (.ofNat c)=>
   if Nat.ble l c&&roomy (c*bytes)&&Nat.blt 0 z.length&&roomy c then some (.slice (some ⟨h.next,0,none⟩) l c,aJ h (jP z c) 0) else none
  |_,_=>none
 |.slice size x lo hi mx=>match ev e x with
  |.slice a len cap=>
   match bound e mx cap cap with
   |none=>none
   |some m=>match bound e hi len m with
    |none=>none
    |some hh=>match bound e lo 0 hh with
     |none=>none
     |some l=>match a with
      |none=>some (.slice none (hh-l) (m-l),h)
      |some ⟨b,off,none⟩=>match h.tr.get b with
       |some (.aC _ _ o _)=>bif Nat.beq o 0||Nat.beq o size then some (.slice (some ⟨b,off+l*size,none⟩) (hh-l) (m-l),h) else none
       |_=>none
      |_=>none
  |_=>none
 |.cP off x=>match ev e x with
  |.pointer (some ⟨b,o,none⟩)=>some (.pointer (some ⟨b,o+off,none⟩),h)
  |_=>none
 |.dt arr size x i=>match ev e i with
  |.int _ (.ofNat i)=>match arr,ev e x with
   |some n,.pointer (some ⟨b,o,none⟩)=>if Nat.blt i n then some (.pointer (some ⟨b,o+i*size,none⟩),h) else none
   |none,.slice (some ⟨b,o,none⟩) len _=>if Nat.blt i len then some (.pointer (some ⟨b,o+i*size,none⟩),h) else none
   |_,_=>none
  |_=>none
 |.field off n x=>match ev e x with
  |.agg cs=>match agg n ((cs.toList.drop off).take (width n)) with
   |some v=>some (v,h)
   |none=>none
  |_=>none
 |.index arr x i=>match ev e i with
  |.int _ (.ofNat i)=>match arr,ev e x with
   |some (len,size,n),.agg cs=>if Nat.blt i len then match agg n ((cs.toList.drop (i*size)).take (width n)) with
     |some v=>some (v,h)
     |none=>none
    else none
   |none,.string s=>match s[i]? with
    |some b=>some (.int .u8 b.toNat,h)
    |none=>none
   |_,_=>none
  |_=>none
 |.look n z ok x i=>bif pE n (ev e i) then
  let r:=match ev e x with
   |.map none=>some none
   |.map (some r)=>match h.tr.get r with
    |some (.map es)=>gM n (ev e i) es
    |_=>none
   |_=>none
  match r with
  |none=>none
  |some none=>some (if ok then .tuple #[z,.bool false] else z,h)
  |some (some v)=>some (if ok then .tuple #[v,.bool true] else v,h)
  else none
 |.Eo n m k v=>bif pE n (ev e k) then match ev e m with
  |.map (some r)=>match h.tr.get r with
   |some (.map es)=>match yr n (ev e k) (ev e v) es with
    |some es'=>some (.tuple #[],{h with clock:=h.clock+1,tr:=h.tr.set r (.map es')})
    |none=>none
   |_=>none
  |_=>none
  else none
 |.ext i x=>match ev e x with
  |.tuple vs=>match vs.toList[i]? with
   |some v=>some (v,h)
   |none=>none
  |_=>none
 |.uC x=>match ev e x with
  |.slice _ n _=>some (.int .i64 n,h)
  |_=>none
 |.Jt x=>match ev e x with
  |.string s=>some (.int .i64 s.size,h)
  |_=>none
 |.append z bytes pM s x=>match news h z pM (ev e x) with
  |some (n,cs)=>ib h z bytes (ev e s) n cs
  |none=>none
 |.copy size d s=>match ev e d,ev e s with
  |.slice da dn _,.slice sa sn _=>
   let n:=Nat.min sn dn
   if Nat.beq n 0 then some (.int .i64 0,h) else
   match da,sa with
   |some ⟨db,agE,none⟩,some ⟨sb,ajU,none⟩=>match aV h sb ajU (n*size) with
    |some cs=>match iX h db agE cs with
     |some h'=>some (.int .i64 n,h')
     |none=>none
    |none=>none
   |_,_=>none
  |_,_=>none
 |.clear z x=>match ev e x with
  |.slice a n _=>if Nat.beq n 0 then some (.tuple #[],h) else match a with
   |some ⟨b,off,none⟩=>match iX h b off (jP z n) with
    |some h'=>some (.tuple #[],h')
    |none=>none
   |_=>none
  |_=>none
 |.MV x y=>match ev e x,ev e y with
  |.int k a,.int k' b=>if k=k' then some (.int k (if b<a then b else a),h) else none
  |_,_=>none
 |.MU x=>match ev e x with
  |.slice none _ c=>some (.int .i64 c,h)
  |.slice (some ⟨b,_,none⟩) _ c=>match h.tr.get b with
   |some (.aC _ _ o _)=>if Nat.beq o 0 then some (.int .i64 c,h) else some (.chan (some c),h)
   |_=>none
  |_=>none
 |.call _ _=>none
 |.bad=>none
abbrev R:=Option (aT×Env×ae)
def params:Env->Nat->List Value->Env
 |e,_,[]=>e
 |e,i,v::r=>params (Tr.set e i v) (i+1) r
def results(e:Env)(h:ae):List AY->Option (List Value)
 |[]=>some []
 |.tmp t::r=>match results e h r with|some l=>some (ak e t::l)|none=>none
 |.cell a n::r=>match ak e a with
  |.pointer (some ⟨b,off,none⟩)=>match aV h b off (width n) with
   |some cs=>match agg n cs with
    |some v=>match results e h r with|some l=>some (v::l)|none=>none
    |none=>none
   |none=>none
  |_=>none
def uU:Value->Bool
 |.tuple _=>false
 |.chan _=>false
 |_=>true
def result:List Value->Value
 |[v]=>v
 |l=>.tuple ⟨l⟩
def iH:List Value->Bool
 |[_]=>true
 |l=>l.all uU
def gU:Env->List Nat->List Value->Option Env
 |e,[],[]=>some e
 |e,t::ts,v::vs=>gU (Tr.set e t v) ts vs
 |_,_,_=>none
def Sq:List Value->ae->Option (Value×ae)
 |[.slice (some ⟨a,_,none⟩) la _,.slice (some ⟨b,_,none⟩) lb _],h=>
  match h.tr.get a,h.tr.get b with
  |some (.aC _ false _ _),some (.aC _ false _ _)=>bif Nat.beq la 0||Nat.beq lb 0|| !(Nat.beq a b) then some (.bool false,h) else none
  |_,_=>none
 |_,_=>none
section
variable(F:Nat->Option bM)(ih:aq->Env->ae->R)
def oi(o:Bool)(f:Nat)(args:List Value)(h:ae):Option (Value×ae):=
 match F f with
 |none=>none
 |some fn=>match fn.Bw with
  |.Ox=>bif o then Sq args h else none
  |.run p _=>p args h
  |.no=>match ih fn.body (params .nil 0 args) h with
   |some (.normal,e',h')|some (.ret,e',h')=>match results e' h' fn.res with
    |some vs=>bif iH vs then some (result vs,h') else none
    |none=>none
   |_=>none
abbrev si(f:Nat)(args:List Value)(h:ae):Option (Value×ae):=oi F ih false f args h
def fB(h:ae)(l:Nat)(env:Env)(ps:List Nat)(asg body:aq)(st:Th):ae:= {h with tr:=h.tr.set l (.loop env ps asg body st)}
def ny(l:Nat)(h:ae)(st:Th)(v:Bool):Option (Value×ae):=
 match h.tr.get l with
 |some (.loop env ps asg body .busy)=>some (.bool v,fB h l env ps asg body st)
 |_=>none
def y_(l:Nat)(code:aq)(e:Env)(h:ae):Option (Value×ae):=
 match h.tr.get l with
 |some (.loop env ps asg body .ready)=>
  match ih code e (fB h l env ps asg body .busy) with
  |some (.normal,_,h)=>ny l h .ready true
  |some (.ret,_,h)=>ny l h (.done none) false
  |some (.exit id,_,h)=>ny l h (.done (some id)) false
  |none=>none
 |_=>none
def uX(l:Nat)(args:List Value)(h:ae):Option (Value×ae):=
 match h.tr.get l with
 |some (.loop env ps asg body .ready)=>
  match gU env ps args with
  |none=>none
  |some e=>match ih asg e h with
   |some (.normal,e,h)=>y_ ih l body e h
   |_=>none
 |_=>none
def cU(fv:Value)(args:List Value)(h:ae):Option (Value×ae):=
 match fv with
 |.func (.func f) first caps=>oi F ih true f (first.toList++args++caps.toList) h
 |.func (.yield l) _ _=>uX ih l args h
 |_=>none
def wanted(e:Env):Option (Nat×Bool)->Bool
 |none=>true
 |some (t,b)=>match ak e t with
  |.bool c=>c==b
  |_=>false
def cy(o:aY)(e:Env)(h:ae):Option (Env×ae):=
 bif wanted e o.guard then
  match o.op with
  |.call f args=>match cU F ih (ev e f) (tI e args) h with
   |some (v,h')=>some (cG e o.dst v,h')
   |none=>none
  |op=>match bw e h op with
   |some (v,h')=>some (cG e o.dst v,h')
   |none=>none
 else some (cG e o.dst (.tuple #[]),h)
def oE:List aY->Env->ae->Option (Env×ae)
 |[],e,h=>some (e,h)
 |o::r,e,h=>match cy F ih o e h with
  |some (e,h)=>oE r e h
  |none=>none
def still(e:Env)(h:ae)(clock:Nat):List Nat->Bool
 |[]=>true
 |t::r=>match ak e t with
  |.pointer (some ⟨b,_,none⟩)=>match h.tr.get b with
   |some (.aC _ _ _ s)=>Nat.ble s clock&&still e h clock r
   |_=>false
  |.slice (some ⟨b,_,none⟩) _ _=>match h.tr.get b with
   |some (.aC _ _ _ s)=>Nat.ble s clock&&still e h clock r
   |_=>false
  |.map (some b)=>match h.tr.get b with
   |some (.map [])=>still e h clock r
   |_=>false
  |.map none=>still e h clock r
  |.tuple _=>still e h clock r
  |.pointer none=>still e h clock r
  |.slice none _ _=>still e h clock r
  |_=>false
def mG(clock:Nat):List (aY×List Nat)->Env->ae->Option (Env×ae)
 |[],e,h=>some (e,h)
 |(o,lH)::r,e,h=>match cy F ih o e h with
  |some (e,h)=>bif still e h clock lH then mG clock r e h else none
  |none=>none
def bN:aq->Env->ae->R
 |.skip,e,h=>some (.normal,e,h)
 |.ops l,e,h=>match oE F ih l e h with
  |some (e,h)=>some (.normal,e,h)
  |none=>none
 |.draw l,e,h=>match mG F ih h.clock l e {h with clock:=h.clock+1} with
  |some (e,h)=>some (.normal,e,h)
  |none=>none
 |.seq a b,e,h=>match ih a e h with
  |some (.normal,e,h)=>ih b e h
  |r=>r
 |.cond c a b,e,h=>match ev e c with
  |.bool true=>ih a e h
  |.bool false=>ih b e h
  |_=>none
 |.block id c,e,h=>match ih c e h with
  |some (.exit i,e,h)=>bif Nat.beq i id then some (.normal,e,h) else some (.exit i,e,h)
  |r=>r
 |.loop c,e,h=>match ih c e h with
  |some (.normal,e,h)=>ih (.loop c) e h
  |r=>r
 |.exit id,e,h=>some (.exit id,e,h)
 |.ret,e,h=>some (.ret,e,h)
 |.Qr f ps asg body,e,h=>match ev e f with
  |.func (.func g) first caps=>match si F ih g (first.toList++[.func (.yield h.next) #[] #[]]++caps.toList) (h.new (.loop e ps asg body .ready)) with
   |some (_,h')=>match h'.tr.get h.next with
    |some (.loop _ _ _ _ .ready)=>some (.normal,e,{h' with tr:=h'.tr.del h.next})
    |some (.loop _ _ _ _ (.done none))=>some (.ret,e,{h' with tr:=h'.tr.del h.next})
    |some (.loop _ _ _ _ (.done (some id)))=>some (.exit id,e,{h' with tr:=h'.tr.del h.next})
    |_=>none
   |none=>none
  |_=>none
 |.mcp src d n jn js t u,e,h=>match ev e src with
  |.map none=>some (.normal,xJ e jn t u,{h with next:=h.next+1})
  |.map (some s)=>match ak e d with
   |.map (some r)=>match h.tr.get s,h.tr.get r with
    |some (.map es),some (.map [])=>bif !(Nat.beq s r)&&Ce n es then
      some (.normal,xJ e (match es with|[]=>jn|_=>jn++js) t u,{ next:=h.next+(es.length+1),clock:=h.clock+1,tr:=h.tr.set r (.map es) })
     else none
    |_,_=>none
   |_=>none
  |_=>none
 |.bad,_,_=>none
end
def run(F:Nat->Option bM):Nat->aq->Env->ae->R:=
 Nat.rec (fun _ _ _=>none) (fun _ ih=>bN F ih)
def call(F:Nat->Option bM)(fuel f:Nat)(args:List Value)(h:ae):Option (Value×ae):=si F (run F fuel) f args h
section
variable{F:Nat->Option bM}{ih:aq->Env->ae->R}
theorem DF{h h':ae}(hc:oi F ih true f args h=some (v,h')):
  oi F ih false f args h=some (v,h')\/∃fn,F f=some fn/\fn.Bw=.Ox/\Sq args h=some (v,h'):=by
 unfold oi at hc⊢;cases hf:F f with
 |none=>rw[hf] at hc;cases hc
 |some fn=>
  rw[hf] at hc;dsimp only at hc⊢;cases hp:fn.Bw with
  |Ox=>rw[hp] at hc;exact .inr ⟨fn,rfl,hp,hc⟩
  |run p k=>rw[hp] at hc;exact .inl hc
  |no=>rw[hp] at hc;exact .inl hc
theorem vW{h h':ae}(hc:oi F ih false f args h=some (v,h')):oi F ih true f args h=some (v,h'):=by
 unfold oi at hc⊢;cases hf:F f with
 |none=>rw[hf] at hc;cases hc
 |some fn=>
  rw[hf] at hc;dsimp only at hc⊢;cases hp:fn.Bw with
  |Ox=>rw[hp] at hc;cases hc
  |run p k=>rw[hp] at hc;exact hc
  |no=>rw[hp] at hc;exact hc
theorem Hn{h h':ae}(hc:Sq args h=some (v,h')):v=.bool false/\h'=h/\
  ∃a oa la ca b ob lb cb csa o1 s1 csb o2 s2,args=[.slice (some ⟨a,oa,none⟩) la ca,.slice (some ⟨b,ob,none⟩) lb cb]/\h.tr.get a=some (.aC csa false o1 s1)/\h.tr.get b=some (.aC csb false o2 s2)/\(la=0\/lb=0\/a≠b):=by
 unfold Sq at hc;split at hc
 .rename_i a oa la ca b ob lb cb;split at hc
  .rename_i c1 o1 s1 c2 o2 s2 h1 h2;cases hb:(Nat.beq la 0||Nat.beq lb 0|| !(Nat.beq a b)) with
   |false=>rw[hb] at hc;cases hc
   |true=>
    rw[hb] at hc;cases hc;refine⟨rfl,rfl,a,oa,la,ca,b,ob,lb,cb,_,_,_,_,_,_,rfl,h1,h2,?_⟩;simp only[Bool.or_eq_true,Bool.not_eq_true'] at hb;rcases hb with(h|h)|h
    .exact .inl (Nat.eq_of_beq_eq_true h)
    .exact .inr (.inl (Nat.eq_of_beq_eq_true h))
    .exact .inr (.inr fun e=>by rw[e,Nat.beq_refl] at h;cases h)
  .cases hc
 .cases hc
end
end Go.AI
namespace Go.AI
variable{i:Nat}{α:Type}
theorem aE(l:List α)(i:Nat)(h:i<l.length:=by omega):∃x,l[i]?=some x:=⟨_,List.getElem?_eq_getElem h⟩
theorem fI{l:List α}(h:i<l.length):l[i]?=some l[i]:=List.getElem?_eq_getElem h
theorem cr{l:List α}{a:α} :l[i]?=some a↔ ∃h:i<l.length,l[i]=a:=List.getElem?_eq_some_iff
theorem dG{l:List α}{a:α}(h:l[i]?=some a):a∈l:=List.mem_of_getElem? h
theorem sv{l:List α}{a:α}(h:a∈l):∃i:Nat,l[i]?=some a:=List.getElem?_of_mem h
theorem fg:type_of% @List.getElem?_set:= @List.getElem?_set
theorem mH:type_of% @Nat.eq_of_beq_eq_true:= @Nat.eq_of_beq_eq_true
theorem dw:type_of% @Nat.le_refl:= @Nat.le_refl
theorem jm:type_of% @Option.some.injEq:= @Option.some.injEq
theorem tS:type_of% @List.getElem?_eq_none:= @List.getElem?_eq_none
theorem ve:type_of% @Nat.eq_zero_or_pos:= @Nat.eq_zero_or_pos
theorem tT:type_of% @List.getElem?_map:= @List.getElem?_map
theorem uh:type_of% @Bool.and_eq_true:= @Bool.and_eq_true
theorem v9:type_of% @List.take_add_one:= @List.take_add_one
theorem JC:type_of% @List.eq_nil_of_length_eq_zero:= @List.eq_nil_of_length_eq_zero
theorem we:type_of% @List.take_length:= @List.take_length
theorem DX:type_of% @Nat.mul_le_mul_right:= @Nat.mul_le_mul_right
theorem Bf:type_of% @List.mem_cons_of_mem:= @List.mem_cons_of_mem
theorem zS:type_of% @List.ext_getElem?:= @List.ext_getElem?
theorem Kx:type_of% @List.mem_or_eq_of_mem_set:= @List.mem_or_eq_of_mem_set
theorem zT:type_of% @List.getElem_mem:= @List.getElem_mem
theorem Ky:type_of% @List.getElem?_append_left:= @List.getElem?_append_left
theorem sD:type_of% @Nat.le_trans:= @Nat.le_trans
theorem Mu:type_of% @List.getElem?_append_right:= @List.getElem?_append_right
theorem tw:type_of% @Nat.add_mul:= @Nat.add_mul
theorem vz:type_of% @Prod.mk.injEq:= @Prod.mk.injEq
theorem AN:type_of% @List.mem_cons_self:= @List.mem_cons_self
theorem DY:type_of% @Option.map_some:= @Option.map_some
theorem Mv:type_of% @Nat.le_of_ble_eq_true:= @Nat.le_of_ble_eq_true
theorem Ix:type_of% @Nat.lt_of_lt_of_le:= @Nat.lt_of_lt_of_le
theorem GJ:type_of% @List.length_append:= @List.length_append
theorem BW:type_of% @Nat.add_assoc:= @Nat.add_assoc
theorem zf:type_of% @Nat.lt_or_ge:= @Nat.lt_or_ge
theorem BX:type_of% @Nat.zero_add:= @Nat.zero_add
theorem XP:type_of% @List.length_filter_le:= @List.length_filter_le
theorem vu:type_of% @List.append_assoc:= @List.append_assoc
theorem BY:type_of% @List.map_cons:= @List.map_cons
theorem UN:type_of% @List.getElem?_replicate:= @List.getElem?_replicate
theorem Nt:type_of% @Bool.false_eq_true:= @Bool.false_eq_true
theorem UO:type_of% @List.drop_eq_nil_of_le:= @List.drop_eq_nil_of_le
theorem YW:type_of% @List.take_of_length_le:= @List.take_of_length_le
theorem gK_:type_of% @List.Nodup.length_le_of_subset:= @List.Nodup.length_le_of_subset
theorem Nu:type_of% @Nat.add_zero:= @Nat.add_zero
theorem FN:type_of% @List.getElem?_take:= @List.getElem?_take
theorem PF:type_of% @List.sum_cons:= @List.sum_cons
theorem om:type_of% @List.not_mem_nil:= @List.not_mem_nil
theorem gP_:type_of% @Int.toNat_natCast:= @Int.toNat_natCast
theorem Nv:type_of% @List.mem_of_mem_take:= @List.mem_of_mem_take
theorem lE:type_of% @List.mem_append:= @List.mem_append
theorem dZ:type_of% @List.mem_map:= @List.mem_map
theorem Ms:type_of% @List.mem_filter:= @List.mem_filter
theorem UP:type_of% @List.length_map:= @List.length_map
theorem Kw:type_of% @List.mem_range:= @List.mem_range
theorem aZ:type_of% @if_pos:= @if_pos
theorem aW:type_of% @if_neg:= @if_neg
@[simp] def t_(n:Nat):Operand:=.tmp n
@[simp] def i_(n:Int):Operand:=.const (.int .i64 n)
@[simp] def o_(d:Nat)(x:ja):aY:=⟨some d,none,x⟩
@[simp] def u_(x:ja):aY:=⟨none,none,x⟩
@[simp] def q_(d c:Nat)(b:Bool)(x:ja):aY:=⟨some d,some (c,b),x⟩
@[simp] def m_(d s:Nat):aY:=⟨some d,none,.mv (.tmp s)⟩
@[simp] def k_(d:Nat)(n:Int):aY:=⟨some d,none,.mv (.const (.int .i64 n))⟩
@[simp] def l_(d a:Nat):aY:=⟨some d,none,.load none (.tmp a)⟩
@[simp] def L_(d n a:Nat):aY:=⟨some d,none,.load (some n) (.tmp a)⟩
@[simp] def f_(d k a:Nat):aY:=⟨some d,none,.cP k (.tmp a)⟩
@[simp] def a_(d k x i:Nat):aY:=⟨some d,none,.dt none k (.tmp x) (.tmp i)⟩
@[simp] def s_(n a v:Nat):aY:=⟨none,none,.store n (.tmp a) (.tmp v)⟩
@[simp] def z_(d x:Nat):aY:=⟨some d,none,.uC (.tmp x)⟩
@[simp] def B_(d:Nat)(op:BinOp)(x y:Nat):aY:=⟨some d,none,.bin op [] (.tmp x) (.tmp y)⟩
@[simp] def C_(d:Nat)(op:BinOp)(x:Nat)(n:Int):aY:=⟨some d,none,.bin op [] (.tmp x) (.const (.int .i64 n))⟩
@[simp] def F_(d f:Nat)(l:List Operand):aY:=⟨some d,none,.call (.func f) l⟩
@[simp] def x_(d x:Nat):aY:=⟨some d,none,.box (.tmp x)⟩
@[simp] def D_(x:aY):aY×List Nat:=(x,[])
@[simp] def G_(l:List aY)(c:aq):aq:=.seq (.ops l) c
@[simp] def O_(l:List aY):aq:=.ops l
@[simp] def V_(l:List (aY×List Nat)):aq:=.draw l
@[simp] def J_(a b:aq):aq:=.seq a b
@[simp] def H_(c n:Nat):aq:=.cond (.tmp c) .skip (.exit n)
@[simp] def I_(c:Nat)(a b:aq):aq:=.cond (.tmp c) a b
@[simp] def P_(n:Nat)(a:aq):aq:=.block n a
@[simp] def Q_(n:Nat)(a:aq):aq:=.block n (.loop a)
@[simp] def b_(b:Bool):Operand:=.const (.bool b)
@[simp] def M_(d:Nat)(b:Bool):aY:=⟨some d,none,.mv (.const (.bool b))⟩
instance:Coe aY (aY×List Nat):=⟨fun x=>(x,[])⟩
@[simp] def N_(c i n x b d:Nat)(X:aq):aq:=.seq (.ops [⟨some c,none,.bin .lss [] (.tmp i) (.tmp n)⟩]) (.seq (.cond (.tmp c) .skip (.exit x)) (.seq (.block b X) (.ops [⟨some d,none,.bin .add [] (.tmp i) (.const (.int .i64 1))⟩,⟨some i,none,.mv (.tmp d)⟩])))
@[simp] def v_(d:Nat)(z:List Value)(n a:Nat):aY:=⟨some d,none,.fH 1 z [(0,(n,(.tmp a)))]⟩
@[simp] def A_(d:Nat)(z:List Value)(n a b:Nat):aY:=⟨some d,none,.append z n false (.tmp a) (.tmp b)⟩
@[simp] def X_(d:Nat)(o:BinOp)(a b:Nat):aY:=⟨some d,none,.bin o [1] (.tmp a) (.tmp b)⟩
@[simp] def Y_(d:Nat)(o:BinOp)(a:Nat)(n:Int):aY:=⟨some d,none,.bin o [1] (.tmp a) (.const (.int .i64 n))⟩
@[simp] def K_(d:Nat)(z:List Value):aY:=⟨some d,none,.alloc z⟩
@[simp] def Z_(d:Nat):aY:=⟨some d,none,.mv (.const (.slice none 0 0))⟩
@[simp] def E_(d i a:Nat):aY:=⟨some d,none,.ext i (.tmp a)⟩
@[simp] def n_(d a:Nat):aY:=⟨some d,none,.uS (.tmp a)⟩
@[simp] def vx:List Value:=[(.bool false),(.int .i64 0)]
@[simp] def HA:List Value:=[(.int .i64 0)]
@[simp] def Jy:List Value:=[(.int .i64 0),(.int .i64 0)]
@[simp] def JJ:List Value:=[(.slice none 0 0),(.slice none 0 0),(.int .i64 0),(.bool false),(.int .i64 0),(.slice none 0 0)]
@[simp] def Td:List Value:=[(.int .i64 0),(.slice none 0 0)]
@[simp] def TL:List Value:=[(.string ⟨⟨[]⟩⟩),(.int .i64 0),(.int .i64 0),(.slice none 0 0)]
@[simp] def XM:List Value:=[(.int .i64 0),(.int .i64 0),(.bool false),(.int .i64 0),(.bool false),(.int .i64 0),(.int .i64 0),(.slice none 0 0)]
@[simp] def w7_:List Value:=[(.bool false),(.bool false),(.bool false)]
@[simp] def w8_:List Value:=[(.slice none 0 0),(.slice none 0 0)]
@[simp] def w9_:List Value:=[(.slice none 0 0)]
@[simp] def XL:List Value:=[(.int .i64 0),(.bool false),(.int .i64 0),(.bool false),(.int .i64 0)]
@[simp] def aau:List Value:=[(.string ⟨⟨[]⟩⟩),(.int .i64 0),(.slice none 0 0)]
@[simp] def aav:List Value:=[(.slice none 0 0),(.slice none 0 0),(.string ⟨⟨[]⟩⟩),(.int .i64 0),(.int .i64 0),(.slice none 0 0),(.slice none 0 0)]
@[simp] def aaw:List Value:=[(.string ⟨⟨[]⟩⟩)]
@[simp] def aax:List Value:=[(.int .i64 0),(.bool false),(.int .i64 0)]
namespace Tr
variable{α:Type}
theorem PG(x:Option α):∀(f:Nat)(t:Tr α)(k j:Nat),k<f->(put f t k x).get j=if j=k then x else t.get j:=by
 intro f;induction f with
 |zero=>intro t k j h;omega
 |succ f ih=>
  intro t k j h;cases t with
  |nil=>
   cases k with
   |zero=>cases j with
    |zero=>simp[put,get]
    |succ j=>simp[put,get]
   |succ k=>
    have hk:k/2<f:=by omega
    cases j with
    |zero=>
     have:¬(0=k+1):=by omega
     unfold put;dsimp only;cases hb:Nat.beq (k%2) 0<;>simp[get]
    |succ j=>
     unfold put;dsimp only;cases hb:Nat.beq (k%2) 0<;>cases hj:Nat.beq (j%2) 0<;>simp only[get,hj,cond_true,cond_false,ih _ _ _ hk]
     .have h1:k%2≠0:=by intro h;rw[h] at hb;cases hb
      have h2:j%2≠0:=by intro h;rw[h] at hj;cases hj
      by_cases e:j=k
      .subst e;simp
      .have:j/2≠k/2:=by omega
       simp[e,this]
     .have h1:k%2≠0:=by intro h;rw[h] at hb;cases hb
      have h2:=mH hj;have:j≠k:=by rintro rfl;omega
      simp[this]
     .have h1:=mH hb;have h2:j%2≠0:=by intro h;rw[h] at hj;cases hj
      have:j≠k:=by rintro rfl;omega
      simp[this]
     .have h1:=mH hb;have h2:=mH hj;by_cases e:j=k
      .subst e;simp
      .have:j/2≠k/2:=by omega
       simp[e,this]
  |node v l r=>
   cases k with
   |zero=>cases j with
    |zero=>simp[put,get]
    |succ j=>simp[put,get]
   |succ k=>
    have hk:k/2<f:=by omega
    cases j with
    |zero=>
     unfold put;dsimp only;cases hb:Nat.beq (k%2) 0<;>simp[get]
    |succ j=>
     unfold put;dsimp only;cases hb:Nat.beq (k%2) 0<;>cases hj:Nat.beq (j%2) 0<;>simp only[get,hj,cond_true,cond_false,ih _ _ _ hk]
     .have h1:k%2≠0:=by intro h;rw[h] at hb;cases hb
      have h2:j%2≠0:=by intro h;rw[h] at hj;cases hj
      by_cases e:j=k
      .subst e;simp
      .have:j/2≠k/2:=by omega
       simp[e,this]
     .have h1:k%2≠0:=by intro h;rw[h] at hb;cases hb
      have h2:=mH hj;have:j≠k:=by rintro rfl;omega
      simp[this]
     .have h1:=mH hb;have h2:j%2≠0:=by intro h;rw[h] at hj;cases hj
      have:j≠k:=by rintro rfl;omega
      simp[this]
     .have h1:=mH hb;have h2:=mH hj;by_cases e:j=k
      .subst e;simp
      .have:j/2≠k/2:=by omega
       simp[e,this]
theorem az(t:Tr α)(k j:Nat)(x:α):(t.set k x).get j=if j=k then some x else t.get j:=PG (some x) _ t k j (by omega)
theorem kA(t:Tr α)(k j:Nat):(t.del k).get j=if j=k then none else t.get j:=PG none _ t k j (by omega)
end Tr
theorem Env.az(e:Env)(k j:Nat)(v:Value):ak (Tr.set e k v) j=if j=k then v else ak e j:=by unfold ak;rw[Tr.az];split<;>rfl
inductive All2{α β:Type}(R:α->β->Prop):List α->List β->Prop
 |nil:All2 R [] []
 |cons {a b as' bs} (h:R a b) (hs:All2 R as' bs):All2 R (a::as') (b::bs)
namespace All2
variable{α β:Type}{R S:α->β->Prop}
theorem length{l:List α}{m:List β}(h:All2 R l m):l.length=m.length:=by
 induction h with
 |nil=>rfl
 |cons _ _ ih=>simp[ih]
theorem mono{l:List α}{m:List β}(hm:∀a b,R a b->S a b)(h:All2 R l m):All2 S l m:=by
 induction h with
 |nil=>exact .nil
 |cons h _ ih=>exact .cons (hm _ _ h) ih
theorem app{l l':List α}{m m':List β}(h:All2 R l m)(h':All2 R l' m'):All2 R (l++l') (m++m'):=by
 induction h with
 |nil=>exact h'
 |cons h _ ih=>exact .cons h ih
theorem take{l:List α}{m:List β}(h:All2 R l m):∀n,All2 R (l.take n) (m.take n):=by
 induction h with
 |nil=>intro n;simpa using .nil
 |cons h _ ih=>intro n;cases n with
  |zero=>simpa using .nil
  |succ n=>simpa using .cons h (ih n)
theorem drop{l:List α}{m:List β}(h:All2 R l m):∀n,All2 R (l.drop n) (m.drop n):=by
 induction h with
 |nil=>intro n;simpa using .nil
 |cons h hs ih=>intro n;cases n with
  |zero=>simpa using .cons h hs
  |succ n=>simpa using ih n
theorem get{l:List α}{m:List β}(h:All2 R l m):∀ {i:Nat} {a:α},l[i]?=some a->∃b,m[i]?=some b/\R a b:=by
 induction h with
 |nil=>intro i a h;simp at h
 |cons h _ ih=>
  intro i a hi;cases i with
  |zero=>simp at hi;subst hi;exact⟨_,rfl,h⟩
  |succ i=>simp at hi;simpa using ih hi
theorem aeh{l:List α} :∀ {m:List β},l.length=m.length->(∀(i:Nat)(a:α)(b:β),l[i]?=some a->m[i]?=some b->R a b)->All2 R l m:=by
 induction l with
 |nil=>intro m h _;cases m with
  |nil=>exact .nil
  |cons=>simp at h
 |cons a l ih=>intro m h hg;cases m with
  |nil=>simp at h
  |cons b m=>exact .cons (hg 0 a b rfl rfl) (ih (by simpa using h) fun i x y hx hy=>hg (i+1) x y (by simpa using hx) (by simpa using hy))
end All2
structure vy where
 aC:Nat
 base:Nat
 len:Nat
 ED:Nat
 room:Nat
abbrev dE:=Nat->Option vy
def r7(r:vy)(o len cap:Nat)(ca:Addr)(ccap:Nat):Prop:=
 (ca=⟨r.aC,r.base+o,none⟩\/(ccap=0/\cap=0))/\(ccap=cap\/(r.ED≠0/\cap<=ccap/\o+cap*r.ED=r.len/\o+ccap*r.ED<=r.room))/\len<=cap
inductive CR(ρ:dE):Value->Value->Prop
 |bool (b:Bool):CR ρ (.bool b) (.bool b)
 |int (k:IntKind) (n:Int):CR ρ (.int k n) (.int k n)
 |str (s:ByteArray):CR ρ (.string s) (.string s)
 |Eu:CR ρ (.pointer none) (.pointer none)
 |ptr {b o:Nat} {r:vy} (h:ρ b=some r):CR ρ (.pointer (some ⟨b,o,none⟩)) (.pointer (some ⟨r.aC,r.base+o,none⟩))
 |oz (n c:Nat):CR ρ (.slice none n c) (.slice none n c)
 |slice {b o len cap ccap:Nat} {ca:Addr} {r:vy} (h:ρ b=some r) (hs:r7 r o len cap ca ccap):CR ρ (.slice (some ⟨b,o,none⟩) len cap) (.slice (some ca) len ccap)
 |yX:CR ρ (.map none) (.map none)
 |map {m:Nat} {r:vy} (h:ρ m=some r):CR ρ (.map (some m)) (.map (some r.aC))
 |Av:CR ρ .nilFunc .nilFunc
 |wC:CR ρ .nilIface .nilIface
inductive KR(ρ:dE):Value->Value->Prop
 |cell {v c:Value} (h:CR ρ v c):KR ρ v c
 |fn (f:FuncId) {l m:List Value} (h:All2 (CR ρ) l m):KR ρ (.func (.func f) #[] ⟨l⟩) (.func (.func f) #[] ⟨m⟩)
 |yield {l:Nat} {r:vy} (h:ρ l=some r):KR ρ (.func (.yield l) #[] #[]) (.func (.yield r.aC) #[] #[])
inductive AR(ρ:dE):Value->Value->Prop
 |cell {v c:Value} (h:KR ρ v c):AR ρ v c
 |agg {l m:List Value} (h:All2 (KR ρ) l m):AR ρ (.agg ⟨l⟩) (.agg ⟨m⟩)
inductive VR(ρ:dE):Value->Value->Prop
 |val {v c:Value} (h:AR ρ v c):VR ρ v c
 |tuple {l m:List Value} (h:All2 (AR ρ) l m):VR ρ (.tuple ⟨l⟩) (.tuple ⟨m⟩)
 |atl {n m:Nat} (h:n<=m):VR ρ (.chan (some n)) (.int .i64 m)
 |any {c:Value} (h:∀b,c≠ .bool b):VR ρ (.chan none) c
def dE.le(ρ ρ':dE):Prop:=∀b r,ρ b=some r->ρ' b=some r
theorem dE.le_refl(ρ:dE):ρ.le ρ:=fun _ _ h=>h
theorem dE.le_trans{a b c:dE}(h:a.le b)(h':b.le c):a.le c:=fun _ _ x=>h' _ _ (h _ _ x)
section
variable{ρ ρ':dE}{v c:Value}
theorem CR.mono(hl:ρ.le ρ')(h:CR ρ v c):CR ρ' v c:=by
 cases h with
 |bool b=>exact .bool b
 |int k n=>exact .int k n
 |str s=>exact .str s
 |Eu=>exact .Eu
 |ptr h=>exact .ptr (hl _ _ h)
 |oz n c=>exact .oz n c
 |slice h hs=>exact .slice (hl _ _ h) hs
 |yX=>exact .yX
 |map h=>exact .map (hl _ _ h)
 |Av=>exact .Av
 |wC=>exact .wC
theorem KR.mono(hl:ρ.le ρ')(h:KR ρ v c):KR ρ' v c:=by
 cases h with
 |cell h=>exact .cell (h.mono hl)
 |fn f h=>exact .fn f (h.mono fun _ _=>CR.mono hl)
 |yield h=>exact .yield (hl _ _ h)
theorem AR.mono(hl:ρ.le ρ')(h:AR ρ v c):AR ρ' v c:=by
 cases h with
 |cell h=>exact .cell (h.mono hl)
 |agg h=>exact .agg (h.mono fun _ _=>KR.mono hl)
theorem VR.mono(hl:ρ.le ρ')(h:VR ρ v c):VR ρ' v c:=by
 cases h with
 |val h=>exact .val (h.mono hl)
 |tuple h=>exact .tuple (h.mono fun _ _=>AR.mono hl)
 |atl h=>exact .atl h
 |any h=>exact .any h
theorem CR.vr(h:CR ρ v c):VR ρ v c:=.val (.cell (.cell h))
theorem KR.vr(h:KR ρ v c):VR ρ v c:=.val (.cell h)
theorem VR.undef:VR ρ (.tuple #[]) (.tuple #[]):=.tuple .nil
theorem VR.bool(b:Bool):VR ρ (.bool b) (.bool b):=(CR.bool b).vr
theorem VR.int(k:IntKind)(n:Int):VR ρ (.int k n) (.int k n):=(CR.int k n).vr
theorem KR.plain(h:KR ρ v c):AI.plain v=true/\AI.plain c=true:=by
 cases h with
 |cell h=>cases h<;>exact⟨rfl,rfl⟩
 |fn=>exact⟨rfl,rfl⟩
 |yield=>exact⟨rfl,rfl⟩
theorem CR.xd(h:VR ρ v c)(hs:simple v=true):CR ρ v c:=by
 cases h with
 |tuple=>simp[simple] at hs
 |atl=>simp[simple] at hs
 |any=>simp[simple] at hs
 |val h=>cases h with
  |agg=>simp[simple] at hs
  |cell h=>cases h with
   |cell h=>exact h
   |fn=>simp[simple] at hs
   |yield=>simp[simple] at hs
theorem KR.Wn(h:VR ρ v c)(hs:AI.plain v=true):KR ρ v c:=by
 cases h with
 |tuple=>simp[AI.plain] at hs
 |atl=>simp[AI.plain] at hs
 |any=>simp[AI.plain] at hs
 |val h=>cases h with
  |agg=>simp[AI.plain] at hs
  |cell h=>exact h
theorem J8(h:KR ρ v c):cellsOf v=[v]/\c.cells= #[c]:=by
 have:=h.plain;constructor
 .cases v<;>first|rfl|(simp[AI.plain] at this)
 .cases c<;>first|rfl|(simp[AI.plain] at this)
theorem DR{vs:List Value}(h:VR ρ v c)(hf:flat v=some vs):All2 (KR ρ) vs c.cells.toList:=by
 unfold flat at hf;cases hp:(cellsOf v).all AI.plain with
 |false=>simp[hp] at hf
 |true=>
  simp[hp] at hf;subst hf;cases h with
  |tuple=>simp[cellsOf,AI.plain] at hp
  |atl=>simp[cellsOf,AI.plain] at hp
  |any=>simp[cellsOf,AI.plain] at hp
  |val h=>cases h with
   |agg h=>simpa [cellsOf,Value.cells] using h
   |cell h=>
    obtain⟨h1,h2⟩:=J8 h;rw[h1,h2];exact .cons h .nil
end
def o9.rw:o9->Bool
 |.aC _ ro _ _=> !ro
 |_=>true
def dh(h:ae)(b:Nat):Prop:=∃o,h.tr.get b=some o/\o.rw=true
end Go.AI
namespace Go.AI
variable{c c' p q v v':Value}{ca:Addr}{ces:List MapEntry}{cp i id kt len n off:Nat}{el t:TypeId}{ep l m vs:List Value}{es:List (Value×Value)}{f:Field}{fs:Array Field}{hi lo mx:Option Operand}{ks:List Nat}{o:Oper}{op:BinOp}{ops:Array Oper}{pM vr:Bool}{ps rs:Array TypeId}{w':World}{x y z:Operand}{α β:Type}
def on(b:Frame)(a:Act)(todo:List Item):Frame:= {b with tmps:=a.tmps,todo:=todo,defers:=a.defers,mode:=.run}
theorem Qg(b:Frame)(a:Act)(todo:List Item):(on b a todo).eval=a.eval:=by funext x;cases x<;>rfl
section
variable{P:Program}{b:Frame}{a:Act}{k:List Item}{cs:List Frame}{w:World}
theorem Xo:step P (lone (on b a (.code .skip::k)) cs w)=.next (lone (on b a k) cs w):=
 step_lone_go (by simp[stepG,stepG.exec,on])
theorem aai{l:Nat} :step P (lone (on b a (.code (.label l)::k)) cs w)=.next (lone (on b a k) cs w):=
 step_lone_go (by simp[stepG,stepG.exec,on])
theorem Ht :step P (lone (on b a (.inBlock id::k)) cs w)=.next (lone (on b a k) cs w):=
 step_lone_go (by simp[stepG,stepG.exec,on])
theorem SQ{c:Code} :step P (lone (on b a (.inScope c::k)) cs w)=.next (lone (on b a k) cs w):=
 step_lone_go (by simp[stepG,stepG.exec,on])
theorem Jl{c:Code} :step P (lone (on b a (.code (.scope c)::k)) cs w)=.next (lone (on b a (.code c:: .inScope c::k)) cs w):=
 step_lone_go (by simp[stepG,stepG.exec,on])
theorem yo{x y:Code} :step P (lone (on b a (.code (.seq x y)::k)) cs w)=.next (lone (on b a (.code x:: .code y::k)) cs w):=
 step_lone_go (by simp[stepG,stepG.exec,on])
theorem Jj{c:Operand}{x y:Code}{t:Bool}(h:a.eval c=.bool t):
  step P (lone (on b a (.code (.cond c x y)::k)) cs w)=.next (lone (on b a (.code (if t then x else y)::k)) cs w):=
 step_lone_go (by have:=Qg b a (.code (.cond c x y)::k);simp only[on] at this;simp[stepG,stepG.exec,on,this,h])
theorem uZ{c:Code} :step P (lone (on b a (.code (.block id c)::k)) cs w)=.next (lone (on b a (.code c:: .inBlock id::k)) cs w):=
 step_lone_go (by simp[stepG,stepG.exec,on])
theorem Bz{c:Code} :step P (lone (on b a (.code (.loop c)::k)) cs w)=.next (lone (on b a (.code c:: .inLoop c::k)) cs w):=
 step_lone_go (by simp[stepG,stepG.exec,on])
theorem LS{c:Code} :step P (lone (on b a (.inLoop c::k)) cs w)=.next (lone (on b a (.code c:: .inLoop c::k)) cs w):=
 step_lone_go (by simp[stepG,stepG.exec,on])
theorem Xn{k':List Item}(h:exitTo id k=some k'):
  step P (lone (on b a (.code (.exit id)::k)) cs w)=.next (lone (on b a k') cs w):=
 step_lone_go (by simp[stepG,stepG.exec,on,h])
theorem rI{id:Nat}{ops:Array Oper} :
  step P (lone (on b a (.code (.region id ops false)::k)) cs w)=.next (lone (on b a (.inRegion ops (List.range ops.size)::k)) cs w):=
 step_lone_go (by simp[stepG,stepG.exec,on])
theorem aeX{id:Nat}{ops:Array Oper} :
  step P (lone (on b a (.code (.region id ops true)::k)) cs w)=
   .next (lone (on b a (.inRegion ops (Region.schedule (P.follows .mixedOrders) ops (w.tape w.drawn (.order b.fn id)))::k)) cs {w with drawn:=w.drawn+1}):=
 step_lone_go (by simp[stepG,stepG.exec,on,choose,Sem.run,Question.forced,Question.cut])
theorem gf :step P (lone (on b a (.inRegion ops []::k)) cs w)=.next (lone (on b a k) cs w):=
 step_lone_go (by simp[stepG,stepG.exec,on])
theorem wT(b:Frame)(a:Act)(ops:Array Oper)(i:Nat)(bg:List Nat)(k:List Item)(v:Value):
  (on b a (.inRegion ops (i::bg)::k)).finish v=on b (a.put ((ops[i]?).bind (·.dst)) v) (.inRegion ops bg::k):=by
 cases h:(ops[i]?).bind (·.dst)<;>simp[Frame.finish,on,Act.put,h]
theorem Hu{bg:List Nat}(h:((ops[i]?).map (Region.wanted · (yielded ops a.tmps))).getD false=false):
  step P (lone (on b a (.inRegion ops (i::bg)::k)) cs w)=
   .next (lone (on b (a.put ((ops[i]?).bind (·.dst)) undef) (.inRegion ops bg::k)) cs w):=by
 rw[<-wT];exact step_lone_go (by have h':=h;simp only[on] at*;simp[stepG,stepG.exec,h'])
def Op.pQ:Op->Bool
 |.defer _=>true
 |_=>false
theorem AG{bg:List Nat}(ho:ops[i]?=some o)(hw:Region.wanted o (yielded ops a.tmps)=true)(hd:Op.pQ o.op=false):
  stepG P true { frame:=on b a (.inRegion ops (i::bg)::k),callers:=cs,status:=.running,dying:=none } w=
   stepG.apply P true (on b a (.inRegion ops (i::bg)::k)) cs none (execOp a.eval o) w:=by
 have he:=Qg b a (.inRegion ops (i::bg)::k);simp only[on] at he;simp only[stepG,stepG.exec,stepG.oper,Frame.oper?,on,ho,hw,he,DY,Option.getD_some,if_true];split
 .next heq=>rw[heq] at hd;simp[Op.pQ] at hd
 .rfl
theorem Dd{bg:List Nat}(ho:ops[i]?=some o)(hw:Region.wanted o (yielded ops a.tmps)=true)(hd:Op.pQ o.op=false)(hr:(execOp a.eval o).run P w=.ok (.value v) w'):
  step P (lone (on b a (.inRegion ops (i::bg)::k)) cs w)=.next (lone (on b (a.put o.dst v) (.inRegion ops bg::k)) cs w'):=by
 refine step_lone_go ?_;have hf:=wT b a ops i bg k v;rw[ho] at hf;rw[AG ho hw hd];simp only[Option.bind_some] at hf;rw[<-hf];simp[stepG.apply,hr]
theorem Qt{bg:List Nat}(ho:ops[i]?=some o)(hw:Region.wanted o (yielded ops a.tmps)=true)(hd:Op.pQ o.op=false)(hr:(execOp a.eval o).run P w=.ok .skip w'):
  step P (lone (on b a (.inRegion ops (i::bg)::k)) cs w)=.next (lone (on b (a.put o.dst undef) (.inRegion ops bg::k)) cs w'):=by
 refine step_lone_go ?_;have hf:=wT b a ops i bg k undef;rw[ho] at hf;rw[AG ho hw hd];simp only[Option.bind_some] at hf;rw[<-hf];simp[stepG.apply,hr]
theorem aah{bg:List Nat}{f:FuncId}{args:Array Value}(ho:ops[i]?=some o)(hw:Region.wanted o (yielded ops a.tmps)=true)(hd:Op.pQ o.op=false)(hr:(execOp a.eval o).run P w=.ok (.enter f args) w'):
  step P (lone (on b a (.inRegion ops (i::bg)::k)) cs w)=
   .next (lone (Frame.enter P f args .normal) (on b a (.inRegion ops (i::bg)::k)::cs) w'):=by
 refine step_lone_go ?_;rw[AG ho hw hd];simp[stepG.apply,hr,on]
theorem aaj{bg:List Nat}{l f:Nat}{tmps:Array Value}{asg body:Code}(ho:ops[i]?=some o)(hw:Region.wanted o (yielded ops a.tmps)=true)(hd:Op.pQ o.op=false)(hr:(execOp a.eval o).run P w=.ok (.round l f tmps asg body) w'):
  step P (lone (on b a (.inRegion ops (i::bg)::k)) cs w)=
   .next (lone (Frame.round l f tmps asg body .normal) (on b a (.inRegion ops (i::bg)::k)::cs) w'):=by
 refine step_lone_go ?_;rw[AG ho hw hd];simp[stepG.apply,hr]
end
def cg:Value->Bool
 |.bool _|.int _ _|.string _|.pointer none|.slice none _ _|.map none|.nilFunc|.nilIface=>true
 |_=>false
structure TI where
 u:TypeDesc
 size:Nat
 bytes:Nat
 zero:List Value
 agg:Bool
abbrev oR:=Nat->Option TI
def mg:TypeDesc->Bool
 |.struct _=>true
 |.array _ _=>true
 |_=>false
structure tm(P:Program)(t:Nat)(i:TI):Prop where
 u:P.underlying t=some i.u
 info:∃ti,P.info? t=some ti/\ti.size=i.size/\ti.bytes=i.bytes/\∃z,ti.zero=some z/\z.cells.toList=i.zero
 agg:i.agg=mg i.u
 zero:i.zero.all cg=true
 plain:i.agg=false->i.size=1
 len:i.zero.length=i.size
 held:∀fs,i.u=.struct fs->P.stoodInHeld t=false
 one:i.agg=false->∀ti z,P.info? t=some ti->ti.zero=some z->AI.plain z=true
def cu(P:Program)(T:oR):Prop:=∀t i,T t=some i->tm P t i
def mU(T:oR):Nat->List Field->Option Nat
 |off,[]=>some off
 |off,f::fs=>bif Nat.beq f.offset off then match T f.type with
   |some i=>mU T (off+i.size) fs
   |none=>none
  else none
def mi(k:Nat->Option (List Nat)):List Field->Option (List Nat)
 |[]=>some []
 |f::fs=>bif f.name != "_" then match k f.type,mi k fs with
   |some a,some b=>some (a++b)
   |_,_=>none
  else none
def OE(ks:List Nat):Nat->List Nat
 |0=>[]
 |n+1=>ks++OE ks n
def kinds(T:oR):Nat->Nat->Option (List Nat)
 |0,_=>none
 |d+1,t=>match T t with
  |none=>none
  |some i=>match i.u with
   |.bool=>some [0]
   |.int _=>some [1]
   |.string=>some [2]
   |.struct fs=>match mU T 0 fs.toList with
    |some n=>bif Nat.beq n i.size then mi (kinds T d) fs.toList else none
    |none=>none
   |.array n el=>match T el with
    |some e=>bif Nat.beq (n*e.size) i.size then(match kinds T d el with|some ks=>some (OE ks n)|none=>none) else none
    |none=>none
   |_=>none
section
variable(T:oR)
def xu(i:TI):Option Nat:=bif i.agg then some i.size else none
def wS(c:Call):ja:=
 match c.callee with
 |.value f=>.call f c.args.toList
 |.builtin .len=>match c.args.toList,c.argTypes.toList with
  |[x],[t]=>match T t with
   |some i=>match i.u with|.slice _=>.uC x|.string=>.Jt x|_=>.bad
   |none=>.bad
  |_,_=>.bad
 |.builtin .append=>match c.args.toList,c.argTypes.toList with
  |[s,x],[t,t']=>match T t,T t' with
   |some i,some i'=>match i.u with
    |.slice el=>match T el with
     |some e=>match i'.u with
      |.int _=>.append e.zero e.bytes true s x
      |.slice _=>.append e.zero e.bytes false s x
      |_=>.bad
     |none=>.bad
    |_=>.bad
   |_,_=>.bad
  |_,_=>.bad
 |.builtin .copy=>match c.args.toList,c.argTypes.toList with
  |[d,s],[t,_]=>match T t with
   |some i=>match i.u with
    |.slice el=>match T el with
     |some e=>.copy e.size d s
     |none=>.bad
    |_=>.bad
   |none=>.bad
  |_,_=>.bad
 |.builtin .clear=>match c.args.toList,c.argTypes.toList with
  |[x],[t]=>match T t with
   |some i=>match i.u with
    |.slice el=>match T el with
     |some e=>.clear e.zero x
     |none=>.bad
    |_=>.bad
   |none=>.bad
  |_,_=>.bad
 |.builtin .cap=>match c.args.toList,c.argTypes.toList with
  |[x],[t]=>match T t with
   |some i=>match i.u with|.slice _=>.MU x|_=>.bad
   |none=>.bad
  |_,_=>.bad
 |.builtin .min=>match c.args.toList with
  |[x,y]=>.MV x y
  |_=>.bad
 |_=>.bad
def uW(fs:List Field):List (Nat×Operand)->Option (List (Nat×Nat×Operand))
 |[]=>some []
 |(i,x)::r=>match fs[i]? with
  |none=>none
  |some f=>match T f.type,uW fs r with
   |some ti,some l=>some ((f.offset,ti.size,x)::l)
   |_,_=>none
def ck(o:Op):ja:=
 match o with
 |.move x=>.mv x
 |.assign x=>.mv x
 |.pick c a b=>.pick c a b
 |.alloc t=>match T t with|some i=>.alloc i.zero|none=>.bad
 |.box t x=>match T t with|some _=>.box x|none=>.bad
 |.build t ps=>match T t with
  |some i=>match i.u with
   |.struct fs=>bif fs.toList.all fun f=>(T f.type).isSome then match uW T fs.toList ps.toList with|some l=>.build i.zero l|none=>.bad else .bad
   |.array _ el=>match T el with
    |some e=>.build i.zero (ps.toList.map fun p=>(p.1*e.size,e.size,p.2))
    |none=>.bad
   |_=>.bad
  |none=>.bad
 |.buildSlice t n ps=>match T t with
  |some i=>match i.u with
   |.slice el=>match T el with
    |some e=>bif Nat.ble (n*e.size) 1000000&&Nat.beq e.zero.length e.size then .fH n (jP e.zero n) (ps.toList.map fun p=>(p.1*e.size,e.size,p.2)) else .bad
    |none=>.bad
   |_=>.bad
  |none=>.bad
 |.load t a=>match T t with|some i=>.load (xu i) a|none=>.bad
 |.store t a v=>match T t with|some i=>.store i.size a v|none=>.bad
 |.nilCheck x=>.uS x
 |.binOp op t x y _=>match op with
  |.eql|.neq=>match T t with
   |some i=>match i.u with
    |.slice _=>.bin op [3] x y
    |.pointer _=>.bin op [4] x y
    |.map _ _=>.bin op [5] x y
    |.func _ _ _=>.bin op [6] x y
    |.struct _=>match kinds T 9 t with|some ks=>.bin op (9::ks) x y|none=>.bad
    |.array _ _=>match kinds T 9 t with|some ks=>.bin op (9::ks) x y|none=>.bad
    |.bool=>.bin op [0] x y
    |.int _=>.bin op [1] x y
    |.string=>.bin op [2] x y
    |_=>.bad
   |none=>.bad
  |_=>.bin op [] x y
 |.unOp op _ x=>.un op x
 |.convert s d x=>match T s,T d with
  |some i,some j=>match i.u,j.u with
   |.int _,.int k=>.conv k x
   |_,_=>.bad
  |_,_=>.bad
 |.makeFunc (.func f) first caps=>bif first.isEmpty then .uM f caps.toList else .bad
 |.makeMap _ none=>.En
 |.makeSlice t l c=>match T t with
  |some i=>match i.u with
   |.slice el=>match T el with
    |some e=>.ik e.zero e.bytes l c
    |none=>.bad
   |_=>.bad
  |none=>.bad
 |.slice t x lo hi mx=>match T t with
  |some i=>match i.u with
   |.slice el=>match T el with
    |some e=>bif mx.isSome&&hi.isNone then .bad else .slice e.size x lo hi mx
    |none=>.bad
   |_=>.bad
  |none=>.bad
 |.fieldAddr t x k=>match T t with
  |some i=>match i.u with
   |.struct fs=>match fs[k]? with
    |some f=>match T f.type with
     |some fi=>bif Nat.beq fi.size 0 then .bad else .cP f.offset x
     |none=>.bad
    |none=>.bad
   |_=>.bad
  |none=>.bad
 |.indexAddr t x ix=>match T t with
  |some i=>match i.u with
   |.slice el=>match T el with|some e=>.dt none e.size x ix|none=>.bad
   |.array n el=>match T el with|some e=>.dt (some n) e.size x ix|none=>.bad
   |_=>.bad
  |none=>.bad
 |.field t x k=>match T t with
  |some i=>match i.u with
   |.struct fs=>match fs[k]? with
    |some f=>match T f.type with
     |some fi=>.field f.offset (xu fi) x
     |none=>.bad
    |none=>.bad
   |_=>.bad
  |none=>.bad
 |.index t x ix=>match T t with
  |some i=>match i.u with
   |.string=>.index none x ix
   |.array n el=>match T el with
    |some e=>.index (some (n,e.size,xu e)) x ix
    |none=>.bad
   |_=>.bad
  |none=>.bad
 |.extract x i=>.ext i x
 |.lookup t x ix ok=>match T t with
  |some i=>match i.u with
   |.map k el=>match T k,T el with
    |some ki,some ei=>match ki.u,ei.zero,ei.agg with
     |.struct _,[z],false=>match kinds T 9 k with|some ks=>.look (9::ks) z ok x ix|none=>.bad
     |.array _ _,[z],false=>match kinds T 9 k with|some ks=>.look (9::ks) z ok x ix|none=>.bad
     |_,_,_=>.bad
    |_,_=>.bad
   |_=>.bad
  |none=>.bad
 |.mapUpdate t m k x=>match T t with
  |some i=>match i.u with
   |.map kt _=>match T kt with
    |some ki=>match ki.u with
     |.struct _=>match kinds T 9 kt with|some ks=>.Eo (9::ks) m k x|none=>.bad
     |.array _ _=>match kinds T 9 kt with|some ks=>.Eo (9::ks) m k x|none=>.bad
     |_=>.bad
    |none=>.bad
   |_=>.bad
  |none=>.bad
 |.call c=>wS T c
 |_=>.bad
def Ib:Value->Bool
 |.agg cs=>cs.toList.all cg
 |.tuple cs=>cs.toList.isEmpty
 |v=>cg v
def bp(ng:Nat):Operand->Bool
 |.const v=>Ib v
 |.global g=>Nat.blt g ng
 |_=>true
def BB(ops:List Oper)(j:Nat):Option Nat:=match ops[j]? with|some o=>o.dst|none=>none
def tB(ng n:Nat)(ops:List Oper)(o:Oper):Bool:=
 (match o.dst with|none=>true|some d=>Nat.blt d n)&&(match o.guard with|none=>true|some (j,_)=>(BB ops j).isSome)&&o.op.operands.toList.all (bp ng)
def guardOf(ops:List Oper)(o:Oper):Option (Nat×Bool):=match o.guard with|none=>none|some (j,b)=>some ((BB ops j).getD 0,b)
def aM(ng n:Nat)(ops:List Oper)(o:Oper):aY:=
 bif tB ng n ops o then { dst:=o.dst,guard:=guardOf ops o,op:=ck T o.op } else { dst:=none,guard:=none,op:=.bad }
def IT(t:Nat):Bool:=match T t with|some i=>(match i.u with|.map _ _=>true|_=>false)|none=>false
def JR:List Nat->Bool
 |[]=>true
 |x::r=>r.all (fun y=> !(Nat.beq x y))&&JR r
def P9(ng n:Nat)(a b:Code):Option aq:=
 match a,b with
 |.region _ Bu false,.block bid (.loop (.seq (.region _ gm false) (.seq (.cond (.tmp u) .skip (.exit acd)) (.block _ (.seq (.region _ gZ false) (.region _ g_ false))))))=>
  match Bu.toList,gm.toList,gZ.toList with
  |[o1,o2],[o3,o4],p1::r3=>
   match o2.dst,o2.op,o2.guard with
   |some tH,.range mt (.tmp zb),none=>
    match o3.dst,o3.op,o3.guard with
    |some t,.next (.tmp x23) false,none=>
     match p1.dst,p1.op,p1.guard with
     |some s26,.entry (.tmp y23),none=>
      match aM T ng n Bu.toList o1,aM T ng n gm.toList o4,r3.map (aM T ng n gZ.toList),g_.toList.map (aM T ng n g_.toList) with
      |⟨some x22,none,.mv src⟩,⟨some u',none,.ext 0 (.tmp t')⟩,
       [⟨some s27,none,.ext 0 (.tmp e1)⟩,⟨some s28,none,.ext 1 (.tmp e2)⟩,⟨some s7,none,.alloc z⟩,⟨none,none,.store sz (.tmp x7) (.tmp x27)⟩,⟨some s8,none,.mv (.tmp x28)⟩],
       [⟨some s29,none,.mv (.tmp d)⟩,⟨some s30,none,.load (some sz') (.tmp y7)⟩,⟨some s31,none,.mv (.tmp x8)⟩,⟨none,none,.Eo (9::ks) (.tmp x29) (.tmp x30) (.tmp x31)⟩]=>
       bif ([(bid,acd),(zb,x22),(tH,x23),(tH,y23),(t,t'),(u,u'),(s26,e1),(s26,e2),(s7,x7),(s7,y7),(s27,x27),(s28,x28),(s8,x8),(s29,x29),(s30,x30),(s31,x31),(sz,sz'),(sz,z.length),(sz,ks.length)].all fun p=>Nat.beq p.1 p.2)&&
        IT T mt&&Nat.blt tH n&&Nat.blt t n&&Nat.blt s26 n&&JR [d,zb,tH,t,u,s26,s27,s28,s7,s8,s29,s30,s31]
       then some (.mcp src d (9::ks) [zb,tH] [s26,s27,s28,s7,s8,s29,s30,s31] t u) else none
      |_,_,_,_=>none
     |_,_,_=>none
    |_,_,_=>none
   |_,_,_=>none
  |_,_,_=>none
 |_,_=>none
def iW:Code->Bool
 |.seq a b=>iW a&&iW b
 |.cond _ a b=>iW a&&iW b
 |.block _ c=>iW c
 |.loop c=>iW c
 |.scope c=>iW c
 |.rangeFunc _ _ _ _=>false
 |_=>true
def bX(ng n:Nat)(dr:Nat->List Oper->List (aY×List Nat)):Code->aq
 |.skip=>.skip
 |.region _ ops false=>.ops (ops.toList.map (aM T ng n ops.toList))
 |.region _ ops true=>.draw (dr n ops.toList)
 |.seq a b=>match P9 T ng n a b with
  |some c=>c
  |none=>.seq (bX ng n dr a) (bX ng n dr b)
 |.cond c a b=>bif bp ng c then .cond c (bX ng n dr a) (bX ng n dr b) else .bad
 |.block id c=>.block id (bX ng n dr c)
 |.loop c=>.loop (bX ng n dr c)
 |.scope c=>bX ng n dr c
 |.label _=>.skip
 |.rangeFunc f ps a b=>bif bp ng f&&ps.toList.all (Nat.blt · n)&&iW a&&iW b then .Qr f ps.toList (bX ng n dr a) (bX ng n dr b) else .bad
 |.exit id=>.exit id
 |.ret=>.ret
 |_=>.bad
end
def ER(ρ:dE)(e:Env)(tmps:Array Value):Prop:=∀t,VR ρ (ak e t) (tmps.getD t undef)
def HE:Th->Loop->Prop
 |.ready,L=>L.state=.ready/\L.pending=none
 |.busy,L=>L.state=.busy
 |.done none,L=>L.state=.done/\L.pending=some .ret
 |.done (some id),L=>L.state=.done/\L.pending=some (.exit id)
def TN(ρ:dE)(r:vy)(cs:List Value)(ro:Bool)(o:Nat)(w:World):Prop:=
 ∃(ep:Array Value) (el:TypeId) (fr:Nat×Nat),w.heap[r.aC]?=some (.cells ep el fr)/\r.len=cs.length/\r.ED=o/\(r.base+r.room=ep.size/\(o≠0->∀(j:Nat)(c:Value),r.len<=j->ep[r.base+j]?=some c->cg c=true))/\
  (ro=false->fr=(0,0))/\∀(j:Nat)(v:Value),cs[j]?=some v->∃c,ep[r.base+j]?=some c/\KR ρ v c
abbrev bK:=Nat->aq->Code->Prop
def TV(CC:bK)(ρ:dE)(r:vy)(env:Env)(ps:List Nat)(asg body:aq)(st:Th)(w:World):Prop:=
 ∃L:Loop,w.heap[r.aC]?=some (.loop L)/\ER ρ env L.tmps/\L.params.toList=ps/\CC L.tmps.size asg L.assign/\CC L.tmps.size body L.body/\
  (∀t∈ps,t<L.tmps.size)/\HE st L
def QG(ρ:dE)(x:Value×Value)(y:MapEntry):Prop:=AR ρ x.1 y.key/\AR ρ x.2 y.val
def JL(ρ:dE)(r:vy)(es:List (Value×Value))(w:World):Prop:=
 ∃(ces:Array MapEntry) (clock:Nat),w.heap[r.aC]?=some (.map ces clock)/\(∃l:List MapEntry,l.Perm ces.toList/\All2 (QG ρ) es l)/\clock=ces.size/\∀(i:Nat)(y:MapEntry),ces[i]?=some y->y.born=i
def gH(CC:bK)(ρ:dE)(r:vy)(o:o9)(w:World):Prop:=
 match o with
 |.aC cs ro op _=>TN ρ r cs ro op w
 |.loop env ps asg body st=>TV CC ρ r env ps asg body st w
 |.map es=>JL ρ r es w
structure cK(CC:bK)(ρ:dE)(h:ae)(w:World):Prop where
 low:∀b r,ρ b=some r->b<h.next/\r.aC<w.heap.size
 obj:∀b r o,ρ b=some r->h.tr.get b=some o->gH CC ρ r o w
 inj:∀b b' r r' o,ρ b=some r->ρ b'=some r'->dh h b->h.tr.get b'=some o->b≠b'->r.aC≠r'.aC
 wf:∀b o,h.tr.get b=some o->b<h.next
structure Ext(ρ:dE)(h:ae)(w:World)(ρ':dE)(h':ae)(w':World):Prop where
 le:ρ.le ρ'
 next:h.next<=h'.next
 size:w.heap.size<=w'.heap.size
 os:w'.os=w.os
 tape:w'.tape=w.tape
 output:w'.output=w.output
 mE:∀k,k<w.heap.size->(∀b r,ρ b=some r->dh h b->r.aC≠k)->w'.heap[k]?=w.heap[k]?
 own:∀b r,ρ' b=some r->dh h' b->w.heap.size<=r.aC\/∃b₀ r₀,ρ b₀=some r₀/\dh h b₀/\r₀.aC=r.aC
 new:∀b r,ρ' b=some r->ρ b=none->h.next<=b
 live:∀b r o,ρ' b=some r->h'.tr.get b=some o->w.heap.size<=r.aC\/∃b₀ r₀ o₀,ρ b₀=some r₀/\h.tr.get b₀=some o₀/\r₀.aC=r.aC
theorem Ext.refl(ρ:dE)(h:ae)(w:World):Ext ρ h w ρ h w:=
 ⟨ρ.le_refl,dw _,dw _,rfl,rfl,rfl,fun _ _ _=>rfl,fun b r hb hw=>.inr ⟨b,r,hb,hw,rfl⟩,fun b r h h'=>(by rw[h] at h';cases h'),fun b r o hb ho=>.inr ⟨b,r,o,hb,ho,rfl⟩⟩
theorem Ext.trans{ρ ρ₁ ρ₂:dE}{h h₁ h₂:ae}{w w₁ w₂:World}(a:Ext ρ h w ρ₁ h₁ w₁)(b:Ext ρ₁ h₁ w₁ ρ₂ h₂ w₂):Ext ρ h w ρ₂ h₂ w₂:=by
 refine⟨dE.le_trans a.le b.le,sD a.next b.next,sD a.size b.size,b.os.trans a.os,b.tape.trans a.tape,b.output.trans a.output,?_,?_,?_,?_⟩
 .intro k hk hn;rw[b.mE k (Ix hk a.size) ?_,a.mE k hk hn];intro x r hx hw e;rcases a.own x r hx hw with h|⟨b₀,r₀,h0,Tz,e0⟩
  .omega
  .exact hn b₀ r₀ h0 Tz (e0.trans e)
 .intro x r hx hw;rcases b.own x r hx hw with h|⟨b₀,r₀,h0,Tz,e0⟩
  .exact .inl (sD a.size h)
  .rcases a.own b₀ r₀ h0 Tz with h|⟨b₁,r₁,h1,hw1,e1⟩
   .exact .inl (e0▸h)
   .exact .inr ⟨b₁,r₁,h1,hw1,e1.trans e0⟩
 .intro x r hx hn;cases h1:ρ₁ x with
  |none=>exact sD a.next (b.new x r hx h1)
  |some r1=>exact a.new x r1 h1 hn
 .intro x r o hx ho;rcases b.live x r o hx ho with h|⟨b₀,r₀,o₀,h0,ho0,e0⟩
  .exact .inl (sD a.size h)
  .rcases a.live b₀ r₀ o₀ h0 ho0 with h|⟨b₁,r₁,o₁,h1,ho1,e1⟩
   .exact .inl (e0▸h)
   .exact .inr ⟨b₁,r₁,o₁,h1,ho1,e1.trans e0⟩
theorem ER.mono{ρ ρ':dE}{e:Env}{tmps:Array Value}(hl:ρ.le ρ')(h:ER ρ e tmps):ER ρ' e tmps:=fun t=>(h t).mono hl
def cj(ng:Nat)(ρ:dE):Prop:=∀g,g<ng->∃r,ρ g=some r/\r.aC=g/\r.base=0
theorem kh{ρ:dE}(h:cg v=true):CR ρ v v:=by
 unfold cg at h;split at h
 .exact .bool _
 .exact .int _ _
 .exact .str _
 .exact .Eu
 .exact .oz _ _
 .exact .yX
 .exact .Av
 .exact .wC
 .cases h
theorem dH{ρ:dE} :∀ {l:List Value},l.all cg=true->All2 (KR ρ) l l
 |[],_=>.nil
 |v::l,h=>by simp only[List.all_cons,uh] at h;exact .cons (.cell (kh h.1)) (dH h.2)
theorem Kf{ρ:dE}(h:Ib v=true):VR ρ v v:=by
 unfold Ib at h;split at h
 .rename_i cs;exact .val (.agg (dH h))
 .rename_i cs;obtain⟨l⟩:=cs;cases l with
  |nil=>exact .tuple .nil
  |cons=>simp at h
 .exact(kh h).vr
theorem ER.eval{ng:Nat}{ρ:dE}{e:Env}{a:Act}(h:ER ρ e a.tmps)(hg:cj ng ρ):∀ {x:Operand},bp ng x=true->VR ρ (ev e x) (a.eval x)
 |.tmp t,_=>h t
 |.const _,hc=>Kf hc
 |.global g,hc=>by obtain⟨r,hr,hb,h0⟩:=hg g (by simpa [bp,Nat.blt_eq] using hc);have:=CR.ptr (o:=0) hr;rw[hb,h0] at this;exact this.vr
 |.func f,_=>(KR.fn f (l:=[]) (m:=[]) .nil).vr
theorem uc(h:plain v=true):v.oneCell'=true:=by cases v<;>first|rfl|(simp[plain] at h)
theorem nN(b o n:Nat):(⟨b,o,none⟩:Addr).add n=⟨b,o+n,none⟩:=by unfold Addr.add;split<;>simp_all
section
variable{P:Program}{CC:bK}{ρ ρ':dE}{h:ae}{w w':World}
theorem gH.mono{r:vy}{o:o9}(hl:ρ.le ρ')(hw:w'.heap[r.aC]?=w.heap[r.aC]?)(hk:gH CC ρ r o w):gH CC ρ' r o w':=by
 cases o with
 |aC cs ro op s=>
  obtain⟨ep,el,fr,h1,h2,h3,h5,h6,h7⟩:=hk;exact⟨ep,el,fr,hw.trans h1,h2,h3,h5,h6,fun j v hv=>let⟨c,hc,hr⟩:=h7 j v hv;⟨c,hc,hr.mono hl⟩⟩
 |loop env ps asg body st=>
  obtain⟨L,h1,h2,h3⟩:=hk;exact⟨L,hw.trans h1,h2.mono hl,h3⟩
 |map es=>
  obtain⟨ces,cl,h1,h2,h3⟩:=hk;obtain⟨l,h4,h5⟩:=h2;exact⟨ces,cl,hw.trans h1,⟨l,h4,h5.mono fun _ _ ⟨a,b⟩=>⟨a.mono hl,b.mono hl⟩⟩,h3⟩
theorem cj.mono{ng:Nat}(hl:ρ.le ρ')(hg:cj ng ρ):cj ng ρ':=fun g dS=>let⟨r,h,x⟩:=hg g dS;⟨r,hl _ _ h,x⟩
structure JA(k:Nat)(w w':World):Prop where
 os:w'.os=w.os
 tape:w'.tape=w.tape
 output:w'.output=w.output
 size:w'.heap.size=w.heap.size
 other:∀j,j≠k->w'.heap[j]?=w.heap[j]?
theorem JA.row(g:Nat)(cs:Array Value):JA g w (w.setRow g cs):=⟨rfl,rfl,rfl,by simp,fun j hj=>setRow_other w g j cs hj⟩
theorem JA.obj(g:Nat)(o:Obj):JA g w {w with heap:=w.heap.setIfInBounds g o} :=
 ⟨rfl,rfl,rfl,by simp,fun j hj=>by simp[Ne.symm hj]⟩
theorem cK.drawn(S:cK CC ρ h w)(n:Nat):cK CC ρ h {w with drawn:=n} :=
 ⟨S.low,fun b r o hb ho=>gH.mono ρ.le_refl (w':= {w with drawn:=n}) rfl (S.obj b r o hb ho),S.inj,S.wf⟩
theorem Ext.drawn(n:Nat):Ext ρ h w ρ h {w with drawn:=n} :=
 ⟨ρ.le_refl,dw _,dw _,rfl,rfl,rfl,fun _ _ _=>rfl,fun b r hb hw=>.inr ⟨b,r,hb,hw,rfl⟩,fun b r h h'=>(by rw[h] at h';cases h'),fun b r o hb ho=>.inr ⟨b,r,o,hb,ho,rfl⟩⟩
theorem cK.clock(S:cK CC ρ h w)(n:Nat):cK CC ρ {h with clock:=n} w:=⟨S.low,S.obj,S.inj,S.wf⟩
theorem Ext.clock(n:Nat):Ext ρ h w ρ {h with clock:=n} w:=
 ⟨ρ.le_refl,dw _,dw _,rfl,rfl,rfl,fun _ _ _=>rfl,fun b r hb hw=>.inr ⟨b,r,hb,hw,rfl⟩,fun b r h h'=>(by rw[h] at h';cases h'),fun b r o hb ho=>.inr ⟨b,r,o,hb,ho,rfl⟩⟩
theorem cK.xp(S:cK CC ρ h w){b:Nat}{r:vy}{o o':o9}(hb:ρ b=some r)(ho:h.tr.get b=some o)(Zw:o.rw=true)(ha:JA r.aC w w')(Zn:gH CC ρ r o' w')(n:Nat):cK CC ρ {h with clock:=n,tr:=h.tr.set b o'} w'/\Ext ρ h w ρ {h with clock:=n,tr:=h.tr.set b o'} w':=by
 have Br:dh h b:=⟨o,ho,Zw⟩;have wh:∀x,dh {h with clock:=n,tr:=h.tr.set b o'} x->dh h x:=by
  rintro x⟨p,hp,Fo⟩;simp only[Tr.az] at hp;by_cases hx:x=b
  .subst hx;exact Br
  .rw[aW hx] at hp;exact⟨p,hp,Fo⟩
 refine⟨⟨fun x rx hx=>⟨(S.low x rx hx).1,by rw[ha.size];exact(S.low x rx hx).2⟩,?_,?_,fun x p hp=>?_⟩,⟨ρ.le_refl,dw _,Nat.le_of_eq ha.size.symm,ha.os,ha.tape,ha.output,?_,?_,?_,?_⟩⟩
 rotate_left 2
 .simp only[Tr.az] at hp;by_cases hx:x=b
  .subst hx;exact S.wf _ _ ho
  .rw[aW hx] at hp;exact S.wf x p hp
 rotate_left 4
 .intro x rx p hx hp;simp only[Tr.az] at hp;by_cases FW:x=b
  .subst FW;rw[aZ rfl] at hp;cases hp;rw[hb] at hx;cases hx;exact Zn
  .rw[aW FW] at hp;exact gH.mono ρ.le_refl (ha.other _ (S.inj b x r rx p hb hx Br hp (Ne.symm FW)).symm) (S.obj x rx p hx hp)
 .intro x y rx ry p hx hy hw hp cq;simp only[Tr.az] at hp;by_cases hyb:y=b
  .subst hyb;exact S.inj x y rx ry o hx hy (wh x hw) ho cq
  .rw[aW hyb] at hp;exact S.inj x y rx ry p hx hy (wh x hw) hp cq
 .intro k _ hk;exact ha.other k (fun e=>hk b r hb Br e.symm)
 .intro x rx hx hw;exact .inr ⟨x,rx,hx,wh x hw,rfl⟩
 .intro x rx h1 h2;rw[h1] at h2;cases h2
 .intro x rx p hx hp;simp only[Tr.az] at hp;by_cases FW:x=b
  .subst FW;exact .inr ⟨x,rx,o,hx,ho,rfl⟩
  .rw[aW FW] at hp;exact .inr ⟨x,rx,p,hx,hp,rfl⟩
def fz(ρ:dE)(b:Nat)(r:vy):dE:=fun x=>if x=b then some r else ρ x
theorem nH{b:Nat}{r:vy}(hn:ρ b=none):ρ.le (fz ρ b r):=by
 intro x rx hx;unfold fz;by_cases h:x=b
 .subst h;rw[hn] at hx;cases hx
 .rw[aW h];exact hx
theorem cK.fresh(S:cK CC ρ h w):ρ h.next=none:=by
 cases e:ρ h.next with
 |none=>rfl
 |some r=>have:=(S.low _ _ e).1;omega
theorem cK.add(S:cK CC ρ h w){o:o9}{co:Obj}{im:vy}(zj:im.aC=w.heap.size)(Zn:gH CC (fz ρ h.next im) im o (w.alloc co)):
  cK CC (fz ρ h.next im) (h.new o) (w.alloc co)/\Ext ρ h w (fz ρ h.next im) (h.new o) (w.alloc co):=by
 have hle:=nH (r:=im) S.fresh;have qD:(w.alloc co).heap.size=w.heap.size+1:=Array.size_push _;have hold:∀k,k<w.heap.size->(w.alloc co).heap[k]?=w.heap[k]? :=by intro k hk;show(w.heap.push co)[k]?=_;rw[Array.getElem?_push,aW (by omega)]
 have dJ:∀x rx,fz ρ h.next im x=some rx->(x=h.next/\rx=im)\/(x≠h.next/\ρ x=some rx):=by
  intro x rx hx;unfold fz at hx;by_cases e:x=h.next
  .rw[aZ e] at hx;cases hx;exact .inl ⟨e,rfl⟩
  .rw[aW e] at hx;exact .inr ⟨e,hx⟩
 have dz:∀x,(h.new o).tr.get x=if x=h.next then some o else h.tr.get x:=fun x=>Tr.az _ _ _ _
 refine⟨⟨?_,?_,?_,fun x p hp=>?_⟩,⟨hle,?_,by omega,rfl,rfl,rfl,fun k hk _=>hold k hk,?_,?_,?_⟩⟩
 rotate_left 3
 .rw[dz] at hp;by_cases e:x=h.next
  .subst e;simp[ae.new]
  .rw[aW e] at hp;have:=S.wf x p hp;simp only[ae.new];omega
 rotate_left 4
 .intro x rx hx;rcases dJ x rx hx with⟨rfl,rfl⟩|⟨cq,hx⟩
  .exact⟨by simp[ae.new],by rw[qD,zj];omega⟩
  .have:=S.low x rx hx;exact⟨by simp only[ae.new];omega,by omega⟩
 .intro x rx p hx hp;rw[dz] at hp;rcases dJ x rx hx with⟨rfl,rfl⟩|⟨cq,hx⟩
  .rw[aZ rfl] at hp;cases hp;exact Zn
  .rw[aW cq] at hp;exact gH.mono hle (hold _ (S.low x rx hx).2) (S.obj x rx p hx hp)
 .intro x y rx ry p hx hy hw hp cq;rw[dz] at hp;rcases dJ x rx hx with⟨ex,er⟩|⟨MD,GZ⟩<;>rcases dJ y ry hy with⟨ey,er'⟩|⟨hny,VH⟩
  .exact absurd (ex.trans ey.symm) cq
  .have:=(S.low y ry VH).2;rw[er,zj];omega
  .have:=(S.low x rx GZ).2;rw[er',zj];omega
  .rw[aW hny] at hp;obtain⟨q,hq,IG⟩:=hw;rw[dz,aW MD] at hq;exact S.inj x y rx ry p GZ VH ⟨q,hq,IG⟩ hp cq
 .simp[ae.new]
 .intro x rx hx hw;rcases dJ x rx hx with⟨rfl,rfl⟩|⟨cq,hx⟩
  .exact .inl (by omega)
  .obtain⟨q,hq,IG⟩:=hw;rw[dz,aW cq] at hq;exact .inr ⟨x,rx,hx,⟨q,hq,IG⟩,rfl⟩
 .intro x rx hx hn;rcases dJ x rx hx with⟨rfl,rfl⟩|⟨cq,hx⟩
  .exact dw _
  .rw[hx] at hn;cases hn
 .intro x rx p hx hp;rcases dJ x rx hx with⟨rfl,rfl⟩|⟨cq,hx⟩
  .exact .inl (by omega)
  .rw[dz,aW cq] at hp;exact .inr ⟨x,rx,p,hx,hp,rfl⟩
theorem cK.less(S:cK CC ρ h w)(b:Nat):cK CC ρ {h with tr:=h.tr.del b} w/\Ext ρ h w ρ {h with tr:=h.tr.del b} w:=by
 have dz:∀x p,({h with tr:=h.tr.del b} :ae).tr.get x=some p->h.tr.get x=some p:=by
  intro x p hx;simp only[Tr.kA] at hx;by_cases e:x=b
  .rw[aZ e] at hx;cases hx
  .rwa [aW e] at hx
 refine⟨⟨S.low,fun x r o hx ho=>S.obj x r o hx (dz x o ho),fun x y rx ry p hx hy ⟨q,hq,IG⟩ hp cq=>S.inj x y rx ry p hx hy ⟨q,dz x q hq,IG⟩ (dz y p hp) cq,fun x p hp=>S.wf x p (dz x p hp)⟩,
  ⟨ρ.le_refl,dw _,dw _,rfl,rfl,rfl,fun _ _ _=>rfl,fun x r hx ⟨q,hq,IG⟩=>.inr ⟨x,r,hx,⟨q,dz x q hq,IG⟩,rfl⟩,fun x r h1 h2=>(by rw[h1] at h2;cases h2),fun x r p hx hp=>.inr ⟨x,r,p,hx,dz x p hp,rfl⟩⟩⟩
theorem cK.move(S:cK CC ρ h w){b:Nat}{r im:vy}{o o':o9}(hb:ρ b=some r)(ho:h.tr.get b=some o)(Zw:o.rw=true)(zj:im.aC=r.aC)(ha:JA r.aC w w')(Zn:gH CC (fz ρ h.next im) im o' w'):
  cK CC (fz ρ h.next im) (({h with tr:=h.tr.del b} :ae).new o') w'/\Ext ρ h w (fz ρ h.next im) (({h with tr:=h.tr.del b} :ae).new o') w':=by
 have Br:dh h b:=⟨o,ho,Zw⟩;have hle:=nH (r:=im) S.fresh;have dJ:∀x rx,fz ρ h.next im x=some rx->(x=h.next/\rx=im)\/(x≠h.next/\ρ x=some rx):=by
  intro x rx hx;unfold fz at hx;by_cases e:x=h.next
  .rw[aZ e] at hx;cases hx;exact .inl ⟨e,rfl⟩
  .rw[aW e] at hx;exact .inr ⟨e,hx⟩
 have dz:∀x,(({h with tr:=h.tr.del b} :ae).new o').tr.get x=if x=h.next then some o' else if x=b then none else h.tr.get x:=by intro x;simp only[ae.new,Tr.az,Tr.kA]
 have hold:∀x p,x≠h.next->(({h with tr:=h.tr.del b} :ae).new o').tr.get x=some p->x≠b/\h.tr.get x=some p:=by
  intro x p hx hp;rw[dz,aW hx] at hp;by_cases e:x=b
  .rw[aZ e] at hp;cases hp
  .rw[aW e] at hp;exact⟨e,hp⟩
 refine⟨⟨?_,?_,?_,fun x p hp=>?_⟩,⟨hle,by simp[ae.new],Nat.le_of_eq ha.size.symm,ha.os,ha.tape,ha.output,?_,?_,?_,?_⟩⟩
 rotate_left 3
 .rw[dz] at hp;by_cases e:x=h.next
  .subst e;simp[ae.new]
  .rw[aW e] at hp;by_cases e2:x=b
   .rw[aZ e2] at hp;cases hp
   .rw[aW e2] at hp;have:=S.wf x p hp;simp only[ae.new];omega
 rotate_left 4
 .intro x rx hx;rcases dJ x rx hx with⟨rfl,rfl⟩|⟨cq,hx⟩
  .exact⟨by simp[ae.new],by rw[zj,ha.size];exact(S.low b r hb).2⟩
  .have:=S.low x rx hx;exact⟨by simp only[ae.new];omega,by rw[ha.size];exact this.2⟩
 .intro x rx p hx hp;rcases dJ x rx hx with⟨rfl,rfl⟩|⟨cq,hx⟩
  .rw[dz,aZ rfl] at hp;cases hp;exact Zn
  .obtain⟨FW,hp⟩:=hold x p cq hp;exact gH.mono hle (ha.other _ (S.inj b x r rx p hb hx Br hp (Ne.symm FW)).symm) (S.obj x rx p hx hp)
 .intro x y rx ry p hx hy hw hp cq;obtain⟨q,hq,IG⟩:=hw;rcases dJ x rx hx with⟨ex,er⟩|⟨MD,GZ⟩<;>rcases dJ y ry hy with⟨ey,er'⟩|⟨hny,VH⟩
  .exact absurd (ex.trans ey.symm) cq
  .obtain⟨hyb,hp⟩:=hold y p hny hp;rw[er,zj];exact S.inj b y r ry p hb VH Br hp (Ne.symm hyb)
  .obtain⟨FW,hq⟩:=hold x q MD hq;rw[er',zj];exact S.inj x b rx r o GZ hb ⟨q,hq,IG⟩ ho FW
  .obtain⟨FW,hq⟩:=hold x q MD hq;obtain⟨hyb,hp⟩:=hold y p hny hp;exact S.inj x y rx ry p GZ VH ⟨q,hq,IG⟩ hp cq
 .intro k _ hk;exact ha.other k (fun e=>hk b r hb Br e.symm)
 .intro x rx hx hw;obtain⟨q,hq,IG⟩:=hw;rcases dJ x rx hx with⟨rfl,rfl⟩|⟨cq,hx⟩
  .exact .inr ⟨b,r,hb,Br,zj.symm⟩
  .obtain⟨_,hq⟩:=hold x q cq hq;exact .inr ⟨x,rx,hx,⟨q,hq,IG⟩,rfl⟩
 .intro x rx hx hn;rcases dJ x rx hx with⟨rfl,rfl⟩|⟨cq,hx⟩
  .exact dw _
  .rw[hx] at hn;cases hn
 .intro x rx p hx hp;rcases dJ x rx hx with⟨rfl,rfl⟩|⟨cq,hx⟩
  .exact .inr ⟨b,r,o,hb,ho,zj.symm⟩
  .obtain⟨_,hp⟩:=hold x p cq hp;exact .inr ⟨x,rx,p,hx,hp,rfl⟩
theorem Az(S:cK CC ρ h w){b off n:Nat}{r:vy}{cs:List Value}(hb:ρ b=some r)(hr:aV h b off n=some cs):
  cs.length=n/\∃ep:List Value,All2 (KR ρ) cs ep/\∀(j:Nat)(v:Value),ep[j]?=some v->w.cell? ((⟨r.aC,r.base+off,none⟩:Addr).add j)=some v:=by
 unfold aV at hr;split at hr
 .rename_i cells ro op s ho;by_cases hl:((cells.drop off).take n).length=n
  .simp only[hl,Nat.beq_refl] at hr;simp only[if_true,jm] at hr;subst hr;refine⟨hl,?_⟩;obtain⟨ep,el,fr,h1,_,_,_,_,h7⟩:=S.obj b r _ hb ho;have hj:∀(j:Nat)(v:Value),((cells.drop off).take n)[j]?=some v->∃c,ep[r.base+off+j]?=some c/\KR ρ v c:=by
    intro j v hv;rw[FN] at hv;split at hv
    .rw[List.getElem?_drop] at hv;obtain⟨c,hc,hk⟩:=h7 _ _ hv;exact⟨c,by rw[<-hc];congr 1;omega,hk⟩
    .cases hv
   refine⟨(ep.toList.drop (r.base+off)).take n,?_,?_⟩
   .refine All2.aeh ?_ ?_
    .rw[hl];by_cases h0:n=0
     .subst h0;simp
     .have:((cells.drop off).take n)[n-1]?=some ((cells.drop off).take n)[n-1]:=fI (by omega);obtain⟨c,hc,_⟩:=hj _ _ this;have dS:=(Array.getElem?_eq_some_iff.1 hc).1;simp;omega
    .intro i a c ha hc;obtain⟨c',PK,hk⟩:=hj i a ha;rw[FN] at hc;split at hc
     .rw[List.getElem?_drop] at hc;have:ep.toList[r.base+off+i]?=some c':=by simpa using PK
      rw[this] at hc;cases hc;exact hk
     .cases hc
   .intro j v hv;rw[FN] at hv;split at hv
    .rw[List.getElem?_drop] at hv;rw[nN];have:ep[r.base+off+j]?=some v:=by simpa using hv
     simp[World.cell?,h1,this]
    .cases hv
  .have:Nat.beq ((cells.drop off).take n).length n=false:=by
    cases hb:Nat.beq ((cells.drop off).take n).length n with
    |false=>rfl
    |true=>exact absurd (mH hb) hl
   simp only[this] at hr;simp at hr
 .cases hr
theorem yq{cs vs:List Value}(h:off+vs.length<=cs.length):(aH cs off vs).length=cs.length:=by simp[aH];omega
theorem kU{cs vs:List Value}{off j:Nat}(h:off+vs.length<=cs.length):(aH cs off vs)[j]?=if off<=j/\j<off+vs.length then vs[j-off]? else cs[j]? :=by
 unfold aH;by_cases h1:j<off
 .rw[aW (by omega),vu,Ky (by simp;omega),FN,aZ h1]
 .by_cases h2:j<off+vs.length
  .rw[aZ ⟨by omega,h2⟩,vu,Mu (by simp;omega),List.length_take,Nat.min_eq_left (by omega),Ky (by omega)]
  .rw[aW (by omega),Mu (by simp;omega),GJ,List.length_take,Nat.min_eq_left (by omega),List.getElem?_drop];congr 1;omega
theorem xr(S:cK CC ρ h w){b off:Nat}{r:vy}{vs YH:List Value}{h':ae}(hb:ρ b=some r)(hw:iX h b off vs=some h')(hv:All2 (KR ρ) vs YH):
  ∃w',(storeCells ⟨r.aC,r.base+off,none⟩ YH).run P w=.ok () w'/\cK CC ρ h' w'/\Ext ρ h w ρ h' w':=by
 unfold iX at hw;split at hw
 .rename_i cells op s ho;by_cases hl:off+vs.length<=cells.length
  .rw[aZ (Nat.ble_eq_true_of_le hl)] at hw;cases hw;obtain⟨ep,el,fr,h1,h2,h3,h5,h6,h7⟩:=S.obj b r _ hb ho;have hfr:fr=(0,0):=h6 rfl;subst hfr;have bY:=hv.length;by_cases h0:vs.length=0
   .have hv0:vs=[]:=JC h0;have AP:YH=[]:=JC (by omega);subst hv0;subst AP;refine⟨w,rfl,cK.xp S hb ho rfl ⟨rfl,rfl,rfl,rfl,fun _ _=>rfl⟩ ?_ _⟩;have:aH cells off []=cells:=by simp[aH]
    rw[this];exact⟨ep,el,(0,0),h1,h2,h3,h5,h6,h7⟩
   have eU:r.base+off+0+YH.length<=ep.size:=by have:cells[off+vs.length-1]?=some cells[off+vs.length-1]:=fI (by omega);obtain⟨c,hc,_⟩:=h7 _ _ this;have dS:=(Array.getElem?_eq_some_iff.1 hc).1;omega
   have cR:=run_storeCells_at (P:=P) r.aC (r.base+off) el YH 0 ep w h1 eU (fun v hm=>by obtain⟨i,hi⟩:=sv hm;have hx:vs[i]?=some (vs[i]'(by rw[bY];exact(cr.1 hi).1)):=fI _;obtain⟨c,hc,hk⟩:=hv.get hx;rw[hi] at hc;cases hc;exact uc hk.plain.2)
   refine⟨_,cR,?_⟩;refine cK.xp S hb ho rfl (JA.row _ _) ?_ _;have tX:ep.toList.take (r.base+off+0)++YH++ep.toList.drop (r.base+off+0+YH.length)=aH ep.toList (r.base+off) YH:=by simp[aH]
   refine⟨_,el,(0,0),setRow_heap w r.aC ep _ el _ h1,by rw[yq hl];exact h2,h3,⟨?_,?_⟩,fun _=>rfl,?_⟩
   rotate_left 1
   .intro rO j c hj hc;rw[tX] at hc;simp only[List.getElem?_toArray] at hc;rw[kU (by simpa using eU),aW (by omega)] at hc;exact h5.2 rO j c hj (by simpa using hc)
   rotate_left 1
   .rw[h5.1];simp only[List.size_toArray,GJ,List.length_take,List.length_drop,Array.length_toList];omega
   intro j v hj;rw[kU hl] at hj;rw[tX];have hg:=kU (cs:=ep.toList) (vs:=YH) (off:=r.base+off) (j:=r.base+j) (by simpa using eU);simp only[List.getElem?_toArray];rw[hg];by_cases zY:off<=j/\j<off+vs.length
   .rw[aZ zY] at hj;rw[aZ (by omega)];obtain⟨c,hc,hk⟩:=hv.get hj;exact⟨c,by rw[<-hc];congr 1;omega,hk⟩
   .rw[aW zY] at hj;rw[aW (by omega)];obtain⟨c,hc,hk⟩:=h7 j v hj;exact⟨c,by simpa using hc,hk⟩
  .have:Nat.ble (off+vs.length) cells.length=false:=by
    cases hb:Nat.ble (off+vs.length) cells.length with
    |false=>rfl
    |true=>exact absurd (Mv hb) hl
   rw[this] at hw;simp at hw
 .cases hw
end
def Out(CC:bK)(ρ:dE)(h:ae)(w:World)(v:Value)(h':ae)(r:Result Next):Prop:=
 ∃ρ' w' c,(r=.ok (.value c) w'\/(c=undef/\r=.ok .skip w'))/\VR ρ' v c/\cK CC ρ' h' w'/\Ext ρ h w ρ' h' w'
section
variable{P:Program}{CC:bK}{ρ:dE}{h:ae}{w:World}{T:oR}{ng:Nat}{e:Env}{a:Act}
theorem Out.same(S:cK CC ρ h w){r:Result Next}(hr:r=.ok (.value c) w)(hv:VR ρ v c):Out CC ρ h w v h r:=
 ⟨ρ,w,c,.inl hr,hv,S,.refl ρ h w⟩
theorem cS{s:Sem Value}(hs:s.run P w=.ok c w'):((do pure (Next.value (<-s))):Sem Next).run P w=.ok (.value c) w':=by simp[hs]
theorem jd{l:Array α}{x:α}(h:l[i]?=some x):i<l.size:=(Array.getElem?_eq_some_iff.1 h).1
theorem Ba(w:World)(o:Obj):(w.alloc o).heap[w.heap.size]?=some o:=by show(w.heap.push o)[w.heap.size]?=some o;simp
theorem As(S:cK CC ρ h w){cs ep bg:List Value}(hv:All2 (KR ρ) cs ep)(el:Nat)(ED:Nat)(KU:ED≠0->∀c∈bg,cg c=true):
  ∃im:vy,im.aC=w.heap.size/\im.base=0/\im.len=cs.length/\im.ED=ED/\im.room=(ep++bg).length/\
   cK CC (fz ρ h.next im) (aJ h cs ED) (w.alloc (.cells ⟨ep++bg⟩ el))/\Ext ρ h w (fz ρ h.next im) (aJ h cs ED) (w.alloc (.cells ⟨ep++bg⟩ el)):=by
 refine⟨⟨w.heap.size,0,cs.length,ED,(ep++bg).length⟩,rfl,rfl,rfl,rfl,rfl,?_⟩;refine cK.add S rfl ?_;refine⟨_,_,_,Ba w _,rfl,rfl,⟨BX _,?_⟩,fun _=>rfl,?_⟩
 .intro rO j c hj hc;dsimp only at hj hc;rw[show(⟨ep++bg⟩:Array Value)[0+j]?=(ep++bg)[0+j]? by simp,BX,Mu (by rw[<-hv.length];exact hj)] at hc;exact KU rO c (dG hc)
 intro j v hj;obtain⟨c,hc,hk⟩:=hv.get hj;refine⟨c,?_,hk.mono (nH S.fresh)⟩;show(⟨ep++bg⟩:Array Value)[0+j]?=some c;rw[show(⟨ep++bg⟩:Array Value)[0+j]?=(ep++bg)[0+j]? by simp,BX,Ky (cr.1 hc).1,hc]
theorem lC(ρ:dE)(b:Nat)(r:vy):fz ρ b r b=some r:=by simp[fz]
theorem Qm{im:vy}(hb:im.aC=w.heap.size)(h0:im.base=0):VR (fz ρ h.next im) (.pointer (some ⟨h.next,0,none⟩)) (.pointer (some ⟨w.heap.size,0,none⟩)):=by have:=CR.ptr (ρ:=fz ρ h.next im) (o:=0) (lC ρ h.next im);rw[hb,h0] at this;exact this.vr
theorem EY(el:TypeId)(v:Value):(newVar el v).run P w=.ok ⟨w.heap.size,0,none⟩ (w.alloc (.cells v.cells el)):=rfl
theorem wO{t:Nat}{i:TI}(hi:tm P t i):∃z,(zeroValue t).run P w=.ok z w/\z.cells.toList=i.zero:=by obtain⟨ti,h1,_,_,z,h2,h3⟩:=hi.info;exact⟨z,by simp[zeroValue,typeInfo,h1,h2],h3⟩
theorem fy{t:Nat}{i:TI}(hi:tm P t i):(sizeOf t).run P w=.ok i.size w/\P.cellsOf t=i.size:=by obtain⟨ti,h1,h2,_⟩:=hi.info;exact⟨by simp[sizeOf,typeInfo,h1,h2],by simp[Program.cellsOf,h1,h2]⟩
theorem pZ{t:Nat}{i:TI}(hi:tm P t i):(isAgg t).run P w=.ok i.agg w:=by simp only[isAgg,Sem.run_bind,run_underlying hi.u,Result.andThen_ok,hi.agg];cases i.u<;>rfl
theorem Uh(v:Value)(l:List Value)(h:v.cells.toList=l):v.cells=⟨l++[]⟩:=by
 cases hc:v.cells with
 |mk x=>rw[hc] at h;simp at h;simp[h]
theorem Wv(S:cK CC ρ h w){t:Nat}{i:TI}(hi:tm P t i):
  Out CC ρ h w (.pointer (some ⟨h.next,0,none⟩)) (aJ h i.zero 0) (((do pure (Next.value (<-Instr.alloc t true (.tuple #[])))):Sem Next).run P w):=by
 obtain⟨z,hz,N9⟩:=wO (w:=w) hi;obtain⟨im,h1,h2,_,_,_,h3,h4⟩:=As (bg:=[]) S (dH hi.zero) t 0 (fun h=>absurd rfl h);rw[<-Uh z _ N9] at h3 h4;refine⟨_,_,_,.inl (cS ?_),Qm h1 h2,h3,h4⟩;simp[Instr.alloc,hz,EY]
theorem aeo(S:cK CC ρ h w){t:Nat}(hv:VR ρ v c)(hf:flat v=some vs):
  Out CC ρ h w (.pointer (some ⟨h.next,0,none⟩)) (aJ h vs 0) (((do pure (Next.value (<-Instr.box t c))):Sem Next).run P w):=by
 obtain⟨im,h1,h2,_,_,_,h3,h4⟩:=As (bg:=[]) S (DR hv hf) t 0 (fun h=>absurd rfl h);rw[<-Uh c _ rfl] at h3 h4;refine⟨_,_,_,.inl (cS ?_),Qm h1 h2,h3,h4⟩;simp[Instr.box,EY]
theorem Qi(S:cK CC ρ h w){t:Nat}{i:TI}(hi:tm P t i){b off:Nat}{r:vy}{cs:List Value}(hb:ρ b=some r)(hr:aV h b off (width (xu i))=some cs)(hv:agg (xu i) cs=some v):
  ∃c,(loadVar t ⟨r.aC,r.base+off,none⟩).run P w=.ok c w/\VR ρ v c:=by
 obtain⟨hl,ep,hk,hc⟩:=Az S hb hr;have qD:=(fy (w:=w) hi).1;cases pD:i.agg with
 |true=>
  simp only[xu,pD,cond_true,width] at hl hv;have bY:=hk.length;simp only[agg,hl,Nat.beq_refl,if_true,jm] at hv;subst hv;refine⟨.agg ep.toArray,?_,.val (.agg hk)⟩;simp only[loadVar,Sem.run_bind,pZ hi,pD,Result.andThen_ok,if_true,qD];rw[<-hl,bY,run_loadCells_list w _ ep hc];rfl
 |false=>
  simp only[xu,pD,cond_false,width] at hl hv
  match cs,ep,hk,hl with
  |[x],[y],.cons PU .nil,_=>
   simp only[agg,jm] at hv;subst hv;have h0:=hc 0 y rfl;rw[nN,Nu] at h0;refine⟨y,?_,PU.vr⟩;simp[loadVar,pZ hi,pD,h0]
theorem WE(S:cK CC ρ h w){t:Nat}{i:TI}(hi:tm P t i){b off:Nat}{r:vy}{h':ae}(hb:ρ b=some r)(hv:VR ρ v c)(hf:flat v=some vs)(hl:vs.length=i.size)(hw:iX h b off vs=some h'):
  ∃w',(storeVar t ⟨r.aC,r.base+off,none⟩ c).run P w=.ok () w'/\cK CC ρ h' w'/\Ext ρ h w ρ h' w':=by
 have hk:=DR hv hf;obtain⟨w',cR,S',E'⟩:=xr S hb hw hk;refine⟨w',?_,S',E'⟩;have qD:=(fy (w:=w) hi).1;have ID:c.cells.size=i.size:=by rw[<-hl,hk.length];simp
 simp only[storeVar,Sem.run_bind,qD,Result.andThen_ok,ID,ne_eq,not_true_eq_false,if_false];simpa using cR
theorem Lz{t:Nat}{i:TI}(hi:tm P t i)(hk:All2 (KR ρ) l m)(hv:agg (xu i) ((l.drop off).take (width (xu i)))=some v):∃c,(part t ⟨m⟩ off).run P w=.ok c w/\VR ρ v c:=by
 have wV:=(hk.drop off).take (width (xu i));cases pD:i.agg with
 |true=>
  simp only[xu,pD,cond_true,width,agg] at hv wV;split at hv
  .cases hv;refine⟨.agg ⟨(m.drop off).take i.size⟩,?_,.val (.agg wV)⟩;simp only[part,Sem.run_bind,pZ hi,pD,Result.andThen_ok,if_true,(fy (w:=w) hi).1,Sem.run_pure];congr 2;simp
  .cases hv
 |false=>
  simp only[xu,pD,cond_false,width,agg] at hv wV;split at hv
  .rename_i x hx;cases hv;rw[hx] at wV
   match hm:(m.drop off).take 1,wV with
   |[y],.cons PU .nil=>
    refine⟨y,?_,PU.vr⟩;have hy:m[off]?=some y:=by
     have:((m.drop off).take 1)[0]?=some y:=by rw[hm];rfl
     simpa [FN,List.getElem?_drop] using this
    simp[part,pZ hi,pD,hy]
  .cases hv
theorem DQ(hE:ER ρ e a.tmps)(hG:cj ng ρ)(place:Nat->Option (Nat×Nat)):
  ∀(ps:List (Nat×Operand))(qs:List (Nat×Nat×Operand))(l m:List Value)(r:List Value),ps.all (fun p=>bp ng p.2)=true->
   All2 (fun(p:Nat×Operand) (q:Nat×Nat×Operand)=>place p.1=some (q.1,q.2.1)/\q.2.2=p.2) ps qs->
   All2 (KR ρ) l m->tv e l qs=some r->∃s:List Value,Instr.fill place ⟨m⟩ (ps.map fun p=>(p.1,a.eval p.2))=some ⟨s⟩/\All2 (KR ρ) r s:=by
 intro ps;induction ps with
 |nil=>
  intro qs l m r _ Bl hk hr;cases Bl;simp only[tv,jm] at hr;subst hr;exact⟨m,rfl,hk⟩
 |cons p ps ih=>
  intro qs l m r dx Bl hk hr;obtain⟨j,x⟩:=p;cases Bl with
  | @cons _ q _ qs hq hqs=>
  obtain⟨off,n,y⟩:=q;obtain⟨hp,rfl⟩:=hq;simp only[List.all_cons,uh] at dx;simp only[tv] at hr;split at hr
  .rename_i vs hf;split at hr
   .rename_i tV;simp only[uh] at tV;have hn:=mH tV.1;have hle:=Mv tV.2;have hv:=DR (hE.eval hG dx.1) hf;have MC:=hk.length;have Yf:=hv.length;have tX:All2 (KR ρ) (aH l off vs) (aH m off (a.eval y).cells.toList):=by unfold aH;rw[<-Yf];exact((hk.take off).app hv).app (hk.drop _)
    obtain⟨s,hs,KV⟩:=ih qs _ _ r dx.2 hqs tX hr;refine⟨s,?_,KV⟩;rw[<-hs];simp only[BY,Instr.fill,hp];have qD:(a.eval y).cells.size=n:=by rw[<-hn,Yf];simp
    rw[aW (by simp[qD];omega)];congr 1;have key:∀(vs:List Value)(k:Nat)(m:List Value),off+k+vs.length<=m.length->
      (vs.zipIdx k).foldl (fun(cs:Array Value) (x:Value×Nat)=>cs.setIfInBounds (off+x.2) x.1) ⟨m⟩=⟨aH m (off+k) vs⟩:=by
     intro vs;induction vs with
     |nil=>intro k m _;simp[aH]
     |cons v vs ih=>
      intro k m hm;simp only[List.zipIdx_cons,List.foldl_cons];have:(Array.setIfInBounds ⟨m⟩ (off+k) v)=⟨m.set (off+k) v⟩:=by simp
      rw[this,ih (k+1) (m.set (off+k) v) (by simp at hm⊢;omega)];congr 1;simp at hm;apply zS;intro i;rw[kU (by simp;omega),kU (by simp;omega)];by_cases h1:off+(k+1)<=i/\i<off+(k+1)+vs.length
      .rw[aZ h1,aZ (by simp;omega)];rw[show i-(off+k)=(i-(off+(k+1)))+1 by omega];simp
      .rw[aW h1];by_cases h2:i=off+k
       .subst h2;rw[aZ (by simp)];simp[List.getElem?_set_self (show off+k<m.length by omega)]
       .rw[aW (by simp;omega),List.getElem?_set_ne (Ne.symm h2)]
    have:=key (a.eval y).cells.toList 0 m (by rw[Nu,<-Yf,hn,<-MC];exact hle);rw[<-Array.foldl_toList];simpa using this
   .cases hr
  .cases hr
end
theorem vZ:∀ {ks G7:List Nat} {a a' b b':List Value} {x:Bool},a.length=ks.length->a'.length=ks.length->bQ (ks++G7) (a++b) (a'++b')=some x->
  ∃y z,bQ ks a a'=some y/\bQ G7 b b'=some z/\x=(y&&z):=by
 intro ks;induction ks with
 |nil=>
  intro G7 a a' b b' x hl FT h;cases a with
  |cons=>simp at hl
  |nil=>cases a' with
   |cons=>simp at FT
   |nil=>exact⟨true,x,rfl,h,by simp⟩
 |cons k ks ih=>
  intro G7 a a' b b' x hl FT h;cases a with
  |nil=>simp at hl
  |cons v a=>cases a' with
   |nil=>simp at FT
   |cons v' a'=>
    simp only[List.cons_append,bQ] at h;cases h1:ig k v v' with
    |none=>simp[h1] at h
    |some p=>
     cases h2:bQ (ks++G7) (a++b) (a'++b') with
     |none=>simp[h1,h2] at h
     |some q=>
      simp only[h1,h2,jm] at h;obtain⟨y,z,hy,hz,rfl⟩:=ih (by simpa using hl) (by simpa using FT) h2;refine⟨p&&y,z,by simp[bQ,h1,hy],hz,?_⟩;rw[<-h,Bool.and_assoc]
theorem jg:∀ {ks:List Nat} {a b:List Value} {x:Bool},bQ ks a b=some x->a.length=ks.length/\b.length=ks.length:=by
 intro ks;induction ks with
 |nil=>intro a b x h;cases a with
  |nil=>cases b with
   |nil=>exact⟨rfl,rfl⟩
   |cons=>simp[bQ] at h
  |cons=>cases b<;>simp[bQ] at h
 |cons k ks ih=>
  intro a b x h;cases a with
  |nil=>simp[bQ] at h
  |cons v a=>cases b with
   |nil=>simp[bQ] at h
   |cons v' b=>
    simp only[bQ] at h;cases h1:ig k v v' with
    |none=>simp[h1] at h
    |some p=>
     cases h2:bQ ks a b with
     |none=>simp[h1,h2] at h
     |some q=>have:=ih h2;simp[this.1,this.2]
section
variable{P:Program}{T:oR}{ρ:dE}
theorem Nj{k:Nat}{x:Bool}(h:KR ρ v c)(h':KR ρ v' c')(he:ig k v v'=some x):ig k c c'=some x:=by
 have:c=v/\c'=v':=by
  unfold ig at he;split at he
  .cases h with
   |cell h=>cases h;cases h' with
    |cell h'=>cases h';exact⟨rfl,rfl⟩
  .cases h with
   |cell h=>cases h;cases h' with
    |cell h'=>cases h';exact⟨rfl,rfl⟩
  .cases h with
   |cell h=>cases h;cases h' with
    |cell h'=>cases h';exact⟨rfl,rfl⟩
  .cases he
 rw[this.1,this.2,he]
theorem BS:∀ {ks:List Nat} {l m l' m':List Value} {x:Bool},All2 (KR ρ) l m->All2 (KR ρ) l' m'->bQ ks l l'=some x->bQ ks m m'=some x:=by
 intro ks;induction ks with
 |nil=>
  intro l m l' m' x h h' he;cases h with
  |nil=>cases h' with
   |nil=>exact he
   |cons=>simp[bQ] at he
  |cons=>cases h'<;>simp[bQ] at he
 |cons k ks ih=>
  intro l m l' m' x h h' he;cases h with
  |nil=>simp[bQ] at he
  | @cons v c l m hk hs=>cases h' with
   |nil=>simp[bQ] at he
   | @cons v' c' l' m' wV hs'=>
    simp only[bQ] at he⊢;cases h1:ig k v v' with
    |none=>simp[h1] at he
    |some p=>
     cases h2:bQ ks l l' with
     |none=>simp[h1,h2] at he
     |some q=>
      rw[Nj hk wV h1,ih hs hs' h2];simpa [h1,h2] using he
def valOf(i:TI)(l:List Value):Value:=bif i.agg then .agg ⟨l⟩ else l.headD (.tuple #[])
theorem p8{t:Nat}{i:TI}(hi:tm P t i)(hl:off+i.size<=m.length)(w:World):
  (part t ⟨m⟩ off).run P w=.ok (valOf i ((m.drop off).take i.size)) w:=by
 cases pD:i.agg with
 |true=>
  simp only[part,Sem.run_bind,pZ hi,pD,Result.andThen_ok,if_true,(fy (w:=w) hi).1,Sem.run_pure,valOf,cond_true];congr 2;simp
 |false=>
  have h1:=hi.plain pD;have dS:off<m.length:=by omega
  simp only[part,Sem.run_bind,pZ hi,pD,Result.andThen_ok,valOf,cond_false,h1];rw[List.drop_eq_getElem_cons dS];have hg:(⟨m⟩:Array Value)[off]?=some m[off]:=by rw[show(⟨m⟩:Array Value)[off]?=m[off]? by simp,fI dS]
  rw[hg];rfl
theorem Gq:∀ {fs:List Field} {off n:Nat},mU T off fs=some n->off<=n:=by
 intro fs;induction fs with
 |nil=>intro off n h;simp[mU] at h;omega
 |cons f fs ih=>
  intro off n h;simp only[mU] at h;cases hb:Nat.beq f.offset off with
  |false=>simp[hb] at h
  |true=>
   simp only[hb,cond_true] at h;cases ht:T f.type with
   |none=>simp[ht] at h
   |some i=>simp only[ht] at h;have:=ih h;omega
theorem pS{k:Nat->Option (List Nat)}{fs:List Field}(h:mi k (f::fs)=some ks):
  f.name≠ "_" /\∃a b,k f.type=some a/\mi k fs=some b/\ks=a++b:=by
 simp only[mi] at h;cases hn:f.name != "_" with
 |false=>simp[hn] at h
 |true=>
  simp only[hn,cond_true] at h;refine⟨by simpa using hn,?_⟩;split at h
  .rename_i a b h1 h2;cases h;exact⟨a,b,h1,h2,rfl⟩
  .cases h
theorem wK(ks:List Nat):∀n,(OE ks n).length=n*ks.length
 |0=>by simp[OE]
 |n+1=>by simp[OE,wK ks n,tw,Nat.add_comm]
theorem pT:∀ {d t:Nat} {i:TI} {ks:List Nat},T t=some i->cu P T->kinds T d t=some ks->ks.length=i.size:=by
 intro d;induction d with
 |zero=>intro t i ks _ _ h;simp[kinds] at h
 |succ d ih=>
  intro t i ks jO hT h;have hi:=hT t i jO;simp only[kinds,jO] at h;have pD:=hi.agg;split at h
  .rename_i hu;rw[hu] at pD;cases h;exact(hi.plain pD).symm
  .rename_i hu;rw[hu] at pD;cases h;exact(hi.plain pD).symm
  .rename_i hu;rw[hu] at pD;cases h;exact(hi.plain pD).symm
  .rename_i fs hu;split at h
   .rename_i n hc;cases hb:Nat.beq n i.size with
    |false=>simp[hb] at h
    |true=>
     simp only[hb,cond_true] at h;rw[<-mH hb];have key:∀(gs:List Field)(off n:Nat)(ks:List Nat),mU T off gs=some n->mi (kinds T d) gs=some ks->off+ks.length=n:=by
      intro gs;induction gs with
      |nil=>intro off n ks h1 h2;simp[mU] at h1;simp[mi] at h2;subst h2;simpa using h1
      |cons f gs ihg=>
       intro off n ks h1 h2;simp only[mU] at h1;cases hb:Nat.beq f.offset off with
       |false=>simp[hb] at h1
       |true=>
        simp only[hb,cond_true] at h1;cases ht:T f.type with
        |none=>simp[ht] at h1
        |some j=>
         simp only[ht] at h1;obtain⟨_,a,b,ha,gk,rfl⟩:=pS h2;have e1:=ih ht hT ha;have e2:=ihg _ _ _ h1 gk;rw[GJ,e1];omega
     have:=key fs.toList 0 n ks hc h;omega
   .cases h
  .rename_i n el hu;split at h
   .rename_i e he;cases hb:Nat.beq (n*e.size) i.size with
    |false=>simp[hb] at h
    |true=>
     simp only[hb,cond_true] at h;split at h
     .rename_i G7 hk;cases h;rw[wK,ih he hT hk,mH hb]
     .cases h
   .cases h
  .cases h
theorem Gx(hT:cu P T):∀(d t:Nat)(i:TI)(dep:Nat)(ks:List Nat),T t=some i->kinds T d t=some ks->d<=dep->∀(l m:List Value)(x:Bool),
  bQ ks l m=some x->∀w,(Op.equalIn dep t (valOf i l) (valOf i m)).run P w=.ok x w:=by
 intro d;induction d with
 |zero=>intro t i dep ks _ h;simp[kinds] at h
 |succ d ih=>
  intro t i dep ks jO iC hd l m x he w;obtain⟨dep,rfl⟩:∃k,dep=k+1:=⟨dep-1,by omega⟩;have hi:=hT t i jO;simp only[kinds,jO] at iC;have pD:=hi.agg;have one:∀k:Nat,bQ [k] l m=some x->∃p q,l=[p]/\m=[q]/\ig k p q=some x:=by
   intro k he;obtain⟨h1,h2⟩:=jg he
   match l,m,h1,h2 with
   |[p],[q],_,_=>
    refine⟨p,q,rfl,rfl,?_⟩;simp only[bQ] at he;cases Bl:ig k p q with
    |none=>simp[Bl] at he
    |some y=>simpa [Bl] using he
  split at iC
  .rename_i hu;rw[hu] at pD;cases iC;obtain⟨p,q,rfl,rfl,Bl⟩:=one _ he;simp only[valOf,pD,mg,cond_false,List.headD_cons];unfold ig at Bl;split at Bl
   .cases Bl;exact run_equalIn_bool' w dep t _ _ (by rw[hi.u,hu])
   .omega
   .omega
   .cases Bl
  .rename_i k hu;rw[hu] at pD;cases iC;obtain⟨p,q,rfl,rfl,Bl⟩:=one _ he;simp only[valOf,pD,mg,cond_false,List.headD_cons];unfold ig at Bl;split at Bl
   .omega
   .split at Bl
    .rename_i hk;subst hk;cases Bl;exact run_equalIn_int w dep t _ k _ _ (by rw[hi.u,hu])
    .cases Bl
   .omega
   .cases Bl
  .rename_i hu;rw[hu] at pD;cases iC;obtain⟨p,q,rfl,rfl,Bl⟩:=one _ he;simp only[valOf,pD,mg,cond_false,List.headD_cons];unfold ig at Bl;split at Bl
   .omega
   .omega
   .cases Bl;rw[run_equalIn_string w dep t _ _ (by rw[hi.u,hu]),beq_toListBytes]
   .cases Bl
  .rename_i fs hu;rw[hu] at pD;have o7:P.underlying t=some (.struct fs):=by rw[hi.u,hu]
   have Ve:P.fieldsOf t=fs:=by simp[Program.fieldsOf,o7]
   simp only[valOf,pD,mg,cond_true];rw[run_equalIn_struct w dep t _ _ (by rw[Ve];exact o7) (hi.held fs hu),Ve];split at iC
   .rename_i n hc;cases hb:Nat.beq n i.size with
    |false=>simp[hb] at iC
    |true=>
     simp only[hb,cond_true] at iC;have key:∀(gs:List Field)(off:Nat)(ks:List Nat),mU T off gs=some n->mi (kinds T d) gs=some ks->n=l.length->n=m.length->
       ∀y,bQ ks (l.drop off) (m.drop off)=some y->∀w,(Op.eqFields dep ⟨l⟩ ⟨m⟩ gs).run P w=.ok y w:=by
      intro gs;induction gs with
      |nil=>
       intro off ks hc hk hn hm y hy w;simp only[mU,jm] at hc;simp only[mi,jm] at hk;subst hk;have h1:l.drop off=[]:=UO (by omega);have h2:m.drop off=[]:=UO (by omega);rw[h1,h2] at hy;simp only[bQ,jm] at hy;subst hy;rfl
      |cons f gs ihg=>
       intro off ks hc hk hn hm y hy w;simp only[mU] at hc;cases hb:Nat.beq f.offset off with
       |false=>simp[hb] at hc
       |true=>
        simp only[hb,cond_true] at hc;have Zo:=mH hb;cases ht:T f.type with
        |none=>simp[ht] at hc
        |some j=>
         simp only[ht] at hc;obtain⟨KS,a,b,ha,CV,rfl⟩:=pS hk;have hj:=hT _ _ ht;have hle:=Gq hc;have B7:=pT ht hT ha;have tX:∀z:List Value,z.drop off=(z.drop off).take j.size++z.drop (off+j.size):=by intro z;rw[<-List.drop_drop,List.take_append_drop]
         rw[tX l,tX m] at hy;obtain⟨p,q,hp,hq,rfl⟩:=vZ (by simp;omega) (by simp;omega) hy;simp only[Op.eqFields,ne_eq,KS,not_false_eq_true,if_true,Sem.run_bind,Zo,p8 hj (m:=l) (show off+j.size<=l.length by omega),
          p8 hj (m:=m) (show off+j.size<=m.length by omega),Result.andThen_ok]
         rw[ih f.type j dep a ht ha (by omega) _ _ p hp];simp only[Result.andThen_ok];cases p with
         |true=>
          simp only[Bool.not_true,Nt,if_false,Bool.true_and];exact ihg _ _ hc CV hn hm q hq w
         |false=>simp
     have rN:=pT (d:=d+1) jO hT (ks:=ks) (by simp only[kinds,jO,hu,hc,hb,cond_true];exact iC);obtain⟨h1,h2⟩:=jg he;have hn:=mH hb;exact key fs.toList 0 ks hc iC (by omega) (by omega) x (by simpa using he) w
   .cases iC
  .rename_i n el hu;rw[hu] at pD;have o7:P.underlying t=some (.array n el):=by rw[hi.u,hu]
   simp only[valOf,pD,mg,cond_true];split at iC
   .rename_i e j5;cases hb:Nat.beq (n*e.size) i.size with
    |false=>simp[hb] at iC
    |true=>
     simp only[hb,cond_true] at iC;split at iC
     .rename_i G7 hk;cases iC;have hE:=hT el e j5;obtain⟨ti,N6,qD,_,_⟩:=hE.info;have hce:P.cellsOf el=e.size:=by rw[<-qD];simp[Program.cellsOf,N6]
      rw[run_equalIn_array w dep ⟨l⟩ ⟨m⟩ o7 N6,hce,List.range_eq_range'];have rN:=pT j5 hT hk;obtain⟨h1,h2⟩:=jg he;rw[wK,rN] at h1 h2;have key:∀(k j:Nat),j+k=n->∀y,bQ (OE G7 k) (l.drop (j*e.size)) (m.drop (j*e.size))=some y->∀w,(Op.eqItems dep el e.size ⟨l⟩ ⟨m⟩ (List.range' j k)).run P w=.ok y w:=by
       intro k;induction k with
       |zero=>
        intro j hj y hy w;have Ry:l.drop (j*e.size)=[]:=UO (by rw[h1];exact DX _ (by omega));have Ab:m.drop (j*e.size)=[]:=UO (by rw[h2];exact DX _ (by omega));rw[Ry,Ab] at hy;simp only[OE,bQ,jm] at hy;subst hy;rfl
       |succ k ihk=>
        intro j hj y hy w;have hle:(j+1)*e.size<=n*e.size:=DX _ (by omega);rw[tw,Nat.one_mul] at hle;have tX:∀z:List Value,z.drop (j*e.size)=(z.drop (j*e.size)).take e.size++z.drop ((j+1)*e.size):=by intro z;rw[tw,Nat.one_mul,<-List.drop_drop,List.take_append_drop]
        rw[tX l,tX m] at hy;obtain⟨p,q,hp,hq,rfl⟩:=vZ (ks:=G7) (by simp;omega) (by simp;omega) hy;simp only[List.range'_succ,Op.eqItems,Sem.run_bind,p8 hE (m:=l) (show j*e.size+e.size<=l.length by omega),
         p8 hE (m:=m) (show j*e.size+e.size<=m.length by omega),Result.andThen_ok]
        rw[ih el e dep G7 j5 hk (by omega) _ _ p hp];simp only[Result.andThen_ok];cases p with
        |true=>
         simp only[Bool.not_true,Nt,if_false,Bool.true_and];exact ihk (j+1) (by omega) q hq w
        |false=>simp
      exact key n 0 (by omega) x (by simpa using he) w
     .cases iC
   .cases iC
  .cases iC
theorem zP(hT:cu P T):∀(d t:Nat)(dep:Nat)(ks:List Nat),kinds T d t=some ks->d<=dep->P.eqGuardType dep t=false:=by
 intro d;induction d with
 |zero=>intro t dep ks h;simp[kinds] at h
 |succ d ih=>
  intro t dep ks iC hd;obtain⟨dep,rfl⟩:∃k,dep=k+1:=⟨dep-1,by omega⟩;simp only[kinds] at iC;split at iC
  .cases iC
  .rename_i i jO;have hi:=hT t i jO;simp only[Program.eqGuardType,hi.u];split at iC
   .rename_i hu;rw[hu]
   .rename_i hu;rw[hu]
   .rename_i hu;rw[hu]
   .rename_i fs hu;rw[hu];split at iC
    .rename_i n hc;cases hb:Nat.beq n i.size with
     |false=>simp[hb] at iC
     |true=>
      simp only[hb,cond_true] at iC;dsimp only;rw[<-Array.any_toList];have key:∀(gs:List Field)(ks:List Nat),mi (kinds T d) gs=some ks->(gs.any fun f=>f.name != "_" &&P.eqGuardType dep f.type)=false:=by
       intro gs;induction gs with
       |nil=>intro _ _;rfl
       |cons f gs ihg=>
        intro ks hk;obtain⟨_,a,b,ha,CV,_⟩:=pS hk;rw[List.any_cons,ihg b CV,ih f.type dep a ha (by omega)];simp
      exact key _ _ iC
    .cases iC
   .rename_i n el hu;rw[hu];dsimp only;split at iC
    .rename_i e he;cases hb:Nat.beq (n*e.size) i.size with
     |false=>simp[hb] at iC
     |true=>
      simp only[hb,cond_true] at iC;split at iC
      .rename_i G7 hk;exact ih el dep G7 hk (by omega)
      .cases iC
    .cases iC
   .cases iC
end
section
variable{P:Program}{CC:bK}{ρ:dE}{h:ae}{w:World}{T:oR}{ng:Nat}{e:Env}{a:Act}{c:Value}
theorem VR.cO{k:IntKind}{n:Int}(h:VR ρ (.int k n) c):c=.int k n:=by
 cases h with
 |val h=>cases h with
  |cell h=>cases h with
   |cell h=>cases h;rfl
theorem VR.iA{b:Bool}(h:VR ρ (.bool b) c):c=.bool b:=by
 cases h with
 |val h=>cases h with
  |cell h=>cases h with
   |cell h=>cases h;rfl
theorem VR.De{s:ByteArray}(h:VR ρ (.string s) c):c=.string s:=by
 cases h with
 |val h=>cases h with
  |cell h=>cases h with
   |cell h=>cases h;rfl
theorem VR.xj{b o:Nat}(h:VR ρ (.pointer (some ⟨b,o,none⟩)) c):∃r,ρ b=some r/\c=.pointer (some ⟨r.aC,r.base+o,none⟩):=by
 cases h with
 |val h=>cases h with
  |cell h=>cases h with
   |cell h=>cases h with
    |ptr h=>exact⟨_,h,rfl⟩
theorem VR.yY(h:VR ρ (.pointer none) c):c=.pointer none:=by
 cases h with
 |val h=>cases h with
  |cell h=>cases h with
   |cell h=>cases h;rfl
theorem VR.EN{x:Addr}(h:VR ρ (.pointer (some x)) c):∃y,c=.pointer (some y):=by
 cases h with
 |val h=>cases h with
  |cell h=>cases h with
   |cell h=>cases h with
    |ptr h=>exact⟨_,rfl⟩
theorem VR.fh{b o n cp:Nat}(h:VR ρ (.slice (some ⟨b,o,none⟩) n cp) c):∃r ca ccap,ρ b=some r/\c=.slice (some ca) n ccap/\r7 r o n cp ca ccap:=by
 cases h with
 |val h=>cases h with
  |cell h=>cases h with
   |cell h=>cases h with
    |slice h hs=>exact⟨_,_,_,h,rfl,hs⟩
theorem VR.iq(h:VR ρ (.slice none n cp) c):c=.slice none n cp:=by
 cases h with
 |val h=>cases h with
  |cell h=>cases h with
   |cell h=>cases h;rfl
theorem VR.qa{x:Option Addr}(h:VR ρ (.slice x n cp) c):∃y ccap,c=.slice y n ccap/\y.isNone=x.isNone:=by
 cases h with
 |val h=>cases h with
  |cell h=>cases h with
   |cell h=>cases h with
    |oz=>exact⟨_,_,rfl,rfl⟩
    |slice h hs=>exact⟨_,_,rfl,rfl⟩
theorem VR.C4{x:Option Nat}(h:VR ρ (.map x) c):∃y,c=.map y/\y.isNone=x.isNone:=by
 cases h with
 |val h=>cases h with
  |cell h=>cases h with
   |cell h=>cases h with
    |yX=>exact⟨_,rfl,rfl⟩
    |map h=>exact⟨_,rfl,rfl⟩
theorem VR.tc(h:VR ρ .nilFunc c):c=.nilFunc:=by
 cases h with
 |val h=>cases h with
  |cell h=>cases h with
   |cell h=>cases h;rfl
theorem VR.Ku{fn:Fn}{x y:Array Value}(h:VR ρ (.func fn x y) c):∃fn' x' y',c=.func fn' x' y':=by
 cases h with
 |val h=>cases h with
  |cell h=>cases h with
   |cell h=>cases h
   |fn=>exact⟨_,_,_,rfl⟩
   |yield=>exact⟨_,_,_,rfl⟩
theorem VR.uw{l:Array Value}(h:VR ρ (.agg l) c):∃m,c=.agg ⟨m⟩/\All2 (KR ρ) l.toList m:=by
 cases h with
 |val h=>cases h with
  |cell h=>exact absurd h.plain.1 (by simp[AI.plain])
  |agg h=>exact⟨_,rfl,h⟩
theorem VR.YE(h:VR ρ (.chan (some n)) c):∃m:Nat,c=.int .i64 m/\n<=m:=by
 cases h with
 |val h=>cases h with
  |cell h=>cases h with
   |cell h=>cases h
 |atl h=>exact⟨_,rfl,h⟩
theorem VR.SY{l:Array Value}(h:VR ρ (.tuple l) c):∃m,c=.tuple ⟨m⟩/\All2 (AR ρ) l.toList m:=by
 cases h with
 |val h=>cases h with
  |cell h=>exact absurd h.plain.1 (by simp[AI.plain])
 |tuple h=>exact⟨_,rfl,h⟩
theorem VR.agg{l m:List Value}(h:All2 (KR ρ) l m):VR ρ (.agg ⟨l⟩) (.agg ⟨m⟩):=.val (.agg h)
theorem Z2(S:cK CC ρ h w)(hE:ER ρ e a.tmps)(hG:cj ng ρ)(hx:bp ng x=true)(hy:bp ng y=true)(hz:bp ng z=true){h':ae}(hv:bw e h (.pick x y z)=some (v,h')):Out CC ρ h w v h' (((do pure (.value (if<-asBool (a.eval x) then a.eval y else a.eval z))):Sem Next).run P w):=by
 have hr:=hE.eval hG hx;simp only[bw] at hv;split at hv
 .rename_i heq;cases hv;rw[heq] at hr;rw[hr.iA];exact Out.same S (by simp[asBool]) (hE.eval hG hy)
 .rename_i heq;cases hv;rw[heq] at hr;rw[hr.iA];exact Out.same S (by simp[asBool]) (hE.eval hG hz)
 .cases hv
theorem qF{k:IntKind}{t:TypeId}{x y:Int}(hv:fq op k x y=some v):
  (binOp op t (.int k x) (.int k y)).run P w=.ok v w/\VR ρ v v:=by
 cases op<;>simp only[fq] at hv<;>first
  |(cases hv;exact⟨by simp[binOp,Op.intBits,Op.intCmp,Op.intArith],CR.vr (by constructor)⟩)
  |(split at hv
    .cases hv
    .rename_i hz;cases hv;refine⟨?_,CR.vr (by constructor)⟩;simp[binOp,Op.intDiv,hz])
  |(cases hv;done)
theorem AD{k k':IntKind}{t:TypeId}{x y:Int}(rO:op=.shl\/op=.shr)(hv:jJ op k x y=some v):
  (binOp op t (.int k x) (.int k' y)).run P w=.ok v w/\VR ρ v v:=by
 unfold jJ at hv;split at hv
 .cases hv
 .rename_i Vo;rcases rO with rfl|rfl<;>(cases hv;refine⟨?_,CR.vr (by constructor)⟩;simp[binOp,Op.shift,Vo])
theorem bZ(h1:p≠ .nilIface)(h2:∀l,p≠ .agg l):(eqGuard op t x y p q).run P w=.ok () w:=by
 have h3:(match p,q with
  |.nilIface,.nilIface=>False
  |.agg _,.agg _=>False
  |_,_=>True):=by
  cases p<;>first|trivial|(exact absurd rfl h1)|(exact absurd rfl (h2 _))|(cases q<;>trivial)
 cases op<;>first
  |rfl
  |(cases p<;>first|rfl|(exact absurd rfl h1)|(exact absurd rfl (h2 _))|(cases q<;>rfl))
theorem FM(h1:op≠ .eql)(h2:op≠ .neq):(eqGuard op t x y p q).run P w=.ok () w:=by unfold eqGuard;cases op<;>first|rfl|(exact absurd rfl h1)|(exact absurd rfl h2)
def Di(T:oR)(t:Nat)(u:TypeDesc)(ks:List Nat):Prop:=
 (∃el,u=.slice el/\ks=[3])\/(∃el,u=.pointer el/\ks=[4])\/(∃k el,u=.map k el/\ks=[5])\/(∃ps rs vr,u=.func ps rs vr/\ks=[6])\/
 (∃(_:Unit) (G7:List Nat),mg u=true/\kinds T 9 t=some G7/\ks=9::G7)\/(u=.bool/\ks=[0])\/(∃k,u=.int k/\ks=[1])\/(u=.string/\ks=[2])
section
variable{t:TypeId}{d:Nat}
theorem e_(hu:P.underlying t=some (.slice el))(n m n' m':Nat)(y:Option Addr):(Op.equalIn (d+1) t (.slice none n m) (.slice y n' m')).run P w=.ok y.isNone w:=by simp only[Op.equalIn,Sem.run_bind,run_underlying hu,Result.andThen_ok,Sem.run_pure]
theorem h_(hu:P.underlying t=some (.slice el))(n m n' m':Nat)(y:Addr):(Op.equalIn (d+1) t (.slice (some y) n m) (.slice none n' m')).run P w=.ok false w:=by simp only[Op.equalIn,Sem.run_bind,run_underlying hu,Result.andThen_ok,Sem.run_pure]
theorem lg(hu:P.underlying t=some (.pointer el))(y:Option Addr):(Op.equalIn (d+1) t (.pointer none) (.pointer y)).run P w=.ok y.isNone w:=by simp only[Op.equalIn,Sem.run_bind,run_underlying hu,Result.andThen_ok,Sem.run_pure]
theorem lh(hu:P.underlying t=some (.pointer el))(y:Addr):(Op.equalIn (d+1) t (.pointer (some y)) (.pointer none)).run P w=.ok false w:=by simp only[Op.equalIn,Sem.run_bind,run_underlying hu,Result.andThen_ok,Sem.run_pure]
theorem Gu{k el:TypeId}(hu:P.underlying t=some (.map k el))(y:Option Nat):(Op.equalIn (d+1) t (.map none) (.map y)).run P w=.ok y.isNone w:=by simp only[Op.equalIn,Sem.run_bind,run_underlying hu,Result.andThen_ok,Sem.run_pure]
theorem lf{k el:TypeId}(hu:P.underlying t=some (.map k el))(y:Nat):(Op.equalIn (d+1) t (.map (some y)) (.map none)).run P w=.ok false w:=by simp only[Op.equalIn,Sem.run_bind,run_underlying hu,Result.andThen_ok,Sem.run_pure]
theorem jh(hu:P.underlying t=some (.func ps rs vr)):(Op.equalIn (d+1) t .nilFunc .nilFunc).run P w=.ok true w:=by simp only[Op.equalIn,Sem.run_bind,run_underlying hu,Result.andThen_ok,Sem.run_pure]
theorem ji(hu:P.underlying t=some (.func ps rs vr))(f:Fn)(x y:Array Value):(Op.equalIn (d+1) t .nilFunc (.func f x y)).run P w=.ok false w:=by simp only[Op.equalIn,Sem.run_bind,run_underlying hu,Result.andThen_ok,Sem.run_pure]
theorem jj(hu:P.underlying t=some (.func ps rs vr))(f:Fn)(x y:Array Value):(Op.equalIn (d+1) t (.func f x y) .nilFunc).run P w=.ok false w:=by simp only[Op.equalIn,Sem.run_bind,run_underlying hu,Result.andThen_ok,Sem.run_pure]
end
theorem jk{b:Bool}(h1:∀k n k' n',¬(p=.int k n/\q=.int k' n'))(h2:∀k n k' n',¬(p=.float k n/\q=.float k' n'))(h4:∀s s',¬(p=.string s/\q=.string s'))(h5:∀k n m k' n' m',¬(p=.complex k n m/\q=.complex k' n' m'))(h3:(Op.equalIn (9999+1) t p q).run P w=.ok b w):
  (binOp .eql t p q).run P w=.ok (.bool b) w/\(binOp .neq t p q).run P w=.ok (.bool (!b)) w:=by
 have h3':(Op.equal t p q).run P w=.ok b w:=h3;constructor
 .unfold binOp;split<;>first
   |(exact absurd ⟨rfl,rfl⟩ (h1 _ _ _ _))
   |(exact absurd ⟨rfl,rfl⟩ (h2 _ _ _ _))
   |(exact absurd ⟨rfl,rfl⟩ (h4 _ _))
   |(exact absurd ⟨rfl,rfl⟩ (h5 _ _ _ _ _ _))
   |contradiction
   |(simp only[Sem.run_bind,h3',Result.andThen_ok,Sem.run_pure];done)
 .unfold binOp;split<;>first
   |(exact absurd ⟨rfl,rfl⟩ (h1 _ _ _ _))
   |(exact absurd ⟨rfl,rfl⟩ (h2 _ _ _ _))
   |(exact absurd ⟨rfl,rfl⟩ (h4 _ _))
   |(exact absurd ⟨rfl,rfl⟩ (h5 _ _ _ _ _ _))
   |contradiction
   |(simp only[Sem.run_bind,h3',Result.andThen_ok,Sem.run_pure];done)
theorem Gv(hT:cu P T){t:Nat}{i:TI}(jO:T t=some i)(NT:Di T t i.u ks){b:Bool}(hv:VR ρ v c)(IL:VR ρ v' c')(he:pB ks v v'=some b){x y:Operand}{op:BinOp} :
  (eqGuard op t x y c c').run P w=.ok () w/\(binOp .eql t c c').run P w=.ok (.bool b) w/\(binOp .neq t c c').run P w=.ok (.bool (!b)) w:=by
 have hi:=hT t i jO;have depth:9<=P.depth:=by unfold Program.depth Made.depth;omega
 unfold pB at he;split at he
 .
  rename_i l l';obtain⟨m,rfl,hm⟩:=hv.uw;obtain⟨m',rfl,NU⟩:=IL.uw;rcases NT with⟨_,_,rfl⟩|⟨_,_,rfl⟩|⟨_,_,_,rfl⟩|⟨_,_,_,_,rfl⟩|⟨fs,G7,hu,hk,rfl⟩|⟨_,rfl⟩|⟨_,_,rfl⟩|⟨_,rfl⟩
  .cases he
  .cases he
  .cases he
  .cases he
  .have NM:=BS hm NU he;have pD:i.agg=true:=by rw[hi.agg,hu]
   have cR:=Gx hT 9 t i 10000 G7 jO hk (by omega) m m' b NM w;simp only[valOf,pD,cond_true] at cR;refine⟨run_eqGuard_agg w op t x y _ _ (zP hT 9 t P.depth G7 hk depth),?_,?_⟩
   .rw[run_eql_struct,cR];rfl
   .rw[run_neq_struct,cR];rfl
  .cases he
  .cases he
  .cases he
 .rename_i PR;have hu:=hi.u;split at he
  .
   have KX:∃el,i.u=.slice el:=by rcases NT with⟨el,h,_⟩|⟨_,_,h⟩|⟨_,_,_,h⟩|⟨_,_,_,_,h⟩|⟨_,_,_,_,h⟩|⟨_,h⟩|⟨_,_,h⟩|⟨_,h⟩<;>first|exact⟨_,h⟩|(simp at h;done)
   obtain⟨el,j5⟩:=KX;rw[j5] at hu;split at he
   .cases he;rw[hv.iq];obtain⟨y',cc,rfl,hy⟩:=IL.qa;refine⟨bZ (by simp) (by simp),jk (by simp) (by simp) (by simp) (by simp) ?_⟩;rw[<-hy];first|exact e_ hu _ _ _ _ _|exact Gu hu _
   .cases he;obtain⟨y',cc,rfl,hy⟩:=hv.qa;rw[IL.iq];refine⟨bZ (by simp) (by simp),?_⟩;cases y' with
    |none=>simp at hy
    |some z=>exact jk (by simp) (by simp) (by simp) (by simp) (by first|exact e_ hu _ _ _ _ _|exact h_ hu _ _ _ _ _|exact lg hu _|exact lh hu _|exact lf hu _|exact jh hu|exact ji hu _ _ _|exact jj hu _ _ _)
   .cases he
  .
   have KX:∃el,i.u=.pointer el:=by rcases NT with⟨el,_,h⟩|⟨_,h,_⟩|⟨_,_,_,h⟩|⟨_,_,_,_,h⟩|⟨_,_,_,_,h⟩|⟨_,h⟩|⟨_,_,h⟩|⟨_,h⟩<;>first|exact⟨_,h⟩|(simp at h;done)
   obtain⟨el,j5⟩:=KX;rw[j5] at hu;split at he
   .rename_i z;cases he;rw[hv.yY];cases z with
    |none=>
     rw[IL.yY];exact⟨bZ (by simp) (by simp),jk (by simp) (by simp) (by simp) (by simp) (by first|exact e_ hu _ _ _ _ _|exact h_ hu _ _ _ _ _|exact lg hu _|exact lh hu _|exact lf hu _|exact jh hu|exact ji hu _ _ _|exact jj hu _ _ _)⟩
    |some z=>
     obtain⟨y',rfl⟩:=IL.EN;exact⟨bZ (by simp) (by simp),jk (by simp) (by simp) (by simp) (by simp) (by first|exact e_ hu _ _ _ _ _|exact h_ hu _ _ _ _ _|exact lg hu _|exact lh hu _|exact lf hu _|exact jh hu|exact ji hu _ _ _|exact jj hu _ _ _)⟩
   .cases he;obtain⟨y',rfl⟩:=hv.EN;rw[IL.yY];exact⟨bZ (by simp) (by simp),jk (by simp) (by simp) (by simp) (by simp) (by first|exact e_ hu _ _ _ _ _|exact h_ hu _ _ _ _ _|exact lg hu _|exact lh hu _|exact lf hu _|exact jh hu|exact ji hu _ _ _|exact jj hu _ _ _)⟩
   .cases he
  .
   have KX:∃k el,i.u=.map k el:=by rcases NT with⟨el,_,h⟩|⟨_,_,h⟩|⟨_,_,h,_⟩|⟨_,_,_,_,h⟩|⟨_,_,_,_,h⟩|⟨_,h⟩|⟨_,_,h⟩|⟨_,h⟩<;>first|exact⟨_,_,h⟩|(simp at h;done)
   obtain⟨k,el,j5⟩:=KX;rw[j5] at hu;split at he
   .cases he;obtain⟨y0,rfl,TB⟩:=hv.C4;obtain⟨y',rfl,hy⟩:=IL.C4;cases y0 with
    |some z=>simp at TB
    |none=>
     refine⟨bZ (by simp) (by simp),jk (by simp) (by simp) (by simp) (by simp) ?_⟩;rw[<-hy];first|exact e_ hu _ _ _ _ _|exact Gu hu _
   .cases he;obtain⟨y0,rfl,TB⟩:=hv.C4;obtain⟨y',rfl,hy⟩:=IL.C4;cases y0 with
    |none=>simp at TB
    |some z=>cases y' with
     |some z=>simp at hy
     |none=>exact⟨bZ (by simp) (by simp),jk (by simp) (by simp) (by simp) (by simp) (by first|exact e_ hu _ _ _ _ _|exact h_ hu _ _ _ _ _|exact lg hu _|exact lh hu _|exact lf hu _|exact jh hu|exact ji hu _ _ _|exact jj hu _ _ _)⟩
   .cases he
  .
   have KX:∃ps rs vr,i.u=.func ps rs vr:=by rcases NT with⟨el,_,h⟩|⟨_,_,h⟩|⟨_,_,_,h⟩|⟨_,_,_,h,_⟩|⟨_,_,_,_,h⟩|⟨_,h⟩|⟨_,_,h⟩|⟨_,h⟩<;>first|exact⟨_,_,_,h⟩|(simp at h;done)
   obtain⟨ps,rs,vr,j5⟩:=KX;rw[j5] at hu;split at he
   .cases he;rw[hv.tc,IL.tc];exact⟨bZ (by simp) (by simp),jk (by simp) (by simp) (by simp) (by simp) (by first|exact e_ hu _ _ _ _ _|exact h_ hu _ _ _ _ _|exact lg hu _|exact lh hu _|exact lf hu _|exact jh hu|exact ji hu _ _ _|exact jj hu _ _ _)⟩
   .cases he;obtain⟨_,_,_,rfl⟩:=IL.Ku;rw[hv.tc];exact⟨bZ (by simp) (by simp),jk (by simp) (by simp) (by simp) (by simp) (by first|exact e_ hu _ _ _ _ _|exact h_ hu _ _ _ _ _|exact lg hu _|exact lh hu _|exact lf hu _|exact jh hu|exact ji hu _ _ _|exact jj hu _ _ _)⟩
   .cases he;obtain⟨_,_,_,rfl⟩:=hv.Ku;rw[IL.tc];exact⟨bZ (by simp) (by simp),jk (by simp) (by simp) (by simp) (by simp) (by first|exact e_ hu _ _ _ _ _|exact h_ hu _ _ _ _ _|exact lg hu _|exact lh hu _|exact lf hu _|exact jh hu|exact ji hu _ _ _|exact jj hu _ _ _)⟩
   .cases he
  .
   unfold ig at he;split at he
   .have hb:i.u=.bool:=by rcases NT with⟨el,_,h⟩|⟨_,_,h⟩|⟨_,_,_,h⟩|⟨_,_,_,_,h⟩|⟨_,_,_,_,h⟩|⟨h,_⟩|⟨_,_,h⟩|⟨_,h⟩<;>first|exact h|(simp at h;done)
    cases he;rw[hv.iA,IL.iA];rw[hb] at hu;exact⟨bZ (by simp) (by simp),jk (by simp) (by simp) (by simp) (by simp) (run_equalIn_bool' w _ t _ _ hu)⟩
   .rw[hv.cO,IL.cO];split at he
    .rename_i hk;subst hk;cases he;refine⟨bZ (by simp) (by simp),?_,?_⟩
     .simp[binOp,Op.intCmp]
     .simp only[binOp,ne_eq,not_true_eq_false,if_false,Op.intCmp,Sem.run_pure];rfl
    .cases he
   .cases he;rw[hv.De,IL.De];refine⟨bZ (by simp) (by simp),?_,?_⟩
    .simp[binOp,Op.stringOp,beq_toListBytes]
    .simp[binOp,Op.stringOp,beq_toListBytes]
   .cases he
  .cases he
end
section
variable{P:Program}{CC:bK}{ρ:dE}{h h':ae}{w:World}{T:oR}{ng:Nat}{e:Env}{a:Act}{c v:Value}
theorem Ot{t:TypeId}(S:cK CC ρ h w)(hE:ER ρ e a.tmps)(hG:cj ng ρ)(hx:bp ng x=true)(hy:bp ng y=true)(hn:op≠ .eql/\op≠ .neq)(hv:bw e h (.bin op ks x y)=some (v,h')):
  Out CC ρ h w v h' (((do pure (Next.value (<-(do eqGuard op t x y (a.eval x) (a.eval y);binOp op t (a.eval x) (a.eval y))))):Sem Next).run P w):=by
 have eu:=hE.eval hG hx;have oZ:=hE.eval hG hy;simp only[bw] at hv;split at hv
 .rename_i r hb;cases hv;have key:(binOp op t (a.eval x) (a.eval y)).run P w=.ok v w/\VR ρ v v:=by
   unfold Uk at hb;split at hb
   .split at hb
    .rename_i h1 h2;rw[h1] at eu;rw[h2] at oZ;rw[eu.cO,oZ.cO];exact AD (.inl rfl) hb
    .cases hb
   .split at hb
    .rename_i h1 h2;rw[h1] at eu;rw[h2] at oZ;rw[eu.cO,oZ.cO];exact AD (.inr rfl) hb
    .cases hb
   .exact absurd rfl hn.1
   .exact absurd rfl hn.2
   .split at hb
    .rename_i h1 h2;rw[h1] at eu;rw[h2] at oZ;rw[eu.cO,oZ.cO];split at hb
     .rename_i hk;subst hk;exact qF hb
     .cases hb
    .rename_i x' iL h1 h2;rw[h1] at eu;rw[h2] at oZ;rw[eu.cO];obtain⟨m,hm,hle⟩:=oZ.YE;rw[hm];split at hb
     .rename_i hle';cases hb;have ac7:decide (x'>(m:Int))=false:=by simp;omega
      have:=qF (op:=.gtr) (t:=t) (k:=.i64) (x:=x') (y:=(m:Int)) (P:=P) (w:=w) (ρ:=ρ) (v:=.bool false) (by simp only[fq];rw[ac7]);exact this
     .cases hb
    .cases hb
   .split at hb
    .rename_i h1 h2;rw[h1] at eu;rw[h2] at oZ;rw[eu.cO,oZ.cO];split at hb
     .rename_i hk;subst hk;exact qF hb
     .cases hb
    .cases hb
  refine Out.same S (cS ?_) key.2;simp only[Sem.run_bind,FM hn.1 hn.2,Result.andThen_ok,key.1]
 .cases hv
theorem Sj(hT:cu P T){i:TI}(S:cK CC ρ h w)(hE:ER ρ e a.tmps)(hG:cj ng ρ)(hx:bp ng x=true)(hy:bp ng y=true)(rO:op=.eql\/op=.neq)(jO:T t=some i)(NT:Di T t i.u ks)(hv:bw e h (.bin op ks x y)=some (v,h')):
  Out CC ρ h w v h' (((do pure (Next.value (<-(do eqGuard op t x y (a.eval x) (a.eval y);binOp op t (a.eval x) (a.eval y))))):Sem Next).run P w):=by
 have eu:=hE.eval hG hx;have oZ:=hE.eval hG hy;simp only[bw] at hv;split at hv
 .rename_i r hb;cases hv;have key:(eqGuard op t x y (a.eval x) (a.eval y)).run P w=.ok () w/\(binOp op t (a.eval x) (a.eval y)).run P w=.ok v w/\VR ρ v v:=by
   rcases rO with rfl|rfl
   .simp only[Uk] at hb;split at hb
    .rename_i h1 h2;rw[h1] at eu;rw[h2] at oZ;rw[eu.cO,oZ.cO];split at hb
     .rename_i hk;subst hk;exact⟨bZ (by simp) (by simp),qF hb⟩
     .cases hb
    .split at hb
     .rename_i b he;cases hb;have:=Gv (w:=w) hT jO NT eu oZ he (x:=x) (y:=y) (op:=.eql);exact⟨this.1,this.2.1,VR.bool _⟩
     .cases hb
   .simp only[Uk] at hb;split at hb
    .rename_i h1 h2;rw[h1] at eu;rw[h2] at oZ;rw[eu.cO,oZ.cO];split at hb
     .rename_i hk;subst hk;exact⟨bZ (by simp) (by simp),qF hb⟩
     .cases hb
    .split at hb
     .rename_i b he;cases hb;have:=Gv (w:=w) hT jO NT eu oZ he (x:=x) (y:=y) (op:=.neq);exact⟨this.1,this.2.2,VR.bool _⟩
     .cases hb
  refine Out.same S (cS ?_) key.2.2;simp only[Sem.run_bind,key.1,Result.andThen_ok,key.2.1]
 .cases hv
theorem ajq{op:UnOp}(S:cK CC ρ h w)(hE:ER ρ e a.tmps)(hG:cj ng ρ)(hx:bp ng x=true)(hv:bw e h (.un op x)=some (v,h')):
  Out CC ρ h w v h' (((do pure (Next.value (<-Op.unary op (a.eval x)))):Sem Next).run P w):=by
 have eu:=hE.eval hG hx;simp only[bw] at hv;split at hv
 .rename_i r hb;cases hv;unfold unV at hb;split at hb
  .rename_i h1;cases hb;rw[h1] at eu;rw[eu.cO];exact Out.same S (cS (by simp[Op.unary,Op.intArith])) (VR.int _ _)
  .rename_i h1;cases hb;rw[h1] at eu;rw[eu.cO];exact Out.same S (cS (by simp[Op.unary,Op.intBits])) (VR.int _ _)
  .rename_i h1;cases hb;rw[h1] at eu;rw[eu.iA];exact Out.same S (cS (by simp[Op.unary])) (VR.bool _)
  .cases hb
 .cases hv
theorem ZZ(hT:cu P T){s d:TypeId}{i j:TI}{ks k:IntKind}(hs:T s=some i)(hd:T d=some j)(hsu:i.u=.int ks)(hdu:j.u=.int k)(S:cK CC ρ h w)(hE:ER ρ e a.tmps)(hG:cj ng ρ)(hx:bp ng x=true)(hv:bw e h (.conv k x)=some (v,h')):Out CC ρ h w v h' (((do pure (Next.value (<-convert s d (a.eval x)))):Sem Next).run P w):=by
 have eu:=hE.eval hG hx;simp only[bw] at hv;split at hv
 .rename_i h1;cases hv;rw[h1] at eu;rw[eu.cO];have h2:=(hT s i hs).u;rw[hsu] at h2;have h3:=(hT d j hd).u;rw[hdu] at h3;exact Out.same S (cS (by simp[convert,run_underlying h2,run_underlying h3,Conv.intToInt])) (VR.int _ _)
 .cases hv
theorem AK(hE:ER ρ e a.tmps)(hG:cj ng ρ):∀l:List Operand,l.all (bp ng)=true->All2 (VR ρ) (tI e l) (l.map a.eval)
 |[],_=>.nil
 |x::l,hl=>by simp only[List.all_cons,uh] at hl;exact .cons (hE.eval hG hl.1) (AK hE hG l hl.2)
theorem ON(h:All2 (VR ρ) l m):l.all simple=true->All2 (CR ρ) l m:=by
 induction h with
 |nil=>intro _;exact .nil
 |cons h _ ih=>
  intro hs;simp only[List.all_cons,uh] at hs;exact .cons (CR.xd h hs.1) (ih hs.2)
theorem Z1{f:FuncId}{first caps:Array Operand}(S:cK CC ρ h w)(hE:ER ρ e a.tmps)(hG:cj ng ρ)(hf:first.isEmpty=true)(hx:caps.toList.all (bp ng)=true)(hv:bw e h (.uM f caps.toList)=some (v,h')):Out CC ρ h w v h' (((do pure (Next.value (<-Instr.makeFunc (.func f) (first.map a.eval) (caps.map a.eval)))):Sem Next).run P w):=by
 have hr:=AK hE hG caps.toList hx;simp only[bw] at hv;cases hs:(tI e caps.toList).all simple with
 |false=>simp[hs] at hv
 |true=>
  simp only[hs,cond_true,jm,vz] at hv;obtain⟨rfl,rfl⟩:=hv;have hf0:first= #[]:=by simpa using hf
  subst hf0;refine Out.same S (c:=.func (.func f) #[] ⟨caps.toList.map a.eval⟩) (cS ?_) (KR.fn f (ON hr hs)).vr;have hm:caps.map a.eval=⟨caps.toList.map a.eval⟩:=by apply Array.ext';simp
  simp[Instr.makeFunc,hm]
theorem Sl(S:cK CC ρ h w)(hE:ER ρ e a.tmps)(hG:cj ng ρ)(hx:bp ng x=true){ty:TypeId}{pos:String}{aft:Array Edge}{gd:Option (Nat×Bool)}{dst:Option Tmp}(hv:bw e h (.uS x)=some (v,h')):Out CC ρ h w v h' ((execOp a.eval { dst:=dst,op:=.nilCheck x,type:=ty,pos:=pos,after:=aft,guard:=gd }).run P w):=by
 have eu:=hE.eval hG hx;simp only[bw] at hv;split at hv
 .rename_i y h1;cases hv;rw[h1] at eu;obtain⟨z,hz⟩:=eu.EN;refine Out.same S (c:=.pointer (some z)) ?_ (by rw[hz] at eu;exact eu);simp[execOp,hz]
 .cases hv
theorem aeq(S:cK CC ρ h w)(hE:ER ρ e a.tmps)(hG:cj ng ρ)(hx:bp ng x=true)(hv:bw e h (.ext i x)=some (v,h')):
  Out CC ρ h w v h' (((do pure (Next.value (<-Instr.extract (a.eval x) i))):Sem Next).run P w):=by
 have eu:=hE.eval hG hx;simp only[bw] at hv;split at hv
 .rename_i l h1;split at hv
  .rename_i u h2;cases hv;rw[h1] at eu;obtain⟨m,hm,hk⟩:=eu.SY;obtain⟨c,hc,hr⟩:=hk.get h2;rw[hm];refine Out.same S (c:=c) (cS ?_) (.val hr);have:(⟨m⟩:Array Value)[i]?=some c:=by rw[<-hc];simp
   simp[Instr.extract,this]
  .cases hv
 .cases hv
theorem aer(hT:cu P T){i:TI}(jO:T t=some i)(hu:i.u=.slice el){ty:TypeId}(S:cK CC ρ h w)(hE:ER ρ e a.tmps)(hG:cj ng ρ)(hx:bp ng x=true)(hv:bw e h (.uC x)=some (v,h')):
  Out CC ρ h w v h' (((do pure (Next.value (<-Builtin.len_ #[t] ty #[a.eval x]))):Sem Next).run P w):=by
 have eu:=hE.eval hG hx;have hi:=(hT t i jO).u;rw[hu] at hi;simp only[bw] at hv;split at hv
 .rename_i h1;cases hv;rw[h1] at eu;obtain⟨y,cc,hy,_⟩:=eu.qa;rw[hy];exact Out.same S (cS (by simp[Builtin.len_,run_underlying hi,goInt])) (VR.int _ _)
 .cases hv
theorem aep(hT:cu P T){i:TI}(jO:T t=some i)(hu:i.u=.slice el){ty:TypeId}(S:cK CC ρ h w)(hE:ER ρ e a.tmps)(hG:cj ng ρ)(hx:bp ng x=true)(hv:bw e h (.MU x)=some (v,h')):
  Out CC ρ h w v h' (((do pure (Next.value (<-Builtin.cap_ #[t] ty #[a.eval x]))):Sem Next).run P w):=by
 have eu:=hE.eval hG hx;have hi:=(hT t i jO).u;rw[hu] at hi;simp only[bw] at hv;split at hv
 .rename_i h1;cases hv;rw[h1] at eu;rw[eu.iq];exact Out.same S (cS (by simp[Builtin.cap_,run_underlying hi,goInt])) (VR.int _ _)
 .rename_i b off len cp h1;rw[h1] at eu;obtain⟨r,ca,ccap,hr,hc,hs⟩:=eu.fh;rw[hc];split at hv
  .rename_i cs ro o st hb;have Vq:=S.obj b r _ hr hb;obtain⟨ep,Ih,fr,_,_,Rr,_⟩:=Vq;have cR:(Builtin.cap_ #[t] ty #[.slice (some ca) len ccap]).run P w=.ok (.int .i64 ccap) w:=by simp[Builtin.cap_,run_underlying hi,goInt]
   cases ho:Nat.beq o 0 with
   |true=>
    simp only[ho,if_true] at hv;cases hv;have ho0:=mH ho;have:ccap=cp:=by
     rcases hs.2.1 with h|⟨h,_⟩
     .exact h
     .exact absurd (Rr.trans ho0) h
    rw[this] at cR⊢;exact Out.same S (cS cR) (VR.int _ _)
   |false=>
    simp only[ho,Nt,if_false] at hv;cases hv;have:cp<=ccap:=by
     rcases hs.2.1 with h|⟨_,h,_⟩
     .omega
     .exact h
    exact Out.same S (cS cR) (.atl this)
  .cases hv
 .cases hv
theorem Z3(hT:cu P T){i:TI}(jO:T t=some i)(hu:i.u=.string){ty:TypeId}(S:cK CC ρ h w)(hE:ER ρ e a.tmps)(hG:cj ng ρ)(hx:bp ng x=true)(hv:bw e h (.Jt x)=some (v,h')):
  Out CC ρ h w v h' (((do pure (Next.value (<-Builtin.len_ #[t] ty #[a.eval x]))):Sem Next).run P w):=by
 have eu:=hE.eval hG hx;have hi:=(hT t i jO).u;rw[hu] at hi;simp only[bw] at hv;split at hv
 .rename_i h1;cases hv;rw[h1] at eu;rw[eu.De];exact Out.same S (cS (by simp[Builtin.len_,run_underlying hi,goInt])) (VR.int _ _)
 .cases hv
theorem aes{ts:Array TypeId}{ty:TypeId}(S:cK CC ρ h w)(hE:ER ρ e a.tmps)(hG:cj ng ρ)(hx:bp ng x=true)(hy:bp ng y=true)(hv:bw e h (.MV x y)=some (v,h')):
  Out CC ρ h w v h' (((do pure (Next.value (<-Builtin.min_ ts ty #[a.eval x,a.eval y]))):Sem Next).run P w):=by
 have eu:=hE.eval hG hx;have oZ:=hE.eval hG hy;simp only[bw] at hv;split at hv
 .rename_i h1 h2;split at hv
  .rename_i hk;subst hk;cases hv;rw[h1] at eu;rw[h2] at oZ;rw[eu.cO,oZ.cO];exact Out.same S (cS (by simp[Builtin.min_,Builtin.min2])) (VR.int _ _)
  .cases hv
 .cases hv
theorem Wx(hT:cu P T){i fi:TI}{k:Nat}(jO:T t=some i)(hu:i.u=.struct fs)(hf:fs[k]?=some f)(NP:T f.type=some fi)(hz:fi.size≠0)(S:cK CC ρ h w)(hE:ER ρ e a.tmps)(hG:cj ng ρ)(hx:bp ng x=true)(hv:bw e h (.cP f.offset x)=some (v,h')):
  Out CC ρ h w v h' (((do pure (Next.value (<-Instr.fieldAt t (a.eval x) k))):Sem Next).run P w):=by
 have eu:=hE.eval hG hx;have hi:=(hT t i jO).u;rw[hu] at hi;simp only[bw] at hv;split at hv
 .rename_i b o h1;cases hv;rw[h1] at eu;obtain⟨r,hr,hc⟩:=eu.xj;rw[hc];refine Out.same S (c:=.pointer (some ⟨r.aC,r.base+(o+f.offset),none⟩)) (cS ?_) (CR.ptr hr).vr;simp[Instr.fieldAt,run_underlying hi,hf,Instr.sureAddr,fieldPlace,(fy (w:=w) (hT _ _ NP)).1,hz,nN,BW]
 .cases hv
theorem EA(hT:cu P T){i ei:TI}(jO:T t=some i)(hu:i.u=.slice el)(j5:T el=some ei)(S:cK CC ρ h w)(hE:ER ρ e a.tmps)(hG:cj ng ρ)(hx:bp ng x=true)(hy:bp ng y=true)(hv:bw e h (.dt none ei.size x y)=some (v,h')):
  Out CC ρ h w v h' (((do pure (Next.value (<-Instr.indexAt t (a.eval x) (a.eval y)))):Sem Next).run P w):=by
 have eu:=hE.eval hG hx;have oZ:=hE.eval hG hy;have hi:=(hT t i jO).u;rw[hu] at hi;simp only[bw] at hv;split at hv
 .rename_i k n h1;split at hv
  .contradiction
  .rename_i b o len cp _ h2;by_cases dS:n<len
   .have hb:Nat.blt n len=true:=by simp[Nat.blt_eq];exact dS
    simp only[hb,if_true,jm,vz] at hv;obtain⟨rfl,rfl⟩:=hv;rw[h1] at oZ;rw[h2] at eu;rw[oZ.cO];obtain⟨r,ca,cc,hr,hc,⟨KJ,U_,hle⟩⟩:=eu.fh;rw[hc];have U9:ca=⟨r.aC,r.base+o,none⟩:=by
     rcases KJ with h|⟨_,h⟩
     .exact h
     .omega
    subst U9;refine Out.same S (c:=.pointer (some ⟨r.aC,r.base+(o+n*ei.size),none⟩)) (cS ?_) (CR.ptr hr).vr;have AQ:(0:Int)<=Int.ofNat n/\Int.ofNat n<(len:Int):=⟨Int.natCast_nonneg n,by exact Int.ofNat_lt.2 dS⟩;simp only[Instr.indexAt,asIntOf,Sem.run_bind,Sem.run_pure,Result.andThen_ok,run_underlying hi];rw[aZ AQ];simp[(fy (w:=w) (hT _ _ j5)).1,nN,BW]
   .have hb:Nat.blt n len=false:=by
     cases hb:Nat.blt n len with
     |false=>rfl
     |true=>exact absurd (by simpa [Nat.blt_eq] using hb) dS
    simp[hb] at hv
  .cases hv
 .cases hv
theorem Ez(hT:cu P T){m:Nat}{i ei:TI}(jO:T t=some i)(hu:i.u=.array m el)(j5:T el=some ei)(S:cK CC ρ h w)(hE:ER ρ e a.tmps)(hG:cj ng ρ)(hx:bp ng x=true)(hy:bp ng y=true)(hv:bw e h (.dt (some m) ei.size x y)=some (v,h')):
  Out CC ρ h w v h' (((do pure (Next.value (<-Instr.indexAt t (a.eval x) (a.eval y)))):Sem Next).run P w):=by
 have eu:=hE.eval hG hx;have oZ:=hE.eval hG hy;have hi:=(hT t i jO).u;rw[hu] at hi;simp only[bw] at hv;split at hv
 .rename_i k n h1;split at hv
  .rename_i m' b o GK h2;cases GK;by_cases dS:n<m
   .have hb:Nat.blt n m=true:=by simp[Nat.blt_eq];exact dS
    simp only[hb,if_true,jm,vz] at hv;obtain⟨rfl,rfl⟩:=hv;rw[h1] at oZ;rw[h2] at eu;rw[oZ.cO];obtain⟨r,hr,hc⟩:=eu.xj;rw[hc];refine Out.same S (c:=.pointer (some ⟨r.aC,r.base+(o+n*ei.size),none⟩)) (cS ?_) (CR.ptr hr).vr;have AQ:(0:Int)<=Int.ofNat n/\Int.ofNat n<(m:Int):=⟨Int.natCast_nonneg n,by exact Int.ofNat_lt.2 dS⟩;simp only[Instr.indexAt,asIntOf,Sem.run_bind,Sem.run_pure,Result.andThen_ok,run_underlying hi,Instr.sureAddr];rw[aZ AQ];simp[(fy (w:=w) (hT _ _ j5)).1,nN,BW]
   .have hb:Nat.blt n m=false:=by
     cases hb:Nat.blt n m with
     |false=>rfl
     |true=>exact absurd (by simpa [Nat.blt_eq] using hb) dS
    simp[hb] at hv
  .contradiction
  .cases hv
 .cases hv
theorem Wy(hT:cu P T){i fi:TI}{k:Nat}(jO:T t=some i)(hu:i.u=.struct fs)(hf:fs[k]?=some f)(NP:T f.type=some fi)(S:cK CC ρ h w)(hE:ER ρ e a.tmps)(hG:cj ng ρ)(hx:bp ng x=true)(hv:bw e h (.field f.offset (xu fi) x)=some (v,h')):
  Out CC ρ h w v h' (((do pure (Next.value (<-Instr.field t (a.eval x) k))):Sem Next).run P w):=by
 have eu:=hE.eval hG hx;have hi:=(hT t i jO).u;rw[hu] at hi;simp only[bw] at hv;split at hv
 .rename_i l h1;split at hv
  .rename_i u h2;cases hv;rw[h1] at eu;obtain⟨m,hm,hk⟩:=eu.uw;obtain⟨c,hc,hr⟩:=Lz (w:=w) (hT _ _ NP) hk h2;rw[hm];refine Out.same S (c:=c) (cS ?_) hr;simp only[Instr.field,Sem.run_bind,run_underlying hi,Result.andThen_ok,hf,asAgg,Sem.run_pure,hc]
  .cases hv
 .cases hv
theorem I6(hT:cu P T){i:TI}(jO:T t=some i)(hu:i.u=.string)(S:cK CC ρ h w)(hE:ER ρ e a.tmps)(hG:cj ng ρ)(hx:bp ng x=true)(hy:bp ng y=true)(hv:bw e h (.index none x y)=some (v,h')):
  Out CC ρ h w v h' (((do pure (Next.value (<-Instr.index t (a.eval x) (a.eval y)))):Sem Next).run P w):=by
 have eu:=hE.eval hG hx;have oZ:=hE.eval hG hy;have hi:=(hT t i jO).u;rw[hu] at hi;simp only[bw] at hv;split at hv
 .rename_i k n h1;split at hv
  .contradiction
  .rename_i s _ h2;split at hv
   .rename_i b hb;cases hv;rw[h1] at oZ;rw[h2] at eu;rw[oZ.cO,eu.De];refine Out.same S (cS ?_) (VR.int _ _);have h0:(0:Int)<=Int.ofNat n:=Int.natCast_nonneg n;simp only[Instr.index,asIntOf,Sem.run_bind,Sem.run_pure,Result.andThen_ok,run_underlying hi];simp only[h0,if_true];have:(Int.ofNat n).toNat=n:=rfl;rw[this,hb];rfl
   .cases hv
  .cases hv
 .cases hv
theorem I5(hT:cu P T){i ei:TI}(jO:T t=some i)(hu:i.u=.array len el)(j5:T el=some ei)(S:cK CC ρ h w)(hE:ER ρ e a.tmps)(hG:cj ng ρ)(hx:bp ng x=true)(hy:bp ng y=true)(hv:bw e h (.index (some (len,ei.size,xu ei)) x y)=some (v,h')):
  Out CC ρ h w v h' (((do pure (Next.value (<-Instr.index t (a.eval x) (a.eval y)))):Sem Next).run P w):=by
 have eu:=hE.eval hG hx;have oZ:=hE.eval hG hy;have hi:=(hT t i jO).u;rw[hu] at hi;simp only[bw] at hv;split at hv
 .rename_i k n h1;split at hv
  .rename_i len' auN n' l GK h2;cases GK;by_cases dS:n<len
   .have hb:Nat.blt n len=true:=by simp[Nat.blt_eq];exact dS
    simp only[hb,if_true] at hv;split at hv
    .rename_i u hu2;cases hv;rw[h1] at oZ;rw[h2] at eu;rw[oZ.cO];obtain⟨m,hm,hk⟩:=eu.uw;obtain⟨c,hc,hr⟩:=Lz (w:=w) (hT _ _ j5) hk hu2;rw[hm];refine Out.same S (c:=c) (cS ?_) hr;have AQ:(0:Int)<=Int.ofNat n/\Int.ofNat n<(len:Int):=⟨Int.natCast_nonneg n,by exact Int.ofNat_lt.2 dS⟩;simp only[Instr.index,asIntOf,Sem.run_bind,Sem.run_pure,Result.andThen_ok,run_underlying hi];rw[aZ AQ];simp only[Sem.run_bind,(fy (w:=w) (hT _ _ j5)).1,Result.andThen_ok];exact hc
    .cases hv
   .have hb:Nat.blt n len=false:=by
     cases hb:Nat.blt n len with
     |false=>rfl
     |true=>exact absurd (by simpa [Nat.blt_eq] using hb) dS
    simp[hb] at hv
  .contradiction
  .cases hv
 .cases hv
end
section
variable{P:Program}{CC:bK}{ρ:dE}{h h':ae}{w:World}{T:oR}{ng:Nat}{e:Env}{a:Act}{c v:Value}
theorem Wz(hT:cu P T){i:TI}(jO:T t=some i)(S:cK CC ρ h w)(hE:ER ρ e a.tmps)(hG:cj ng ρ)(hx:bp ng x=true)(hv:bw e h (.load (xu i) x)=some (v,h')):Out CC ρ h w v h' (((do pure (Next.value (<-Instr.loadAt t (a.eval x)))):Sem Next).run P w):=by
 have eu:=hE.eval hG hx;simp only[bw] at hv;split at hv
 .rename_i b off h1;split at hv
  .rename_i cs h2;split at hv
   .rename_i u h3;cases hv;rw[h1] at eu;obtain⟨r,hr,hc⟩:=eu.xj;obtain⟨c,cR,adG⟩:=Qi S (hT t i jO) hr h2 h3;rw[hc];exact Out.same S (c:=c) (cS (by simp[Instr.loadAt,Instr.sureAddr,cR])) adG
   .cases hv
  .cases hv
 .cases hv
theorem Sm(hT:cu P T){i:TI}(jO:T t=some i)(S:cK CC ρ h w)(hE:ER ρ e a.tmps)(hG:cj ng ρ)(hx:bp ng x=true)(hy:bp ng y=true)(hv:bw e h (.store i.size x y)=some (v,h')):Out CC ρ h w v h' (((do Instr.storeAt t (a.eval x) (a.eval y);pure Next.skip):Sem Next).run P w):=by
 have eu:=hE.eval hG hx;have oZ:=hE.eval hG hy;simp only[bw] at hv;split at hv
 .rename_i b off h1;split at hv
  .rename_i vs h2;split at hv
   .rename_i h3;split at hv
    .rename_i hh h4;cases hv;rw[h1] at eu;obtain⟨r,hr,hc⟩:=eu.xj;obtain⟨w',cR,S',E'⟩:=WE S (hT t i jO) hr oZ h2 (mH h3) h4;rw[hc];refine⟨ρ,w',undef,.inr ⟨rfl,?_⟩,VR.undef,S',E'⟩;simp[Instr.storeAt,Instr.sureAddr,cR]
    .cases hv
   .cases hv
  .cases hv
 .cases hv
theorem zF(x:Sem α)(f:α->β):(f <$> x).run P w=(x.run P w).andThen fun y w'=>.ok (f y) w':=Sem.run_map P w x f
theorem HI(f:α->Sem β)(g:α->β)(l:Array α)(hx:∀x∈l.toList,(f x).run P w=.ok (g x) w):(l.mapM f).run P w=.ok (l.map g) w:=by
 have key:∀(m:List α)(acc:Array β),(∀x∈m,(f x).run P w=.ok (g x) w)->(m.foldlM (fun bs x=>bs.push <$> f x) acc).run P w=.ok (acc++(m.map g).toArray) w:=by
  intro m;induction m with
  |nil=>intro acc _;simp
  |cons x m ih=>
   intro acc hm;simp only[List.foldlM_cons,Sem.run_bind,zF,hm x (by simp),Result.andThen_ok];rw[ih _ (fun y hy=>hm y (by simp[hy]))];congr 1;apply Array.ext';simp
 rw[Array.mapM_eq_foldlM,<-Array.foldlM_toList];rw[key l.toList #[] hx];congr 1;apply Array.ext';simp
theorem Oy{fs:List Field} :∀ {ps:List (Nat×Operand)} {qs:List (Nat×Nat×Operand)},uW T fs ps=some qs->(fs.all fun f=>(T f.type).isSome)=true->
  All2 (fun(p:Nat×Operand) (q:Nat×Nat×Operand)=>((fs.map fun f=>(f.offset,((T f.type).map (·.size)).getD 0)).toArray[p.1]?)=some (q.1,q.2.1)/\q.2.2=p.2) ps qs:=by
 intro ps;induction ps with
 |nil=>intro qs h _;simp only[uW,jm] at h;subst h;exact .nil
 |cons p ps ih=>
  intro qs h mD;obtain⟨j,x⟩:=p;simp only[uW] at h;split at h
  .cases h
  .rename_i f hf;split at h
   .rename_i ti l ht hl;cases h;refine .cons ⟨?_,rfl⟩ (ih hl mD);simp[hf,ht]
   .cases h
theorem CN(hT:cu P T){i:TI}{ps:Array (Nat×Operand)}{qs:List (Nat×Nat×Operand)}(jO:T t=some i)(hu:i.u=.struct fs)(mD:(fs.toList.all fun f=>(T f.type).isSome)=true)(hq:uW T fs.toList ps.toList=some qs)(S:cK CC ρ h w)(hE:ER ρ e a.tmps)(hG:cj ng ρ)(hx:(ps.toList.map (·.2)).all (bp ng)=true)(hv:bw e h (.build i.zero qs)=some (v,h')):
  Out CC ρ h w v h' (((do pure (Next.value (<-Instr.build t (ps.map fun p=>(p.1,a.eval p.2))))):Sem Next).run P w):=by
 have hi:=hT t i jO;have Tw:=hi.u;rw[hu] at Tw;simp only[bw] at hv;split at hv
 .rename_i cs h1;cases hv;obtain⟨z,hz,N9⟩:=wO (w:=w) hi;obtain⟨s,hs,hk⟩:=DQ (ρ:=ρ) (a:=a) (ng:=ng) hE hG _ ps.toList qs i.zero i.zero cs (by simpa [List.all_map] using hx) (Oy hq mD) (dH hi.zero) h1;refine Out.same S (c:=.agg ⟨s⟩) (cS ?_) (VR.agg hk);have uj:(fs.mapM fun f=>(do pure (f.offset,<-sizeOf f.type):Sem (Nat×Nat))).run P w=.ok (fs.map fun f=>(f.offset,((T f.type).map (·.size)).getD 0)) w:=by refine HI _ _ fs ?_;intro f hf;have aiM:=List.all_eq_true.1 mD f hf;obtain⟨fi,NP⟩:=Option.isSome_iff_exists.1 aiM;simp[(fy (w:=w) (hT _ _ NP)).1,NP]
  have PY:z.cells=⟨i.zero⟩:=by apply Array.ext';simpa using N9
  have hpp:(ps.map fun p=>(p.1,a.eval p.2)).toList=ps.toList.map fun p=>(p.1,a.eval p.2):=by simp
  have hpa:(fs.toList.map fun f=>(f.offset,((T f.type).map (·.size)).getD 0)).toArray=fs.map fun f=>(f.offset,((T f.type).map (·.size)).getD 0):=by apply Array.ext';simp
  rw[hpa] at hs;simp only[Instr.build,Sem.run_bind,hz,Result.andThen_ok,run_underlying Tw,uj,PY,hpp,hs,Sem.run_pure]
 .cases hv
theorem uy{el:TI} :∀ps:List (Nat×Operand),
  All2 (fun(p:Nat×Operand) (q:Nat×Nat×Operand)=>(fun i=>some (i*el.size,el.size)) p.1=some (q.1,q.2.1)/\q.2.2=p.2) ps (ps.map fun p=>(p.1*el.size,el.size,p.2))
 |[]=>.nil
 |_::ps=>.cons ⟨rfl,rfl⟩ (uy ps)
theorem Ey(hT:cu P T){i ei:TI}{ps:Array (Nat×Operand)}(jO:T t=some i)(hu:i.u=.array n el)(j5:T el=some ei)(S:cK CC ρ h w)(hE:ER ρ e a.tmps)(hG:cj ng ρ)(hx:(ps.toList.map (·.2)).all (bp ng)=true)(hv:bw e h (.build i.zero (ps.toList.map fun p=>(p.1*ei.size,ei.size,p.2)))=some (v,h')):
  Out CC ρ h w v h' (((do pure (Next.value (<-Instr.build t (ps.map fun p=>(p.1,a.eval p.2))))):Sem Next).run P w):=by
 have hi:=hT t i jO;have Tw:=hi.u;rw[hu] at Tw;simp only[bw] at hv;split at hv
 .rename_i cs h1;cases hv;obtain⟨z,hz,N9⟩:=wO (w:=w) hi;obtain⟨s,hs,hk⟩:=DQ (ρ:=ρ) (a:=a) (ng:=ng) hE hG (fun i=>some (i*ei.size,ei.size)) ps.toList _ i.zero i.zero cs (by simpa [List.all_map] using hx) (uy (el:=ei) ps.toList) (dH hi.zero) h1;refine Out.same S (c:=.agg ⟨s⟩) (cS ?_) (VR.agg hk);have PY:z.cells=⟨i.zero⟩:=by apply Array.ext';simpa using N9
  have hpp:(ps.map fun p=>(p.1,a.eval p.2)).toList=ps.toList.map fun p=>(p.1,a.eval p.2):=by simp
  simp only[Instr.build,Sem.run_bind,hz,Result.andThen_ok,run_underlying Tw,(fy (w:=w) (hT _ _ j5)).1,PY,hpp,hs,Sem.run_pure]
 .cases hv
theorem oN(z:List Value):∀n,(jP z n).length=n*z.length
 |0=>by simp[jP]
 |n+1=>by rw[jP,GJ,oN z n,tw];omega
theorem LL(z:List Value):∀(n i:Nat),i<n*z.length->(jP z n)[i]?=z[i%z.length]?
 |0,i,h=>by simp at h
 |n+1,i,h=>by
  have hz:0<z.length:=by
   cases hz:z.length with
   |zero=>rw[hz] at h;simp at h
   |succ k=>omega
  rw[jP];by_cases hi:i<z.length
  .rw[Ky hi,Nat.mod_eq_of_lt hi]
  .rw[Mu (by omega),LL z n _ (by rw[tw] at h;omega)];congr 1
   conv=>rhs;rw[show i=(i-z.length)+z.length by omega,Nat.add_mod_right]
theorem xl{z:List Value}(hz:0<z.length\/n=0):(jP z n)=((Array.range (n*z.length)).map (fun i=>(⟨z⟩:Array Value)[i%z.length]!)).toList:=by
 apply zS;intro i;by_cases hi:i<n*z.length
 .have TD:0<z.length:=by
   rcases hz with h|h
   .exact h
   .subst h;simp at hi
  have hm:i%z.length<z.length:=Nat.mod_lt _ TD;rw[LL z n i hi];simp[hi,hm,getElem!_def]
 .rw[tS (by rw[oN];omega),tS (by simp;omega)]
theorem iB{z:List Value}(hz:z.all cg=true):∀n,(jP z n).all cg=true
 |0=>rfl
 |n+1=>by rw[jP,List.all_append,hz,iB hz n];rfl
theorem Sk(hT:cu P T){i ei:TI}{ps:Array (Nat×Operand)}(jO:T t=some i)(hu:i.u=.slice el)(j5:T el=some ei)(hn:n*ei.size<=1000000)(S:cK CC ρ h w)(hE:ER ρ e a.tmps)(hG:cj ng ρ)(hx:(ps.toList.map (·.2)).all (bp ng)=true)(hv:bw e h (.fH n (jP ei.zero n) (ps.toList.map fun p=>(p.1*ei.size,ei.size,p.2)))=some (v,h')):
  Out CC ρ h w v h' (((do pure (Next.value (<-Instr.buildSlice t n (ps.map fun p=>(p.1,a.eval p.2))))):Sem Next).run P w):=by
 have hi:=hT t i jO;have Tw:=hi.u;rw[hu] at Tw;have xF:=hT _ _ j5;simp only[bw] at hv;split at hv
 .rename_i cs h1;cases hv;obtain⟨z,hz,N9⟩:=wO (w:=w) xF;have PY:z.cells=⟨ei.zero⟩:=by apply Array.ext';simpa using N9
  have bY:=xF.len;obtain⟨s,hs,hk⟩:=DQ (ρ:=ρ) (a:=a) (ng:=ng) hE hG (fun i=>some (i*ei.size,ei.size)) ps.toList _ _ _ cs (by simpa [List.all_map] using hx) (uy (el:=ei) ps.toList) (dH (iB xF.zero n)) h1;obtain⟨im,g1,g2,_,_,_,g7,g8⟩:=As (bg:=[]) S hk el 0 (fun h=>absurd rfl h);rw[List.append_nil] at g7 g8;refine⟨_,_,.slice (some ⟨w.heap.size,0,none⟩) n n,.inl (cS ?_),?_,g7,g8⟩
  .have hpp:(ps.map fun p=>(p.1,a.eval p.2)).toList=ps.toList.map fun p=>(p.1,a.eval p.2):=by simp
   by_cases h0:n*ei.size=0
   .have hr:jP ei.zero n=[]:=JC (by rw[oN,bY];exact h0);rw[hr] at hs;simp only[Instr.buildSlice,Sem.run_bind,run_underlying Tw,Result.andThen_ok,(fy (w:=w) xF).1,Sem.run_ite,h0,if_true,Sem.run_pure,hpp];have he:((Array.range 0).map fun i=>(#[]:Array Value)[i%(#[]:Array Value).size]!)=⟨[]⟩:=by apply Array.ext';simp
    rw[he,hs];rfl
   .have dS:¬(n*ei.size>2^24):=by omega
    have hm:=xl (z:=ei.zero) (n:=n) (by
     by_cases PX:0<ei.zero.length
     .exact .inl PX
     .right;have:ei.zero.length=0:=by omega
      rw[bY] at this;rw[this] at h0;simp at h0)
    rw[bY] at hm;have Rz:z.cells.size=ei.size:=by rw[PY];simpa using bY
    have Zl:((Array.range (n*ei.size)).map fun i=>(⟨ei.zero⟩:Array Value)[i%ei.size]!)=⟨jP ei.zero n⟩:=by apply Array.ext';rw[<-hm]
    simp only[Instr.buildSlice,Sem.run_bind,run_underlying Tw,Result.andThen_ok,(fy (w:=w) xF).1,Sem.run_ite,dS,if_false,h0,hz,Sem.run_pure,hpp,Rz];rw[PY,Zl,hs];rfl
  .refine(CR.slice (lC _ _ _) ⟨.inl ?_,.inl rfl,dw _⟩).vr;rw[g1,g2]
 .cases hv
theorem Ou(hT:cu P T){i ei:TI}(jO:T t=some i)(hu:i.u=.slice el)(j5:T el=some ei)(S:cK CC ρ h w)(hE:ER ρ e a.tmps)(hG:cj ng ρ)(hx:bp ng x=true)(hy:bp ng y=true)(hv:bw e h (.ik ei.zero ei.bytes x y)=some (v,h')):
  Out CC ρ h w v h' (((do pure (Next.value (<-Instr.makeSlice t (a.eval x) (a.eval y)))):Sem Next).run P w):=by
 have hi:=hT t i jO;have Tw:=hi.u;rw[hu] at Tw;have xF:=hT _ _ j5;have eu:=hE.eval hG hx;have oZ:=hE.eval hG hy;simp only[bw] at hv;split at hv
 .rename_i l c h1 h2;split at hv
  .rename_i h3;cases hv;simp only[uh] at h3;obtain⟨⟨⟨Vl,Mz⟩,PX⟩,AP⟩:=h3;have Vl:=Mv Vl;have Mz:=Mv Mz;have AP:=Mv AP;have PX:0<ei.zero.length:=by simpa [Nat.blt_eq] using PX
   rw[h1] at eu;rw[h2] at oZ;rw[eu.cO,oZ.cO];obtain⟨ti,k1,k2,k3,z,k4,k5⟩:=xF.info;have PY:z.cells=⟨ei.zero⟩:=by apply Array.ext';simpa using k5
   have cR:=run_make (P:=P) w t el ti z Tw k1 k4 .i64 .i64 (Int.ofNat l) (Int.ofNat c) (Int.natCast_nonneg l) (Int.ofNat_le.2 Vl)
    (by rw[k3];show(ei.bytes:Int)*(c:Int)<=_;rw[<-Int.natCast_mul,Nat.mul_comm];exact Int.le_trans (Int.ofNat_le.2 Mz) (by decide)) (by show(c:Int)<=_;exact Int.le_trans (Int.ofNat_le.2 AP) (by decide))
   have aim:madeCells z.cells ((Int.ofNat c).toNat*ti.size)=⟨jP ei.zero c++[]⟩:=by apply Array.ext';rw[List.append_nil,xl (.inl PX),PY];simp[madeCells,k2,xF.len]
   rw[aim] at cR;obtain⟨im,g1,g2,_,_,_,g7,g8⟩:=As (bg:=[]) S (dH (iB xF.zero c)) el 0 (fun h=>absurd rfl h);refine⟨_,_,.slice (some ⟨w.heap.size,0,none⟩) l c,.inl (cS cR),?_,g7,g8⟩;refine(CR.slice (lC _ _ _) ⟨.inl ?_,.inl rfl,Vl⟩).vr;rw[g1,g2]
  .cases hv
 .cases hv
end
theorem uD{m n:Nat} :Nat.blt m n=true↔m<n:=by simp[Nat.blt_eq]
section
variable{P:Program}{CC:bK}{ρ:dE}{h h':ae}{w:World}{T:oR}{ng:Nat}{e:Env}{a:Act}{c v:Value}
theorem wR{top n:Nat}{d:Nat}(hE:ER ρ e a.tmps)(hG:cj ng ρ)(hx:bp ng x=true)(hb:bound e (some x) d top=some n)(code:BoundsCode){y:Nat}(hy:top<=y):
  n<=top/\(Instr.sliceBound (a.eval x) y code).run P w=.ok n w:=by
 have eu:=hE.eval hG hx;simp only[bound] at hb;split at hb
 .rename_i k i h1;split at hb
  .rename_i h2;cases hb;have hle:=Mv h2;refine⟨hle,?_⟩;rw[h1] at eu;rw[eu.cO];have hc:(0:Int)<=Int.ofNat n/\Int.ofNat n<=(y:Int):=⟨Int.natCast_nonneg n,Int.ofNat_le.2 (by omega)⟩;simp only[Instr.sliceBound,asIntOf,Sem.run_bind,Sem.run_pure,Result.andThen_ok];rw[aZ hc];rfl
  .cases hb
 .cases hb
theorem DA(hE:ER ρ e a.tmps)(hG:cj ng ρ)(GW:(lo.toList).all (bp ng)=true)(hhi:(hi.toList).all (bp ng)=true)(hmx:(mx.toList).all (bp ng)=true)(hm3:(mx.isSome&&hi.isNone)=false){len cap ccap m hh l:Nat}(U_:cap<=ccap)(h1:bound e mx cap cap=some m)(h2:bound e hi len m=some hh)(h3:bound e lo 0 hh=some l):
  ∃m',(Instr.sliceBounds true len ccap (lo.map a.eval) (hi.map a.eval) (mx.map a.eval)).run P w=.ok (l,hh,m') w/\l<=hh/\(hi.isSome->hh<=m)/\
   ((mx.isSome/\m'=m/\m<=cap)\/(mx=none/\m=cap/\m'=ccap)):=by
 have key:∀(m':Nat),m<=m'->(mx.isSome->m'=m)->(match mx.map a.eval with
   |some v=>Instr.sliceBound v ccap (if true then .slice3Acap else .slice3Alen)
   |none=>(pure ccap:Sem Nat)).run P w=.ok m' w->
   (Instr.sliceBounds true len ccap (lo.map a.eval) (hi.map a.eval) (mx.map a.eval)).run P w=.ok (l,hh,m') w/\l<=hh/\(hi.isSome->hh<=m):=by
  intro m' Zl hmx' rP;have hh2:(match hi.map a.eval,mx.map a.eval with
    |some v,some _=>Instr.sliceBound v m' .slice3B
    |some v,none=>Instr.sliceBound v m' (if true then .sliceAcap else .sliceAlen)
    |none,none=>(pure len:Sem Nat)
    |none,some _=>stuck "Slice: max without high").run P w=.ok hh w/\(hi.isSome->hh<=m):=by
   cases hi with
   |none=>
    cases mx with
    |some _=>simp at hm3
    |none=>
     simp only[bound,jm] at h2;subst h2;exact⟨rfl,by simp⟩
   |some x=>
    have hx:bp ng x=true:=by simpa using hhi
    cases mx with
    |none=>
     have:=wR (P:=P) (w:=w) hE hG hx h2 .sliceAcap Zl;exact⟨this.2,fun _=>this.1⟩
    |some y=>
     have:=wR (P:=P) (w:=w) hE hG hx h2 .slice3B Zl;exact⟨this.2,fun _=>this.1⟩
  have NQ:(match lo.map a.eval with
    |some v=>Instr.sliceBound v hh (if(mx.map a.eval).isSome then .slice3C else .sliceB)
    |none=>(pure 0:Sem Nat)).run P w=.ok l w/\l<=hh:=by
   cases lo with
   |none=>
    simp only[bound,jm] at h3;subst h3;exact⟨rfl,Nat.zero_le _⟩
   |some x=>
    have hx:bp ng x=true:=by simpa using GW
    have:=wR (P:=P) (w:=w) hE hG hx h3 (if(mx.map a.eval).isSome then .slice3C else .sliceB) (dw hh);exact⟨this.2,this.1⟩
  refine⟨?_,NQ.2,hh2.2⟩;have h5:=hh2.1;have h6:=NQ.1;clear hh2 NQ h1 h2 h3;rcases mx with _|mx<;>rcases hi with _|hi<;>rcases lo with _|lo<;>
   simp only[Option.map_none,DY,Option.isSome_none,Option.isSome_some,Sem.run_pure,Result.ok.injEq,and_true,run_stuck,reduceCtorEq,if_true,if_false,Nt] at rP h5 h6<;>
   first
    |(subst rP;subst h5;subst h6;rfl)
    |(subst rP;subst h5;simp only[Instr.sliceBounds,Option.map_none,DY,Option.isSome_none,Option.isSome_some,if_true,if_false,Nt,Sem.run_bind,Sem.run_pure,h6,Result.andThen_ok];done)
    |(subst rP;subst h6;simp only[Instr.sliceBounds,Option.map_none,DY,Option.isSome_none,Option.isSome_some,if_true,if_false,Nt,Sem.run_bind,Sem.run_pure,h5,Result.andThen_ok];done)
    |(subst rP;simp only[Instr.sliceBounds,Option.map_none,DY,Option.isSome_none,Option.isSome_some,if_true,if_false,Nt,Sem.run_bind,Sem.run_pure,h5,h6,Result.andThen_ok];done)
    |(subst h6;simp only[Instr.sliceBounds,Option.map_none,DY,Option.isSome_none,Option.isSome_some,if_true,if_false,Nt,Sem.run_bind,Sem.run_pure,rP,h5,Result.andThen_ok];done)
    |(simp only[Instr.sliceBounds,Option.map_none,DY,Option.isSome_none,Option.isSome_some,if_true,if_false,Nt,Sem.run_bind,Sem.run_pure,rP,h5,h6,Result.andThen_ok];done)
 cases mx with
 |none=>
  simp only[bound,jm] at h1;subst h1;obtain⟨k1,k2,k3⟩:=key ccap U_ (by simp) rfl;exact⟨ccap,k1,k2,k3,.inr ⟨rfl,rfl,rfl⟩⟩
 |some x=>
  have hx:bp ng x=true:=by simpa using hmx
  have hb:=wR (P:=P) (w:=w) hE hG hx h1 .slice3Acap U_;obtain⟨k1,k2,k3⟩:=key m (dw m) (fun _=>rfl) hb.2;exact⟨m,k1,k2,k3,.inl ⟨rfl,rfl,hb.1⟩⟩
theorem WD(hT:cu P T){i ei:TI}(jO:T t=some i)(hu:i.u=.slice el)(j5:T el=some ei)(hm3:(mx.isSome&&hi.isNone)=false)(S:cK CC ρ h w)(hE:ER ρ e a.tmps)(hG:cj ng ρ)(hx:bp ng x=true)(GW:(lo.toList).all (bp ng)=true)(hhi:(hi.toList).all (bp ng)=true)(hmx:(mx.toList).all (bp ng)=true)(hv:bw e h (.slice ei.size x lo hi mx)=some (v,h')):Out CC ρ h w v h' (((do pure (Next.value (<-Instr.sliceAt t (a.eval x) (lo.map a.eval) (hi.map a.eval) (mx.map a.eval)))):Sem Next).run P w):=by
 have zi:=(hT t i jO).u;rw[hu] at zi;have qD:=(fy (w:=w) (hT _ _ j5)).1;have eu:=hE.eval hG hx;simp only[bw] at hv;split at hv
 .rename_i sa len cap h0;split at hv
  .cases hv
  .rename_i m h1;split at hv
   .cases hv
   .rename_i hh h2;split at hv
    .cases hv
    .rename_i l h3;rw[h0] at eu;split at hv
     .cases hv;rw[eu.iq];obtain⟨m',hb,hlh,_,dJ⟩:=DA (P:=P) (w:=w) hE hG GW hhi hmx hm3 (dw cap) h1 h2 h3;have Zl:m'=m:=by rcases dJ with⟨_,h,_⟩|⟨_,h,h'⟩<;>omega
      subst Zl;refine Out.same S (cS ?_) (CR.oz _ _).vr;simp only[Instr.sliceAt,Instr.slice,Sem.run_bind,run_underlying zi,Result.andThen_ok,hb,qD,Sem.run_pure,Option.map_none];congr 2;split<;>rfl
     .rename_i b off;split at hv
      .rename_i cs ro o s ho;cases hcz:Nat.beq o 0||Nat.beq o ei.size with
       |false=>simp[hcz] at hv
       |true=>
        simp only[hcz,cond_true,jm,vz] at hv;obtain⟨rfl,rfl⟩:=hv;obtain⟨r,ca,ccap,hr,hc,⟨KJ,U_,hle⟩⟩:=eu.fh;obtain⟨ep,Ih,fr,_,bY,Rr,_,_,_⟩:=S.obj b r _ hr ho;have D4:cap<=ccap:=by rcases U_ with h|⟨_,h,_,_⟩<;>omega
        obtain⟨m',hb,hlh,hhm,dJ⟩:=DA (P:=P) (w:=w) hE hG GW hhi hmx hm3 D4 h1 h2 h3;have hhm':hh<=m:=by
         cases hi with
         |some y=>exact hhm rfl
         |none=>
          simp only[bound,jm] at h2;rcases dJ with⟨hs,_⟩|⟨_,h,_⟩
          .rw[hs] at hm3;simp at hm3
          .omega
        rw[hc];refine Out.same S (c:=.slice (some (if m'=l then ca else ca.add (l*ei.size))) (hh-l) (m'-l)) (cS ?_) (CR.slice hr ⟨?_,?_,?_⟩).vr
        .simp only[Instr.sliceAt,Instr.slice,Sem.run_bind,run_underlying zi,Result.andThen_ok,hb,qD,Sem.run_pure];congr 2;split<;>simp
        .by_cases Yg:m'=l
         .right;rcases dJ with⟨_,h,_⟩|⟨_,h,h'⟩<;>omega
         .left;rw[aW Yg];have U9:ca=⟨r.aC,r.base+off,none⟩:=by
           rcases KJ with h|⟨h1,h2⟩
           .exact h
           .rcases dJ with⟨_,h,_⟩|⟨_,h,h'⟩<;>omega
          rw[U9,nN,BW]
        .rcases dJ with⟨_,h,_⟩|⟨_,h,h'⟩
         .left;omega
         .rcases U_ with h5|⟨h5,h6,h7,h8⟩
          .left;omega
          .right;have air:r.ED=ei.size:=by
            rw[Rr];simp only[Bool.or_eq_true] at hcz;rcases hcz with h|h
            .exact absurd (Rr.trans (mH h)) h5
            .exact mH h
           refine⟨h5,by omega,?_,?_⟩
           .rw[<-air,h,Nat.sub_mul,<-h7];have:l*r.ED<=cap*r.ED:=DX _ (by omega);omega
           .rw[<-air,h',Nat.sub_mul];have:l*r.ED<=ccap*r.ED:=DX _ (by omega);omega
        .omega
      .cases hv
     .cases hv
 .cases hv
def Gc(P:Program)(w:World)(t':TypeId)(size:Nat)(el:TypeId)(x:Value)(n:Nat)(ep:List Value):Prop:=
 (∃Ih sa cc,P.underlying t'=some (.slice Ih)/\x=.slice sa n cc/\∀k,(Builtin.firstCells size n x).run P {w with drawn:=k} =.ok ⟨ep⟩ {w with drawn:=k})\/
 (∃k kk,P.underlying t'=some (.int kk)/\x=.int k (n:Int)/\n<=1099511627776/\∃z,(∀w',(zeroValue el).run P w'=.ok z w')/\z.cells.toList.length=size/\ep=jP z.cells.toList n)
theorem Wj(hT:cu P T){el t':TypeId}{ei i':TI}(j5:T el=some ei)(jO:T t'=some i')(hz:if pM then ∃k,i'.u=.int k else ∃Ih,i'.u=.slice Ih)(S:cK CC ρ h w){x y:Value}(hr:VR ρ x y){cs:List Value}(hn:news h ei.zero pM x=some (n,cs)):∃ep,All2 (KR ρ) cs ep/\cs.length=n*ei.size/\Gc P w t' ei.size el y n ep:=by
 have xF:=hT _ _ j5;have o7:=(hT _ _ jO).u;unfold news at hn;split at hn
 .
  rename_i k m;split at hn
  .rename_i lr;cases hn;obtain⟨kk,Bj⟩:=by simpa using hz
   rw[Bj] at o7;rw[hr.cO];refine⟨_,dH (iB xF.zero n),by rw[oN,xF.len],.inr ⟨k,kk,o7,rfl,Mv lr,?_⟩⟩;obtain⟨ti,k1,k2,k3,z,k4,k5⟩:=xF.info;exact⟨z,fun w'=>by simp[zeroValue,typeInfo,k1,k4],by rw[k5];exact xF.len,by rw[k5]⟩
  .cases hn
 .
  rename_i m _;split at hn
  .rename_i h0;cases hn;have h0:=mH h0;subst h0;obtain⟨Ih,ac4⟩:=by simpa using hz
   rw[ac4] at o7;rw[hr.iq];exact⟨[],.nil,by simp,.inl ⟨Ih,none,_,o7,rfl,fun k=>by simp[Builtin.firstCells]⟩⟩
  .cases hn
 .
  rename_i b off m _;obtain⟨Ih,ac4⟩:=by simpa using hz
  rw[ac4] at o7;obtain⟨r,ca,ccap,hb,hc,⟨KJ,U_,hle⟩⟩:=hr.fh;rw[hc];split at hn
  .rename_i h0;cases hn;have h0:=mH h0;subst h0;exact⟨[],.nil,by simp,.inl ⟨Ih,_,_,o7,rfl,fun k=>by simp[Builtin.firstCells,loadCells,loadCellsFrom]⟩⟩
  .rename_i h0;split at hn
   .rename_i Uv dj;cases hn;have cq:n≠0:=by intro e;rw[e] at h0;exact h0 rfl
    have U9:ca=⟨r.aC,r.base+off,none⟩:=by
     rcases KJ with h|⟨_,h⟩
     .exact h
     .omega
    subst U9;obtain⟨hl,ep,hk,Bi⟩:=Az S hb dj;refine⟨ep,hk,by rw[hl,xF.len],.inl ⟨Ih,_,_,o7,rfl,fun k=>?_⟩⟩;have:=run_firstCells_some (P:=P) {w with drawn:=k} ei.size n ⟨r.aC,r.base+off,none⟩ n ccap ep (by rw[<-hk.length,hl,xF.len]) Bi;exact this
   .cases hn
 .cases hn
theorem CS{z:Array Value}{m:Nat}(hz:z.toList.all cg=true)(hc:c∈(Builtin.zeroCells z m).toList):cg c=true:=by
 simp only[Builtin.zeroCells,Array.toList_map,dZ] at hc;obtain⟨i,hi,rfl⟩:=hc;have zi:i<m*z.size:=by simpa using hi
 have N2:0<z.size:=by
  rcases ve z.size with h|h
  .rw[h] at zi;simp at zi
  .exact h
 have dS:i%z.size<z.size:=Nat.mod_lt _ N2;rw[getElem!_pos z _ dS];exact List.all_eq_true.1 hz _ (by simp)
theorem pX{t t' ty el:TypeId}{ei:TI}(xF:tm P el ei)(o7:P.underlying t=some (.slice el)){sa:Option Addr}{len ccap n:Nat}{x:Value}(ha:Gc P w t' ei.size el x n ep)(hl:ep.length=n*ei.size)(qD:0<ei.size)(hb:n*ei.bytes<=1099511627776):
  (len+n<=ccap->(Builtin.append_ #[t,t'] ty #[.slice sa len ccap,x]).run P w=
   (((match sa with|some ad=>storeCells (ad.add (len*ei.size)) ep|none=>pure ()):Sem Unit).run P w).andThen fun _ w'=>.ok (.slice sa (len+n) ccap) w')/\
  (ccap<len+n->(len+n)*ei.bytes<=1099511627776->len+n<=1099511627776->∀yZ:List Value,yZ.length=len*ei.size->
   (∀k,(Builtin.firstCells ei.size len (.slice sa len ccap)).run P {w with drawn:=k} =.ok ⟨yZ⟩ {w with drawn:=k})->
   ∃(Es:Nat) (bg:List Value),len+n<=Es/\bg.length=(Es-(len+n))*ei.size/\(∀c∈bg,cg c=true)/\
   (Builtin.append_ #[t,t'] ty #[.slice sa len ccap,x]).run P w=.ok (.slice (some ⟨w.heap.size,0,none⟩) (len+n) Es) (({w with drawn:=w.drawn+1} :World).alloc (.cells ⟨(yZ++ep)++bg⟩ el))):=by
 obtain⟨ti,k1,k2,k3,z,k4,k5⟩:=xF.info;have IN:z.cells.size=ei.size:=by have:=xF.len;rw[<-k5] at this;simpa using this
 have VI:∀(m:Nat),∀c∈(Builtin.zeroCells z.cells m).toList,cg c=true:=by intro m c hc;have hz:=xF.zero;rw[<-k5] at hz;exact CS hz hc
 rcases ha with⟨Ih,xa,xc,FV,rfl,hf⟩|⟨k,kk,FV,rfl,hn40,z',TD,K9,U_⟩
 .have hfw:(Builtin.firstCells ei.size n (.slice xa n xc)).run P w=.ok ⟨ep⟩ w:=by have:=hf w.drawn;exact this
  constructor
  .intro lr;cases sa with
   |none=>simp[Builtin.append_,run_underlying o7,run_underlying FV,sizeOf,typeInfo,k1,k2,Builtin.lenOf,lr,hfw]
   |some ad=>simp[Builtin.append_,run_underlying o7,run_underlying FV,sizeOf,typeInfo,k1,k2,Builtin.lenOf,lr,hfw]
  .intro hg CI h63 yZ NY hold;have hng:¬(len+n<=ccap):=by omega
   have UW:¬(9223372036854775807<((len:Int)+(n:Int))):=by omega
   have UU:¬(281474976710656<Builtin.nextslicecap (len+n) ccap*ti.bytes):=by rw[k3];have:=growslice_fits (bytes:=ei.bytes) hg (by omega);omega
   have Tq:(Builtin.firstCells ei.size n (.slice xa n xc)).run P w.drew=.ok ⟨ep⟩ w.drew:=hf (w.drawn+1);have zX:(Builtin.firstCells ei.size len (.slice sa len ccap)).run P w.drew=.ok ⟨yZ⟩ w.drew:=hold (w.drawn+1);refine⟨grownCap w (len+n) ccap el,(Builtin.zeroCells z.cells (grownCap w (len+n) ccap el-(len+n))).toList,grownCap_ge w _ _ _,?_,VI _,?_⟩
   .have:=size_zeroCells z.cells (grownCap w (len+n) ccap el-(len+n));rw[IN] at this;simpa using this
   .simp[Builtin.append_,run_underlying o7,run_underlying FV,sizeOf,typeInfo,zeroValue,k1,k2,k4,Builtin.lenOf,hng,UW,UU,Question.forced,Tq,zX,newRow,grownCap];congr 2;apply Array.ext';simp[vu]
 .have hw:IntKind.i64.wrap (n:Int)=n:=by rw[IntKind.wrap_i64];omega
  have Vo:¬((n:Int)<0):=by omega
  have h48:¬(281474976710656<(n:Int)*(ei.bytes:Int)):=by have:((n*ei.bytes:Nat):Int)<=1099511627776:=Int.ofNat_le.2 hb;rw[Int.natCast_mul] at this;omega
  have Ry:=TD w;have PY:z'=z:=by
   have h1:(zeroValue el).run P w=.ok z w:=by simp[zeroValue,typeInfo,k1,k4]
   rw[Ry] at h1;injection h1
  subst PY;have hcz:n*ei.size=0->ep=[]:=fun h=>JC (by rw[hl,h]);have N9:(Builtin.zeroCells z'.cells n)=⟨ep⟩:=by apply Array.ext';rw[U_,xl (.inl (by rw[K9];exact qD)),K9];have:z'.cells=⟨z'.cells.toList⟩:=rfl;simp[Builtin.zeroCells,IN]
  have wv:n*ei.size=0↔n=0:=by
   constructor
   .intro h;rcases Nat.mul_eq_zero.1 h with h|h
    .exact h
    .omega
   .rintro rfl;simp
  have Tz:IntKind.i64.wrap 0=0:=by rw[IntKind.wrap_i64];omega
  by_cases hn:n=0
  .subst hn;have AP:ep=[]:=hcz (by simp);subst AP;constructor
   .intro lr;have Vw:len<=ccap:=by omega
    cases sa with
    |none=>simp[Builtin.append_,run_underlying o7,run_underlying FV,sizeOf,typeInfo,k1,k2,asInt,asIntOf,Tz,Vw,storeCells]
    |some ad=>simp[Builtin.append_,run_underlying o7,run_underlying FV,sizeOf,typeInfo,k1,k2,asInt,asIntOf,Tz,Vw,storeCells]
   .intro hg CI h63 yZ NY hold;have hng:¬(len+0<=ccap):=by omega
    have apb:¬(len<=ccap):=by omega
    have UW:¬(9223372036854775807<(len:Int)):=by omega
    have UU:¬(281474976710656<Builtin.nextslicecap len ccap*ti.bytes):=by rw[k3];have:=growslice_fits (bytes:=ei.bytes) hg (by omega);simp only[Nu] at this;omega
    have zX:(Builtin.firstCells ei.size len (.slice sa len ccap)).run P w.drew=.ok ⟨yZ⟩ w.drew:=hold (w.drawn+1);refine⟨grownCap w (len+0) ccap el,(Builtin.zeroCells z'.cells (grownCap w (len+0) ccap el-(len+0))).toList,grownCap_ge w _ _ _,?_,VI _,?_⟩
    .have:=size_zeroCells z'.cells (grownCap w (len+0) ccap el-(len+0));rw[IN] at this;simpa using this
    .simp[Builtin.append_,run_underlying o7,run_underlying FV,sizeOf,typeInfo,zeroValue,k1,k2,k4,asInt,asIntOf,Tz,apb,UW,UU,Question.forced,zX,newRow,grownCap];congr 2;apply Array.ext';simp
  .have hns:¬(n*ei.size=0):=fun h=>hn (wv.1 h);have PX:¬(ei.size=0):=by omega
   constructor
   .intro lr;cases sa with
    |none=>simp[Builtin.append_,run_underlying o7,run_underlying FV,sizeOf,typeInfo,zeroValue,k1,k2,k3,k4,asInt,asIntOf,hw,Vo,h48,lr,hn,PX,N9]
    |some ad=>
     simp[Builtin.append_,run_underlying o7,run_underlying FV,sizeOf,typeInfo,zeroValue,k1,k2,k3,k4,asInt,asIntOf,hw,Vo,h48,lr,hn,PX,N9];intro h0;exact absurd h0 hns
   .intro hg CI h63 yZ NY hold;have hng:¬(len+n<=ccap):=by omega
    have UW:¬(9223372036854775807<((len:Int)+(n:Int))):=by omega
    have UU:¬(281474976710656<Builtin.nextslicecap (len+n) ccap*ei.bytes):=by have:=growslice_fits (bytes:=ei.bytes) hg (by omega);omega
    have zX:(Builtin.firstCells ei.size len (.slice sa len ccap)).run P w.drew=.ok ⟨yZ⟩ w.drew:=hold (w.drawn+1);refine⟨grownCap w (len+n) ccap el,(Builtin.zeroCells z'.cells (grownCap w (len+n) ccap el-(len+n))).toList,grownCap_ge w _ _ _,?_,VI _,?_⟩
    .have:=size_zeroCells z'.cells (grownCap w (len+n) ccap el-(len+n));rw[IN] at this;simpa using this
    .simp[Builtin.append_,run_underlying o7,run_underlying FV,sizeOf,typeInfo,zeroValue,k1,k2,k3,k4,asInt,asIntOf,hw,Vo,h48,hng,UW,UU,hn,PX,Question.forced,zX,newRow,grownCap,N9];rw[aW hns];congr 3;apply Array.ext';simp[vu]
end
section
variable{P:Program}{CC:bK}{ρ:dE}{h h':ae}{w:World}{T:oR}{ng:Nat}{e:Env}{a:Act}{c v:Value}
theorem VR.OO{x:Addr}(h:VR ρ (.slice (some x) n cp) c):∃b o r ca ccap,x=⟨b,o,none⟩/\ρ b=some r/\c=.slice (some ca) n ccap/\r7 r o n cp ca ccap:=by
 cases h with
 |val h=>cases h with
  |cell h=>cases h with
   |cell h=>cases h with
    |slice h hs=>exact⟨_,_,_,_,_,rfl,h,rfl,hs⟩
theorem r7.yL{r:vy}{o len cap ccap:Nat}(h:r7 r o len cap ca ccap):cap<=ccap:=by rcases h.2.1 with h|⟨_,h,_⟩<;>omega
theorem r7.addr{r:vy}{o len cap ccap:Nat}(h:r7 r o len cap ca ccap)(hc:0<ccap):ca=⟨r.aC,r.base+o,none⟩:=by
 rcases h.1 with h|⟨h,_⟩
 .exact h
 .omega
theorem cK.drew(S:cK CC ρ h w):cK CC ρ h ({w with drawn:=w.drawn+1} :World):=S.drawn _
theorem GH(S:cK CC ρ h w){cs ep bg:List Value}{el n Es size:Nat}(hk:All2 (KR ρ) cs ep)(hl:cs.length=n*size)(qD:0<size)(hn:n<=Es)(hr:bg.length=(Es-n)*size)(hc:∀c∈bg,cg c=true):
  ∃ρ',VR ρ' (.slice (some ⟨h.next,0,none⟩) n n) (.slice (some ⟨w.heap.size,0,none⟩) n Es)/\
   cK CC ρ' (aJ h cs size) (({w with drawn:=w.drawn+1} :World).alloc (.cells ⟨ep++bg⟩ el))/\
   Ext ρ h w ρ' (aJ h cs size) (({w with drawn:=w.drawn+1} :World).alloc (.cells ⟨ep++bg⟩ el)):=by
 obtain⟨im,g1,g2,g3,g4,g5,g7,g8⟩:=As (bg:=bg) S.drew hk el size (fun _=>hc);have lr:(ep++bg).length=Es*size:=by rw[GJ,<-hk.length,hl,hr,Nat.sub_mul];have:n*size<=Es*size:=DX _ hn;omega
 refine⟨_,(CR.slice (lC _ _ _) ⟨.inl ?_,.inr ⟨by omega,hn,?_,?_⟩,dw _⟩).vr,g7,(Ext.drawn _).trans g8⟩
 .rw[g1,g2]
 .rw[g3,g4,hl];omega
 .rw[g4,g5,lr];omega
theorem Hk(hT:cu P T){t t' ty el:TypeId}{i i' ei:TI}(jO:T t=some i)(hu:i.u=.slice el)(j5:T el=some ei)(N6:T t'=some i')(hz:if pM then ∃k,i'.u=.int k else ∃Ih,i'.u=.slice Ih)(S:cK CC ρ h w)(hE:ER ρ e a.tmps)(hG:cj ng ρ)(hx:bp ng x=true)(hy:bp ng y=true)(hv:bw e h (.append ei.zero ei.bytes pM x y)=some (v,h')):
  Out CC ρ h w v h' (((do pure (Next.value (<-Builtin.append_ #[t,t'] ty #[a.eval x,a.eval y]))):Sem Next).run P w):=by
 have o7:=(hT t i jO).u;rw[hu] at o7;have xF:=hT _ _ j5;have IN:=xF.len;have eu:=hE.eval hG hx;have oZ:=hE.eval hG hy;simp only[bw] at hv;split at hv
 .rename_i n cs hn;obtain⟨ep,hk,CJ,Re⟩:=Wj hT j5 N6 hz S oZ hn;have KM:ep.length=n*ei.size:=by rw[<-hk.length,CJ]
  unfold ib at hv;split at hv
  .rename_i sa len cap hs;rw[hs] at eu;split at hv
   .rename_i ai3;have qD:0<ei.size:=by rw[<-IN];exact uD.1 ai3
    split at hv
    .
     rename_i h0;have h0:=mH h0;subst h0;split at hv
     .rename_i Vl;have Vl:=Mv Vl;cases hv;have AP:ep=[]:=JC (by rw[KM];simp);subst AP;cases sa with
      |none=>
       have ZB:=eu.iq;rw[ZB] at eu⊢;have:=(pX (t:=t) (ty:=ty) xF o7 (sa:=none) (len:=len) (ccap:=cap) Re KM qD (by simp)).1 (by omega);exact Out.same S (cS (this.trans rfl)) eu
      |some ad=>
       obtain⟨b,o,r,ca,ccap,rfl,hr,hc,dx⟩:=eu.OO;have hle:=dx.yL;rw[hc] at eu⊢;have:=(pX (t:=t) (ty:=ty) xF o7 (sa:=some ca) (len:=len) (ccap:=ccap) Re KM qD (by simp)).1 (by omega);exact Out.same S (cS (this.trans rfl)) eu
     .cases hv
    .rename_i wv;have atj:0<n:=by
      rcases ve n with h|h
      .subst h;exact absurd rfl wv
      .exact h
     split at hv
     .rename_i lr;simp only[uh] at lr;have rP:=Mv lr.1;have Bm:=Mv lr.2;have KT:n*ei.bytes<=1099511627776:=sD (DX _ (by omega)) Bm;split at hv
      .
       split at hv
       .rename_i h0;simp only[uh] at h0;have Zj:=mH h0.1;have AP:=mH h0.2;subst Zj;subst AP;cases hv;rw[eu.iq];obtain⟨Es,bg,g1,g2,g4,g3⟩:=(pX (t:=t) (ty:=ty) xF o7 (sa:=none) (len:=0) (ccap:=0) Re KM qD KT).2 (by omega) Bm rP [] (by simp) (fun k=>by simp[Builtin.firstCells]);rw[BX] at g1 g2 g3;obtain⟨ρ',Zy,hs',rQ⟩:=GH (el:=el) S hk CJ qD g1 g2 g4;rw[IN];exact⟨ρ',_,_,.inl (cS g3),Zy,hs',rQ⟩
       .cases hv
      .rename_i b off;split at hv
       .rename_i bC o st ho;obtain⟨r,ca,ccap,hr,hc,dx⟩:=eu.fh;have D4:=dx.yL;have bY:=dx.2.2;obtain⟨vY,Ih,fr,q1,q2,q3,q4,q5,q6⟩:=S.obj b r _ hr ho;have hfr:=q5 rfl;subst hfr;rw[hc];split at hv
        .
         rename_i eU;have eU:=Mv eU;split at hv
         .rename_i BZ hw;cases hv;obtain⟨w',cR,S',E'⟩:=xr (P:=P) S hr hw hk;have:=(pX (t:=t) (ty:=ty) xF o7 (sa:=some ca) (len:=len) (ccap:=ccap) Re KM qD KT).1 (by omega);refine⟨ρ,w',.slice (some ca) (len+n) ccap,.inl (cS ?_),(CR.slice hr ⟨dx.1,dx.2.1,eU⟩).vr,S',E'⟩;rw[this];dsimp only;rw[dx.addr (by omega),nN,BW,<-IN,cR];rfl
         .cases hv
        .rename_i Vp;have Vp:cap<len+n:=by
          rcases zf cap (len+n) with h|h
          .exact h
          .exact absurd (Nat.ble_eq_true_of_le h) Vp
         dsimp only at hv;by_cases adH:Nat.beq ((bC.drop off).take (len*ei.zero.length)).length (len*ei.zero.length)=true
         .rw[aZ adH] at hv;have vj:=mH adH
          
          have dj:aV h b off (len*ei.size)=some ((bC.drop off).take (len*ei.size)):=by unfold aV;rw[ho];rw[IN] at vj;simp only[vj,Nat.beq_refl,if_true]
          obtain⟨NY,yZ,D9,hoc⟩:=Az S hr dj;have adv:yZ.length=len*ei.size:=by rw[<-D9.length,NY]
          have ac8:∀k,(Builtin.firstCells ei.size len (.slice (some ca) len ccap)).run P {w with drawn:=k} =.ok ⟨yZ⟩ {w with drawn:=k} :=by
           intro k;by_cases AP:0<ccap
           .rw[dx.addr AP];exact run_firstCells_some (P:=P) {w with drawn:=k} ei.size len ⟨r.aC,r.base+off,none⟩ len ccap yZ adv hoc
           .have Zj:len=0:=by omega
            subst Zj;have:yZ=[]:=JC (by rw[adv];simp);subst this;simp[Builtin.firstCells,loadCells,loadCellsFrom]
          have Bj:=D9.app hk;have rN:((bC.drop off).take (len*ei.size)++cs).length=(len+n)*ei.size:=by rw[GJ,NY,CJ,tw]
          
          have grow:∀(h1:ae),(cK CC ρ h1 w/\Ext ρ h w ρ h1 w)->h1.next=h.next->ccap<len+n->
            Out CC ρ h w (.slice (some ⟨h.next,0,none⟩) (len+n) (len+n)) (aJ h1 ((bC.drop off).take (len*ei.size)++cs) ei.size)
             (((do pure (Next.value (<-Builtin.append_ #[t,t'] ty #[.slice (some ca) len ccap,a.eval y]))):Sem Next).run P w):=by
           intro h1 ⟨S1,E1⟩ vi dS;obtain⟨Es,bg,g1,g2,g4,g3⟩:=(pX (t:=t) (ty:=ty) xF o7 (sa:=some ca) (len:=len) (ccap:=ccap) Re KM qD KT).2 dS Bm rP yZ adv ac8;obtain⟨ρ',Zy,hs',rQ⟩:=GH (el:=el) S1 Bj rN qD g1 g2 g4;rw[vi] at Zy;exact⟨ρ',_,_,.inl (cS g3),Zy,hs',E1.trans rQ⟩
          split at hv
          .rename_i Vd;cases hv;rw[IN];refine grow h ⟨S,.refl ρ h w⟩ rfl ?_;rcases dx.2.1 with h5|⟨h5,h6,h7,_⟩
           .omega
           .exfalso;simp only[Bool.or_eq_true,Bool.not_eq_true'] at Vd;rcases Vd with h8|h8
            .exact h5 (q3.trans (mH h8))
            .rw[q3,q2] at h7;rw[h7,Nat.beq_refl] at h8;cases h8
          .rename_i atk;split at hv
           .rename_i hoz;have hoz:=mH hoz;cases hv;rw[IN];by_cases dS:ccap<len+n
            .exact grow _ (S.less b) rfl dS
            .
             have N3:len+n<=ccap:=by omega
             have Rr:r.ED=ei.size:=by rw[q3,hoz,IN]
             have halt:off+ccap*r.ED<=r.room:=by
              rcases dx.2.1 with h5|⟨_,_,_,h8⟩
              .omega
              .exact h8
             have iM:off+cap*r.ED=r.len:=by
              rcases dx.2.1 with h5|⟨_,_,h8,_⟩
              .omega
              .exact h8
             have atd:cap*ei.size<=(len+n)*ei.size:=DX _ (by omega);rw[Rr] at halt iM;have aa3:=dx.addr (show 0<ccap by omega);have hmul:(len+n)*ei.size<=ccap*ei.size:=DX _ N3;rw[tw] at hmul;have eU:r.base+(off+len*ei.size)+0+ep.length<=vY.size:=by rw[KM,<-q4.1];omega
             have cR:=run_storeCells_at (P:=P) r.aC (r.base+(off+len*ei.size)) Ih ep 0 vY w q1 eU (fun u hm=>by obtain⟨i,hi⟩:=sv hm;have hx:cs[i]?=some (cs[i]'(by rw[hk.length];exact(cr.1 hi).1)):=fI _;obtain⟨c,hc,hkr⟩:=hk.get hx;rw[hi] at hc;cases hc;exact uc hkr.plain.2)
             have an7:=(pX (t:=t) (ty:=ty) xF o7 (sa:=some ca) (len:=len) (ccap:=ccap) Re KM qD KT).1 N3;have tX:vY.toList.take (r.base+(off+len*ei.size)+0)++ep++vY.toList.drop (r.base+(off+len*ei.size)+0+ep.length)=aH vY.toList (r.base+(off+len*ei.size)) ep:=by simp[aH]
             rw[tX] at cR;have GQ:r.base+(off+len*ei.size)+ep.length<=vY.toList.length:=by simpa using eU
             have Zn:gH CC (fz ρ h.next ⟨r.aC,r.base+off,(len+n)*ei.size,ei.size,r.room-off⟩) ⟨r.aC,r.base+off,(len+n)*ei.size,ei.size,r.room-off⟩
               (.aC ((bC.drop off).take (len*ei.size)++cs) false ei.size 0) (w.setRow r.aC (aH vY.toList (r.base+(off+len*ei.size)) ep).toArray):=by
              refine⟨_,Ih,(0,0),setRow_heap w r.aC vY _ Ih _ q1,rN.symm,rfl,⟨?_,?_⟩,fun _=>rfl,?_⟩
              rotate_left 1
              .intro rO j u hj hu;dsimp only at hj hu;simp only[List.getElem?_toArray] at hu;have D8:=hj;rw[tw] at D8;rw[kU GQ,aW (by omega)] at hu;exact q4.2 (by omega) (off+j) u (by omega) (by simpa [BW] using hu)
              rotate_left 1
              .have q4:=q4.1;simp only[List.size_toArray,yq GQ,Array.length_toList];omega
              .intro j u hj;simp only[List.getElem?_toArray];rw[kU GQ];by_cases aS:j<len*ei.size
               .rw[aW (by omega)];rw[Ky (by rw[NY];exact aS),FN,aZ aS,List.getElem?_drop] at hj;obtain⟨c,AQ,JD⟩:=q6 _ _ hj;exact⟨c,by rw[<-AQ];simp[BW],JD.mono (nH S.fresh)⟩
               .rw[Mu (by rw[NY];omega),NY] at hj;obtain⟨c,AQ,JD⟩:=hk.get hj;have GS:=(cr.1 AQ).1;rw[aZ (by omega)];refine⟨c,?_,JD.mono (nH S.fresh)⟩;rw[<-AQ];congr 1;omega
             obtain⟨S',E'⟩:=cK.move S hr ho rfl (im:=⟨r.aC,r.base+off,(len+n)*ei.size,ei.size,r.room-off⟩) rfl (JA.row _ _) Zn;refine⟨_,_,.slice (some ca) (len+n) ccap,.inl (cS ?_),(CR.slice (lC _ _ _) ⟨.inl ?_,.inr ⟨by show ei.size≠0;omega,N3,by show 0+(len+n)*ei.size=(len+n)*ei.size;omega,by show 0+ccap*ei.size<=r.room-off;omega⟩,dw _⟩).vr,S',E'⟩
             .rw[an7];dsimp only;rw[aa3,nN,BW,cR];rfl
             .rw[aa3];rfl
           .cases hv
         .rw[aW adH] at hv;cases hv
       .cases hv
      .cases hv
     .cases hv
   .cases hv
  .cases hv
 .cases hv
end
section
variable{P:Program}{CC:bK}{ρ:dE}{h h':ae}{w:World}{T:oR}{ng:Nat}{e:Env}{a:Act}{c v:Value}
theorem VR.I0{x:Nat}(h:VR ρ (.map (some x)) c):∃r,ρ x=some r/\c=.map (some r.aC):=by
 have:=CR.xd h rfl;cases this with
 |map h'=>exact⟨_,h',rfl⟩
theorem VR.Et(h:VR ρ (.map none) c):c=.map none:=by
 have:=CR.xd h rfl;cases this with
 |yX=>rfl
theorem QT{ces:Array MapEntry}{k v:Value}(h:∀(i:Nat)(y:MapEntry),ces[i]?=some y->y.born=i):∀(i:Nat)(y:MapEntry),(ces.push { key:=k,val:=v,born:=ces.size })[i]?=some y->y.born=i:=by
 intro i y hy;rw[Array.getElem?_push] at hy;split at hy
 .rename_i e;cases hy;exact e.symm
 .exact h i y hy
theorem UG{l:Array Value}{y:Value}{t:Bool}(h:pB (9::ks) (.agg l) y=some t):∃l',y=.agg l'/\bQ ks l.toList l'.toList=some t:=by
 cases y with
 |agg l'=>exact⟨l',rfl,h⟩
 |_=>
  exfalso;unfold pB at h;cases ks with
  |nil=>simp[ig] at h
  |cons a ks=>simp at h
theorem MZ(a b:ByteArray):(a==b)=(b==a):=by
 cases a with|mk a=>cases b with|mk b=>
 show(a==b)=(b==a);exact BEq.comm
theorem Ii:∀ {ks:List Nat} {l m:List Value} {t:Bool},bQ ks l m=some t->bQ ks m l=some t:=by
 intro ks;induction ks with
 |nil=>
  intro l m t h;obtain⟨h1,h2⟩:=jg h
  match l,m,h1,h2 with
  |[],[],_,_=>exact h
 |cons k ks ih=>
  intro l m t h;obtain⟨h1,h2⟩:=jg h
  match l,m,h1,h2 with
  |p::l,q::m,_,_=>
   simp only[bQ] at h⊢;split at h
   .rename_i x y h3 h4;have e:ig k q p=some x:=by
     unfold ig at h3⊢;split at h3
     .cases h3;simp[Bool.beq_comm]
     .split at h3
      .rename_i hk;subst hk;cases h3;rw[aZ rfl];refine congrArg some ?_;rw[Bool.eq_iff_iff];simp only[beq_iff_eq];exact eq_comm
      .cases h3
     .rename_i s1 s2;cases h3;exact congrArg some (MZ _ _)
     .cases h3
    rw[e,ih h4];exact h
   .cases h
theorem VT(hT:cu P T):∀(d t:Nat)(i:TI)(dep:Nat)(ks:List Nat),T t=some i->kinds T d t=some ks->d<=dep->∀(l:List Value),l.length=i.size->∀(b:Bool)(w:World),(Instr.checkKey b dep t (valOf i l)).run P w=.ok () w:=by
 intro d;induction d with
 |zero=>intro t i dep ks _ h;simp[kinds] at h
 |succ d ih=>
  intro t i dep ks jO iC hd l hl b w;obtain⟨dep,rfl⟩:∃k,dep=k+1:=⟨dep-1,by omega⟩;have hi:=hT t i jO;have IJ:=hi.u;simp only[kinds,jO] at iC;have pD:=hi.agg;split at iC
  .rename_i hu;rw[hu] at IJ;unfold Instr.checkKey;simp[run_underlying IJ]
  .rename_i hu;rw[hu] at IJ;unfold Instr.checkKey;simp[run_underlying IJ]
  .rename_i hu;rw[hu] at IJ;unfold Instr.checkKey;simp[run_underlying IJ]
  .rename_i fs hu;rw[hu] at pD IJ;split at iC
   .rename_i n hc;cases hb:Nat.beq n i.size with
    |false=>simp[hb] at iC
    |true=>
     simp only[hb,cond_true] at iC;have hn:=mH hb;have key:∀(gs:List Field)(off:Nat)(ks:List Nat),mU T off gs=some n->mi (kinds T d) gs=some ks->∀w,
       (forIn gs PUnit.unit (fun f r=>do
        if f.name≠ "_" then do
         Instr.checkKey b dep f.type (<-part f.type ⟨l⟩ f.offset)
         pure (ForInStep.yield PUnit.unit)
        else pure (ForInStep.yield PUnit.unit)):Sem PUnit).run P w=.ok PUnit.unit w:=by
      intro gs;induction gs with
      |nil=>intro off ks _ _ w;simp
      |cons f gs ihg=>
       intro off ks hc hk w;simp only[mU] at hc;cases NL:Nat.beq f.offset off with
       |false=>simp[NL] at hc
       |true=>
        simp only[NL,cond_true] at hc;have Zo:=mH NL;cases htf:T f.type with
        |none=>simp[htf] at hc
        |some j=>
         simp only[htf] at hc;obtain⟨KS,a,b',ha,gk,rfl⟩:=pS hk;have hle:=Gq hc;have hp:=p8 (hT f.type j htf) (m:=l) (off:=f.offset) (by omega) w;have bY:((l.drop f.offset).take j.size).length=j.size:=by simp;omega
         have h1:=ih f.type j dep a htf ha (by omega) _ bY b w;have h2:=ihg (off+j.size) b' hc gk w;rw[List.forIn_cons];simp only[KS,ne_eq,not_false_eq_true,if_true,Sem.run_bind,hp,Result.andThen_ok,h1,Sem.run_pure];exact h2
     simp only[valOf,pD,mg,cond_true];unfold Instr.checkKey;simp only[Sem.run_bind,run_underlying IJ,Result.andThen_ok];have h:=key fs.toList 0 ks hc iC w;rw[Array.forIn_toList] at h;simp at h;simp[h]
   .cases iC
  .rename_i n el hu;rw[hu] at pD IJ;split at iC
   .rename_i e he;cases hb:Nat.beq (n*e.size) i.size with
    |false=>simp[hb] at iC
    |true=>
     simp only[hb,cond_true] at iC;have hn:=mH hb;split at iC
     .rename_i G7 hk;have key:∀(L:List Nat),(∀j∈L,j<n)->∀w,
        (forIn L PUnit.unit (fun j r=>do
         Instr.checkKey b dep el (<-part el ⟨l⟩ (j*(<-sizeOf el)))
         pure (ForInStep.yield PUnit.unit)):Sem PUnit).run P w=.ok PUnit.unit w:=by
       intro L;induction L with
       |nil=>intro _ w;simp
       |cons j L ihL=>
        intro hL w;have hj:=hL j (AN ..);have hle:j*e.size+e.size<=l.length:=by have:(j+1)*e.size<=n*e.size:=DX _ hj;rw[tw] at this;omega
        have hp:=p8 (hT el e he) (m:=l) (off:=j*e.size) hle w;have bY:((l.drop (j*e.size)).take e.size).length=e.size:=by simp;omega
        have h1:=ih el e dep G7 he hk (by omega) _ bY b w;have h2:=ihL (fun x hx=>hL x (Bf _ hx)) w;have hs:=(fy (w:=w) (hT el e he)).1;rw[List.forIn_cons];simp only[Sem.run_bind,hs,hp,Result.andThen_ok,h1,Sem.run_pure];exact h2
      simp only[valOf,pD,mg,cond_true];unfold Instr.checkKey;simp only[Sem.run_bind,run_underlying IJ,Result.andThen_ok];have h:=key (List.range' 0 n) (fun j hj=>by simp at hj;omega) w;simp at h;simp[h]
     .cases iC
   .cases iC
  .cases iC
def Eqs(P:Program)(kt:Nat)(c:Value)(y:MapEntry)(t:Bool):Prop:=∀w,(Op.equal kt c y.key).run P w=.ok t w
theorem VZ(hT:cu P T){ki:TI}(CX:T kt=some ki)(hk:kinds T 9 kt=some ks)(pD:ki.agg=true)(MC:All2 (KR ρ) l m)(ha:All2 (QG ρ) es ces):
  ∀ {r:Option Value},gM (9::ks) (.agg ⟨l⟩) es=some r->
   (r=none/\∀y∈ces,Eqs P kt (.agg ⟨m⟩) y false)\/∃v y a b,r=some v/\ces=a++y::b/\(∀z∈a++b,Eqs P kt (.agg ⟨m⟩) z false)/\Eqs P kt (.agg ⟨m⟩) y true/\AR ρ v y.val:=by
 induction ha with
 |nil=>intro r h;cases h;exact .inl ⟨rfl,fun y h=>by cases h⟩
 | @cons x y es ces PU hs ih=>
  obtain⟨k',v'⟩:=x;obtain⟨h1,h2⟩:=PU;intro r h;simp only[gM] at h;have step:∀t,pB (9::ks) (.agg ⟨l⟩) k'=some t->Eqs P kt (.agg ⟨m⟩) y t:=by intro t he w;obtain⟨⟨l'⟩,rfl,NM⟩:=UG he;obtain⟨m',e2,NU⟩:=(VR.val h1).uw;have adG:=BS MC NU NM;have:=Gx hT 9 kt ki 10000 ks CX hk (by omega) m m' t adG w;simp only[valOf,pD,cond_true] at this;rw[e2];exact this
  split at h
  .rename_i he hl;cases h;rcases ih hl with⟨_,hf⟩|⟨v,_,_,_,q,_⟩
   .exact .inr ⟨v',y,[],ces,rfl,rfl,hf,step _ he,h2⟩
   .cases q
  .rename_i he;rcases ih h with⟨rfl,hf⟩|⟨v,z,a,b,rfl,rfl,hf,hz,hv⟩
   .exact .inl ⟨rfl,fun z hz=>by rcases List.mem_cons.1 hz with rfl|hz;exact step _ he;exact hf z hz⟩
   .exact .inr ⟨v,z,y::a,b,rfl,rfl,fun u hu=>by rcases List.mem_cons.1 hu with rfl|hu;exact step _ he;exact hf u hu,hz,hv⟩
  .cases h
theorem Gz{kt:Nat}{c:Value} :∀ {ces:List MapEntry} (i:Nat),(∀y∈ces,Eqs P kt c y false)->∀w,(Instr.findAsking kt c ces i).run P w=.ok none w
 |[],i,_,w=>by simp[Instr.findAsking]
 |y::ces,i,h,w=>by have h1:=h y (AN ..) w;have h2:=Gz (i+1) (fun z hz=>h z (Bf _ hz)) w;simp[Instr.findAsking,h1,h2]
theorem GA{kt:Nat}{c:Value}{y:MapEntry}{b:List MapEntry}(hy:Eqs P kt c y true):∀ {a:List MapEntry} (i:Nat),(∀y∈a,Eqs P kt c y false)->∀w,(Instr.findAsking kt c (a++y::b) i).run P w=.ok (some (i+a.length,y.val)) w
 |[],i,_,w=>by simp[Instr.findAsking,hy w]
 |z::a,i,h,w=>by have h1:=h z (AN ..) w;have h2:=GA (b:=b) hy (i+1) (fun z hz=>h z (Bf _ hz)) w;simp[Instr.findAsking,h1,h2];omega
theorem Lk(hT:cu P T){ki:TI}(CX:T kt=some ki)(hk:kinds T 9 kt=some ks)(pD:ki.agg=true)(MC:All2 (KR ρ) l m){ces agC:List MapEntry}(ha:All2 (QG ρ) es agC)(hp:agC.Perm ces){r:Option Value}(h:gM (9::ks) (.agg ⟨l⟩) es=some r):
  (r=none/\∀w,(Instr.findAsking kt (.agg ⟨m⟩) ces 0).run P w=.ok none w)\/∃v j cv,r=some v/\(∀w,(Instr.findAsking kt (.agg ⟨m⟩) ces 0).run P w=.ok (some (j,cv)) w)/\AR ρ v cv:=by
 rcases VZ hT CX hk pD MC ha h with⟨rfl,hf⟩|⟨v,y,a,b,rfl,rfl,hf,hy,hv⟩
 .exact .inl ⟨rfl,Gz 0 fun y hy=>hf y (hp.mem_iff.2 hy)⟩
 .obtain⟨a',b',rfl⟩:=List.append_of_mem (hp.mem_iff.1 (List.mem_append_right a (AN ..)));have hq:(a++b).Perm (a'++b'):=by have:=(List.perm_middle.symm.trans hp).trans List.perm_middle;exact List.Perm.cons_inv this
  exact .inr ⟨v,_,_,rfl,GA hy 0 fun z hz=>hf z (hq.mem_iff.2 (List.mem_append_left _ hz)),hv⟩
theorem v5(hu:(∃fs,P.underlying kt=some (.struct fs))\/∃n el,P.underlying kt=some (.array n el)){r:Option (Nat×Value)}(h:∀w,(Instr.findAsking kt c ces 0).run P w=.ok r w)(w:World):(Instr.findKey kt c ces).run P w=.ok r w:=by
 cases ces with
 |nil=>
  have:=h w;simp[Instr.findAsking] at this;rcases hu with⟨fs,hu⟩|⟨n,el,hu⟩<;>simp[Instr.findKey,run_underlying hu,Instr.findNow,this]
 |cons x ces=>
  rcases hu with⟨fs,hu⟩|⟨n,el,hu⟩<;>simp[Instr.findKey,run_underlying hu,Instr.findNow,Instr.sameNow,h]
theorem Lh(hT:cu P T){ki:TI}(CX:T kt=some ki)(Bj:kinds T 9 kt=some ks)(Tt:ki.agg=true)(hm:m.length=ks.length)(b:Bool)(w:World):(Instr.checkKey b 10000 kt (.agg ⟨m⟩)).run P w=.ok () w:=by have:=VT hT 9 kt ki 10000 ks CX Bj (by omega) m (by rw[hm];exact pT CX hT Bj) b w;simpa only[valOf,Tt,cond_true] using this
theorem All2.P7{R:α->β->Prop}{l:List α}{m:List β}(h:All2 R l m):l.length=m.length:=by
 induction h with
 |nil=>rfl
 |cons _ _ ih=>simp[ih]
theorem Lu(hT:cu P T){t kt el:TypeId}{i ki ei:TI}{z:Value}{ok:Bool}(jO:T t=some i)(hu:i.u=.map kt el)(CX:T kt=some ki)(Bj:kinds T 9 kt=some ks)(Tt:ki.agg=true)(Fk:(∃fs,ki.u=.struct fs)\/∃n el,ki.u=.array n el)(j5:T el=some ei)(hz:ei.zero=[z])(pD:ei.agg=false)(S:cK CC ρ h w)(hE:ER ρ e a.tmps)(hG:cj ng ρ)(hx:bp ng x=true)(hy:bp ng y=true)(hv:bw e h (.look (9::ks) z ok x y)=some (v,h')):
  Out CC ρ h w v h' (((do pure (Next.value (<-Instr.lookup t (a.eval x) (a.eval y) ok))):Sem Next).run P w):=by
 have o7:=(hT t i jO).u;rw[hu] at o7;have huk:(∃fs,P.underlying kt=some (.struct fs))\/∃n el,P.underlying kt=some (.array n el):=by
  have:=(hT kt ki CX).u;rcases Fk with⟨fs,e⟩|⟨n,el,e⟩
  .exact .inl ⟨fs,by rw[this,e]⟩
  .exact .inr ⟨n,el,by rw[this,e]⟩
 obtain⟨z',Ry,Ab⟩:=wO (P:=P) (w:=w) (hT el ei j5);have PY:z'=z:=by
  obtain⟨ti,k1,k2,k3,zz,k4,k5⟩:=(hT el ei j5).info;have:=(hT el ei j5).one pD ti zz k1 k4;have e1:zz=z':=by
   have:(zeroValue el).run P w=.ok zz w:=by simp[zeroValue,typeInfo,k1,k4]
   rw[this] at Ry;cases Ry;rfl
  subst e1;have hc:zz.cells.toList=[zz]:=by cases zz<;>first|rfl|(simp[AI.plain] at this)
  rw[hc,hz] at Ab;simpa using Ab
 subst PY;have N9:cg z'=true:=by have:=(hT el ei j5).zero;rw[hz] at this;simpa using this
 have hzr:AR ρ z' z':=.cell (.cell (kh N9));have eu:=hE.eval hG hx;have oZ:=hE.eval hG hy;obtain⟨l,MB,JF⟩:∃l,ev e y=.agg ⟨l⟩/\l.length=ks.length:=by
  cases MB:ev e y with
  |agg lk=>
   obtain⟨l⟩:=lk;refine⟨l,rfl,?_⟩;cases D9:pE (9::ks) (ev e y) with
   |false=>simp[bw,D9] at hv
   |true=>rw[MB] at D9;exact mH D9
  |_=>simp[bw,MB,pE] at hv
 have D9:pE (9::ks) (ev e y)=true:=by rw[MB];show Nat.beq l.length ks.length=true;rw[JF];exact Nat.beq_refl _
 rw[MB] at oZ;obtain⟨m,em,MC⟩:=oZ.uw;have Yg:m.length=ks.length:=by rw[<-JF];exact(All2.P7 MC).symm
 have hck:=fun b w=>Lh hT CX Bj Tt Yg b w;have key:∀(es:List (Value×Value))(ces:Array MapEntry),(∃l:List MapEntry,l.Perm ces.toList/\All2 (QG ρ) es l)->∀r,gM (9::ks) (ev e y) es=some r->(∀(body:Sem (Array MapEntry)),body.run P w=.ok ces w->True)->
   ∃c,(match r with|none=>VR ρ (if ok then .tuple #[z',.bool false] else z') c|some v=>VR ρ (if ok then .tuple #[v,.bool true] else v) c)/\
    ((do
     Instr.checkKey ces.isEmpty 10000 kt (a.eval y)
     let(v,bz)<-match<-Instr.findKey kt (a.eval y) ces.toList with
      |some (_,v)=>pure (v,true)
      |none=>pure (<-zeroValue el,false)
     pure (if ok then Value.tuple #[v,.bool bz] else v)):Sem Value).run P w=.ok c w:=by
  intro es ces ⟨l0,hp,ha⟩ r hr _;rw[MB] at hr;rw[em];rcases Lk hT CX Bj Tt MC ha hp hr with⟨rfl,hf⟩|⟨v,j,cv,rfl,hf,hvc⟩
  .cases ok with
   |false=>exact⟨z',.val hzr,by simp[hck,v5 huk hf,Ry]⟩
   |true=>exact⟨.tuple #[z',.bool false],.tuple (.cons hzr (.cons (.cell (.cell (.bool _))) .nil)),by simp[hck,v5 huk hf,Ry]⟩
  .cases ok with
   |false=>exact⟨cv,.val hvc,by simp[hck,v5 huk hf]⟩
   |true=>exact⟨.tuple #[cv,.bool true],.tuple (.cons hvc (.cons (.cell (.cell (.bool _))) .nil)),by simp[hck,v5 huk hf]⟩
 cases hm:ev e x with
 |map m=>
  rw[hm] at eu;cases m with
  |none=>
   have e1:=eu.Et;simp only[bw,hm,D9,cond_true] at hv;cases hv;obtain⟨c,h1,h2⟩:=key [] #[] ⟨[],.refl _,.nil⟩ none rfl (fun _ _=>trivial);refine Out.same S (c:=c) (cS ?_) h1;rw[e1];simp only[Instr.lookup,Sem.run_bind,run_underlying o7,Result.andThen];simp[Sem.run_bind,Result.andThen] at h2⊢;exact h2
  |some b=>
   obtain⟨r,hr,e1⟩:=eu.I0;simp only[bw,hm,D9,cond_true] at hv;cases hg:h.tr.get b with
   |none=>simp[hg] at hv
   |some ob=>
    cases ob with
    |map es=>
     simp only[hg] at hv;obtain⟨ces,cl,hw,ha,CJ,lq⟩:=S.obj b r _ hr hg;cases hl:gM (9::ks) (ev e y) es with
     |none=>simp[hl] at hv
     |some q=>
      obtain⟨c,h1,h2⟩:=key es ces ha q hl (fun _ _=>trivial);have hvh:VR ρ v c/\h'=h:=by
       cases q with
       |none=>simp only[hl] at hv;cases hv;exact⟨h1,rfl⟩
       |some q=>simp only[hl] at hv;cases hv;exact⟨h1,rfl⟩
      obtain⟨h1,rfl⟩:=hvh;refine Out.same S (c:=c) (cS ?_) h1;rw[e1];have CW:(getObj r.aC).run P w=.ok (.map ces cl) w:=by simp[getObj,Sem.run,hw]
      simp only[Instr.lookup,Sem.run_bind,run_underlying o7,Result.andThen,CW];simp[Sem.run_bind,Result.andThen] at h2⊢;exact h2
    |_=>simp[hg] at hv
 |_=>simp[bw,hm] at hv
theorem Lv(hT:cu P T){t kt el:TypeId}{i ki:TI}(jO:T t=some i)(hu:i.u=.map kt el)(CX:T kt=some ki)(Bj:kinds T 9 kt=some ks)(Tt:ki.agg=true)(Fk:(∃fs,ki.u=.struct fs)\/∃n el,ki.u=.array n el)(S:cK CC ρ h w)(hE:ER ρ e a.tmps)(hG:cj ng ρ)(hx:bp ng x=true)(hy:bp ng y=true)(hz:bp ng z=true)(hv:bw e h (.Eo (9::ks) x y z)=some (v,h')):
  ∃w',v=.tuple #[]/\(Instr.mapUpdate t (a.eval x) (a.eval y) (a.eval z)).run P w=.ok () w'/\cK CC ρ h' w'/\Ext ρ h w ρ h' w':=by
 have o7:=(hT t i jO).u;rw[hu] at o7;have huk:(∃fs,P.underlying kt=some (.struct fs))\/∃n el,P.underlying kt=some (.array n el):=by
  have:=(hT kt ki CX).u;rcases Fk with⟨fs,e⟩|⟨n,el,e⟩
  .exact .inl ⟨fs,by rw[this,e]⟩
  .exact .inr ⟨n,el,by rw[this,e]⟩
 have eu:=hE.eval hG hx;have oZ:=hE.eval hG hy;have hrz:=hE.eval hG hz;obtain⟨l,MB,JF⟩:∃l,ev e y=.agg ⟨l⟩/\l.length=ks.length:=by
  cases MB:ev e y with
  |agg lk=>
   obtain⟨l⟩:=lk;refine⟨l,rfl,?_⟩;cases D9:pE (9::ks) (ev e y) with
   |false=>simp[bw,D9] at hv
   |true=>rw[MB] at D9;exact mH D9
  |_=>simp[bw,MB,pE] at hv
 have D9:pE (9::ks) (ev e y)=true:=by rw[MB];show Nat.beq l.length ks.length=true;rw[JF];exact Nat.beq_refl _
 rw[MB] at oZ;obtain⟨m,em,MC⟩:=oZ.uw;have Yg:m.length=ks.length:=by rw[<-JF];exact(All2.P7 MC).symm
 have hck:=fun b w=>Lh hT CX Bj Tt Yg b w;cases hm:ev e x with
 |map m=>
  rw[hm] at eu;cases m with
  |none=>simp[bw,hm] at hv
  |some b=>
   obtain⟨r,hr,e1⟩:=eu.I0;simp only[bw,hm,D9,cond_true] at hv;cases hg:h.tr.get b with
   |none=>simp[hg] at hv
   |some ob=>
    cases ob with
    |map es=>
     simp only[hg] at hv;cases hlk:gM (9::ks) (ev e y) es with
     |none=>simp[yr,hlk] at hv
     |some q=>
     cases q with
     |some q=>simp[yr,hlk] at hv
     |none=>
      simp only[yr,hlk] at hv;cases uj:(Bv (ev e y)&&plain (ev e z)) with
      |false=>simp[uj] at hv
      |true=>
      simp only[uj,if_true,jm,vz] at hv;obtain⟨rfl,rfl⟩:=hv;simp only[uh] at uj;obtain⟨ces,cl,hw,⟨l0,hp,ha⟩,CJ,lq⟩:=S.obj b r _ hr hg;have CW:(getObj r.aC).run P w=.ok (.map ces cl) w:=by simp[getObj,Sem.run,hw]
      have hso:∀o,(setObj r.aC o).run P w=.ok () {w with heap:=w.heap.setIfInBounds r.aC o} :=by intro o;simp[setObj,Sem.run,hw]
      have gE:∀o,({w with heap:=w.heap.setIfInBounds r.aC o} :World).heap[r.aC]?=some o:=by intro o;have:=jd hw;simp[this]
      rw[MB] at hlk;rcases Lk hT CX Bj Tt MC ha hp hlk with⟨_,hf⟩|⟨v,j,cv,q,_⟩
      .rw[e1,em];have adq:QG ρ (ev e y,ev e z) { key:=(.agg ⟨m⟩),val:=a.eval z,born:=cl } :=⟨by rw[MB];exact .agg MC,.cell (KR.Wn hrz uj.2)⟩;obtain⟨S',E'⟩:=S.xp hr hg rfl (JA.obj (w:=w) r.aC (.map (ces.push { key:=(.agg ⟨m⟩),val:=a.eval z,born:=cl }) (cl+1))) (o':=.map (es++[(ev e y,ev e z)]))
        ⟨_,_,gE _,⟨l0++[{ key:=(.agg ⟨m⟩),val:=a.eval z,born:=cl }],by rw[Array.toList_push];exact hp.append_right _,ha.app (.cons adq .nil)⟩,by simp[CJ],by rw[CJ];exact QT lq⟩ (h.clock+1)
       refine⟨_,rfl,?_,S',E'⟩;simp[Instr.mapUpdate,run_underlying o7,CW,hck,v5 huk hf,hso]
      .cases q
    |_=>simp[hg] at hv
 |_=>simp[bw,hm] at hv
theorem VR.CM{v c:Value}(h:VR ρ v c)(hv:CM v=true):∀b,c≠ .bool b:=by
 intro b e;subst e;cases h with
 |any h=>exact h b rfl
 |val h=>cases h with
  |cell h=>cases h with
   |cell h=>cases h;simp[AI.CM] at hv
end
end Go.AI
