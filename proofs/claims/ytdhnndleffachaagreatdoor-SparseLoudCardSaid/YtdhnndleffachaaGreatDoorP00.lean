/- Parts of the proof. -/
import GoSem.Dispatch
import Derived.Calls
import Derived.Below
import Derived.Laws.Rows
import Derived.Laws.CopyRow
import Derived.Laws.StructEq
import Derived.Laws.Append
import Derived.ChangeKeysEq
import Derived.Laws.Slices
import Derived.Laws.MakeOwn
import Derived.Laws.AppendOwn
set_option linter.all false
namespace Go.AI
variable {args:List Value} {f:Nat} {v:Value}
inductive Tr (α:Type) where
 |nil
 |node (v:Option α) (l r:Tr α)
namespace Tr
variable {α:Type}
def get:Tr α->Nat->Option α
 | .nil,_=>none
 | .node v l r,k=>
  match k with
  |0=>v
  |k+1=>bif Nat.beq (k%2) 0 then l.get (k/2) else r.get (k/2)
def put:Nat->Tr α->Nat->Option α->Tr α
 |0,t,_,_=>t
 |f+1,.nil,k,x=>
  match k with
  |0=> .node x .nil .nil
  |k+1=>bif Nat.beq (k%2) 0 then .node none (put f .nil (k/2) x) .nil else .node none .nil (put f .nil (k/2) x)
 |f+1,.node v l r,k,x=>
  match k with
  |0=> .node x l r
  |k+1=>bif Nat.beq (k%2) 0 then .node v (put f l (k/2) x) r else .node v l (put f r (k/2) x)
def set (t:Tr α) (k:Nat) (x:α):Tr α:=put (k+1) t k (some x)
def del (t:Tr α) (k:Nat):Tr α:=put (k+1) t k none
end Tr
abbrev Env:=Tr Value
def Env.get (e:Env) (t:Nat):Value:=(Tr.get e t).getD (.tuple #[])
inductive jk where
 |mv (x:Operand)
 |pick (c a b:Operand)
 |alloc (z:List Value)
 |box (x:Operand)
 |build (z:List Value) (parts:List (Nat×Nat×Operand))
 |cX (n:Nat) (z:List Value) (parts:List (Nat×Nat×Operand))
 |load (n:Option Nat) (a:Operand)
 |store (n:Nat) (a v:Operand)
 |aY (x:Operand)
 |bin (op:BinOp) (n:List Nat) (x y:Operand)
 |un (op:UnOp) (x:Operand)
 |conv (k:IntKind) (x:Operand)
 |uz (f:FuncId) (caps:List Operand)
 |Ey
 |ik (z:List Value) (bytes:Nat) (len cap:Operand)
 |slice (size:Nat) (x:Operand) (lo hi mx:Option Operand)
 |bM (off:Nat) (x:Operand)
 |cR (arr:Option Nat) (size:Nat) (x i:Operand)
 |field (off:Nat) (n:Option Nat) (x:Operand)
 |index (arr:Option (Nat×Nat×Option Nat)) (x i:Operand)
 |look (n:List Nat) (z:Value) (ok:Bool) (x i:Operand)
 |Ja (n:List Nat) (m k v:Operand)
 |Lv (n:List Nat) (z:Value) (m k:Operand)
 |Ok (m s v:Operand)
 |By (x:Operand)
 |nxt (x:Operand)
 |ext (i:Nat) (x:Operand)
 |call (f:Operand) (args:List Operand)
 |uU (x:Operand)
 |JD (x:Operand)
 |append (z:List Value) (bytes:Nat) (pX:Bool) (s x:Operand)
 |copy (size:Nat) (d s:Operand)
 |clear (z:List Value) (x:Operand)
 |MY (x y:Operand)
 |MX (x:Operand)
 |bad
 deriving Inhabited
structure bl where
 dst:Option Nat
 guard:Option (Nat×Bool)
 op:jk
 deriving Inhabited
inductive ak where
 |skip
 |ops (l:List bl)
 |draw (l:List (bl×List Nat))
 |seq (a b:ak)
 |cond (c:Operand) (a b:ak)
 |block (id:Nat) (c:ak)
 |loop (c:ak)
 |Qk (f:Operand) (ps:List Nat) (asg body:ak)
 |exit (id:Nat)
 |ret
 |bad
 deriving Inhabited
inductive Dk where
 |tmp (t:Nat)
 |cell (a:Nat) (n:Option Nat)
inductive Ta where
 |ready|busy|done (j:Option Nat)
inductive o9 where
 |aA (cells:List Value) (ro:Bool) (EM:Nat) (asx:Nat)
 |loop (env:Env) (ps:List Nat) (asg body:ak) (st:Ta)
 |map (es:List (Value×Value))
 |itr
structure ae where
 next:Nat
 clock:Nat
 tr:Tr o9
def WF (h:ae):Prop:= ∀b o,h.tr.get b=some o->b<h.next
structure dg (h h':ae):Prop where
 next:h.next<=h'.next
 clock:h.clock<=h'.clock
 bA: ∀b cs ro o s,b<h.next->h'.tr.get b=some (.aA cs ro o s)->s<h.clock->h.tr.get b=some (.aA cs ro o s)
 wf:WF h->WF h'
 mp: ∀b,b<h.next->h'.tr.get b=some (.map [])->h.tr.get b=some (.map [])
inductive Prim where
 |no
 |run (p:List Value->ae->Option (Value×ae)) (hp: ∀args h v h',p args h=some (v,h')->dg h h')
 |Oy
structure bZ where
 res:List Dk
 body:ak
 Bv:Prim:= .no
inductive aP where
 |normal
 |exit (id:Nat)
 |ret
def ev (e:Env):Operand->Value
 | .tmp t=>Env.get e t
 | .const v=>v
 | .global g=> .pointer (some ⟨g,0,none⟩)
 | .func f=> .func (.func f) #[] #[]
def eX (e:Env):Option Nat->Value->Env
 |none,_=>e
 |some t,v=>Tr.set e t v
def ae.new (h:ae) (o:o9):ae:= { h with next:=h.next+1,tr:=h.tr.set h.next o }
def aL (h:ae) (cells:List Value) (EM:Nat):ae:=h.new (.aA cells false EM 0)
def agg (n:Option Nat) (cs:List Value):Option Value:=
 match n with
 |some n=>if Nat.beq cs.length n then some (.agg ⟨cs⟩) else none
 |none=>match cs with
  |[v]=>some v
  |_=>none
def width (n:Option Nat):Nat:=match n with|some n=>n|none=>1
def bc (h:ae) (b off n:Nat):Option (List Value):=
 match h.tr.get b with
 |some (.aA cs _ _ _)=>let r:=(cs.drop off).take n;if Nat.beq r.length n then some r else none
 |_=>none
def aJ (cs:List Value) (off:Nat) (vs:List Value):List Value:=cs.take off++vs++cs.drop (off+vs.length)
def kM (h:ae) (b off:Nat) (vs:List Value):Option ae:=
 match h.tr.get b with
 |some (.aA cs false o _)=>
  if Nat.ble (off+vs.length) cs.length then some { h with clock:=h.clock+1,tr:=h.tr.set b (.aA (aJ cs off vs) false o h.clock) } else none
 |_=>none
def cellsOf:Value->List Value
 | .agg cs=>cs.toList
 |v=>[v]
def plain:Value->Bool
 | .agg _=>false
 | .tuple _=>false
 | .chan _=>false
 |_=>true
def simple:Value->Bool
 | .agg _=>false
 | .tuple _=>false
 | .chan _=>false
 | .func _ _ _=>false
 |_=>true
def flat (v:Value):Option (List Value):=bif (cellsOf v).all plain then some (cellsOf v) else none
def tA (e:Env):List Value->List (Nat×Nat×Operand)->Option (List Value)
 |cs,[]=>some cs
 |cs,(off,n,x)::r=>match flat (ev e x) with
  |some vs=>if Nat.beq vs.length n&&Nat.ble (off+n) cs.length then tA e (aJ cs off vs) r else none
  |none=>none
def jW (z:List Value):Nat->List Value
 |0=>[]
 |n+1=>z++jW z n
def dI (k:Nat) (a b:Value):Option Bool:=
 match k,a,b with
 |0,.bool a,.bool b=>some (a==b)
 |1,.int k a,.int k' b=>if k=k' then some (a==b) else none
 |2,.string a,.string b=>some (a==b)
 |_,_,_=>none
def bx:List Nat->List Value->List Value->Option Bool
 |[],[],[]=>some true
 |k::ks,a::as',b::bs=>match dI k a b,bx ks as' bs with
  |some x,some y=>some (x&&y)
  |_,_=>none
 |_,_,_=>none
def gE (ks:List Nat) (a b:Value):Option Bool:=
 match a,b with
 | .agg a,.agg b=>match ks with
  |9::ks=>bx ks a.toList b.toList
  |_=>none
 |a,b=>match ks with
  |[3]=>match a,b with
   | .slice none _ _,.slice b _ _=>some b.isNone
   | .slice (some _) _ _,.slice none _ _=>some false
   |_,_=>none
  |[4]=>match a,b with
   | .pointer none,.pointer b=>some b.isNone
   | .pointer (some _),.pointer none=>some false
   |_,_=>none
  |[5]=>match a,b with
   | .map none,.map b=>some b.isNone
   | .map (some _),.map none=>some false
   |_,_=>none
  |[6]=>match a,b with
   | .nilFunc,.nilFunc=>some true
   | .nilFunc,.func _ _ _=>some false
   | .func _ _ _,.nilFunc=>some false
   |_,_=>none
  |[k]=>dI k a b
  |_=>none
def fB (op:BinOp) (k:IntKind) (a b:Int):Option Value:=
 match op with
 | .add=>some (.int k (k.wrap (a+b)))
 | .sub=>some (.int k (k.wrap (a-b)))
 | .mul=>some (.int k (k.wrap (a*b)))
 | .quo=>if b=0 then none else some (.int k (k.wrap (a.tdiv b)))
 | .rem=>if b=0 then none else some (.int k (a.tmod b))
 | .and=>some (.int k (k.wrap (BitVec.ofInt k.bits a &&& BitVec.ofInt k.bits b).toNat))
 | .or=>some (.int k (k.wrap (BitVec.ofInt k.bits a ||| BitVec.ofInt k.bits b).toNat))
 | .xor=>some (.int k (k.wrap (BitVec.ofInt k.bits a ^^^ BitVec.ofInt k.bits b).toNat))
 | .andNot=>some (.int k (k.wrap (BitVec.ofInt k.bits a &&& ~~~(BitVec.ofInt k.bits b)).toNat))
 | .eql=>some (.bool (a==b))
 | .neq=>some (.bool (a !=b))
 | .lss=>some (.bool (a<b))
 | .leq=>some (.bool (a<=b))
 | .gtr=>some (.bool (a>b))
 | .geq=>some (.bool (a>=b))
 |_=>none
def gY (op:BinOp) (k:IntKind) (a b:Int):Option Value:=
 if b<0 then none else
 match op with
 | .shl=>some (.int k (k.wrap (a*2^(min b.toNat k.bits))))
 | .shr=>some (.int k (a.fdiv (2^(min b.toNat k.bits))))
 |_=>none
def Ud (op:BinOp) (n:List Nat) (x y:Value):Option Value:=
 match op with
 | .shl=>match x,y with| .int k a,.int _ b=>gY .shl k a b|_,_=>none
 | .shr=>match x,y with| .int k a,.int _ b=>gY .shr k a b|_,_=>none
 | .eql=>match x,y with
  | .int k a,.int k' b=>if k=k' then fB .eql k a b else none
  |x,y=>match gE n x y with|some b=>some (.bool b)|none=>none
 | .neq=>match x,y with
  | .int k a,.int k' b=>if k=k' then fB .neq k a b else none
  |x,y=>match gE n x y with|some b=>some (.bool (!b))|none=>none
 | .gtr=>match x,y with
  | .int k a,.int k' b=>if k=k' then fB .gtr k a b else none
  | .int .i64 a,.chan (some c)=>if a<=(c:Int) then some (.bool false) else none
  |_,_=>none
 |op=>match x,y with| .int k a,.int k' b=>if k=k' then fB op k a b else none|_,_=>none
def unV (op:UnOp) (x:Value):Option Value:=
 match op,x with
 | .neg,.int k n=>some (.int k (k.wrap (0-n)))
 | .xor,.int k n=>some (.int k (k.wrap (BitVec.ofInt k.bits (if k.signed then-1 else k.max) ^^^ BitVec.ofInt k.bits n).toNat))
 | .not,.bool b=>some (.bool !b)
 |_,_=>none
def bound (e:Env) (x:Option Operand) (alJ top:Nat):Option Nat:=
 match x with
 |none=>some alJ
 |some x=>match ev e x with
  | .int _ (.ofNat i)=>if Nat.ble i top then some i else none
  |_=>none
def roomy (bytes:Nat):Bool:=Nat.ble bytes 1099511627776
def news (h:ae) (z:List Value) (pX:Bool) (x:Value):Option (Nat×List Value):=
 match pX,x with
 |true,.int _ (.ofNat n)=>if roomy n then some (n,jW z n) else none
 |false,.slice none n _=>if Nat.beq n 0 then some (0,[]) else none
 |false,.slice (some ⟨b,off,none⟩) n _=>if Nat.beq n 0 then some (0,[]) else match bc h b off (n*z.length) with
  |some cs=>some (n,cs)
  |none=>none
 |_,_=>none
def ie (h:ae) (z:List Value) (bytes:Nat) (s:Value) (n:Nat) (cs:List Value):Option (Value×ae):=
 match s with
 | .slice a len cap=>
  if Nat.blt 0 z.length then
  if Nat.beq n 0 then(if Nat.ble len cap then some (.slice a len cap,h) else none) else
  if roomy (len+n)&&roomy ((len+n)*bytes) then
   match a with
   |none=>if Nat.beq len 0&&Nat.beq cap 0 then some (.slice (some ⟨h.next,0,none⟩) n n,aL h cs z.length) else none
   |some ⟨b,off,none⟩=>
    match h.tr.get b with
    |some (.aA bA false o _)=>
     if Nat.ble (len+n) cap then
      match kM h b (off+len*z.length) cs with
      |some h'=>some (.slice (some ⟨b,off,none⟩) (len+n) cap,h')
      |none=>none
     else
      let r:=(bA.drop off).take (len*z.length)
      if Nat.beq r.length (len*z.length) then
       if Nat.beq o 0|| !(Nat.beq (off+cap*o) bA.length) then
        some (.slice (some ⟨h.next,0,none⟩) (len+n) (len+n),aL h (r++cs) z.length)
       else if Nat.beq o z.length then
        some (.slice (some ⟨h.next,0,none⟩) (len+n) (len+n),aL { h with tr:=h.tr.del b } (r++cs) z.length)
       else none
      else none
    |_=>none
   |_=>none
  else none
  else none
 |_=>none
def pd (n:List Nat) (k:Value):List (Value×Value)->Option (Option Value)
 |[]=>some none
 |(k',v)::r=>match gE n k k' with
  |some true=>some (some v)
  |some false=>pd n k r
  |none=>none
def zb:Value->Bool
 | .agg cs=>cs.toList.all plain
 |k=>plain k
def jY:List Nat->Value->Bool
 |9::ks,.agg cs=>Nat.beq cs.toList.length ks.length
 |9::_,_=>false
 |_,_=>true
def rM (n:List Nat) (k v:Value):List (Value×Value)->Option (List (Value×Value))
 |[]=>if zb k&&plain v then some [(k,v)] else none
 |(k',v')::r=>match gE n k k' with
  |some true=>if zb k&&plain v then some ((k,v)::r) else none
  |some false=>match rM n k v r with|some r'=>some ((k',v')::r')|none=>none
  |none=>none
def wC (n:List Nat) (z k:Value):List (Value×Value)->Option (Value×Nat×List (Value×Value))
 |[]=>if zb k&&plain z then some (z,0,[(k,z)]) else none
 |(k',v')::r=>match gE n k k' with
  |some true=>if zb k then some (v',0,(k,v')::r) else none
  |some false=>match wC n z k r with|some (v,i,r')=>some (v,i+1,(k',v')::r')|none=>none
  |none=>none
def tM (e:Env) (l:List Operand):List Value:=l.map (ev e)
def bm (e:Env) (h:ae):jk->Option (Value×ae)
 | .mv x=>some (ev e x,h)
 | .pick c a b=>match ev e c with
  | .bool true=>some (ev e a,h)
  | .bool false=>some (ev e b,h)
  |_=>none
 | .alloc z=>some (.pointer (some ⟨h.next,0,none⟩),aL h z 0)
 | .box x=>match flat (ev e x) with
  |some vs=>some (.pointer (some ⟨h.next,0,none⟩),aL h vs 0)
  |none=>none
 | .build z parts=>match tA e z parts with
  |some cs=>some (.agg ⟨cs⟩,h)
  |none=>none
 | .cX n z parts=>match tA e z parts with
  |some cs=>some (.slice (some ⟨h.next,0,none⟩) n n,aL h cs 0)
  |none=>none
 | .load n a=>match ev e a with
  | .pointer (some ⟨b,off,none⟩)=>match bc h b off (width n) with
   |some cs=>match agg n cs with|some v=>some (v,h)|none=>none
   |none=>none
  |_=>none
 | .store n a v=>match ev e a with
  | .pointer (some ⟨b,off,none⟩)=>match flat (ev e v) with
   |some vs=>if Nat.beq vs.length n then match kM h b off vs with
     |some h'=>some (.tuple #[],h')
     |none=>none
    else none
   |none=>none
  |_=>none
 | .aY x=>match ev e x with
  | .pointer (some a)=>some (.pointer (some a),h)
  |_=>none
 | .bin op n x y=>match Ud op n (ev e x) (ev e y) with
  |some v=>some (v,h)
  |none=>none
 | .un op x=>match unV op (ev e x) with
  |some v=>some (v,h)
  |none=>none
 | .conv k x=>match ev e x with
  | .int _ n=>some (.int k (k.wrap n),h)
  |_=>none
 | .uz f caps=>bif (tM e caps).all simple then some (.func (.func f) #[] ⟨tM e caps⟩,h) else none
 | .Ey=>some (.map (some h.next),h.new (.map []))
 | .ik z bytes len cap=>match ev e len,ev e cap with
  | .int .i64 (.ofNat l),.int .i64 (.ofNat c)=>
   if Nat.ble l c&&roomy (c*bytes)&&Nat.blt 0 z.length&&roomy c then some (.slice (some ⟨h.next,0,none⟩) l c,aL h (jW z c) 0) else none
  |_,_=>none
 | .slice size x lo hi mx=>match ev e x with
  | .slice a len cap=>
   match bound e mx cap cap with
   |none=>none
   |some m=>match bound e hi len m with
    |none=>none
    |some hh=>match bound e lo 0 hh with
     |none=>none
     |some l=>match a with
      |none=>some (.slice none (hh-l) (m-l),h)
      |some ⟨b,off,none⟩=>match h.tr.get b with
       |some (.aA _ _ o _)=>bif Nat.beq o 0||Nat.beq o size then some (.slice (some ⟨b,off+l*size,none⟩) (hh-l) (m-l),h) else none
       |_=>none
      |_=>none
  |_=>none
 | .bM off x=>match ev e x with
  | .pointer (some ⟨b,o,none⟩)=>some (.pointer (some ⟨b,o+off,none⟩),h)
  |_=>none
 | .cR arr size x i=>match ev e i with
  | .int _ (.ofNat i)=>match arr,ev e x with
   |some n,.pointer (some ⟨b,o,none⟩)=>if Nat.blt i n then some (.pointer (some ⟨b,o+i*size,none⟩),h) else none
   |none,.slice (some ⟨b,o,none⟩) len _=>if Nat.blt i len then some (.pointer (some ⟨b,o+i*size,none⟩),h) else none
   |_,_=>none
  |_=>none
 | .field off n x=>match ev e x with
  | .agg cs=>match agg n ((cs.toList.drop off).take (width n)) with
   |some v=>some (v,h)
   |none=>none
  |_=>none
 | .index arr x i=>match ev e i with
  | .int _ (.ofNat i)=>match arr,ev e x with
   |some (len,size,n),.agg cs=>if Nat.blt i len then match agg n ((cs.toList.drop (i*size)).take (width n)) with
     |some v=>some (v,h)
     |none=>none
    else none
   |none,.string s=>match s[i]? with
    |some b=>some (.int .u8 b.toNat,h)
    |none=>none
   |_,_=>none
  |_=>none
 | .look n z ok x i=>bif jY n (ev e i) then
  let r:=match ev e x with
   | .map none=>some none
   | .map (some r)=>match h.tr.get r with
    |some (.map es)=>pd n (ev e i) es
    |_=>none
   |_=>none
  match r with
  |none=>none
  |some none=>some (if ok then .tuple #[z,.bool false] else z,h)
  |some (some v)=>some (if ok then .tuple #[v,.bool true] else v,h)
  else none
 | .Ja n m k v=>bif jY n (ev e k) then match ev e m with
  | .map (some r)=>match h.tr.get r with
   |some (.map es)=>match rM n (ev e k) (ev e v) es with
    |some tN=>some (.tuple #[],{ h with clock:=h.clock+1,tr:=h.tr.set r (.map tN) })
    |none=>none
   |_=>none
  |_=>none
  else none
 | .Lv n z m k=>bif jY n (ev e k) then match ev e m with
  | .map (some r)=>match h.tr.get r with
   |some (.map es)=>match wC n z (ev e k) es with
    |some (v,i,tN)=>some (.tuple #[v,.int .i64 i],{ h with clock:=h.clock+1,tr:=h.tr.set r (.map tN) })
    |none=>none
   |_=>none
  |_=>none
  else none
 | .Ok m s v=>match ev e m with
  | .map (some r)=>match ev e s with
   | .int .i64 (.ofNat i)=>match h.tr.get r with
    |some (.map es)=>match es[i]? with
     |some x=>if plain (ev e v) then some (.tuple #[],{ h with clock:=h.clock+1,tr:=h.tr.set r (.map (es.set i (x.1,ev e v))) }) else none
     |none=>none
    |_=>none
   |_=>none
  |_=>none
 | .By x=>match ev e x with
  | .map none=>some (.pointer (some ⟨h.next,0,none⟩),h.new .itr)
  |_=>none
 | .nxt x=>match ev e x with
  | .pointer (some ⟨b,0,none⟩)=>match h.tr.get b with
   |some .itr=>some (.tuple #[.bool false],h)
   |_=>none
  |_=>none
 | .ext i x=>match ev e x with
  | .tuple vs=>match vs.toList[i]? with
   |some v=>some (v,h)
   |none=>none
  |_=>none
 | .uU x=>match ev e x with
  | .slice _ n _=>some (.int .i64 n,h)
  |_=>none
 | .JD x=>match ev e x with
  | .string s=>some (.int .i64 s.size,h)
  |_=>none
 | .append z bytes pX s x=>match news h z pX (ev e x) with
  |some (n,cs)=>ie h z bytes (ev e s) n cs
  |none=>none
 | .copy size d s=>match ev e d,ev e s with
  | .slice da dn _,.slice sa sn _=>
   let n:=Nat.min sn dn
   if Nat.beq n 0 then some (.int .i64 0,h) else
   match da,sa with
   |some ⟨db,afO,none⟩,some ⟨sb,aiF,none⟩=>match bc h sb aiF (n*size) with
    |some cs=>match kM h db afO cs with
     |some h'=>some (.int .i64 n,h')
     |none=>none
    |none=>none
   |_,_=>none
  |_,_=>none
 | .clear z x=>match ev e x with
  | .slice a n _=>if Nat.beq n 0 then some (.tuple #[],h) else match a with
   |some ⟨b,off,none⟩=>match kM h b off (jW z n) with
    |some h'=>some (.tuple #[],h')
    |none=>none
   |_=>none
  |_=>none
 | .MY x y=>match ev e x,ev e y with
  | .int k a,.int k' b=>if k=k' then some (.int k (if b<a then b else a),h) else none
  |_,_=>none
 | .MX x=>match ev e x with
  | .slice none _ c=>some (.int .i64 c,h)
  | .slice (some ⟨b,_,none⟩) _ c=>match h.tr.get b with
   |some (.aA _ _ o _)=>if Nat.beq o 0 then some (.int .i64 c,h) else some (.chan (some c),h)
   |_=>none
  |_=>none
 | .call _ _=>none
 | .bad=>none
abbrev R:=Option (aP×Env×ae)
def params:Env->Nat->List Value->Env
 |e,_,[]=>e
 |e,i,v::r=>params (Tr.set e i v) (i+1) r
def results (e:Env) (h:ae):List Dk->Option (List Value)
 |[]=>some []
 | .tmp t::r=>match results e h r with|some l=>some (Env.get e t::l)|none=>none
 | .cell a n::r=>match Env.get e a with
  | .pointer (some ⟨b,off,none⟩)=>match bc h b off (width n) with
   |some cs=>match agg n cs with
    |some v=>match results e h r with|some l=>some (v::l)|none=>none
    |none=>none
   |none=>none
  |_=>none
def xy:Value->Bool
 | .tuple _=>false
 | .chan _=>false
 |_=>true
def result:List Value->Value
 |[v]=>v
 |l=> .tuple ⟨l⟩
def iH:List Value->Bool
 |[_]=>true
 |l=>l.all xy
def gV:Env->List Nat->List Value->Option Env
 |e,[],[]=>some e
 |e,t::ts,v::vs=>gV (Tr.set e t v) ts vs
 |_,_,_=>none
def R5:List Value->ae->Option (Value×ae)
 |[.slice (some ⟨a,_,none⟩) la _,.slice (some ⟨b,_,none⟩) lb _],h=>
  match h.tr.get a,h.tr.get b with
  |some (.aA _ false _ _),some (.aA _ false _ _)=>bif Nat.beq la 0||Nat.beq lb 0|| !(Nat.beq a b) then some (.bool false,h) else none
  |_,_=>none
 |_,_=>none
section
variable (F:Nat->Option bZ) (ih:ak->Env->ae->R)
def oo (o:Bool) (f:Nat) (args:List Value) (h:ae):Option (Value×ae):=
 match F f with
 |none=>none
 |some fn=>match fn.Bv with
  | .Oy=>bif o then R5 args h else none
  | .run p _=>p args h
  | .no=>match ih fn.body (params .nil 0 args) h with
   |some (.normal,e',h')|some (.ret,e',h')=>match results e' h' fn.res with
    |some vs=>bif iH vs then some (result vs,h') else none
    |none=>none
   |_=>none
abbrev si (f:Nat) (args:List Value) (h:ae):Option (Value×ae):=oo F ih false f args h
def fG (h:ae) (l:Nat) (env:Env) (ps:List Nat) (asg body:ak) (st:Ta):ae:= { h with tr:=h.tr.set l (.loop env ps asg body st) }
def nH (l:Nat) (h:ae) (st:Ta) (v:Bool):Option (Value×ae):=
 match h.tr.get l with
 |some (.loop env ps asg body .busy)=>some (.bool v,fG h l env ps asg body st)
 |_=>none
def zg (l:Nat) (code:ak) (e:Env) (h:ae):Option (Value×ae):=
 match h.tr.get l with
 |some (.loop env ps asg body .ready)=>
  match ih code e (fG h l env ps asg body .busy) with
  |some (.normal,_,h)=>nH l h .ready true
  |some (.ret,_,h)=>nH l h (.done none) false
  |some (.exit id,_,h)=>nH l h (.done (some id)) false
  |none=>none
 |_=>none
def vj (l:Nat) (args:List Value) (h:ae):Option (Value×ae):=
 match h.tr.get l with
 |some (.loop env ps asg body .ready)=>
  match gV env ps args with
  |none=>none
  |some e=>match ih asg e h with
   |some (.normal,e,h)=>zg ih l body e h
   |_=>none
 |_=>none
def cD (fv:Value) (args:List Value) (h:ae):Option (Value×ae):=
 match fv with
 | .func (.func f) first caps=>oo F ih true f (first.toList++args++caps.toList) h
 | .func (.yield l) _ _=>vj ih l args h
 |_=>none
def wanted (e:Env):Option (Nat×Bool)->Bool
 |none=>true
 |some (t,b)=>match Env.get e t with
  | .bool c=>c==b
  |_=>false
def cK (o:bl) (e:Env) (h:ae):Option (Env×ae):=
 bif wanted e o.guard then
  match o.op with
  | .call f args=>match cD F ih (ev e f) (tM e args) h with
   |some (v,h')=>some (eX e o.dst v,h')
   |none=>none
  |op=>match bm e h op with
   |some (v,h')=>some (eX e o.dst v,h')
   |none=>none
 else some (eX e o.dst (.tuple #[]),h)
def x4:List bl->Env->ae->Option (Env×ae)
 |[],e,h=>some (e,h)
 |o::r,e,h=>match cK F ih o e h with
  |some (e,h)=>x4 r e h
  |none=>none
def still (e:Env) (h:ae) (clock:Nat):List Nat->Bool
 |[]=>true
 |t::r=>match Env.get e t with
  | .pointer (some ⟨b,_,none⟩)=>match h.tr.get b with
   |some (.aA _ _ _ s)=>Nat.ble s clock&&still e h clock r
   |_=>false
  | .slice (some ⟨b,_,none⟩) _ _=>match h.tr.get b with
   |some (.aA _ _ _ s)=>Nat.ble s clock&&still e h clock r
   |_=>false
  | .map (some b)=>match h.tr.get b with
   |some (.map [])=>still e h clock r
   |_=>false
  | .map none=>still e h clock r
  | .tuple _=>still e h clock r
  | .pointer none=>still e h clock r
  | .slice none _ _=>still e h clock r
  |_=>false
def mQ (clock:Nat):List (bl×List Nat)->Env->ae->Option (Env×ae)
 |[],e,h=>some (e,h)
 |(o,lL)::r,e,h=>match cK F ih o e h with
  |some (e,h)=>bif still e h clock lL then mQ clock r e h else none
  |none=>none
def ct:ak->Env->ae->R
 | .skip,e,h=>some (.normal,e,h)
 | .ops l,e,h=>match x4 F ih l e h with
  |some (e,h)=>some (.normal,e,h)
  |none=>none
 | .draw l,e,h=>match mQ F ih h.clock l e { h with clock:=h.clock+1 } with
  |some (e,h)=>some (.normal,e,h)
  |none=>none
 | .seq a b,e,h=>match ih a e h with
  |some (.normal,e,h)=>ih b e h
  |r=>r
 | .cond c a b,e,h=>match ev e c with
  | .bool true=>ih a e h
  | .bool false=>ih b e h
  |_=>none
 | .block id c,e,h=>match ih c e h with
  |some (.exit i,e,h)=>bif Nat.beq i id then some (.normal,e,h) else some (.exit i,e,h)
  |r=>r
 | .loop c,e,h=>match ih c e h with
  |some (.normal,e,h)=>ih (.loop c) e h
  |r=>r
 | .exit id,e,h=>some (.exit id,e,h)
 | .ret,e,h=>some (.ret,e,h)
 | .Qk f ps asg body,e,h=>match ev e f with
  | .func (.func g) first caps=>match si F ih g (first.toList++[.func (.yield h.next) #[] #[]]++caps.toList) (h.new (.loop e ps asg body .ready)) with
   |some (_,h')=>match h'.tr.get h.next with
    |some (.loop _ _ _ _ .ready)=>some (.normal,e,{ h' with tr:=h'.tr.del h.next })
    |some (.loop _ _ _ _ (.done none))=>some (.ret,e,{ h' with tr:=h'.tr.del h.next })
    |some (.loop _ _ _ _ (.done (some id)))=>some (.exit id,e,{ h' with tr:=h'.tr.del h.next })
    |_=>none
   |none=>none
  |_=>none
 | .bad,_,_=>none
end
def run (F:Nat->Option bZ):Nat->ak->Env->ae->R:=
 Nat.rec (fun _ _ _=>none) (fun _ ih=>ct F ih)
def call (F:Nat->Option bZ) (fuel f:Nat) (args:List Value) (h:ae):Option (Value×ae):=si F (run F fuel) f args h
section
variable {F:Nat->Option bZ} {ih:ak->Env->ae->R}
theorem DN {h h':ae} (hc:oo F ih true f args h=some (v,h')):
  oo F ih false f args h=some (v,h')\/ ∃fn,F f=some fn/\fn.Bv= .Oy/\R5 args h=some (v,h'):=by
 unfold oo at hc ⊢;cases hf:F f with
 |none=>rw[hf] at hc;cases hc
 |some fn=>
  rw[hf] at hc;dsimp only at hc ⊢;cases hp:fn.Bv with
  |Oy=>rw[hp] at hc;exact .inr ⟨fn,rfl,hp,hc⟩
  |run p k=>rw[hp] at hc;exact .inl hc
  |no=>rw[hp] at hc;exact .inl hc
theorem wv {h h':ae} (hc:oo F ih false f args h=some (v,h')):oo F ih true f args h=some (v,h'):=by
 unfold oo at hc ⊢;cases hf:F f with
 |none=>rw[hf] at hc;cases hc
 |some fn=>
  rw[hf] at hc;dsimp only at hc ⊢;cases hp:fn.Bv with
  |Oy=>rw[hp] at hc;cases hc
  |run p k=>rw[hp] at hc;exact hc
  |no=>rw[hp] at hc;exact hc
theorem Hx {h h':ae} (hc:R5 args h=some (v,h')):v= .bool false/\h'=h/\
  ∃a oa la ca b ob lb cb csa o1 s1 csb o2 s2,args=[.slice (some ⟨a,oa,none⟩) la ca,.slice (some ⟨b,ob,none⟩) lb cb]/\h.tr.get a=some (.aA csa false o1 s1)/\h.tr.get b=some (.aA csb false o2 s2)/\(la=0\/lb=0\/a≠b):=by
 unfold R5 at hc;split at hc
 .rename_i a oa la ca b ob lb cb;split at hc
  .rename_i c1 o1 s1 c2 o2 s2 h1 h2;cases hb:(Nat.beq la 0||Nat.beq lb 0|| !(Nat.beq a b)) with
   |false=>rw[hb] at hc;cases hc
   |true=>
    rw[hb] at hc;cases hc;refine⟨rfl,rfl,a,oa,la,ca,b,ob,lb,cb,_,_,_,_,_,_,rfl,h1,h2,?_⟩;simp only[Bool.or_eq_true,Bool.not_eq_true'] at hb;rcases hb with(h|h)|h
    .exact .inl (Nat.eq_of_beq_eq_true h)
    .exact .inr (.inl (Nat.eq_of_beq_eq_true h))
    .exact .inr (.inr fun e=>by rw[e,Nat.beq_refl] at h;cases h)
  .cases hc
 .cases hc
end
end Go.AI
namespace Go.AI
variable {i:Nat}
theorem aX {α:Type} {l:List α} (h:i<l.length):l[i]? =some l[i]:=List.getElem?_eq_getElem h
theorem bY {α:Type} {l:List α} {a:α} :l[i]? =some a↔ ∃h:i<l.length,l[i]=a:=List.getElem?_eq_some_iff
theorem dk {α:Type} {l:List α} {a:α} (h:l[i]? =some a):a∈l:=List.mem_of_getElem? h
theorem rT {α:Type} {l:List α} {a:α} (h:a∈l): ∃i:Nat,l[i]? =some a:=List.getElem?_of_mem h
theorem eR:type_of% @List.getElem?_set:= @List.getElem?_set
theorem nO:type_of% @Nat.eq_of_beq_eq_true:= @Nat.eq_of_beq_eq_true
theorem dK:type_of% @Nat.le_refl:= @Nat.le_refl
theorem kl:type_of% @Option.some.injEq:= @Option.some.injEq
theorem uI:type_of% @List.getElem?_eq_none:= @List.getElem?_eq_none
theorem tP:type_of% @Nat.eq_zero_or_pos:= @Nat.eq_zero_or_pos
theorem tQ:type_of% @List.getElem?_map:= @List.getElem?_map
theorem uf:type_of% @Bool.and_eq_true:= @Bool.and_eq_true
theorem yn:type_of% @List.take_add_one:= @List.take_add_one
theorem KF:type_of% @List.eq_nil_of_length_eq_zero:= @List.eq_nil_of_length_eq_zero
theorem xV:type_of% @List.take_length:= @List.take_length
theorem CI:type_of% @Nat.mul_le_mul_right:= @Nat.mul_le_mul_right
theorem CZ:type_of% @List.mem_cons_of_mem:= @List.mem_cons_of_mem
theorem zV:type_of% @List.ext_getElem?:= @List.ext_getElem?
theorem KG:type_of% @List.mem_or_eq_of_mem_set:= @List.mem_or_eq_of_mem_set
theorem zk:type_of% @List.getElem_mem:= @List.getElem_mem
theorem KH:type_of% @List.getElem?_append_left:= @List.getElem?_append_left
theorem ug:type_of% @Nat.le_trans:= @Nat.le_trans
theorem Mv:type_of% @List.getElem?_append_right:= @List.getElem?_append_right
theorem rU:type_of% @Nat.add_mul:= @Nat.add_mul
theorem wI:type_of% @Prod.mk.injEq:= @Prod.mk.injEq
theorem D2:type_of% @List.mem_cons_self:= @List.mem_cons_self
theorem CJ:type_of% @Option.map_some:= @Option.map_some
theorem Mw:type_of% @Nat.le_of_ble_eq_true:= @Nat.le_of_ble_eq_true
theorem IF:type_of% @Nat.lt_of_lt_of_le:= @Nat.lt_of_lt_of_le
theorem IG:type_of% @List.length_append:= @List.length_append
theorem BU:type_of% @Nat.add_assoc:= @Nat.add_assoc
theorem AV:type_of% @Nat.lt_or_ge:= @Nat.lt_or_ge
theorem Bg:type_of% @Nat.zero_add:= @Nat.zero_add
theorem QT:type_of% @List.length_filter_le:= @List.length_filter_le
theorem xU:type_of% @List.append_assoc:= @List.append_assoc
theorem Fw:type_of% @List.map_cons:= @List.map_cons
theorem UH:type_of% @List.getElem?_replicate:= @List.getElem?_replicate
theorem PG:type_of% @Bool.false_eq_true:= @Bool.false_eq_true
theorem XC:type_of% @List.drop_eq_nil_of_le:= @List.drop_eq_nil_of_le
theorem XD:type_of% @List.take_of_length_le:= @List.take_of_length_le
theorem gK_:type_of% @List.Nodup.length_le_of_subset:= @List.Nodup.length_le_of_subset
theorem ID:type_of% @Nat.add_zero:= @Nat.add_zero
theorem DZ:type_of% @List.getElem?_take:= @List.getElem?_take
theorem Mu:type_of% @List.sum_cons:= @List.sum_cons
theorem CH:type_of% @List.not_mem_nil:= @List.not_mem_nil
theorem UI:type_of% @Int.toNat_natCast:= @Int.toNat_natCast
theorem YI:type_of% @List.mem_of_mem_take:= @List.mem_of_mem_take
theorem tO:type_of% @List.mem_append:= @List.mem_append
theorem j9:type_of% @List.mem_map:= @List.mem_map
theorem NA:type_of% @List.mem_filter:= @List.mem_filter
theorem XE:type_of% @List.length_map:= @List.length_map
theorem NB:type_of% @List.mem_range:= @List.mem_range
theorem aU:type_of% @if_pos:= @if_pos
theorem aT:type_of% @if_neg:= @if_neg
@[simp] def t_ (n:Nat):Operand:= .tmp n
@[simp] def i_ (n:Int):Operand:= .const (.int .i64 n)
@[simp] def o_ (d:Nat) (x:jk):bl:=⟨some d,none,x⟩
@[simp] def u_ (x:jk):bl:=⟨none,none,x⟩
@[simp] def q_ (d c:Nat) (b:Bool) (x:jk):bl:=⟨some d,some (c,b),x⟩
@[simp] def m_ (d s:Nat):bl:=⟨some d,none,.mv (.tmp s)⟩
@[simp] def k_ (d:Nat) (n:Int):bl:=⟨some d,none,.mv (.const (.int .i64 n))⟩
@[simp] def l_ (d a:Nat):bl:=⟨some d,none,.load none (.tmp a)⟩
@[simp] def L_ (d n a:Nat):bl:=⟨some d,none,.load (some n) (.tmp a)⟩
@[simp] def f_ (d k a:Nat):bl:=⟨some d,none,.bM k (.tmp a)⟩
@[simp] def a_ (d k x i:Nat):bl:=⟨some d,none,.cR none k (.tmp x) (.tmp i)⟩
@[simp] def s_ (n a v:Nat):bl:=⟨none,none,.store n (.tmp a) (.tmp v)⟩
@[simp] def z_ (d x:Nat):bl:=⟨some d,none,.uU (.tmp x)⟩
@[simp] def B_ (d:Nat) (op:BinOp) (x y:Nat):bl:=⟨some d,none,.bin op [] (.tmp x) (.tmp y)⟩
@[simp] def C_ (d:Nat) (op:BinOp) (x:Nat) (n:Int):bl:=⟨some d,none,.bin op [] (.tmp x) (.const (.int .i64 n))⟩
@[simp] def F_ (d f:Nat) (l:List Operand):bl:=⟨some d,none,.call (.func f) l⟩
@[simp] def x_ (d x:Nat):bl:=⟨some d,none,.box (.tmp x)⟩
@[simp] def D_ (x:bl):bl×List Nat:=(x,[])
@[simp] def G_ (l:List bl) (c:ak):ak:= .seq (.ops l) c
@[simp] def O_ (l:List bl):ak:= .ops l
@[simp] def V_ (l:List (bl×List Nat)):ak:= .draw l
@[simp] def J_ (a b:ak):ak:= .seq a b
@[simp] def H_ (c n:Nat):ak:= .cond (.tmp c) .skip (.exit n)
@[simp] def I_ (c:Nat) (a b:ak):ak:= .cond (.tmp c) a b
@[simp] def P_ (n:Nat) (a:ak):ak:= .block n a
@[simp] def Q_ (n:Nat) (a:ak):ak:= .block n (.loop a)
@[simp] def b_ (b:Bool):Operand:= .const (.bool b)
@[simp] def M_ (d:Nat) (b:Bool):bl:=⟨some d,none,.mv (.const (.bool b))⟩
namespace Tr
variable {α:Type}
theorem PH (x:Option α): ∀(f:Nat) (t:Tr α) (k j:Nat),k<f->(put f t k x).get j=if j=k then x else t.get j:=by
 intro f;induction f with
 |zero=>intro t k j h;omega
 |succ f ih=>
  intro t k j h;cases t with
  |nil=>
   cases k with
   |zero=>cases j with
    |zero=>simp[put,get]
    |succ j=>simp[put,get]
   |succ k=>
    have hk:k/2<f:=by omega
    cases j with
    |zero=>
     have: ¬(0=k+1):=by omega
     unfold put;dsimp only;cases hb:Nat.beq (k%2) 0<;>simp[get]
    |succ j=>
     unfold put;dsimp only;cases hb:Nat.beq (k%2) 0<;>cases hj:Nat.beq (j%2) 0<;>simp only[get,hj,cond_true,cond_false,ih _ _ _ hk]
     .have h1:k%2≠0:=by intro h;rw[h] at hb;cases hb
      have h2:j%2≠0:=by intro h;rw[h] at hj;cases hj
      by_cases e:j=k
      .subst e;simp
      .have:j/2≠k/2:=by omega
       simp[e,this]
     .have h1:k%2≠0:=by intro h;rw[h] at hb;cases hb
      have h2:=nO hj;have:j≠k:=by rintro rfl;omega
      simp[this]
     .have h1:=nO hb;have h2:j%2≠0:=by intro h;rw[h] at hj;cases hj
      have:j≠k:=by rintro rfl;omega
      simp[this]
     .have h1:=nO hb;have h2:=nO hj;by_cases e:j=k
      .subst e;simp
      .have:j/2≠k/2:=by omega
       simp[e,this]
  |node v l r=>
   cases k with
   |zero=>cases j with
    |zero=>simp[put,get]
    |succ j=>simp[put,get]
   |succ k=>
    have hk:k/2<f:=by omega
    cases j with
    |zero=>
     unfold put;dsimp only;cases hb:Nat.beq (k%2) 0<;>simp[get]
    |succ j=>
     unfold put;dsimp only;cases hb:Nat.beq (k%2) 0<;>cases hj:Nat.beq (j%2) 0<;>simp only[get,hj,cond_true,cond_false,ih _ _ _ hk]
     .have h1:k%2≠0:=by intro h;rw[h] at hb;cases hb
      have h2:j%2≠0:=by intro h;rw[h] at hj;cases hj
      by_cases e:j=k
      .subst e;simp
      .have:j/2≠k/2:=by omega
       simp[e,this]
     .have h1:k%2≠0:=by intro h;rw[h] at hb;cases hb
      have h2:=nO hj;have:j≠k:=by rintro rfl;omega
      simp[this]
     .have h1:=nO hb;have h2:j%2≠0:=by intro h;rw[h] at hj;cases hj
      have:j≠k:=by rintro rfl;omega
      simp[this]
     .have h1:=nO hb;have h2:=nO hj;by_cases e:j=k
      .subst e;simp
      .have:j/2≠k/2:=by omega
       simp[e,this]
theorem aN (t:Tr α) (k j:Nat) (x:α):(t.set k x).get j=if j=k then some x else t.get j:=PH (some x) _ t k j (by omega)
theorem mj (t:Tr α) (k j:Nat):(t.del k).get j=if j=k then none else t.get j:=PH none _ t k j (by omega)
end Tr
theorem Env.aN (e:Env) (k j:Nat) (v:Value):Env.get (Tr.set e k v) j=if j=k then v else Env.get e j:=by unfold Env.get;rw[Tr.aN];split<;>rfl
inductive All2 {α β:Type} (R:α->β->Prop):List α->List β->Prop
 |nil:All2 R [] []
 |cons {a b as' bs} (h:R a b) (hs:All2 R as' bs):All2 R (a::as') (b::bs)
namespace All2
variable {α β:Type} {R S:α->β->Prop}
theorem length {l:List α} {m:List β} (h:All2 R l m):l.length=m.length:=by
 induction h with
 |nil=>rfl
 |cons _ _ ih=>simp[ih]
theorem mono {l:List α} {m:List β} (hm: ∀a b,R a b->S a b) (h:All2 R l m):All2 S l m:=by
 induction h with
 |nil=>exact .nil
 |cons h _ ih=>exact .cons (hm _ _ h) ih
theorem app {l l':List α} {m m':List β} (h:All2 R l m) (h':All2 R l' m'):All2 R (l++l') (m++m'):=by
 induction h with
 |nil=>exact h'
 |cons h _ ih=>exact .cons h ih
theorem take {l:List α} {m:List β} (h:All2 R l m): ∀n,All2 R (l.take n) (m.take n):=by
 induction h with
 |nil=>intro n;simpa using .nil
 |cons h _ ih=>intro n;cases n with
  |zero=>simpa using .nil
  |succ n=>simpa using .cons h (ih n)
theorem drop {l:List α} {m:List β} (h:All2 R l m): ∀n,All2 R (l.drop n) (m.drop n):=by
 induction h with
 |nil=>intro n;simpa using .nil
 |cons h hs ih=>intro n;cases n with
  |zero=>simpa using .cons h hs
  |succ n=>simpa using ih n
theorem get {l:List α} {m:List β} (h:All2 R l m): ∀ {i:Nat} {a:α},l[i]? =some a-> ∃b,m[i]? =some b/\R a b:=by
 induction h with
 |nil=>intro i a h;simp at h
 |cons h _ ih=>
  intro i a hi;cases i with
  |zero=>simp at hi;subst hi;exact⟨_,rfl,h⟩
  |succ i=>simp at hi;simpa using ih hi
theorem adA {l:List α} : ∀ {m:List β},l.length=m.length->(∀(i:Nat) (a:α) (b:β),l[i]? =some a->m[i]? =some b->R a b)->All2 R l m:=by
 induction l with
 |nil=>intro m h _;cases m with
  |nil=>exact .nil
  |cons=>simp at h
 |cons a l ih=>intro m h hg;cases m with
  |nil=>simp at h
  |cons b m=>exact .cons (hg 0 a b rfl rfl) (ih (by simpa using h) fun i x y hx hy=>hg (i+1) x y (by simpa using hx) (by simpa using hy))
end All2
structure yJ where
 aA:Nat
 base:Nat
 len:Nat
 EM:Nat
 room:Nat
abbrev dY:=Nat->Option yJ
def r7 (r:yJ) (o len cap:Nat) (ca:Addr) (ccap:Nat):Prop:=
 (ca=⟨r.aA,r.base+o,none⟩\/(ccap=0/\cap=0))/\(ccap=cap\/(r.EM≠0/\cap<=ccap/\o+cap*r.EM=r.len/\o+ccap*r.EM<=r.room))/\len<=cap
inductive CR (ρ:dY):Value->Value->Prop
 |bool (b:Bool):CR ρ (.bool b) (.bool b)
 |int (k:IntKind) (n:Int):CR ρ (.int k n) (.int k n)
 |str (s:ByteArray):CR ρ (.string s) (.string s)
 |EE:CR ρ (.pointer none) (.pointer none)
 |ptr {b o:Nat} {r:yJ} (h:ρ b=some r):CR ρ (.pointer (some ⟨b,o,none⟩)) (.pointer (some ⟨r.aA,r.base+o,none⟩))
 |oE (n c:Nat):CR ρ (.slice none n c) (.slice none n c)
 |slice {b o len cap ccap:Nat} {ca:Addr} {r:yJ} (h:ρ b=some r) (hs:r7 r o len cap ca ccap):CR ρ (.slice (some ⟨b,o,none⟩) len cap) (.slice (some ca) len ccap)
 |y6:CR ρ (.map none) (.map none)
 |map {m:Nat} {r:yJ} (h:ρ m=some r):CR ρ (.map (some m)) (.map (some r.aA))
 |As:CR ρ .nilFunc .nilFunc
 |wT:CR ρ .nilIface .nilIface
inductive KR (ρ:dY):Value->Value->Prop
 |cell {v c:Value} (h:CR ρ v c):KR ρ v c
 |fn (f:FuncId) {l m:List Value} (h:All2 (CR ρ) l m):KR ρ (.func (.func f) #[] ⟨l⟩) (.func (.func f) #[] ⟨m⟩)
 |yield {l:Nat} {r:yJ} (h:ρ l=some r):KR ρ (.func (.yield l) #[] #[]) (.func (.yield r.aA) #[] #[])
inductive AR (ρ:dY):Value->Value->Prop
 |cell {v c:Value} (h:KR ρ v c):AR ρ v c
 |agg {l m:List Value} (h:All2 (KR ρ) l m):AR ρ (.agg ⟨l⟩) (.agg ⟨m⟩)
inductive VR (ρ:dY):Value->Value->Prop
 |val {v c:Value} (h:AR ρ v c):VR ρ v c
 |tuple {l m:List Value} (h:All2 (AR ρ) l m):VR ρ (.tuple ⟨l⟩) (.tuple ⟨m⟩)
 |atl {n m:Nat} (h:n<=m):VR ρ (.chan (some n)) (.int .i64 m)
def dY.le (ρ ρ':dY):Prop:= ∀b r,ρ b=some r->ρ' b=some r
theorem dY.le_refl (ρ:dY):ρ.le ρ:=fun _ _ h=>h
theorem dY.le_trans {a b c:dY} (h:a.le b) (h':b.le c):a.le c:=fun _ _ x=>h' _ _ (h _ _ x)
section
variable {ρ ρ':dY} {v c:Value}
theorem CR.mono (hl:ρ.le ρ') (h:CR ρ v c):CR ρ' v c:=by
 cases h with
 |bool b=>exact .bool b
 |int k n=>exact .int k n
 |str s=>exact .str s
 |EE=>exact .EE
 |ptr h=>exact .ptr (hl _ _ h)
 |oE n c=>exact .oE n c
 |slice h hs=>exact .slice (hl _ _ h) hs
 |y6=>exact .y6
 |map h=>exact .map (hl _ _ h)
 |As=>exact .As
 |wT=>exact .wT
theorem KR.mono (hl:ρ.le ρ') (h:KR ρ v c):KR ρ' v c:=by
 cases h with
 |cell h=>exact .cell (h.mono hl)
 |fn f h=>exact .fn f (h.mono fun _ _=>CR.mono hl)
 |yield h=>exact .yield (hl _ _ h)
theorem AR.mono (hl:ρ.le ρ') (h:AR ρ v c):AR ρ' v c:=by
 cases h with
 |cell h=>exact .cell (h.mono hl)
 |agg h=>exact .agg (h.mono fun _ _=>KR.mono hl)
theorem VR.mono (hl:ρ.le ρ') (h:VR ρ v c):VR ρ' v c:=by
 cases h with
 |val h=>exact .val (h.mono hl)
 |tuple h=>exact .tuple (h.mono fun _ _=>AR.mono hl)
 |atl h=>exact .atl h
theorem CR.vr (h:CR ρ v c):VR ρ v c:= .val (.cell (.cell h))
theorem KR.vr (h:KR ρ v c):VR ρ v c:= .val (.cell h)
theorem VR.undef:VR ρ (.tuple #[]) (.tuple #[]):= .tuple .nil
theorem VR.bool (b:Bool):VR ρ (.bool b) (.bool b):=(CR.bool b).vr
theorem VR.int (k:IntKind) (n:Int):VR ρ (.int k n) (.int k n):=(CR.int k n).vr
theorem KR.plain (h:KR ρ v c):AI.plain v=true/\AI.plain c=true:=by
 cases h with
 |cell h=>cases h<;>exact⟨rfl,rfl⟩
 |fn=>exact⟨rfl,rfl⟩
 |yield=>exact⟨rfl,rfl⟩
theorem CR.qn (h:VR ρ v c) (hs:simple v=true):CR ρ v c:=by
 cases h with
 |tuple=>simp[simple] at hs
 |atl=>simp[simple] at hs
 |val h=>cases h with
  |agg=>simp[simple] at hs
  |cell h=>cases h with
   |cell h=>exact h
   |fn=>simp[simple] at hs
   |yield=>simp[simple] at hs
theorem KR.uB (h:VR ρ v c) (hs:AI.plain v=true):KR ρ v c:=by
 cases h with
 |tuple=>simp[AI.plain] at hs
 |atl=>simp[AI.plain] at hs
 |val h=>cases h with
  |agg=>simp[AI.plain] at hs
  |cell h=>exact h
theorem Km (h:KR ρ v c):cellsOf v=[v]/\c.cells= #[c]:=by
 have:=h.plain;constructor
 .cases v<;>first|rfl|(simp[AI.plain] at this)
 .cases c<;>first|rfl|(simp[AI.plain] at this)
theorem DX {vs:List Value} (h:VR ρ v c) (hf:flat v=some vs):All2 (KR ρ) vs c.cells.toList:=by
 unfold flat at hf;cases hp:(cellsOf v).all AI.plain with
 |false=>simp[hp] at hf
 |true=>
  simp[hp] at hf;subst hf;cases h with
  |tuple=>simp[cellsOf,AI.plain] at hp
  |atl=>simp[cellsOf,AI.plain] at hp
  |val h=>cases h with
   |agg h=>simpa [cellsOf,Value.cells] using h
   |cell h=>
    obtain⟨h1,h2⟩:=Km h;rw[h1,h2];exact .cons h .nil
end
def o9.rw:o9->Bool
 | .aA _ ro _ _=> !ro
 |_=>true
def dX (h:ae) (b:Nat):Prop:= ∃o,h.tr.get b=some o/\o.rw=true
end Go.AI
namespace Go.AI
variable {cp i id n off:Nat} {el t:TypeId} {f:Field} {fs:Array Field} {ks:List Nat} {l m vs:List Value} {o:Oper} {op:BinOp} {ops:Array Oper} {p q v:Value} {ps rs:Array TypeId} {vr:Bool} {x y:Operand}
def on (b:Frame) (a:Act) (todo:List Item):Frame:= { b with tmps:=a.tmps,todo:=todo,defers:=a.defers,mode:= .run }
theorem P8 (b:Frame) (a:Act) (todo:List Item):(on b a todo).eval=a.eval:=by funext x;cases x<;>rfl
section
variable {P:Program} {b:Frame} {a:Act} {k:List Item} {cs:List Frame} {w:World}
theorem ad9:step P (lone (on b a (.code .skip::k)) cs w)= .next (lone (on b a k) cs w):=
 step_lone_go (by simp[stepG,stepG.exec,on])
theorem Z0 {l:Nat} :step P (lone (on b a (.code (.label l)::k)) cs w)= .next (lone (on b a k) cs w):=
 step_lone_go (by simp[stepG,stepG.exec,on])
theorem Sz :step P (lone (on b a (.inBlock id::k)) cs w)= .next (lone (on b a k) cs w):=
 step_lone_go (by simp[stepG,stepG.exec,on])
theorem SB {c:Code} :step P (lone (on b a (.inScope c::k)) cs w)= .next (lone (on b a k) cs w):=
 step_lone_go (by simp[stepG,stepG.exec,on])
theorem Jv {c:Code} :step P (lone (on b a (.code (.scope c)::k)) cs w)= .next (lone (on b a (.code c:: .inScope c::k)) cs w):=
 step_lone_go (by simp[stepG,stepG.exec,on])
theorem Xc {x y:Code} :step P (lone (on b a (.code (.seq x y)::k)) cs w)= .next (lone (on b a (.code x:: .code y::k)) cs w):=
 step_lone_go (by simp[stepG,stepG.exec,on])
theorem W8 {c:Operand} {x y:Code} {t:Bool} (h:a.eval c= .bool t):
  step P (lone (on b a (.code (.cond c x y)::k)) cs w)= .next (lone (on b a (.code (if t then x else y)::k)) cs w):=
 step_lone_go (by have:=P8 b a (.code (.cond c x y)::k);simp only[on] at this;simp[stepG,stepG.exec,on,this,h])
theorem Dh {c:Code} :step P (lone (on b a (.code (.block id c)::k)) cs w)= .next (lone (on b a (.code c:: .inBlock id::k)) cs w):=
 step_lone_go (by simp[stepG,stepG.exec,on])
theorem Jt {c:Code} :step P (lone (on b a (.code (.loop c)::k)) cs w)= .next (lone (on b a (.code c:: .inLoop c::k)) cs w):=
 step_lone_go (by simp[stepG,stepG.exec,on])
theorem Xa {c:Code} :step P (lone (on b a (.inLoop c::k)) cs w)= .next (lone (on b a (.code c:: .inLoop c::k)) cs w):=
 step_lone_go (by simp[stepG,stepG.exec,on])
theorem ad8 {k':List Item} (h:exitTo id k=some k'):
  step P (lone (on b a (.code (.exit id)::k)) cs w)= .next (lone (on b a k') cs w):=
 step_lone_go (by simp[stepG,stepG.exec,on,h])
theorem Xb {id:Nat} {ops:Array Oper} :
  step P (lone (on b a (.code (.region id ops false)::k)) cs w)= .next (lone (on b a (.inRegion ops (List.range ops.size)::k)) cs w):=
 step_lone_go (by simp[stepG,stepG.exec,on])
theorem ad7 {id:Nat} {ops:Array Oper} :
  step P (lone (on b a (.code (.region id ops true)::k)) cs w)=
   .next (lone (on b a (.inRegion ops (Region.schedule (P.follows .mixedOrders) ops (w.tape w.drawn (.order b.fn id)))::k)) cs { w with drawn:=w.drawn+1 }):=
 step_lone_go (by simp[stepG,stepG.exec,on,choose,Sem.run,Question.forced,Question.cut])
theorem AF :step P (lone (on b a (.inRegion ops []::k)) cs w)= .next (lone (on b a k) cs w):=
 step_lone_go (by simp[stepG,stepG.exec,on])
theorem xm (b:Frame) (a:Act) (ops:Array Oper) (i:Nat) (bh:List Nat) (k:List Item) (v:Value):
  (on b a (.inRegion ops (i::bh)::k)).finish v=on b (a.put ((ops[i]?).bind (·.dst)) v) (.inRegion ops bh::k):=by
 cases h:(ops[i]?).bind (·.dst)<;>simp[Frame.finish,on,Act.put,h]
theorem HF {bh:List Nat} (h:((ops[i]?).map (Region.wanted · (yielded ops a.tmps))).getD false=false):
  step P (lone (on b a (.inRegion ops (i::bh)::k)) cs w)=
   .next (lone (on b (a.put ((ops[i]?).bind (·.dst)) undef) (.inRegion ops bh::k)) cs w):=by
 rw[<-xm];exact step_lone_go (by have h':=h;simp only[on] at*;simp[stepG,stepG.exec,h'])
def Op.sO:Op->Bool
 | .defer _=>true
 |_=>false
theorem AM {bh:List Nat} (ho:ops[i]? =some o) (hw:Region.wanted o (yielded ops a.tmps)=true)
  (hd:Op.sO o.op=false):
  stepG P true { frame:=on b a (.inRegion ops (i::bh)::k),callers:=cs,status:= .running,dying:=none } w=
   stepG.apply P true (on b a (.inRegion ops (i::bh)::k)) cs none (execOp a.eval o) w:=by
 have he:=P8 b a (.inRegion ops (i::bh)::k);simp only[on] at he;simp only[stepG,stepG.exec,stepG.oper,Frame.oper?,on,ho,hw,he,CJ,Option.getD_some,if_true];split
 .next heq=>rw[heq] at hd;simp[Op.sO] at hd
 .rfl
theorem Jw {bh:List Nat} {v:Value} {w':World} (ho:ops[i]? =some o)
  (hw:Region.wanted o (yielded ops a.tmps)=true) (hd:Op.sO o.op=false) (hr:(execOp a.eval o).run P w= .ok (.value v) w'):
  step P (lone (on b a (.inRegion ops (i::bh)::k)) cs w)= .next (lone (on b (a.put o.dst v) (.inRegion ops bh::k)) cs w'):=by
 refine step_lone_go ?_;have hf:=xm b a ops i bh k v;rw[ho] at hf;rw[AM ho hw hd];simp only[Option.bind_some] at hf;rw[<-hf];simp[stepG.apply,hr]
theorem Qm {bh:List Nat} {w':World} (ho:ops[i]? =some o)
  (hw:Region.wanted o (yielded ops a.tmps)=true) (hd:Op.sO o.op=false) (hr:(execOp a.eval o).run P w= .ok .skip w'):
  step P (lone (on b a (.inRegion ops (i::bh)::k)) cs w)= .next (lone (on b (a.put o.dst undef) (.inRegion ops bh::k)) cs w'):=by
 refine step_lone_go ?_;have hf:=xm b a ops i bh k undef;rw[ho] at hf;rw[AM ho hw hd];simp only[Option.bind_some] at hf;rw[<-hf];simp[stepG.apply,hr]
theorem ZZ {bh:List Nat} {f:FuncId} {args:Array Value} {w':World} (ho:ops[i]? =some o)
  (hw:Region.wanted o (yielded ops a.tmps)=true) (hd:Op.sO o.op=false) (hr:(execOp a.eval o).run P w= .ok (.enter f args) w'):
  step P (lone (on b a (.inRegion ops (i::bh)::k)) cs w)=
   .next (lone (Frame.enter P f args .normal) (on b a (.inRegion ops (i::bh)::k)::cs) w'):=by
 refine step_lone_go ?_;rw[AM ho hw hd];simp[stepG.apply,hr,on]
theorem Z1 {bh:List Nat} {l f:Nat} {tmps:Array Value} {asg body:Code} {w':World} (ho:ops[i]? =some o)
  (hw:Region.wanted o (yielded ops a.tmps)=true) (hd:Op.sO o.op=false) (hr:(execOp a.eval o).run P w= .ok (.round l f tmps asg body) w'):
  step P (lone (on b a (.inRegion ops (i::bh)::k)) cs w)=
   .next (lone (Frame.round l f tmps asg body .normal) (on b a (.inRegion ops (i::bh)::k)::cs) w'):=by
 refine step_lone_go ?_;rw[AM ho hw hd];simp[stepG.apply,hr]
end
def bK:Value->Bool
 | .bool _| .int _ _| .string _| .pointer none| .slice none _ _| .map none| .nilFunc| .nilIface=>true
 |_=>false
structure TI where
 u:TypeDesc
 size:Nat
 bytes:Nat
 zero:List Value
 agg:Bool
abbrev qd:=Nat->Option TI
def mn:TypeDesc->Bool
 | .struct _=>true
 | .array _ _=>true
 |_=>false
structure tu (P:Program) (t:Nat) (i:TI):Prop where
 u:P.underlying t=some i.u
 info: ∃ti,P.info? t=some ti/\ti.size=i.size/\ti.bytes=i.bytes/\ ∃z,ti.zero=some z/\z.cells.toList=i.zero
 agg:i.agg=mn i.u
 zero:i.zero.all bK=true
 plain:i.agg=false->i.size=1
 len:i.zero.length=i.size
 held: ∀fs,i.u= .struct fs->P.stoodInHeld t=false
 one:i.agg=false-> ∀ti z,P.info? t=some ti->ti.zero=some z->AI.plain z=true
def cm (P:Program) (T:qd):Prop:= ∀t i,T t=some i->tu P t i
def nc (T:qd):Nat->List Field->Option Nat
 |off,[]=>some off
 |off,f::fs=>bif Nat.beq f.offset off then match T f.type with
   |some i=>nc T (off+i.size) fs
   |none=>none
  else none
def mq (k:Nat->Option (List Nat)):List Field->Option (List Nat)
 |[]=>some []
 |f::fs=>bif f.name != "_" then match k f.type,mq k fs with
   |some a,some b=>some (a++b)
   |_,_=>none
  else none
def OE (ks:List Nat):Nat->List Nat
 |0=>[]
 |n+1=>ks++OE ks n
def kinds (T:qd):Nat->Nat->Option (List Nat)
 |0,_=>none
 |d+1,t=>match T t with
  |none=>none
  |some i=>match i.u with
   | .bool=>some [0]
   | .int _=>some [1]
   | .string=>some [2]
   | .struct fs=>match nc T 0 fs.toList with
    |some n=>bif Nat.beq n i.size then mq (kinds T d) fs.toList else none
    |none=>none
   | .array n el=>match T el with
    |some e=>bif Nat.beq (n*e.size) i.size then(match kinds T d el with|some ks=>some (OE ks n)|none=>none) else none
    |none=>none
   |_=>none
section
variable (T:qd)
def xI (i:TI):Option Nat:=bif i.agg then some i.size else none
def xk (c:Call):jk:=
 match c.callee with
 | .value f=> .call f c.args.toList
 | .builtin .len=>match c.args.toList,c.argTypes.toList with
  |[x],[t]=>match T t with
   |some i=>match i.u with| .slice _=> .uU x| .string=> .JD x|_=> .bad
   |none=> .bad
  |_,_=> .bad
 | .builtin .append=>match c.args.toList,c.argTypes.toList with
  |[s,x],[t,t']=>match T t,T t' with
   |some i,some i'=>match i.u with
    | .slice el=>match T el with
     |some e=>match i'.u with
      | .int _=> .append e.zero e.bytes true s x
      | .slice _=> .append e.zero e.bytes false s x
      |_=> .bad
     |none=> .bad
    |_=> .bad
   |_,_=> .bad
  |_,_=> .bad
 | .builtin .copy=>match c.args.toList,c.argTypes.toList with
  |[d,s],[t,_]=>match T t with
   |some i=>match i.u with
    | .slice el=>match T el with
     |some e=> .copy e.size d s
     |none=> .bad
    |_=> .bad
   |none=> .bad
  |_,_=> .bad
 | .builtin .clear=>match c.args.toList,c.argTypes.toList with
  |[x],[t]=>match T t with
   |some i=>match i.u with
    | .slice el=>match T el with
     |some e=> .clear e.zero x
     |none=> .bad
    |_=> .bad
   |none=> .bad
  |_,_=> .bad
 | .builtin .cap=>match c.args.toList,c.argTypes.toList with
  |[x],[t]=>match T t with
   |some i=>match i.u with| .slice _=> .MX x|_=> .bad
   |none=> .bad
  |_,_=> .bad
 | .builtin .min=>match c.args.toList with
  |[x,y]=> .MY x y
  |_=> .bad
 |_=> .bad
def vi (fs:List Field):List (Nat×Operand)->Option (List (Nat×Nat×Operand))
 |[]=>some []
 |(i,x)::r=>match fs[i]? with
  |none=>none
  |some f=>match T f.type,vi fs r with
   |some ti,some l=>some ((f.offset,ti.size,x)::l)
   |_,_=>none
def bQ (o:Op):jk:=
 match o with
 | .move x=> .mv x
 | .assign x=> .mv x
 | .pick c a b=> .pick c a b
 | .alloc t=>match T t with|some i=> .alloc i.zero|none=> .bad
 | .box t x=>match T t with|some _=> .box x|none=> .bad
 | .build t ps=>match T t with
  |some i=>match i.u with
   | .struct fs=>bif fs.toList.all fun f=>(T f.type).isSome then match vi T fs.toList ps.toList with|some l=> .build i.zero l|none=> .bad else .bad
   | .array _ el=>match T el with
    |some e=> .build i.zero (ps.toList.map fun p=>(p.1*e.size,e.size,p.2))
    |none=> .bad
   |_=> .bad
  |none=> .bad
 | .buildSlice t n ps=>match T t with
  |some i=>match i.u with
   | .slice el=>match T el with
    |some e=>bif Nat.ble (n*e.size) 1000000&&Nat.beq e.zero.length e.size then .cX n (jW e.zero n) (ps.toList.map fun p=>(p.1*e.size,e.size,p.2)) else .bad
    |none=> .bad
   |_=> .bad
  |none=> .bad
 | .load t a=>match T t with|some i=> .load (xI i) a|none=> .bad
 | .store t a v=>match T t with|some i=> .store i.size a v|none=> .bad
 | .nilCheck x=> .aY x
 | .binOp op t x y _=>match op with
  | .eql| .neq=>match T t with
   |some i=>match i.u with
    | .slice _=> .bin op [3] x y
    | .pointer _=> .bin op [4] x y
    | .map _ _=> .bin op [5] x y
    | .func _ _ _=> .bin op [6] x y
    | .struct _=>match kinds T 9 t with|some ks=> .bin op (9::ks) x y|none=> .bad
    | .array _ _=>match kinds T 9 t with|some ks=> .bin op (9::ks) x y|none=> .bad
    | .bool=> .bin op [0] x y
    | .int _=> .bin op [1] x y
    | .string=> .bin op [2] x y
    |_=> .bad
   |none=> .bad
  |_=> .bin op [] x y
 | .unOp op _ x=> .un op x
 | .convert s d x=>match T s,T d with
  |some i,some j=>match i.u,j.u with
   | .int _,.int k=> .conv k x
   |_,_=> .bad
  |_,_=> .bad
 | .makeFunc (.func f) first caps=>bif first.isEmpty then .uz f caps.toList else .bad
 | .makeMap _ none=> .Ey
 | .makeSlice t l c=>match T t with
  |some i=>match i.u with
   | .slice el=>match T el with
    |some e=> .ik e.zero e.bytes l c
    |none=> .bad
   |_=> .bad
  |none=> .bad
 | .slice t x lo hi mx=>match T t with
  |some i=>match i.u with
   | .slice el=>match T el with
    |some e=>bif mx.isSome&&hi.isNone then .bad else .slice e.size x lo hi mx
    |none=> .bad
   |_=> .bad
  |none=> .bad
 | .fieldAddr t x k=>match T t with
  |some i=>match i.u with
   | .struct fs=>match fs[k]? with
    |some f=>match T f.type with
     |some fi=>bif Nat.beq fi.size 0 then .bad else .bM f.offset x
     |none=> .bad
    |none=> .bad
   |_=> .bad
  |none=> .bad
 | .indexAddr t x ix=>match T t with
  |some i=>match i.u with
   | .slice el=>match T el with|some e=> .cR none e.size x ix|none=> .bad
   | .array n el=>match T el with|some e=> .cR (some n) e.size x ix|none=> .bad
   |_=> .bad
  |none=> .bad
 | .field t x k=>match T t with
  |some i=>match i.u with
   | .struct fs=>match fs[k]? with
    |some f=>match T f.type with
     |some fi=> .field f.offset (xI fi) x
     |none=> .bad
    |none=> .bad
   |_=> .bad
  |none=> .bad
 | .index t x ix=>match T t with
  |some i=>match i.u with
   | .string=> .index none x ix
   | .array n el=>match T el with
    |some e=> .index (some (n,e.size,xI e)) x ix
    |none=> .bad
   |_=> .bad
  |none=> .bad
 | .extract x i=> .ext i x
 | .lookup t x ix ok=>match T t with
  |some i=>match i.u with
   | .map k el=>match T k,T el with
    |some ki,some ei=>match ki.u,ei.zero,ei.agg with
     | .int _,[z],false=> .look [1] z ok x ix
     | .struct _,[z],false=>match kinds T 9 k with|some ks=> .look (9::ks) z ok x ix|none=> .bad
     | .array _ _,[z],false=>match kinds T 9 k with|some ks=> .look (9::ks) z ok x ix|none=> .bad
     |_,_,_=> .bad
    |_,_=> .bad
   |_=> .bad
  |none=> .bad
 | .mapUpdate t m k x=>match T t with
  |some i=>match i.u with
   | .map kt _=>match T kt with
    |some ki=>match ki.u with
     | .int _=> .Ja [1] m k x
     | .struct _=>match kinds T 9 kt with|some ks=> .Ja (9::ks) m k x|none=> .bad
     | .array _ _=>match kinds T 9 kt with|some ks=> .Ja (9::ks) m k x|none=> .bad
     |_=> .bad
    |none=> .bad
   |_=> .bad
  |none=> .bad
 | .mapEntry t m k=>match T t with
  |some i=>match i.u with
   | .map kt el=>match T kt,T el with
    |some ki,some ei=>match ki.u,ei.zero,ei.agg with
     | .struct _,[z],false=>match kinds T 9 kt with|some ks=> .Lv (9::ks) z m k|none=> .bad
     | .array _ _,[z],false=>match kinds T 9 kt with|some ks=> .Lv (9::ks) z m k|none=> .bad
     |_,_,_=> .bad
    |_,_=> .bad
   |_=> .bad
  |none=> .bad
 | .entryStore _ m s x=> .Ok m s x
 | .range t x=>match T t with
  |some i=>match i.u with
   | .map _ _=> .By x
   |_=> .bad
  |none=> .bad
 | .next x s=>bif s then .bad else .nxt x
 | .call c=>xk T c
 |_=> .bad
def Ik:Value->Bool
 | .agg cs=>cs.toList.all bK
 | .tuple cs=>cs.toList.isEmpty
 |v=>bK v
def aZ (ng:Nat):Operand->Bool
 | .const v=>Ik v
 | .global g=>Nat.blt g ng
 |_=>true
def BA (ops:List Oper) (j:Nat):Option Nat:=match ops[j]? with|some o=>o.dst|none=>none
def tG (ng n:Nat) (ops:List Oper) (o:Oper):Bool:=
 (match o.dst with|none=>true|some d=>Nat.blt d n)&&(match o.guard with|none=>true|some (j,_)=>(BA ops j).isSome)&&o.op.operands.toList.all (aZ ng)
def guardOf (ops:List Oper) (o:Oper):Option (Nat×Bool):=match o.guard with|none=>none|some (j,b)=>some ((BA ops j).getD 0,b)
def aR (ng n:Nat) (ops:List Oper) (o:Oper):bl:=
 bif tG ng n ops o then { dst:=o.dst,guard:=guardOf ops o,op:=bQ T o.op } else { dst:=none,guard:=none,op:= .bad }
def jf:Code->Bool
 | .seq a b=>jf a&&jf b
 | .cond _ a b=>jf a&&jf b
 | .block _ c=>jf c
 | .loop c=>jf c
 | .scope c=>jf c
 | .rangeFunc _ _ _ _=>false
 |_=>true
def bV (ng n:Nat) (dr:Nat->List Oper->List (bl×List Nat)):Code->ak
 | .skip=> .skip
 | .region _ ops false=> .ops (ops.toList.map (aR T ng n ops.toList))
 | .region _ ops true=> .draw (dr n ops.toList)
 | .seq a b=> .seq (bV ng n dr a) (bV ng n dr b)
 | .cond c a b=>bif aZ ng c then .cond c (bV ng n dr a) (bV ng n dr b) else .bad
 | .block id c=> .block id (bV ng n dr c)
 | .loop c=> .loop (bV ng n dr c)
 | .scope c=>bV ng n dr c
 | .label _=> .skip
 | .rangeFunc f ps a b=>bif aZ ng f&&ps.toList.all (Nat.blt · n)&&jf a&&jf b then .Qk f ps.toList (bV ng n dr a) (bV ng n dr b) else .bad
 | .exit id=> .exit id
 | .ret=> .ret
 |_=> .bad
end
def ER (ρ:dY) (e:Env) (tmps:Array Value):Prop:= ∀t,VR ρ (Env.get e t) (tmps.getD t undef)
def HM:Ta->Loop->Prop
 | .ready,L=>L.state= .ready/\L.pending=none
 | .busy,L=>L.state= .busy
 | .done none,L=>L.state= .done/\L.pending=some .ret
 | .done (some id),L=>L.state= .done/\L.pending=some (.exit id)
def TJ (ρ:dY) (r:yJ) (cs:List Value) (ro:Bool) (o:Nat) (w:World):Prop:=
 ∃(ez:Array Value) (el:TypeId) (fr:Nat×Nat),w.heap[r.aA]? =some (.cells ez el fr)/\r.len=cs.length/\r.EM=o/\(r.base+r.room=ez.size/\(o≠0-> ∀(j:Nat) (c:Value),r.len<=j->ez[r.base+j]? =some c->bK c=true))/\
  (ro=false->fr=(0,0))/\ ∀(j:Nat) (v:Value),cs[j]? =some v-> ∃c,ez[r.base+j]? =some c/\KR ρ v c
abbrev cj:=Nat->ak->Code->Prop
def TQ (CC:cj) (ρ:dY) (r:yJ) (env:Env) (ps:List Nat) (asg body:ak) (st:Ta) (w:World):Prop:=
 ∃L:Loop,w.heap[r.aA]? =some (.loop L)/\ER ρ env L.tmps/\L.params.toList=ps/\CC L.tmps.size asg L.assign/\CC L.tmps.size body L.body/\
  (∀t∈ps,t<L.tmps.size)/\HM st L
def aff (ρ:dY) (r:yJ) (es:List (Value×Value)) (w:World):Prop:=
 ∃(eU:Array MapEntry) (clock:Nat),w.heap[r.aA]? =some (.map eU clock)/\All2 (fun(x:Value×Value) (y:MapEntry)=>AR ρ x.1 y.key/\AR ρ x.2 y.val) es eU.toList/\clock=eU.size/\ ∀(i:Nat) (y:MapEntry),eU[i]? =some y->y.born=i
def iA (CC:cj) (ρ:dY) (r:yJ) (o:o9) (w:World):Prop:=
 match o with
 | .aA cs ro op _=>TJ ρ r cs ro op w
 | .loop env ps asg body st=>TQ CC ρ r env ps asg body st w
 | .map es=>aff ρ r es w
 | .itr=>r.base=0/\w.heap[r.aA]? =some (.mapIter none 0 #[] 0)
structure cQ (CC:cj) (ρ:dY) (h:ae) (w:World):Prop where
 low: ∀b r,ρ b=some r->b<h.next/\r.aA<w.heap.size
 obj: ∀b r o,ρ b=some r->h.tr.get b=some o->iA CC ρ r o w
 inj: ∀b b' r r' o,ρ b=some r->ρ b'=some r'->dX h b->h.tr.get b'=some o->b≠b'->r.aA≠r'.aA
 wf: ∀b o,h.tr.get b=some o->b<h.next
structure Ext (ρ:dY) (h:ae) (w:World) (ρ':dY) (h':ae) (w':World):Prop where
 le:ρ.le ρ'
 next:h.next<=h'.next
 size:w.heap.size<=w'.heap.size
 os:w'.os=w.os
 tape:w'.tape=w.tape
 output:w'.output=w.output
 tD: ∀k,k<w.heap.size->(∀b r,ρ b=some r->dX h b->r.aA≠k)->w'.heap[k]? =w.heap[k]?
 own: ∀b r,ρ' b=some r->dX h' b->w.heap.size<=r.aA\/ ∃b₀ r₀,ρ b₀=some r₀/\dX h b₀/\r₀.aA=r.aA
 new: ∀b r,ρ' b=some r->ρ b=none->h.next<=b
 live: ∀b r o,ρ' b=some r->h'.tr.get b=some o->w.heap.size<=r.aA\/ ∃b₀ r₀ o₀,ρ b₀=some r₀/\h.tr.get b₀=some o₀/\r₀.aA=r.aA
theorem Ext.refl (ρ:dY) (h:ae) (w:World):Ext ρ h w ρ h w:=
 ⟨ρ.le_refl,dK _,dK _,rfl,rfl,rfl,fun _ _ _=>rfl,fun b r hb hw=> .inr ⟨b,r,hb,hw,rfl⟩,fun b r h h'=>(by rw[h] at h';cases h'),fun b r o hb ho=> .inr ⟨b,r,o,hb,ho,rfl⟩⟩
theorem Ext.trans {ρ ρ₁ ρ₂:dY} {h h₁ h₂:ae} {w w₁ w₂:World} (a:Ext ρ h w ρ₁ h₁ w₁) (b:Ext ρ₁ h₁ w₁ ρ₂ h₂ w₂):Ext ρ h w ρ₂ h₂ w₂:=by
 refine⟨dY.le_trans a.le b.le,ug a.next b.next,ug a.size b.size,b.os.trans a.os,b.tape.trans a.tape,b.output.trans a.output,?_,?_,?_,?_⟩
 .intro k hk hn;rw[b.tD k (IF hk a.size) ?_,a.tD k hk hn];intro x r hx hw e;rcases a.own x r hx hw with h|⟨b₀,r₀,h0,Tu,e0⟩
  .omega
  .exact hn b₀ r₀ h0 Tu (e0.trans e)
 .intro x r hx hw;rcases b.own x r hx hw with h|⟨b₀,r₀,h0,Tu,e0⟩
  .exact .inl (ug a.size h)
  .rcases a.own b₀ r₀ h0 Tu with h|⟨b₁,r₁,h1,hw1,e1⟩
   .exact .inl (e0▸h)
   .exact .inr ⟨b₁,r₁,h1,hw1,e1.trans e0⟩
 .intro x r hx hn;cases h1:ρ₁ x with
  |none=>exact ug a.next (b.new x r hx h1)
  |some r1=>exact a.new x r1 h1 hn
 .intro x r o hx ho;rcases b.live x r o hx ho with h|⟨b₀,r₀,o₀,h0,ho0,e0⟩
  .exact .inl (ug a.size h)
  .rcases a.live b₀ r₀ o₀ h0 ho0 with h|⟨b₁,r₁,o₁,h1,ho1,e1⟩
   .exact .inl (e0▸h)
   .exact .inr ⟨b₁,r₁,o₁,h1,ho1,e1.trans e0⟩
theorem ER.mono {ρ ρ':dY} {e:Env} {tmps:Array Value} (hl:ρ.le ρ') (h:ER ρ e tmps):ER ρ' e tmps:=fun t=>(h t).mono hl
def bS (ng:Nat) (ρ:dY):Prop:= ∀g,g<ng-> ∃r,ρ g=some r/\r.aA=g/\r.base=0
theorem gu {ρ:dY} (h:bK v=true):CR ρ v v:=by
 unfold bK at h;split at h
 .exact .bool _
 .exact .int _ _
 .exact .str _
 .exact .EE
 .exact .oE _ _
 .exact .y6
 .exact .As
 .exact .wT
 .cases h
theorem dJ {ρ:dY} : ∀ {l:List Value},l.all bK=true->All2 (KR ρ) l l
 |[],_=> .nil
 |v::l,h=>by simp only[List.all_cons,uf] at h;exact .cons (.cell (gu h.1)) (dJ h.2)
theorem Ks {ρ:dY} (h:Ik v=true):VR ρ v v:=by
 unfold Ik at h;split at h
 .rename_i cs;exact .val (.agg (dJ h))
 .rename_i cs;obtain⟨l⟩:=cs;cases l with
  |nil=>exact .tuple .nil
  |cons=>simp at h
 .exact(gu h).vr
theorem ER.eval {ng:Nat} {ρ:dY} {e:Env} {a:Act} (h:ER ρ e a.tmps) (hg:bS ng ρ): ∀ {x:Operand},aZ ng x=true->VR ρ (ev e x) (a.eval x)
 | .tmp t,_=>h t
 | .const _,hc=>Ks hc
 | .global g,hc=>by obtain⟨r,hr,hb,h0⟩:=hg g (by simpa [aZ,Nat.blt_eq] using hc);have:=CR.ptr (o:=0) hr;rw[hb,h0] at this;exact this.vr
 | .func f,_=>(KR.fn f (l:=[]) (m:=[]) .nil).vr
theorem uC (h:plain v=true):v.oneCell'=true:=by cases v<;>first|rfl|(simp[plain] at h)
theorem nZ (b o n:Nat):(⟨b,o,none⟩:Addr).add n=⟨b,o+n,none⟩:=by unfold Addr.add;split<;>simp_all
section
variable {P:Program} {CC:cj} {ρ ρ':dY} {h:ae} {w w':World}
theorem iA.mono {r:yJ} {o:o9} (hl:ρ.le ρ') (hw:w'.heap[r.aA]? =w.heap[r.aA]?) (hk:iA CC ρ r o w):iA CC ρ' r o w':=by
 cases o with
 |aA cs ro op s=>
  obtain⟨ez,el,fr,h1,h2,h3,h5,h6,h7⟩:=hk;exact⟨ez,el,fr,hw.trans h1,h2,h3,h5,h6,fun j v hv=>let⟨c,hc,hr⟩:=h7 j v hv;⟨c,hc,hr.mono hl⟩⟩
 |loop env ps asg body st=>
  obtain⟨L,h1,h2,h3⟩:=hk;exact⟨L,hw.trans h1,h2.mono hl,h3⟩
 |map es=>
  obtain⟨eU,cl,h1,h2,h3⟩:=hk;exact⟨eU,cl,hw.trans h1,h2.mono fun _ _ ⟨a,b⟩=>⟨a.mono hl,b.mono hl⟩,h3⟩
 |itr=>exact⟨hk.1,hw.trans hk.2⟩
theorem bS.mono {ng:Nat} (hl:ρ.le ρ') (hg:bS ng ρ):bS ng ρ':=fun g ef=>let⟨r,h,x⟩:=hg g ef;⟨r,hl _ _ h,x⟩
structure JL (k:Nat) (w w':World):Prop where
 os:w'.os=w.os
 tape:w'.tape=w.tape
 output:w'.output=w.output
 size:w'.heap.size=w.heap.size
 other: ∀j,j≠k->w'.heap[j]? =w.heap[j]?
theorem JL.row (g:Nat) (cs:Array Value):JL g w (w.setRow g cs):=⟨rfl,rfl,rfl,by simp,fun j hj=>setRow_other w g j cs hj⟩
theorem JL.obj (g:Nat) (o:Obj):JL g w { w with heap:=w.heap.setIfInBounds g o } :=
 ⟨rfl,rfl,rfl,by simp,fun j hj=>by simp[Ne.symm hj]⟩
theorem cQ.drawn (S:cQ CC ρ h w) (n:Nat):cQ CC ρ h { w with drawn:=n } :=
 ⟨S.low,fun b r o hb ho=>iA.mono ρ.le_refl (w':= { w with drawn:=n }) rfl (S.obj b r o hb ho),S.inj,S.wf⟩
theorem Ext.drawn (n:Nat):Ext ρ h w ρ h { w with drawn:=n } :=
 ⟨ρ.le_refl,dK _,dK _,rfl,rfl,rfl,fun _ _ _=>rfl,fun b r hb hw=> .inr ⟨b,r,hb,hw,rfl⟩,fun b r h h'=>(by rw[h] at h';cases h'),fun b r o hb ho=> .inr ⟨b,r,o,hb,ho,rfl⟩⟩
theorem cQ.clock (S:cQ CC ρ h w) (n:Nat):cQ CC ρ { h with clock:=n } w:=⟨S.low,S.obj,S.inj,S.wf⟩
theorem Ext.clock (n:Nat):Ext ρ h w ρ { h with clock:=n } w:=
 ⟨ρ.le_refl,dK _,dK _,rfl,rfl,rfl,fun _ _ _=>rfl,fun b r hb hw=> .inr ⟨b,r,hb,hw,rfl⟩,fun b r h h'=>(by rw[h] at h';cases h'),fun b r o hb ho=> .inr ⟨b,r,o,hb,ho,rfl⟩⟩
theorem cQ.uL (S:cQ CC ρ h w) {b:Nat} {r:yJ} {o o':o9} (hb:ρ b=some r) (ho:h.tr.get b=some o) (hrw:o.rw=true)
  (ha:JL r.aA w w') (Vn:iA CC ρ r o' w') (n:Nat):cQ CC ρ { h with clock:=n,tr:=h.tr.set b o' } w'/\Ext ρ h w ρ { h with clock:=n,tr:=h.tr.set b o' } w':=by
 have CP:dX h b:=⟨o,ho,hrw⟩;have GX: ∀x,dX { h with clock:=n,tr:=h.tr.set b o' } x->dX h x:=by
  rintro x ⟨p,hp,Ha⟩;simp only[Tr.aN] at hp;by_cases hx:x=b
  .subst hx;exact CP
  .rw[aT hx] at hp;exact⟨p,hp,Ha⟩
 refine⟨⟨fun x rx hx=>⟨(S.low x rx hx).1,by rw[ha.size];exact(S.low x rx hx).2⟩,?_,?_,fun x p hp=> ?_⟩,⟨ρ.le_refl,dK _,Nat.le_of_eq ha.size.symm,ha.os,ha.tape,ha.output,?_,?_,?_,?_⟩⟩
 rotate_left 2
 .simp only[Tr.aN] at hp;by_cases hx:x=b
  .subst hx;exact S.wf _ _ ho
  .rw[aT hx] at hp;exact S.wf x p hp
 rotate_left 4
 .intro x rx p hx hp;simp only[Tr.aN] at hp;by_cases Ge:x=b
  .subst Ge;rw[aU rfl] at hp;cases hp;rw[hb] at hx;cases hx;exact Vn
  .rw[aT Ge] at hp;exact iA.mono ρ.le_refl (ha.other _ (S.inj b x r rx p hb hx CP hp (Ne.symm Ge)).symm) (S.obj x rx p hx hp)
 .intro x y rx ry p hx hy hw hp cJ;simp only[Tr.aN] at hp;by_cases hyb:y=b
  .subst hyb;exact S.inj x y rx ry o hx hy (GX x hw) ho cJ
  .rw[aT hyb] at hp;exact S.inj x y rx ry p hx hy (GX x hw) hp cJ
 .intro k _ hk;exact ha.other k (fun e=>hk b r hb CP e.symm)
 .intro x rx hx hw;exact .inr ⟨x,rx,hx,GX x hw,rfl⟩
 .intro x rx h1 h2;rw[h1] at h2;cases h2
 .intro x rx p hx hp;simp only[Tr.aN] at hp;by_cases Ge:x=b
  .subst Ge;exact .inr ⟨x,rx,o,hx,ho,rfl⟩
  .rw[aT Ge] at hp;exact .inr ⟨x,rx,p,hx,hp,rfl⟩
def jj (ρ:dY) (b:Nat) (r:yJ):dY:=fun x=>if x=b then some r else ρ x
theorem tm {b:Nat} {r:yJ} (hn:ρ b=none):ρ.le (jj ρ b r):=by
 intro x rx hx;unfold jj;by_cases h:x=b
 .subst h;rw[hn] at hx;cases hx
 .rw[aT h];exact hx
theorem cQ.fresh (S:cQ CC ρ h w):ρ h.next=none:=by
 cases e:ρ h.next with
 |none=>rfl
 |some r=>have:=(S.low _ _ e).1;omega
theorem cQ.add (S:cQ CC ρ h w) {o:o9} {co:Obj} {im:yJ} (IU:im.aA=w.heap.size) (Vn:iA CC (jj ρ h.next im) im o (w.alloc co)):
  cQ CC (jj ρ h.next im) (h.new o) (w.alloc co)/\Ext ρ h w (jj ρ h.next im) (h.new o) (w.alloc co):=by
 have hle:=tm (r:=im) S.fresh;have p_:(w.alloc co).heap.size=w.heap.size+1:=Array.size_push _;have hold: ∀k,k<w.heap.size->(w.alloc co).heap[k]? =w.heap[k]? :=by intro k hk;show(w.heap.push co)[k]? =_;rw[Array.getElem?_push,aT (by omega)]
 have fp: ∀x rx,jj ρ h.next im x=some rx->(x=h.next/\rx=im)\/(x≠h.next/\ρ x=some rx):=by
  intro x rx hx;unfold jj at hx;by_cases e:x=h.next
  .rw[aU e] at hx;cases hx;exact .inl ⟨e,rfl⟩
  .rw[aT e] at hx;exact .inr ⟨e,hx⟩
 have dM: ∀x,(h.new o).tr.get x=if x=h.next then some o else h.tr.get x:=fun x=>Tr.aN _ _ _ _
 refine⟨⟨?_,?_,?_,fun x p hp=> ?_⟩,⟨hle,?_,by omega,rfl,rfl,rfl,fun k hk _=>hold k hk,?_,?_,?_⟩⟩
 rotate_left 3
 .rw[dM] at hp;by_cases e:x=h.next
  .subst e;simp[ae.new]
  .rw[aT e] at hp;have:=S.wf x p hp;simp only[ae.new];omega
 rotate_left 4
 .intro x rx hx;rcases fp x rx hx with⟨rfl,rfl⟩|⟨cJ,hx⟩
  .exact⟨by simp[ae.new],by rw[p_,IU];omega⟩
  .have:=S.low x rx hx;exact⟨by simp only[ae.new];omega,by omega⟩
 .intro x rx p hx hp;rw[dM] at hp;rcases fp x rx hx with⟨rfl,rfl⟩|⟨cJ,hx⟩
  .rw[aU rfl] at hp;cases hp;exact Vn
  .rw[aT cJ] at hp;exact iA.mono hle (hold _ (S.low x rx hx).2) (S.obj x rx p hx hp)
 .intro x y rx ry p hx hy hw hp cJ;rw[dM] at hp;rcases fp x rx hx with⟨ex,er⟩|⟨Vm,Hd⟩<;>rcases fp y ry hy with⟨ey,er'⟩|⟨hny,VC⟩
  .exact absurd (ex.trans ey.symm) cJ
  .have:=(S.low y ry VC).2;rw[er,IU];omega
  .have:=(S.low x rx Hd).2;rw[er',IU];omega
  .rw[aT hny] at hp;obtain⟨q,hq,K_⟩:=hw;rw[dM,aT Vm] at hq;exact S.inj x y rx ry p Hd VC ⟨q,hq,K_⟩ hp cJ
 .simp[ae.new]
 .intro x rx hx hw;rcases fp x rx hx with⟨rfl,rfl⟩|⟨cJ,hx⟩
  .exact .inl (by omega)
  .obtain⟨q,hq,K_⟩:=hw;rw[dM,aT cJ] at hq;exact .inr ⟨x,rx,hx,⟨q,hq,K_⟩,rfl⟩
 .intro x rx hx hn;rcases fp x rx hx with⟨rfl,rfl⟩|⟨cJ,hx⟩
  .exact dK _
  .rw[hx] at hn;cases hn
 .intro x rx p hx hp;rcases fp x rx hx with⟨rfl,rfl⟩|⟨cJ,hx⟩
  .exact .inl (by omega)
  .rw[dM,aT cJ] at hp;exact .inr ⟨x,rx,p,hx,hp,rfl⟩
theorem cQ.less (S:cQ CC ρ h w) (b:Nat):cQ CC ρ { h with tr:=h.tr.del b } w/\Ext ρ h w ρ { h with tr:=h.tr.del b } w:=by
 have dM: ∀x p,({ h with tr:=h.tr.del b } :ae).tr.get x=some p->h.tr.get x=some p:=by
  intro x p hx;simp only[Tr.mj] at hx;by_cases e:x=b
  .rw[aU e] at hx;cases hx
  .rwa [aT e] at hx
 refine⟨⟨S.low,fun x r o hx ho=>S.obj x r o hx (dM x o ho),fun x y rx ry p hx hy ⟨q,hq,K_⟩ hp cJ=>S.inj x y rx ry p hx hy ⟨q,dM x q hq,K_⟩ (dM y p hp) cJ,fun x p hp=>S.wf x p (dM x p hp)⟩,
  ⟨ρ.le_refl,dK _,dK _,rfl,rfl,rfl,fun _ _ _=>rfl,fun x r hx ⟨q,hq,K_⟩=> .inr ⟨x,r,hx,⟨q,dM x q hq,K_⟩,rfl⟩,fun x r h1 h2=>(by rw[h1] at h2;cases h2),fun x r p hx hp=> .inr ⟨x,r,p,hx,dM x p hp,rfl⟩⟩⟩
theorem cQ.move (S:cQ CC ρ h w) {b:Nat} {r im:yJ} {o o':o9} (hb:ρ b=some r) (ho:h.tr.get b=some o) (hrw:o.rw=true)
  (IU:im.aA=r.aA) (ha:JL r.aA w w') (Vn:iA CC (jj ρ h.next im) im o' w'):
  cQ CC (jj ρ h.next im) (({ h with tr:=h.tr.del b } :ae).new o') w'/\Ext ρ h w (jj ρ h.next im) (({ h with tr:=h.tr.del b } :ae).new o') w':=by
 have CP:dX h b:=⟨o,ho,hrw⟩;have hle:=tm (r:=im) S.fresh;have fp: ∀x rx,jj ρ h.next im x=some rx->(x=h.next/\rx=im)\/(x≠h.next/\ρ x=some rx):=by
  intro x rx hx;unfold jj at hx;by_cases e:x=h.next
  .rw[aU e] at hx;cases hx;exact .inl ⟨e,rfl⟩
  .rw[aT e] at hx;exact .inr ⟨e,hx⟩
 have dM: ∀x,(({ h with tr:=h.tr.del b } :ae).new o').tr.get x=if x=h.next then some o' else if x=b then none else h.tr.get x:=by intro x;simp only[ae.new,Tr.aN,Tr.mj]
 have hold: ∀x p,x≠h.next->(({ h with tr:=h.tr.del b } :ae).new o').tr.get x=some p->x≠b/\h.tr.get x=some p:=by
  intro x p hx hp;rw[dM,aT hx] at hp;by_cases e:x=b
  .rw[aU e] at hp;cases hp
  .rw[aT e] at hp;exact⟨e,hp⟩
 refine⟨⟨?_,?_,?_,fun x p hp=> ?_⟩,⟨hle,by simp[ae.new],Nat.le_of_eq ha.size.symm,ha.os,ha.tape,ha.output,?_,?_,?_,?_⟩⟩
 rotate_left 3
 .rw[dM] at hp;by_cases e:x=h.next
  .subst e;simp[ae.new]
  .rw[aT e] at hp;by_cases e2:x=b
   .rw[aU e2] at hp;cases hp
   .rw[aT e2] at hp;have:=S.wf x p hp;simp only[ae.new];omega
 rotate_left 4
 .intro x rx hx;rcases fp x rx hx with⟨rfl,rfl⟩|⟨cJ,hx⟩
  .exact⟨by simp[ae.new],by rw[IU,ha.size];exact(S.low b r hb).2⟩
  .have:=S.low x rx hx;exact⟨by simp only[ae.new];omega,by rw[ha.size];exact this.2⟩
 .intro x rx p hx hp;rcases fp x rx hx with⟨rfl,rfl⟩|⟨cJ,hx⟩
  .rw[dM,aU rfl] at hp;cases hp;exact Vn
  .obtain⟨Ge,hp⟩:=hold x p cJ hp;exact iA.mono hle (ha.other _ (S.inj b x r rx p hb hx CP hp (Ne.symm Ge)).symm) (S.obj x rx p hx hp)
 .intro x y rx ry p hx hy hw hp cJ;obtain⟨q,hq,K_⟩:=hw;rcases fp x rx hx with⟨ex,er⟩|⟨Vm,Hd⟩<;>rcases fp y ry hy with⟨ey,er'⟩|⟨hny,VC⟩
  .exact absurd (ex.trans ey.symm) cJ
  .obtain⟨hyb,hp⟩:=hold y p hny hp;rw[er,IU];exact S.inj b y r ry p hb VC CP hp (Ne.symm hyb)
  .obtain⟨Ge,hq⟩:=hold x q Vm hq;rw[er',IU];exact S.inj x b rx r o Hd hb ⟨q,hq,K_⟩ ho Ge
  .obtain⟨Ge,hq⟩:=hold x q Vm hq;obtain⟨hyb,hp⟩:=hold y p hny hp;exact S.inj x y rx ry p Hd VC ⟨q,hq,K_⟩ hp cJ
 .intro k _ hk;exact ha.other k (fun e=>hk b r hb CP e.symm)
 .intro x rx hx hw;obtain⟨q,hq,K_⟩:=hw;rcases fp x rx hx with⟨rfl,rfl⟩|⟨cJ,hx⟩
  .exact .inr ⟨b,r,hb,CP,IU.symm⟩
  .obtain⟨_,hq⟩:=hold x q cJ hq;exact .inr ⟨x,rx,hx,⟨q,hq,K_⟩,rfl⟩
 .intro x rx hx hn;rcases fp x rx hx with⟨rfl,rfl⟩|⟨cJ,hx⟩
  .exact dK _
  .rw[hx] at hn;cases hn
 .intro x rx p hx hp;rcases fp x rx hx with⟨rfl,rfl⟩|⟨cJ,hx⟩
  .exact .inr ⟨b,r,o,hb,ho,IU.symm⟩
  .obtain⟨_,hp⟩:=hold x p cJ hp;exact .inr ⟨x,rx,p,hx,hp,rfl⟩
theorem AB (S:cQ CC ρ h w) {b off n:Nat} {r:yJ} {cs:List Value} (hb:ρ b=some r) (hr:bc h b off n=some cs):
  cs.length=n/\ ∃ez:List Value,All2 (KR ρ) cs ez/\ ∀(j:Nat) (v:Value),ez[j]? =some v->w.cell? ((⟨r.aA,r.base+off,none⟩:Addr).add j)=some v:=by
 unfold bc at hr;split at hr
 .rename_i cells ro op s ho;by_cases hl:((cells.drop off).take n).length=n
  .simp only[hl,Nat.beq_refl] at hr;simp only[if_true,kl] at hr;subst hr;refine⟨hl,?_⟩;obtain⟨ez,el,fr,h1,_,_,_,_,h7⟩:=S.obj b r _ hb ho;have hj: ∀(j:Nat) (v:Value),((cells.drop off).take n)[j]? =some v-> ∃c,ez[r.base+off+j]? =some c/\KR ρ v c:=by
    intro j v hv;rw[DZ] at hv;split at hv
    .rw[List.getElem?_drop] at hv;obtain⟨c,hc,hk⟩:=h7 _ _ hv;exact⟨c,by rw[<-hc];congr 1;omega,hk⟩
    .cases hv
   refine⟨(ez.toList.drop (r.base+off)).take n,?_,?_⟩
   .refine All2.adA ?_ ?_
    .rw[hl];by_cases h0:n=0
     .subst h0;simp
     .have:((cells.drop off).take n)[n-1]? =some ((cells.drop off).take n)[n-1]:=aX (by omega);obtain⟨c,hc,_⟩:=hj _ _ this;have ef:=(Array.getElem?_eq_some_iff.1 hc).1;simp;omega
    .intro i a c ha hc;obtain⟨c',PL,hk⟩:=hj i a ha;rw[DZ] at hc;split at hc
     .rw[List.getElem?_drop] at hc;have:ez.toList[r.base+off+i]? =some c':=by simpa using PL
      rw[this] at hc;cases hc;exact hk
     .cases hc
   .intro j v hv;rw[DZ] at hv;split at hv
    .rw[List.getElem?_drop] at hv;rw[nZ];have:ez[r.base+off+j]? =some v:=by simpa using hv
     simp[World.cell?,h1,this]
    .cases hv
  .have:Nat.beq ((cells.drop off).take n).length n=false:=by
    cases hb:Nat.beq ((cells.drop off).take n).length n with
    |false=>rfl
    |true=>exact absurd (nO hb) hl
   simp only[this] at hr;simp at hr
 .cases hr
theorem yG {cs vs:List Value} (h:off+vs.length<=cs.length):(aJ cs off vs).length=cs.length:=by simp[aJ];omega
theorem lh {cs vs:List Value} {off j:Nat} (h:off+vs.length<=cs.length):(aJ cs off vs)[j]? =if off<=j/\j<off+vs.length then vs[j-off]? else cs[j]? :=by
 unfold aJ;by_cases h1:j<off
 .rw[aT (by omega),xU,KH (by simp;omega),DZ,aU h1]
 .by_cases h2:j<off+vs.length
  .rw[aU ⟨by omega,h2⟩,xU,Mv (by simp;omega),List.length_take,Nat.min_eq_left (by omega),KH (by omega)]
  .rw[aT (by omega),Mv (by simp;omega),IG,List.length_take,Nat.min_eq_left (by omega),List.getElem?_drop];congr 1;omega
theorem xH (S:cQ CC ρ h w) {b off:Nat} {r:yJ} {vs Yu:List Value} {h':ae} (hb:ρ b=some r) (hw:kM h b off vs=some h') (hv:All2 (KR ρ) vs Yu):
  ∃w',(storeCells ⟨r.aA,r.base+off,none⟩ Yu).run P w= .ok () w'/\cQ CC ρ h' w'/\Ext ρ h w ρ h' w':=by
 unfold kM at hw;split at hw
 .rename_i cells op s ho;by_cases hl:off+vs.length<=cells.length
  .rw[aU (Nat.ble_eq_true_of_le hl)] at hw;cases hw;obtain⟨ez,el,fr,h1,h2,h3,h5,h6,h7⟩:=S.obj b r _ hb ho;have hfr:fr=(0,0):=h6 rfl;subst hfr;have cn:=hv.length;by_cases h0:vs.length=0
   .have hv0:vs=[]:=KF h0;have C1:Yu=[]:=KF (by omega);subst hv0;subst C1;refine⟨w,rfl,cQ.uL S hb ho rfl ⟨rfl,rfl,rfl,rfl,fun _ _=>rfl⟩ ?_ _⟩;have:aJ cells off []=cells:=by simp[aJ]
    rw[this];exact⟨ez,el,(0,0),h1,h2,h3,h5,h6,h7⟩
   have eH:r.base+off+0+Yu.length<=ez.size:=by have:cells[off+vs.length-1]? =some cells[off+vs.length-1]:=aX (by omega);obtain⟨c,hc,_⟩:=h7 _ _ this;have ef:=(Array.getElem?_eq_some_iff.1 hc).1;omega
   have dm:=run_storeCells_at (P:=P) r.aA (r.base+off) el Yu 0 ez w h1 eH (fun v hm=>by obtain⟨i,hi⟩:=rT hm;have hx:vs[i]? =some (vs[i]'(by rw[cn];exact(bY.1 hi).1)):=aX _;obtain⟨c,hc,hk⟩:=hv.get hx;rw[hi] at hc;cases hc;exact uC hk.plain.2)
   refine⟨_,dm,?_⟩;refine cQ.uL S hb ho rfl (JL.row _ _) ?_ _;have uq:ez.toList.take (r.base+off+0)++Yu++ez.toList.drop (r.base+off+0+Yu.length)=aJ ez.toList (r.base+off) Yu:=by simp[aJ]
   refine⟨_,el,(0,0),setRow_heap w r.aA ez _ el _ h1,by rw[yG hl];exact h2,h3,⟨?_,?_⟩,fun _=>rfl,?_⟩
   rotate_left 1
   .intro vN j c hj hc;rw[uq] at hc;simp only[List.getElem?_toArray] at hc;rw[lh (by simpa using eH),aT (by omega)] at hc;exact h5.2 vN j c hj (by simpa using hc)
   rotate_left 1
   .rw[h5.1];simp only[List.size_toArray,IG,List.length_take,List.length_drop,Array.length_toList];omega
   intro j v hj;rw[lh hl] at hj;rw[uq];have hg:=lh (cs:=ez.toList) (vs:=Yu) (off:=r.base+off) (j:=r.base+j) (by simpa using eH);simp only[List.getElem?_toArray];rw[hg];by_cases tS:off<=j/\j<off+vs.length
   .rw[aU tS] at hj;rw[aU (by omega)];obtain⟨c,hc,hk⟩:=hv.get hj;exact⟨c,by rw[<-hc];congr 1;omega,hk⟩
   .rw[aT tS] at hj;rw[aT (by omega)];obtain⟨c,hc,hk⟩:=h7 j v hj;exact⟨c,by simpa using hc,hk⟩
  .have:Nat.ble (off+vs.length) cells.length=false:=by
    cases hb:Nat.ble (off+vs.length) cells.length with
    |false=>rfl
    |true=>exact absurd (Mw hb) hl
   rw[this] at hw;simp at hw
 .cases hw
end
def Out (CC:cj) (ρ:dY) (h:ae) (w:World) (v:Value) (h':ae) (r:Result Next):Prop:=
 ∃ρ' w' c,(r= .ok (.value c) w'\/(c=undef/\r= .ok .skip w'))/\VR ρ' v c/\cQ CC ρ' h' w'/\Ext ρ h w ρ' h' w'
section
variable {P:Program} {CC:cj} {ρ:dY} {h:ae} {w:World} {T:qd} {ng:Nat} {e:Env} {a:Act}
theorem Out.same (S:cQ CC ρ h w) {v c:Value} {r:Result Next} (hr:r= .ok (.value c) w) (hv:VR ρ v c):Out CC ρ h w v h r:=
 ⟨ρ,w,c,.inl hr,hv,S,.refl ρ h w⟩
theorem cS {s:Sem Value} {c:Value} {w':World} (hs:s.run P w= .ok c w'):((do pure (Next.value (<-s))):Sem Next).run P w= .ok (.value c) w':=by simp[hs]
theorem uV {α:Type} {l:Array α} {x:α} (h:l[i]? =some x):i<l.size:=(Array.getElem?_eq_some_iff.1 h).1
theorem A_ (w:World) (o:Obj):(w.alloc o).heap[w.heap.size]? =some o:=by show(w.heap.push o)[w.heap.size]? =some o;simp
theorem Ar (S:cQ CC ρ h w) {cs ez bh:List Value} (hv:All2 (KR ρ) cs ez) (el:Nat) (EM:Nat) (La:EM≠0-> ∀c∈bh,bK c=true):
  ∃im:yJ,im.aA=w.heap.size/\im.base=0/\im.len=cs.length/\im.EM=EM/\im.room=(ez++bh).length/\
   cQ CC (jj ρ h.next im) (aL h cs EM) (w.alloc (.cells ⟨ez++bh⟩ el))/\Ext ρ h w (jj ρ h.next im) (aL h cs EM) (w.alloc (.cells ⟨ez++bh⟩ el)):=by
 refine⟨⟨w.heap.size,0,cs.length,EM,(ez++bh).length⟩,rfl,rfl,rfl,rfl,rfl,?_⟩;refine cQ.add S rfl ?_;refine⟨_,_,_,A_ w _,rfl,rfl,⟨Bg _,?_⟩,fun _=>rfl,?_⟩
 .intro vN j c hj hc;dsimp only at hj hc;rw[show(⟨ez++bh⟩:Array Value)[0+j]? =(ez++bh)[0+j]? by simp,Bg,Mv (by rw[<-hv.length];exact hj)] at hc;exact La vN c (dk hc)
 intro j v hj;obtain⟨c,hc,hk⟩:=hv.get hj;refine⟨c,?_,hk.mono (tm S.fresh)⟩;show(⟨ez++bh⟩:Array Value)[0+j]? =some c;rw[show(⟨ez++bh⟩:Array Value)[0+j]? =(ez++bh)[0+j]? by simp,Bg,KH (bY.1 hc).1,hc]
theorem nM (ρ:dY) (b:Nat) (r:yJ):jj ρ b r b=some r:=by simp[jj]
theorem Qe {im:yJ} (hb:im.aA=w.heap.size) (h0:im.base=0):VR (jj ρ h.next im) (.pointer (some ⟨h.next,0,none⟩)) (.pointer (some ⟨w.heap.size,0,none⟩)):=by have:=CR.ptr (ρ:=jj ρ h.next im) (o:=0) (nM ρ h.next im);rw[hb,h0] at this;exact this.vr
theorem Fh (el:TypeId) (v:Value):(newVar el v).run P w= .ok ⟨w.heap.size,0,none⟩ (w.alloc (.cells v.cells el)):=rfl
theorem rO {t:Nat} {i:TI} (hi:tu P t i): ∃z,(zeroValue t).run P w= .ok z w/\z.cells.toList=i.zero:=by obtain⟨ti,h1,_,_,z,h2,h3⟩:=hi.info;exact⟨z,by simp[zeroValue,typeInfo,h1,h2],h3⟩
theorem fF {t:Nat} {i:TI} (hi:tu P t i):(sizeOf t).run P w= .ok i.size w/\P.cellsOf t=i.size:=by obtain⟨ti,h1,h2,_⟩:=hi.info;exact⟨by simp[sizeOf,typeInfo,h1,h2],by simp[Program.cellsOf,h1,h2]⟩
theorem qi {t:Nat} {i:TI} (hi:tu P t i):(isAgg t).run P w= .ok i.agg w:=by simp only[isAgg,Sem.run_bind,run_underlying hi.u,Result.andThen_ok,hi.agg];cases i.u<;>rfl
theorem Ua (v:Value) (l:List Value) (h:v.cells.toList=l):v.cells=⟨l++[]⟩:=by
 cases hc:v.cells with
 |mk x=>rw[hc] at h;simp at h;simp[h]
theorem Wi (S:cQ CC ρ h w) {t:Nat} {i:TI} (hi:tu P t i):
  Out CC ρ h w (.pointer (some ⟨h.next,0,none⟩)) (aL h i.zero 0) (((do pure (Next.value (<-Instr.alloc t true (.tuple #[])))):Sem Next).run P w):=by
 obtain⟨z,hz,I0⟩:=rO (w:=w) hi;obtain⟨im,h1,h2,_,_,_,h3,h4⟩:=Ar (bh:=[]) S (dJ hi.zero) t 0 (fun h=>absurd rfl h);rw[<-Ua z _ I0] at h3 h4;refine⟨_,_,_,.inl (cS ?_),Qe h1 h2,h3,h4⟩;simp[Instr.alloc,hz,Fh]
theorem adE (S:cQ CC ρ h w) {t:Nat} {v c:Value} (hv:VR ρ v c) (hf:flat v=some vs):
  Out CC ρ h w (.pointer (some ⟨h.next,0,none⟩)) (aL h vs 0) (((do pure (Next.value (<-Instr.box t c))):Sem Next).run P w):=by
 obtain⟨im,h1,h2,_,_,_,h3,h4⟩:=Ar (bh:=[]) S (DX hv hf) t 0 (fun h=>absurd rfl h);rw[<-Ua c _ rfl] at h3 h4;refine⟨_,_,_,.inl (cS ?_),Qe h1 h2,h3,h4⟩;simp[Instr.box,Fh]
theorem P9 (S:cQ CC ρ h w) {t:Nat} {i:TI} (hi:tu P t i) {b off:Nat} {r:yJ} {cs:List Value} {v:Value} (hb:ρ b=some r)
  (hr:bc h b off (width (xI i))=some cs) (hv:agg (xI i) cs=some v):
  ∃c,(loadVar t ⟨r.aA,r.base+off,none⟩).run P w= .ok c w/\VR ρ v c:=by
 obtain⟨hl,ez,hk,hc⟩:=AB S hb hr;have p_:=(fF (w:=w) hi).1;cases lO:i.agg with
 |true=>
  simp only[xI,lO,cond_true,width] at hl hv;have cn:=hk.length;simp only[agg,hl,Nat.beq_refl,if_true,kl] at hv;subst hv;refine⟨.agg ez.toArray,?_,.val (.agg hk)⟩;simp only[loadVar,Sem.run_bind,qi hi,lO,Result.andThen_ok,if_true,p_];rw[<-hl,cn,run_loadCells_list w _ ez hc];rfl
 |false=>
  simp only[xI,lO,cond_false,width] at hl hv
  match cs,ez,hk,hl with
  |[x],[y],.cons Gg .nil,_=>
   simp only[agg,kl] at hv;subst hv;have h0:=hc 0 y rfl;rw[nZ,ID] at h0;refine⟨y,?_,Gg.vr⟩;simp[loadVar,qi hi,lO,h0]
theorem Wp (S:cQ CC ρ h w) {t:Nat} {i:TI} (hi:tu P t i) {b off:Nat} {r:yJ} {v c:Value} {vs:List Value} {h':ae} (hb:ρ b=some r)
  (hv:VR ρ v c) (hf:flat v=some vs) (hl:vs.length=i.size) (hw:kM h b off vs=some h'):
  ∃w',(storeVar t ⟨r.aA,r.base+off,none⟩ c).run P w= .ok () w'/\cQ CC ρ h' w'/\Ext ρ h w ρ h' w':=by
 have hk:=DX hv hf;obtain⟨w',dm,S',E'⟩:=xH S hb hw hk;refine⟨w',?_,S',E'⟩;have p_:=(fF (w:=w) hi).1;have D8:c.cells.size=i.size:=by rw[<-hl,hk.length];simp
 simp only[storeVar,Sem.run_bind,p_,Result.andThen_ok,D8,ne_eq,not_true_eq_false,if_false];simpa using dm
theorem LF {t:Nat} {i:TI} (hi:tu P t i) {off:Nat} {v:Value} (hk:All2 (KR ρ) l m)
  (hv:agg (xI i) ((l.drop off).take (width (xI i)))=some v): ∃c,(part t ⟨m⟩ off).run P w= .ok c w/\VR ρ v c:=by
 have vM:=(hk.drop off).take (width (xI i));cases lO:i.agg with
 |true=>
  simp only[xI,lO,cond_true,width,agg] at hv vM;split at hv
  .cases hv;refine⟨.agg ⟨(m.drop off).take i.size⟩,?_,.val (.agg vM)⟩;simp only[part,Sem.run_bind,qi hi,lO,Result.andThen_ok,if_true,(fF (w:=w) hi).1,Sem.run_pure];congr 2;simp
  .cases hv
 |false=>
  simp only[xI,lO,cond_false,width,agg] at hv vM;split at hv
  .rename_i x hx;cases hv;rw[hx] at vM
   match hm:(m.drop off).take 1,vM with
   |[y],.cons Gg .nil=>
    refine⟨y,?_,Gg.vr⟩;have hy:m[off]? =some y:=by
     have:((m.drop off).take 1)[0]? =some y:=by rw[hm];rfl
     simpa [DZ,List.getElem?_drop] using this
    simp[part,qi hi,lO,hy]
  .cases hv
theorem DW (hE:ER ρ e a.tmps) (hG:bS ng ρ) (place:Nat->Option (Nat×Nat)):
  ∀(ps:List (Nat×Operand)) (qs:List (Nat×Nat×Operand)) (l m:List Value) (r:List Value),ps.all (fun p=>aZ ng p.2)=true->
   All2 (fun(p:Nat×Operand) (q:Nat×Nat×Operand)=>place p.1=some (q.1,q.2.1)/\q.2.2=p.2) ps qs->
   All2 (KR ρ) l m->tA e l qs=some r-> ∃s:List Value,Instr.fill place ⟨m⟩ (ps.map fun p=>(p.1,a.eval p.2))=some ⟨s⟩/\All2 (KR ρ) r s:=by
 intro ps;induction ps with
 |nil=>
  intro qs l m r _ Bo hk hr;cases Bo;simp only[tA,kl] at hr;subst hr;exact⟨m,rfl,hk⟩
 |cons p ps ih=>
  intro qs l m r cN Bo hk hr;obtain⟨j,x⟩:=p;cases Bo with
  | @cons _ q _ qs hq hqs=>
  obtain⟨off,n,y⟩:=q;obtain⟨hp,rfl⟩:=hq;simp only[List.all_cons,uf] at cN;simp only[tA] at hr;split at hr
  .rename_i vs hf;split at hr
   .rename_i ui;simp only[uf] at ui;have hn:=nO ui.1;have hle:=Mw ui.2;have hv:=DX (hE.eval hG cN.1) hf;have C3:=hk.length;have XX:=hv.length;have uq:All2 (KR ρ) (aJ l off vs) (aJ m off (a.eval y).cells.toList):=by unfold aJ;rw[<-XX];exact((hk.take off).app hv).app (hk.drop _)
    obtain⟨s,hs,N2⟩:=ih qs _ _ r cN.2 hqs uq hr;refine⟨s,?_,N2⟩;rw[<-hs];simp only[Fw,Instr.fill,hp];have p_:(a.eval y).cells.size=n:=by rw[<-hn,XX];simp
    rw[aT (by simp[p_];omega)];congr 1;have key: ∀(vs:List Value) (k:Nat) (m:List Value),off+k+vs.length<=m.length->
      (vs.zipIdx k).foldl (fun(cs:Array Value) (x:Value×Nat)=>cs.setIfInBounds (off+x.2) x.1) ⟨m⟩=⟨aJ m (off+k) vs⟩:=by
     intro vs;induction vs with
     |nil=>intro k m _;simp[aJ]
     |cons v vs ih=>
      intro k m hm;simp only[List.zipIdx_cons,List.foldl_cons];have:(Array.setIfInBounds ⟨m⟩ (off+k) v)=⟨m.set (off+k) v⟩:=by simp
      rw[this,ih (k+1) (m.set (off+k) v) (by simp at hm ⊢;omega)];congr 1;simp at hm;apply zV;intro i;rw[lh (by simp;omega),lh (by simp;omega)];by_cases h1:off+(k+1)<=i/\i<off+(k+1)+vs.length
      .rw[aU h1,aU (by simp;omega)];rw[show i-(off+k)=(i-(off+(k+1)))+1 by omega];simp
      .rw[aT h1];by_cases h2:i=off+k
       .subst h2;rw[aU (by simp)];simp[List.getElem?_set_self (show off+k<m.length by omega)]
       .rw[aT (by simp;omega),List.getElem?_set_ne (Ne.symm h2)]
    have:=key (a.eval y).cells.toList 0 m (by rw[ID,<-XX,hn,<-C3];exact hle);rw[<-Array.foldl_toList];simpa using this
   .cases hr
  .cases hr
end
theorem wD: ∀ {ks Hh:List Nat} {a a' b b':List Value} {x:Bool},a.length=ks.length->a'.length=ks.length->bx (ks++Hh) (a++b) (a'++b')=some x->
  ∃y z,bx ks a a'=some y/\bx Hh b b'=some z/\x=(y&&z):=by
 intro ks;induction ks with
 |nil=>
  intro Hh a a' b b' x hl IV h;cases a with
  |cons=>simp at hl
  |nil=>cases a' with
   |cons=>simp at IV
   |nil=>exact⟨true,x,rfl,h,by simp⟩
 |cons k ks ih=>
  intro Hh a a' b b' x hl IV h;cases a with
  |nil=>simp at hl
  |cons v a=>cases a' with
   |nil=>simp at IV
   |cons v' a'=>
    simp only[List.cons_append,bx] at h;cases h1:dI k v v' with
    |none=>simp[h1] at h
    |some p=>
     cases h2:bx (ks++Hh) (a++b) (a'++b') with
     |none=>simp[h1,h2] at h
     |some q=>
      simp only[h1,h2,kl] at h;obtain⟨y,z,hy,hz,rfl⟩:=ih (by simpa using hl) (by simpa using IV) h2;refine⟨p&&y,z,by simp[bx,h1,hy],hz,?_⟩;rw[<-h,Bool.and_assoc]
theorem eB: ∀ {ks:List Nat} {a b:List Value} {x:Bool},bx ks a b=some x->a.length=ks.length/\b.length=ks.length:=by
 intro ks;induction ks with
 |nil=>intro a b x h;cases a with
  |nil=>cases b with
   |nil=>exact⟨rfl,rfl⟩
   |cons=>simp[bx] at h
  |cons=>cases b<;>simp[bx] at h
 |cons k ks ih=>
  intro a b x h;cases a with
  |nil=>simp[bx] at h
  |cons v a=>cases b with
   |nil=>simp[bx] at h
   |cons v' b=>
    simp only[bx] at h;cases h1:dI k v v' with
    |none=>simp[h1] at h
    |some p=>
     cases h2:bx ks a b with
     |none=>simp[h1,h2] at h
     |some q=>have:=ih h2;simp[this.1,this.2]
section
variable {P:Program} {T:qd} {ρ:dY}
theorem Np {k:Nat} {v v' c c':Value} {x:Bool} (h:KR ρ v c) (h':KR ρ v' c') (he:dI k v v'=some x):dI k c c'=some x:=by
 have:c=v/\c'=v':=by
  unfold dI at he;split at he
  .cases h with
   |cell h=>cases h;cases h' with
    |cell h'=>cases h';exact⟨rfl,rfl⟩
  .cases h with
   |cell h=>cases h;cases h' with
    |cell h'=>cases h';exact⟨rfl,rfl⟩
  .cases h with
   |cell h=>cases h;cases h' with
    |cell h'=>cases h';exact⟨rfl,rfl⟩
  .cases he
 rw[this.1,this.2,he]
theorem su: ∀ {ks:List Nat} {l m l' m':List Value} {x:Bool},All2 (KR ρ) l m->All2 (KR ρ) l' m'->bx ks l l'=some x->bx ks m m'=some x:=by
 intro ks;induction ks with
 |nil=>
  intro l m l' m' x h h' he;cases h with
  |nil=>cases h' with
   |nil=>exact he
   |cons=>simp[bx] at he
  |cons=>cases h'<;>simp[bx] at he
 |cons k ks ih=>
  intro l m l' m' x h h' he;cases h with
  |nil=>simp[bx] at he
  | @cons v c l m hk hs=>cases h' with
   |nil=>simp[bx] at he
   | @cons v' c' l' m' vM hs'=>
    simp only[bx] at he ⊢;cases h1:dI k v v' with
    |none=>simp[h1] at he
    |some p=>
     cases h2:bx ks l l' with
     |none=>simp[h1,h2] at he
     |some q=>
      rw[Np hk vM h1,ih hs hs' h2];simpa [h1,h2] using he
def mT (i:TI) (l:List Value):Value:=bif i.agg then .agg ⟨l⟩ else l.headD (.tuple #[])
theorem qp {t:Nat} {i:TI} (hi:tu P t i) (hl:off+i.size<=m.length) (w:World):
  (part t ⟨m⟩ off).run P w= .ok (mT i ((m.drop off).take i.size)) w:=by
 cases lO:i.agg with
 |true=>
  simp only[part,Sem.run_bind,qi hi,lO,Result.andThen_ok,if_true,(fF (w:=w) hi).1,Sem.run_pure,mT,cond_true];congr 2;simp
 |false=>
  have h1:=hi.plain lO;have ef:off<m.length:=by omega
  simp only[part,Sem.run_bind,qi hi,lO,Result.andThen_ok,mT,cond_false,h1];rw[List.drop_eq_getElem_cons ef];have hg:(⟨m⟩:Array Value)[off]? =some m[off]:=by rw[show(⟨m⟩:Array Value)[off]? =m[off]? by simp,aX ef]
  rw[hg];rfl
theorem GD: ∀ {fs:List Field} {off n:Nat},nc T off fs=some n->off<=n:=by
 intro fs;induction fs with
 |nil=>intro off n h;simp[nc] at h;omega
 |cons f fs ih=>
  intro off n h;simp only[nc] at h;cases hb:Nat.beq f.offset off with
  |false=>simp[hb] at h
  |true=>
   simp only[hb,cond_true] at h;cases ht:T f.type with
   |none=>simp[ht] at h
   |some i=>simp only[ht] at h;have:=ih h;omega
theorem qa {k:Nat->Option (List Nat)} {fs:List Field} (h:mq k (f::fs)=some ks):
  f.name≠ "_" /\ ∃a b,k f.type=some a/\mq k fs=some b/\ks=a++b:=by
 simp only[mq] at h;cases hn:f.name != "_" with
 |false=>simp[hn] at h
 |true=>
  simp only[hn,cond_true] at h;refine⟨by simpa using hn,?_⟩;split at h
  .rename_i a b h1 h2;cases h;exact⟨a,b,h1,h2,rfl⟩
  .cases h
theorem xb (ks:List Nat): ∀n,(OE ks n).length=n*ks.length
 |0=>by simp[OE]
 |n+1=>by simp[OE,xb ks n,rU,Nat.add_comm]
theorem qb: ∀ {d t:Nat} {i:TI} {ks:List Nat},T t=some i->cm P T->kinds T d t=some ks->ks.length=i.size:=by
 intro d;induction d with
 |zero=>intro t i ks _ _ h;simp[kinds] at h
 |succ d ih=>
  intro t i ks iD hT h;have hi:=hT t i iD;simp only[kinds,iD] at h;have lO:=hi.agg;split at h
  .rename_i hu;rw[hu] at lO;cases h;exact(hi.plain lO).symm
  .rename_i hu;rw[hu] at lO;cases h;exact(hi.plain lO).symm
  .rename_i hu;rw[hu] at lO;cases h;exact(hi.plain lO).symm
  .rename_i fs hu;split at h
   .rename_i n hc;cases hb:Nat.beq n i.size with
    |false=>simp[hb] at h
    |true=>
     simp only[hb,cond_true] at h;rw[<-nO hb];have key: ∀(gs:List Field) (off n:Nat) (ks:List Nat),nc T off gs=some n->mq (kinds T d) gs=some ks->off+ks.length=n:=by
      intro gs;induction gs with
      |nil=>intro off n ks h1 h2;simp[nc] at h1;simp[mq] at h2;subst h2;simpa using h1
      |cons f gs ihg=>
       intro off n ks h1 h2;simp only[nc] at h1;cases hb:Nat.beq f.offset off with
       |false=>simp[hb] at h1
       |true=>
        simp only[hb,cond_true] at h1;cases ht:T f.type with
        |none=>simp[ht] at h1
        |some j=>
         simp only[ht] at h1;obtain⟨_,a,b,ha,iy,rfl⟩:=qa h2;have e1:=ih ht hT ha;have e2:=ihg _ _ _ h1 iy;rw[IG,e1];omega
     have:=key fs.toList 0 n ks hc h;omega
   .cases h
  .rename_i n el hu;split at h
   .rename_i e he;cases hb:Nat.beq (n*e.size) i.size with
    |false=>simp[hb] at h
    |true=>
     simp only[hb,cond_true] at h;split at h
     .rename_i Hh hk;cases h;rw[xb,ih he hT hk,nO hb]
     .cases h
   .cases h
  .cases h
theorem xl (hT:cm P T): ∀(d t:Nat) (i:TI) (dep:Nat) (ks:List Nat),T t=some i->kinds T d t=some ks->d<=dep-> ∀(l m:List Value) (x:Bool),
  bx ks l m=some x-> ∀w,(Op.equalIn dep t (mT i l) (mT i m)).run P w= .ok x w:=by
 intro d;induction d with
 |zero=>intro t i dep ks _ h;simp[kinds] at h
 |succ d ih=>
  intro t i dep ks iD iL hd l m x he w;obtain⟨dep,rfl⟩: ∃k,dep=k+1:=⟨dep-1,by omega⟩;have hi:=hT t i iD;simp only[kinds,iD] at iL;have lO:=hi.agg;have one: ∀k:Nat,bx [k] l m=some x-> ∃p q,l=[p]/\m=[q]/\dI k p q=some x:=by
   intro k he;obtain⟨h1,h2⟩:=eB he
   match l,m,h1,h2 with
   |[p],[q],_,_=>
    refine⟨p,q,rfl,rfl,?_⟩;simp only[bx] at he;cases Bo:dI k p q with
    |none=>simp[Bo] at he
    |some y=>simpa [Bo] using he
  split at iL
  .rename_i hu;rw[hu] at lO;cases iL;obtain⟨p,q,rfl,rfl,Bo⟩:=one _ he;simp only[mT,lO,mn,cond_false,List.headD_cons];unfold dI at Bo;split at Bo
   .cases Bo;exact run_equalIn_bool' w dep t _ _ (by rw[hi.u,hu])
   .omega
   .omega
   .cases Bo
  .rename_i k hu;rw[hu] at lO;cases iL;obtain⟨p,q,rfl,rfl,Bo⟩:=one _ he;simp only[mT,lO,mn,cond_false,List.headD_cons];unfold dI at Bo;split at Bo
   .omega
   .split at Bo
    .rename_i hk;subst hk;cases Bo;exact run_equalIn_int w dep t _ k _ _ (by rw[hi.u,hu])
    .cases Bo
   .omega
   .cases Bo
  .rename_i hu;rw[hu] at lO;cases iL;obtain⟨p,q,rfl,rfl,Bo⟩:=one _ he;simp only[mT,lO,mn,cond_false,List.headD_cons];unfold dI at Bo;split at Bo
   .omega
   .omega
   .cases Bo;rw[run_equalIn_string w dep t _ _ (by rw[hi.u,hu]),beq_toListBytes]
   .cases Bo
  .rename_i fs hu;rw[hu] at lO;have j_:P.underlying t=some (.struct fs):=by rw[hi.u,hu]
   have Vc:P.fieldsOf t=fs:=by simp[Program.fieldsOf,j_]
   simp only[mT,lO,mn,cond_true];rw[run_equalIn_struct w dep t _ _ (by rw[Vc];exact j_) (hi.held fs hu),Vc];split at iL
   .rename_i n hc;cases hb:Nat.beq n i.size with
    |false=>simp[hb] at iL
    |true=>
     simp only[hb,cond_true] at iL;have key: ∀(gs:List Field) (off:Nat) (ks:List Nat),nc T off gs=some n->mq (kinds T d) gs=some ks->n=l.length->n=m.length->
       ∀y,bx ks (l.drop off) (m.drop off)=some y-> ∀w,(Op.eqFields dep ⟨l⟩ ⟨m⟩ gs).run P w= .ok y w:=by
      intro gs;induction gs with
      |nil=>
       intro off ks hc hk hn hm y hy w;simp only[nc,kl] at hc;simp only[mq,kl] at hk;subst hk;have h1:l.drop off=[]:=XC (by omega);have h2:m.drop off=[]:=XC (by omega);rw[h1,h2] at hy;simp only[bx,kl] at hy;subst hy;rfl
      |cons f gs ihg=>
       intro off ks hc hk hn hm y hy w;simp only[nc] at hc;cases hb:Nat.beq f.offset off with
       |false=>simp[hb] at hc
       |true=>
        simp only[hb,cond_true] at hc;have Y6:=nO hb;cases ht:T f.type with
        |none=>simp[ht] at hc
        |some j=>
         simp only[ht] at hc;obtain⟨KZ,a,b,ha,Fx,rfl⟩:=qa hk;have hj:=hT _ _ ht;have hle:=GD hc;have C0:=qb ht hT ha;have uq: ∀z:List Value,z.drop off=(z.drop off).take j.size++z.drop (off+j.size):=by intro z;rw[<-List.drop_drop,List.take_append_drop]
         rw[uq l,uq m] at hy;obtain⟨p,q,hp,hq,rfl⟩:=wD (by simp;omega) (by simp;omega) hy;simp only[Op.eqFields,ne_eq,KZ,not_false_eq_true,if_true,Sem.run_bind,Y6,qp hj (m:=l) (show off+j.size<=l.length by omega),
          qp hj (m:=m) (show off+j.size<=m.length by omega),Result.andThen_ok]
         rw[ih f.type j dep a ht ha (by omega) _ _ p hp];simp only[Result.andThen_ok];cases p with
         |true=>
          simp only[Bool.not_true,PG,if_false,Bool.true_and];exact ihg _ _ hc Fx hn hm q hq w
         |false=>simp
     have qK:=qb (d:=d+1) iD hT (ks:=ks) (by simp only[kinds,iD,hu,hc,hb,cond_true];exact iL);obtain⟨h1,h2⟩:=eB he;have hn:=nO hb;exact key fs.toList 0 ks hc iL (by omega) (by omega) x (by simpa using he) w
   .cases iL
  .rename_i n el hu;rw[hu] at lO;have j_:P.underlying t=some (.array n el):=by rw[hi.u,hu]
   simp only[mT,lO,mn,cond_true];split at iL
   .rename_i e hH;cases hb:Nat.beq (n*e.size) i.size with
    |false=>simp[hb] at iL
    |true=>
     simp only[hb,cond_true] at iL;split at iL
     .rename_i Hh hk;cases iL;have hE:=hT el e hH;obtain⟨ti,N5,p_,_,_⟩:=hE.info;have hce:P.cellsOf el=e.size:=by rw[<-p_];simp[Program.cellsOf,N5]
      rw[run_equalIn_array w dep ⟨l⟩ ⟨m⟩ j_ N5,hce,List.range_eq_range'];have qK:=qb hH hT hk;obtain⟨h1,h2⟩:=eB he;rw[xb,qK] at h1 h2;have key: ∀(k j:Nat),j+k=n-> ∀y,bx (OE Hh k) (l.drop (j*e.size)) (m.drop (j*e.size))=some y-> ∀w,(Op.eqItems dep el e.size ⟨l⟩ ⟨m⟩ (List.range' j k)).run P w= .ok y w:=by
       intro k;induction k with
       |zero=>
        intro j hj y hy w;have Fz:l.drop (j*e.size)=[]:=XC (by rw[h1];exact CI _ (by omega));have vK:m.drop (j*e.size)=[]:=XC (by rw[h2];exact CI _ (by omega));rw[Fz,vK] at hy;simp only[OE,bx,kl] at hy;subst hy;rfl
       |succ k ihk=>
        intro j hj y hy w;have hle:(j+1)*e.size<=n*e.size:=CI _ (by omega);rw[rU,Nat.one_mul] at hle;have uq: ∀z:List Value,z.drop (j*e.size)=(z.drop (j*e.size)).take e.size++z.drop ((j+1)*e.size):=by intro z;rw[rU,Nat.one_mul,<-List.drop_drop,List.take_append_drop]
        rw[uq l,uq m] at hy;obtain⟨p,q,hp,hq,rfl⟩:=wD (ks:=Hh) (by simp;omega) (by simp;omega) hy;simp only[List.range'_succ,Op.eqItems,Sem.run_bind,qp hE (m:=l) (show j*e.size+e.size<=l.length by omega),
         qp hE (m:=m) (show j*e.size+e.size<=m.length by omega),Result.andThen_ok]
        rw[ih el e dep Hh hH hk (by omega) _ _ p hp];simp only[Result.andThen_ok];cases p with
        |true=>
         simp only[Bool.not_true,PG,if_false,Bool.true_and];exact ihk (j+1) (by omega) q hq w
        |false=>simp
      exact key n 0 (by omega) x (by simpa using he) w
     .cases iL
   .cases iL
  .cases iL
theorem zT (hT:cm P T): ∀(d t:Nat) (dep:Nat) (ks:List Nat),kinds T d t=some ks->d<=dep->P.eqGuardType dep t=false:=by
 intro d;induction d with
 |zero=>intro t dep ks h;simp[kinds] at h
 |succ d ih=>
  intro t dep ks iL hd;obtain⟨dep,rfl⟩: ∃k,dep=k+1:=⟨dep-1,by omega⟩;simp only[kinds] at iL;split at iL
  .cases iL
  .rename_i i iD;have hi:=hT t i iD;simp only[Program.eqGuardType,hi.u];split at iL
   .rename_i hu;rw[hu]
   .rename_i hu;rw[hu]
   .rename_i hu;rw[hu]
   .rename_i fs hu;rw[hu];split at iL
    .rename_i n hc;cases hb:Nat.beq n i.size with
     |false=>simp[hb] at iL
     |true=>
      simp only[hb,cond_true] at iL;dsimp only;rw[<-Array.any_toList];have key: ∀(gs:List Field) (ks:List Nat),mq (kinds T d) gs=some ks->(gs.any fun f=>f.name != "_" &&P.eqGuardType dep f.type)=false:=by
       intro gs;induction gs with
       |nil=>intro _ _;rfl
       |cons f gs ihg=>
        intro ks hk;obtain⟨_,a,b,ha,Fx,_⟩:=qa hk;rw[List.any_cons,ihg b Fx,ih f.type dep a ha (by omega)];simp
      exact key _ _ iL
    .cases iL
   .rename_i n el hu;rw[hu];dsimp only;split at iL
    .rename_i e he;cases hb:Nat.beq (n*e.size) i.size with
     |false=>simp[hb] at iL
     |true=>
      simp only[hb,cond_true] at iL;split at iL
      .rename_i Hh hk;exact ih el dep Hh hk (by omega)
      .cases iL
    .cases iL
   .cases iL
end
section
variable {P:Program} {CC:cj} {ρ:dY} {h:ae} {w:World} {T:qd} {ng:Nat} {e:Env} {a:Act} {c:Value}
theorem VR.bN {k:IntKind} {n:Int} (h:VR ρ (.int k n) c):c= .int k n:=by
 cases h with
 |val h=>cases h with
  |cell h=>cases h with
   |cell h=>cases h;rfl
theorem VR.mc {b:Bool} (h:VR ρ (.bool b) c):c= .bool b:=by
 cases h with
 |val h=>cases h with
  |cell h=>cases h with
   |cell h=>cases h;rfl
theorem VR.Dj {s:ByteArray} (h:VR ρ (.string s) c):c= .string s:=by
 cases h with
 |val h=>cases h with
  |cell h=>cases h with
   |cell h=>cases h;rfl
theorem VR.Ay {b o:Nat} (h:VR ρ (.pointer (some ⟨b,o,none⟩)) c): ∃r,ρ b=some r/\c= .pointer (some ⟨r.aA,r.base+o,none⟩):=by
 cases h with
 |val h=>cases h with
  |cell h=>cases h with
   |cell h=>cases h with
    |ptr h=>exact⟨_,h,rfl⟩
theorem VR.y8 (h:VR ρ (.pointer none) c):c= .pointer none:=by
 cases h with
 |val h=>cases h with
  |cell h=>cases h with
   |cell h=>cases h;rfl
theorem VR.EY {x:Addr} (h:VR ρ (.pointer (some x)) c): ∃y,c= .pointer (some y):=by
 cases h with
 |val h=>cases h with
  |cell h=>cases h with
   |cell h=>cases h with
    |ptr h=>exact⟨_,rfl⟩
theorem VR.fw {b o n cp:Nat} (h:VR ρ (.slice (some ⟨b,o,none⟩) n cp) c): ∃r ca ccap,ρ b=some r/\c= .slice (some ca) n ccap/\r7 r o n cp ca ccap:=by
 cases h with
 |val h=>cases h with
  |cell h=>cases h with
   |cell h=>cases h with
    |slice h hs=>exact⟨_,_,_,h,rfl,hs⟩
theorem VR.iq (h:VR ρ (.slice none n cp) c):c= .slice none n cp:=by
 cases h with
 |val h=>cases h with
  |cell h=>cases h with
   |cell h=>cases h;rfl
theorem VR.qt {x:Option Addr} (h:VR ρ (.slice x n cp) c): ∃y ccap,c= .slice y n ccap/\y.isNone=x.isNone:=by
 cases h with
 |val h=>cases h with
  |cell h=>cases h with
   |cell h=>cases h with
    |oE=>exact⟨_,_,rfl,rfl⟩
    |slice h hs=>exact⟨_,_,rfl,rfl⟩
theorem VR.Da {x:Option Nat} (h:VR ρ (.map x) c): ∃y,c= .map y/\y.isNone=x.isNone:=by
 cases h with
 |val h=>cases h with
  |cell h=>cases h with
   |cell h=>cases h with
    |y6=>exact⟨_,rfl,rfl⟩
    |map h=>exact⟨_,rfl,rfl⟩
theorem VR.td (h:VR ρ .nilFunc c):c= .nilFunc:=by
 cases h with
 |val h=>cases h with
  |cell h=>cases h with
   |cell h=>cases h;rfl
theorem VR.KE {fn:Fn} {x y:Array Value} (h:VR ρ (.func fn x y) c): ∃fn' x' y',c= .func fn' x' y':=by
 cases h with
 |val h=>cases h with
  |cell h=>cases h with
   |cell h=>cases h
   |fn=>exact⟨_,_,_,rfl⟩
   |yield=>exact⟨_,_,_,rfl⟩
theorem VR.lQ {l:Array Value} (h:VR ρ (.agg l) c): ∃m,c= .agg ⟨m⟩/\All2 (KR ρ) l.toList m:=by
 cases h with
 |val h=>cases h with
  |cell h=>exact absurd h.plain.1 (by simp[AI.plain])
  |agg h=>exact⟨_,rfl,h⟩
theorem VR.Yp (h:VR ρ (.chan (some n)) c): ∃m:Nat,c= .int .i64 m/\n<=m:=by
 cases h with
 |val h=>cases h with
  |cell h=>cases h with
   |cell h=>cases h
 |atl h=>exact⟨_,rfl,h⟩
theorem VR.HI {l:Array Value} (h:VR ρ (.tuple l) c): ∃m,c= .tuple ⟨m⟩/\All2 (AR ρ) l.toList m:=by
 cases h with
 |val h=>cases h with
  |cell h=>exact absurd h.plain.1 (by simp[AI.plain])
 |tuple h=>exact⟨_,rfl,h⟩
theorem VR.agg {l m:List Value} (h:All2 (KR ρ) l m):VR ρ (.agg ⟨l⟩) (.agg ⟨m⟩):= .val (.agg h)
theorem ZH {x y z:Operand} {v:Value} (S:cQ CC ρ h w) (hE:ER ρ e a.tmps) (hG:bS ng ρ) (hx:aZ ng x=true) (hy:aZ ng y=true) (hz:aZ ng z=true) {h':ae}
  (hv:bm e h (.pick x y z)=some (v,h')):Out CC ρ h w v h' (((do pure (.value (if<-asBool (a.eval x) then a.eval y else a.eval z))):Sem Next).run P w):=by
 have hr:=hE.eval hG hx;simp only[bm] at hv;split at hv
 .rename_i heq;cases hv;rw[heq] at hr;rw[hr.mc];exact Out.same S (by simp[asBool]) (hE.eval hG hy)
 .rename_i heq;cases hv;rw[heq] at hr;rw[hr.mc];exact Out.same S (by simp[asBool]) (hE.eval hG hz)
 .cases hv
theorem qM {k:IntKind} {t:TypeId} {x y:Int} (hv:fB op k x y=some v):
  (binOp op t (.int k x) (.int k y)).run P w= .ok v w/\VR ρ v v:=by
 cases op<;>simp only[fB] at hv<;>first
  |(cases hv;exact⟨by simp[binOp,Op.intBits,Op.intCmp,Op.intArith],CR.vr (by constructor)⟩)
  |(split at hv
    .cases hv
    .rename_i hz;cases hv;refine⟨?_,CR.vr (by constructor)⟩;simp[binOp,Op.intDiv,hz])
  |(cases hv;done)
theorem AG {k k':IntKind} {t:TypeId} {x y:Int} (vN:op= .shl\/op= .shr) (hv:gY op k x y=some v):
  (binOp op t (.int k x) (.int k' y)).run P w= .ok v w/\VR ρ v v:=by
 unfold gY at hv;split at hv
 .cases hv
 .rename_i Vj;rcases vN with rfl|rfl<;>(cases hv;refine⟨?_,CR.vr (by constructor)⟩;simp[binOp,Op.shift,Vj])
theorem cg (h1:p≠ .nilIface) (h2: ∀l,p≠ .agg l):(eqGuard op t x y p q).run P w= .ok () w:=by
 have h3:(match p,q with
  | .nilIface,.nilIface=>False
  | .agg _,.agg _=>False
  |_,_=>True):=by
  cases p<;>first|trivial|(exact absurd rfl h1)|(exact absurd rfl (h2 _))|(cases q<;>trivial)
 cases op<;>first
  |rfl
  |(cases p<;>first|rfl|(exact absurd rfl h1)|(exact absurd rfl (h2 _))|(cases q<;>rfl))
theorem FW (h1:op≠ .eql) (h2:op≠ .neq):(eqGuard op t x y p q).run P w= .ok () w:=by unfold eqGuard;cases op<;>first|rfl|(exact absurd rfl h1)|(exact absurd rfl h2)
def Dn (T:qd) (t:Nat) (u:TypeDesc) (ks:List Nat):Prop:=
 (∃el,u= .slice el/\ks=[3])\/(∃el,u= .pointer el/\ks=[4])\/(∃k el,u= .map k el/\ks=[5])\/(∃ps rs vr,u= .func ps rs vr/\ks=[6])\/
 (∃(_:Unit) (Hh:List Nat),mn u=true/\kinds T 9 t=some Hh/\ks=9::Hh)\/(u= .bool/\ks=[0])\/(∃k,u= .int k/\ks=[1])\/(u= .string/\ks=[2])
section
variable {t:TypeId} {d:Nat}
theorem fm (hu:P.underlying t=some (.slice el)) (n m n' m':Nat) (y:Option Addr):(Op.equalIn (d+1) t (.slice none n m) (.slice y n' m')).run P w= .ok y.isNone w:=by simp only[Op.equalIn,Sem.run_bind,run_underlying hu,Result.andThen_ok,Sem.run_pure]
theorem ia (hu:P.underlying t=some (.slice el)) (n m n' m':Nat) (y:Addr):(Op.equalIn (d+1) t (.slice (some y) n m) (.slice none n' m')).run P w= .ok false w:=by simp only[Op.equalIn,Sem.run_bind,run_underlying hu,Result.andThen_ok,Sem.run_pure]
theorem ly (hu:P.underlying t=some (.pointer el)) (y:Option Addr):(Op.equalIn (d+1) t (.pointer none) (.pointer y)).run P w= .ok y.isNone w:=by simp only[Op.equalIn,Sem.run_bind,run_underlying hu,Result.andThen_ok,Sem.run_pure]
theorem lz (hu:P.underlying t=some (.pointer el)) (y:Addr):(Op.equalIn (d+1) t (.pointer (some y)) (.pointer none)).run P w= .ok false w:=by simp only[Op.equalIn,Sem.run_bind,run_underlying hu,Result.andThen_ok,Sem.run_pure]
theorem GN {k el:TypeId} (hu:P.underlying t=some (.map k el)) (y:Option Nat):(Op.equalIn (d+1) t (.map none) (.map y)).run P w= .ok y.isNone w:=by simp only[Op.equalIn,Sem.run_bind,run_underlying hu,Result.andThen_ok,Sem.run_pure]
theorem lx {k el:TypeId} (hu:P.underlying t=some (.map k el)) (y:Nat):(Op.equalIn (d+1) t (.map (some y)) (.map none)).run P w= .ok false w:=by simp only[Op.equalIn,Sem.run_bind,run_underlying hu,Result.andThen_ok,Sem.run_pure]
theorem ju (hu:P.underlying t=some (.func ps rs vr)):(Op.equalIn (d+1) t .nilFunc .nilFunc).run P w= .ok true w:=by simp only[Op.equalIn,Sem.run_bind,run_underlying hu,Result.andThen_ok,Sem.run_pure]
theorem jv (hu:P.underlying t=some (.func ps rs vr)) (f:Fn) (x y:Array Value):(Op.equalIn (d+1) t .nilFunc (.func f x y)).run P w= .ok false w:=by simp only[Op.equalIn,Sem.run_bind,run_underlying hu,Result.andThen_ok,Sem.run_pure]
theorem jw (hu:P.underlying t=some (.func ps rs vr)) (f:Fn) (x y:Array Value):(Op.equalIn (d+1) t (.func f x y) .nilFunc).run P w= .ok false w:=by simp only[Op.equalIn,Sem.run_bind,run_underlying hu,Result.andThen_ok,Sem.run_pure]
end
theorem jx {t:TypeId} {b:Bool} (h1: ∀k n k' n',¬(p= .int k n/\q= .int k' n')) (h2: ∀k n k' n',¬(p= .float k n/\q= .float k' n'))
  (h4: ∀s s',¬(p= .string s/\q= .string s')) (h5: ∀k n m k' n' m',¬(p= .complex k n m/\q= .complex k' n' m')) (h3:(Op.equalIn (9999+1) t p q).run P w= .ok b w):
  (binOp .eql t p q).run P w= .ok (.bool b) w/\(binOp .neq t p q).run P w= .ok (.bool (!b)) w:=by
 have h3':(Op.equal t p q).run P w= .ok b w:=h3;constructor
 .unfold binOp;split<;>first
   |(exact absurd ⟨rfl,rfl⟩ (h1 _ _ _ _))
   |(exact absurd ⟨rfl,rfl⟩ (h2 _ _ _ _))
   |(exact absurd ⟨rfl,rfl⟩ (h4 _ _))
   |(exact absurd ⟨rfl,rfl⟩ (h5 _ _ _ _ _ _))
   |contradiction
   |(simp only[Sem.run_bind,h3',Result.andThen_ok,Sem.run_pure];done)
 .unfold binOp;split<;>first
   |(exact absurd ⟨rfl,rfl⟩ (h1 _ _ _ _))
   |(exact absurd ⟨rfl,rfl⟩ (h2 _ _ _ _))
   |(exact absurd ⟨rfl,rfl⟩ (h4 _ _))
   |(exact absurd ⟨rfl,rfl⟩ (h5 _ _ _ _ _ _))
   |contradiction
   |(simp only[Sem.run_bind,h3',Result.andThen_ok,Sem.run_pure];done)
theorem GO (hT:cm P T) {t:Nat} {i:TI} (iD:T t=some i) (Rd:Dn T t i.u ks)
  {v v' c':Value} {b:Bool} (hv:VR ρ v c) (IZ:VR ρ v' c') (he:gE ks v v'=some b) {x y:Operand} {op:BinOp} :
  (eqGuard op t x y c c').run P w= .ok () w/\(binOp .eql t c c').run P w= .ok (.bool b) w/\(binOp .neq t c c').run P w= .ok (.bool (!b)) w:=by
 have hi:=hT t i iD;have depth:9<=P.depth:=by unfold Program.depth Made.depth;omega
 unfold gE at he;split at he
 .
  rename_i l l';obtain⟨m,rfl,hm⟩:=hv.lQ;obtain⟨m',rfl,NT⟩:=IZ.lQ;rcases Rd with⟨_,_,rfl⟩|⟨_,_,rfl⟩|⟨_,_,_,rfl⟩|⟨_,_,_,_,rfl⟩|⟨fs,Hh,hu,hk,rfl⟩|⟨_,rfl⟩|⟨_,_,rfl⟩|⟨_,rfl⟩
  .cases he
  .cases he
  .cases he
  .cases he
  .have IS:=su hm NT he;have lO:i.agg=true:=by rw[hi.agg,hu]
   have dm:=xl hT 9 t i 10000 Hh iD hk (by omega) m m' b IS w;simp only[mT,lO,cond_true] at dm;refine⟨run_eqGuard_agg w op t x y _ _ (zT hT 9 t P.depth Hh hk depth),?_,?_⟩
   .rw[run_eql_struct,dm];rfl
   .rw[run_neq_struct,dm];rfl
  .cases he
  .cases he
  .cases he
 .rename_i PS;have hu:=hi.u;split at he
  .
   have Ld: ∃el,i.u= .slice el:=by rcases Rd with⟨el,h,_⟩|⟨_,_,h⟩|⟨_,_,_,h⟩|⟨_,_,_,_,h⟩|⟨_,_,_,_,h⟩|⟨_,h⟩|⟨_,_,h⟩|⟨_,h⟩<;>first|exact⟨_,h⟩|(simp at h;done)
   obtain⟨el,hH⟩:=Ld;rw[hH] at hu;split at he
   .cases he;rw[hv.iq];obtain⟨y',cc,rfl,hy⟩:=IZ.qt;refine⟨cg (by simp) (by simp),jx (by simp) (by simp) (by simp) (by simp) ?_⟩;rw[<-hy];first|exact fm hu _ _ _ _ _|exact GN hu _
   .cases he;obtain⟨y',cc,rfl,hy⟩:=hv.qt;rw[IZ.iq];refine⟨cg (by simp) (by simp),?_⟩;cases y' with
    |none=>simp at hy
    |some z=>exact jx (by simp) (by simp) (by simp) (by simp) (by first|exact fm hu _ _ _ _ _|exact ia hu _ _ _ _ _|exact ly hu _|exact lz hu _|exact lx hu _|exact ju hu|exact jv hu _ _ _|exact jw hu _ _ _)
   .cases he
  .
   have Ld: ∃el,i.u= .pointer el:=by rcases Rd with⟨el,_,h⟩|⟨_,h,_⟩|⟨_,_,_,h⟩|⟨_,_,_,_,h⟩|⟨_,_,_,_,h⟩|⟨_,h⟩|⟨_,_,h⟩|⟨_,h⟩<;>first|exact⟨_,h⟩|(simp at h;done)
   obtain⟨el,hH⟩:=Ld;rw[hH] at hu;split at he
   .rename_i z;cases he;rw[hv.y8];cases z with
    |none=>
     rw[IZ.y8];exact⟨cg (by simp) (by simp),jx (by simp) (by simp) (by simp) (by simp) (by first|exact fm hu _ _ _ _ _|exact ia hu _ _ _ _ _|exact ly hu _|exact lz hu _|exact lx hu _|exact ju hu|exact jv hu _ _ _|exact jw hu _ _ _)⟩
    |some z=>
     obtain⟨y',rfl⟩:=IZ.EY;exact⟨cg (by simp) (by simp),jx (by simp) (by simp) (by simp) (by simp) (by first|exact fm hu _ _ _ _ _|exact ia hu _ _ _ _ _|exact ly hu _|exact lz hu _|exact lx hu _|exact ju hu|exact jv hu _ _ _|exact jw hu _ _ _)⟩
   .cases he;obtain⟨y',rfl⟩:=hv.EY;rw[IZ.y8];exact⟨cg (by simp) (by simp),jx (by simp) (by simp) (by simp) (by simp) (by first|exact fm hu _ _ _ _ _|exact ia hu _ _ _ _ _|exact ly hu _|exact lz hu _|exact lx hu _|exact ju hu|exact jv hu _ _ _|exact jw hu _ _ _)⟩
   .cases he
  .
   have Ld: ∃k el,i.u= .map k el:=by rcases Rd with⟨el,_,h⟩|⟨_,_,h⟩|⟨_,_,h,_⟩|⟨_,_,_,_,h⟩|⟨_,_,_,_,h⟩|⟨_,h⟩|⟨_,_,h⟩|⟨_,h⟩<;>first|exact⟨_,_,h⟩|(simp at h;done)
   obtain⟨k,el,hH⟩:=Ld;rw[hH] at hu;split at he
   .cases he;obtain⟨y0,rfl,hy0⟩:=hv.Da;obtain⟨y',rfl,hy⟩:=IZ.Da;cases y0 with
    |some z=>simp at hy0
    |none=>
     refine⟨cg (by simp) (by simp),jx (by simp) (by simp) (by simp) (by simp) ?_⟩;rw[<-hy];first|exact fm hu _ _ _ _ _|exact GN hu _
   .cases he;obtain⟨y0,rfl,hy0⟩:=hv.Da;obtain⟨y',rfl,hy⟩:=IZ.Da;cases y0 with
    |none=>simp at hy0
    |some z=>cases y' with
     |some z=>simp at hy
     |none=>exact⟨cg (by simp) (by simp),jx (by simp) (by simp) (by simp) (by simp) (by first|exact fm hu _ _ _ _ _|exact ia hu _ _ _ _ _|exact ly hu _|exact lz hu _|exact lx hu _|exact ju hu|exact jv hu _ _ _|exact jw hu _ _ _)⟩
   .cases he
  .
   have Ld: ∃ps rs vr,i.u= .func ps rs vr:=by rcases Rd with⟨el,_,h⟩|⟨_,_,h⟩|⟨_,_,_,h⟩|⟨_,_,_,h,_⟩|⟨_,_,_,_,h⟩|⟨_,h⟩|⟨_,_,h⟩|⟨_,h⟩<;>first|exact⟨_,_,_,h⟩|(simp at h;done)
   obtain⟨ps,rs,vr,hH⟩:=Ld;rw[hH] at hu;split at he
   .cases he;rw[hv.td,IZ.td];exact⟨cg (by simp) (by simp),jx (by simp) (by simp) (by simp) (by simp) (by first|exact fm hu _ _ _ _ _|exact ia hu _ _ _ _ _|exact ly hu _|exact lz hu _|exact lx hu _|exact ju hu|exact jv hu _ _ _|exact jw hu _ _ _)⟩
   .cases he;obtain⟨_,_,_,rfl⟩:=IZ.KE;rw[hv.td];exact⟨cg (by simp) (by simp),jx (by simp) (by simp) (by simp) (by simp) (by first|exact fm hu _ _ _ _ _|exact ia hu _ _ _ _ _|exact ly hu _|exact lz hu _|exact lx hu _|exact ju hu|exact jv hu _ _ _|exact jw hu _ _ _)⟩
   .cases he;obtain⟨_,_,_,rfl⟩:=hv.KE;rw[IZ.td];exact⟨cg (by simp) (by simp),jx (by simp) (by simp) (by simp) (by simp) (by first|exact fm hu _ _ _ _ _|exact ia hu _ _ _ _ _|exact ly hu _|exact lz hu _|exact lx hu _|exact ju hu|exact jv hu _ _ _|exact jw hu _ _ _)⟩
   .cases he
  .
   unfold dI at he;split at he
   .have hb:i.u= .bool:=by rcases Rd with⟨el,_,h⟩|⟨_,_,h⟩|⟨_,_,_,h⟩|⟨_,_,_,_,h⟩|⟨_,_,_,_,h⟩|⟨h,_⟩|⟨_,_,h⟩|⟨_,h⟩<;>first|exact h|(simp at h;done)
    cases he;rw[hv.mc,IZ.mc];rw[hb] at hu;exact⟨cg (by simp) (by simp),jx (by simp) (by simp) (by simp) (by simp) (run_equalIn_bool' w _ t _ _ hu)⟩
   .rw[hv.bN,IZ.bN];split at he
    .rename_i hk;subst hk;cases he;refine⟨cg (by simp) (by simp),?_,?_⟩
     .simp[binOp,Op.intCmp]
     .simp only[binOp,ne_eq,not_true_eq_false,if_false,Op.intCmp,Sem.run_pure];rfl
    .cases he
   .cases he;rw[hv.Dj,IZ.Dj];refine⟨cg (by simp) (by simp),?_,?_⟩
    .simp[binOp,Op.stringOp,beq_toListBytes]
    .simp[binOp,Op.stringOp,beq_toListBytes]
   .cases he
  .cases he
end
section
variable {P:Program} {CC:cj} {ρ:dY} {h h':ae} {w:World} {T:qd} {ng:Nat} {e:Env} {a:Act} {c v:Value}
theorem Ou {op:BinOp} {t:TypeId} (S:cQ CC ρ h w) (hE:ER ρ e a.tmps) (hG:bS ng ρ) (hx:aZ ng x=true) (hy:aZ ng y=true)
  {ks:List Nat} (hn:op≠ .eql/\op≠ .neq) (hv:bm e h (.bin op ks x y)=some (v,h')):
  Out CC ρ h w v h' (((do pure (Next.value (<-(do eqGuard op t x y (a.eval x) (a.eval y);binOp op t (a.eval x) (a.eval y))))):Sem Next).run P w):=by
 have dD:=hE.eval hG hx;have ky:=hE.eval hG hy;simp only[bm] at hv;split at hv
 .rename_i r hb;cases hv;have key:(binOp op t (a.eval x) (a.eval y)).run P w= .ok v w/\VR ρ v v:=by
   unfold Ud at hb;split at hb
   .split at hb
    .rename_i h1 h2;rw[h1] at dD;rw[h2] at ky;rw[dD.bN,ky.bN];exact AG (.inl rfl) hb
    .cases hb
   .split at hb
    .rename_i h1 h2;rw[h1] at dD;rw[h2] at ky;rw[dD.bN,ky.bN];exact AG (.inr rfl) hb
    .cases hb
   .exact absurd rfl hn.1
   .exact absurd rfl hn.2
   .split at hb
    .rename_i h1 h2;rw[h1] at dD;rw[h2] at ky;rw[dD.bN,ky.bN];split at hb
     .rename_i hk;subst hk;exact qM hb
     .cases hb
    .rename_i x' iK h1 h2;rw[h1] at dD;rw[h2] at ky;rw[dD.bN];obtain⟨m,hm,hle⟩:=ky.Yp;rw[hm];split at hb
     .rename_i hle';cases hb;have acu:decide (x'>(m:Int))=false:=by simp;omega
      have:=qM (op:= .gtr) (t:=t) (k:= .i64) (x:=x') (y:=(m:Int)) (P:=P) (w:=w) (ρ:=ρ) (v:= .bool false) (by simp only[fB];rw[acu]);exact this
     .cases hb
    .cases hb
   .split at hb
    .rename_i h1 h2;rw[h1] at dD;rw[h2] at ky;rw[dD.bN,ky.bN];split at hb
     .rename_i hk;subst hk;exact qM hb
     .cases hb
    .cases hb
  refine Out.same S (cS ?_) key.2;simp only[Sem.run_bind,FW hn.1 hn.2,Result.andThen_ok,key.1]
 .cases hv
theorem RR (hT:cm P T) {op:BinOp} {t:TypeId} {i:TI} (S:cQ CC ρ h w) (hE:ER ρ e a.tmps) (hG:bS ng ρ) (hx:aZ ng x=true) (hy:aZ ng y=true)
  {ks:List Nat} (vN:op= .eql\/op= .neq) (iD:T t=some i) (Rd:Dn T t i.u ks) (hv:bm e h (.bin op ks x y)=some (v,h')):
  Out CC ρ h w v h' (((do pure (Next.value (<-(do eqGuard op t x y (a.eval x) (a.eval y);binOp op t (a.eval x) (a.eval y))))):Sem Next).run P w):=by
 have dD:=hE.eval hG hx;have ky:=hE.eval hG hy;simp only[bm] at hv;split at hv
 .rename_i r hb;cases hv;have key:(eqGuard op t x y (a.eval x) (a.eval y)).run P w= .ok () w/\(binOp op t (a.eval x) (a.eval y)).run P w= .ok v w/\VR ρ v v:=by
   rcases vN with rfl|rfl
   .simp only[Ud] at hb;split at hb
    .rename_i h1 h2;rw[h1] at dD;rw[h2] at ky;rw[dD.bN,ky.bN];split at hb
     .rename_i hk;subst hk;exact⟨cg (by simp) (by simp),qM hb⟩
     .cases hb
    .split at hb
     .rename_i b he;cases hb;have:=GO (w:=w) hT iD Rd dD ky he (x:=x) (y:=y) (op:= .eql);exact⟨this.1,this.2.1,VR.bool _⟩
     .cases hb
   .simp only[Ud] at hb;split at hb
    .rename_i h1 h2;rw[h1] at dD;rw[h2] at ky;rw[dD.bN,ky.bN];split at hb
     .rename_i hk;subst hk;exact⟨cg (by simp) (by simp),qM hb⟩
     .cases hb
    .split at hb
     .rename_i b he;cases hb;have:=GO (w:=w) hT iD Rd dD ky he (x:=x) (y:=y) (op:= .neq);exact⟨this.1,this.2.2,VR.bool _⟩
     .cases hb
  refine Out.same S (cS ?_) key.2.2;simp only[Sem.run_bind,key.1,Result.andThen_ok,key.2.1]
 .cases hv
theorem aif {op:UnOp} (S:cQ CC ρ h w) (hE:ER ρ e a.tmps) (hG:bS ng ρ) (hx:aZ ng x=true) (hv:bm e h (.un op x)=some (v,h')):
  Out CC ρ h w v h' (((do pure (Next.value (<-Op.unary op (a.eval x)))):Sem Next).run P w):=by
 have dD:=hE.eval hG hx;simp only[bm] at hv;split at hv
 .rename_i r hb;cases hv;unfold unV at hb;split at hb
  .rename_i h1;cases hb;rw[h1] at dD;rw[dD.bN];exact Out.same S (cS (by simp[Op.unary,Op.intArith])) (VR.int _ _)
  .rename_i h1;cases hb;rw[h1] at dD;rw[dD.bN];exact Out.same S (cS (by simp[Op.unary,Op.intBits])) (VR.int _ _)
  .rename_i h1;cases hb;rw[h1] at dD;rw[dD.mc];exact Out.same S (cS (by simp[Op.unary])) (VR.bool _)
  .cases hb
 .cases hv
theorem ZB (hT:cm P T) {s d:TypeId} {i j:TI} {ks k:IntKind} {x:Operand} (hs:T s=some i) (hd:T d=some j) (hsu:i.u= .int ks) (hdu:j.u= .int k) (S:cQ CC ρ h w) (hE:ER ρ e a.tmps) (hG:bS ng ρ)
  (hx:aZ ng x=true) (hv:bm e h (.conv k x)=some (v,h')):Out CC ρ h w v h' (((do pure (Next.value (<-convert s d (a.eval x)))):Sem Next).run P w):=by
 have dD:=hE.eval hG hx;simp only[bm] at hv;split at hv
 .rename_i h1;cases hv;rw[h1] at dD;rw[dD.bN];have h2:=(hT s i hs).u;rw[hsu] at h2;have h3:=(hT d j hd).u;rw[hdu] at h3;exact Out.same S (cS (by simp[convert,run_underlying h2,run_underlying h3,Conv.intToInt])) (VR.int _ _)
 .cases hv
theorem AO (hE:ER ρ e a.tmps) (hG:bS ng ρ): ∀l:List Operand,l.all (aZ ng)=true->All2 (VR ρ) (tM e l) (l.map a.eval)
 |[],_=> .nil
 |x::l,hl=>by simp only[List.all_cons,uf] at hl;exact .cons (hE.eval hG hl.1) (AO hE hG l hl.2)
theorem OO (h:All2 (VR ρ) l m):l.all simple=true->All2 (CR ρ) l m:=by
 induction h with
 |nil=>intro _;exact .nil
 |cons h _ ih=>
  intro hs;simp only[List.all_cons,uf] at hs;exact .cons (CR.qn h hs.1) (ih hs.2)
theorem ZF {f:FuncId} {first caps:Array Operand} (S:cQ CC ρ h w) (hE:ER ρ e a.tmps) (hG:bS ng ρ) (hf:first.isEmpty=true) (hx:caps.toList.all (aZ ng)=true)
  (hv:bm e h (.uz f caps.toList)=some (v,h')):Out CC ρ h w v h' (((do pure (Next.value (<-Instr.makeFunc (.func f) (first.map a.eval) (caps.map a.eval)))):Sem Next).run P w):=by
 have hr:=AO hE hG caps.toList hx;simp only[bm] at hv;cases hs:(tM e caps.toList).all simple with
 |false=>simp[hs] at hv
 |true=>
  simp only[hs,cond_true,kl,wI] at hv;obtain⟨rfl,rfl⟩:=hv;have hf0:first= #[]:=by simpa using hf
  subst hf0;refine Out.same S (c:= .func (.func f) #[] ⟨caps.toList.map a.eval⟩) (cS ?_) (KR.fn f (OO hr hs)).vr;have hm:caps.map a.eval=⟨caps.toList.map a.eval⟩:=by apply Array.ext';simp
  simp[Instr.makeFunc,hm]
theorem RT (S:cQ CC ρ h w) (hE:ER ρ e a.tmps) (hG:bS ng ρ) (hx:aZ ng x=true) {ty:TypeId} {pos:String} {aft:Array Edge} {gd:Option (Nat×Bool)} {dst:Option Tmp}
  (hv:bm e h (.aY x)=some (v,h')):Out CC ρ h w v h' ((execOp a.eval { dst:=dst,op:= .nilCheck x,type:=ty,pos:=pos,after:=aft,guard:=gd }).run P w):=by
 have dD:=hE.eval hG hx;simp only[bm] at hv;split at hv
 .rename_i y h1;cases hv;rw[h1] at dD;obtain⟨z,hz⟩:=dD.EY;refine Out.same S (c:= .pointer (some z)) ?_ (by rw[hz] at dD;exact dD);simp[execOp,hz]
 .cases hv
theorem adG (S:cQ CC ρ h w) (hE:ER ρ e a.tmps) (hG:bS ng ρ) (hx:aZ ng x=true) (hv:bm e h (.ext i x)=some (v,h')):
  Out CC ρ h w v h' (((do pure (Next.value (<-Instr.extract (a.eval x) i))):Sem Next).run P w):=by
 have dD:=hE.eval hG hx;simp only[bm] at hv;split at hv
 .rename_i l h1;split at hv
  .rename_i u h2;cases hv;rw[h1] at dD;obtain⟨m,hm,hk⟩:=dD.HI;obtain⟨c,hc,hr⟩:=hk.get h2;rw[hm];refine Out.same S (c:=c) (cS ?_) (.val hr);have:(⟨m⟩:Array Value)[i]? =some c:=by rw[<-hc];simp
   simp[Instr.extract,this]
  .cases hv
 .cases hv
theorem adH (hT:cm P T) {i:TI} (iD:T t=some i) (hu:i.u= .slice el) {x:Operand} {ty:TypeId} (S:cQ CC ρ h w) (hE:ER ρ e a.tmps) (hG:bS ng ρ)
  (hx:aZ ng x=true) (hv:bm e h (.uU x)=some (v,h')):
  Out CC ρ h w v h' (((do pure (Next.value (<-Builtin.len_ #[t] ty #[a.eval x]))):Sem Next).run P w):=by
 have dD:=hE.eval hG hx;have hi:=(hT t i iD).u;rw[hu] at hi;simp only[bm] at hv;split at hv
 .rename_i h1;cases hv;rw[h1] at dD;obtain⟨y,cc,hy,_⟩:=dD.qt;rw[hy];exact Out.same S (cS (by simp[Builtin.len_,run_underlying hi,goInt])) (VR.int _ _)
 .cases hv
theorem adF (hT:cm P T) {i:TI} (iD:T t=some i) (hu:i.u= .slice el) {x:Operand} {ty:TypeId} (S:cQ CC ρ h w) (hE:ER ρ e a.tmps) (hG:bS ng ρ)
  (hx:aZ ng x=true) (hv:bm e h (.MX x)=some (v,h')):
  Out CC ρ h w v h' (((do pure (Next.value (<-Builtin.cap_ #[t] ty #[a.eval x]))):Sem Next).run P w):=by
 have dD:=hE.eval hG hx;have hi:=(hT t i iD).u;rw[hu] at hi;simp only[bm] at hv;split at hv
 .rename_i h1;cases hv;rw[h1] at dD;rw[dD.iq];exact Out.same S (cS (by simp[Builtin.cap_,run_underlying hi,goInt])) (VR.int _ _)
 .rename_i b off len cp h1;rw[h1] at dD;obtain⟨r,ca,ccap,hr,hc,hs⟩:=dD.fw;rw[hc];split at hv
  .rename_i cs ro o st hb;have Vo:=S.obj b r _ hr hb;obtain⟨ez,GM,fr,_,_,Rh,_⟩:=Vo;have dm:(Builtin.cap_ #[t] ty #[.slice (some ca) len ccap]).run P w= .ok (.int .i64 ccap) w:=by simp[Builtin.cap_,run_underlying hi,goInt]
   cases ho:Nat.beq o 0 with
   |true=>
    simp only[ho,if_true] at hv;cases hv;have ho0:=nO ho;have:ccap=cp:=by
     rcases hs.2.1 with h|⟨h,_⟩
     .exact h
     .exact absurd (Rh.trans ho0) h
    rw[this] at dm ⊢;exact Out.same S (cS dm) (VR.int _ _)
   |false=>
    simp only[ho,PG,if_false] at hv;cases hv;have:cp<=ccap:=by
     rcases hs.2.1 with h|⟨_,h,_⟩
     .omega
     .exact h
    exact Out.same S (cS dm) (.atl this)
  .cases hv
 .cases hv
theorem ZI (hT:cm P T) {i:TI} (iD:T t=some i) (hu:i.u= .string) {x:Operand} {ty:TypeId} (S:cQ CC ρ h w) (hE:ER ρ e a.tmps) (hG:bS ng ρ)
  (hx:aZ ng x=true) (hv:bm e h (.JD x)=some (v,h')):
  Out CC ρ h w v h' (((do pure (Next.value (<-Builtin.len_ #[t] ty #[a.eval x]))):Sem Next).run P w):=by
 have dD:=hE.eval hG hx;have hi:=(hT t i iD).u;rw[hu] at hi;simp only[bm] at hv;split at hv
 .rename_i h1;cases hv;rw[h1] at dD;rw[dD.Dj];exact Out.same S (cS (by simp[Builtin.len_,run_underlying hi,goInt])) (VR.int _ _)
 .cases hv
theorem adI {ts:Array TypeId} {ty:TypeId} (S:cQ CC ρ h w) (hE:ER ρ e a.tmps) (hG:bS ng ρ) (hx:aZ ng x=true) (hy:aZ ng y=true) (hv:bm e h (.MY x y)=some (v,h')):
  Out CC ρ h w v h' (((do pure (Next.value (<-Builtin.min_ ts ty #[a.eval x,a.eval y]))):Sem Next).run P w):=by
 have dD:=hE.eval hG hx;have ky:=hE.eval hG hy;simp only[bm] at hv;split at hv
 .rename_i h1 h2;split at hv
  .rename_i hk;subst hk;cases hv;rw[h1] at dD;rw[h2] at ky;rw[dD.bN,ky.bN];exact Out.same S (cS (by simp[Builtin.min_,Builtin.min2])) (VR.int _ _)
  .cases hv
 .cases hv
theorem Wk (hT:cm P T) {i fi:TI} {k:Nat} {x:Operand} (iD:T t=some i) (hu:i.u= .struct fs) (hf:fs[k]? =some f) (PM:T f.type=some fi) (hz:fi.size≠0)
  (S:cQ CC ρ h w) (hE:ER ρ e a.tmps) (hG:bS ng ρ) (hx:aZ ng x=true) (hv:bm e h (.bM f.offset x)=some (v,h')):
  Out CC ρ h w v h' (((do pure (Next.value (<-Instr.fieldAt t (a.eval x) k))):Sem Next).run P w):=by
 have dD:=hE.eval hG hx;have hi:=(hT t i iD).u;rw[hu] at hi;simp only[bm] at hv;split at hv
 .rename_i b o h1;cases hv;rw[h1] at dD;obtain⟨r,hr,hc⟩:=dD.Ay;rw[hc];refine Out.same S (c:= .pointer (some ⟨r.aA,r.base+(o+f.offset),none⟩)) (cS ?_) (CR.ptr hr).vr;simp[Instr.fieldAt,run_underlying hi,hf,Instr.sureAddr,fieldPlace,(fF (w:=w) (hT _ _ PM)).1,hz,nZ,BU]
 .cases hv
theorem EJ (hT:cm P T) {i ei:TI} {x y:Operand} (iD:T t=some i) (hu:i.u= .slice el) (hH:T el=some ei) (S:cQ CC ρ h w) (hE:ER ρ e a.tmps) (hG:bS ng ρ)
  (hx:aZ ng x=true) (hy:aZ ng y=true) (hv:bm e h (.cR none ei.size x y)=some (v,h')):
  Out CC ρ h w v h' (((do pure (Next.value (<-Instr.indexAt t (a.eval x) (a.eval y)))):Sem Next).run P w):=by
 have dD:=hE.eval hG hx;have ky:=hE.eval hG hy;have hi:=(hT t i iD).u;rw[hu] at hi;simp only[bm] at hv;split at hv
 .rename_i k n h1;split at hv
  .contradiction
  .rename_i b o len cp _ h2;by_cases ef:n<len
   .have hb:Nat.blt n len=true:=by simp[Nat.blt_eq];exact ef
    simp only[hb,if_true,kl,wI] at hv;obtain⟨rfl,rfl⟩:=hv;rw[h1] at ky;rw[h2] at dD;rw[ky.bN];obtain⟨r,ca,cc,hr,hc,⟨KQ,U6,hle⟩⟩:=dD.fw;rw[hc];have U5:ca=⟨r.aA,r.base+o,none⟩:=by
     rcases KQ with h|⟨_,h⟩
     .exact h
     .omega
    subst U5;refine Out.same S (c:= .pointer (some ⟨r.aA,r.base+(o+n*ei.size),none⟩)) (cS ?_) (CR.ptr hr).vr;have AW:(0:Int)<=Int.ofNat n/\Int.ofNat n<(len:Int):=⟨Int.natCast_nonneg n,by exact Int.ofNat_lt.2 ef⟩;simp only[Instr.indexAt,asIntOf,Sem.run_bind,Sem.run_pure,Result.andThen_ok,run_underlying hi];rw[aU AW];simp[(fF (w:=w) (hT _ _ hH)).1,nZ,BU]
   .have hb:Nat.blt n len=false:=by
     cases hb:Nat.blt n len with
     |false=>rfl
     |true=>exact absurd (by simpa [Nat.blt_eq] using hb) ef
    simp[hb] at hv
  .cases hv
 .cases hv
theorem EI (hT:cm P T) {m:Nat} {i ei:TI} {x y:Operand} (iD:T t=some i) (hu:i.u= .array m el) (hH:T el=some ei) (S:cQ CC ρ h w) (hE:ER ρ e a.tmps) (hG:bS ng ρ)
  (hx:aZ ng x=true) (hy:aZ ng y=true) (hv:bm e h (.cR (some m) ei.size x y)=some (v,h')):
  Out CC ρ h w v h' (((do pure (Next.value (<-Instr.indexAt t (a.eval x) (a.eval y)))):Sem Next).run P w):=by
 have dD:=hE.eval hG hx;have ky:=hE.eval hG hy;have hi:=(hT t i iD).u;rw[hu] at hi;simp only[bm] at hv;split at hv
 .rename_i k n h1;split at hv
  .rename_i m' b o JN h2;cases JN;by_cases ef:n<m
   .have hb:Nat.blt n m=true:=by simp[Nat.blt_eq];exact ef
    simp only[hb,if_true,kl,wI] at hv;obtain⟨rfl,rfl⟩:=hv;rw[h1] at ky;rw[h2] at dD;rw[ky.bN];obtain⟨r,hr,hc⟩:=dD.Ay;rw[hc];refine Out.same S (c:= .pointer (some ⟨r.aA,r.base+(o+n*ei.size),none⟩)) (cS ?_) (CR.ptr hr).vr;have AW:(0:Int)<=Int.ofNat n/\Int.ofNat n<(m:Int):=⟨Int.natCast_nonneg n,by exact Int.ofNat_lt.2 ef⟩;simp only[Instr.indexAt,asIntOf,Sem.run_bind,Sem.run_pure,Result.andThen_ok,run_underlying hi,Instr.sureAddr];rw[aU AW];simp[(fF (w:=w) (hT _ _ hH)).1,nZ,BU]
   .have hb:Nat.blt n m=false:=by
     cases hb:Nat.blt n m with
     |false=>rfl
     |true=>exact absurd (by simpa [Nat.blt_eq] using hb) ef
    simp[hb] at hv
  .contradiction
  .cases hv
 .cases hv
theorem Wl (hT:cm P T) {i fi:TI} {k:Nat} {x:Operand} (iD:T t=some i) (hu:i.u= .struct fs) (hf:fs[k]? =some f) (PM:T f.type=some fi)
  (S:cQ CC ρ h w) (hE:ER ρ e a.tmps) (hG:bS ng ρ) (hx:aZ ng x=true) (hv:bm e h (.field f.offset (xI fi) x)=some (v,h')):
  Out CC ρ h w v h' (((do pure (Next.value (<-Instr.field t (a.eval x) k))):Sem Next).run P w):=by
 have dD:=hE.eval hG hx;have hi:=(hT t i iD).u;rw[hu] at hi;simp only[bm] at hv;split at hv
 .rename_i l h1;split at hv
  .rename_i u h2;cases hv;rw[h1] at dD;obtain⟨m,hm,hk⟩:=dD.lQ;obtain⟨c,hc,hr⟩:=LF (w:=w) (hT _ _ PM) hk h2;rw[hm];refine Out.same S (c:=c) (cS ?_) hr;simp only[Instr.field,Sem.run_bind,run_underlying hi,Result.andThen_ok,hf,asAgg,Sem.run_pure,hc]
  .cases hv
 .cases hv
theorem Jf (hT:cm P T) {i:TI} {x y:Operand} (iD:T t=some i) (hu:i.u= .string) (S:cQ CC ρ h w) (hE:ER ρ e a.tmps) (hG:bS ng ρ)
  (hx:aZ ng x=true) (hy:aZ ng y=true) (hv:bm e h (.index none x y)=some (v,h')):
  Out CC ρ h w v h' (((do pure (Next.value (<-Instr.index t (a.eval x) (a.eval y)))):Sem Next).run P w):=by
 have dD:=hE.eval hG hx;have ky:=hE.eval hG hy;have hi:=(hT t i iD).u;rw[hu] at hi;simp only[bm] at hv;split at hv
 .rename_i k n h1;split at hv
  .contradiction
  .rename_i s _ h2;split at hv
   .rename_i b hb;cases hv;rw[h1] at ky;rw[h2] at dD;rw[ky.bN,dD.Dj];refine Out.same S (cS ?_) (VR.int _ _);have h0:(0:Int)<=Int.ofNat n:=Int.natCast_nonneg n;simp only[Instr.index,asIntOf,Sem.run_bind,Sem.run_pure,Result.andThen_ok,run_underlying hi];simp only[h0,if_true];have:(Int.ofNat n).toNat=n:=rfl;rw[this,hb];rfl
   .cases hv
  .cases hv
 .cases hv
theorem Je (hT:cm P T) {len:Nat} {i ei:TI} {x y:Operand} (iD:T t=some i) (hu:i.u= .array len el) (hH:T el=some ei) (S:cQ CC ρ h w) (hE:ER ρ e a.tmps) (hG:bS ng ρ)
  (hx:aZ ng x=true) (hy:aZ ng y=true) (hv:bm e h (.index (some (len,ei.size,xI ei)) x y)=some (v,h')):
  Out CC ρ h w v h' (((do pure (Next.value (<-Instr.index t (a.eval x) (a.eval y)))):Sem Next).run P w):=by
 have dD:=hE.eval hG hx;have ky:=hE.eval hG hy;have hi:=(hT t i iD).u;rw[hu] at hi;simp only[bm] at hv;split at hv
 .rename_i k n h1;split at hv
  .rename_i len' asv n' l JN h2;cases JN;by_cases ef:n<len
   .have hb:Nat.blt n len=true:=by simp[Nat.blt_eq];exact ef
    simp only[hb,if_true] at hv;split at hv
    .rename_i u hu2;cases hv;rw[h1] at ky;rw[h2] at dD;rw[ky.bN];obtain⟨m,hm,hk⟩:=dD.lQ;obtain⟨c,hc,hr⟩:=LF (w:=w) (hT _ _ hH) hk hu2;rw[hm];refine Out.same S (c:=c) (cS ?_) hr;have AW:(0:Int)<=Int.ofNat n/\Int.ofNat n<(len:Int):=⟨Int.natCast_nonneg n,by exact Int.ofNat_lt.2 ef⟩;simp only[Instr.index,asIntOf,Sem.run_bind,Sem.run_pure,Result.andThen_ok,run_underlying hi];rw[aU AW];simp only[Sem.run_bind,(fF (w:=w) (hT _ _ hH)).1,Result.andThen_ok];exact hc
    .cases hv
   .have hb:Nat.blt n len=false:=by
     cases hb:Nat.blt n len with
     |false=>rfl
     |true=>exact absurd (by simpa [Nat.blt_eq] using hb) ef
    simp[hb] at hv
  .contradiction
  .cases hv
 .cases hv
end
section
variable {P:Program} {CC:cj} {ρ:dY} {h h':ae} {w:World} {T:qd} {ng:Nat} {e:Env} {a:Act} {c v:Value}
theorem Wm (hT:cm P T) {i:TI} (iD:T t=some i) (S:cQ CC ρ h w) (hE:ER ρ e a.tmps) (hG:bS ng ρ) (hx:aZ ng x=true)
  (hv:bm e h (.load (xI i) x)=some (v,h')):Out CC ρ h w v h' (((do pure (Next.value (<-Instr.loadAt t (a.eval x)))):Sem Next).run P w):=by
 have dD:=hE.eval hG hx;simp only[bm] at hv;split at hv
 .rename_i b off h1;split at hv
  .rename_i cs h2;split at hv
   .rename_i u h3;cases hv;rw[h1] at dD;obtain⟨r,hr,hc⟩:=dD.Ay;obtain⟨c,dm,IX⟩:=P9 S (hT t i iD) hr h2 h3;rw[hc];exact Out.same S (c:=c) (cS (by simp[Instr.loadAt,Instr.sureAddr,dm])) IX
   .cases hv
  .cases hv
 .cases hv
theorem RV (hT:cm P T) {i:TI} (iD:T t=some i) (S:cQ CC ρ h w) (hE:ER ρ e a.tmps) (hG:bS ng ρ) (hx:aZ ng x=true) (hy:aZ ng y=true)
  (hv:bm e h (.store i.size x y)=some (v,h')):Out CC ρ h w v h' (((do Instr.storeAt t (a.eval x) (a.eval y);pure Next.skip):Sem Next).run P w):=by
 have dD:=hE.eval hG hx;have ky:=hE.eval hG hy;simp only[bm] at hv;split at hv
 .rename_i b off h1;split at hv
  .rename_i vs h2;split at hv
   .rename_i h3;split at hv
    .rename_i hh h4;cases hv;rw[h1] at dD;obtain⟨r,hr,hc⟩:=dD.Ay;obtain⟨w',dm,S',E'⟩:=Wp S (hT t i iD) hr ky h2 (nO h3) h4;rw[hc];refine⟨ρ,w',undef,.inr ⟨rfl,?_⟩,VR.undef,S',E'⟩;simp[Instr.storeAt,Instr.sureAddr,dm]
    .cases hv
   .cases hv
  .cases hv
 .cases hv
theorem zK {α β:Type} (x:Sem α) (f:α->β):(f <$> x).run P w=(x.run P w).andThen fun y w'=> .ok (f y) w':=Sem.run_map P w x f
theorem HS {α β:Type} (f:α->Sem β) (g:α->β) (l:Array α) (hx: ∀x∈l.toList,(f x).run P w= .ok (g x) w):(l.mapM f).run P w= .ok (l.map g) w:=by
 have key: ∀(m:List α) (acc:Array β),(∀x∈m,(f x).run P w= .ok (g x) w)->(m.foldlM (fun bs x=>bs.push <$> f x) acc).run P w= .ok (acc++(m.map g).toArray) w:=by
  intro m;induction m with
  |nil=>intro acc _;simp
  |cons x m ih=>
   intro acc hm;simp only[List.foldlM_cons,Sem.run_bind,zK,hm x (by simp),Result.andThen_ok];rw[ih _ (fun y hy=>hm y (by simp[hy]))];congr 1;apply Array.ext';simp
 rw[Array.mapM_eq_foldlM,<-Array.foldlM_toList];rw[key l.toList #[] hx];congr 1;apply Array.ext';simp
theorem Oz {fs:List Field} : ∀ {ps:List (Nat×Operand)} {qs:List (Nat×Nat×Operand)},vi T fs ps=some qs->(fs.all fun f=>(T f.type).isSome)=true->
  All2 (fun(p:Nat×Operand) (q:Nat×Nat×Operand)=>((fs.map fun f=>(f.offset,((T f.type).map (·.size)).getD 0)).toArray[p.1]?)=some (q.1,q.2.1)/\q.2.2=p.2) ps qs:=by
 intro ps;induction ps with
 |nil=>intro qs h _;simp only[vi,kl] at h;subst h;exact .nil
 |cons p ps ih=>
  intro qs h mM;obtain⟨j,x⟩:=p;simp only[vi] at h;split at h
  .cases h
  .rename_i f hf;split at h
   .rename_i ti l ht hl;cases h;refine .cons ⟨?_,rfl⟩ (ih hl mM);simp[hf,ht]
   .cases h
theorem CU (hT:cm P T) {i:TI} {ps:Array (Nat×Operand)} {qs:List (Nat×Nat×Operand)} (iD:T t=some i) (hu:i.u= .struct fs)
  (mM:(fs.toList.all fun f=>(T f.type).isSome)=true) (hq:vi T fs.toList ps.toList=some qs) (S:cQ CC ρ h w) (hE:ER ρ e a.tmps) (hG:bS ng ρ)
  (hx:(ps.toList.map (·.2)).all (aZ ng)=true) (hv:bm e h (.build i.zero qs)=some (v,h')):
  Out CC ρ h w v h' (((do pure (Next.value (<-Instr.build t (ps.map fun p=>(p.1,a.eval p.2))))):Sem Next).run P w):=by
 have hi:=hT t i iD;have Ts:=hi.u;rw[hu] at Ts;simp only[bm] at hv;split at hv
 .rename_i cs h1;cases hv;obtain⟨z,hz,I0⟩:=rO (w:=w) hi;obtain⟨s,hs,hk⟩:=DW (ρ:=ρ) (a:=a) (ng:=ng) hE hG _ ps.toList qs i.zero i.zero cs (by simpa [List.all_map] using hx) (Oz hq mM) (dJ hi.zero) h1;refine Out.same S (c:= .agg ⟨s⟩) (cS ?_) (VR.agg hk);have va:(fs.mapM fun f=>(do pure (f.offset,<-sizeOf f.type):Sem (Nat×Nat))).run P w= .ok (fs.map fun f=>(f.offset,((T f.type).map (·.size)).getD 0)) w:=by refine HS _ _ fs ?_;intro f hf;have ahG:=List.all_eq_true.1 mM f hf;obtain⟨fi,PM⟩:=Option.isSome_iff_exists.1 ahG;simp[(fF (w:=w) (hT _ _ PM)).1,PM]
  have JU:z.cells=⟨i.zero⟩:=by apply Array.ext';simpa using I0
  have hpp:(ps.map fun p=>(p.1,a.eval p.2)).toList=ps.toList.map fun p=>(p.1,a.eval p.2):=by simp
  have hpa:(fs.toList.map fun f=>(f.offset,((T f.type).map (·.size)).getD 0)).toArray=fs.map fun f=>(f.offset,((T f.type).map (·.size)).getD 0):=by apply Array.ext';simp
  rw[hpa] at hs;simp only[Instr.build,Sem.run_bind,hz,Result.andThen_ok,run_underlying Ts,va,JU,hpp,hs,Sem.run_pure]
 .cases hv
theorem uP {el:TI} : ∀ps:List (Nat×Operand),
  All2 (fun(p:Nat×Operand) (q:Nat×Nat×Operand)=>(fun i=>some (i*el.size,el.size)) p.1=some (q.1,q.2.1)/\q.2.2=p.2) ps (ps.map fun p=>(p.1*el.size,el.size,p.2))
 |[]=> .nil
 |_::ps=> .cons ⟨rfl,rfl⟩ (uP ps)
theorem EH (hT:cm P T) {i ei:TI} {ps:Array (Nat×Operand)} (iD:T t=some i) (hu:i.u= .array n el) (hH:T el=some ei)
  (S:cQ CC ρ h w) (hE:ER ρ e a.tmps) (hG:bS ng ρ) (hx:(ps.toList.map (·.2)).all (aZ ng)=true) (hv:bm e h (.build i.zero (ps.toList.map fun p=>(p.1*ei.size,ei.size,p.2)))=some (v,h')):
  Out CC ρ h w v h' (((do pure (Next.value (<-Instr.build t (ps.map fun p=>(p.1,a.eval p.2))))):Sem Next).run P w):=by
 have hi:=hT t i iD;have Ts:=hi.u;rw[hu] at Ts;simp only[bm] at hv;split at hv
 .rename_i cs h1;cases hv;obtain⟨z,hz,I0⟩:=rO (w:=w) hi;obtain⟨s,hs,hk⟩:=DW (ρ:=ρ) (a:=a) (ng:=ng) hE hG (fun i=>some (i*ei.size,ei.size)) ps.toList _ i.zero i.zero cs (by simpa [List.all_map] using hx) (uP (el:=ei) ps.toList) (dJ hi.zero) h1;refine Out.same S (c:= .agg ⟨s⟩) (cS ?_) (VR.agg hk);have JU:z.cells=⟨i.zero⟩:=by apply Array.ext';simpa using I0
  have hpp:(ps.map fun p=>(p.1,a.eval p.2)).toList=ps.toList.map fun p=>(p.1,a.eval p.2):=by simp
  simp only[Instr.build,Sem.run_bind,hz,Result.andThen_ok,run_underlying Ts,(fF (w:=w) (hT _ _ hH)).1,JU,hpp,hs,Sem.run_pure]
 .cases hv
theorem oM (z:List Value): ∀n,(jW z n).length=n*z.length
 |0=>by simp[jW]
 |n+1=>by rw[jW,IG,oM z n,rU];omega
theorem LO (z:List Value): ∀(n i:Nat),i<n*z.length->(jW z n)[i]? =z[i%z.length]?
 |0,i,h=>by simp at h
 |n+1,i,h=>by
  have hz:0<z.length:=by
   cases hz:z.length with
   |zero=>rw[hz] at h;simp at h
   |succ k=>omega
  rw[jW];by_cases hi:i<z.length
  .rw[KH hi,Nat.mod_eq_of_lt hi]
  .rw[Mv (by omega),LO z n _ (by rw[rU] at h;omega)];congr 1
   conv=>rhs;rw[show i=(i-z.length)+z.length by omega,Nat.add_mod_right]
theorem xD {z:List Value} (hz:0<z.length\/n=0):(jW z n)=((Array.range (n*z.length)).map (fun i=>(⟨z⟩:Array Value)[i%z.length]!)).toList:=by
 apply zV;intro i;by_cases hi:i<n*z.length
 .have Tw:0<z.length:=by
   rcases hz with h|h
   .exact h
   .subst h;simp at hi
  have hm:i%z.length<z.length:=Nat.mod_lt _ Tw;rw[LO z n i hi];simp[hi,hm,getElem!_def]
 .rw[uI (by rw[oM];omega),uI (by simp;omega)]
theorem iC {z:List Value} (hz:z.all bK=true): ∀n,(jW z n).all bK=true
 |0=>rfl
 |n+1=>by rw[jW,List.all_append,hz,iC hz n];rfl
theorem RS (hT:cm P T) {i ei:TI} {ps:Array (Nat×Operand)} (iD:T t=some i) (hu:i.u= .slice el) (hH:T el=some ei) (hn:n*ei.size<=1000000)
  (S:cQ CC ρ h w) (hE:ER ρ e a.tmps) (hG:bS ng ρ) (hx:(ps.toList.map (·.2)).all (aZ ng)=true)
  (hv:bm e h (.cX n (jW ei.zero n) (ps.toList.map fun p=>(p.1*ei.size,ei.size,p.2)))=some (v,h')):
  Out CC ρ h w v h' (((do pure (Next.value (<-Instr.buildSlice t n (ps.map fun p=>(p.1,a.eval p.2))))):Sem Next).run P w):=by
 have hi:=hT t i iD;have Ts:=hi.u;rw[hu] at Ts;have xY:=hT _ _ hH;simp only[bm] at hv;split at hv
 .rename_i cs h1;cases hv;obtain⟨z,hz,I0⟩:=rO (w:=w) xY;have JU:z.cells=⟨ei.zero⟩:=by apply Array.ext';simpa using I0
  have cn:=xY.len;obtain⟨s,hs,hk⟩:=DW (ρ:=ρ) (a:=a) (ng:=ng) hE hG (fun i=>some (i*ei.size,ei.size)) ps.toList _ _ _ cs (by simpa [List.all_map] using hx) (uP (el:=ei) ps.toList) (dJ (iC xY.zero n)) h1;obtain⟨im,g1,g2,_,_,_,g7,g8⟩:=Ar (bh:=[]) S hk el 0 (fun h=>absurd rfl h);rw[List.append_nil] at g7 g8;refine⟨_,_,.slice (some ⟨w.heap.size,0,none⟩) n n,.inl (cS ?_),?_,g7,g8⟩
  .have hpp:(ps.map fun p=>(p.1,a.eval p.2)).toList=ps.toList.map fun p=>(p.1,a.eval p.2):=by simp
   by_cases h0:n*ei.size=0
   .have hr:jW ei.zero n=[]:=KF (by rw[oM,cn];exact h0);rw[hr] at hs;simp only[Instr.buildSlice,Sem.run_bind,run_underlying Ts,Result.andThen_ok,(fF (w:=w) xY).1,Sem.run_ite,h0,if_true,Sem.run_pure,hpp];have he:((Array.range 0).map fun i=>(#[]:Array Value)[i%(#[]:Array Value).size]!)=⟨[]⟩:=by apply Array.ext';simp
    rw[he,hs];rfl
   .have ef: ¬(n*ei.size>2^24):=by omega
    have hm:=xD (z:=ei.zero) (n:=n) (by
     by_cases VE:0<ei.zero.length
     .exact .inl VE
     .right;have:ei.zero.length=0:=by omega
      rw[cn] at this;rw[this] at h0;simp at h0)
    rw[cn] at hm;have MH:z.cells.size=ei.size:=by rw[JU];simpa using cn
    have Y4:((Array.range (n*ei.size)).map fun i=>(⟨ei.zero⟩:Array Value)[i%ei.size]!)=⟨jW ei.zero n⟩:=by apply Array.ext';rw[<-hm]
    simp only[Instr.buildSlice,Sem.run_bind,run_underlying Ts,Result.andThen_ok,(fF (w:=w) xY).1,Sem.run_ite,ef,if_false,h0,hz,Sem.run_pure,hpp,MH];rw[JU,Y4,hs];rfl
  .refine(CR.slice (nM _ _ _) ⟨.inl ?_,.inl rfl,dK _⟩).vr;rw[g1,g2]
 .cases hv
theorem Ov (hT:cm P T) {i ei:TI} {x y:Operand} (iD:T t=some i) (hu:i.u= .slice el) (hH:T el=some ei) (S:cQ CC ρ h w) (hE:ER ρ e a.tmps) (hG:bS ng ρ)
  (hx:aZ ng x=true) (hy:aZ ng y=true) (hv:bm e h (.ik ei.zero ei.bytes x y)=some (v,h')):
  Out CC ρ h w v h' (((do pure (Next.value (<-Instr.makeSlice t (a.eval x) (a.eval y)))):Sem Next).run P w):=by
 have hi:=hT t i iD;have Ts:=hi.u;rw[hu] at Ts;have xY:=hT _ _ hH;have dD:=hE.eval hG hx;have ky:=hE.eval hG hy;simp only[bm] at hv;split at hv
 .rename_i l c h1 h2;split at hv
  .rename_i h3;cases hv;simp only[uf] at h3;obtain⟨⟨⟨Vh,MA⟩,VE⟩,C1⟩:=h3;have Vh:=Mw Vh;have MA:=Mw MA;have C1:=Mw C1;have VE:0<ei.zero.length:=by simpa [Nat.blt_eq] using VE
   rw[h1] at dD;rw[h2] at ky;rw[dD.bN,ky.bN];obtain⟨ti,k1,k2,k3,z,k4,k5⟩:=xY.info;have JU:z.cells=⟨ei.zero⟩:=by apply Array.ext';simpa using k5
   have dm:=run_make (P:=P) w t el ti z Ts k1 k4 .i64 .i64 (Int.ofNat l) (Int.ofNat c) (Int.natCast_nonneg l) (Int.ofNat_le.2 Vh)
    (by rw[k3];show(ei.bytes:Int)*(c:Int)<=_;rw[<-Int.natCast_mul,Nat.mul_comm];exact Int.le_trans (Int.ofNat_le.2 MA) (by decide)) (by show(c:Int)<=_;exact Int.le_trans (Int.ofNat_le.2 C1) (by decide))
   have ahj:madeCells z.cells ((Int.ofNat c).toNat*ti.size)=⟨jW ei.zero c++[]⟩:=by apply Array.ext';rw[List.append_nil,xD (.inl VE),JU];simp[madeCells,k2,xY.len]
   rw[ahj] at dm;obtain⟨im,g1,g2,_,_,_,g7,g8⟩:=Ar (bh:=[]) S (dJ (iC xY.zero c)) el 0 (fun h=>absurd rfl h);refine⟨_,_,.slice (some ⟨w.heap.size,0,none⟩) l c,.inl (cS dm),?_,g7,g8⟩;refine(CR.slice (nM _ _ _) ⟨.inl ?_,.inl rfl,Vh⟩).vr;rw[g1,g2]
  .cases hv
 .cases hv
end
end Go.AI
