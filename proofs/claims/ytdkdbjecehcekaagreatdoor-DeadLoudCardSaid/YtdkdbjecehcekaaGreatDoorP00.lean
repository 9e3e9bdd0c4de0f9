/- Parts of the proof. -/
import GoSem.Dispatch
import Derived.Calls
import Derived.Below
import Derived.Laws.Rows
import Derived.Laws.CopyRow
import Derived.Laws.StructEq
import Derived.Laws.Append
import Derived.ChangeKeysEq
import Derived.Laws.Slices
set_option linter.all false
set_option linter.unusedSimpArgs false
set_option linter.unusedVariables false
set_option linter.unnecessarySimpa false
namespace Go.AI
inductive Tr (α:Type) where
 |nil
 |node (v:Option α) (l r:Tr α)
namespace Tr
variable {α:Type}
def get:Tr α→Nat→Option α
 | .nil,_=>none
 | .node v l r,k=>
  match k with
  |0=>v
  |k+1=>bif Nat.beq (k%2) 0 then l.get (k/2) else r.get (k/2)
def put:Nat→Tr α→Nat→Option α→Tr α
 |0,t,_,_=>t
 |f+1,.nil,k,x=>
  match k with
  |0=> .node x .nil .nil
  |k+1=>bif Nat.beq (k%2) 0 then .node none (put f .nil (k/2) x) .nil else .node none .nil (put f .nil (k/2) x)
 |f+1,.node v l r,k,x=>
  match k with
  |0=> .node x l r
  |k+1=>bif Nat.beq (k%2) 0 then .node v (put f l (k/2) x) r else .node v l (put f r (k/2) x)
def set (t:Tr α) (k:Nat) (x:α):Tr α:=put (k+1) t k (some x)
def del (t:Tr α) (k:Nat):Tr α:=put (k+1) t k none
end Tr
abbrev Env:=Tr Value
def Env.get (e:Env) (t:Nat):Value:=(Tr.get e t).getD (.tuple #[])
inductive ia where
 |mv (x:Operand)
 |pick (c a b:Operand)
 |alloc (z:List Value)
 |box (x:Operand)
 |build (z:List Value) (parts:List (Nat×Nat×Operand))
 |ct (n:Nat) (z:List Value) (parts:List (Nat×Nat×Operand))
 |load (n:Option Nat) (a:Operand)
 |store (n:Nat) (a v:Operand)
 |bj (x:Operand)
 |bin (op:BinOp) (n:List Nat) (x y:Operand)
 |un (op:UnOp) (x:Operand)
 |conv (k:IntKind) (x:Operand)
 |mH (f:FuncId) (caps:List Operand)
 |A_
 |fB (z:List Value) (bytes:Nat) (len cap:Operand)
 |slice (size:Nat) (x:Operand) (lo hi mx:Option Operand)
 |bw (off:Nat) (x:Operand)
 |cw (arr:Option Nat) (size:Nat) (x i:Operand)
 |field (off:Nat) (n:Option Nat) (x:Operand)
 |index (arr:Option (Nat×Nat×Option Nat)) (x i:Operand)
 |look (n:List Nat) (z:Value) (ok:Bool) (x i:Operand)
 |Bn (n:List Nat) (m k v:Operand)
 |vZ (x:Operand)
 |ND (x:Operand)
 |ext (i:Nat) (x:Operand)
 |call (f:Operand) (args:List Operand)
 |nx (x:Operand)
 |Cd (x:Operand)
 |append (z:List Value) (bytes:Nat) (zeros:Bool) (s x:Operand)
 |copy (size:Nat) (d s:Operand)
 |clear (z:List Value) (x:Operand)
 |Fx (x y:Operand)
 |FV (x:Operand)
 |bad
 deriving Inhabited
structure aV where
 dst:Option Nat
 guard:Option (Nat×Bool)
 op:ia
 deriving Inhabited
inductive aj where
 |skip
 |ops (l:List aV)
 |draw (l:List (aV×List Nat))
 |seq (a b:aj)
 |cond (c:Operand) (a b:aj)
 |block (id:Nat) (c:aj)
 |loop (c:aj)
 |AM (f:Operand) (ps:List Nat) (asg body:aj)
 |exit (id:Nat)
 |ret
 |bad
 deriving Inhabited
inductive zA where
 |tmp (t:Nat)
 |cell (a:Nat) (n:Option Nat)
inductive IG where
 |ready|busy|done (j:Option Nat)
inductive nr where
 |aA (cells:List Value) (ro:Bool) (yW:Nat) (stamp:Nat)
 |loop (env:Env) (ps:List Nat) (asg body:aj) (st:IG)
 |map (es:List (Value×Value))
 |Mz
structure ae where
 next:Nat
 clock:Nat
 tr:Tr nr
def WF (h:ae):Prop:= ∀b o,h.tr.get b=some o→b<h.next
structure cQ (h h':ae):Prop where
 next:h.next≤h'.next
 clock:h.clock≤h'.clock
 bl: ∀b cs ro o s,b<h.next→h'.tr.get b=some (.aA cs ro o s)→s<h.clock→h.tr.get b=some (.aA cs ro o s)
 wf:WF h→WF h'
 mp: ∀b,b<h.next→h'.tr.get b=some (.map [])→h.tr.get b=some (.map [])
inductive Prim where
 |no
 |run (p:List Value→ae→Option (Value×ae)) (hp: ∀args h v h',p args h=some (v,h')→cQ h h')
 |FN
structure bA where
 res:List zA
 body:aj
 wF:Prim:= .no
inductive aO where
 |normal
 |exit (id:Nat)
 |ret
def ev (e:Env):Operand→Value
 | .tmp t=>Env.get e t
 | .const v=>v
 | .global g=> .pointer (some ⟨g,0,none⟩)
 | .func f=> .func (.func f) #[] #[]
def dW (e:Env):Option Nat→Value→Env
 |none,_=>e
 |some t,v=>Tr.set e t v
def ae.new (h:ae) (o:nr):ae:= { h with next:=h.next+1,tr:=h.tr.set h.next o }
def aH (h:ae) (cells:List Value) (yW:Nat):ae:=h.new (.aA cells false yW 0)
def agg (n:Option Nat) (cs:List Value):Option Value:=
 match n with
 |some n=>if Nat.beq cs.length n then some (.agg ⟨cs⟩) else none
 |none=>match cs with
  |[v]=>some v
  |_=>none
def width (n:Option Nat):Nat:=match n with|some n=>n|none=>1
def aT (h:ae) (b off n:Nat):Option (List Value):=
 match h.tr.get b with
 |some (.aA cs _ _ _)=>let r:=(cs.drop off).take n;if Nat.beq r.length n then some r else none
 |_=>none
def aK (cs:List Value) (off:Nat) (vs:List Value):List Value:=cs.take off++vs++cs.drop (off+vs.length)
def jk (h:ae) (b off:Nat) (vs:List Value):Option ae:=
 match h.tr.get b with
 |some (.aA cs false o _)=>
  if Nat.ble (off+vs.length) cs.length then some { h with clock:=h.clock+1,tr:=h.tr.set b (.aA (aK cs off vs) false o h.clock) } else none
 |_=>none
def cellsOf:Value→List Value
 | .agg cs=>cs.toList
 |v=>[v]
def plain:Value→Bool
 | .agg _=>false
 | .tuple _=>false
 | .chan _=>false
 |_=>true
def simple:Value→Bool
 | .agg _=>false
 | .tuple _=>false
 | .chan _=>false
 | .func _ _ _=>false
 |_=>true
def flat (v:Value):Option (List Value):=bif (cellsOf v).all plain then some (cellsOf v) else none
def pz (e:Env):List Value→List (Nat×Nat×Operand)→Option (List Value)
 |cs,[]=>some cs
 |cs,(off,n,x)::r=>match flat (ev e x) with
  |some vs=>if Nat.beq vs.length n&&Nat.ble (off+n) cs.length then pz e (aK cs off vs) r else none
  |none=>none
def gI (z:List Value):Nat→List Value
 |0=>[]
 |n+1=>z++gI z n
def eu (k:Nat) (a b:Value):Option Bool:=
 match k,a,b with
 |0,.bool a,.bool b=>some (a==b)
 |1,.int k a,.int k' b=>if k=k' then some (a==b) else none
 |2,.string a,.string b=>some (a==b)
 |_,_,_=>none
def bp:List Nat→List Value→List Value→Option Bool
 |[],[],[]=>some true
 |k::ks,a::as',b::bs=>match eu k a b,bp ks as' bs with
  |some x,some y=>some (x&&y)
  |_,_=>none
 |_,_,_=>none
def nz (ks:List Nat) (a b:Value):Option Bool:=
 match a,b with
 | .agg a,.agg b=>match ks with
  |9::ks=>bp ks a.toList b.toList
  |_=>none
 |a,b=>match ks with
  |[3]=>match a,b with
   | .slice none _ _,.slice b _ _=>some b.isNone
   | .slice (some _) _ _,.slice none _ _=>some false
   |_,_=>none
  |[4]=>match a,b with
   | .pointer none,.pointer b=>some b.isNone
   | .pointer (some _),.pointer none=>some false
   |_,_=>none
  |[5]=>match a,b with
   | .map none,.map b=>some b.isNone
   | .map (some _),.map none=>some false
   |_,_=>none
  |[6]=>match a,b with
   | .nilFunc,.nilFunc=>some true
   | .nilFunc,.func _ _ _=>some false
   | .func _ _ _,.nilFunc=>some false
   |_,_=>none
  |[k]=>eu k a b
  |_=>none
def ew (op:BinOp) (k:IntKind) (a b:Int):Option Value:=
 match op with
 | .add=>some (.int k (k.wrap (a+b)))
 | .sub=>some (.int k (k.wrap (a-b)))
 | .mul=>some (.int k (k.wrap (a*b)))
 | .quo=>if b=0 then none else some (.int k (k.wrap (a.tdiv b)))
 | .rem=>if b=0 then none else some (.int k (a.tmod b))
 | .and=>some (.int k (k.wrap (BitVec.ofInt k.bits a &&& BitVec.ofInt k.bits b).toNat))
 | .or=>some (.int k (k.wrap (BitVec.ofInt k.bits a ||| BitVec.ofInt k.bits b).toNat))
 | .xor=>some (.int k (k.wrap (BitVec.ofInt k.bits a ^^^ BitVec.ofInt k.bits b).toNat))
 | .andNot=>some (.int k (k.wrap (BitVec.ofInt k.bits a &&& ~~~(BitVec.ofInt k.bits b)).toNat))
 | .eql=>some (.bool (a==b))
 | .neq=>some (.bool (a !=b))
 | .lss=>some (.bool (a<b))
 | .leq=>some (.bool (a≤b))
 | .gtr=>some (.bool (a>b))
 | .geq=>some (.bool (a≥b))
 |_=>none
def gQ (op:BinOp) (k:IntKind) (a b:Int):Option Value:=
 if b<0 then none else
 match op with
 | .shl=>some (.int k (k.wrap (a*2^(min b.toNat k.bits))))
 | .shr=>some (.int k (a.fdiv (2^(min b.toNat k.bits))))
 |_=>none
def J3 (op:BinOp) (n:List Nat) (x y:Value):Option Value:=
 match op with
 | .shl=>match x,y with| .int k a,.int _ b=>gQ .shl k a b|_,_=>none
 | .shr=>match x,y with| .int k a,.int _ b=>gQ .shr k a b|_,_=>none
 | .eql=>match x,y with
  | .int k a,.int k' b=>if k=k' then ew .eql k a b else none
  |x,y=>match nz n x y with|some b=>some (.bool b)|none=>none
 | .neq=>match x,y with
  | .int k a,.int k' b=>if k=k' then ew .neq k a b else none
  |x,y=>match nz n x y with|some b=>some (.bool (!b))|none=>none
 | .gtr=>match x,y with
  | .int k a,.int k' b=>if k=k' then ew .gtr k a b else none
  | .int .i64 a,.chan (some c)=>if a≤(c:Int) then some (.bool false) else none
  |_,_=>none
 |op=>match x,y with| .int k a,.int k' b=>if k=k' then ew op k a b else none|_,_=>none
def Pl (op:UnOp) (x:Value):Option Value:=
 match op,x with
 | .neg,.int k n=>some (.int k (k.wrap (0-n)))
 | .xor,.int k n=>some (.int k (k.wrap (BitVec.ofInt k.bits (if k.signed then-1 else k.max) ^^^ BitVec.ofInt k.bits n).toNat))
 | .not,.bool b=>some (.bool !b)
 |_,_=>none
def bound (e:Env) (x:Option Operand) (dflt top:Nat):Option Nat:=
 match x with
 |none=>some dflt
 |some x=>match ev e x with
  | .int _ (.ofNat i)=>if Nat.ble i top then some i else none
  |_=>none
def roomy (bytes:Nat):Bool:=Nat.ble bytes 1099511627776
def news (h:ae) (z:List Value) (zeros:Bool) (x:Value):Option (Nat×List Value):=
 match zeros,x with
 |true,.int _ (.ofNat n)=>if roomy n then some (n,gI z n) else none
 |false,.slice none n _=>if Nat.beq n 0 then some (0,[]) else none
 |false,.slice (some ⟨b,off,none⟩) n _=>if Nat.beq n 0 then some (0,[]) else match aT h b off (n*z.length) with
  |some cs=>some (n,cs)
  |none=>none
 |_,_=>none
def ff (h:ae) (z:List Value) (bytes:Nat) (s:Value) (n:Nat) (cs:List Value):Option (Value×ae):=
 match s with
 | .slice a len cap=>
  if Nat.blt 0 z.length then
  if Nat.beq n 0 then(if Nat.ble len cap then some (.slice a len cap,h) else none) else
  if roomy (len+n)&&roomy ((len+n)*bytes) then
   match a with
   |none=>if Nat.beq len 0&&Nat.beq cap 0 then some (.slice (some ⟨h.next,0,none⟩) n n,aH h cs z.length) else none
   |some ⟨b,off,none⟩=>
    match h.tr.get b with
    |some (.aA bl false o _)=>
     if Nat.ble (len+n) cap then
      match jk h b (off+len*z.length) cs with
      |some h'=>some (.slice (some ⟨b,off,none⟩) (len+n) cap,h')
      |none=>none
     else
      let r:=(bl.drop off).take (len*z.length)
      if Nat.beq r.length (len*z.length) then
       if Nat.beq o 0|| !(Nat.beq (off+cap*o) bl.length) then
        some (.slice (some ⟨h.next,0,none⟩) (len+n) (len+n),aH h (r++cs) z.length)
       else if Nat.beq o z.length then
        some (.slice (some ⟨h.next,0,none⟩) (len+n) (len+n),aH { h with tr:=h.tr.del b } (r++cs) z.length)
       else none
      else none
    |_=>none
   |_=>none
  else none
  else none
 |_=>none
def pq (n:List Nat) (k:Value):List (Value×Value)→Option (Option Value)
 |[]=>some none
 |(k',v)::r=>match nz n k k' with
  |some true=>some (some v)
  |some false=>pq n k r
  |none=>none
def FG:Value→Bool
 | .agg cs=>cs.toList.all plain
 |k=>plain k
def sg:List Nat→Value→Bool
 |9::ks,.agg cs=>Nat.beq cs.toList.length ks.length
 |9::_,_=>false
 |_,_=>true
def pY (n:List Nat) (k v:Value):List (Value×Value)→Option (List (Value×Value))
 |[]=>if FG k&&plain v then some [(k,v)] else none
 |(k',v')::r=>match nz n k k' with
  |some true=>if FG k&&plain v then some ((k,v)::r) else none
  |some false=>match pY n k v r with|some r'=>some ((k',v')::r')|none=>none
  |none=>none
def pP (e:Env) (l:List Operand):List Value:=l.map (ev e)
def aZ (e:Env) (h:ae):ia→Option (Value×ae)
 | .mv x=>some (ev e x,h)
 | .pick c a b=>match ev e c with
  | .bool true=>some (ev e a,h)
  | .bool false=>some (ev e b,h)
  |_=>none
 | .alloc z=>some (.pointer (some ⟨h.next,0,none⟩),aH h z 0)
 | .box x=>match flat (ev e x) with
  |some vs=>some (.pointer (some ⟨h.next,0,none⟩),aH h vs 0)
  |none=>none
 | .build z parts=>match pz e z parts with
  |some cs=>some (.agg ⟨cs⟩,h)
  |none=>none
 | .ct n z parts=>match pz e z parts with
  |some cs=>some (.slice (some ⟨h.next,0,none⟩) n n,aH h cs 0)
  |none=>none
 | .load n a=>match ev e a with
  | .pointer (some ⟨b,off,none⟩)=>match aT h b off (width n) with
   |some cs=>match agg n cs with|some v=>some (v,h)|none=>none
   |none=>none
  |_=>none
 | .store n a v=>match ev e a with
  | .pointer (some ⟨b,off,none⟩)=>match flat (ev e v) with
   |some vs=>if Nat.beq vs.length n then match jk h b off vs with
     |some h'=>some (.tuple #[],h')
     |none=>none
    else none
   |none=>none
  |_=>none
 | .bj x=>match ev e x with
  | .pointer (some a)=>some (.pointer (some a),h)
  |_=>none
 | .bin op n x y=>match J3 op n (ev e x) (ev e y) with
  |some v=>some (v,h)
  |none=>none
 | .un op x=>match Pl op (ev e x) with
  |some v=>some (v,h)
  |none=>none
 | .conv k x=>match ev e x with
  | .int _ n=>some (.int k (k.wrap n),h)
  |_=>none
 | .mH f caps=>bif (pP e caps).all simple then some (.func (.func f) #[] ⟨pP e caps⟩,h) else none
 | .A_=>some (.map (some h.next),h.new (.map []))
 | .fB z bytes len cap=>match ev e len,ev e cap with
  | .int .i64 (.ofNat l),.int .i64 (.ofNat c)=>
   if Nat.ble l c&&roomy (c*bytes)&&Nat.blt 0 z.length&&roomy c then some (.slice (some ⟨h.next,0,none⟩) l c,aH h (gI z c) 0) else none
  |_,_=>none
 | .slice size x lo hi mx=>match ev e x with
  | .slice a len cap=>
   match bound e mx cap cap with
   |none=>none
   |some m=>match bound e hi len m with
    |none=>none
    |some hh=>match bound e lo 0 hh with
     |none=>none
     |some l=>match a with
      |none=>some (.slice none (hh-l) (m-l),h)
      |some ⟨b,off,none⟩=>match h.tr.get b with
       |some (.aA _ _ o _)=>bif Nat.beq o 0||Nat.beq o size then some (.slice (some ⟨b,off+l*size,none⟩) (hh-l) (m-l),h) else none
       |_=>none
      |_=>none
  |_=>none
 | .bw off x=>match ev e x with
  | .pointer (some ⟨b,o,none⟩)=>some (.pointer (some ⟨b,o+off,none⟩),h)
  |_=>none
 | .cw arr size x i=>match ev e i with
  | .int _ (.ofNat i)=>match arr,ev e x with
   |some n,.pointer (some ⟨b,o,none⟩)=>if Nat.blt i n then some (.pointer (some ⟨b,o+i*size,none⟩),h) else none
   |none,.slice (some ⟨b,o,none⟩) len _=>if Nat.blt i len then some (.pointer (some ⟨b,o+i*size,none⟩),h) else none
   |_,_=>none
  |_=>none
 | .field off n x=>match ev e x with
  | .agg cs=>match agg n ((cs.toList.drop off).take (width n)) with
   |some v=>some (v,h)
   |none=>none
  |_=>none
 | .index arr x i=>match ev e i with
  | .int _ (.ofNat i)=>match arr,ev e x with
   |some (len,size,n),.agg cs=>if Nat.blt i len then match agg n ((cs.toList.drop (i*size)).take (width n)) with
     |some v=>some (v,h)
     |none=>none
    else none
   |none,.string s=>match s[i]? with
    |some b=>some (.int .u8 b.toNat,h)
    |none=>none
   |_,_=>none
  |_=>none
 | .look n z ok x i=>bif sg n (ev e i) then
  let r:=match ev e x with
   | .map none=>some none
   | .map (some r)=>match h.tr.get r with
    |some (.map es)=>pq n (ev e i) es
    |_=>none
   |_=>none
  match r with
  |none=>none
  |some none=>some (if ok then .tuple #[z,.bool false] else z,h)
  |some (some v)=>some (if ok then .tuple #[v,.bool true] else v,h)
  else none
 | .Bn n m k v=>bif sg n (ev e k) then match ev e m with
  | .map (some r)=>match h.tr.get r with
   |some (.map es)=>match pY n (ev e k) (ev e v) es with
    |some es'=>some (.tuple #[],{ h with clock:=h.clock+1,tr:=h.tr.set r (.map es') })
    |none=>none
   |_=>none
  |_=>none
  else none
 | .vZ x=>match ev e x with
  | .map none=>some (.pointer (some ⟨h.next,0,none⟩),h.new .Mz)
  |_=>none
 | .ND x=>match ev e x with
  | .pointer (some ⟨b,0,none⟩)=>match h.tr.get b with
   |some .Mz=>some (.tuple #[.bool false],h)
   |_=>none
  |_=>none
 | .ext i x=>match ev e x with
  | .tuple vs=>match vs.toList[i]? with
   |some v=>some (v,h)
   |none=>none
  |_=>none
 | .nx x=>match ev e x with
  | .slice _ n _=>some (.int .i64 n,h)
  |_=>none
 | .Cd x=>match ev e x with
  | .string s=>some (.int .i64 s.size,h)
  |_=>none
 | .append z bytes zeros s x=>match news h z zeros (ev e x) with
  |some (n,cs)=>ff h z bytes (ev e s) n cs
  |none=>none
 | .copy size d s=>match ev e d,ev e s with
  | .slice da dn _,.slice sa sn _=>
   let n:=Nat.min sn dn
   if Nat.beq n 0 then some (.int .i64 0,h) else
   match da,sa with
   |some ⟨db,doff,none⟩,some ⟨sb,soff,none⟩=>match aT h sb soff (n*size) with
    |some cs=>match jk h db doff cs with
     |some h'=>some (.int .i64 n,h')
     |none=>none
    |none=>none
   |_,_=>none
  |_,_=>none
 | .clear z x=>match ev e x with
  | .slice a n _=>if Nat.beq n 0 then some (.tuple #[],h) else match a with
   |some ⟨b,off,none⟩=>match jk h b off (gI z n) with
    |some h'=>some (.tuple #[],h')
    |none=>none
   |_=>none
  |_=>none
 | .Fx x y=>match ev e x,ev e y with
  | .int k a,.int k' b=>if k=k' then some (.int k (if b<a then b else a),h) else none
  |_,_=>none
 | .FV x=>match ev e x with
  | .slice none _ c=>some (.int .i64 c,h)
  | .slice (some ⟨b,_,none⟩) _ c=>match h.tr.get b with
   |some (.aA _ _ o _)=>if Nat.beq o 0 then some (.int .i64 c,h) else some (.chan (some c),h)
   |_=>none
  |_=>none
 | .call _ _=>none
 | .bad=>none
abbrev R:=Option (aO×Env×ae)
def params:Env→Nat→List Value→Env
 |e,_,[]=>e
 |e,i,v::r=>params (Tr.set e i v) (i+1) r
def results (e:Env) (h:ae):List zA→Option (List Value)
 |[]=>some []
 | .tmp t::r=>match results e h r with|some l=>some (Env.get e t::l)|none=>none
 | .cell a n::r=>match Env.get e a with
  | .pointer (some ⟨b,off,none⟩)=>match aT h b off (width n) with
   |some cs=>match agg n cs with
    |some v=>match results e h r with|some l=>some (v::l)|none=>none
    |none=>none
   |none=>none
  |_=>none
def tj:Value→Bool
 | .tuple _=>false
 | .chan _=>false
 |_=>true
def result:List Value→Value
 |[v]=>v
 |l=> .tuple ⟨l⟩
def fW:List Value→Bool
 |[_]=>true
 |l=>l.all tj
def fH:Env→List Nat→List Value→Option Env
 |e,[],[]=>some e
 |e,t::ts,v::vs=>fH (Tr.set e t v) ts vs
 |_,_,_=>none
def Hu:List Value→ae→Option (Value×ae)
 |[.slice (some ⟨a,_,none⟩) la _,.slice (some ⟨b,_,none⟩) lb _],h=>
  match h.tr.get a,h.tr.get b with
  |some (.aA _ false _ _),some (.aA _ false _ _)=>bif Nat.beq la 0||Nat.beq lb 0|| !(Nat.beq a b) then some (.bool false,h) else none
  |_,_=>none
 |_,_=>none
section
variable (F:Nat→Option bA) (ih:aj→Env→ae→R)
def lK (o:Bool) (f:Nat) (args:List Value) (h:ae):Option (Value×ae):=
 match F f with
 |none=>none
 |some fn=>match fn.wF with
  | .FN=>bif o then Hu args h else none
  | .run p _=>p args h
  | .no=>match ih fn.body (params .nil 0 args) h with
   |some (.normal,e',h')|some (.ret,e',h')=>match results e' h' fn.res with
    |some vs=>bif fW vs then some (result vs,h') else none
    |none=>none
   |_=>none
abbrev pb (f:Nat) (args:List Value) (h:ae):Option (Value×ae):=lK F ih false f args h
def eL (h:ae) (l:Nat) (env:Env) (ps:List Nat) (asg body:aj) (st:IG):ae:= { h with tr:=h.tr.set l (.loop env ps asg body st) }
def kM (l:Nat) (h:ae) (st:IG) (v:Bool):Option (Value×ae):=
 match h.tr.get l with
 |some (.loop env ps asg body .busy)=>some (.bool v,eL h l env ps asg body st)
 |_=>none
def uT (l:Nat) (code:aj) (e:Env) (h:ae):Option (Value×ae):=
 match h.tr.get l with
 |some (.loop env ps asg body .ready)=>
  match ih code e (eL h l env ps asg body .busy) with
  |some (.normal,_,h)=>kM l h .ready true
  |some (.ret,_,h)=>kM l h (.done none) false
  |some (.exit id,_,h)=>kM l h (.done (some id)) false
  |none=>none
 |_=>none
def qi (l:Nat) (args:List Value) (h:ae):Option (Value×ae):=
 match h.tr.get l with
 |some (.loop env ps asg body .ready)=>
  match fH env ps args with
  |none=>none
  |some e=>match ih asg e h with
   |some (.normal,e,h)=>uT ih l body e h
   |_=>none
 |_=>none
def cm (fv:Value) (args:List Value) (h:ae):Option (Value×ae):=
 match fv with
 | .func (.func f) first caps=>lK F ih true f (first.toList++args++caps.toList) h
 | .func (.yield l) _ _=>qi ih l args h
 |_=>none
def wanted (e:Env):Option (Nat×Bool)→Bool
 |none=>true
 |some (t,b)=>match Env.get e t with
  | .bool c=>c==b
  |_=>false
def cn (o:aV) (e:Env) (h:ae):Option (Env×ae):=
 bif wanted e o.guard then
  match o.op with
  | .call f args=>match cm F ih (ev e f) (pP e args) h with
   |some (v,h')=>some (dW e o.dst v,h')
   |none=>none
  |op=>match aZ e h op with
   |some (v,h')=>some (dW e o.dst v,h')
   |none=>none
 else some (dW e o.dst (.tuple #[]),h)
def tA:List aV→Env→ae→Option (Env×ae)
 |[],e,h=>some (e,h)
 |o::r,e,h=>match cn F ih o e h with
  |some (e,h)=>tA r e h
  |none=>none
def still (e:Env) (h:ae) (clock:Nat):List Nat→Bool
 |[]=>true
 |t::r=>match Env.get e t with
  | .pointer (some ⟨b,_,none⟩)=>match h.tr.get b with
   |some (.aA _ _ _ s)=>Nat.ble s clock&&still e h clock r
   |_=>false
  | .slice (some ⟨b,_,none⟩) _ _=>match h.tr.get b with
   |some (.aA _ _ _ s)=>Nat.ble s clock&&still e h clock r
   |_=>false
  | .map (some b)=>match h.tr.get b with
   |some (.map [])=>still e h clock r
   |_=>false
  | .map none=>still e h clock r
  | .tuple _=>still e h clock r
  | .pointer none=>still e h clock r
  | .slice none _ _=>still e h clock r
  |_=>false
def kx (clock:Nat):List (aV×List Nat)→Env→ae→Option (Env×ae)
 |[],e,h=>some (e,h)
 |(o,chk)::r,e,h=>match cn F ih o e h with
  |some (e,h)=>bif still e h clock chk then kx clock r e h else none
  |none=>none
def bK:aj→Env→ae→R
 | .skip,e,h=>some (.normal,e,h)
 | .ops l,e,h=>match tA F ih l e h with
  |some (e,h)=>some (.normal,e,h)
  |none=>none
 | .draw l,e,h=>match kx F ih h.clock l e { h with clock:=h.clock+1 } with
  |some (e,h)=>some (.normal,e,h)
  |none=>none
 | .seq a b,e,h=>match ih a e h with
  |some (.normal,e,h)=>ih b e h
  |r=>r
 | .cond c a b,e,h=>match ev e c with
  | .bool true=>ih a e h
  | .bool false=>ih b e h
  |_=>none
 | .block id c,e,h=>match ih c e h with
  |some (.exit i,e,h)=>bif Nat.beq i id then some (.normal,e,h) else some (.exit i,e,h)
  |r=>r
 | .loop c,e,h=>match ih c e h with
  |some (.normal,e,h)=>ih (.loop c) e h
  |r=>r
 | .exit id,e,h=>some (.exit id,e,h)
 | .ret,e,h=>some (.ret,e,h)
 | .AM f ps asg body,e,h=>match ev e f with
  | .func (.func g) first caps=>match pb F ih g (first.toList++[.func (.yield h.next) #[] #[]]++caps.toList) (h.new (.loop e ps asg body .ready)) with
   |some (_,h')=>match h'.tr.get h.next with
    |some (.loop _ _ _ _ .ready)=>some (.normal,e,{ h' with tr:=h'.tr.del h.next })
    |some (.loop _ _ _ _ (.done none))=>some (.ret,e,{ h' with tr:=h'.tr.del h.next })
    |some (.loop _ _ _ _ (.done (some id)))=>some (.exit id,e,{ h' with tr:=h'.tr.del h.next })
    |_=>none
   |none=>none
  |_=>none
 | .bad,_,_=>none
end
def run (F:Nat→Option bA):Nat→aj→Env→ae→R:=
 Nat.rec (fun _ _ _=>none) (fun _ ih=>bK F ih)
def call (F:Nat→Option bA) (fuel f:Nat) (args:List Value) (h:ae):Option (Value×ae):=pb F (run F fuel) f args h
section
variable {F:Nat→Option bA} {ih:aj→Env→ae→R}
theorem zf {f:Nat} {args:List Value} {h h':ae} {v:Value} (hc:lK F ih true f args h=some (v,h')):
  lK F ih false f args h=some (v,h')∨ ∃fn,F f=some fn∧fn.wF= .FN∧Hu args h=some (v,h'):=by
 unfold lK at hc ⊢
 cases hf:F f with
 |none=>rw[hf] at hc;cases hc
 |some fn=>
  rw[hf] at hc
  dsimp only at hc ⊢
  cases hp:fn.wF with
  |FN=>rw[hp] at hc;exact .inr ⟨fn,rfl,hp,hc⟩
  |run p k=>rw[hp] at hc;exact .inl hc
  |no=>rw[hp] at hc;exact .inl hc
theorem r8 {f:Nat} {args:List Value} {h h':ae} {v:Value} (hc:lK F ih false f args h=some (v,h')):lK F ih true f args h=some (v,h'):=by
 unfold lK at hc ⊢
 cases hf:F f with
 |none=>rw[hf] at hc;cases hc
 |some fn=>
  rw[hf] at hc
  dsimp only at hc ⊢
  cases hp:fn.wF with
  |FN=>rw[hp] at hc;cases hc
  |run p k=>rw[hp] at hc;exact hc
  |no=>rw[hp] at hc;exact hc
theorem Ak {args:List Value} {h h':ae} {v:Value} (hc:Hu args h=some (v,h')):v= .bool false∧h'=h∧
  ∃a oa la ca b ob lb cb csa o1 s1 csb o2 s2,args=[.slice (some ⟨a,oa,none⟩) la ca,.slice (some ⟨b,ob,none⟩) lb cb]∧h.tr.get a=some (.aA csa false o1 s1)∧h.tr.get b=some (.aA csb false o2 s2)∧(la=0∨lb=0∨a≠b):=by
 unfold Hu at hc
 split at hc
 ·rename_i a oa la ca b ob lb cb
  split at hc
  ·rename_i c1 o1 s1 c2 o2 s2 h1 h2
   cases hb:(Nat.beq la 0||Nat.beq lb 0|| !(Nat.beq a b)) with
   |false=>rw[hb] at hc;cases hc
   |true=>
    rw[hb] at hc
    cases hc
    refine⟨rfl,rfl,a,oa,la,ca,b,ob,lb,cb,_,_,_,_,_,_,rfl,h1,h2,?_⟩
    simp only[Bool.or_eq_true,Bool.not_eq_true'] at hb
    rcases hb with(h|h)|h
    ·exact .inl (Nat.eq_of_beq_eq_true h)
    ·exact .inr (.inl (Nat.eq_of_beq_eq_true h))
    ·exact .inr (.inr fun e=>by rw[e,Nat.beq_refl] at h;cases h)
  ·cases hc
 ·cases hc
end
end Go.AI
namespace Go.AI
theorem aQ {α:Type} {l:List α} {i:Nat} (h:i<l.length):l[i]? =some l[i]:=List.getElem?_eq_getElem h
theorem bY {α:Type} {l:List α} {i:Nat} {a:α} :l[i]? =some a↔ ∃h:i<l.length,l[i]=a:=List.getElem?_eq_some_iff
theorem di {α:Type} {l:List α} {i:Nat} {a:α} (h:l[i]? =some a):a∈l:=List.mem_of_getElem? h
theorem pM {α:Type} {l:List α} {a:α} (h:a∈l): ∃i:Nat,l[i]? =some a:=List.getElem?_of_mem h
@[simp] def t_ (n:Nat):Operand:= .tmp n
@[simp] def i_ (n:Int):Operand:= .const (.int .i64 n)
@[simp] def o_ (d:Nat) (x:ia):aV:=⟨some d,none,x⟩
@[simp] def u_ (x:ia):aV:=⟨none,none,x⟩
@[simp] def q_ (d c:Nat) (b:Bool) (x:ia):aV:=⟨some d,some (c,b),x⟩
@[simp] def m_ (d s:Nat):aV:=⟨some d,none,.mv (.tmp s)⟩
@[simp] def k_ (d:Nat) (n:Int):aV:=⟨some d,none,.mv (.const (.int .i64 n))⟩
@[simp] def l_ (d a:Nat):aV:=⟨some d,none,.load none (.tmp a)⟩
@[simp] def L_ (d n a:Nat):aV:=⟨some d,none,.load (some n) (.tmp a)⟩
@[simp] def f_ (d k a:Nat):aV:=⟨some d,none,.bw k (.tmp a)⟩
@[simp] def a_ (d k x i:Nat):aV:=⟨some d,none,.cw none k (.tmp x) (.tmp i)⟩
@[simp] def s_ (n a v:Nat):aV:=⟨none,none,.store n (.tmp a) (.tmp v)⟩
@[simp] def z_ (d x:Nat):aV:=⟨some d,none,.nx (.tmp x)⟩
@[simp] def B_ (d:Nat) (op:BinOp) (x y:Nat):aV:=⟨some d,none,.bin op [] (.tmp x) (.tmp y)⟩
@[simp] def C_ (d:Nat) (op:BinOp) (x:Nat) (n:Int):aV:=⟨some d,none,.bin op [] (.tmp x) (.const (.int .i64 n))⟩
@[simp] def F_ (d f:Nat) (l:List Operand):aV:=⟨some d,none,.call (.func f) l⟩
@[simp] def x_ (d x:Nat):aV:=⟨some d,none,.box (.tmp x)⟩
@[simp] def D_ (x:aV):aV×List Nat:=(x,[])
namespace Tr
variable {α:Type}
theorem GA (x:Option α): ∀(f:Nat) (t:Tr α) (k j:Nat),k<f→(put f t k x).get j=if j=k then x else t.get j:=by
 intro f
 induction f with
 |zero=>intro t k j h;omega
 |succ f ih=>
  intro t k j h
  cases t with
  |nil=>
   cases k with
   |zero=>cases j with
    |zero=>simp[put,get]
    |succ j=>simp[put,get]
   |succ k=>
    have hk:k/2<f:=by omega
    cases j with
    |zero=>
     have: ¬(0=k+1):=by omega
     unfold put;dsimp only
     cases hb:Nat.beq (k%2) 0<;>simp[get]
    |succ j=>
     unfold put;dsimp only
     cases hb:Nat.beq (k%2) 0<;>cases hj:Nat.beq (j%2) 0<;>simp only[get,hj,cond_true,cond_false,ih _ _ _ hk]
     ·have h1:k%2≠0:=by intro h;rw[h] at hb;cases hb
      have h2:j%2≠0:=by intro h;rw[h] at hj;cases hj
      by_cases e:j=k
      ·subst e;simp
      ·have:j/2≠k/2:=by omega
       simp[e,this]
     ·have h1:k%2≠0:=by intro h;rw[h] at hb;cases hb
      have h2:=Nat.eq_of_beq_eq_true hj
      have:j≠k:=by rintro rfl;omega
      simp[this]
     ·have h1:=Nat.eq_of_beq_eq_true hb
      have h2:j%2≠0:=by intro h;rw[h] at hj;cases hj
      have:j≠k:=by rintro rfl;omega
      simp[this]
     ·have h1:=Nat.eq_of_beq_eq_true hb
      have h2:=Nat.eq_of_beq_eq_true hj
      by_cases e:j=k
      ·subst e;simp
      ·have:j/2≠k/2:=by omega
       simp[e,this]
  |node v l r=>
   cases k with
   |zero=>cases j with
    |zero=>simp[put,get]
    |succ j=>simp[put,get]
   |succ k=>
    have hk:k/2<f:=by omega
    cases j with
    |zero=>
     unfold put;dsimp only
     cases hb:Nat.beq (k%2) 0<;>simp[get]
    |succ j=>
     unfold put;dsimp only
     cases hb:Nat.beq (k%2) 0<;>cases hj:Nat.beq (j%2) 0<;>simp only[get,hj,cond_true,cond_false,ih _ _ _ hk]
     ·have h1:k%2≠0:=by intro h;rw[h] at hb;cases hb
      have h2:j%2≠0:=by intro h;rw[h] at hj;cases hj
      by_cases e:j=k
      ·subst e;simp
      ·have:j/2≠k/2:=by omega
       simp[e,this]
     ·have h1:k%2≠0:=by intro h;rw[h] at hb;cases hb
      have h2:=Nat.eq_of_beq_eq_true hj
      have:j≠k:=by rintro rfl;omega
      simp[this]
     ·have h1:=Nat.eq_of_beq_eq_true hb
      have h2:j%2≠0:=by intro h;rw[h] at hj;cases hj
      have:j≠k:=by rintro rfl;omega
      simp[this]
     ·have h1:=Nat.eq_of_beq_eq_true hb
      have h2:=Nat.eq_of_beq_eq_true hj
      by_cases e:j=k
      ·subst e;simp
      ·have:j/2≠k/2:=by omega
       simp[e,this]
theorem aN (t:Tr α) (k j:Nat) (x:α):(t.set k x).get j=if j=k then some x else t.get j:=GA (some x) _ t k j (by omega)
theorem ke (t:Tr α) (k j:Nat):(t.del k).get j=if j=k then none else t.get j:=GA none _ t k j (by omega)
end Tr
theorem Env.aN (e:Env) (k j:Nat) (v:Value):Env.get (Tr.set e k v) j=if j=k then v else Env.get e j:=by
 unfold Env.get
 rw[Tr.aN]
 split<;>rfl
inductive All2 {α β:Type} (R:α→β→Prop):List α→List β→Prop
 |nil:All2 R [] []
 |cons {a b as' bs} (h:R a b) (hs:All2 R as' bs):All2 R (a::as') (b::bs)
namespace All2
variable {α β:Type} {R S:α→β→Prop}
theorem length {l:List α} {m:List β} (h:All2 R l m):l.length=m.length:=by
 induction h with
 |nil=>rfl
 |cons _ _ ih=>simp[ih]
theorem mono {l:List α} {m:List β} (hm: ∀a b,R a b→S a b) (h:All2 R l m):All2 S l m:=by
 induction h with
 |nil=>exact .nil
 |cons h _ ih=>exact .cons (hm _ _ h) ih
theorem app {l l':List α} {m m':List β} (h:All2 R l m) (h':All2 R l' m'):All2 R (l++l') (m++m'):=by
 induction h with
 |nil=>exact h'
 |cons h _ ih=>exact .cons h ih
theorem take {l:List α} {m:List β} (h:All2 R l m): ∀n,All2 R (l.take n) (m.take n):=by
 induction h with
 |nil=>intro n;simpa using .nil
 |cons h _ ih=>intro n;cases n with
  |zero=>simpa using .nil
  |succ n=>simpa using .cons h (ih n)
theorem drop {l:List α} {m:List β} (h:All2 R l m): ∀n,All2 R (l.drop n) (m.drop n):=by
 induction h with
 |nil=>intro n;simpa using .nil
 |cons h hs ih=>intro n;cases n with
  |zero=>simpa using .cons h hs
  |succ n=>simpa using ih n
theorem get {l:List α} {m:List β} (h:All2 R l m): ∀ {i:Nat} {a:α},l[i]? =some a→ ∃b,m[i]? =some b∧R a b:=by
 induction h with
 |nil=>intro i a h;simp at h
 |cons h _ ih=>
  intro i a hi
  cases i with
  |zero=>simp at hi;subst hi;exact⟨_,rfl,h⟩
  |succ i=>simp at hi;simpa using ih hi
theorem MI {l:List α} : ∀ {m:List β},l.length=m.length→(∀(i:Nat) (a:α) (b:β),l[i]? =some a→m[i]? =some b→R a b)→All2 R l m:=by
 induction l with
 |nil=>intro m h _;cases m with
  |nil=>exact .nil
  |cons=>simp at h
 |cons a l ih=>intro m h hg;cases m with
  |nil=>simp at h
  |cons b m=>exact .cons (hg 0 a b rfl rfl) (ih (by simpa using h) fun i x y hx hy=>hg (i+1) x y (by simpa using hx) (by simpa using hy))
end All2
structure uD where
 aA:Nat
 base:Nat
 len:Nat
 yW:Nat
 room:Nat
abbrev dp:=Nat→Option uD
def oK (r:uD) (o len cap:Nat) (ca:Addr) (ccap:Nat):Prop:=
 (ca=⟨r.aA,r.base+o,none⟩∨(ccap=0∧cap=0))∧(ccap=cap∨(r.yW≠0∧cap≤ccap∧o+cap*r.yW=r.len∧o+ccap*r.yW≤r.room))∧len≤cap
inductive CR (ρ:dp):Value→Value→Prop
 |bool (b:Bool):CR ρ (.bool b) (.bool b)
 |int (k:IntKind) (n:Int):CR ρ (.int k n) (.int k n)
 |str (s:ByteArray):CR ρ (.string s) (.string s)
 |ze:CR ρ (.pointer none) (.pointer none)
 |ptr {b o:Nat} {r:uD} (h:ρ b=some r):CR ρ (.pointer (some ⟨b,o,none⟩)) (.pointer (some ⟨r.aA,r.base+o,none⟩))
 |lZ (n c:Nat):CR ρ (.slice none n c) (.slice none n c)
 |slice {b o len cap ccap:Nat} {ca:Addr} {r:uD} (h:ρ b=some r) (hs:oK r o len cap ca ccap):CR ρ (.slice (some ⟨b,o,none⟩) len cap) (.slice (some ca) len ccap)
 |uq:CR ρ (.map none) (.map none)
 |map {m:Nat} {r:uD} (h:ρ m=some r):CR ρ (.map (some m)) (.map (some r.aA))
 |vE:CR ρ .nilFunc .nilFunc
 |rR:CR ρ .nilIface .nilIface
inductive KR (ρ:dp):Value→Value→Prop
 |cell {v c:Value} (h:CR ρ v c):KR ρ v c
 |fn (f:FuncId) {l m:List Value} (h:All2 (CR ρ) l m):KR ρ (.func (.func f) #[] ⟨l⟩) (.func (.func f) #[] ⟨m⟩)
 |yield {l:Nat} {r:uD} (h:ρ l=some r):KR ρ (.func (.yield l) #[] #[]) (.func (.yield r.aA) #[] #[])
inductive AR (ρ:dp):Value→Value→Prop
 |cell {v c:Value} (h:KR ρ v c):AR ρ v c
 |agg {l m:List Value} (h:All2 (KR ρ) l m):AR ρ (.agg ⟨l⟩) (.agg ⟨m⟩)
inductive VR (ρ:dp):Value→Value→Prop
 |val {v c:Value} (h:AR ρ v c):VR ρ v c
 |tuple {l m:List Value} (h:All2 (AR ρ) l m):VR ρ (.tuple ⟨l⟩) (.tuple ⟨m⟩)
 |Mi {n m:Nat} (h:n≤m):VR ρ (.chan (some n)) (.int .i64 m)
def dp.le (ρ ρ':dp):Prop:= ∀b r,ρ b=some r→ρ' b=some r
theorem dp.le_refl (ρ:dp):ρ.le ρ:=fun _ _ h=>h
theorem dp.le_trans {a b c:dp} (h:a.le b) (h':b.le c):a.le c:=fun _ _ x=>h' _ _ (h _ _ x)
section
variable {ρ ρ':dp} {v c:Value}
theorem CR.mono (hl:ρ.le ρ') (h:CR ρ v c):CR ρ' v c:=by
 cases h with
 |bool b=>exact .bool b
 |int k n=>exact .int k n
 |str s=>exact .str s
 |ze=>exact .ze
 |ptr h=>exact .ptr (hl _ _ h)
 |lZ n c=>exact .lZ n c
 |slice h hs=>exact .slice (hl _ _ h) hs
 |uq=>exact .uq
 |map h=>exact .map (hl _ _ h)
 |vE=>exact .vE
 |rR=>exact .rR
theorem KR.mono (hl:ρ.le ρ') (h:KR ρ v c):KR ρ' v c:=by
 cases h with
 |cell h=>exact .cell (h.mono hl)
 |fn f h=>exact .fn f (h.mono fun _ _=>CR.mono hl)
 |yield h=>exact .yield (hl _ _ h)
theorem AR.mono (hl:ρ.le ρ') (h:AR ρ v c):AR ρ' v c:=by
 cases h with
 |cell h=>exact .cell (h.mono hl)
 |agg h=>exact .agg (h.mono fun _ _=>KR.mono hl)
theorem VR.mono (hl:ρ.le ρ') (h:VR ρ v c):VR ρ' v c:=by
 cases h with
 |val h=>exact .val (h.mono hl)
 |tuple h=>exact .tuple (h.mono fun _ _=>AR.mono hl)
 |Mi h=>exact .Mi h
theorem CR.vr (h:CR ρ v c):VR ρ v c:= .val (.cell (.cell h))
theorem KR.vr (h:KR ρ v c):VR ρ v c:= .val (.cell h)
theorem VR.undef:VR ρ (.tuple #[]) (.tuple #[]):= .tuple .nil
theorem VR.bool (b:Bool):VR ρ (.bool b) (.bool b):=(CR.bool b).vr
theorem VR.int (k:IntKind) (n:Int):VR ρ (.int k n) (.int k n):=(CR.int k n).vr
theorem KR.plain (h:KR ρ v c):AI.plain v=true∧AI.plain c=true:=by
 cases h with
 |cell h=>cases h<;>exact⟨rfl,rfl⟩
 |fn=>exact⟨rfl,rfl⟩
 |yield=>exact⟨rfl,rfl⟩
theorem CR.pW (h:VR ρ v c) (hs:simple v=true):CR ρ v c:=by
 cases h with
 |tuple=>simp[simple] at hs
 |Mi=>simp[simple] at hs
 |val h=>cases h with
  |agg=>simp[simple] at hs
  |cell h=>cases h with
   |cell h=>exact h
   |fn=>simp[simple] at hs
   |yield=>simp[simple] at hs
theorem KR.si (h:VR ρ v c) (hs:AI.plain v=true):KR ρ v c:=by
 cases h with
 |tuple=>simp[AI.plain] at hs
 |Mi=>simp[AI.plain] at hs
 |val h=>cases h with
  |agg=>simp[AI.plain] at hs
  |cell h=>exact h
theorem D9 (h:KR ρ v c):cellsOf v=[v]∧c.cells= #[c]:=by
 have:=h.plain
 constructor
 ·cases v<;>first|rfl|(simp[AI.plain] at this)
 ·cases c<;>first|rfl|(simp[AI.plain] at this)
theorem y5 {vs:List Value} (h:VR ρ v c) (hf:flat v=some vs):All2 (KR ρ) vs c.cells.toList:=by
 unfold flat at hf
 cases hp:(cellsOf v).all AI.plain with
 |false=>simp[hp] at hf
 |true=>
  simp[hp] at hf
  subst hf
  cases h with
  |tuple=>simp[cellsOf,AI.plain] at hp
  |Mi=>simp[cellsOf,AI.plain] at hp
  |val h=>cases h with
   |agg h=>simpa [cellsOf,Value.cells] using h
   |cell h=>
    obtain⟨h1,h2⟩:=D9 h
    rw[h1,h2]
    exact .cons h .nil
end
def nr.rw:nr→Bool
 | .aA _ ro _ _=> !ro
 |_=>true
def dm (h:ae) (b:Nat):Prop:= ∃o,h.tr.get b=some o∧o.rw=true
end Go.AI
namespace Go.AI
def on (b:Frame) (a:Act) (todo:List Item):Frame:= { b with tmps:=a.tmps,todo:=todo,defers:=a.defers,mode:= .run }
theorem GX (b:Frame) (a:Act) (todo:List Item):(on b a todo).eval=a.eval:=by
 funext x;cases x<;>rfl
section
variable {P:Program} {b:Frame} {a:Act} {k:List Item} {cs:List Frame} {w:World}
theorem No:step P (lone (on b a (.code .skip::k)) cs w)= .next (lone (on b a k) cs w):=
 step_lone_go (by simp[stepG,stepG.exec,on])
theorem KU {l:Nat} :step P (lone (on b a (.code (.label l)::k)) cs w)= .next (lone (on b a k) cs w):=
 step_lone_go (by simp[stepG,stepG.exec,on])
theorem He {id:Nat} :step P (lone (on b a (.inBlock id::k)) cs w)= .next (lone (on b a k) cs w):=
 step_lone_go (by simp[stepG,stepG.exec,on])
theorem Iy {c:Code} :step P (lone (on b a (.inScope c::k)) cs w)= .next (lone (on b a k) cs w):=
 step_lone_go (by simp[stepG,stepG.exec,on])
theorem B8 {c:Code} :step P (lone (on b a (.code (.scope c)::k)) cs w)= .next (lone (on b a (.code c:: .inScope c::k)) cs w):=
 step_lone_go (by simp[stepG,stepG.exec,on])
theorem Kt {x y:Code} :step P (lone (on b a (.code (.seq x y)::k)) cs w)= .next (lone (on b a (.code x:: .code y::k)) cs w):=
 step_lone_go (by simp[stepG,stepG.exec,on])
theorem Ke {c:Operand} {x y:Code} {t:Bool} (h:a.eval c= .bool t):
  step P (lone (on b a (.code (.cond c x y)::k)) cs w)= .next (lone (on b a (.code (if t then x else y)::k)) cs w):=
 step_lone_go (by
  have:=GX b a (.code (.cond c x y)::k)
  simp only[on] at this
  simp[stepG,stepG.exec,on,this,h])
theorem xK {id:Nat} {c:Code} :step P (lone (on b a (.code (.block id c)::k)) cs w)= .next (lone (on b a (.code c:: .inBlock id::k)) cs w):=
 step_lone_go (by simp[stepG,stepG.exec,on])
theorem BJ {c:Code} :step P (lone (on b a (.code (.loop c)::k)) cs w)= .next (lone (on b a (.code c:: .inLoop c::k)) cs w):=
 step_lone_go (by simp[stepG,stepG.exec,on])
theorem IY {c:Code} :step P (lone (on b a (.inLoop c::k)) cs w)= .next (lone (on b a (.code c:: .inLoop c::k)) cs w):=
 step_lone_go (by simp[stepG,stepG.exec,on])
theorem MQ {id:Nat} {k':List Item} (h:exitTo id k=some k'):
  step P (lone (on b a (.code (.exit id)::k)) cs w)= .next (lone (on b a k') cs w):=
 step_lone_go (by simp[stepG,stepG.exec,on,h])
theorem Jw {id:Nat} {ops:Array Oper} :
  step P (lone (on b a (.code (.region id ops false)::k)) cs w)= .next (lone (on b a (.inRegion ops (List.range ops.size)::k)) cs w):=
 step_lone_go (by simp[stepG,stepG.exec,on])
theorem M6 {id:Nat} {ops:Array Oper} :
  step P (lone (on b a (.code (.region id ops true)::k)) cs w)=
   .next (lone (on b a (.inRegion ops (Region.schedule (P.follows .mixedOrders) ops (w.tape w.drawn (.order b.fn id)))::k)) cs { w with drawn:=w.drawn+1 }):=
 step_lone_go (by simp[stepG,stepG.exec,on,choose,Sem.run,Question.forced,Question.cut])
theorem vI {ops:Array Oper} :step P (lone (on b a (.inRegion ops []::k)) cs w)= .next (lone (on b a k) cs w):=
 step_lone_go (by simp[stepG,stepG.exec,on])
theorem sE (b:Frame) (a:Act) (ops:Array Oper) (i:Nat) (rest:List Nat) (k:List Item) (v:Value):
  (on b a (.inRegion ops (i::rest)::k)).finish v=on b (a.put ((ops[i]?).bind (·.dst)) v) (.inRegion ops rest::k):=by
 cases h:(ops[i]?).bind (·.dst)<;>simp[Frame.finish,on,Act.put,h]
theorem A8 {ops:Array Oper} {i:Nat} {rest:List Nat} (h:((ops[i]?).map (Region.wanted · (yielded ops a.tmps))).getD false=false):
  step P (lone (on b a (.inRegion ops (i::rest)::k)) cs w)=
   .next (lone (on b (a.put ((ops[i]?).bind (·.dst)) undef) (.inRegion ops rest::k)) cs w):=by
 rw[←sE]
 exact step_lone_go (by
  have h':=h
  simp only[on] at*
  simp[stepG,stepG.exec,h'])
def Op.oQ:Op→Bool
 | .defer _=>true
 |_=>false
theorem vC {ops:Array Oper} {i:Nat} {rest:List Nat} {o:Oper} (ho:ops[i]? =some o) (hw:Region.wanted o (yielded ops a.tmps)=true)
  (hd:Op.oQ o.op=false):
  stepG P true { frame:=on b a (.inRegion ops (i::rest)::k),callers:=cs,status:= .running,dying:=none } w=
   stepG.apply P true (on b a (.inRegion ops (i::rest)::k)) cs none (execOp a.eval o) w:=by
 have he:=GX b a (.inRegion ops (i::rest)::k)
 simp only[on] at he
 simp only[stepG,stepG.exec,stepG.oper,Frame.oper?,on,ho,hw,he,Option.map_some,Option.getD_some,if_true]
 split
 ·next heq=>rw[heq] at hd;simp[Op.oQ] at hd
 ·rfl
theorem Cs {ops:Array Oper} {i:Nat} {rest:List Nat} {o:Oper} {v:Value} {w':World} (ho:ops[i]? =some o)
  (hw:Region.wanted o (yielded ops a.tmps)=true) (hd:Op.oQ o.op=false) (hr:(execOp a.eval o).run P w= .ok (.value v) w'):
  step P (lone (on b a (.inRegion ops (i::rest)::k)) cs w)= .next (lone (on b (a.put o.dst v) (.inRegion ops rest::k)) cs w'):=by
 refine step_lone_go ?_
 have hf:=sE b a ops i rest k v
 rw[ho] at hf
 rw[vC ho hw hd]
 simp only[Option.bind_some] at hf
 rw[←hf]
 simp[stepG.apply,hr]
theorem GL {ops:Array Oper} {i:Nat} {rest:List Nat} {o:Oper} {w':World} (ho:ops[i]? =some o)
  (hw:Region.wanted o (yielded ops a.tmps)=true) (hd:Op.oQ o.op=false) (hr:(execOp a.eval o).run P w= .ok .skip w'):
  step P (lone (on b a (.inRegion ops (i::rest)::k)) cs w)= .next (lone (on b (a.put o.dst undef) (.inRegion ops rest::k)) cs w'):=by
 refine step_lone_go ?_
 have hf:=sE b a ops i rest k undef
 rw[ho] at hf
 rw[vC ho hw hd]
 simp only[Option.bind_some] at hf
 rw[←hf]
 simp[stepG.apply,hr]
theorem L6 {ops:Array Oper} {i:Nat} {rest:List Nat} {o:Oper} {f:FuncId} {args:Array Value} {w':World} (ho:ops[i]? =some o)
  (hw:Region.wanted o (yielded ops a.tmps)=true) (hd:Op.oQ o.op=false) (hr:(execOp a.eval o).run P w= .ok (.enter f args) w'):
  step P (lone (on b a (.inRegion ops (i::rest)::k)) cs w)=
   .next (lone (Frame.enter P f args .normal) (on b a (.inRegion ops (i::rest)::k)::cs) w'):=by
 refine step_lone_go ?_
 rw[vC ho hw hd]
 simp[stepG.apply,hr,on]
theorem LC {ops:Array Oper} {i:Nat} {rest:List Nat} {o:Oper} {l f:Nat} {tmps:Array Value} {asg body:Code} {w':World} (ho:ops[i]? =some o)
  (hw:Region.wanted o (yielded ops a.tmps)=true) (hd:Op.oQ o.op=false) (hr:(execOp a.eval o).run P w= .ok (.round l f tmps asg body) w'):
  step P (lone (on b a (.inRegion ops (i::rest)::k)) cs w)=
   .next (lone (Frame.round l f tmps asg body .normal) (on b a (.inRegion ops (i::rest)::k)::cs) w'):=by
 refine step_lone_go ?_
 rw[vC ho hw hd]
 simp[stepG.apply,hr]
end
def bx:Value→Bool
 | .bool _| .int _ _| .string _| .pointer none| .slice none _ _| .map none| .nilFunc| .nilIface=>true
 |_=>false
structure TI where
 u:TypeDesc
 size:Nat
 bytes:Nat
 zero:List Value
 agg:Bool
abbrev mV:=Nat→Option TI
def kc:TypeDesc→Bool
 | .struct _=>true
 | .array _ _=>true
 |_=>false
structure pI (P:Program) (t:Nat) (i:TI):Prop where
 u:P.underlying t=some i.u
 info: ∃ti,P.info? t=some ti∧ti.size=i.size∧ti.bytes=i.bytes∧ ∃z,ti.zero=some z∧z.cells.toList=i.zero
 agg:i.agg=kc i.u
 zero:i.zero.all bx=true
 plain:i.agg=false→i.size=1
 len:i.zero.length=i.size
 held: ∀fs,i.u= .struct fs→P.stoodInHeld t=false
 one:i.agg=false→ ∀ti z,P.info? t=some ti→ti.zero=some z→AI.plain z=true
def bQ (P:Program) (T:mV):Prop:= ∀t i,T t=some i→pI P t i
def kY (T:mV):Nat→List Field→Option Nat
 |off,[]=>some off
 |off,f::fs=>bif Nat.beq f.offset off then match T f.type with
   |some i=>kY T (off+i.size) fs
   |none=>none
  else none
def j_ (k:Nat→Option (List Nat)):List Field→Option (List Nat)
 |[]=>some []
 |f::fs=>bif f.name != "_" then match k f.type,j_ k fs with
   |some a,some b=>some (a++b)
   |_,_=>none
  else none
def Ey (ks:List Nat):Nat→List Nat
 |0=>[]
 |n+1=>ks++Ey ks n
def kinds (T:mV):Nat→Nat→Option (List Nat)
 |0,_=>none
 |d+1,t=>match T t with
  |none=>none
  |some i=>match i.u with
   | .bool=>some [0]
   | .int _=>some [1]
   | .string=>some [2]
   | .struct fs=>match kY T 0 fs.toList with
    |some n=>bif Nat.beq n i.size then j_ (kinds T d) fs.toList else none
    |none=>none
   | .array n el=>match T el with
    |some e=>bif Nat.beq (n*e.size) i.size then(match kinds T d el with|some ks=>some (Ey ks n)|none=>none) else none
    |none=>none
   |_=>none
section
variable (T:mV)
def tw (i:TI):Option Nat:=bif i.agg then some i.size else none
def sZ (c:Call):ia:=
 match c.callee with
 | .value f=> .call f c.args.toList
 | .builtin .len=>match c.args.toList,c.argTypes.toList with
  |[x],[t]=>match T t with
   |some i=>match i.u with| .slice _=> .nx x| .string=> .Cd x|_=> .bad
   |none=> .bad
  |_,_=> .bad
 | .builtin .append=>match c.args.toList,c.argTypes.toList with
  |[s,x],[t,t']=>match T t,T t' with
   |some i,some i'=>match i.u with
    | .slice el=>match T el with
     |some e=>match i'.u with
      | .int _=> .append e.zero e.bytes true s x
      | .slice _=> .append e.zero e.bytes false s x
      |_=> .bad
     |none=> .bad
    |_=> .bad
   |_,_=> .bad
  |_,_=> .bad
 | .builtin .copy=>match c.args.toList,c.argTypes.toList with
  |[d,s],[t,_]=>match T t with
   |some i=>match i.u with
    | .slice el=>match T el with
     |some e=> .copy e.size d s
     |none=> .bad
    |_=> .bad
   |none=> .bad
  |_,_=> .bad
 | .builtin .clear=>match c.args.toList,c.argTypes.toList with
  |[x],[t]=>match T t with
   |some i=>match i.u with
    | .slice el=>match T el with
     |some e=> .clear e.zero x
     |none=> .bad
    |_=> .bad
   |none=> .bad
  |_,_=> .bad
 | .builtin .cap=>match c.args.toList,c.argTypes.toList with
  |[x],[t]=>match T t with
   |some i=>match i.u with| .slice _=> .FV x|_=> .bad
   |none=> .bad
  |_,_=> .bad
 | .builtin .min=>match c.args.toList with
  |[x,y]=> .Fx x y
  |_=> .bad
 |_=> .bad
def qy (fs:List Field):List (Nat×Operand)→Option (List (Nat×Nat×Operand))
 |[]=>some []
 |(i,x)::r=>match fs[i]? with
  |none=>none
  |some f=>match T f.type,qy fs r with
   |some ti,some l=>some ((f.offset,ti.size,x)::l)
   |_,_=>none
def bC (o:Op):ia:=
 match o with
 | .move x=> .mv x
 | .assign x=> .mv x
 | .pick c a b=> .pick c a b
 | .alloc t=>match T t with|some i=> .alloc i.zero|none=> .bad
 | .box t x=>match T t with|some _=> .box x|none=> .bad
 | .build t ps=>match T t with
  |some i=>match i.u with
   | .struct fs=>bif fs.toList.all fun f=>(T f.type).isSome then match qy T fs.toList ps.toList with|some l=> .build i.zero l|none=> .bad else .bad
   | .array _ el=>match T el with
    |some e=> .build i.zero (ps.toList.map fun p=>(p.1*e.size,e.size,p.2))
    |none=> .bad
   |_=> .bad
  |none=> .bad
 | .buildSlice t n ps=>match T t with
  |some i=>match i.u with
   | .slice el=>match T el with
    |some e=>bif Nat.ble (n*e.size) 1000000&&Nat.beq e.zero.length e.size then .ct n (gI e.zero n) (ps.toList.map fun p=>(p.1*e.size,e.size,p.2)) else .bad
    |none=> .bad
   |_=> .bad
  |none=> .bad
 | .load t a=>match T t with|some i=> .load (tw i) a|none=> .bad
 | .store t a v=>match T t with|some i=> .store i.size a v|none=> .bad
 | .nilCheck x=> .bj x
 | .binOp op t x y _=>match op with
  | .eql| .neq=>match T t with
   |some i=>match i.u with
    | .slice _=> .bin op [3] x y
    | .pointer _=> .bin op [4] x y
    | .map _ _=> .bin op [5] x y
    | .func _ _ _=> .bin op [6] x y
    | .struct _=>match kinds T 9 t with|some ks=> .bin op (9::ks) x y|none=> .bad
    | .array _ _=>match kinds T 9 t with|some ks=> .bin op (9::ks) x y|none=> .bad
    | .bool=> .bin op [0] x y
    | .int _=> .bin op [1] x y
    | .string=> .bin op [2] x y
    |_=> .bad
   |none=> .bad
  |_=> .bin op [] x y
 | .unOp op _ x=> .un op x
 | .convert s d x=>match T s,T d with
  |some i,some j=>match i.u,j.u with
   | .int _,.int k=> .conv k x
   |_,_=> .bad
  |_,_=> .bad
 | .makeFunc (.func f) first caps=>bif first.isEmpty then .mH f caps.toList else .bad
 | .makeMap _ none=> .A_
 | .makeSlice t l c=>match T t with
  |some i=>match i.u with
   | .slice el=>match T el with
    |some e=> .fB e.zero e.bytes l c
    |none=> .bad
   |_=> .bad
  |none=> .bad
 | .slice t x lo hi mx=>match T t with
  |some i=>match i.u with
   | .slice el=>match T el with
    |some e=>bif mx.isSome&&hi.isNone then .bad else .slice e.size x lo hi mx
    |none=> .bad
   |_=> .bad
  |none=> .bad
 | .fieldAddr t x k=>match T t with
  |some i=>match i.u with
   | .struct fs=>match fs[k]? with
    |some f=>match T f.type with
     |some fi=>bif Nat.beq fi.size 0 then .bad else .bw f.offset x
     |none=> .bad
    |none=> .bad
   |_=> .bad
  |none=> .bad
 | .indexAddr t x ix=>match T t with
  |some i=>match i.u with
   | .slice el=>match T el with|some e=> .cw none e.size x ix|none=> .bad
   | .array n el=>match T el with|some e=> .cw (some n) e.size x ix|none=> .bad
   |_=> .bad
  |none=> .bad
 | .field t x k=>match T t with
  |some i=>match i.u with
   | .struct fs=>match fs[k]? with
    |some f=>match T f.type with
     |some fi=> .field f.offset (tw fi) x
     |none=> .bad
    |none=> .bad
   |_=> .bad
  |none=> .bad
 | .index t x ix=>match T t with
  |some i=>match i.u with
   | .string=> .index none x ix
   | .array n el=>match T el with
    |some e=> .index (some (n,e.size,tw e)) x ix
    |none=> .bad
   |_=> .bad
  |none=> .bad
 | .extract x i=> .ext i x
 | .lookup t x ix ok=>match T t with
  |some i=>match i.u with
   | .map k el=>match T k,T el with
    |some ki,some ei=>match ki.u,ei.zero,ei.agg with
     | .int _,[z],false=> .look [1] z ok x ix
     | .struct _,[z],false=>match kinds T 9 k with|some ks=> .look (9::ks) z ok x ix|none=> .bad
     | .array _ _,[z],false=>match kinds T 9 k with|some ks=> .look (9::ks) z ok x ix|none=> .bad
     |_,_,_=> .bad
    |_,_=> .bad
   |_=> .bad
  |none=> .bad
 | .mapUpdate t m k x=>match T t with
  |some i=>match i.u with
   | .map kt _=>match T kt with
    |some ki=>match ki.u with
     | .int _=> .Bn [1] m k x
     | .struct _=>match kinds T 9 kt with|some ks=> .Bn (9::ks) m k x|none=> .bad
     | .array _ _=>match kinds T 9 kt with|some ks=> .Bn (9::ks) m k x|none=> .bad
     |_=> .bad
    |none=> .bad
   |_=> .bad
  |none=> .bad
 | .range t x=>match T t with
  |some i=>match i.u with
   | .map _ _=> .vZ x
   |_=> .bad
  |none=> .bad
 | .next x s=>bif s then .bad else .ND x
 | .call c=>sZ T c
 |_=> .bad
def BT:Value→Bool
 | .agg cs=>cs.toList.all bx
 | .tuple cs=>cs.toList.isEmpty
 |v=>bx v
def aR (ng:Nat):Operand→Bool
 | .const v=>BT v
 | .global g=>Nat.blt g ng
 |_=>true
def v7 (ops:List Oper) (j:Nat):Option Nat:=match ops[j]? with|some o=>o.dst|none=>none
def pL (ng n:Nat) (ops:List Oper) (o:Oper):Bool:=
 (match o.dst with|none=>true|some d=>Nat.blt d n)&&(match o.guard with|none=>true|some (j,_)=>(v7 ops j).isSome)&&o.op.operands.toList.all (aR ng)
def guardOf (ops:List Oper) (o:Oper):Option (Nat×Bool):=match o.guard with|none=>none|some (j,b)=>some ((v7 ops j).getD 0,b)
def aM (ng n:Nat) (ops:List Oper) (o:Oper):aV:=
 bif pL ng n ops o then { dst:=o.dst,guard:=guardOf ops o,op:=bC T o.op } else { dst:=none,guard:=none,op:= .bad }
def gE:Code→Bool
 | .seq a b=>gE a&&gE b
 | .cond _ a b=>gE a&&gE b
 | .block _ c=>gE c
 | .loop c=>gE c
 | .scope c=>gE c
 | .rangeFunc _ _ _ _=>false
 |_=>true
def bz (ng n:Nat) (dr:Nat→List Oper→List (aV×List Nat)):Code→aj
 | .skip=> .skip
 | .region _ ops false=> .ops (ops.toList.map (aM T ng n ops.toList))
 | .region _ ops true=> .draw (dr n ops.toList)
 | .seq a b=> .seq (bz ng n dr a) (bz ng n dr b)
 | .cond c a b=>bif aR ng c then .cond c (bz ng n dr a) (bz ng n dr b) else .bad
 | .block id c=> .block id (bz ng n dr c)
 | .loop c=> .loop (bz ng n dr c)
 | .scope c=>bz ng n dr c
 | .label _=> .skip
 | .rangeFunc f ps a b=>bif aR ng f&&ps.toList.all (Nat.blt · n)&&gE a&&gE b then .AM f ps.toList (bz ng n dr a) (bz ng n dr b) else .bad
 | .exit id=> .exit id
 | .ret=> .ret
 |_=> .bad
end
def ER (ρ:dp) (e:Env) (tmps:Array Value):Prop:= ∀t,VR ρ (Env.get e t) (tmps.getD t undef)
def BW:IG→Loop→Prop
 | .ready,L=>L.state= .ready∧L.pending=none
 | .busy,L=>L.state= .busy
 | .done none,L=>L.state= .done∧L.pending=some .ret
 | .done (some id),L=>L.state= .done∧L.pending=some (.exit id)
def JU (ρ:dp) (r:uD) (cs:List Value) (ro:Bool) (o:Nat) (w:World):Prop:=
 ∃(ccs:Array Value) (el:TypeId) (fr:Nat×Nat),w.heap[r.aA]? =some (.cells ccs el fr)∧r.len=cs.length∧r.yW=o∧(r.base+r.room=ccs.size∧(o≠0→ ∀(j:Nat) (c:Value),r.len≤j→ccs[r.base+j]? =some c→bx c=true))∧
  (ro=false→fr=(0,0))∧ ∀(j:Nat) (v:Value),cs[j]? =some v→ ∃c,ccs[r.base+j]? =some c∧KR ρ v c
abbrev bI:=Nat→aj→Code→Prop
def Ku (CC:bI) (ρ:dp) (r:uD) (env:Env) (ps:List Nat) (asg body:aj) (st:IG) (w:World):Prop:=
 ∃L:Loop,w.heap[r.aA]? =some (.loop L)∧ER ρ env L.tmps∧L.params.toList=ps∧CC L.tmps.size asg L.assign∧CC L.tmps.size body L.body∧
  (∀t∈ps,t<L.tmps.size)∧BW st L
def OL (ρ:dp) (r:uD) (es:List (Value×Value)) (w:World):Prop:=
 ∃(ces:Array MapEntry) (clock:Nat),w.heap[r.aA]? =some (.map ces clock)∧All2 (fun(x:Value×Value) (y:MapEntry)=>AR ρ x.1 y.key∧AR ρ x.2 y.val) es ces.toList
def gh (CC:bI) (ρ:dp) (r:uD) (o:nr) (w:World):Prop:=
 match o with
 | .aA cs ro op _=>JU ρ r cs ro op w
 | .loop env ps asg body st=>Ku CC ρ r env ps asg body st w
 | .map es=>OL ρ r es w
 | .Mz=>r.base=0∧w.heap[r.aA]? =some (.mapIter none 0 #[] 0)
structure cu (CC:bI) (ρ:dp) (h:ae) (w:World):Prop where
 low: ∀b r,ρ b=some r→b<h.next∧r.aA<w.heap.size
 obj: ∀b r o,ρ b=some r→h.tr.get b=some o→gh CC ρ r o w
 inj: ∀b b' r r' o,ρ b=some r→ρ b'=some r'→dm h b→h.tr.get b'=some o→b≠b'→r.aA≠r'.aA
 wf: ∀b o,h.tr.get b=some o→b<h.next
structure Ext (ρ:dp) (h:ae) (w:World) (ρ':dp) (h':ae) (w':World):Prop where
 le:ρ.le ρ'
 next:h.next≤h'.next
 size:w.heap.size≤w'.heap.size
 os:w'.os=w.os
 tape:w'.tape=w.tape
 output:w'.output=w.output
 pK: ∀k,k<w.heap.size→(∀b r,ρ b=some r→dm h b→r.aA≠k)→w'.heap[k]? =w.heap[k]?
 own: ∀b r,ρ' b=some r→dm h' b→w.heap.size≤r.aA∨ ∃b₀ r₀,ρ b₀=some r₀∧dm h b₀∧r₀.aA=r.aA
 new: ∀b r,ρ' b=some r→ρ b=none→h.next≤b
 live: ∀b r o,ρ' b=some r→h'.tr.get b=some o→w.heap.size≤r.aA∨ ∃b₀ r₀ o₀,ρ b₀=some r₀∧h.tr.get b₀=some o₀∧r₀.aA=r.aA
theorem Ext.refl (ρ:dp) (h:ae) (w:World):Ext ρ h w ρ h w:=
 ⟨ρ.le_refl,Nat.le_refl _,Nat.le_refl _,rfl,rfl,rfl,fun _ _ _=>rfl,fun b r hb hw=> .inr ⟨b,r,hb,hw,rfl⟩,fun b r h h'=>(by rw[h] at h';cases h'),fun b r o hb ho=> .inr ⟨b,r,o,hb,ho,rfl⟩⟩
theorem Ext.trans {ρ ρ₁ ρ₂:dp} {h h₁ h₂:ae} {w w₁ w₂:World} (a:Ext ρ h w ρ₁ h₁ w₁) (b:Ext ρ₁ h₁ w₁ ρ₂ h₂ w₂):Ext ρ h w ρ₂ h₂ w₂:=by
 refine⟨dp.le_trans a.le b.le,Nat.le_trans a.next b.next,Nat.le_trans a.size b.size,b.os.trans a.os,b.tape.trans a.tape,b.output.trans a.output,?_,?_,?_,?_⟩
 ·intro k hk hn
  rw[b.pK k (Nat.lt_of_lt_of_le hk a.size) ?_,a.pK k hk hn]
  intro x r hx hw e
  rcases a.own x r hx hw with h|⟨b₀,r₀,h0,hw0,e0⟩
  ·omega
  ·exact hn b₀ r₀ h0 hw0 (e0.trans e)
 ·intro x r hx hw
  rcases b.own x r hx hw with h|⟨b₀,r₀,h0,hw0,e0⟩
  ·exact .inl (Nat.le_trans a.size h)
  ·rcases a.own b₀ r₀ h0 hw0 with h|⟨b₁,r₁,h1,hw1,e1⟩
   ·exact .inl (e0▸h)
   ·exact .inr ⟨b₁,r₁,h1,hw1,e1.trans e0⟩
 ·intro x r hx hn
  cases h1:ρ₁ x with
  |none=>exact Nat.le_trans a.next (b.new x r hx h1)
  |some r1=>exact a.new x r1 h1 hn
 ·intro x r o hx ho
  rcases b.live x r o hx ho with h|⟨b₀,r₀,o₀,h0,ho0,e0⟩
  ·exact .inl (Nat.le_trans a.size h)
  ·rcases a.live b₀ r₀ o₀ h0 ho0 with h|⟨b₁,r₁,o₁,h1,ho1,e1⟩
   ·exact .inl (e0▸h)
   ·exact .inr ⟨b₁,r₁,o₁,h1,ho1,e1.trans e0⟩
theorem ER.mono {ρ ρ':dp} {e:Env} {tmps:Array Value} (hl:ρ.le ρ') (h:ER ρ e tmps):ER ρ' e tmps:=fun t=>(h t).mono hl
def bJ (ng:Nat) (ρ:dp):Prop:= ∀g,g<ng→ ∃r,ρ g=some r∧r.aA=g∧r.base=0
theorem gm {ρ:dp} {v:Value} (h:bx v=true):CR ρ v v:=by
 unfold bx at h
 split at h
 ·exact .bool _
 ·exact .int _ _
 ·exact .str _
 ·exact .ze
 ·exact .lZ _ _
 ·exact .uq
 ·exact .vE
 ·exact .rR
 ·cases h
theorem c_ {ρ:dp} : ∀ {l:List Value},l.all bx=true→All2 (KR ρ) l l
 |[],_=> .nil
 |v::l,h=>by
  simp only[List.all_cons,Bool.and_eq_true] at h
  exact .cons (.cell (gm h.1)) (c_ h.2)
theorem CF {ρ:dp} {v:Value} (h:BT v=true):VR ρ v v:=by
 unfold BT at h
 split at h
 ·rename_i cs
  exact .val (.agg (c_ h))
 ·rename_i cs
  obtain⟨l⟩:=cs
  cases l with
  |nil=>exact .tuple .nil
  |cons=>simp at h
 ·exact(gm h).vr
theorem ER.eval {ng:Nat} {ρ:dp} {e:Env} {a:Act} (h:ER ρ e a.tmps) (hg:bJ ng ρ): ∀ {x:Operand},aR ng x=true→VR ρ (ev e x) (a.eval x)
 | .tmp t,_=>h t
 | .const _,hc=>CF hc
 | .global g,hc=>by
  obtain⟨r,hr,hb,h0⟩:=hg g (by simpa [aR,Nat.blt_eq] using hc)
  have:=CR.ptr (o:=0) hr
  rw[hb,h0] at this
  exact this.vr
 | .func f,_=>(KR.fn f (l:=[]) (m:=[]) .nil).vr
theorem p9 {v:Value} (h:plain v=true):v.oneCell'=true:=by
 cases v<;>first|rfl|(simp[plain] at h)
theorem l9 (b o n:Nat):(⟨b,o,none⟩:Addr).add n=⟨b,o+n,none⟩:=by
 unfold Addr.add;split<;>simp_all
section
variable {P:Program} {CC:bI} {ρ ρ':dp} {h:ae} {w w':World}
theorem gh.mono {r:uD} {o:nr} (hl:ρ.le ρ') (hw:w'.heap[r.aA]? =w.heap[r.aA]?) (hk:gh CC ρ r o w):gh CC ρ' r o w':=by
 cases o with
 |aA cs ro op s=>
  obtain⟨ccs,el,fr,h1,h2,h3,h5,h6,h7⟩:=hk
  exact⟨ccs,el,fr,hw.trans h1,h2,h3,h5,h6,fun j v hv=>let⟨c,hc,hr⟩:=h7 j v hv;⟨c,hc,hr.mono hl⟩⟩
 |loop env ps asg body st=>
  obtain⟨L,h1,h2,h3⟩:=hk
  exact⟨L,hw.trans h1,h2.mono hl,h3⟩
 |map es=>
  obtain⟨ces,cl,h1,h2⟩:=hk
  exact⟨ces,cl,hw.trans h1,h2.mono fun _ _ ⟨a,b⟩=>⟨a.mono hl,b.mono hl⟩⟩
 |Mz=>exact⟨hk.1,hw.trans hk.2⟩
theorem bJ.mono {ng:Nat} (hl:ρ.le ρ') (hg:bJ ng ρ):bJ ng ρ':=fun g hlt=>let⟨r,h,x⟩:=hg g hlt;⟨r,hl _ _ h,x⟩
structure FL (k:Nat) (w w':World):Prop where
 os:w'.os=w.os
 tape:w'.tape=w.tape
 output:w'.output=w.output
 size:w'.heap.size=w.heap.size
 other: ∀j,j≠k→w'.heap[j]? =w.heap[j]?
theorem FL.row (g:Nat) (cs:Array Value):FL g w (w.setRow g cs):=⟨rfl,rfl,rfl,by simp,fun j hj=>setRow_other w g j cs hj⟩
theorem FL.obj (g:Nat) (o:Obj):FL g w { w with heap:=w.heap.setIfInBounds g o } :=
 ⟨rfl,rfl,rfl,by simp,fun j hj=>by simp[Ne.symm hj]⟩
theorem cu.drawn (S:cu CC ρ h w) (n:Nat):cu CC ρ h { w with drawn:=n } :=
 ⟨S.low,fun b r o hb ho=>gh.mono ρ.le_refl (w':= { w with drawn:=n }) rfl (S.obj b r o hb ho),S.inj,S.wf⟩
theorem Ext.drawn (n:Nat):Ext ρ h w ρ h { w with drawn:=n } :=
 ⟨ρ.le_refl,Nat.le_refl _,Nat.le_refl _,rfl,rfl,rfl,fun _ _ _=>rfl,fun b r hb hw=> .inr ⟨b,r,hb,hw,rfl⟩,fun b r h h'=>(by rw[h] at h';cases h'),fun b r o hb ho=> .inr ⟨b,r,o,hb,ho,rfl⟩⟩
theorem cu.clock (S:cu CC ρ h w) (n:Nat):cu CC ρ { h with clock:=n } w:=⟨S.low,S.obj,S.inj,S.wf⟩
theorem Ext.clock (n:Nat):Ext ρ h w ρ { h with clock:=n } w:=
 ⟨ρ.le_refl,Nat.le_refl _,Nat.le_refl _,rfl,rfl,rfl,fun _ _ _=>rfl,fun b r hb hw=> .inr ⟨b,r,hb,hw,rfl⟩,fun b r h h'=>(by rw[h] at h';cases h'),fun b r o hb ho=> .inr ⟨b,r,o,hb,ho,rfl⟩⟩
theorem cu.qV (S:cu CC ρ h w) {b:Nat} {r:uD} {o o':nr} (hb:ρ b=some r) (ho:h.tr.get b=some o) (hrw:o.rw=true)
  (ha:FL r.aA w w') (hob:gh CC ρ r o' w') (n:Nat):cu CC ρ { h with clock:=n,tr:=h.tr.set b o' } w'∧Ext ρ h w ρ { h with clock:=n,tr:=h.tr.set b o' } w':=by
 have hwr:dm h b:=⟨o,ho,hrw⟩
 have hback: ∀x,dm { h with clock:=n,tr:=h.tr.set b o' } x→dm h x:=by
  rintro x ⟨p,hp,hpr⟩
  simp only[Tr.aN] at hp
  by_cases hx:x=b
  ·subst hx;exact hwr
  ·rw[if_neg hx] at hp;exact⟨p,hp,hpr⟩
 refine⟨⟨fun x rx hx=>⟨(S.low x rx hx).1,by rw[ha.size];exact(S.low x rx hx).2⟩,?_,?_,fun x p hp=> ?_⟩,⟨ρ.le_refl,Nat.le_refl _,Nat.le_of_eq ha.size.symm,ha.os,ha.tape,ha.output,?_,?_,?_,?_⟩⟩
 rotate_left 2
 ·simp only[Tr.aN] at hp
  by_cases hx:x=b
  ·subst hx;exact S.wf _ _ ho
  ·rw[if_neg hx] at hp;exact S.wf x p hp
 rotate_left 4
 ·intro x rx p hx hp
  simp only[Tr.aN] at hp
  by_cases hxb:x=b
  ·subst hxb
   rw[if_pos rfl] at hp
   cases hp
   rw[hb] at hx;cases hx
   exact hob
  ·rw[if_neg hxb] at hp
   exact gh.mono ρ.le_refl (ha.other _ (S.inj b x r rx p hb hx hwr hp (Ne.symm hxb)).symm) (S.obj x rx p hx hp)
 ·intro x y rx ry p hx hy hw hp hne
  simp only[Tr.aN] at hp
  by_cases hyb:y=b
  ·subst hyb
   exact S.inj x y rx ry o hx hy (hback x hw) ho hne
  ·rw[if_neg hyb] at hp
   exact S.inj x y rx ry p hx hy (hback x hw) hp hne
 ·intro k _ hk
  exact ha.other k (fun e=>hk b r hb hwr e.symm)
 ·intro x rx hx hw
  exact .inr ⟨x,rx,hx,hback x hw,rfl⟩
 ·intro x rx h1 h2;rw[h1] at h2;cases h2
 ·intro x rx p hx hp
  simp only[Tr.aN] at hp
  by_cases hxb:x=b
  ·subst hxb;exact .inr ⟨x,rx,o,hx,ho,rfl⟩
  ·rw[if_neg hxb] at hp;exact .inr ⟨x,rx,p,hx,hp,rfl⟩
def gM (ρ:dp) (b:Nat) (r:uD):dp:=fun x=>if x=b then some r else ρ x
theorem pg {b:Nat} {r:uD} (hn:ρ b=none):ρ.le (gM ρ b r):=by
 intro x rx hx
 unfold gM
 by_cases h:x=b
 ·subst h;rw[hn] at hx;cases hx
 ·rw[if_neg h];exact hx
theorem cu.fresh (S:cu CC ρ h w):ρ h.next=none:=by
 cases e:ρ h.next with
 |none=>rfl
 |some r=>have:=(S.low _ _ e).1;omega
theorem cu.add (S:cu CC ρ h w) {o:nr} {co:Obj} {im:uD} (him:im.aA=w.heap.size) (hob:gh CC (gM ρ h.next im) im o (w.alloc co)):
  cu CC (gM ρ h.next im) (h.new o) (w.alloc co)∧Ext ρ h w (gM ρ h.next im) (h.new o) (w.alloc co):=by
 have hle:=pg (r:=im) S.fresh
 have hsz:(w.alloc co).heap.size=w.heap.size+1:=Array.size_push _
 have hold: ∀k,k<w.heap.size→(w.alloc co).heap[k]? =w.heap[k]? :=by
  intro k hk
  show(w.heap.push co)[k]? =_
  rw[Array.getElem?_push,if_neg (by omega)]
 have hcase: ∀x rx,gM ρ h.next im x=some rx→(x=h.next∧rx=im)∨(x≠h.next∧ρ x=some rx):=by
  intro x rx hx
  unfold gM at hx
  by_cases e:x=h.next
  ·rw[if_pos e] at hx;cases hx;exact .inl ⟨e,rfl⟩
  ·rw[if_neg e] at hx;exact .inr ⟨e,hx⟩
 have hget: ∀x,(h.new o).tr.get x=if x=h.next then some o else h.tr.get x:=fun x=>Tr.aN _ _ _ _
 refine⟨⟨?_,?_,?_,fun x p hp=> ?_⟩,⟨hle,?_,by omega,rfl,rfl,rfl,fun k hk _=>hold k hk,?_,?_,?_⟩⟩
 rotate_left 3
 ·rw[hget] at hp
  by_cases e:x=h.next
  ·subst e;simp[ae.new]
  ·rw[if_neg e] at hp
   have:=S.wf x p hp
   simp only[ae.new];omega
 rotate_left 4
 ·intro x rx hx
  rcases hcase x rx hx with⟨rfl,rfl⟩|⟨hne,hx⟩
  ·exact⟨by simp[ae.new],by rw[hsz,him];omega⟩
  ·have:=S.low x rx hx
   exact⟨by simp only[ae.new];omega,by omega⟩
 ·intro x rx p hx hp
  rw[hget] at hp
  rcases hcase x rx hx with⟨rfl,rfl⟩|⟨hne,hx⟩
  ·rw[if_pos rfl] at hp;cases hp;exact hob
  ·rw[if_neg hne] at hp
   exact gh.mono hle (hold _ (S.low x rx hx).2) (S.obj x rx p hx hp)
 ·intro x y rx ry p hx hy hw hp hne
  rw[hget] at hp
  rcases hcase x rx hx with⟨ex,er⟩|⟨hnx,hx2⟩<;>rcases hcase y ry hy with⟨ey,er'⟩|⟨hny,hy2⟩
  ·exact absurd (ex.trans ey.symm) hne
  ·have:=(S.low y ry hy2).2;rw[er,him];omega
  ·have:=(S.low x rx hx2).2;rw[er',him];omega
  ·rw[if_neg hny] at hp
   obtain⟨q,hq,hqr⟩:=hw
   rw[hget,if_neg hnx] at hq
   exact S.inj x y rx ry p hx2 hy2 ⟨q,hq,hqr⟩ hp hne
 ·simp[ae.new]
 ·intro x rx hx hw
  rcases hcase x rx hx with⟨rfl,rfl⟩|⟨hne,hx⟩
  ·exact .inl (by omega)
  ·obtain⟨q,hq,hqr⟩:=hw
   rw[hget,if_neg hne] at hq
   exact .inr ⟨x,rx,hx,⟨q,hq,hqr⟩,rfl⟩
 ·intro x rx hx hn
  rcases hcase x rx hx with⟨rfl,rfl⟩|⟨hne,hx⟩
  ·exact Nat.le_refl _
  ·rw[hx] at hn;cases hn
 ·intro x rx p hx hp
  rcases hcase x rx hx with⟨rfl,rfl⟩|⟨hne,hx⟩
  ·exact .inl (by omega)
  ·rw[hget,if_neg hne] at hp
   exact .inr ⟨x,rx,p,hx,hp,rfl⟩
theorem cu.less (S:cu CC ρ h w) (b:Nat):cu CC ρ { h with tr:=h.tr.del b } w∧Ext ρ h w ρ { h with tr:=h.tr.del b } w:=by
 have hget: ∀x p,({ h with tr:=h.tr.del b } :ae).tr.get x=some p→h.tr.get x=some p:=by
  intro x p hx
  simp only[Tr.ke] at hx
  by_cases e:x=b
  ·rw[if_pos e] at hx;cases hx
  ·rwa [if_neg e] at hx
 refine⟨⟨S.low,fun x r o hx ho=>S.obj x r o hx (hget x o ho),fun x y rx ry p hx hy ⟨q,hq,hqr⟩ hp hne=>S.inj x y rx ry p hx hy ⟨q,hget x q hq,hqr⟩ (hget y p hp) hne,fun x p hp=>S.wf x p (hget x p hp)⟩,
  ⟨ρ.le_refl,Nat.le_refl _,Nat.le_refl _,rfl,rfl,rfl,fun _ _ _=>rfl,fun x r hx ⟨q,hq,hqr⟩=> .inr ⟨x,r,hx,⟨q,hget x q hq,hqr⟩,rfl⟩,fun x r h1 h2=>(by rw[h1] at h2;cases h2),fun x r p hx hp=> .inr ⟨x,r,p,hx,hget x p hp,rfl⟩⟩⟩
theorem cu.move (S:cu CC ρ h w) {b:Nat} {r im:uD} {o o':nr} (hb:ρ b=some r) (ho:h.tr.get b=some o) (hrw:o.rw=true)
  (him:im.aA=r.aA) (ha:FL r.aA w w') (hob:gh CC (gM ρ h.next im) im o' w'):
  cu CC (gM ρ h.next im) (({ h with tr:=h.tr.del b } :ae).new o') w'∧Ext ρ h w (gM ρ h.next im) (({ h with tr:=h.tr.del b } :ae).new o') w':=by
 have hwr:dm h b:=⟨o,ho,hrw⟩
 have hle:=pg (r:=im) S.fresh
 have hcase: ∀x rx,gM ρ h.next im x=some rx→(x=h.next∧rx=im)∨(x≠h.next∧ρ x=some rx):=by
  intro x rx hx
  unfold gM at hx
  by_cases e:x=h.next
  ·rw[if_pos e] at hx;cases hx;exact .inl ⟨e,rfl⟩
  ·rw[if_neg e] at hx;exact .inr ⟨e,hx⟩
 have hget: ∀x,(({ h with tr:=h.tr.del b } :ae).new o').tr.get x=if x=h.next then some o' else if x=b then none else h.tr.get x:=by
  intro x
  simp only[ae.new,Tr.aN,Tr.ke]
 have hold: ∀x p,x≠h.next→(({ h with tr:=h.tr.del b } :ae).new o').tr.get x=some p→x≠b∧h.tr.get x=some p:=by
  intro x p hx hp
  rw[hget,if_neg hx] at hp
  by_cases e:x=b
  ·rw[if_pos e] at hp;cases hp
  ·rw[if_neg e] at hp;exact⟨e,hp⟩
 refine⟨⟨?_,?_,?_,fun x p hp=> ?_⟩,⟨hle,by simp[ae.new],Nat.le_of_eq ha.size.symm,ha.os,ha.tape,ha.output,?_,?_,?_,?_⟩⟩
 rotate_left 3
 ·rw[hget] at hp
  by_cases e:x=h.next
  ·subst e;simp[ae.new]
  ·rw[if_neg e] at hp
   by_cases e2:x=b
   ·rw[if_pos e2] at hp;cases hp
   ·rw[if_neg e2] at hp
    have:=S.wf x p hp
    simp only[ae.new];omega
 rotate_left 4
 ·intro x rx hx
  rcases hcase x rx hx with⟨rfl,rfl⟩|⟨hne,hx⟩
  ·exact⟨by simp[ae.new],by rw[him,ha.size];exact(S.low b r hb).2⟩
  ·have:=S.low x rx hx
   exact⟨by simp only[ae.new];omega,by rw[ha.size];exact this.2⟩
 ·intro x rx p hx hp
  rcases hcase x rx hx with⟨rfl,rfl⟩|⟨hne,hx⟩
  ·rw[hget,if_pos rfl] at hp;cases hp;exact hob
  ·obtain⟨hxb,hp⟩:=hold x p hne hp
   exact gh.mono hle (ha.other _ (S.inj b x r rx p hb hx hwr hp (Ne.symm hxb)).symm) (S.obj x rx p hx hp)
 ·intro x y rx ry p hx hy hw hp hne
  obtain⟨q,hq,hqr⟩:=hw
  rcases hcase x rx hx with⟨ex,er⟩|⟨hnx,hx2⟩<;>rcases hcase y ry hy with⟨ey,er'⟩|⟨hny,hy2⟩
  ·exact absurd (ex.trans ey.symm) hne
  ·obtain⟨hyb,hp⟩:=hold y p hny hp
   rw[er,him]
   exact S.inj b y r ry p hb hy2 hwr hp (Ne.symm hyb)
  ·obtain⟨hxb,hq⟩:=hold x q hnx hq
   rw[er',him]
   exact S.inj x b rx r o hx2 hb ⟨q,hq,hqr⟩ ho hxb
  ·obtain⟨hxb,hq⟩:=hold x q hnx hq
   obtain⟨hyb,hp⟩:=hold y p hny hp
   exact S.inj x y rx ry p hx2 hy2 ⟨q,hq,hqr⟩ hp hne
 ·intro k _ hk
  exact ha.other k (fun e=>hk b r hb hwr e.symm)
 ·intro x rx hx hw
  obtain⟨q,hq,hqr⟩:=hw
  rcases hcase x rx hx with⟨rfl,rfl⟩|⟨hne,hx⟩
  ·exact .inr ⟨b,r,hb,hwr,him.symm⟩
  ·obtain⟨_,hq⟩:=hold x q hne hq
   exact .inr ⟨x,rx,hx,⟨q,hq,hqr⟩,rfl⟩
 ·intro x rx hx hn
  rcases hcase x rx hx with⟨rfl,rfl⟩|⟨hne,hx⟩
  ·exact Nat.le_refl _
  ·rw[hx] at hn;cases hn
 ·intro x rx p hx hp
  rcases hcase x rx hx with⟨rfl,rfl⟩|⟨hne,hx⟩
  ·exact .inr ⟨b,r,o,hb,ho,him.symm⟩
  ·obtain⟨_,hp⟩:=hold x p hne hp
   exact .inr ⟨x,rx,p,hx,hp,rfl⟩
theorem vj (S:cu CC ρ h w) {b off n:Nat} {r:uD} {cs:List Value} (hb:ρ b=some r) (hr:aT h b off n=some cs):
  cs.length=n∧ ∃ccs:List Value,All2 (KR ρ) cs ccs∧ ∀(j:Nat) (v:Value),ccs[j]? =some v→w.cell? ((⟨r.aA,r.base+off,none⟩:Addr).add j)=some v:=by
 unfold aT at hr
 split at hr
 ·rename_i cells ro op s ho
  by_cases hl:((cells.drop off).take n).length=n
  ·simp only[hl,Nat.beq_refl] at hr
   simp only[if_true,Option.some.injEq] at hr
   subst hr
   refine⟨hl,?_⟩
   obtain⟨ccs,el,fr,h1,_,_,_,_,h7⟩:=S.obj b r _ hb ho
   have hj: ∀(j:Nat) (v:Value),((cells.drop off).take n)[j]? =some v→ ∃c,ccs[r.base+off+j]? =some c∧KR ρ v c:=by
    intro j v hv
    rw[List.getElem?_take] at hv
    split at hv
    ·rw[List.getElem?_drop] at hv
     obtain⟨c,hc,hk⟩:=h7 _ _ hv
     exact⟨c,by rw[←hc];congr 1;omega,hk⟩
    ·cases hv
   refine⟨(ccs.toList.drop (r.base+off)).take n,?_,?_⟩
   ·refine All2.MI ?_ ?_
    ·rw[hl]
     by_cases h0:n=0
     ·subst h0;simp
     ·have:((cells.drop off).take n)[n-1]? =some ((cells.drop off).take n)[n-1]:=aQ (by omega)
      obtain⟨c,hc,_⟩:=hj _ _ this
      have hlt:=(Array.getElem?_eq_some_iff.1 hc).1
      simp;omega
    ·intro i a c ha hc
     obtain⟨c',hc',hk⟩:=hj i a ha
     rw[List.getElem?_take] at hc
     split at hc
     ·rw[List.getElem?_drop] at hc
      have:ccs.toList[r.base+off+i]? =some c':=by simpa using hc'
      rw[this] at hc;cases hc;exact hk
     ·cases hc
   ·intro j v hv
    rw[List.getElem?_take] at hv
    split at hv
    ·rw[List.getElem?_drop] at hv
     rw[l9]
     have:ccs[r.base+off+j]? =some v:=by simpa using hv
     simp[World.cell?,h1,this]
    ·cases hv
  ·have:Nat.beq ((cells.drop off).take n).length n=false:=by
    cases hb:Nat.beq ((cells.drop off).take n).length n with
    |false=>rfl
    |true=>exact absurd (Nat.eq_of_beq_eq_true hb) hl
   simp only[this] at hr
   simp at hr
 ·cases hr
theorem ug {cs vs:List Value} {off:Nat} (h:off+vs.length≤cs.length):(aK cs off vs).length=cs.length:=by
 simp[aK];omega
theorem jy {cs vs:List Value} {off j:Nat} (h:off+vs.length≤cs.length):(aK cs off vs)[j]? =if off≤j∧j<off+vs.length then vs[j-off]? else cs[j]? :=by
 unfold aK
 by_cases h1:j<off
 ·rw[if_neg (by omega),List.append_assoc,List.getElem?_append_left (by simp;omega),List.getElem?_take,if_pos h1]
 ·by_cases h2:j<off+vs.length
  ·rw[if_pos ⟨by omega,h2⟩,List.append_assoc,List.getElem?_append_right (by simp;omega),List.length_take,Nat.min_eq_left (by omega),List.getElem?_append_left (by omega)]
  ·rw[if_neg (by omega),List.getElem?_append_right (by simp;omega),List.length_append,List.length_take,Nat.min_eq_left (by omega),List.getElem?_drop]
   congr 1;omega
theorem tc (S:cu CC ρ h w) {b off:Nat} {r:uD} {vs cvs:List Value} {h':ae} (hb:ρ b=some r) (hw:jk h b off vs=some h') (hv:All2 (KR ρ) vs cvs):
  ∃w',(storeCells ⟨r.aA,r.base+off,none⟩ cvs).run P w= .ok () w'∧cu CC ρ h' w'∧Ext ρ h w ρ h' w':=by
 unfold jk at hw
 split at hw
 ·rename_i cells op s ho
  by_cases hl:off+vs.length≤cells.length
  ·rw[if_pos (Nat.ble_eq_true_of_le hl)] at hw
   cases hw
   obtain⟨ccs,el,fr,h1,h2,h3,h5,h6,h7⟩:=S.obj b r _ hb ho
   have hfr:fr=(0,0):=h6 rfl
   subst hfr
   have hlen:=hv.length
   by_cases h0:vs.length=0
   ·have hv0:vs=[]:=List.eq_nil_of_length_eq_zero h0
    have hc0:cvs=[]:=List.eq_nil_of_length_eq_zero (by omega)
    subst hv0;subst hc0
    refine⟨w,rfl,cu.qV S hb ho rfl ⟨rfl,rfl,rfl,rfl,fun _ _=>rfl⟩ ?_ _⟩
    have:aK cells off []=cells:=by simp[aK]
    rw[this]
    exact⟨ccs,el,(0,0),h1,h2,h3,h5,h6,h7⟩
   have hfit:r.base+off+0+cvs.length≤ccs.size:=by
    have:cells[off+vs.length-1]? =some cells[off+vs.length-1]:=aQ (by omega)
    obtain⟨c,hc,_⟩:=h7 _ _ this
    have hlt:=(Array.getElem?_eq_some_iff.1 hc).1
    omega
   have hrun:=run_storeCells_at (P:=P) r.aA (r.base+off) el cvs 0 ccs w h1 hfit (fun v hm=>by
    obtain⟨i,hi⟩:=pM hm
    have hx:vs[i]? =some (vs[i]'(by rw[hlen];exact(bY.1 hi).1)):=aQ _
    obtain⟨c,hc,hk⟩:=hv.get hx
    rw[hi] at hc;cases hc
    exact p9 hk.plain.2)
   refine⟨_,hrun,?_⟩
   refine cu.qV S hb ho rfl (FL.row _ _) ?_ _
   have hspl:ccs.toList.take (r.base+off+0)++cvs++ccs.toList.drop (r.base+off+0+cvs.length)=aK ccs.toList (r.base+off) cvs:=by simp[aK]
   refine⟨_,el,(0,0),setRow_heap w r.aA ccs _ el _ h1,by rw[ug hl];exact h2,h3,⟨?_,?_⟩,fun _=>rfl,?_⟩
   rotate_left 1
   ·intro hop j c hj hc
    rw[hspl] at hc
    simp only[List.getElem?_toArray] at hc
    rw[jy (by simpa using hfit),if_neg (by omega)] at hc
    exact h5.2 hop j c hj (by simpa using hc)
   rotate_left 1
   ·rw[h5.1]
    simp only[List.size_toArray,List.length_append,List.length_take,List.length_drop,Array.length_toList]
    omega
   intro j v hj
   rw[jy hl] at hj
   rw[hspl]
   have hg:=jy (cs:=ccs.toList) (vs:=cvs) (off:=r.base+off) (j:=r.base+j) (by simpa using hfit)
   simp only[List.getElem?_toArray]
   rw[hg]
   by_cases hin:off≤j∧j<off+vs.length
   ·rw[if_pos hin] at hj
    rw[if_pos (by omega)]
    obtain⟨c,hc,hk⟩:=hv.get hj
    exact⟨c,by rw[←hc];congr 1;omega,hk⟩
   ·rw[if_neg hin] at hj
    rw[if_neg (by omega)]
    obtain⟨c,hc,hk⟩:=h7 j v hj
    exact⟨c,by simpa using hc,hk⟩
  ·have:Nat.ble (off+vs.length) cells.length=false:=by
    cases hb:Nat.ble (off+vs.length) cells.length with
    |false=>rfl
    |true=>exact absurd (Nat.le_of_ble_eq_true hb) hl
   rw[this] at hw
   simp at hw
 ·cases hw
end
def Out (CC:bI) (ρ:dp) (h:ae) (w:World) (v:Value) (h':ae) (r:Result Next):Prop:=
 ∃ρ' w' c,(r= .ok (.value c) w'∨(c=undef∧r= .ok .skip w'))∧VR ρ' v c∧cu CC ρ' h' w'∧Ext ρ h w ρ' h' w'
section
variable {P:Program} {CC:bI} {ρ:dp} {h:ae} {w:World} {T:mV} {ng:Nat} {e:Env} {a:Act}
theorem Out.same (S:cu CC ρ h w) {v c:Value} {r:Result Next} (hr:r= .ok (.value c) w) (hv:VR ρ v c):Out CC ρ h w v h r:=
 ⟨ρ,w,c,.inl hr,hv,S,.refl ρ h w⟩
theorem cA {s:Sem Value} {c:Value} {w':World} (hs:s.run P w= .ok c w'):((do pure (Next.value (←s))):Sem Next).run P w= .ok (.value c) w':=by
 simp[hs]
theorem uP {α:Type} {l:Array α} {i:Nat} {x:α} (h:l[i]? =some x):i<l.size:=(Array.getElem?_eq_some_iff.1 h).1
theorem wH (w:World) (o:Obj):(w.alloc o).heap[w.heap.size]? =some o:=by
 show(w.heap.push o)[w.heap.size]? =some o
 simp
theorem vd (S:cu CC ρ h w) {cs ccs rest:List Value} (hv:All2 (KR ρ) cs ccs) (el:Nat) (yW:Nat) (hrest:yW≠0→ ∀c∈rest,bx c=true):
  ∃im:uD,im.aA=w.heap.size∧im.base=0∧im.len=cs.length∧im.yW=yW∧im.room=(ccs++rest).length∧
   cu CC (gM ρ h.next im) (aH h cs yW) (w.alloc (.cells ⟨ccs++rest⟩ el))∧Ext ρ h w (gM ρ h.next im) (aH h cs yW) (w.alloc (.cells ⟨ccs++rest⟩ el)):=by
 refine⟨⟨w.heap.size,0,cs.length,yW,(ccs++rest).length⟩,rfl,rfl,rfl,rfl,rfl,?_⟩
 refine cu.add S rfl ?_
 refine⟨_,_,_,wH w _,rfl,rfl,⟨Nat.zero_add _,?_⟩,fun _=>rfl,?_⟩
 ·intro hop j c hj hc
  dsimp only at hj hc
  rw[show(⟨ccs++rest⟩:Array Value)[0+j]? =(ccs++rest)[0+j]? by simp,Nat.zero_add,List.getElem?_append_right (by rw[←hv.length];exact hj)] at hc
  exact hrest hop c (di hc)
 intro j v hj
 obtain⟨c,hc,hk⟩:=hv.get hj
 refine⟨c,?_,hk.mono (pg S.fresh)⟩
 show(⟨ccs++rest⟩:Array Value)[0+j]? =some c
 rw[show(⟨ccs++rest⟩:Array Value)[0+j]? =(ccs++rest)[0+j]? by simp,Nat.zero_add,List.getElem?_append_left (bY.1 hc).1,hc]
theorem kK (ρ:dp) (b:Nat) (r:uD):gM ρ b r b=some r:=by simp[gM]
theorem Ge {im:uD} (hb:im.aA=w.heap.size) (h0:im.base=0):VR (gM ρ h.next im) (.pointer (some ⟨h.next,0,none⟩)) (.pointer (some ⟨w.heap.size,0,none⟩)):=by
 have:=CR.ptr (ρ:=gM ρ h.next im) (o:=0) (kK ρ h.next im)
 rw[hb,h0] at this
 exact this.vr
theorem yF (el:TypeId) (v:Value):(newVar el v).run P w= .ok ⟨w.heap.size,0,none⟩ (w.alloc (.cells v.cells el)):=rfl
theorem p6 {t:Nat} {i:TI} (hi:pI P t i): ∃z,(zeroValue t).run P w= .ok z w∧z.cells.toList=i.zero:=by
 obtain⟨ti,h1,_,_,z,h2,h3⟩:=hi.info
 exact⟨z,by simp[zeroValue,typeInfo,h1,h2],h3⟩
theorem eo {t:Nat} {i:TI} (hi:pI P t i):(sizeOf t).run P w= .ok i.size w∧P.cellsOf t=i.size:=by
 obtain⟨ti,h1,h2,_⟩:=hi.info
 exact⟨by simp[sizeOf,typeInfo,h1,h2],by simp[Program.cellsOf,h1,h2]⟩
theorem mT {t:Nat} {i:TI} (hi:pI P t i):(isAgg t).run P w= .ok i.agg w:=by
 simp only[isAgg,Sem.run_bind,run_underlying hi.u,Result.andThen_ok,hi.agg]
 cases i.u<;>rfl
theorem Kw (v:Value) (l:List Value) (h:v.cells.toList=l):v.cells=⟨l++[]⟩:=by
 cases hc:v.cells with
 |mk x=>rw[hc] at h;simp at h;simp[h]
theorem JV (S:cu CC ρ h w) {t:Nat} {i:TI} (hi:pI P t i):
  Out CC ρ h w (.pointer (some ⟨h.next,0,none⟩)) (aH h i.zero 0) (((do pure (Next.value (←Instr.alloc t true (.tuple #[])))):Sem Next).run P w):=by
 obtain⟨z,hz,hzc⟩:=p6 (w:=w) hi
 obtain⟨im,h1,h2,_,_,_,h3,h4⟩:=vd (rest:=[]) S (c_ hi.zero) t 0 (fun h=>absurd rfl h)
 rw[←Kw z _ hzc] at h3 h4
 refine⟨_,_,_,.inl (cA ?_),Ge h1 h2,h3,h4⟩
 simp[Instr.alloc,hz,yF]
theorem Na (S:cu CC ρ h w) {t:Nat} {v c:Value} {vs:List Value} (hv:VR ρ v c) (hf:flat v=some vs):
  Out CC ρ h w (.pointer (some ⟨h.next,0,none⟩)) (aH h vs 0) (((do pure (Next.value (←Instr.box t c))):Sem Next).run P w):=by
 obtain⟨im,h1,h2,_,_,_,h3,h4⟩:=vd (rest:=[]) S (y5 hv hf) t 0 (fun h=>absurd rfl h)
 rw[←Kw c _ rfl] at h3 h4
 refine⟨_,_,_,.inl (cA ?_),Ge h1 h2,h3,h4⟩
 simp[Instr.box,yF]
theorem GY (S:cu CC ρ h w) {t:Nat} {i:TI} (hi:pI P t i) {b off:Nat} {r:uD} {cs:List Value} {v:Value} (hb:ρ b=some r)
  (hr:aT h b off (width (tw i))=some cs) (hv:agg (tw i) cs=some v):
  ∃c,(loadVar t ⟨r.aA,r.base+off,none⟩).run P w= .ok c w∧VR ρ v c:=by
 obtain⟨hl,ccs,hk,hc⟩:=vj S hb hr
 have hsz:=(eo (w:=w) hi).1
 cases hag:i.agg with
 |true=>
  simp only[tw,hag,cond_true,width] at hl hv
  have hlen:=hk.length
  simp only[agg,hl,Nat.beq_refl,if_true,Option.some.injEq] at hv
  subst hv
  refine⟨.agg ccs.toArray,?_,.val (.agg hk)⟩
  simp only[loadVar,Sem.run_bind,mT hi,hag,Result.andThen_ok,if_true,hsz]
  rw[←hl,hlen,run_loadCells_list w _ ccs hc]
  rfl
 |false=>
  simp only[tw,hag,cond_false,width] at hl hv
  match cs,ccs,hk,hl with
  |[x],[y],.cons hxy .nil,_=>
   simp only[agg,Option.some.injEq] at hv
   subst hv
   have h0:=hc 0 y rfl
   rw[l9,Nat.add_zero] at h0
   refine⟨y,?_,hxy.vr⟩
   simp[loadVar,mT hi,hag,h0]
theorem Jj (S:cu CC ρ h w) {t:Nat} {i:TI} (hi:pI P t i) {b off:Nat} {r:uD} {v c:Value} {vs:List Value} {h':ae} (hb:ρ b=some r)
  (hv:VR ρ v c) (hf:flat v=some vs) (hl:vs.length=i.size) (hw:jk h b off vs=some h'):
  ∃w',(storeVar t ⟨r.aA,r.base+off,none⟩ c).run P w= .ok () w'∧cu CC ρ h' w'∧Ext ρ h w ρ h' w':=by
 have hk:=y5 hv hf
 obtain⟨w',hrun,S',E'⟩:=tc S hb hw hk
 refine⟨w',?_,S',E'⟩
 have hsz:=(eo (w:=w) hi).1
 have hcs:c.cells.size=i.size:=by rw[←hl,hk.length];simp
 simp only[storeVar,Sem.run_bind,hsz,Result.andThen_ok,hcs,ne_eq,not_true_eq_false,if_false]
 simpa using hrun
theorem DW {t:Nat} {i:TI} (hi:pI P t i) {l m:List Value} {off:Nat} {v:Value} (hk:All2 (KR ρ) l m)
  (hv:agg (tw i) ((l.drop off).take (width (tw i)))=some v): ∃c,(part t ⟨m⟩ off).run P w= .ok c w∧VR ρ v c:=by
 have hk':=(hk.drop off).take (width (tw i))
 cases hag:i.agg with
 |true=>
  simp only[tw,hag,cond_true,width,agg] at hv hk'
  split at hv
  ·cases hv
   refine⟨.agg ⟨(m.drop off).take i.size⟩,?_,.val (.agg hk')⟩
   simp only[part,Sem.run_bind,mT hi,hag,Result.andThen_ok,if_true,(eo (w:=w) hi).1,Sem.run_pure]
   congr 2
   simp
  ·cases hv
 |false=>
  simp only[tw,hag,cond_false,width,agg] at hv hk'
  split at hv
  ·rename_i x hx
   cases hv
   rw[hx] at hk'
   match hm:(m.drop off).take 1,hk' with
   |[y],.cons hxy .nil=>
    refine⟨y,?_,hxy.vr⟩
    have hy:m[off]? =some y:=by
     have:((m.drop off).take 1)[0]? =some y:=by rw[hm];rfl
     simpa [List.getElem?_take,List.getElem?_drop] using this
    simp[part,mT hi,hag,hy]
  ·cases hv
theorem zn (hE:ER ρ e a.tmps) (hG:bJ ng ρ) (place:Nat→Option (Nat×Nat)):
  ∀(ps:List (Nat×Operand)) (qs:List (Nat×Nat×Operand)) (l m:List Value) (r:List Value),ps.all (fun p=>aR ng p.2)=true→
   All2 (fun(p:Nat×Operand) (q:Nat×Nat×Operand)=>place p.1=some (q.1,q.2.1)∧q.2.2=p.2) ps qs→
   All2 (KR ρ) l m→pz e l qs=some r→ ∃s:List Value,Instr.fill place ⟨m⟩ (ps.map fun p=>(p.1,a.eval p.2))=some ⟨s⟩∧All2 (KR ρ) r s:=by
 intro ps
 induction ps with
 |nil=>
  intro qs l m r _ hpq hk hr
  cases hpq
  simp only[pz,Option.some.injEq] at hr
  subst hr
  exact⟨m,rfl,hk⟩
 |cons p ps ih=>
  intro qs l m r hok hpq hk hr
  obtain⟨j,x⟩:=p
  cases hpq with
  | @cons _ q _ qs hq hqs=>
  obtain⟨off,n,y⟩:=q
  obtain⟨hp,rfl⟩:=hq
  simp only[List.all_cons,Bool.and_eq_true] at hok
  simp only[pz] at hr
  split at hr
  ·rename_i vs hf
   split at hr
   ·rename_i hcond
    simp only[Bool.and_eq_true] at hcond
    have hn:=Nat.eq_of_beq_eq_true hcond.1
    have hle:=Nat.le_of_ble_eq_true hcond.2
    have hv:=y5 (hE.eval hG hok.1) hf
    have hlm:=hk.length
    have hlv:=hv.length
    have hspl:All2 (KR ρ) (aK l off vs) (aK m off (a.eval y).cells.toList):=by
     unfold aK
     rw[←hlv]
     exact((hk.take off).app hv).app (hk.drop _)
    obtain⟨s,hs,hrs⟩:=ih qs _ _ r hok.2 hqs hspl hr
    refine⟨s,?_,hrs⟩
    rw[←hs]
    simp only[List.map_cons,Instr.fill,hp]
    have hsz:(a.eval y).cells.size=n:=by rw[←hn,hlv];simp
    rw[if_neg (by simp[hsz];omega)]
    congr 1
    have key: ∀(vs:List Value) (k:Nat) (m:List Value),off+k+vs.length≤m.length→
      (vs.zipIdx k).foldl (fun(cs:Array Value) (x:Value×Nat)=>cs.setIfInBounds (off+x.2) x.1) ⟨m⟩=⟨aK m (off+k) vs⟩:=by
     intro vs
     induction vs with
     |nil=>intro k m _;simp[aK]
     |cons v vs ih=>
      intro k m hm
      simp only[List.zipIdx_cons,List.foldl_cons]
      have:(Array.setIfInBounds ⟨m⟩ (off+k) v)=⟨m.set (off+k) v⟩:=by simp
      rw[this,ih (k+1) (m.set (off+k) v) (by simp at hm ⊢;omega)]
      congr 1
      simp at hm
      apply List.ext_getElem?
      intro i
      rw[jy (by simp;omega),jy (by simp;omega)]
      by_cases h1:off+(k+1)≤i∧i<off+(k+1)+vs.length
      ·rw[if_pos h1,if_pos (by simp;omega)]
       rw[show i-(off+k)=(i-(off+(k+1)))+1 by omega]
       simp
      ·rw[if_neg h1]
       by_cases h2:i=off+k
       ·subst h2
        rw[if_pos (by simp)]
        simp[List.getElem?_set_self (show off+k<m.length by omega)]
       ·rw[if_neg (by simp;omega),List.getElem?_set_ne (Ne.symm h2)]
    have:=key (a.eval y).cells.toList 0 m (by rw[Nat.add_zero,←hlv,hn,←hlm];exact hle)
    rw[←Array.foldl_toList]
    simpa using this
   ·cases hr
  ·cases hr
end
end Go.AI
