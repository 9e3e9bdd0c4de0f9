/- Parts of the proof. -/
import Derived.ChangeKeysEq
import Derived.Test.YtdkdbjecehcekaaGreatDoorP00
import Derived.Laws.MakeOwn
import Derived.Laws.AppendOwn
set_option linter.all false
set_option linter.unusedSimpArgs false
set_option linter.unusedVariables false
set_option linter.unnecessarySimpa false
namespace Go.AI
theorem rM: ∀ {ks ks':List Nat} {a a' b b':List Value} {x:Bool},a.length=ks.length→a'.length=ks.length→bp (ks++ks') (a++b) (a'++b')=some x→
  ∃y z,bp ks a a'=some y∧bp ks' b b'=some z∧x=(y&&z):=by
 intro ks
 induction ks with
 |nil=>
  intro ks' a a' b b' x hl hl' h
  cases a with
  |cons=>simp at hl
  |nil=>cases a' with
   |cons=>simp at hl'
   |nil=>exact⟨true,x,rfl,h,by simp⟩
 |cons k ks ih=>
  intro ks' a a' b b' x hl hl' h
  cases a with
  |nil=>simp at hl
  |cons v a=>cases a' with
   |nil=>simp at hl'
   |cons v' a'=>
    simp only[List.cons_append,bp] at h
    cases h1:eu k v v' with
    |none=>simp[h1] at h
    |some p=>
     cases h2:bp (ks++ks') (a++b) (a'++b') with
     |none=>simp[h1,h2] at h
     |some q=>
      simp only[h1,h2,Option.some.injEq] at h
      obtain⟨y,z,hy,hz,rfl⟩:=ih (by simpa using hl) (by simpa using hl') h2
      refine⟨p&&y,z,by simp[bp,h1,hy],hz,?_⟩
      rw[←h,Bool.and_assoc]
theorem dE: ∀ {ks:List Nat} {a b:List Value} {x:Bool},bp ks a b=some x→a.length=ks.length∧b.length=ks.length:=by
 intro ks
 induction ks with
 |nil=>intro a b x h;cases a with
  |nil=>cases b with
   |nil=>exact⟨rfl,rfl⟩
   |cons=>simp[bp] at h
  |cons=>cases b<;>simp[bp] at h
 |cons k ks ih=>
  intro a b x h
  cases a with
  |nil=>simp[bp] at h
  |cons v a=>cases b with
   |nil=>simp[bp] at h
   |cons v' b=>
    simp only[bp] at h
    cases h1:eu k v v' with
    |none=>simp[h1] at h
    |some p=>
     cases h2:bp ks a b with
     |none=>simp[h1,h2] at h
     |some q=>have:=ih h2;simp[this.1,this.2]
section
variable {P:Program} {T:mV} {ρ:dp}
theorem Fi {k:Nat} {v v' c c':Value} {x:Bool} (h:KR ρ v c) (h':KR ρ v' c') (he:eu k v v'=some x):eu k c c'=some x:=by
 have:c=v∧c'=v':=by
  unfold eu at he
  split at he
  ·cases h with
   |cell h=>cases h;cases h' with
    |cell h'=>cases h';exact⟨rfl,rfl⟩
  ·cases h with
   |cell h=>cases h;cases h' with
    |cell h'=>cases h';exact⟨rfl,rfl⟩
  ·cases h with
   |cell h=>cases h;cases h' with
    |cell h'=>cases h';exact⟨rfl,rfl⟩
  ·cases he
 rw[this.1,this.2,he]
theorem rp: ∀ {ks:List Nat} {l m l' m':List Value} {x:Bool},All2 (KR ρ) l m→All2 (KR ρ) l' m'→bp ks l l'=some x→bp ks m m'=some x:=by
 intro ks
 induction ks with
 |nil=>
  intro l m l' m' x h h' he
  cases h with
  |nil=>cases h' with
   |nil=>exact he
   |cons=>simp[bp] at he
  |cons=>cases h'<;>simp[bp] at he
 |cons k ks ih=>
  intro l m l' m' x h h' he
  cases h with
  |nil=>simp[bp] at he
  | @cons v c l m hk hs=>cases h' with
   |nil=>simp[bp] at he
   | @cons v' c' l' m' hk' hs'=>
    simp only[bp] at he ⊢
    cases h1:eu k v v' with
    |none=>simp[h1] at he
    |some p=>
     cases h2:bp ks l l' with
     |none=>simp[h1,h2] at he
     |some q=>
      rw[Fi hk hk' h1,ih hs hs' h2]
      simpa [h1,h2] using he
def lM (i:TI) (l:List Value):Value:=bif i.agg then .agg ⟨l⟩ else l.headD (.tuple #[])
theorem mS {t:Nat} {i:TI} (hi:pI P t i) {m:List Value} {off:Nat} (hl:off+i.size≤m.length) (w:World):
  (part t ⟨m⟩ off).run P w= .ok (lM i ((m.drop off).take i.size)) w:=by
 cases hag:i.agg with
 |true=>
  simp only[part,Sem.run_bind,mT hi,hag,Result.andThen_ok,if_true,(eo (w:=w) hi).1,Sem.run_pure,lM,cond_true]
  congr 2
  simp
 |false=>
  have h1:=hi.plain hag
  have hlt:off<m.length:=by omega
  simp only[part,Sem.run_bind,mT hi,hag,Result.andThen_ok,lM,cond_false,h1]
  rw[List.drop_eq_getElem_cons hlt]
  have hg:(⟨m⟩:Array Value)[off]? =some m[off]:=by
   rw[show(⟨m⟩:Array Value)[off]? =m[off]? by simp,aQ hlt]
  rw[hg]
  rfl
theorem AL: ∀ {fs:List Field} {off n:Nat},kY T off fs=some n→off≤n:=by
 intro fs
 induction fs with
 |nil=>intro off n h;simp[kY] at h;omega
 |cons f fs ih=>
  intro off n h
  simp only[kY] at h
  cases hb:Nat.beq f.offset off with
  |false=>simp[hb] at h
  |true=>
   simp only[hb,cond_true] at h
   cases ht:T f.type with
   |none=>simp[ht] at h
   |some i=>simp only[ht] at h;have:=ih h;omega
theorem mI {k:Nat→Option (List Nat)} {f:Field} {fs:List Field} {ks:List Nat} (h:j_ k (f::fs)=some ks):
  f.name≠ "_" ∧ ∃a b,k f.type=some a∧j_ k fs=some b∧ks=a++b:=by
 simp only[j_] at h
 cases hn:f.name != "_" with
 |false=>simp[hn] at h
 |true=>
  simp only[hn,cond_true] at h
  refine⟨by simpa using hn,?_⟩
  split at h
  ·rename_i a b h1 h2
   cases h
   exact⟨a,b,h1,h2,rfl⟩
  ·cases h
theorem r9 (ks:List Nat): ∀n,(Ey ks n).length=n*ks.length
 |0=>by simp[Ey]
 |n+1=>by simp[Ey,r9 ks n,Nat.add_mul,Nat.add_comm]
theorem mL: ∀ {d t:Nat} {i:TI} {ks:List Nat},T t=some i→bQ P T→kinds T d t=some ks→ks.length=i.size:=by
 intro d
 induction d with
 |zero=>intro t i ks _ _ h;simp[kinds] at h
 |succ d ih=>
  intro t i ks hti hT h
  have hi:=hT t i hti
  simp only[kinds,hti] at h
  have hag:=hi.agg
  split at h
  ·rename_i hu;rw[hu] at hag;cases h;exact(hi.plain hag).symm
  ·rename_i hu;rw[hu] at hag;cases h;exact(hi.plain hag).symm
  ·rename_i hu;rw[hu] at hag;cases h;exact(hi.plain hag).symm
  ·rename_i fs hu
   split at h
   ·rename_i n hc
    cases hb:Nat.beq n i.size with
    |false=>simp[hb] at h
    |true=>
     simp only[hb,cond_true] at h
     rw[←Nat.eq_of_beq_eq_true hb]
     have key: ∀(gs:List Field) (off n:Nat) (ks:List Nat),kY T off gs=some n→j_ (kinds T d) gs=some ks→off+ks.length=n:=by
      intro gs
      induction gs with
      |nil=>intro off n ks h1 h2;simp[kY] at h1;simp[j_] at h2;subst h2;simpa using h1
      |cons f gs ihg=>
       intro off n ks h1 h2
       simp only[kY] at h1
       cases hb:Nat.beq f.offset off with
       |false=>simp[hb] at h1
       |true=>
        simp only[hb,cond_true] at h1
        cases ht:T f.type with
        |none=>simp[ht] at h1
        |some j=>
         simp only[ht] at h1
         obtain⟨_,a,b,ha,hb',rfl⟩:=mI h2
         have e1:=ih ht hT ha
         have e2:=ihg _ _ _ h1 hb'
         rw[List.length_append,e1]
         omega
     have:=key fs.toList 0 n ks hc h
     omega
   ·cases h
  ·rename_i n el hu
   split at h
   ·rename_i e he
    cases hb:Nat.beq (n*e.size) i.size with
    |false=>simp[hb] at h
    |true=>
     simp only[hb,cond_true] at h
     split at h
     ·rename_i ks' hk
      cases h
      rw[r9,ih he hT hk,Nat.eq_of_beq_eq_true hb]
     ·cases h
   ·cases h
  ·cases h
theorem wy (hT:bQ P T): ∀(d t:Nat) (i:TI) (dep:Nat) (ks:List Nat),T t=some i→kinds T d t=some ks→d≤dep→ ∀(l m:List Value) (x:Bool),
  bp ks l m=some x→ ∀w,(Op.equalIn dep t (lM i l) (lM i m)).run P w= .ok x w:=by
 intro d
 induction d with
 |zero=>intro t i dep ks _ h;simp[kinds] at h
 |succ d ih=>
  intro t i dep ks hti hfl hd l m x he w
  obtain⟨dep,rfl⟩: ∃k,dep=k+1:=⟨dep-1,by omega⟩
  have hi:=hT t i hti
  simp only[kinds,hti] at hfl
  have hag:=hi.agg
  have one: ∀k:Nat,bp [k] l m=some x→ ∃p q,l=[p]∧m=[q]∧eu k p q=some x:=by
   intro k he
   obtain⟨h1,h2⟩:=dE he
   match l,m,h1,h2 with
   |[p],[q],_,_=>
    refine⟨p,q,rfl,rfl,?_⟩
    simp only[bp] at he
    cases hpq:eu k p q with
    |none=>simp[hpq] at he
    |some y=>simpa [hpq] using he
  split at hfl
  ·rename_i hu
   rw[hu] at hag
   cases hfl
   obtain⟨p,q,rfl,rfl,hpq⟩:=one _ he
   simp only[lM,hag,kc,cond_false,List.headD_cons]
   unfold eu at hpq
   split at hpq
   ·cases hpq
    exact run_equalIn_bool' w dep t _ _ (by rw[hi.u,hu])
   ·omega
   ·omega
   ·cases hpq
  ·rename_i k hu
   rw[hu] at hag
   cases hfl
   obtain⟨p,q,rfl,rfl,hpq⟩:=one _ he
   simp only[lM,hag,kc,cond_false,List.headD_cons]
   unfold eu at hpq
   split at hpq
   ·omega
   ·split at hpq
    ·rename_i hk;subst hk
     cases hpq
     exact run_equalIn_int w dep t _ k _ _ (by rw[hi.u,hu])
    ·cases hpq
   ·omega
   ·cases hpq
  ·rename_i hu
   rw[hu] at hag
   cases hfl
   obtain⟨p,q,rfl,rfl,hpq⟩:=one _ he
   simp only[lM,hag,kc,cond_false,List.headD_cons]
   unfold eu at hpq
   split at hpq
   ·omega
   ·omega
   ·cases hpq
    rw[run_equalIn_string w dep t _ _ (by rw[hi.u,hu]),beq_toListBytes]
   ·cases hpq
  ·rename_i fs hu
   rw[hu] at hag
   have hut:P.underlying t=some (.struct fs):=by rw[hi.u,hu]
   have hfo:P.fieldsOf t=fs:=by simp[Program.fieldsOf,hut]
   simp only[lM,hag,kc,cond_true]
   rw[run_equalIn_struct w dep t _ _ (by rw[hfo];exact hut) (hi.held fs hu),hfo]
   split at hfl
   ·rename_i n hc
    cases hb:Nat.beq n i.size with
    |false=>simp[hb] at hfl
    |true=>
     simp only[hb,cond_true] at hfl
     have key: ∀(gs:List Field) (off:Nat) (ks:List Nat),kY T off gs=some n→j_ (kinds T d) gs=some ks→n=l.length→n=m.length→
       ∀y,bp ks (l.drop off) (m.drop off)=some y→ ∀w,(Op.eqFields dep ⟨l⟩ ⟨m⟩ gs).run P w= .ok y w:=by
      intro gs
      induction gs with
      |nil=>
       intro off ks hc hk hn hm y hy w
       simp only[kY,Option.some.injEq] at hc
       simp only[j_,Option.some.injEq] at hk
       subst hk
       have h1:l.drop off=[]:=List.drop_eq_nil_of_le (by omega)
       have h2:m.drop off=[]:=List.drop_eq_nil_of_le (by omega)
       rw[h1,h2] at hy
       simp only[bp,Option.some.injEq] at hy
       subst hy
       rfl
      |cons f gs ihg=>
       intro off ks hc hk hn hm y hy w
       simp only[kY] at hc
       cases hb:Nat.beq f.offset off with
       |false=>simp[hb] at hc
       |true=>
        simp only[hb,cond_true] at hc
        have hoff:=Nat.eq_of_beq_eq_true hb
        cases ht:T f.type with
        |none=>simp[ht] at hc
        |some j=>
         simp only[ht] at hc
         obtain⟨hname,a,b,ha,hbk,rfl⟩:=mI hk
         have hj:=hT _ _ ht
         have hle:=AL hc
         have hal:=mL ht hT ha
         have hspl: ∀z:List Value,z.drop off=(z.drop off).take j.size++z.drop (off+j.size):=by
          intro z
          rw[←List.drop_drop,List.take_append_drop]
         rw[hspl l,hspl m] at hy
         obtain⟨p,q,hp,hq,rfl⟩:=rM (by simp;omega) (by simp;omega) hy
         simp only[Op.eqFields,ne_eq,hname,not_false_eq_true,if_true,Sem.run_bind,hoff,mS hj (m:=l) (show off+j.size≤l.length by omega),
          mS hj (m:=m) (show off+j.size≤m.length by omega),Result.andThen_ok]
         rw[ih f.type j dep a ht ha (by omega) _ _ p hp]
         simp only[Result.andThen_ok]
         cases p with
         |true=>
          simp only[Bool.not_true,Bool.false_eq_true,if_false,Bool.true_and]
          exact ihg _ _ hc hbk hn hm q hq w
         |false=>simp
     have hkl:=mL (d:=d+1) hti hT (ks:=ks) (by simp only[kinds,hti,hu,hc,hb,cond_true];exact hfl)
     obtain⟨h1,h2⟩:=dE he
     have hn:=Nat.eq_of_beq_eq_true hb
     exact key fs.toList 0 ks hc hfl (by omega) (by omega) x (by simpa using he) w
   ·cases hfl
  ·rename_i n el hu
   rw[hu] at hag
   have hut:P.underlying t=some (.array n el):=by rw[hi.u,hu]
   simp only[lM,hag,kc,cond_true]
   split at hfl
   ·rename_i e hel
    cases hb:Nat.beq (n*e.size) i.size with
    |false=>simp[hb] at hfl
    |true=>
     simp only[hb,cond_true] at hfl
     split at hfl
     ·rename_i ks' hk
      cases hfl
      have hE:=hT el e hel
      obtain⟨ti,hti',hsz,_,_⟩:=hE.info
      have hce:P.cellsOf el=e.size:=by rw[←hsz];simp[Program.cellsOf,hti']
      rw[run_equalIn_array w dep ⟨l⟩ ⟨m⟩ hut hti',hce,List.range_eq_range']
      have hkl:=mL hel hT hk
      obtain⟨h1,h2⟩:=dE he
      rw[r9,hkl] at h1 h2
      have key: ∀(k j:Nat),j+k=n→ ∀y,bp (Ey ks' k) (l.drop (j*e.size)) (m.drop (j*e.size))=some y→ ∀w,(Op.eqItems dep el e.size ⟨l⟩ ⟨m⟩ (List.range' j k)).run P w= .ok y w:=by
       intro k
       induction k with
       |zero=>
        intro j hj y hy w
        have hz1:l.drop (j*e.size)=[]:=List.drop_eq_nil_of_le (by rw[h1];exact Nat.mul_le_mul_right _ (by omega))
        have hz2:m.drop (j*e.size)=[]:=List.drop_eq_nil_of_le (by rw[h2];exact Nat.mul_le_mul_right _ (by omega))
        rw[hz1,hz2] at hy
        simp only[Ey,bp,Option.some.injEq] at hy
        subst hy
        rfl
       |succ k ihk=>
        intro j hj y hy w
        have hle:(j+1)*e.size≤n*e.size:=Nat.mul_le_mul_right _ (by omega)
        rw[Nat.add_mul,Nat.one_mul] at hle
        have hspl: ∀z:List Value,z.drop (j*e.size)=(z.drop (j*e.size)).take e.size++z.drop ((j+1)*e.size):=by
         intro z
         rw[Nat.add_mul,Nat.one_mul,←List.drop_drop,List.take_append_drop]
        rw[hspl l,hspl m] at hy
        obtain⟨p,q,hp,hq,rfl⟩:=rM (ks:=ks') (by simp;omega) (by simp;omega) hy
        simp only[List.range'_succ,Op.eqItems,Sem.run_bind,mS hE (m:=l) (show j*e.size+e.size≤l.length by omega),
         mS hE (m:=m) (show j*e.size+e.size≤m.length by omega),Result.andThen_ok]
        rw[ih el e dep ks' hel hk (by omega) _ _ p hp]
        simp only[Result.andThen_ok]
        cases p with
        |true=>
         simp only[Bool.not_true,Bool.false_eq_true,if_false,Bool.true_and]
         exact ihk (j+1) (by omega) q hq w
        |false=>simp
      exact key n 0 (by omega) x (by simpa using he) w
     ·cases hfl
   ·cases hfl
  ·cases hfl
theorem u0 (hT:bQ P T): ∀(d t:Nat) (dep:Nat) (ks:List Nat),kinds T d t=some ks→d≤dep→P.eqGuardType dep t=false:=by
 intro d
 induction d with
 |zero=>intro t dep ks h;simp[kinds] at h
 |succ d ih=>
  intro t dep ks hfl hd
  obtain⟨dep,rfl⟩: ∃k,dep=k+1:=⟨dep-1,by omega⟩
  simp only[kinds] at hfl
  split at hfl
  ·cases hfl
  ·rename_i i hti
   have hi:=hT t i hti
   simp only[Program.eqGuardType,hi.u]
   split at hfl
   ·rename_i hu;rw[hu]
   ·rename_i hu;rw[hu]
   ·rename_i hu;rw[hu]
   ·rename_i fs hu
    rw[hu]
    split at hfl
    ·rename_i n hc
     cases hb:Nat.beq n i.size with
     |false=>simp[hb] at hfl
     |true=>
      simp only[hb,cond_true] at hfl
      dsimp only
      rw[←Array.any_toList]
      have key: ∀(gs:List Field) (ks:List Nat),j_ (kinds T d) gs=some ks→(gs.any fun f=>f.name != "_" &&P.eqGuardType dep f.type)=false:=by
       intro gs
       induction gs with
       |nil=>intro _ _;rfl
       |cons f gs ihg=>
        intro ks hk
        obtain⟨_,a,b,ha,hbk,_⟩:=mI hk
        rw[List.any_cons,ihg b hbk,ih f.type dep a ha (by omega)]
        simp
      exact key _ _ hfl
    ·cases hfl
   ·rename_i n el hu
    rw[hu]
    dsimp only
    split at hfl
    ·rename_i e he
     cases hb:Nat.beq (n*e.size) i.size with
     |false=>simp[hb] at hfl
     |true=>
      simp only[hb,cond_true] at hfl
      split at hfl
      ·rename_i ks' hk
       exact ih el dep ks' hk (by omega)
      ·cases hfl
    ·cases hfl
   ·cases hfl
end
section
variable {P:Program} {CC:bI} {ρ:dp} {h:ae} {w:World} {T:mV} {ng:Nat} {e:Env} {a:Act} {c:Value}
theorem VR.bu {k:IntKind} {n:Int} (h:VR ρ (.int k n) c):c= .int k n:=by
 cases h with
 |val h=>cases h with
  |cell h=>cases h with
   |cell h=>cases h;rfl
theorem VR.j5 {b:Bool} (h:VR ρ (.bool b) c):c= .bool b:=by
 cases h with
 |val h=>cases h with
  |cell h=>cases h with
   |cell h=>cases h;rfl
theorem VR.xL {s:ByteArray} (h:VR ρ (.string s) c):c= .string s:=by
 cases h with
 |val h=>cases h with
  |cell h=>cases h with
   |cell h=>cases h;rfl
theorem VR.vB {b o:Nat} (h:VR ρ (.pointer (some ⟨b,o,none⟩)) c): ∃r,ρ b=some r∧c= .pointer (some ⟨r.aA,r.base+o,none⟩):=by
 cases h with
 |val h=>cases h with
  |cell h=>cases h with
   |cell h=>cases h with
    |ptr h=>exact⟨_,h,rfl⟩
theorem VR.ux (h:VR ρ (.pointer none) c):c= .pointer none:=by
 cases h with
 |val h=>cases h with
  |cell h=>cases h with
   |cell h=>cases h;rfl
theorem VR.zw {x:Addr} (h:VR ρ (.pointer (some x)) c): ∃y,c= .pointer (some y):=by
 cases h with
 |val h=>cases h with
  |cell h=>cases h with
   |cell h=>cases h with
    |ptr h=>exact⟨_,rfl⟩
theorem VR.ef {b o n cp:Nat} (h:VR ρ (.slice (some ⟨b,o,none⟩) n cp) c): ∃r ca ccap,ρ b=some r∧c= .slice (some ca) n ccap∧oK r o n cp ca ccap:=by
 cases h with
 |val h=>cases h with
  |cell h=>cases h with
   |cell h=>cases h with
    |slice h hs=>exact⟨_,_,_,h,rfl,hs⟩
theorem VR.fQ {n cp:Nat} (h:VR ρ (.slice none n cp) c):c= .slice none n cp:=by
 cases h with
 |val h=>cases h with
  |cell h=>cases h with
   |cell h=>cases h;rfl
theorem VR.mU {x:Option Addr} {n cp:Nat} (h:VR ρ (.slice x n cp) c): ∃y ccap,c= .slice y n ccap∧y.isNone=x.isNone:=by
 cases h with
 |val h=>cases h with
  |cell h=>cases h with
   |cell h=>cases h with
    |lZ=>exact⟨_,_,rfl,rfl⟩
    |slice h hs=>exact⟨_,_,rfl,rfl⟩
theorem VR.xP {x:Option Nat} (h:VR ρ (.map x) c): ∃y,c= .map y∧y.isNone=x.isNone:=by
 cases h with
 |val h=>cases h with
  |cell h=>cases h with
   |cell h=>cases h with
    |uq=>exact⟨_,rfl,rfl⟩
    |map h=>exact⟨_,rfl,rfl⟩
theorem VR.ox (h:VR ρ .nilFunc c):c= .nilFunc:=by
 cases h with
 |val h=>cases h with
  |cell h=>cases h with
   |cell h=>cases h;rfl
theorem VR.D8 {fn:Fn} {x y:Array Value} (h:VR ρ (.func fn x y) c): ∃fn' x' y',c= .func fn' x' y':=by
 cases h with
 |val h=>cases h with
  |cell h=>cases h with
   |cell h=>cases h
   |fn=>exact⟨_,_,_,rfl⟩
   |yield=>exact⟨_,_,_,rfl⟩
theorem VR.mK {l:Array Value} (h:VR ρ (.agg l) c): ∃m,c= .agg ⟨m⟩∧All2 (KR ρ) l.toList m:=by
 cases h with
 |val h=>cases h with
  |cell h=>exact absurd h.plain.1 (by simp[AI.plain])
  |agg h=>exact⟨_,rfl,h⟩
theorem VR.LF {n:Nat} (h:VR ρ (.chan (some n)) c): ∃m:Nat,c= .int .i64 m∧n≤m:=by
 cases h with
 |val h=>cases h with
  |cell h=>cases h with
   |cell h=>cases h
 |Mi h=>exact⟨_,rfl,h⟩
theorem VR.Aw {l:Array Value} (h:VR ρ (.tuple l) c): ∃m,c= .tuple ⟨m⟩∧All2 (AR ρ) l.toList m:=by
 cases h with
 |val h=>cases h with
  |cell h=>exact absurd h.plain.1 (by simp[AI.plain])
 |tuple h=>exact⟨_,rfl,h⟩
theorem VR.agg {l m:List Value} (h:All2 (KR ρ) l m):VR ρ (.agg ⟨l⟩) (.agg ⟨m⟩):= .val (.agg h)
theorem L9 {x y z:Operand} {v:Value} (S:cu CC ρ h w) (hE:ER ρ e a.tmps) (hG:bJ ng ρ) (hx:aR ng x=true) (hy:aR ng y=true) (hz:aR ng z=true) {h':ae}
  (hv:aZ e h (.pick x y z)=some (v,h')):Out CC ρ h w v h' (((do pure (.value (if←asBool (a.eval x) then a.eval y else a.eval z))):Sem Next).run P w):=by
 have hr:=hE.eval hG hx
 simp only[aZ] at hv
 split at hv
 ·rename_i heq
  cases hv
  rw[heq] at hr
  rw[hr.j5]
  exact Out.same S (by simp[asBool]) (hE.eval hG hy)
 ·rename_i heq
  cases hv
  rw[heq] at hr
  rw[hr.j5]
  exact Out.same S (by simp[asBool]) (hE.eval hG hz)
 ·cases hv
theorem nJ {op:BinOp} {k:IntKind} {t:TypeId} {x y:Int} {v:Value} (hv:ew op k x y=some v):
  (binOp op t (.int k x) (.int k y)).run P w= .ok v w∧VR ρ v v:=by
 cases op<;>simp only[ew] at hv<;>first
  |(cases hv;exact⟨by simp[binOp,Op.intBits,Op.intCmp,Op.intArith],CR.vr (by constructor)⟩)
  |(split at hv
    ·cases hv
    ·rename_i hz
     cases hv
     refine⟨?_,CR.vr (by constructor)⟩
     simp[binOp,Op.intDiv,hz])
  |(cases hv;done)
theorem vN {op:BinOp} {k k':IntKind} {t:TypeId} {x y:Int} {v:Value} (hop:op= .shl∨op= .shr) (hv:gQ op k x y=some v):
  (binOp op t (.int k x) (.int k' y)).run P w= .ok v w∧VR ρ v v:=by
 unfold gQ at hv
 split at hv
 ·cases hv
 ·rename_i hneg
  rcases hop with rfl|rfl<;>(cases hv;refine⟨?_,CR.vr (by constructor)⟩;simp[binOp,Op.shift,hneg])
theorem bE {op:BinOp} {t:TypeId} {x y:Operand} {p q:Value} (h1:p≠ .nilIface) (h2: ∀l,p≠ .agg l):(eqGuard op t x y p q).run P w= .ok () w:=by
 have h3:(match p,q with
  | .nilIface,.nilIface=>False
  | .agg _,.agg _=>False
  |_,_=>True):=by
  cases p<;>first|trivial|(exact absurd rfl h1)|(exact absurd rfl (h2 _))|(cases q<;>trivial)
 cases op<;>first
  |rfl
  |(cases p<;>first|rfl|(exact absurd rfl h1)|(exact absurd rfl (h2 _))|(cases q<;>rfl))
theorem zJ {op:BinOp} {t:TypeId} {x y:Operand} {p q:Value} (h1:op≠ .eql) (h2:op≠ .neq):(eqGuard op t x y p q).run P w= .ok () w:=by
 unfold eqGuard
 cases op<;>first|rfl|(exact absurd rfl h1)|(exact absurd rfl h2)
def x7 (T:mV) (t:Nat) (u:TypeDesc) (ks:List Nat):Prop:=
 (∃el,u= .slice el∧ks=[3])∨(∃el,u= .pointer el∧ks=[4])∨(∃k el,u= .map k el∧ks=[5])∨(∃ps rs vr,u= .func ps rs vr∧ks=[6])∨
 (∃(_:Unit) (ks':List Nat),kc u=true∧kinds T 9 t=some ks'∧ks=9::ks')∨(u= .bool∧ks=[0])∨(∃k,u= .int k∧ks=[1])∨(u= .string∧ks=[2])
section
variable {t:TypeId} {d:Nat}
theorem dZ {el:TypeId} (hu:P.underlying t=some (.slice el)) (n m n' m':Nat) (y:Option Addr):(Op.equalIn (d+1) t (.slice none n m) (.slice y n' m')).run P w= .ok y.isNone w:=by
 simp only[Op.equalIn,Sem.run_bind,run_underlying hu,Result.andThen_ok,Sem.run_pure]
theorem fJ {el:TypeId} (hu:P.underlying t=some (.slice el)) (n m n' m':Nat) (y:Addr):(Op.equalIn (d+1) t (.slice (some y) n m) (.slice none n' m')).run P w= .ok false w:=by
 simp only[Op.equalIn,Sem.run_bind,run_underlying hu,Result.andThen_ok,Sem.run_pure]
theorem jL {el:TypeId} (hu:P.underlying t=some (.pointer el)) (y:Option Addr):(Op.equalIn (d+1) t (.pointer none) (.pointer y)).run P w= .ok y.isNone w:=by
 simp only[Op.equalIn,Sem.run_bind,run_underlying hu,Result.andThen_ok,Sem.run_pure]
theorem jC {el:TypeId} (hu:P.underlying t=some (.pointer el)) (y:Addr):(Op.equalIn (d+1) t (.pointer (some y)) (.pointer none)).run P w= .ok false w:=by
 simp only[Op.equalIn,Sem.run_bind,run_underlying hu,Result.andThen_ok,Sem.run_pure]
theorem AX {k el:TypeId} (hu:P.underlying t=some (.map k el)) (y:Option Nat):(Op.equalIn (d+1) t (.map none) (.map y)).run P w= .ok y.isNone w:=by
 simp only[Op.equalIn,Sem.run_bind,run_underlying hu,Result.andThen_ok,Sem.run_pure]
theorem jI {k el:TypeId} (hu:P.underlying t=some (.map k el)) (y:Nat):(Op.equalIn (d+1) t (.map (some y)) (.map none)).run P w= .ok false w:=by
 simp only[Op.equalIn,Sem.run_bind,run_underlying hu,Result.andThen_ok,Sem.run_pure]
theorem gW {ps rs:Array TypeId} {vr:Bool} (hu:P.underlying t=some (.func ps rs vr)):(Op.equalIn (d+1) t .nilFunc .nilFunc).run P w= .ok true w:=by
 simp only[Op.equalIn,Sem.run_bind,run_underlying hu,Result.andThen_ok,Sem.run_pure]
theorem h_ {ps rs:Array TypeId} {vr:Bool} (hu:P.underlying t=some (.func ps rs vr)) (f:Fn) (x y:Array Value):(Op.equalIn (d+1) t .nilFunc (.func f x y)).run P w= .ok false w:=by
 simp only[Op.equalIn,Sem.run_bind,run_underlying hu,Result.andThen_ok,Sem.run_pure]
theorem hH {ps rs:Array TypeId} {vr:Bool} (hu:P.underlying t=some (.func ps rs vr)) (f:Fn) (x y:Array Value):(Op.equalIn (d+1) t (.func f x y) .nilFunc).run P w= .ok false w:=by
 simp only[Op.equalIn,Sem.run_bind,run_underlying hu,Result.andThen_ok,Sem.run_pure]
end
theorem gU {t:TypeId} {p q:Value} {b:Bool} (h1: ∀k n k' n',¬(p= .int k n∧q= .int k' n')) (h2: ∀k n k' n',¬(p= .float k n∧q= .float k' n'))
  (h4: ∀s s',¬(p= .string s∧q= .string s')) (h5: ∀k n m k' n' m',¬(p= .complex k n m∧q= .complex k' n' m')) (h3:(Op.equalIn (9999+1) t p q).run P w= .ok b w):
  (binOp .eql t p q).run P w= .ok (.bool b) w∧(binOp .neq t p q).run P w= .ok (.bool (!b)) w:=by
 have h3':(Op.equal t p q).run P w= .ok b w:=h3
 constructor
 ·unfold binOp
  split<;>first
   |(exact absurd ⟨rfl,rfl⟩ (h1 _ _ _ _))
   |(exact absurd ⟨rfl,rfl⟩ (h2 _ _ _ _))
   |(exact absurd ⟨rfl,rfl⟩ (h4 _ _))
   |(exact absurd ⟨rfl,rfl⟩ (h5 _ _ _ _ _ _))
   |contradiction
   |(simp only[Sem.run_bind,h3',Result.andThen_ok,Sem.run_pure];done)
 ·unfold binOp
  split<;>first
   |(exact absurd ⟨rfl,rfl⟩ (h1 _ _ _ _))
   |(exact absurd ⟨rfl,rfl⟩ (h2 _ _ _ _))
   |(exact absurd ⟨rfl,rfl⟩ (h4 _ _))
   |(exact absurd ⟨rfl,rfl⟩ (h5 _ _ _ _ _ _))
   |contradiction
   |(simp only[Sem.run_bind,h3',Result.andThen_ok,Sem.run_pure];done)
theorem AG (hT:bQ P T) {t:Nat} {i:TI} {ks:List Nat} (hti:T t=some i) (hks:x7 T t i.u ks)
  {v v' c':Value} {b:Bool} (hv:VR ρ v c) (hv':VR ρ v' c') (he:nz ks v v'=some b) {x y:Operand} {op:BinOp} :
  (eqGuard op t x y c c').run P w= .ok () w∧(binOp .eql t c c').run P w= .ok (.bool b) w∧(binOp .neq t c c').run P w= .ok (.bool (!b)) w:=by
 have hi:=hT t i hti
 have depth:9≤P.depth:=by unfold Program.depth Made.depth;omega
 unfold nz at he
 split at he
 ·
  rename_i l l'
  obtain⟨m,rfl,hm⟩:=hv.mK
  obtain⟨m',rfl,hm'⟩:=hv'.mK
  rcases hks with⟨_,_,rfl⟩|⟨_,_,rfl⟩|⟨_,_,_,rfl⟩|⟨_,_,_,_,rfl⟩|⟨fs,ks',hu,hk,rfl⟩|⟨_,rfl⟩|⟨_,_,rfl⟩|⟨_,rfl⟩
  ·cases he
  ·cases he
  ·cases he
  ·cases he
  ·have he':=rp hm hm' he
   have hag:i.agg=true:=by rw[hi.agg,hu]
   have hrun:=wy hT 9 t i 10000 ks' hti hk (by omega) m m' b he' w
   simp only[lM,hag,cond_true] at hrun
   refine⟨run_eqGuard_agg w op t x y _ _ (u0 hT 9 t P.depth ks' hk depth),?_,?_⟩
   ·rw[run_eql_struct,hrun];rfl
   ·rw[run_neq_struct,hrun];rfl
  ·cases he
  ·cases he
  ·cases he
 ·rename_i hna
  have hu:=hi.u
  split at he
  ·
   have hsl: ∃el,i.u= .slice el:=by
    rcases hks with⟨el,h,_⟩|⟨_,_,h⟩|⟨_,_,_,h⟩|⟨_,_,_,_,h⟩|⟨_,_,_,_,h⟩|⟨_,h⟩|⟨_,_,h⟩|⟨_,h⟩<;>first|exact⟨_,h⟩|(simp at h;done)
   obtain⟨el,hel⟩:=hsl
   rw[hel] at hu
   split at he
   ·cases he
    rw[hv.fQ]
    obtain⟨y',cc,rfl,hy⟩:=hv'.mU
    refine⟨bE (by simp) (by simp),gU (by simp) (by simp) (by simp) (by simp) ?_⟩;rw[←hy];first|exact dZ hu _ _ _ _ _|exact AX hu _
   ·cases he
    obtain⟨y',cc,rfl,hy⟩:=hv.mU
    rw[hv'.fQ]
    refine⟨bE (by simp) (by simp),?_⟩
    cases y' with
    |none=>simp at hy
    |some z=>exact gU (by simp) (by simp) (by simp) (by simp) (by first|exact dZ hu _ _ _ _ _|exact fJ hu _ _ _ _ _|exact jL hu _|exact jC hu _|exact jI hu _|exact gW hu|exact h_ hu _ _ _|exact hH hu _ _ _)
   ·cases he
  ·
   have hsl: ∃el,i.u= .pointer el:=by
    rcases hks with⟨el,_,h⟩|⟨_,h,_⟩|⟨_,_,_,h⟩|⟨_,_,_,_,h⟩|⟨_,_,_,_,h⟩|⟨_,h⟩|⟨_,_,h⟩|⟨_,h⟩<;>first|exact⟨_,h⟩|(simp at h;done)
   obtain⟨el,hel⟩:=hsl
   rw[hel] at hu
   split at he
   ·rename_i z
    cases he
    rw[hv.ux]
    cases z with
    |none=>
     rw[hv'.ux]
     exact⟨bE (by simp) (by simp),gU (by simp) (by simp) (by simp) (by simp) (by first|exact dZ hu _ _ _ _ _|exact fJ hu _ _ _ _ _|exact jL hu _|exact jC hu _|exact jI hu _|exact gW hu|exact h_ hu _ _ _|exact hH hu _ _ _)⟩
    |some z=>
     obtain⟨y',rfl⟩:=hv'.zw
     exact⟨bE (by simp) (by simp),gU (by simp) (by simp) (by simp) (by simp) (by first|exact dZ hu _ _ _ _ _|exact fJ hu _ _ _ _ _|exact jL hu _|exact jC hu _|exact jI hu _|exact gW hu|exact h_ hu _ _ _|exact hH hu _ _ _)⟩
   ·cases he
    obtain⟨y',rfl⟩:=hv.zw
    rw[hv'.ux]
    exact⟨bE (by simp) (by simp),gU (by simp) (by simp) (by simp) (by simp) (by first|exact dZ hu _ _ _ _ _|exact fJ hu _ _ _ _ _|exact jL hu _|exact jC hu _|exact jI hu _|exact gW hu|exact h_ hu _ _ _|exact hH hu _ _ _)⟩
   ·cases he
  ·
   have hsl: ∃k el,i.u= .map k el:=by
    rcases hks with⟨el,_,h⟩|⟨_,_,h⟩|⟨_,_,h,_⟩|⟨_,_,_,_,h⟩|⟨_,_,_,_,h⟩|⟨_,h⟩|⟨_,_,h⟩|⟨_,h⟩<;>first|exact⟨_,_,h⟩|(simp at h;done)
   obtain⟨k,el,hel⟩:=hsl
   rw[hel] at hu
   split at he
   ·cases he
    obtain⟨y0,rfl,hy0⟩:=hv.xP
    obtain⟨y',rfl,hy⟩:=hv'.xP
    cases y0 with
    |some z=>simp at hy0
    |none=>
     refine⟨bE (by simp) (by simp),gU (by simp) (by simp) (by simp) (by simp) ?_⟩;rw[←hy];first|exact dZ hu _ _ _ _ _|exact AX hu _
   ·cases he
    obtain⟨y0,rfl,hy0⟩:=hv.xP
    obtain⟨y',rfl,hy⟩:=hv'.xP
    cases y0 with
    |none=>simp at hy0
    |some z=>cases y' with
     |some z=>simp at hy
     |none=>exact⟨bE (by simp) (by simp),gU (by simp) (by simp) (by simp) (by simp) (by first|exact dZ hu _ _ _ _ _|exact fJ hu _ _ _ _ _|exact jL hu _|exact jC hu _|exact jI hu _|exact gW hu|exact h_ hu _ _ _|exact hH hu _ _ _)⟩
   ·cases he
  ·
   have hsl: ∃ps rs vr,i.u= .func ps rs vr:=by
    rcases hks with⟨el,_,h⟩|⟨_,_,h⟩|⟨_,_,_,h⟩|⟨_,_,_,h,_⟩|⟨_,_,_,_,h⟩|⟨_,h⟩|⟨_,_,h⟩|⟨_,h⟩<;>first|exact⟨_,_,_,h⟩|(simp at h;done)
   obtain⟨ps,rs,vr,hel⟩:=hsl
   rw[hel] at hu
   split at he
   ·cases he
    rw[hv.ox,hv'.ox]
    exact⟨bE (by simp) (by simp),gU (by simp) (by simp) (by simp) (by simp) (by first|exact dZ hu _ _ _ _ _|exact fJ hu _ _ _ _ _|exact jL hu _|exact jC hu _|exact jI hu _|exact gW hu|exact h_ hu _ _ _|exact hH hu _ _ _)⟩
   ·cases he
    obtain⟨_,_,_,rfl⟩:=hv'.D8
    rw[hv.ox]
    exact⟨bE (by simp) (by simp),gU (by simp) (by simp) (by simp) (by simp) (by first|exact dZ hu _ _ _ _ _|exact fJ hu _ _ _ _ _|exact jL hu _|exact jC hu _|exact jI hu _|exact gW hu|exact h_ hu _ _ _|exact hH hu _ _ _)⟩
   ·cases he
    obtain⟨_,_,_,rfl⟩:=hv.D8
    rw[hv'.ox]
    exact⟨bE (by simp) (by simp),gU (by simp) (by simp) (by simp) (by simp) (by first|exact dZ hu _ _ _ _ _|exact fJ hu _ _ _ _ _|exact jL hu _|exact jC hu _|exact jI hu _|exact gW hu|exact h_ hu _ _ _|exact hH hu _ _ _)⟩
   ·cases he
  ·
   unfold eu at he
   split at he
   ·have hb:i.u= .bool:=by
     rcases hks with⟨el,_,h⟩|⟨_,_,h⟩|⟨_,_,_,h⟩|⟨_,_,_,_,h⟩|⟨_,_,_,_,h⟩|⟨h,_⟩|⟨_,_,h⟩|⟨_,h⟩<;>first|exact h|(simp at h;done)
    cases he
    rw[hv.j5,hv'.j5]
    rw[hb] at hu
    exact⟨bE (by simp) (by simp),gU (by simp) (by simp) (by simp) (by simp) (run_equalIn_bool' w _ t _ _ hu)⟩
   ·rw[hv.bu,hv'.bu]
    split at he
    ·rename_i hk;subst hk
     cases he
     refine⟨bE (by simp) (by simp),?_,?_⟩
     ·simp[binOp,Op.intCmp]
     ·simp only[binOp,ne_eq,not_true_eq_false,if_false,Op.intCmp,Sem.run_pure]
      rfl
    ·cases he
   ·cases he
    rw[hv.xL,hv'.xL]
    refine⟨bE (by simp) (by simp),?_,?_⟩
    ·simp[binOp,Op.stringOp,beq_toListBytes]
    ·simp[binOp,Op.stringOp,beq_toListBytes]
   ·cases he
  ·cases he
end
section
variable {P:Program} {CC:bI} {ρ:dp} {h h':ae} {w:World} {T:mV} {ng:Nat} {e:Env} {a:Act} {c v:Value}
theorem EZ {op:BinOp} {t:TypeId} {x y:Operand} (S:cu CC ρ h w) (hE:ER ρ e a.tmps) (hG:bJ ng ρ) (hx:aR ng x=true) (hy:aR ng y=true)
  {ks:List Nat} (hn:op≠ .eql∧op≠ .neq) (hv:aZ e h (.bin op ks x y)=some (v,h')):
  Out CC ρ h w v h' (((do pure (Next.value (←(do eqGuard op t x y (a.eval x) (a.eval y);binOp op t (a.eval x) (a.eval y))))):Sem Next).run P w):=by
 have hrx:=hE.eval hG hx
 have hry:=hE.eval hG hy
 simp only[aZ] at hv
 split at hv
 ·rename_i r hb
  cases hv
  have key:(binOp op t (a.eval x) (a.eval y)).run P w= .ok v w∧VR ρ v v:=by
   unfold J3 at hb
   split at hb
   ·split at hb
    ·rename_i h1 h2;rw[h1] at hrx;rw[h2] at hry;rw[hrx.bu,hry.bu];exact vN (.inl rfl) hb
    ·cases hb
   ·split at hb
    ·rename_i h1 h2;rw[h1] at hrx;rw[h2] at hry;rw[hrx.bu,hry.bu];exact vN (.inr rfl) hb
    ·cases hb
   ·exact absurd rfl hn.1
   ·exact absurd rfl hn.2
   ·split at hb
    ·rename_i h1 h2
     rw[h1] at hrx;rw[h2] at hry;rw[hrx.bu,hry.bu]
     split at hb
     ·rename_i hk;subst hk;exact nJ hb
     ·cases hb
    ·rename_i x' cap' h1 h2
     rw[h1] at hrx;rw[h2] at hry
     rw[hrx.bu]
     obtain⟨m,hm,hle⟩:=hry.LF
     rw[hm]
     split at hb
     ·rename_i hle'
      cases hb
      have hfalse:decide (x'>(m:Int))=false:=by simp;omega
      have:=nJ (op:= .gtr) (t:=t) (k:= .i64) (x:=x') (y:=(m:Int)) (P:=P) (w:=w) (ρ:=ρ) (v:= .bool false) (by simp only[ew];rw[hfalse])
      exact this
     ·cases hb
    ·cases hb
   ·split at hb
    ·rename_i h1 h2
     rw[h1] at hrx;rw[h2] at hry;rw[hrx.bu,hry.bu]
     split at hb
     ·rename_i hk;subst hk;exact nJ hb
     ·cases hb
    ·cases hb
  refine Out.same S (cA ?_) key.2
  simp only[Sem.run_bind,zJ hn.1 hn.2,Result.andThen_ok,key.1]
 ·cases hv
theorem HU (hT:bQ P T) {op:BinOp} {t:TypeId} {i:TI} {x y:Operand} (S:cu CC ρ h w) (hE:ER ρ e a.tmps) (hG:bJ ng ρ) (hx:aR ng x=true) (hy:aR ng y=true)
  {ks:List Nat} (hop:op= .eql∨op= .neq) (hti:T t=some i) (hks:x7 T t i.u ks) (hv:aZ e h (.bin op ks x y)=some (v,h')):
  Out CC ρ h w v h' (((do pure (Next.value (←(do eqGuard op t x y (a.eval x) (a.eval y);binOp op t (a.eval x) (a.eval y))))):Sem Next).run P w):=by
 have hrx:=hE.eval hG hx
 have hry:=hE.eval hG hy
 simp only[aZ] at hv
 split at hv
 ·rename_i r hb
  cases hv
  have key:(eqGuard op t x y (a.eval x) (a.eval y)).run P w= .ok () w∧(binOp op t (a.eval x) (a.eval y)).run P w= .ok v w∧VR ρ v v:=by
   rcases hop with rfl|rfl
   ·simp only[J3] at hb
    split at hb
    ·rename_i h1 h2
     rw[h1] at hrx;rw[h2] at hry;rw[hrx.bu,hry.bu]
     split at hb
     ·rename_i hk;subst hk;exact⟨bE (by simp) (by simp),nJ hb⟩
     ·cases hb
    ·split at hb
     ·rename_i b he
      cases hb
      have:=AG (w:=w) hT hti hks hrx hry he (x:=x) (y:=y) (op:= .eql)
      exact⟨this.1,this.2.1,VR.bool _⟩
     ·cases hb
   ·simp only[J3] at hb
    split at hb
    ·rename_i h1 h2
     rw[h1] at hrx;rw[h2] at hry;rw[hrx.bu,hry.bu]
     split at hb
     ·rename_i hk;subst hk;exact⟨bE (by simp) (by simp),nJ hb⟩
     ·cases hb
    ·split at hb
     ·rename_i b he
      cases hb
      have:=AG (w:=w) hT hti hks hrx hry he (x:=x) (y:=y) (op:= .neq)
      exact⟨this.1,this.2.2,VR.bool _⟩
     ·cases hb
  refine Out.same S (cA ?_) key.2.2
  simp only[Sem.run_bind,key.1,Result.andThen_ok,key.2.1]
 ·cases hv
theorem N9 {op:UnOp} {x:Operand} (S:cu CC ρ h w) (hE:ER ρ e a.tmps) (hG:bJ ng ρ) (hx:aR ng x=true) (hv:aZ e h (.un op x)=some (v,h')):
  Out CC ρ h w v h' (((do pure (Next.value (←Op.unary op (a.eval x)))):Sem Next).run P w):=by
 have hrx:=hE.eval hG hx
 simp only[aZ] at hv
 split at hv
 ·rename_i r hb
  cases hv
  unfold Pl at hb
  split at hb
  ·rename_i h1;cases hb;rw[h1] at hrx;rw[hrx.bu];exact Out.same S (cA (by simp[Op.unary,Op.intArith])) (VR.int _ _)
  ·rename_i h1;cases hb;rw[h1] at hrx;rw[hrx.bu];exact Out.same S (cA (by simp[Op.unary,Op.intBits])) (VR.int _ _)
  ·rename_i h1;cases hb;rw[h1] at hrx;rw[hrx.j5];exact Out.same S (cA (by simp[Op.unary])) (VR.bool _)
  ·cases hb
 ·cases hv
theorem La (hT:bQ P T) {s d:TypeId} {i j:TI} {ks k:IntKind} {x:Operand} (hs:T s=some i) (hd:T d=some j) (hsu:i.u= .int ks) (hdu:j.u= .int k) (S:cu CC ρ h w) (hE:ER ρ e a.tmps) (hG:bJ ng ρ)
  (hx:aR ng x=true) (hv:aZ e h (.conv k x)=some (v,h')):Out CC ρ h w v h' (((do pure (Next.value (←convert s d (a.eval x)))):Sem Next).run P w):=by
 have hrx:=hE.eval hG hx
 simp only[aZ] at hv
 split at hv
 ·rename_i h1
  cases hv
  rw[h1] at hrx;rw[hrx.bu]
  have h2:=(hT s i hs).u;rw[hsu] at h2
  have h3:=(hT d j hd).u;rw[hdu] at h3
  exact Out.same S (cA (by simp[convert,run_underlying h2,run_underlying h3,Conv.intToInt])) (VR.int _ _)
 ·cases hv
theorem u6 (hE:ER ρ e a.tmps) (hG:bJ ng ρ): ∀l:List Operand,l.all (aR ng)=true→All2 (VR ρ) (pP e l) (l.map a.eval)
 |[],_=> .nil
 |x::l,hl=>by
  simp only[List.all_cons,Bool.and_eq_true] at hl
  exact .cons (hE.eval hG hl.1) (u6 hE hG l hl.2)
theorem Er {l m:List Value} (h:All2 (VR ρ) l m):l.all simple=true→All2 (CR ρ) l m:=by
 induction h with
 |nil=>intro _;exact .nil
 |cons h _ ih=>
  intro hs
  simp only[List.all_cons,Bool.and_eq_true] at hs
  exact .cons (CR.pW h hs.1) (ih hs.2)
theorem LR {f:FuncId} {first caps:Array Operand} (S:cu CC ρ h w) (hE:ER ρ e a.tmps) (hG:bJ ng ρ) (hf:first.isEmpty=true) (hx:caps.toList.all (aR ng)=true)
  (hv:aZ e h (.mH f caps.toList)=some (v,h')):Out CC ρ h w v h' (((do pure (Next.value (←Instr.makeFunc (.func f) (first.map a.eval) (caps.map a.eval)))):Sem Next).run P w):=by
 have hr:=u6 hE hG caps.toList hx
 simp only[aZ] at hv
 cases hs:(pP e caps.toList).all simple with
 |false=>simp[hs] at hv
 |true=>
  simp only[hs,cond_true,Option.some.injEq,Prod.mk.injEq] at hv
  obtain⟨rfl,rfl⟩:=hv
  have hf0:first= #[]:=by simpa using hf
  subst hf0
  refine Out.same S (c:= .func (.func f) #[] ⟨caps.toList.map a.eval⟩) (cA ?_) (KR.fn f (Er hr hs)).vr
  have hm:caps.map a.eval=⟨caps.toList.map a.eval⟩:=by
   apply Array.ext'
   simp
  simp[Instr.makeFunc,hm]
theorem H0 {x:Operand} (S:cu CC ρ h w) (hE:ER ρ e a.tmps) (hG:bJ ng ρ) (hx:aR ng x=true) {ty:TypeId} {pos:String} {aft:Array Edge} {gd:Option (Nat×Bool)} {dst:Option Tmp}
  (hv:aZ e h (.bj x)=some (v,h')):Out CC ρ h w v h' ((execOp a.eval { dst:=dst,op:= .nilCheck x,type:=ty,pos:=pos,after:=aft,guard:=gd }).run P w):=by
 have hrx:=hE.eval hG hx
 simp only[aZ] at hv
 split at hv
 ·rename_i y h1
  cases hv
  rw[h1] at hrx
  obtain⟨z,hz⟩:=hrx.zw
  refine Out.same S (c:= .pointer (some z)) ?_ (by rw[hz] at hrx;exact hrx)
  simp[execOp,hz]
 ·cases hv
theorem MF {i:Nat} {x:Operand} (S:cu CC ρ h w) (hE:ER ρ e a.tmps) (hG:bJ ng ρ) (hx:aR ng x=true) (hv:aZ e h (.ext i x)=some (v,h')):
  Out CC ρ h w v h' (((do pure (Next.value (←Instr.extract (a.eval x) i))):Sem Next).run P w):=by
 have hrx:=hE.eval hG hx
 simp only[aZ] at hv
 split at hv
 ·rename_i l h1
  split at hv
  ·rename_i u h2
   cases hv
   rw[h1] at hrx
   obtain⟨m,hm,hk⟩:=hrx.Aw
   obtain⟨c,hc,hr⟩:=hk.get h2
   rw[hm]
   refine Out.same S (c:=c) (cA ?_) (.val hr)
   have:(⟨m⟩:Array Value)[i]? =some c:=by rw[←hc];simp
   simp[Instr.extract,this]
  ·cases hv
 ·cases hv
theorem MM (hT:bQ P T) {t el:TypeId} {i:TI} (hti:T t=some i) (hu:i.u= .slice el) {x:Operand} {ty:TypeId} (S:cu CC ρ h w) (hE:ER ρ e a.tmps) (hG:bJ ng ρ)
  (hx:aR ng x=true) (hv:aZ e h (.nx x)=some (v,h')):
  Out CC ρ h w v h' (((do pure (Next.value (←Builtin.len_ #[t] ty #[a.eval x]))):Sem Next).run P w):=by
 have hrx:=hE.eval hG hx
 have hi:=(hT t i hti).u
 rw[hu] at hi
 simp only[aZ] at hv
 split at hv
 ·rename_i h1
  cases hv
  rw[h1] at hrx
  obtain⟨y,cc,hy,_⟩:=hrx.mU
  rw[hy]
  exact Out.same S (cA (by simp[Builtin.len_,run_underlying hi,goInt])) (VR.int _ _)
 ·cases hv
theorem MZ (hT:bQ P T) {t el:TypeId} {i:TI} (hti:T t=some i) (hu:i.u= .slice el) {x:Operand} {ty:TypeId} (S:cu CC ρ h w) (hE:ER ρ e a.tmps) (hG:bJ ng ρ)
  (hx:aR ng x=true) (hv:aZ e h (.FV x)=some (v,h')):
  Out CC ρ h w v h' (((do pure (Next.value (←Builtin.cap_ #[t] ty #[a.eval x]))):Sem Next).run P w):=by
 have hrx:=hE.eval hG hx
 have hi:=(hT t i hti).u
 rw[hu] at hi
 simp only[aZ] at hv
 split at hv
 ·rename_i h1
  cases hv
  rw[h1] at hrx
  rw[hrx.fQ]
  exact Out.same S (cA (by simp[Builtin.cap_,run_underlying hi,goInt])) (VR.int _ _)
 ·rename_i b off len cp h1
  rw[h1] at hrx
  obtain⟨r,ca,ccap,hr,hc,hs⟩:=hrx.ef
  rw[hc]
  split at hv
  ·rename_i cs ro o st hb
   have hobj:=S.obj b r _ hr hb
   obtain⟨ccs,el',fr,_,_,hopn,_⟩:=hobj
   have hrun:(Builtin.cap_ #[t] ty #[.slice (some ca) len ccap]).run P w= .ok (.int .i64 ccap) w:=by simp[Builtin.cap_,run_underlying hi,goInt]
   cases ho:Nat.beq o 0 with
   |true=>
    simp only[ho,if_true] at hv
    cases hv
    have ho0:=Nat.eq_of_beq_eq_true ho
    have:ccap=cp:=by
     rcases hs.2.1 with h|⟨h,_⟩
     ·exact h
     ·exact absurd (hopn.trans ho0) h
    rw[this] at hrun ⊢
    exact Out.same S (cA hrun) (VR.int _ _)
   |false=>
    simp only[ho,Bool.false_eq_true,if_false] at hv
    cases hv
    have:cp≤ccap:=by
     rcases hs.2.1 with h|⟨_,h,_⟩
     ·omega
     ·exact h
    exact Out.same S (cA hrun) (.Mi this)
  ·cases hv
 ·cases hv
theorem Lo (hT:bQ P T) {t:TypeId} {i:TI} (hti:T t=some i) (hu:i.u= .string) {x:Operand} {ty:TypeId} (S:cu CC ρ h w) (hE:ER ρ e a.tmps) (hG:bJ ng ρ)
  (hx:aR ng x=true) (hv:aZ e h (.Cd x)=some (v,h')):
  Out CC ρ h w v h' (((do pure (Next.value (←Builtin.len_ #[t] ty #[a.eval x]))):Sem Next).run P w):=by
 have hrx:=hE.eval hG hx
 have hi:=(hT t i hti).u
 rw[hu] at hi
 simp only[aZ] at hv
 split at hv
 ·rename_i h1
  cases hv
  rw[h1] at hrx
  rw[hrx.xL]
  exact Out.same S (cA (by simp[Builtin.len_,run_underlying hi,goInt])) (VR.int _ _)
 ·cases hv
theorem Ng {x y:Operand} {ts:Array TypeId} {ty:TypeId} (S:cu CC ρ h w) (hE:ER ρ e a.tmps) (hG:bJ ng ρ) (hx:aR ng x=true) (hy:aR ng y=true) (hv:aZ e h (.Fx x y)=some (v,h')):
  Out CC ρ h w v h' (((do pure (Next.value (←Builtin.min_ ts ty #[a.eval x,a.eval y]))):Sem Next).run P w):=by
 have hrx:=hE.eval hG hx
 have hry:=hE.eval hG hy
 simp only[aZ] at hv
 split at hv
 ·rename_i h1 h2
  split at hv
  ·rename_i hk
   subst hk
   cases hv
   rw[h1] at hrx;rw[h2] at hry;rw[hrx.bu,hry.bu]
   exact Out.same S (cA (by simp[Builtin.min_,Builtin.min2])) (VR.int _ _)
  ·cases hv
 ·cases hv
theorem Kk (hT:bQ P T) {t:TypeId} {i fi:TI} {fs:Array Field} {f:Field} {k:Nat} {x:Operand} (hti:T t=some i) (hu:i.u= .struct fs) (hf:fs[k]? =some f) (hfi:T f.type=some fi) (hz:fi.size≠0)
  (S:cu CC ρ h w) (hE:ER ρ e a.tmps) (hG:bJ ng ρ) (hx:aR ng x=true) (hv:aZ e h (.bw f.offset x)=some (v,h')):
  Out CC ρ h w v h' (((do pure (Next.value (←Instr.fieldAt t (a.eval x) k))):Sem Next).run P w):=by
 have hrx:=hE.eval hG hx
 have hi:=(hT t i hti).u
 rw[hu] at hi
 simp only[aZ] at hv
 split at hv
 ·rename_i b o h1
  cases hv
  rw[h1] at hrx
  obtain⟨r,hr,hc⟩:=hrx.vB
  rw[hc]
  refine Out.same S (c:= .pointer (some ⟨r.aA,r.base+(o+f.offset),none⟩)) (cA ?_) (CR.ptr hr).vr
  simp[Instr.fieldAt,run_underlying hi,hf,Instr.sureAddr,fieldPlace,(eo (w:=w) (hT _ _ hfi)).1,hz,l9,Nat.add_assoc]
 ·cases hv
theorem zp (hT:bQ P T) {t el:TypeId} {i ei:TI} {x y:Operand} (hti:T t=some i) (hu:i.u= .slice el) (hel:T el=some ei) (S:cu CC ρ h w) (hE:ER ρ e a.tmps) (hG:bJ ng ρ)
  (hx:aR ng x=true) (hy:aR ng y=true) (hv:aZ e h (.cw none ei.size x y)=some (v,h')):
  Out CC ρ h w v h' (((do pure (Next.value (←Instr.indexAt t (a.eval x) (a.eval y)))):Sem Next).run P w):=by
 have hrx:=hE.eval hG hx
 have hry:=hE.eval hG hy
 have hi:=(hT t i hti).u
 rw[hu] at hi
 simp only[aZ] at hv
 split at hv
 ·rename_i k n h1
  split at hv
  ·contradiction
  ·rename_i b o len cp _ h2
   by_cases hlt:n<len
   ·have hb:Nat.blt n len=true:=by simp[Nat.blt_eq];exact hlt
    simp only[hb,if_true,Option.some.injEq,Prod.mk.injEq] at hv
    obtain⟨rfl,rfl⟩:=hv
    rw[h1] at hry;rw[h2] at hrx
    rw[hry.bu]
    obtain⟨r,ca,cc,hr,hc,⟨hca,hcc,hle⟩⟩:=hrx.ef
    rw[hc]
    have hca':ca=⟨r.aA,r.base+o,none⟩:=by
     rcases hca with h|⟨_,h⟩
     ·exact h
     ·omega
    subst hca'
    refine Out.same S (c:= .pointer (some ⟨r.aA,r.base+(o+n*ei.size),none⟩)) (cA ?_) (CR.ptr hr).vr
    have hc1:(0:Int)≤Int.ofNat n∧Int.ofNat n<(len:Int):=⟨Int.natCast_nonneg n,by exact Int.ofNat_lt.2 hlt⟩
    simp only[Instr.indexAt,asIntOf,Sem.run_bind,Sem.run_pure,Result.andThen_ok,run_underlying hi]
    rw[if_pos hc1]
    simp[(eo (w:=w) (hT _ _ hel)).1,l9,Nat.add_assoc]
   ·have hb:Nat.blt n len=false:=by
     cases hb:Nat.blt n len with
     |false=>rfl
     |true=>exact absurd (by simpa [Nat.blt_eq] using hb) hlt
    simp[hb] at hv
  ·cases hv
 ·cases hv
theorem y8 (hT:bQ P T) {t el:TypeId} {m:Nat} {i ei:TI} {x y:Operand} (hti:T t=some i) (hu:i.u= .array m el) (hel:T el=some ei) (S:cu CC ρ h w) (hE:ER ρ e a.tmps) (hG:bJ ng ρ)
  (hx:aR ng x=true) (hy:aR ng y=true) (hv:aZ e h (.cw (some m) ei.size x y)=some (v,h')):
  Out CC ρ h w v h' (((do pure (Next.value (←Instr.indexAt t (a.eval x) (a.eval y)))):Sem Next).run P w):=by
 have hrx:=hE.eval hG hx
 have hry:=hE.eval hG hy
 have hi:=(hT t i hti).u
 rw[hu] at hi
 simp only[aZ] at hv
 split at hv
 ·rename_i k n h1
  split at hv
  ·rename_i m' b o h2' h2
   cases h2'
   by_cases hlt:n<m
   ·have hb:Nat.blt n m=true:=by simp[Nat.blt_eq];exact hlt
    simp only[hb,if_true,Option.some.injEq,Prod.mk.injEq] at hv
    obtain⟨rfl,rfl⟩:=hv
    rw[h1] at hry;rw[h2] at hrx
    rw[hry.bu]
    obtain⟨r,hr,hc⟩:=hrx.vB
    rw[hc]
    refine Out.same S (c:= .pointer (some ⟨r.aA,r.base+(o+n*ei.size),none⟩)) (cA ?_) (CR.ptr hr).vr
    have hc1:(0:Int)≤Int.ofNat n∧Int.ofNat n<(m:Int):=⟨Int.natCast_nonneg n,by exact Int.ofNat_lt.2 hlt⟩
    simp only[Instr.indexAt,asIntOf,Sem.run_bind,Sem.run_pure,Result.andThen_ok,run_underlying hi,Instr.sureAddr]
    rw[if_pos hc1]
    simp[(eo (w:=w) (hT _ _ hel)).1,l9,Nat.add_assoc]
   ·have hb:Nat.blt n m=false:=by
     cases hb:Nat.blt n m with
     |false=>rfl
     |true=>exact absurd (by simpa [Nat.blt_eq] using hb) hlt
    simp[hb] at hv
  ·contradiction
  ·cases hv
 ·cases hv
theorem Jq (hT:bQ P T) {t:TypeId} {i fi:TI} {fs:Array Field} {f:Field} {k:Nat} {x:Operand} (hti:T t=some i) (hu:i.u= .struct fs) (hf:fs[k]? =some f) (hfi:T f.type=some fi)
  (S:cu CC ρ h w) (hE:ER ρ e a.tmps) (hG:bJ ng ρ) (hx:aR ng x=true) (hv:aZ e h (.field f.offset (tw fi) x)=some (v,h')):
  Out CC ρ h w v h' (((do pure (Next.value (←Instr.field t (a.eval x) k))):Sem Next).run P w):=by
 have hrx:=hE.eval hG hx
 have hi:=(hT t i hti).u
 rw[hu] at hi
 simp only[aZ] at hv
 split at hv
 ·rename_i l h1
  split at hv
  ·rename_i u h2
   cases hv
   rw[h1] at hrx
   obtain⟨m,hm,hk⟩:=hrx.mK
   obtain⟨c,hc,hr⟩:=DW (w:=w) (hT _ _ hfi) hk h2
   rw[hm]
   refine Out.same S (c:=c) (cA ?_) hr
   simp only[Instr.field,Sem.run_bind,run_underlying hi,Result.andThen_ok,hf,asAgg,Sem.run_pure,hc]
  ·cases hv
 ·cases hv
theorem Br (hT:bQ P T) {t:TypeId} {i:TI} {x y:Operand} (hti:T t=some i) (hu:i.u= .string) (S:cu CC ρ h w) (hE:ER ρ e a.tmps) (hG:bJ ng ρ)
  (hx:aR ng x=true) (hy:aR ng y=true) (hv:aZ e h (.index none x y)=some (v,h')):
  Out CC ρ h w v h' (((do pure (Next.value (←Instr.index t (a.eval x) (a.eval y)))):Sem Next).run P w):=by
 have hrx:=hE.eval hG hx
 have hry:=hE.eval hG hy
 have hi:=(hT t i hti).u
 rw[hu] at hi
 simp only[aZ] at hv
 split at hv
 ·rename_i k n h1
  split at hv
  ·contradiction
  ·rename_i s _ h2
   split at hv
   ·rename_i b hb
    cases hv
    rw[h1] at hry;rw[h2] at hrx
    rw[hry.bu,hrx.xL]
    refine Out.same S (cA ?_) (VR.int _ _)
    have h0:(0:Int)≤Int.ofNat n:=Int.natCast_nonneg n
    simp only[Instr.index,asIntOf,Sem.run_bind,Sem.run_pure,Result.andThen_ok,run_underlying hi]
    simp only[h0,if_true]
    have:(Int.ofNat n).toNat=n:=rfl
    rw[this,hb]
    rfl
   ·cases hv
  ·cases hv
 ·cases hv
theorem Cq (hT:bQ P T) {t el:TypeId} {len:Nat} {i ei:TI} {x y:Operand} (hti:T t=some i) (hu:i.u= .array len el) (hel:T el=some ei) (S:cu CC ρ h w) (hE:ER ρ e a.tmps) (hG:bJ ng ρ)
  (hx:aR ng x=true) (hy:aR ng y=true) (hv:aZ e h (.index (some (len,ei.size,tw ei)) x y)=some (v,h')):
  Out CC ρ h w v h' (((do pure (Next.value (←Instr.index t (a.eval x) (a.eval y)))):Sem Next).run P w):=by
 have hrx:=hE.eval hG hx
 have hry:=hE.eval hG hy
 have hi:=(hT t i hti).u
 rw[hu] at hi
 simp only[aZ] at hv
 split at hv
 ·rename_i k n h1
  split at hv
  ·rename_i len' size' n' l h2' h2
   cases h2'
   by_cases hlt:n<len
   ·have hb:Nat.blt n len=true:=by simp[Nat.blt_eq];exact hlt
    simp only[hb,if_true] at hv
    split at hv
    ·rename_i u hu2
     cases hv
     rw[h1] at hry;rw[h2] at hrx
     rw[hry.bu]
     obtain⟨m,hm,hk⟩:=hrx.mK
     obtain⟨c,hc,hr⟩:=DW (w:=w) (hT _ _ hel) hk hu2
     rw[hm]
     refine Out.same S (c:=c) (cA ?_) hr
     have hc1:(0:Int)≤Int.ofNat n∧Int.ofNat n<(len:Int):=⟨Int.natCast_nonneg n,by exact Int.ofNat_lt.2 hlt⟩
     simp only[Instr.index,asIntOf,Sem.run_bind,Sem.run_pure,Result.andThen_ok,run_underlying hi]
     rw[if_pos hc1]
     simp only[Sem.run_bind,(eo (w:=w) (hT _ _ hel)).1,Result.andThen_ok]
     exact hc
    ·cases hv
   ·have hb:Nat.blt n len=false:=by
     cases hb:Nat.blt n len with
     |false=>rfl
     |true=>exact absurd (by simpa [Nat.blt_eq] using hb) hlt
    simp[hb] at hv
  ·contradiction
  ·cases hv
 ·cases hv
end
section
variable {P:Program} {CC:bI} {ρ:dp} {h h':ae} {w:World} {T:mV} {ng:Nat} {e:Env} {a:Act} {c v:Value}
theorem Js (hT:bQ P T) {t:TypeId} {i:TI} {x:Operand} (hti:T t=some i) (S:cu CC ρ h w) (hE:ER ρ e a.tmps) (hG:bJ ng ρ) (hx:aR ng x=true)
  (hv:aZ e h (.load (tw i) x)=some (v,h')):Out CC ρ h w v h' (((do pure (Next.value (←Instr.loadAt t (a.eval x)))):Sem Next).run P w):=by
 have hrx:=hE.eval hG hx
 simp only[aZ] at hv
 split at hv
 ·rename_i b off h1
  split at hv
  ·rename_i cs h2
   split at hv
   ·rename_i u h3
    cases hv
    rw[h1] at hrx
    obtain⟨r,hr,hc⟩:=hrx.vB
    obtain⟨c,hrun,hrel⟩:=GY S (hT t i hti) hr h2 h3
    rw[hc]
    exact Out.same S (c:=c) (cA (by simp[Instr.loadAt,Instr.sureAddr,hrun])) hrel
   ·cases hv
  ·cases hv
 ·cases hv
theorem Ix (hT:bQ P T) {t:TypeId} {i:TI} {x y:Operand} (hti:T t=some i) (S:cu CC ρ h w) (hE:ER ρ e a.tmps) (hG:bJ ng ρ) (hx:aR ng x=true) (hy:aR ng y=true)
  (hv:aZ e h (.store i.size x y)=some (v,h')):Out CC ρ h w v h' (((do Instr.storeAt t (a.eval x) (a.eval y);pure Next.skip):Sem Next).run P w):=by
 have hrx:=hE.eval hG hx
 have hry:=hE.eval hG hy
 simp only[aZ] at hv
 split at hv
 ·rename_i b off h1
  split at hv
  ·rename_i vs h2
   split at hv
   ·rename_i h3
    split at hv
    ·rename_i hh h4
     cases hv
     rw[h1] at hrx
     obtain⟨r,hr,hc⟩:=hrx.vB
     obtain⟨w',hrun,S',E'⟩:=Jj S (hT t i hti) hr hry h2 (Nat.eq_of_beq_eq_true h3) h4
     rw[hc]
     refine⟨ρ,w',undef,.inr ⟨rfl,?_⟩,VR.undef,S',E'⟩
     simp[Instr.storeAt,Instr.sureAddr,hrun]
    ·cases hv
   ·cases hv
  ·cases hv
 ·cases hv
theorem vY {α β:Type} (x:Sem α) (f:α→β):(f <$> x).run P w=(x.run P w).andThen fun y w'=> .ok (f y) w':=Sem.run_map P w x f
theorem Bk {α β:Type} (f:α→Sem β) (g:α→β) (l:Array α) (hx: ∀x∈l.toList,(f x).run P w= .ok (g x) w):(l.mapM f).run P w= .ok (l.map g) w:=by
 have key: ∀(m:List α) (acc:Array β),(∀x∈m,(f x).run P w= .ok (g x) w)→(m.foldlM (fun bs x=>bs.push <$> f x) acc).run P w= .ok (acc++(m.map g).toArray) w:=by
  intro m
  induction m with
  |nil=>intro acc _;simp
  |cons x m ih=>
   intro acc hm
   simp only[List.foldlM_cons,Sem.run_bind,vY,hm x (by simp),Result.andThen_ok]
   rw[ih _ (fun y hy=>hm y (by simp[hy]))]
   congr 1
   apply Array.ext'
   simp
 rw[Array.mapM_eq_foldlM,←Array.foldlM_toList]
 rw[key l.toList #[] hx]
 congr 1
 apply Array.ext'
 simp
theorem FP {fs:List Field} : ∀ {ps:List (Nat×Operand)} {qs:List (Nat×Nat×Operand)},qy T fs ps=some qs→(fs.all fun f=>(T f.type).isSome)=true→
  All2 (fun(p:Nat×Operand) (q:Nat×Nat×Operand)=>((fs.map fun f=>(f.offset,((T f.type).map (·.size)).getD 0)).toArray[p.1]?)=some (q.1,q.2.1)∧q.2.2=p.2) ps qs:=by
 intro ps
 induction ps with
 |nil=>intro qs h _;simp only[qy,Option.some.injEq] at h;subst h;exact .nil
 |cons p ps ih=>
  intro qs h hall
  obtain⟨j,x⟩:=p
  simp only[qy] at h
  split at h
  ·cases h
  ·rename_i f hf
   split at h
   ·rename_i ti l ht hl
    cases h
    refine .cons ⟨?_,rfl⟩ (ih hl hall)
    simp[hf,ht]
   ·cases h
theorem xD (hT:bQ P T) {t:TypeId} {i:TI} {fs:Array Field} {ps:Array (Nat×Operand)} {qs:List (Nat×Nat×Operand)} (hti:T t=some i) (hu:i.u= .struct fs)
  (hall:(fs.toList.all fun f=>(T f.type).isSome)=true) (hq:qy T fs.toList ps.toList=some qs) (S:cu CC ρ h w) (hE:ER ρ e a.tmps) (hG:bJ ng ρ)
  (hx:(ps.toList.map (·.2)).all (aR ng)=true) (hv:aZ e h (.build i.zero qs)=some (v,h')):
  Out CC ρ h w v h' (((do pure (Next.value (←Instr.build t (ps.map fun p=>(p.1,a.eval p.2))))):Sem Next).run P w):=by
 have hi:=hT t i hti
 have hui:=hi.u
 rw[hu] at hui
 simp only[aZ] at hv
 split at hv
 ·rename_i cs h1
  cases hv
  obtain⟨z,hz,hzc⟩:=p6 (w:=w) hi
  obtain⟨s,hs,hk⟩:=zn (ρ:=ρ) (a:=a) (ng:=ng) hE hG _ ps.toList qs i.zero i.zero cs (by simpa [List.all_map] using hx) (FP hq hall) (c_ hi.zero) h1
  refine Out.same S (c:= .agg ⟨s⟩) (cA ?_) (VR.agg hk)
  have hpl:(fs.mapM fun f=>(do pure (f.offset,←sizeOf f.type):Sem (Nat×Nat))).run P w= .ok (fs.map fun f=>(f.offset,((T f.type).map (·.size)).getD 0)) w:=by
   refine Bk _ _ fs ?_
   intro f hf
   have hsome:=List.all_eq_true.1 hall f hf
   obtain⟨fi,hfi⟩:=Option.isSome_iff_exists.1 hsome
   simp[(eo (w:=w) (hT _ _ hfi)).1,hfi]
  have hzz:z.cells=⟨i.zero⟩:=by
   apply Array.ext';simpa using hzc
  have hpp:(ps.map fun p=>(p.1,a.eval p.2)).toList=ps.toList.map fun p=>(p.1,a.eval p.2):=by simp
  have hpa:(fs.toList.map fun f=>(f.offset,((T f.type).map (·.size)).getD 0)).toArray=fs.map fun f=>(f.offset,((T f.type).map (·.size)).getD 0):=by
   apply Array.ext';simp
  rw[hpa] at hs
  simp only[Instr.build,Sem.run_bind,hz,Result.andThen_ok,run_underlying hui,hpl,hzz,hpp,hs,Sem.run_pure]
 ·cases hv
theorem qw {el:TI} : ∀ps:List (Nat×Operand),
  All2 (fun(p:Nat×Operand) (q:Nat×Nat×Operand)=>(fun i=>some (i*el.size,el.size)) p.1=some (q.1,q.2.1)∧q.2.2=p.2) ps (ps.map fun p=>(p.1*el.size,el.size,p.2))
 |[]=> .nil
 |_::ps=> .cons ⟨rfl,rfl⟩ (qw ps)
theorem yo (hT:bQ P T) {t el:TypeId} {n:Nat} {i ei:TI} {ps:Array (Nat×Operand)} (hti:T t=some i) (hu:i.u= .array n el) (hel:T el=some ei)
  (S:cu CC ρ h w) (hE:ER ρ e a.tmps) (hG:bJ ng ρ) (hx:(ps.toList.map (·.2)).all (aR ng)=true) (hv:aZ e h (.build i.zero (ps.toList.map fun p=>(p.1*ei.size,ei.size,p.2)))=some (v,h')):
  Out CC ρ h w v h' (((do pure (Next.value (←Instr.build t (ps.map fun p=>(p.1,a.eval p.2))))):Sem Next).run P w):=by
 have hi:=hT t i hti
 have hui:=hi.u
 rw[hu] at hui
 simp only[aZ] at hv
 split at hv
 ·rename_i cs h1
  cases hv
  obtain⟨z,hz,hzc⟩:=p6 (w:=w) hi
  obtain⟨s,hs,hk⟩:=zn (ρ:=ρ) (a:=a) (ng:=ng) hE hG (fun i=>some (i*ei.size,ei.size)) ps.toList _ i.zero i.zero cs (by simpa [List.all_map] using hx) (qw (el:=ei) ps.toList) (c_ hi.zero) h1
  refine Out.same S (c:= .agg ⟨s⟩) (cA ?_) (VR.agg hk)
  have hzz:z.cells=⟨i.zero⟩:=by
   apply Array.ext';simpa using hzc
  have hpp:(ps.map fun p=>(p.1,a.eval p.2)).toList=ps.toList.map fun p=>(p.1,a.eval p.2):=by simp
  simp only[Instr.build,Sem.run_bind,hz,Result.andThen_ok,run_underlying hui,(eo (w:=w) (hT _ _ hel)).1,hzz,hpp,hs,Sem.run_pure]
 ·cases hv
theorem ly (z:List Value): ∀n,(gI z n).length=n*z.length
 |0=>by simp[gI]
 |n+1=>by rw[gI,List.length_append,ly z n,Nat.add_mul];omega
theorem Df (z:List Value): ∀(n i:Nat),i<n*z.length→(gI z n)[i]? =z[i%z.length]?
 |0,i,h=>by simp at h
 |n+1,i,h=>by
  have hz:0<z.length:=by
   cases hz:z.length with
   |zero=>rw[hz] at h;simp at h
   |succ k=>omega
  rw[gI]
  by_cases hi:i<z.length
  ·rw[List.getElem?_append_left hi,Nat.mod_eq_of_lt hi]
  ·rw[List.getElem?_append_right (by omega),Df z n _ (by rw[Nat.add_mul] at h;omega)]
   congr 1
   conv=>rhs;rw[show i=(i-z.length)+z.length by omega,Nat.add_mod_right]
theorem tp {z:List Value} {n:Nat} (hz:0<z.length∨n=0):(gI z n)=((Array.range (n*z.length)).map (fun i=>(⟨z⟩:Array Value)[i%z.length]!)).toList:=by
 apply List.ext_getElem?
 intro i
 by_cases hi:i<n*z.length
 ·have hz':0<z.length:=by
   rcases hz with h|h
   ·exact h
   ·subst h;simp at hi
  have hm:i%z.length<z.length:=Nat.mod_lt _ hz'
  rw[Df z n i hi]
  simp[hi,hm,getElem!_def]
 ·rw[List.getElem?_eq_none (by rw[ly];omega),List.getElem?_eq_none (by simp;omega)]
theorem fU {z:List Value} (hz:z.all bx=true): ∀n,(gI z n).all bx=true
 |0=>rfl
 |n+1=>by rw[gI,List.all_append,hz,fU hz n];rfl
theorem Hb (hT:bQ P T) {t el:TypeId} {n:Nat} {i ei:TI} {ps:Array (Nat×Operand)} (hti:T t=some i) (hu:i.u= .slice el) (hel:T el=some ei) (hn:n*ei.size≤1000000)
  (S:cu CC ρ h w) (hE:ER ρ e a.tmps) (hG:bJ ng ρ) (hx:(ps.toList.map (·.2)).all (aR ng)=true)
  (hv:aZ e h (.ct n (gI ei.zero n) (ps.toList.map fun p=>(p.1*ei.size,ei.size,p.2)))=some (v,h')):
  Out CC ρ h w v h' (((do pure (Next.value (←Instr.buildSlice t n (ps.map fun p=>(p.1,a.eval p.2))))):Sem Next).run P w):=by
 have hi:=hT t i hti
 have hui:=hi.u
 rw[hu] at hui
 have hei:=hT _ _ hel
 simp only[aZ] at hv
 split at hv
 ·rename_i cs h1
  cases hv
  obtain⟨z,hz,hzc⟩:=p6 (w:=w) hei
  have hzz:z.cells=⟨ei.zero⟩:=by
   apply Array.ext';simpa using hzc
  have hlen:=hei.len
  obtain⟨s,hs,hk⟩:=zn (ρ:=ρ) (a:=a) (ng:=ng) hE hG (fun i=>some (i*ei.size,ei.size)) ps.toList _ _ _ cs (by simpa [List.all_map] using hx) (qw (el:=ei) ps.toList) (c_ (fU hei.zero n)) h1
  obtain⟨im,g1,g2,_,_,_,g7,g8⟩:=vd (rest:=[]) S hk el 0 (fun h=>absurd rfl h)
  rw[List.append_nil] at g7 g8
  refine⟨_,_,.slice (some ⟨w.heap.size,0,none⟩) n n,.inl (cA ?_),?_,g7,g8⟩
  ·have hpp:(ps.map fun p=>(p.1,a.eval p.2)).toList=ps.toList.map fun p=>(p.1,a.eval p.2):=by simp
   by_cases h0:n*ei.size=0
   ·have hr:gI ei.zero n=[]:=List.eq_nil_of_length_eq_zero (by rw[ly,hlen];exact h0)
    rw[hr] at hs
    simp only[Instr.buildSlice,Sem.run_bind,run_underlying hui,Result.andThen_ok,(eo (w:=w) hei).1,Sem.run_ite,h0,if_true,Sem.run_pure,hpp]
    have he:((Array.range 0).map fun i=>(#[]:Array Value)[i%(#[]:Array Value).size]!)=⟨[]⟩:=by
     apply Array.ext';simp
    rw[he,hs]
    rfl
   ·have hlt: ¬(n*ei.size>2^24):=by omega
    have hm:=tp (z:=ei.zero) (n:=n) (by
     by_cases hz0:0<ei.zero.length
     ·exact .inl hz0
     ·right
      have:ei.zero.length=0:=by omega
      rw[hlen] at this
      rw[this] at h0;simp at h0)
    rw[hlen] at hm
    have hzs:z.cells.size=ei.size:=by rw[hzz];simpa using hlen
    have hmm:((Array.range (n*ei.size)).map fun i=>(⟨ei.zero⟩:Array Value)[i%ei.size]!)=⟨gI ei.zero n⟩:=by
     apply Array.ext'
     rw[←hm]
    simp only[Instr.buildSlice,Sem.run_bind,run_underlying hui,Result.andThen_ok,(eo (w:=w) hei).1,Sem.run_ite,hlt,if_false,h0,hz,Sem.run_pure,hpp,hzs]
    rw[hzz,hmm,hs]
    rfl
  ·refine(CR.slice (kK _ _ _) ⟨.inl ?_,.inl rfl,Nat.le_refl _⟩).vr
   rw[g1,g2]
 ·cases hv
theorem EW (hT:bQ P T) {t el:TypeId} {i ei:TI} {x y:Operand} (hti:T t=some i) (hu:i.u= .slice el) (hel:T el=some ei) (S:cu CC ρ h w) (hE:ER ρ e a.tmps) (hG:bJ ng ρ)
  (hx:aR ng x=true) (hy:aR ng y=true) (hv:aZ e h (.fB ei.zero ei.bytes x y)=some (v,h')):
  Out CC ρ h w v h' (((do pure (Next.value (←Instr.makeSlice t (a.eval x) (a.eval y)))):Sem Next).run P w):=by
 have hi:=hT t i hti
 have hui:=hi.u
 rw[hu] at hui
 have hei:=hT _ _ hel
 have hrx:=hE.eval hG hx
 have hry:=hE.eval hG hy
 simp only[aZ] at hv
 split at hv
 ·rename_i l c h1 h2
  split at hv
  ·rename_i h3
   cases hv
   simp only[Bool.and_eq_true] at h3
   obtain⟨⟨⟨hlc,hcb⟩,hz0⟩,hc0⟩:=h3
   have hlc:=Nat.le_of_ble_eq_true hlc
   have hcb:=Nat.le_of_ble_eq_true hcb
   have hc0:=Nat.le_of_ble_eq_true hc0
   have hz0:0<ei.zero.length:=by simpa [Nat.blt_eq] using hz0
   rw[h1] at hrx;rw[h2] at hry
   rw[hrx.bu,hry.bu]
   obtain⟨ti,k1,k2,k3,z,k4,k5⟩:=hei.info
   have hzz:z.cells=⟨ei.zero⟩:=by
    apply Array.ext';simpa using k5
   have hrun:=run_make (P:=P) w t el ti z hui k1 k4 .i64 .i64 (Int.ofNat l) (Int.ofNat c) (Int.natCast_nonneg l) (Int.ofNat_le.2 hlc)
    (by rw[k3];show(ei.bytes:Int)*(c:Int)≤_;rw[←Int.natCast_mul,Nat.mul_comm];exact Int.le_trans (Int.ofNat_le.2 hcb) (by decide)) (by show(c:Int)≤_;exact Int.le_trans (Int.ofNat_le.2 hc0) (by decide))
   have hmade:madeCells z.cells ((Int.ofNat c).toNat*ti.size)=⟨gI ei.zero c++[]⟩:=by
    apply Array.ext'
    rw[List.append_nil,tp (.inl hz0),hzz]
    simp[madeCells,k2,hei.len]
   rw[hmade] at hrun
   obtain⟨im,g1,g2,_,_,_,g7,g8⟩:=vd (rest:=[]) S (c_ (fU hei.zero c)) el 0 (fun h=>absurd rfl h)
   refine⟨_,_,.slice (some ⟨w.heap.size,0,none⟩) l c,.inl (cA hrun),?_,g7,g8⟩
   refine(CR.slice (kK _ _ _) ⟨.inl ?_,.inl rfl,hlc⟩).vr
   rw[g1,g2]
  ·cases hv
 ·cases hv
end
theorem qH {m n:Nat} :Nat.blt m n=true↔m<n:=by simp[Nat.blt_eq]
section
variable {P:Program} {CC:bI} {ρ:dp} {h h':ae} {w:World} {T:mV} {ng:Nat} {e:Env} {a:Act} {c v:Value}
theorem sH {x:Operand} {top n:Nat} {d:Nat} (hE:ER ρ e a.tmps) (hG:bJ ng ρ) (hx:aR ng x=true) (hb:bound e (some x) d top=some n) (code:BoundsCode) {y:Nat} (hy:top≤y):
  n≤top∧(Instr.sliceBound (a.eval x) y code).run P w= .ok n w:=by
 have hrx:=hE.eval hG hx
 simp only[bound] at hb
 split at hb
 ·rename_i k i h1
  split at hb
  ·rename_i h2
   cases hb
   have hle:=Nat.le_of_ble_eq_true h2
   refine⟨hle,?_⟩
   rw[h1] at hrx
   rw[hrx.bu]
   have hc:(0:Int)≤Int.ofNat n∧Int.ofNat n≤(y:Int):=⟨Int.natCast_nonneg n,Int.ofNat_le.2 (by omega)⟩
   simp only[Instr.sliceBound,asIntOf,Sem.run_bind,Sem.run_pure,Result.andThen_ok]
   rw[if_pos hc]
   rfl
  ·cases hb
 ·cases hb
theorem yn {lo hi mx:Option Operand} (hE:ER ρ e a.tmps) (hG:bJ ng ρ) (hlo:(lo.toList).all (aR ng)=true) (hhi:(hi.toList).all (aR ng)=true) (hmx:(mx.toList).all (aR ng)=true)
  (hm3:(mx.isSome&&hi.isNone)=false) {len cap ccap m hh l:Nat} (hcc:cap≤ccap) (h1:bound e mx cap cap=some m) (h2:bound e hi len m=some hh) (h3:bound e lo 0 hh=some l):
  ∃m',(Instr.sliceBounds true len ccap (lo.map a.eval) (hi.map a.eval) (mx.map a.eval)).run P w= .ok (l,hh,m') w∧l≤hh∧(hi.isSome→hh≤m)∧
   ((mx.isSome∧m'=m∧m≤cap)∨(mx=none∧m=cap∧m'=ccap)):=by
 have key: ∀(m':Nat),m≤m'→(mx.isSome→m'=m)→(match mx.map a.eval with
   |some v=>Instr.sliceBound v ccap (if true then .slice3Acap else .slice3Alen)
   |none=>(pure ccap:Sem Nat)).run P w= .ok m' w→
   (Instr.sliceBounds true len ccap (lo.map a.eval) (hi.map a.eval) (mx.map a.eval)).run P w= .ok (l,hh,m') w∧l≤hh∧(hi.isSome→hh≤m):=by
  intro m' hmm hmx' hr1
  have hh2:(match hi.map a.eval,mx.map a.eval with
    |some v,some _=>Instr.sliceBound v m' .slice3B
    |some v,none=>Instr.sliceBound v m' (if true then .sliceAcap else .sliceAlen)
    |none,none=>(pure len:Sem Nat)
    |none,some _=>stuck "Slice: max without high").run P w= .ok hh w∧(hi.isSome→hh≤m):=by
   cases hi with
   |none=>
    cases mx with
    |some _=>simp at hm3
    |none=>
     simp only[bound,Option.some.injEq] at h2
     subst h2
     exact⟨rfl,by simp⟩
   |some x=>
    have hx:aR ng x=true:=by simpa using hhi
    cases mx with
    |none=>
     have:=sH (P:=P) (w:=w) hE hG hx h2 .sliceAcap hmm
     exact⟨this.2,fun _=>this.1⟩
    |some y=>
     have:=sH (P:=P) (w:=w) hE hG hx h2 .slice3B hmm
     exact⟨this.2,fun _=>this.1⟩
  have hh3:(match lo.map a.eval with
    |some v=>Instr.sliceBound v hh (if(mx.map a.eval).isSome then .slice3C else .sliceB)
    |none=>(pure 0:Sem Nat)).run P w= .ok l w∧l≤hh:=by
   cases lo with
   |none=>
    simp only[bound,Option.some.injEq] at h3
    subst h3
    exact⟨rfl,Nat.zero_le _⟩
   |some x=>
    have hx:aR ng x=true:=by simpa using hlo
    have:=sH (P:=P) (w:=w) hE hG hx h3 (if(mx.map a.eval).isSome then .slice3C else .sliceB) (Nat.le_refl hh)
    exact⟨this.2,this.1⟩
  refine⟨?_,hh3.2,hh2.2⟩
  have h5:=hh2.1
  have h6:=hh3.1
  clear hh2 hh3 h1 h2 h3
  rcases mx with _|mx<;>rcases hi with _|hi<;>rcases lo with _|lo<;>
   simp only[Option.map_none,Option.map_some,Option.isSome_none,Option.isSome_some,Sem.run_pure,Result.ok.injEq,and_true,run_stuck,reduceCtorEq,if_true,if_false,Bool.false_eq_true] at hr1 h5 h6<;>
   first
    |(subst hr1;subst h5;subst h6;rfl)
    |(subst hr1;subst h5;simp only[Instr.sliceBounds,Option.map_none,Option.map_some,Option.isSome_none,Option.isSome_some,if_true,if_false,Bool.false_eq_true,Sem.run_bind,Sem.run_pure,h6,Result.andThen_ok];done)
    |(subst hr1;subst h6;simp only[Instr.sliceBounds,Option.map_none,Option.map_some,Option.isSome_none,Option.isSome_some,if_true,if_false,Bool.false_eq_true,Sem.run_bind,Sem.run_pure,h5,Result.andThen_ok];done)
    |(subst hr1;simp only[Instr.sliceBounds,Option.map_none,Option.map_some,Option.isSome_none,Option.isSome_some,if_true,if_false,Bool.false_eq_true,Sem.run_bind,Sem.run_pure,h5,h6,Result.andThen_ok];done)
    |(subst h6;simp only[Instr.sliceBounds,Option.map_none,Option.map_some,Option.isSome_none,Option.isSome_some,if_true,if_false,Bool.false_eq_true,Sem.run_bind,Sem.run_pure,hr1,h5,Result.andThen_ok];done)
    |(simp only[Instr.sliceBounds,Option.map_none,Option.map_some,Option.isSome_none,Option.isSome_some,if_true,if_false,Bool.false_eq_true,Sem.run_bind,Sem.run_pure,hr1,h5,h6,Result.andThen_ok];done)
 cases mx with
 |none=>
  simp only[bound,Option.some.injEq] at h1
  subst h1
  obtain⟨k1,k2,k3⟩:=key ccap hcc (by simp) rfl
  exact⟨ccap,k1,k2,k3,.inr ⟨rfl,rfl,rfl⟩⟩
 |some x=>
  have hx:aR ng x=true:=by simpa using hmx
  have hb:=sH (P:=P) (w:=w) hE hG hx h1 .slice3Acap hcc
  obtain⟨k1,k2,k3⟩:=key m (Nat.le_refl m) (fun _=>rfl) hb.2
  exact⟨m,k1,k2,k3,.inl ⟨rfl,rfl,hb.1⟩⟩
theorem J8 (hT:bQ P T) {t el:TypeId} {i ei:TI} {x:Operand} {lo hi mx:Option Operand} (hti:T t=some i) (hu:i.u= .slice el) (hel:T el=some ei) (hm3:(mx.isSome&&hi.isNone)=false)
  (S:cu CC ρ h w) (hE:ER ρ e a.tmps) (hG:bJ ng ρ) (hx:aR ng x=true) (hlo:(lo.toList).all (aR ng)=true) (hhi:(hi.toList).all (aR ng)=true) (hmx:(mx.toList).all (aR ng)=true)
  (hv:aZ e h (.slice ei.size x lo hi mx)=some (v,h')):Out CC ρ h w v h' (((do pure (Next.value (←Instr.sliceAt t (a.eval x) (lo.map a.eval) (hi.map a.eval) (mx.map a.eval)))):Sem Next).run P w):=by
 have hi':=(hT t i hti).u
 rw[hu] at hi'
 have hsz:=(eo (w:=w) (hT _ _ hel)).1
 have hrx:=hE.eval hG hx
 simp only[aZ] at hv
 split at hv
 ·rename_i sa len cap h0
  split at hv
  ·cases hv
  ·rename_i m h1
   split at hv
   ·cases hv
   ·rename_i hh h2
    split at hv
    ·cases hv
    ·rename_i l h3
     rw[h0] at hrx
     split at hv
     ·cases hv
      rw[hrx.fQ]
      obtain⟨m',hb,hlh,_,hcase⟩:=yn (P:=P) (w:=w) hE hG hlo hhi hmx hm3 (Nat.le_refl cap) h1 h2 h3
      have hmm:m'=m:=by rcases hcase with⟨_,h,_⟩|⟨_,h,h'⟩<;>omega
      subst hmm
      refine Out.same S (cA ?_) (CR.lZ _ _).vr
      simp only[Instr.sliceAt,Instr.slice,Sem.run_bind,run_underlying hi',Result.andThen_ok,hb,hsz,Sem.run_pure,Option.map_none]
      congr 2
      split<;>rfl
     ·rename_i b off
      split at hv
      ·rename_i cs ro o s ho
       cases hcz:Nat.beq o 0||Nat.beq o ei.size with
       |false=>simp[hcz] at hv
       |true=>
        simp only[hcz,cond_true,Option.some.injEq,Prod.mk.injEq] at hv
        obtain⟨rfl,rfl⟩:=hv
        obtain⟨r,ca,ccap,hr,hc,⟨hca,hcc,hle⟩⟩:=hrx.ef
        obtain⟨ccs,el',fr,_,hlen,hopn,_,_,_⟩:=S.obj b r _ hr ho
        have hcap:cap≤ccap:=by rcases hcc with h|⟨_,h,_,_⟩<;>omega
        obtain⟨m',hb,hlh,hhm,hcase⟩:=yn (P:=P) (w:=w) hE hG hlo hhi hmx hm3 hcap h1 h2 h3
        have hhm':hh≤m:=by
         cases hi with
         |some y=>exact hhm rfl
         |none=>
          simp only[bound,Option.some.injEq] at h2
          rcases hcase with⟨hs,_⟩|⟨_,h,_⟩
          ·rw[hs] at hm3;simp at hm3
          ·omega
        rw[hc]
        refine Out.same S (c:= .slice (some (if m'=l then ca else ca.add (l*ei.size))) (hh-l) (m'-l)) (cA ?_) (CR.slice hr ⟨?_,?_,?_⟩).vr
        ·simp only[Instr.sliceAt,Instr.slice,Sem.run_bind,run_underlying hi',Result.andThen_ok,hb,hsz,Sem.run_pure]
         congr 2
         split<;>simp
        ·by_cases hml:m'=l
         ·right
          rcases hcase with⟨_,h,_⟩|⟨_,h,h'⟩<;>omega
         ·left
          rw[if_neg hml]
          have hca':ca=⟨r.aA,r.base+off,none⟩:=by
           rcases hca with h|⟨h1,h2⟩
           ·exact h
           ·rcases hcase with⟨_,h,_⟩|⟨_,h,h'⟩<;>omega
          rw[hca',l9,Nat.add_assoc]
        ·rcases hcase with⟨_,h,_⟩|⟨_,h,h'⟩
         ·left;omega
         ·rcases hcc with h5|⟨h5,h6,h7,h8⟩
          ·left;omega
          ·right
           have hosz:r.yW=ei.size:=by
            rw[hopn]
            simp only[Bool.or_eq_true] at hcz
            rcases hcz with h|h
            ·exact absurd (hopn.trans (Nat.eq_of_beq_eq_true h)) h5
            ·exact Nat.eq_of_beq_eq_true h
           refine⟨h5,by omega,?_,?_⟩
           ·rw[←hosz,h,Nat.sub_mul,←h7]
            have:l*r.yW≤cap*r.yW:=Nat.mul_le_mul_right _ (by omega)
            omega
           ·rw[←hosz,h',Nat.sub_mul]
            have:l*r.yW≤ccap*r.yW:=Nat.mul_le_mul_right _ (by omega)
            omega
        ·omega
      ·cases hv
     ·cases hv
 ·cases hv
def AO (P:Program) (w:World) (t':TypeId) (size:Nat) (el:TypeId) (x:Value) (n:Nat) (ccs:List Value):Prop:=
 (∃el' sa cc,P.underlying t'=some (.slice el')∧x= .slice sa n cc∧ ∀k,(Builtin.firstCells size n x).run P { w with drawn:=k } = .ok ⟨ccs⟩ { w with drawn:=k })∨
 (∃k kk,P.underlying t'=some (.int kk)∧x= .int k (n:Int)∧n≤1099511627776∧ ∃z,(∀w',(zeroValue el).run P w'= .ok z w')∧z.cells.toList.length=size∧ccs=gI z.cells.toList n)
theorem I2 (hT:bQ P T) {el t':TypeId} {ei i':TI} (hel:T el=some ei) (hti:T t'=some i') {zeros:Bool} (hz:if zeros then ∃k,i'.u= .int k else ∃el',i'.u= .slice el') (S:cu CC ρ h w) {x y:Value} (hr:VR ρ x y)
  {n:Nat} {cs:List Value} (hn:news h ei.zero zeros x=some (n,cs)): ∃ccs,All2 (KR ρ) cs ccs∧cs.length=n*ei.size∧AO P w t' ei.size el y n ccs:=by
 have hei:=hT _ _ hel
 have hut:=(hT _ _ hti).u
 unfold news at hn
 split at hn
 ·
  rename_i k m
  split at hn
  ·rename_i hroom
   cases hn
   obtain⟨kk,hkk⟩:=by simpa using hz
   rw[hkk] at hut
   rw[hr.bu]
   refine⟨_,c_ (fU hei.zero n),by rw[ly,hei.len],.inr ⟨k,kk,hut,rfl,Nat.le_of_ble_eq_true hroom,?_⟩⟩
   obtain⟨ti,k1,k2,k3,z,k4,k5⟩:=hei.info
   exact⟨z,fun w'=>by simp[zeroValue,typeInfo,k1,k4],by rw[k5];exact hei.len,by rw[k5]⟩
  ·cases hn
 ·
  rename_i m _
  split at hn
  ·rename_i h0
   cases hn
   have h0:=Nat.eq_of_beq_eq_true h0
   subst h0
   obtain⟨el',hel'⟩:=by simpa using hz
   rw[hel'] at hut
   rw[hr.fQ]
   exact⟨[],.nil,by simp,.inl ⟨el',none,_,hut,rfl,fun k=>by simp[Builtin.firstCells]⟩⟩
  ·cases hn
 ·
  rename_i b off m _
  obtain⟨el',hel'⟩:=by simpa using hz
  rw[hel'] at hut
  obtain⟨r,ca,ccap,hb,hc,⟨hca,hcc,hle⟩⟩:=hr.ef
  rw[hc]
  split at hn
  ·rename_i h0
   cases hn
   have h0:=Nat.eq_of_beq_eq_true h0
   subst h0
   exact⟨[],.nil,by simp,.inl ⟨el',_,_,hut,rfl,fun k=>by simp[Builtin.firstCells,loadCells,loadCellsFrom]⟩⟩
  ·rename_i h0
   split at hn
   ·rename_i cs' hrd
    cases hn
    have hne:n≠0:=by
     intro e
     rw[e] at h0
     exact h0 rfl
    have hca':ca=⟨r.aA,r.base+off,none⟩:=by
     rcases hca with h|⟨_,h⟩
     ·exact h
     ·omega
    subst hca'
    obtain⟨hl,ccs,hk,hcells⟩:=vj S hb hrd
    refine⟨ccs,hk,by rw[hl,hei.len],.inl ⟨el',_,_,hut,rfl,fun k=> ?_⟩⟩
    have:=run_firstCells_some (P:=P) { w with drawn:=k } ei.size n ⟨r.aA,r.base+off,none⟩ n ccap ccs (by rw[←hk.length,hl,hei.len]) hcells
    exact this
   ·cases hn
 ·cases hn
theorem xC {z:Array Value} {m:Nat} {c:Value} (hz:z.toList.all bx=true) (hc:c∈(Builtin.zeroCells z m).toList):bx c=true:=by
 simp only[Builtin.zeroCells,Array.toList_map,List.mem_map] at hc
 obtain⟨i,hi,rfl⟩:=hc
 have hi':i<m*z.size:=by simpa using hi
 have hpos:0<z.size:=by
  rcases Nat.eq_zero_or_pos z.size with h|h
  ·rw[h] at hi';simp at hi'
  ·exact h
 have hlt:i%z.size<z.size:=Nat.mod_lt _ hpos
 rw[getElem!_pos z _ hlt]
 exact List.all_eq_true.1 hz _ (by simp)
theorem mP {t t' ty el:TypeId} {ei:TI} (hei:pI P el ei) (hut:P.underlying t=some (.slice el)) {sa:Option Addr} {len ccap n:Nat} {x:Value} {ccs:List Value} (ha:AO P w t' ei.size el x n ccs)
  (hl:ccs.length=n*ei.size) (hsz:0<ei.size) (hb:n*ei.bytes≤1099511627776):
  (len+n≤ccap→(Builtin.append_ #[t,t'] ty #[.slice sa len ccap,x]).run P w=
   (((match sa with|some ad=>storeCells (ad.add (len*ei.size)) ccs|none=>pure ()):Sem Unit).run P w).andThen fun _ w'=> .ok (.slice sa (len+n) ccap) w')∧
  (ccap<len+n→(len+n)*ei.bytes≤1099511627776→len+n≤1099511627776→ ∀olds:List Value,olds.length=len*ei.size→
   (∀k,(Builtin.firstCells ei.size len (.slice sa len ccap)).run P { w with drawn:=k } = .ok ⟨olds⟩ { w with drawn:=k })→
   ∃(ncap:Nat) (rest:List Value),len+n≤ncap∧rest.length=(ncap-(len+n))*ei.size∧(∀c∈rest,bx c=true)∧
   (Builtin.append_ #[t,t'] ty #[.slice sa len ccap,x]).run P w= .ok (.slice (some ⟨w.heap.size,0,none⟩) (len+n) ncap) (({ w with drawn:=w.drawn+1 } :World).alloc (.cells ⟨(olds++ccs)++rest⟩ el))):=by
 obtain⟨ti,k1,k2,k3,z,k4,k5⟩:=hei.info
 have hzl:z.cells.size=ei.size:=by
  have:=hei.len;rw[←k5] at this;simpa using this
 have hzcon: ∀(m:Nat),∀c∈(Builtin.zeroCells z.cells m).toList,bx c=true:=by
  intro m c hc
  have hz:=hei.zero
  rw[←k5] at hz
  exact xC hz hc
 rcases ha with⟨el',xa,xc,hut',rfl,hf⟩|⟨k,kk,hut',rfl,hn40,z',hz',hzl',hcc⟩
 ·have hfw:(Builtin.firstCells ei.size n (.slice xa n xc)).run P w= .ok ⟨ccs⟩ w:=by
   have:=hf w.drawn;exact this
  constructor
  ·intro hroom
   cases sa with
   |none=>simp[Builtin.append_,run_underlying hut,run_underlying hut',sizeOf,typeInfo,k1,k2,Builtin.lenOf,hroom,hfw]
   |some ad=>simp[Builtin.append_,run_underlying hut,run_underlying hut',sizeOf,typeInfo,k1,k2,Builtin.lenOf,hroom,hfw]
  ·intro hg hby h63 olds hol hold
   have hng: ¬(len+n≤ccap):=by omega
   have h63': ¬(9223372036854775807<((len:Int)+(n:Int))):=by omega
   have h48': ¬(281474976710656<Builtin.nextslicecap (len+n) ccap*ti.bytes):=by
    rw[k3]
    have:=growslice_fits (bytes:=ei.bytes) hg (by omega)
    omega
   have hf1:(Builtin.firstCells ei.size n (.slice xa n xc)).run P w.drew= .ok ⟨ccs⟩ w.drew:=hf (w.drawn+1)
   have hf2:(Builtin.firstCells ei.size len (.slice sa len ccap)).run P w.drew= .ok ⟨olds⟩ w.drew:=hold (w.drawn+1)
   refine⟨grownCap w (len+n) ccap el,(Builtin.zeroCells z.cells (grownCap w (len+n) ccap el-(len+n))).toList,grownCap_ge w _ _ _,?_,hzcon _,?_⟩
   ·have:=size_zeroCells z.cells (grownCap w (len+n) ccap el-(len+n))
    rw[hzl] at this
    simpa using this
   ·simp[Builtin.append_,run_underlying hut,run_underlying hut',sizeOf,typeInfo,zeroValue,k1,k2,k4,Builtin.lenOf,hng,h63',h48',Question.forced,hf1,hf2,newRow,grownCap]
    congr 2
    apply Array.ext'
    simp[List.append_assoc]
 ·have hw:IntKind.i64.wrap (n:Int)=n:=by rw[IntKind.wrap_i64];omega
  have hneg: ¬((n:Int)<0):=by omega
  have h48: ¬(281474976710656<(n:Int)*(ei.bytes:Int)):=by
   have:((n*ei.bytes:Nat):Int)≤1099511627776:=Int.ofNat_le.2 hb
   rw[Int.natCast_mul] at this
   omega
  have hz1:=hz' w
  have hzz:z'=z:=by
   have h1:(zeroValue el).run P w= .ok z w:=by simp[zeroValue,typeInfo,k1,k4]
   rw[hz1] at h1;injection h1
  subst hzz
  have hcz:n*ei.size=0→ccs=[]:=fun h=>List.eq_nil_of_length_eq_zero (by rw[hl,h])
  have hzc:(Builtin.zeroCells z'.cells n)=⟨ccs⟩:=by
   apply Array.ext'
   rw[hcc,tp (.inl (by rw[hzl'];exact hsz)),hzl']
   have:z'.cells=⟨z'.cells.toList⟩:=rfl
   simp[Builtin.zeroCells,hzl]
  have hn0:n*ei.size=0↔n=0:=by
   constructor
   ·intro h
    rcases Nat.mul_eq_zero.1 h with h|h
    ·exact h
    ·omega
   ·rintro rfl;simp
  have hw0:IntKind.i64.wrap 0=0:=by rw[IntKind.wrap_i64];omega
  by_cases hn:n=0
  ·subst hn
   have hc0:ccs=[]:=hcz (by simp)
   subst hc0
   constructor
   ·intro hroom
    have hroom':len≤ccap:=by omega
    cases sa with
    |none=>simp[Builtin.append_,run_underlying hut,run_underlying hut',sizeOf,typeInfo,k1,k2,asInt,asIntOf,hw0,hroom',storeCells]
    |some ad=>simp[Builtin.append_,run_underlying hut,run_underlying hut',sizeOf,typeInfo,k1,k2,asInt,asIntOf,hw0,hroom',storeCells]
   ·intro hg hby h63 olds hol hold
    have hng: ¬(len+0≤ccap):=by omega
    have hng': ¬(len≤ccap):=by omega
    have h63': ¬(9223372036854775807<(len:Int)):=by omega
    have h48': ¬(281474976710656<Builtin.nextslicecap len ccap*ti.bytes):=by
     rw[k3]
     have:=growslice_fits (bytes:=ei.bytes) hg (by omega)
     simp only[Nat.add_zero] at this
     omega
    have hf2:(Builtin.firstCells ei.size len (.slice sa len ccap)).run P w.drew= .ok ⟨olds⟩ w.drew:=hold (w.drawn+1)
    refine⟨grownCap w (len+0) ccap el,(Builtin.zeroCells z'.cells (grownCap w (len+0) ccap el-(len+0))).toList,grownCap_ge w _ _ _,?_,hzcon _,?_⟩
    ·have:=size_zeroCells z'.cells (grownCap w (len+0) ccap el-(len+0))
     rw[hzl] at this
     simpa using this
    ·simp[Builtin.append_,run_underlying hut,run_underlying hut',sizeOf,typeInfo,zeroValue,k1,k2,k4,asInt,asIntOf,hw0,hng',h63',h48',Question.forced,hf2,newRow,grownCap]
     congr 2
     apply Array.ext'
     simp
  ·have hns: ¬(n*ei.size=0):=fun h=>hn (hn0.1 h)
   have hz0: ¬(ei.size=0):=by omega
   constructor
   ·intro hroom
    cases sa with
    |none=>simp[Builtin.append_,run_underlying hut,run_underlying hut',sizeOf,typeInfo,zeroValue,k1,k2,k3,k4,asInt,asIntOf,hw,hneg,h48,hroom,hn,hz0,hzc]
    |some ad=>
     simp[Builtin.append_,run_underlying hut,run_underlying hut',sizeOf,typeInfo,zeroValue,k1,k2,k3,k4,asInt,asIntOf,hw,hneg,h48,hroom,hn,hz0,hzc]
     intro h0
     exact absurd h0 hns
   ·intro hg hby h63 olds hol hold
    have hng: ¬(len+n≤ccap):=by omega
    have h63': ¬(9223372036854775807<((len:Int)+(n:Int))):=by omega
    have h48': ¬(281474976710656<Builtin.nextslicecap (len+n) ccap*ei.bytes):=by
     have:=growslice_fits (bytes:=ei.bytes) hg (by omega)
     omega
    have hf2:(Builtin.firstCells ei.size len (.slice sa len ccap)).run P w.drew= .ok ⟨olds⟩ w.drew:=hold (w.drawn+1)
    refine⟨grownCap w (len+n) ccap el,(Builtin.zeroCells z'.cells (grownCap w (len+n) ccap el-(len+n))).toList,grownCap_ge w _ _ _,?_,hzcon _,?_⟩
    ·have:=size_zeroCells z'.cells (grownCap w (len+n) ccap el-(len+n))
     rw[hzl] at this
     simpa using this
    ·simp[Builtin.append_,run_underlying hut,run_underlying hut',sizeOf,typeInfo,zeroValue,k1,k2,k3,k4,asInt,asIntOf,hw,hneg,h48,hng,h63',h48',hn,hz0,Question.forced,hf2,newRow,grownCap,hzc]
     rw[if_neg hns]
     congr 3
     apply Array.ext'
     simp[List.append_assoc]
end
section
variable {P:Program} {CC:bI} {ρ:dp} {h h':ae} {w:World} {T:mV} {ng:Nat} {e:Env} {a:Act} {c v:Value}
theorem VR.EC {x:Addr} {n cp:Nat} (h:VR ρ (.slice (some x) n cp) c): ∃b o r ca ccap,x=⟨b,o,none⟩∧ρ b=some r∧c= .slice (some ca) n ccap∧oK r o n cp ca ccap:=by
 cases h with
 |val h=>cases h with
  |cell h=>cases h with
   |cell h=>cases h with
    |slice h hs=>exact⟨_,_,_,_,_,rfl,h,rfl,hs⟩
theorem oK.uB {r:uD} {o len cap ccap:Nat} {ca:Addr} (h:oK r o len cap ca ccap):cap≤ccap:=by
 rcases h.2.1 with h|⟨_,h,_⟩<;>omega
theorem oK.addr {r:uD} {o len cap ccap:Nat} {ca:Addr} (h:oK r o len cap ca ccap) (hc:0<ccap):ca=⟨r.aA,r.base+o,none⟩:=by
 rcases h.1 with h|⟨h,_⟩
 ·exact h
 ·omega
theorem cu.drew (S:cu CC ρ h w):cu CC ρ h ({ w with drawn:=w.drawn+1 } :World):=S.drawn _
theorem AU (S:cu CC ρ h w) {cs ccs rest:List Value} {el n ncap size:Nat} (hk:All2 (KR ρ) cs ccs) (hl:cs.length=n*size) (hsz:0<size) (hn:n≤ncap) (hr:rest.length=(ncap-n)*size) (hc: ∀c∈rest,bx c=true):
  ∃ρ',VR ρ' (.slice (some ⟨h.next,0,none⟩) n n) (.slice (some ⟨w.heap.size,0,none⟩) n ncap)∧
   cu CC ρ' (aH h cs size) (({ w with drawn:=w.drawn+1 } :World).alloc (.cells ⟨ccs++rest⟩ el))∧
   Ext ρ h w ρ' (aH h cs size) (({ w with drawn:=w.drawn+1 } :World).alloc (.cells ⟨ccs++rest⟩ el)):=by
 obtain⟨im,g1,g2,g3,g4,g5,g7,g8⟩:=vd (rest:=rest) S.drew hk el size (fun _=>hc)
 have hroom:(ccs++rest).length=ncap*size:=by
  rw[List.length_append,←hk.length,hl,hr,Nat.sub_mul]
  have:n*size≤ncap*size:=Nat.mul_le_mul_right _ hn
  omega
 refine⟨_,(CR.slice (kK _ _ _) ⟨.inl ?_,.inr ⟨by omega,hn,?_,?_⟩,Nat.le_refl _⟩).vr,g7,(Ext.drawn _).trans g8⟩
 ·rw[g1,g2]
 ·rw[g3,g4,hl];omega
 ·rw[g4,g5,hroom];omega
theorem Au (hT:bQ P T) {t t' ty el:TypeId} {i i' ei:TI} {x y:Operand} {zeros:Bool} (hti:T t=some i) (hu:i.u= .slice el) (hel:T el=some ei) (hti':T t'=some i')
  (hz:if zeros then ∃k,i'.u= .int k else ∃el',i'.u= .slice el') (S:cu CC ρ h w) (hE:ER ρ e a.tmps) (hG:bJ ng ρ) (hx:aR ng x=true) (hy:aR ng y=true)
  (hv:aZ e h (.append ei.zero ei.bytes zeros x y)=some (v,h')):
  Out CC ρ h w v h' (((do pure (Next.value (←Builtin.append_ #[t,t'] ty #[a.eval x,a.eval y]))):Sem Next).run P w):=by
 have hut:=(hT t i hti).u
 rw[hu] at hut
 have hei:=hT _ _ hel
 have hzl:=hei.len
 have hrx:=hE.eval hG hx
 have hry:=hE.eval hG hy
 simp only[aZ] at hv
 split at hv
 ·rename_i n cs hn
  obtain⟨ccs,hk,hcl,hadd⟩:=I2 hT hel hti' hz S hry hn
  have hccl:ccs.length=n*ei.size:=by rw[←hk.length,hcl]
  unfold ff at hv
  split at hv
  ·rename_i sa len cap hs
   rw[hs] at hrx
   split at hv
   ·rename_i hzpos
    have hsz:0<ei.size:=by rw[←hzl];exact qH.1 hzpos
    split at hv
    ·
     rename_i h0
     have h0:=Nat.eq_of_beq_eq_true h0
     subst h0
     split at hv
     ·rename_i hlc
      have hlc:=Nat.le_of_ble_eq_true hlc
      cases hv
      have hc0:ccs=[]:=List.eq_nil_of_length_eq_zero (by rw[hccl];simp)
      subst hc0
      cases sa with
      |none=>
       have hxe:=hrx.fQ
       rw[hxe] at hrx ⊢
       have:=(mP (t:=t) (ty:=ty) hei hut (sa:=none) (len:=len) (ccap:=cap) hadd hccl hsz (by simp)).1 (by omega)
       exact Out.same S (cA (this.trans rfl)) hrx
      |some ad=>
       obtain⟨b,o,r,ca,ccap,rfl,hr,hc,hok⟩:=hrx.EC
       have hle:=hok.uB
       rw[hc] at hrx ⊢
       have:=(mP (t:=t) (ty:=ty) hei hut (sa:=some ca) (len:=len) (ccap:=ccap) hadd hccl hsz (by simp)).1 (by omega)
       exact Out.same S (cA (this.trans rfl)) hrx
     ·cases hv
    ·rename_i hn0
     have hnpos:0<n:=by
      rcases Nat.eq_zero_or_pos n with h|h
      ·subst h;exact absurd rfl hn0
      ·exact h
     split at hv
     ·rename_i hroom
      simp only[Bool.and_eq_true] at hroom
      have hr1:=Nat.le_of_ble_eq_true hroom.1
      have hr2:=Nat.le_of_ble_eq_true hroom.2
      have hnb:n*ei.bytes≤1099511627776:=Nat.le_trans (Nat.mul_le_mul_right _ (by omega)) hr2
      split at hv
      ·
       split at hv
       ·rename_i h0
        simp only[Bool.and_eq_true] at h0
        have hl0:=Nat.eq_of_beq_eq_true h0.1
        have hc0:=Nat.eq_of_beq_eq_true h0.2
        subst hl0;subst hc0
        cases hv
        rw[hrx.fQ]
        obtain⟨ncap,rest,g1,g2,g4,g3⟩:=(mP (t:=t) (ty:=ty) hei hut (sa:=none) (len:=0) (ccap:=0) hadd hccl hsz hnb).2 (by omega) hr2 hr1 [] (by simp) (fun k=>by simp[Builtin.firstCells])
        rw[Nat.zero_add] at g1 g2 g3
        obtain⟨ρ',hvr,hs',hx'⟩:=AU (el:=el) S hk hcl hsz g1 g2 g4
        rw[hzl]
        exact⟨ρ',_,_,.inl (cA g3),hvr,hs',hx'⟩
       ·cases hv
      ·rename_i b off
       split at hv
       ·rename_i bl o st ho
        obtain⟨r,ca,ccap,hr,hc,hok⟩:=hrx.ef
        have hcap:=hok.uB
        have hlen:=hok.2.2
        obtain⟨ccells,el',fr,q1,q2,q3,q4,q5,q6⟩:=S.obj b r _ hr ho
        have hfr:=q5 rfl
        subst hfr
        rw[hc]
        split at hv
        ·
         rename_i hfit
         have hfit:=Nat.le_of_ble_eq_true hfit
         split at hv
         ·rename_i h'' hw
          cases hv
          obtain⟨w',hrun,S',E'⟩:=tc (P:=P) S hr hw hk
          have:=(mP (t:=t) (ty:=ty) hei hut (sa:=some ca) (len:=len) (ccap:=ccap) hadd hccl hsz hnb).1 (by omega)
          refine⟨ρ,w',.slice (some ca) (len+n) ccap,.inl (cA ?_),(CR.slice hr ⟨hok.1,hok.2.1,hfit⟩).vr,S',E'⟩
          rw[this]
          dsimp only
          rw[hok.addr (by omega),l9,Nat.add_assoc,←hzl,hrun]
          rfl
         ·cases hv
        ·rename_i hnofit
         have hnofit:cap<len+n:=by
          rcases Nat.lt_or_ge cap (len+n) with h|h
          ·exact h
          ·exact absurd (Nat.ble_eq_true_of_le h) hnofit
         dsimp only at hv
         by_cases hrlb:Nat.beq ((bl.drop off).take (len*ei.zero.length)).length (len*ei.zero.length)=true
         ·rw[if_pos hrlb] at hv
          have hrl:=Nat.eq_of_beq_eq_true hrlb
          
          have hrd:aT h b off (len*ei.size)=some ((bl.drop off).take (len*ei.size)):=by
           unfold aT
           rw[ho]
           rw[hzl] at hrl
           simp only[hrl,Nat.beq_refl,if_true]
          obtain⟨hol,olds,hko,hoc⟩:=vj S hr hrd
          have holl:olds.length=len*ei.size:=by rw[←hko.length,hol]
          have hfirst: ∀k,(Builtin.firstCells ei.size len (.slice (some ca) len ccap)).run P { w with drawn:=k } = .ok ⟨olds⟩ { w with drawn:=k } :=by
           intro k
           by_cases hc0:0<ccap
           ·rw[hok.addr hc0]
            exact run_firstCells_some (P:=P) { w with drawn:=k } ei.size len ⟨r.aA,r.base+off,none⟩ len ccap olds holl hoc
           ·have hl0:len=0:=by omega
            subst hl0
            have:olds=[]:=List.eq_nil_of_length_eq_zero (by rw[holl];simp)
            subst this
            simp[Builtin.firstCells,loadCells,loadCellsFrom]
          have hkk:=hko.app hk
          have hkl:((bl.drop off).take (len*ei.size)++cs).length=(len+n)*ei.size:=by
           rw[List.length_append,hol,hcl,Nat.add_mul]
          
          have grow: ∀(h1:ae),(cu CC ρ h1 w∧Ext ρ h w ρ h1 w)→h1.next=h.next→ccap<len+n→
            Out CC ρ h w (.slice (some ⟨h.next,0,none⟩) (len+n) (len+n)) (aH h1 ((bl.drop off).take (len*ei.size)++cs) ei.size)
             (((do pure (Next.value (←Builtin.append_ #[t,t'] ty #[.slice (some ca) len ccap,a.eval y]))):Sem Next).run P w):=by
           intro h1 ⟨S1,E1⟩ hnext hlt
           obtain⟨ncap,rest,g1,g2,g4,g3⟩:=(mP (t:=t) (ty:=ty) hei hut (sa:=some ca) (len:=len) (ccap:=ccap) hadd hccl hsz hnb).2 hlt hr2 hr1 olds holl hfirst
           obtain⟨ρ',hvr,hs',hx'⟩:=AU (el:=el) S1 hkk hkl hsz g1 g2 g4
           rw[hnext] at hvr
           exact⟨ρ',_,_,.inl (cA g3),hvr,hs',E1.trans hx'⟩
          split at hv
          ·rename_i hexact
           cases hv
           rw[hzl]
           refine grow h ⟨S,.refl ρ h w⟩ rfl ?_
           rcases hok.2.1 with h5|⟨h5,h6,h7,_⟩
           ·omega
           ·exfalso
            simp only[Bool.or_eq_true,Bool.not_eq_true'] at hexact
            rcases hexact with h8|h8
            ·exact h5 (q3.trans (Nat.eq_of_beq_eq_true h8))
            ·rw[q3,q2] at h7
             rw[h7,Nat.beq_refl] at h8
             cases h8
          ·rename_i hopen
           split at hv
           ·rename_i hoz
            have hoz:=Nat.eq_of_beq_eq_true hoz
            cases hv
            rw[hzl]
            by_cases hlt:ccap<len+n
            ·exact grow _ (S.less b) rfl hlt
            ·
             have hroomy:len+n≤ccap:=by omega
             have hopn:r.yW=ei.size:=by rw[q3,hoz,hzl]
             have halt:off+ccap*r.yW≤r.room:=by
              rcases hok.2.1 with h5|⟨_,_,_,h8⟩
              ·omega
              ·exact h8
             have hlow:off+cap*r.yW=r.len:=by
              rcases hok.2.1 with h5|⟨_,_,h8,_⟩
              ·omega
              ·exact h8
             have hlow2:cap*ei.size≤(len+n)*ei.size:=Nat.mul_le_mul_right _ (by omega)
             rw[hopn] at halt hlow
             have haddr:=hok.addr (show 0<ccap by omega)
             have hmul:(len+n)*ei.size≤ccap*ei.size:=Nat.mul_le_mul_right _ hroomy
             rw[Nat.add_mul] at hmul
             have hfit:r.base+(off+len*ei.size)+0+ccs.length≤ccells.size:=by rw[hccl,←q4.1];omega
             have hrun:=run_storeCells_at (P:=P) r.aA (r.base+(off+len*ei.size)) el' ccs 0 ccells w q1 hfit (fun u hm=>by
              obtain⟨i,hi⟩:=pM hm
              have hx:cs[i]? =some (cs[i]'(by rw[hk.length];exact(bY.1 hi).1)):=aQ _
              obtain⟨c,hc,hkr⟩:=hk.get hx
              rw[hi] at hc;cases hc
              exact p9 hkr.plain.2)
             have happ:=(mP (t:=t) (ty:=ty) hei hut (sa:=some ca) (len:=len) (ccap:=ccap) hadd hccl hsz hnb).1 hroomy
             have hspl:ccells.toList.take (r.base+(off+len*ei.size)+0)++ccs++ccells.toList.drop (r.base+(off+len*ei.size)+0+ccs.length)=aK ccells.toList (r.base+(off+len*ei.size)) ccs:=by simp[aK]
             rw[hspl] at hrun
             have hfit':r.base+(off+len*ei.size)+ccs.length≤ccells.toList.length:=by simpa using hfit
             have hob:gh CC (gM ρ h.next ⟨r.aA,r.base+off,(len+n)*ei.size,ei.size,r.room-off⟩) ⟨r.aA,r.base+off,(len+n)*ei.size,ei.size,r.room-off⟩
               (.aA ((bl.drop off).take (len*ei.size)++cs) false ei.size 0) (w.setRow r.aA (aK ccells.toList (r.base+(off+len*ei.size)) ccs).toArray):=by
              refine⟨_,el',(0,0),setRow_heap w r.aA ccells _ el' _ q1,hkl.symm,rfl,⟨?_,?_⟩,fun _=>rfl,?_⟩
              rotate_left 1
              ·intro hop j u hj hu
               dsimp only at hj hu
               simp only[List.getElem?_toArray] at hu
               have hj2:=hj
               rw[Nat.add_mul] at hj2
               rw[jy hfit',if_neg (by omega)] at hu
               exact q4.2 (by omega) (off+j) u (by omega) (by simpa [Nat.add_assoc] using hu)
              rotate_left 1
              ·have q4:=q4.1
               simp only[List.size_toArray,ug hfit',Array.length_toList]
               omega
              ·intro j u hj
               simp only[List.getElem?_toArray]
               rw[jy hfit']
               by_cases hjl:j<len*ei.size
               ·rw[if_neg (by omega)]
                rw[List.getElem?_append_left (by rw[hol];exact hjl),List.getElem?_take,if_pos hjl,List.getElem?_drop] at hj
                obtain⟨c,hc1,hc2⟩:=q6 _ _ hj
                exact⟨c,by rw[←hc1];simp[Nat.add_assoc],hc2.mono (pg S.fresh)⟩
               ·rw[List.getElem?_append_right (by rw[hol];omega),hol] at hj
                obtain⟨c,hc1,hc2⟩:=hk.get hj
                have hjn:=(bY.1 hc1).1
                rw[if_pos (by omega)]
                refine⟨c,?_,hc2.mono (pg S.fresh)⟩
                rw[←hc1];congr 1;omega
             obtain⟨S',E'⟩:=cu.move S hr ho rfl (im:=⟨r.aA,r.base+off,(len+n)*ei.size,ei.size,r.room-off⟩) rfl (FL.row _ _) hob
             refine⟨_,_,.slice (some ca) (len+n) ccap,.inl (cA ?_),(CR.slice (kK _ _ _) ⟨.inl ?_,.inr ⟨by show ei.size≠0;omega,hroomy,by show 0+(len+n)*ei.size=(len+n)*ei.size;omega,by show 0+ccap*ei.size≤r.room-off;omega⟩,Nat.le_refl _⟩).vr,S',E'⟩
             ·rw[happ]
              dsimp only
              rw[haddr,l9,Nat.add_assoc,hrun]
              rfl
             ·rw[haddr]
              rfl
           ·cases hv
         ·rw[if_neg hrlb] at hv
          cases hv
       ·cases hv
      ·cases hv
     ·cases hv
   ·cases hv
  ·cases hv
 ·cases hv
end
end Go.AI
