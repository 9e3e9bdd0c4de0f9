/- Parts of the proof. -/
import Derived.Test.YtdkdbjecehcekaaGreatDoorP01
import Derived.Laws.Sem
import Derived.Test.YtdkdbjecehcekaaGreatDoorP00
set_option linter.all false
set_option linter.unusedSimpArgs false
set_option linter.unusedVariables false
set_option linter.unnecessarySimpa false
namespace Go.AI
section
variable {P:Program} {CC:bI} {ρ:dp} {h h':ae} {w:World} {T:mV} {ng:Nat} {e:Env} {a:Act} {c v:Value}
theorem VR.xN {x:Nat} (h:VR ρ (.map (some x)) c): ∃r,ρ x=some r∧c= .map (some r.aA):=by
 have:=CR.pW h rfl
 cases this with
 |map h'=>exact⟨_,h',rfl⟩
theorem VR.uI (h:VR ρ (.map none) c):c= .map none:=by
 have:=CR.pW h rfl
 cases this with
 |uq=>rfl
theorem eq_int {x y:Value} {t:Bool} (h:nz [1] x y=some t): ∃k m n,x= .int k m∧y= .int k n∧t=(m==n):=by
 cases x with
 |int k m=>
  cases y with
  |int k' n=>
   simp only[nz,eu] at h
   split at h
   ·rename_i hk
    cases h
    subst hk
    exact⟨k,m,n,rfl,rfl,rfl⟩
   ·cases h
  |_=>simp[nz,eu] at h
 |_=>cases y<;>simp[nz,eu] at h
def va (ρ:dp) (x:Value×Value) (y:MapEntry):Prop:=AR ρ x.1 y.key∧AR ρ x.2 y.val
theorem IU {kk:IntKind} {k ck:Value} (hk:VR ρ k ck) {es:List (Value×Value)} {ces:List MapEntry} (ha:All2 (va ρ) es ces): ∀ {r:Option Value} (i:Nat),pq [1] k es=some r→
  (r=none∧Instr.findNow (.int kk) ck ces i=some none)∨ ∃v j cv,r=some v∧Instr.findNow (.int kk) ck ces i=some (some (j,cv))∧AR ρ v cv:=by
 induction ha with
 |nil=>intro r i h;cases h;exact .inl ⟨rfl,rfl⟩
 | @cons x y es ces hxy hs ih=>
  obtain⟨k',v'⟩:=x
  obtain⟨h1,h2⟩:=hxy
  intro r i h
  simp only[pq] at h
  split at h
  ·rename_i he
   obtain⟨kd,m,n,rfl,rfl,ht⟩:=eq_int he
   have e1:=hk.bu
   have e2:=(VR.val h1).bu
   subst e1
   cases h
   refine .inr ⟨v',i,y.val,rfl,?_,h2⟩
   simp[Instr.findNow,e2,Instr.sameNow,←ht]
  ·rename_i he
   obtain⟨kd,m,n,rfl,rfl,ht⟩:=eq_int he
   have e1:=hk.bu
   have e2:=(VR.val h1).bu
   subst e1
   rcases ih (i+1) h with⟨rfl,hf⟩|⟨v,j,cv,rfl,hf,hv⟩
   ·exact .inl ⟨rfl,by simp[Instr.findNow,e2,Instr.sameNow,←ht,hf]⟩
   ·exact .inr ⟨v,j,cv,rfl,by simp[Instr.findNow,e2,Instr.sameNow,←ht,hf],hv⟩
  ·cases h
theorem AR.Ia {k ck:Value} (h:VR ρ k ck) (hp:FG k=true):AR ρ k ck:=by
 cases k with
 |agg cs=>
  obtain⟨l⟩:=cs
  obtain⟨m,rfl,hm⟩:=h.mK
  exact .agg hm
 |_=>exact .cell (KR.si h hp)
theorem LS {kk:IntKind} {k ck v cv:Value} (hk:VR ρ k ck) (hv:VR ρ v cv) {es:List (Value×Value)} {ces:List MapEntry} (ha:All2 (va ρ) es ces): ∀ {es':List (Value×Value)} (i:Nat),pY [1] k v es=some es'→
  (Instr.findNow (.int kk) ck ces i=some none∧ ∀b,All2 (va ρ) es' (ces++[{ key:=ck,val:=cv,born:=b }]))∨
  ∃j y cv',Instr.findNow (.int kk) ck ces i=some (some (i+j,cv'))∧ces[j]? =some y∧Instr.sameBits 10000 y.key ck=true∧All2 (va ρ) es' (ces.modify j fun e=> { e with key:=ck,val:=cv }):=by
 induction ha with
 |nil=>
  intro es' i h
  simp only[pY] at h
  split at h
  ·rename_i hc
   simp only[Bool.and_eq_true] at hc
   cases h
   exact .inl ⟨rfl,fun b=> .cons ⟨AR.Ia hk hc.1,.cell (KR.si hv hc.2)⟩ .nil⟩
  ·cases h
 | @cons x y es ces hxy hs ih=>
  obtain⟨k',v'⟩:=x
  obtain⟨h1,h2⟩:=hxy
  intro es' i h
  simp only[pY] at h
  split at h
  ·rename_i he
   obtain⟨kd,m,n,rfl,rfl,ht⟩:=eq_int he
   have e1:=hk.bu
   have e2:=(VR.val h1).bu
   have hmn:m=n:=by simpa using ht.symm
   subst hmn
   subst e1
   split at h
   ·rename_i hp
    simp only[Bool.and_eq_true] at hp
    cases h
    refine .inr ⟨0,y,y.val,by simp[Instr.findNow,e2,Instr.sameNow],rfl,by simp[e2,Instr.sameBits],?_⟩
    exact .cons ⟨.cell (.cell (.int _ _)),.cell (KR.si hv hp.2)⟩ hs
   ·cases h
  ·rename_i he
   obtain⟨kd,m,n,rfl,rfl,ht⟩:=eq_int he
   have e1:=hk.bu
   have e2:=(VR.val h1).bu
   subst e1
   split at h
   ·rename_i r' hr
    cases h
    rcases ih (i+1) hr with⟨hf,hb⟩|⟨j,y',cv',hf,hy,rD,hb⟩
    ·exact .inl ⟨by simp[Instr.findNow,e2,Instr.sameNow,←ht,hf],fun b=> .cons ⟨h1,h2⟩ (hb b)⟩
    ·refine .inr ⟨j+1,y',cv',?_,by simpa using hy,rD,?_⟩
     ·simp only[Instr.findNow,e2,Instr.sameNow,←ht]
      simp[hf];omega
     ·exact .cons ⟨h1,h2⟩ hb
   ·cases h
  ·cases h
theorem tm {kk:IntKind} {t:TypeId} (hu:P.underlying t=some (.int kk)) (b:Bool) (v:Value):(Instr.checkKey b 10000 t v).run P w= .ok () w:=by
 unfold Instr.checkKey
 simp[run_underlying hu]
@[simp] theorem wh (v:Value):sg [1] v=true:=rfl
theorem Lj (hT:bQ P T) {t kt el:TypeId} {i ki ei:TI} {kk:IntKind} {z:Value} {x y:Operand} {ok:Bool} (hti:T t=some i) (hu:i.u= .map kt el) (hki:T kt=some ki) (hku:ki.u= .int kk) (hel:T el=some ei) (hz:ei.zero=[z]) (hag:ei.agg=false)
  (S:cu CC ρ h w) (hE:ER ρ e a.tmps) (hG:bJ ng ρ) (hx:aR ng x=true) (hy:aR ng y=true) (hv:aZ e h (.look [1] z ok x y)=some (v,h')):
  Out CC ρ h w v h' (((do pure (Next.value (←Instr.lookup t (a.eval x) (a.eval y) ok))):Sem Next).run P w):=by
 have hut:=(hT t i hti).u
 rw[hu] at hut
 have huk:=(hT kt ki hki).u
 rw[hku] at huk
 obtain⟨z',hz1,hz2⟩:=p6 (P:=P) (w:=w) (hT el ei hel)
 have hzz:z'=z:=by
  obtain⟨ti,k1,k2,k3,zz,k4,k5⟩:=(hT el ei hel).info
  have:=(hT el ei hel).one hag ti zz k1 k4
  have e1:zz=z':=by
   have:(zeroValue el).run P w= .ok zz w:=by simp[zeroValue,typeInfo,k1,k4]
   rw[this] at hz1;cases hz1;rfl
  subst e1
  have hc:zz.cells.toList=[zz]:=by cases zz<;>first|rfl|(simp[AI.plain] at this)
  rw[hc,hz] at hz2
  simpa using hz2
 subst hzz
 have hzc:bx z'=true:=by
  have:=(hT el ei hel).zero
  rw[hz] at this
  simpa using this
 have hzr:AR ρ z' z':= .cell (.cell (gm hzc))
 have hrx:=hE.eval hG hx
 have hry:=hE.eval hG hy
 have key: ∀(es:List (Value×Value)) (ces:Array MapEntry),All2 (va ρ) es ces.toList→ ∀r,pq [1] (ev e y) es=some r→(∀(body:Sem (Array MapEntry)),body.run P w= .ok ces w→True)→
   ∃c,(match r with|none=>VR ρ (if ok then .tuple #[z',.bool false] else z') c|some v=>VR ρ (if ok then .tuple #[v,.bool true] else v) c)∧
    ((do
     Instr.checkKey ces.isEmpty 10000 kt (a.eval y)
     let(v,ok')←match←Instr.findKey kt (a.eval y) ces.toList with
      |some (_,v)=>pure (v,true)
      |none=>pure (←zeroValue el,false)
     pure (if ok then Value.tuple #[v,.bool ok'] else v)):Sem Value).run P w= .ok c w:=by
  intro es ces ha r hr _
  rcases IU (kk:=kk) hry ha 0 hr with⟨rfl,hf⟩|⟨v,j,cv,rfl,hf,hvc⟩
  ·cases ok with
   |false=>exact⟨z',.val hzr,by simp[tm huk,Instr.findKey,run_underlying huk,hf,hz1]⟩
   |true=>exact⟨.tuple #[z',.bool false],.tuple (.cons hzr (.cons (.cell (.cell (.bool _))) .nil)),by simp[tm huk,Instr.findKey,run_underlying huk,hf,hz1]⟩
  ·cases ok with
   |false=>exact⟨cv,.val hvc,by simp[tm huk,Instr.findKey,run_underlying huk,hf]⟩
   |true=>exact⟨.tuple #[cv,.bool true],.tuple (.cons hvc (.cons (.cell (.cell (.bool _))) .nil)),by simp[tm huk,Instr.findKey,run_underlying huk,hf]⟩
 cases hm:ev e x with
 |map m=>
  rw[hm] at hrx
  cases m with
  |none=>
   have e1:=hrx.uI
   simp only[aZ,hm,wh,cond_true] at hv
   cases hv
   obtain⟨c,h1,h2⟩:=key [] #[] .nil none rfl (fun _ _=>trivial)
   refine Out.same S (c:=c) (cA ?_) h1
   rw[e1]
   simp only[Instr.lookup,Sem.run_bind,run_underlying hut,Result.andThen]
   simp[Sem.run_bind,Result.andThen] at h2 ⊢
   exact h2
  |some b=>
   obtain⟨r,hr,e1⟩:=hrx.xN
   simp only[aZ,hm,wh,cond_true] at hv
   cases hg:h.tr.get b with
   |none=>simp[hg] at hv
   |some ob=>
    cases ob with
    |map es=>
     simp only[hg] at hv
     obtain⟨ces,cl,hw,ha⟩:=S.obj b r _ hr hg
     cases hl:pq [1] (ev e y) es with
     |none=>simp[hl] at hv
     |some q=>
      obtain⟨c,h1,h2⟩:=key es ces ha q hl (fun _ _=>trivial)
      have hvh:VR ρ v c∧h'=h:=by
       cases q with
       |none=>simp only[hl] at hv;cases hv;exact⟨h1,rfl⟩
       |some q=>simp only[hl] at hv;cases hv;exact⟨h1,rfl⟩
      obtain⟨h1,rfl⟩:=hvh
      refine Out.same S (c:=c) (cA ?_) h1
      rw[e1]
      have hgo:(getObj r.aA).run P w= .ok (.map ces cl) w:=by simp[getObj,Sem.run,hw]
      simp only[Instr.lookup,Sem.run_bind,run_underlying hut,Result.andThen,hgo]
      simp[Sem.run_bind,Result.andThen] at h2 ⊢
      exact h2
    |_=>simp[hg] at hv
 |_=>simp[aZ,hm] at hv
theorem Ld (hT:bQ P T) {t kt el:TypeId} {i ki:TI} {kk:IntKind} {x y z:Operand} (hti:T t=some i) (hu:i.u= .map kt el) (hki:T kt=some ki) (hku:ki.u= .int kk)
  (S:cu CC ρ h w) (hE:ER ρ e a.tmps) (hG:bJ ng ρ) (hx:aR ng x=true) (hy:aR ng y=true) (hz:aR ng z=true) (hv:aZ e h (.Bn [1] x y z)=some (v,h')):
  ∃w',v= .tuple #[]∧(Instr.mapUpdate t (a.eval x) (a.eval y) (a.eval z)).run P w= .ok () w'∧cu CC ρ h' w'∧Ext ρ h w ρ h' w':=by
 have hut:=(hT t i hti).u
 rw[hu] at hut
 have huk:=(hT kt ki hki).u
 rw[hku] at huk
 have hrx:=hE.eval hG hx
 have hry:=hE.eval hG hy
 have hrz:=hE.eval hG hz
 cases hm:ev e x with
 |map m=>
  rw[hm] at hrx
  cases m with
  |none=>simp[aZ,hm] at hv
  |some b=>
   obtain⟨r,hr,e1⟩:=hrx.xN
   simp only[aZ,hm,wh,cond_true] at hv
   cases hg:h.tr.get b with
   |none=>simp[hg] at hv
   |some ob=>
    cases ob with
    |map es=>
     simp only[hg] at hv
     cases hup:pY [1] (ev e y) (ev e z) es with
     |none=>simp[hup] at hv
     |some es'=>
      simp only[hup] at hv
      cases hv
      obtain⟨ces,cl,hw,ha⟩:=S.obj b r _ hr hg
      have hgo:(getObj r.aA).run P w= .ok (.map ces cl) w:=by simp[getObj,Sem.run,hw]
      have hso: ∀o,(setObj r.aA o).run P w= .ok () { w with heap:=w.heap.setIfInBounds r.aA o } :=by intro o;simp[setObj,Sem.run,hw]
      have hset: ∀o,({ w with heap:=w.heap.setIfInBounds r.aA o } :World).heap[r.aA]? =some o:=by
       intro o
       have:=uP hw
       simp[this]
      rw[e1]
      rcases LS (kk:=kk) hry hrz ha 0 hup with⟨hf,hb⟩|⟨j,y',cv',hf,hyj,rD,hb⟩
      ·obtain⟨S',E'⟩:=S.qV hr hg rfl (FL.obj (w:=w) r.aA (.map (ces.push { key:=a.eval y,val:=a.eval z,born:=cl }) (cl+1))) (o':= .map es') ⟨_,_,hset _,by show All2 (va ρ) es' _;simpa using hb cl⟩ (h.clock+1)
       refine⟨_,rfl,?_,S',E'⟩
       simp[Instr.mapUpdate,run_underlying hut,hgo,tm huk,Instr.findKey,run_underlying huk,hf,hso]
      ·obtain⟨S',E'⟩:=S.qV hr hg rfl (FL.obj (w:=w) r.aA (.map (ces.modify j fun e=> { e with key:=a.eval y,val:=a.eval z }) cl)) (o':= .map es') ⟨_,_,hset _,by show All2 (va ρ) es' _;simpa using hb⟩ (h.clock+1)
       refine⟨_,rfl,?_,S',E'⟩
       have hyj':ces[j]? =some y':=by simpa using hyj
       simp[Instr.mapUpdate,run_underlying hut,hgo,tm huk,Instr.findKey,run_underlying huk,hf,hso,hyj',Instr.keyThatStays,rD]
    |_=>simp[hg] at hv
 |_=>simp[aZ,hm] at hv
theorem Ji {ks:List Nat} {l:Array Value} {y:Value} {t:Bool} (h:nz (9::ks) (.agg l) y=some t): ∃l',y= .agg l'∧bp ks l.toList l'.toList=some t:=by
 cases y with
 |agg l'=>exact⟨l',rfl,h⟩
 |_=>
  exfalso
  unfold nz at h
  cases ks with
  |nil=>simp[eu] at h
  |cons a ks=>simp at h
theorem HJ {k:Nat} {p q:Value} (h:eu k p q=some true) (n:Nat):Instr.sameBits n p q=true:=by
 unfold eu at h
 split at h
 ·cases n<;>simpa [Instr.sameBits] using h
 ·split at h
  ·rename_i hk;subst hk
   cases n<;>simpa [Instr.sameBits] using h
  ·cases h
 ·cases n<;>simpa [Instr.sameBits] using h
 ·cases h
theorem En {n:Nat} : ∀ {ks:List Nat} {l m:List Value},bp ks l m=some true→(l.zip m).all (fun x=>Instr.sameBits n x.1 x.2)=true:=by
 intro ks
 induction ks with
 |nil=>
  intro l m h
  obtain⟨h1,h2⟩:=dE h
  match l,m,h1,h2 with
  |[],[],_,_=>rfl
 |cons k ks ih=>
  intro l m h
  obtain⟨h1,h2⟩:=dE h
  match l,m,h1,h2 with
  |p::l,q::m,_,_=>
   simp only[bp] at h
   split at h
   ·rename_i x y h3 h4
    simp only[Option.some.injEq,Bool.and_eq_true] at h
    obtain⟨rfl,rfl⟩:=h
    simp only[List.zip_cons_cons,List.all_cons,Bool.and_eq_true]
    exact⟨HJ h3 n,ih h4⟩
   ·cases h
theorem I8 {ks:List Nat} {l m:List Value} (h:bp ks l m=some true) (n:Nat):Instr.sameBits (n+1) (.agg ⟨l⟩) (.agg ⟨m⟩)=true:=by
 obtain⟨h1,h2⟩:=dE h
 have:=En (n:=n) h
 simp only[Instr.sameBits,Bool.and_eq_true]
 exact⟨by simp[h1,h2],this⟩
theorem EX (a b:ByteArray):(a==b)=(b==a):=by
 cases a with|mk a=>cases b with|mk b=>
 show(a==b)=(b==a)
 exact BEq.comm
theorem BL: ∀ {ks:List Nat} {l m:List Value} {t:Bool},bp ks l m=some t→bp ks m l=some t:=by
 intro ks
 induction ks with
 |nil=>
  intro l m t h
  obtain⟨h1,h2⟩:=dE h
  match l,m,h1,h2 with
  |[],[],_,_=>exact h
 |cons k ks ih=>
  intro l m t h
  obtain⟨h1,h2⟩:=dE h
  match l,m,h1,h2 with
  |p::l,q::m,_,_=>
   simp only[bp] at h ⊢
   split at h
   ·rename_i x y h3 h4
    have e:eu k q p=some x:=by
     unfold eu at h3 ⊢
     split at h3
     ·cases h3;simp[Bool.beq_comm]
     ·split at h3
      ·rename_i hk;subst hk
       cases h3
       rw[if_pos rfl]
       refine congrArg some ?_
       rw[Bool.eq_iff_iff];simp only[beq_iff_eq];exact eq_comm
      ·cases h3
     ·rename_i s1 s2
      cases h3
      exact congrArg some (EX _ _)
     ·cases h3
    rw[e,ih h4]
    exact h
   ·cases h
theorem Jy (hT:bQ P T): ∀(d t:Nat) (i:TI) (dep:Nat) (ks:List Nat),T t=some i→kinds T d t=some ks→d≤dep→ ∀(l:List Value),l.length=i.size→ ∀(b:Bool) (w:World),(Instr.checkKey b dep t (lM i l)).run P w= .ok () w:=by
 intro d
 induction d with
 |zero=>intro t i dep ks _ h;simp[kinds] at h
 |succ d ih=>
  intro t i dep ks hti hfl hd l hl b w
  obtain⟨dep,rfl⟩: ∃k,dep=k+1:=⟨dep-1,by omega⟩
  have hi:=hT t i hti
  have hu':=hi.u
  simp only[kinds,hti] at hfl
  have hag:=hi.agg
  split at hfl
  ·rename_i hu
   rw[hu] at hu'
   unfold Instr.checkKey
   simp[run_underlying hu']
  ·rename_i hu
   rw[hu] at hu'
   unfold Instr.checkKey
   simp[run_underlying hu']
  ·rename_i hu
   rw[hu] at hu'
   unfold Instr.checkKey
   simp[run_underlying hu']
  ·rename_i fs hu
   rw[hu] at hag hu'
   split at hfl
   ·rename_i n hc
    cases hb:Nat.beq n i.size with
    |false=>simp[hb] at hfl
    |true=>
     simp only[hb,cond_true] at hfl
     have hn:=Nat.eq_of_beq_eq_true hb
     have key: ∀(gs:List Field) (off:Nat) (ks:List Nat),kY T off gs=some n→j_ (kinds T d) gs=some ks→ ∀w,
       (forIn gs PUnit.unit (fun f r=>do
        if f.name≠ "_" then do
         Instr.checkKey b dep f.type (←part f.type ⟨l⟩ f.offset)
         pure (ForInStep.yield PUnit.unit)
        else pure (ForInStep.yield PUnit.unit)):Sem PUnit).run P w= .ok PUnit.unit w:=by
      intro gs
      induction gs with
      |nil=>intro off ks _ _ w;simp
      |cons f gs ihg=>
       intro off ks hc hk w
       simp only[kY] at hc
       cases hbo:Nat.beq f.offset off with
       |false=>simp[hbo] at hc
       |true=>
        simp only[hbo,cond_true] at hc
        have hoff:=Nat.eq_of_beq_eq_true hbo
        cases htf:T f.type with
        |none=>simp[htf] at hc
        |some j=>
         simp only[htf] at hc
         obtain⟨hname,a,b',ha,hb',rfl⟩:=mI hk
         have hle:=AL hc
         have hp:=mS (hT f.type j htf) (m:=l) (off:=f.offset) (by omega) w
         have hlen:((l.drop f.offset).take j.size).length=j.size:=by simp;omega
         have h1:=ih f.type j dep a htf ha (by omega) _ hlen b w
         have h2:=ihg (off+j.size) b' hc hb' w
         rw[List.forIn_cons]
         simp only[hname,ne_eq,not_false_eq_true,if_true,Sem.run_bind,hp,Result.andThen_ok,h1,Sem.run_pure]
         exact h2
     simp only[lM,hag,kc,cond_true]
     unfold Instr.checkKey
     simp only[Sem.run_bind,run_underlying hu',Result.andThen_ok]
     have h:=key fs.toList 0 ks hc hfl w
     rw[Array.forIn_toList] at h
     simp at h
     simp[h]
   ·cases hfl
  ·rename_i n el hu
   rw[hu] at hag hu'
   split at hfl
   ·rename_i e he
    cases hb:Nat.beq (n*e.size) i.size with
    |false=>simp[hb] at hfl
    |true=>
     simp only[hb,cond_true] at hfl
     have hn:=Nat.eq_of_beq_eq_true hb
     split at hfl
     ·rename_i ks' hk
      have key: ∀(L:List Nat),(∀j∈L,j<n)→ ∀w,
        (forIn L PUnit.unit (fun j r=>do
         Instr.checkKey b dep el (←part el ⟨l⟩ (j*(←sizeOf el)))
         pure (ForInStep.yield PUnit.unit)):Sem PUnit).run P w= .ok PUnit.unit w:=by
       intro L
       induction L with
       |nil=>intro _ w;simp
       |cons j L ihL=>
        intro hL w
        have hj:=hL j (List.mem_cons_self ..)
        have hle:j*e.size+e.size≤l.length:=by
         have:(j+1)*e.size≤n*e.size:=Nat.mul_le_mul_right _ hj
         rw[Nat.add_mul] at this
         omega
        have hp:=mS (hT el e he) (m:=l) (off:=j*e.size) hle w
        have hlen:((l.drop (j*e.size)).take e.size).length=e.size:=by simp;omega
        have h1:=ih el e dep ks' he hk (by omega) _ hlen b w
        have h2:=ihL (fun x hx=>hL x (List.mem_cons_of_mem _ hx)) w
        have hs:=(eo (w:=w) (hT el e he)).1
        rw[List.forIn_cons]
        simp only[Sem.run_bind,hs,hp,Result.andThen_ok,h1,Sem.run_pure]
        exact h2
      simp only[lM,hag,kc,cond_true]
      unfold Instr.checkKey
      simp only[Sem.run_bind,run_underlying hu',Result.andThen_ok]
      have h:=key (List.range' 0 n) (fun j hj=>by simp at hj;omega) w
      simp at h
      simp[h]
     ·cases hfl
   ·cases hfl
  ·cases hfl
theorem I0 (hT:bQ P T) {kt:Nat} {ki:TI} {ks:List Nat} (hki:T kt=some ki) (hk:kinds T 9 kt=some ks) (hag:ki.agg=true) {l m:List Value} (hlm:All2 (KR ρ) l m) {es:List (Value×Value)} {ces:List MapEntry} (ha:All2 (va ρ) es ces):
  ∀ {r:Option Value} (i:Nat),pq (9::ks) (.agg ⟨l⟩) es=some r→
   (r=none∧ ∀w,(Instr.findAsking kt (.agg ⟨m⟩) ces i).run P w= .ok none w)∨ ∃v j cv,r=some v∧(∀w,(Instr.findAsking kt (.agg ⟨m⟩) ces i).run P w= .ok (some (j,cv)) w)∧AR ρ v cv:=by
 induction ha with
 |nil=>intro r i h;cases h;exact .inl ⟨rfl,fun w=>by simp[Instr.findAsking]⟩
 | @cons x y es ces hxy hs ih=>
  obtain⟨k',v'⟩:=x
  obtain⟨h1,h2⟩:=hxy
  intro r i h
  simp only[pq] at h
  have step: ∀t,nz (9::ks) (.agg ⟨l⟩) k'=some t→ ∀w,(Op.equal kt (.agg ⟨m⟩) y.key).run P w= .ok t w:=by
   intro t he w
   obtain⟨⟨l'⟩,rfl,he'⟩:=Ji he
   obtain⟨m',e2,hm'⟩:=(VR.val h1).mK
   have hrel:=rp hlm hm' he'
   have:=wy hT 9 kt ki 10000 ks hki hk (by omega) m m' t hrel w
   simp only[lM,hag,cond_true] at this
   rw[e2]
   exact this
  split at h
  ·rename_i he
   cases h
   refine .inr ⟨v',i,y.val,rfl,fun w=> ?_,h2⟩
   simp[Instr.findAsking,step _ he]
  ·rename_i he
   rcases ih (i+1) h with⟨rfl,hf⟩|⟨v,j,cv,rfl,hf,hv⟩
   ·exact .inl ⟨rfl,fun w=>by simp[Instr.findAsking,step _ he,hf]⟩
   ·exact .inr ⟨v,j,cv,rfl,fun w=>by simp[Instr.findAsking,step _ he,hf],hv⟩
  ·cases h
theorem KS (hT:bQ P T) {kt:Nat} {ki:TI} {ks:List Nat} (hki:T kt=some ki) (hk:kinds T 9 kt=some ks) (hag:ki.agg=true) {l m:List Value} (hlm:All2 (KR ρ) l m) {v cv:Value} (hv:VR ρ v cv) {es:List (Value×Value)} {ces:List MapEntry} (ha:All2 (va ρ) es ces):
  ∀ {es':List (Value×Value)} (i:Nat),pY (9::ks) (.agg ⟨l⟩) v es=some es'→
   ((∀w,(Instr.findAsking kt (.agg ⟨m⟩) ces i).run P w= .ok none w)∧ ∀b,All2 (va ρ) es' (ces++[{ key:= .agg ⟨m⟩,val:=cv,born:=b }]))∨
   ∃j y cv',(∀w,(Instr.findAsking kt (.agg ⟨m⟩) ces i).run P w= .ok (some (i+j,cv')) w)∧ces[j]? =some y∧Instr.sameBits 10000 y.key (.agg ⟨m⟩)=true∧All2 (va ρ) es' (ces.modify j fun e=> { e with key:= .agg ⟨m⟩,val:=cv }):=by
 induction ha with
 |nil=>
  intro es' i h
  simp only[pY] at h
  split at h
  ·rename_i hc
   simp only[Bool.and_eq_true] at hc
   cases h
   exact .inl ⟨fun w=>by simp[Instr.findAsking],fun b=> .cons ⟨.agg hlm,.cell (KR.si hv hc.2)⟩ .nil⟩
  ·cases h
 | @cons x y es ces hxy hs ih=>
  obtain⟨k',v'⟩:=x
  obtain⟨h1,h2⟩:=hxy
  intro es' i h
  simp only[pY] at h
  have step: ∀t,nz (9::ks) (.agg ⟨l⟩) k'=some t→(∀w,(Op.equal kt (.agg ⟨m⟩) y.key).run P w= .ok t w)∧(t=true→Instr.sameBits 10000 y.key (.agg ⟨m⟩)=true):=by
   intro t he
   obtain⟨⟨l'⟩,rfl,he'⟩:=Ji he
   obtain⟨m',e2,hm'⟩:=(VR.val h1).mK
   have hrel:=rp hlm hm' he'
   refine⟨fun w=> ?_,?_⟩
   ·have:=wy hT 9 kt ki 10000 ks hki hk (by omega) m m' t hrel w
    simp only[lM,hag,cond_true] at this
    rw[e2]
    exact this
   ·rintro rfl
    rw[e2]
    exact I8 (BL hrel) 9999
  split at h
  ·rename_i he
   split at h
   ·rename_i hp
    simp only[Bool.and_eq_true] at hp
    cases h
    refine .inr ⟨0,y,y.val,fun w=>by simp[Instr.findAsking,(step _ he).1],rfl,(step _ he).2 rfl,?_⟩
    exact .cons ⟨.agg hlm,.cell (KR.si hv hp.2)⟩ hs
   ·cases h
  ·rename_i he
   split at h
   ·rename_i r' hr
    cases h
    rcases ih (i+1) hr with⟨hf,hb⟩|⟨j,y',cv',hf,hy,rD,hb⟩
    ·exact .inl ⟨fun w=>by simp[Instr.findAsking,(step _ he).1,hf],fun b=> .cons ⟨h1,h2⟩ (hb b)⟩
    ·refine .inr ⟨j+1,y',cv',fun w=> ?_,by simpa using hy,rD,?_⟩
     ·simp[Instr.findAsking,(step _ he).1,hf]
      omega
     ·exact .cons ⟨h1,h2⟩ hb
   ·cases h
  ·cases h
theorem pT {kt:Nat} (hu:(∃fs,P.underlying kt=some (.struct fs))∨ ∃n el,P.underlying kt=some (.array n el)) {c:Value} {ces:List MapEntry} {r:Option (Nat×Value)} (h: ∀w,(Instr.findAsking kt c ces 0).run P w= .ok r w) (w:World):(Instr.findKey kt c ces).run P w= .ok r w:=by
 cases ces with
 |nil=>
  have:=h w
  simp[Instr.findAsking] at this
  rcases hu with⟨fs,hu⟩|⟨n,el,hu⟩<;>simp[Instr.findKey,run_underlying hu,Instr.findNow,this]
 |cons x ces=>
  rcases hu with⟨fs,hu⟩|⟨n,el,hu⟩<;>simp[Instr.findKey,run_underlying hu,Instr.findNow,Instr.sameNow,h]
theorem Dl (hT:bQ P T) {kt:Nat} {ki:TI} {ks:List Nat} (hki:T kt=some ki) (hkk:kinds T 9 kt=some ks) (hka:ki.agg=true) {m:List Value} (hm:m.length=ks.length) (b:Bool) (w:World):(Instr.checkKey b 10000 kt (.agg ⟨m⟩)).run P w= .ok () w:=by
 have:=Jy hT 9 kt ki 10000 ks hki hkk (by omega) m (by rw[hm];exact mL hki hT hkk) b w
 simpa only[lM,hka,cond_true] using this
theorem All2.FX {α β:Type} {R:α→β→Prop} {l:List α} {m:List β} (h:All2 R l m):l.length=m.length:=by
 induction h with
 |nil=>rfl
 |cons _ _ ih=>simp[ih]
theorem Dw (hT:bQ P T) {t kt el:TypeId} {i ki ei:TI} {ks:List Nat} {z:Value} {x y:Operand} {ok:Bool} (hti:T t=some i) (hu:i.u= .map kt el) (hki:T kt=some ki) (hkk:kinds T 9 kt=some ks) (hka:ki.agg=true) (hku:(∃fs,ki.u= .struct fs)∨ ∃n el,ki.u= .array n el) (hel:T el=some ei) (hz:ei.zero=[z]) (hag:ei.agg=false)
  (S:cu CC ρ h w) (hE:ER ρ e a.tmps) (hG:bJ ng ρ) (hx:aR ng x=true) (hy:aR ng y=true) (hv:aZ e h (.look (9::ks) z ok x y)=some (v,h')):
  Out CC ρ h w v h' (((do pure (Next.value (←Instr.lookup t (a.eval x) (a.eval y) ok))):Sem Next).run P w):=by
 have hut:=(hT t i hti).u
 rw[hu] at hut
 have huk:(∃fs,P.underlying kt=some (.struct fs))∨ ∃n el,P.underlying kt=some (.array n el):=by
  have:=(hT kt ki hki).u
  rcases hku with⟨fs,e⟩|⟨n,el,e⟩
  ·exact .inl ⟨fs,by rw[this,e]⟩
  ·exact .inr ⟨n,el,by rw[this,e]⟩
 obtain⟨z',hz1,hz2⟩:=p6 (P:=P) (w:=w) (hT el ei hel)
 have hzz:z'=z:=by
  obtain⟨ti,k1,k2,k3,zz,k4,k5⟩:=(hT el ei hel).info
  have:=(hT el ei hel).one hag ti zz k1 k4
  have e1:zz=z':=by
   have:(zeroValue el).run P w= .ok zz w:=by simp[zeroValue,typeInfo,k1,k4]
   rw[this] at hz1;cases hz1;rfl
  subst e1
  have hc:zz.cells.toList=[zz]:=by cases zz<;>first|rfl|(simp[AI.plain] at this)
  rw[hc,hz] at hz2
  simpa using hz2
 subst hzz
 have hzc:bx z'=true:=by
  have:=(hT el ei hel).zero
  rw[hz] at this
  simpa using this
 have hzr:AR ρ z' z':= .cell (.cell (gm hzc))
 have hrx:=hE.eval hG hx
 have hry:=hE.eval hG hy
 obtain⟨l,hky,hll⟩: ∃l,ev e y= .agg ⟨l⟩∧l.length=ks.length:=by
  cases hky:ev e y with
  |agg lk=>
   obtain⟨l⟩:=lk
   refine⟨l,rfl,?_⟩
   cases hko:sg (9::ks) (ev e y) with
   |false=>simp[aZ,hko] at hv
   |true=>rw[hky] at hko;exact Nat.eq_of_beq_eq_true hko
  |_=>simp[aZ,hky,sg] at hv
 have hko:sg (9::ks) (ev e y)=true:=by rw[hky];show Nat.beq l.length ks.length=true;rw[hll];exact Nat.beq_refl _
 rw[hky] at hry
 obtain⟨m,em,hlm⟩:=hry.mK
 have hml:m.length=ks.length:=by rw[←hll];exact(All2.FX hlm).symm
 have hck:=fun b w=>Dl hT hki hkk hka hml b w
 have key: ∀(es:List (Value×Value)) (ces:Array MapEntry),All2 (va ρ) es ces.toList→ ∀r,pq (9::ks) (ev e y) es=some r→(∀(body:Sem (Array MapEntry)),body.run P w= .ok ces w→True)→
   ∃c,(match r with|none=>VR ρ (if ok then .tuple #[z',.bool false] else z') c|some v=>VR ρ (if ok then .tuple #[v,.bool true] else v) c)∧
    ((do
     Instr.checkKey ces.isEmpty 10000 kt (a.eval y)
     let(v,ok')←match←Instr.findKey kt (a.eval y) ces.toList with
      |some (_,v)=>pure (v,true)
      |none=>pure (←zeroValue el,false)
     pure (if ok then Value.tuple #[v,.bool ok'] else v)):Sem Value).run P w= .ok c w:=by
  intro es ces ha r hr _
  rw[hky] at hr
  rw[em]
  rcases I0 hT hki hkk hka hlm ha 0 hr with⟨rfl,hf⟩|⟨v,j,cv,rfl,hf,hvc⟩
  ·cases ok with
   |false=>exact⟨z',.val hzr,by simp[hck,pT huk hf,hz1]⟩
   |true=>exact⟨.tuple #[z',.bool false],.tuple (.cons hzr (.cons (.cell (.cell (.bool _))) .nil)),by simp[hck,pT huk hf,hz1]⟩
  ·cases ok with
   |false=>exact⟨cv,.val hvc,by simp[hck,pT huk hf]⟩
   |true=>exact⟨.tuple #[cv,.bool true],.tuple (.cons hvc (.cons (.cell (.cell (.bool _))) .nil)),by simp[hck,pT huk hf]⟩
 cases hm:ev e x with
 |map m=>
  rw[hm] at hrx
  cases m with
  |none=>
   have e1:=hrx.uI
   simp only[aZ,hm,hko,cond_true] at hv
   cases hv
   obtain⟨c,h1,h2⟩:=key [] #[] .nil none rfl (fun _ _=>trivial)
   refine Out.same S (c:=c) (cA ?_) h1
   rw[e1]
   simp only[Instr.lookup,Sem.run_bind,run_underlying hut,Result.andThen]
   simp[Sem.run_bind,Result.andThen] at h2 ⊢
   exact h2
  |some b=>
   obtain⟨r,hr,e1⟩:=hrx.xN
   simp only[aZ,hm,hko,cond_true] at hv
   cases hg:h.tr.get b with
   |none=>simp[hg] at hv
   |some ob=>
    cases ob with
    |map es=>
     simp only[hg] at hv
     obtain⟨ces,cl,hw,ha⟩:=S.obj b r _ hr hg
     cases hl:pq (9::ks) (ev e y) es with
     |none=>simp[hl] at hv
     |some q=>
      obtain⟨c,h1,h2⟩:=key es ces ha q hl (fun _ _=>trivial)
      have hvh:VR ρ v c∧h'=h:=by
       cases q with
       |none=>simp only[hl] at hv;cases hv;exact⟨h1,rfl⟩
       |some q=>simp only[hl] at hv;cases hv;exact⟨h1,rfl⟩
      obtain⟨h1,rfl⟩:=hvh
      refine Out.same S (c:=c) (cA ?_) h1
      rw[e1]
      have hgo:(getObj r.aA).run P w= .ok (.map ces cl) w:=by simp[getObj,Sem.run,hw]
      simp only[Instr.lookup,Sem.run_bind,run_underlying hut,Result.andThen,hgo]
      simp[Sem.run_bind,Result.andThen] at h2 ⊢
      exact h2
    |_=>simp[hg] at hv
 |_=>simp[aZ,hm] at hv
theorem CL (hT:bQ P T) {t kt el:TypeId} {i ki:TI} {ks:List Nat} {x y z:Operand} (hti:T t=some i) (hu:i.u= .map kt el) (hki:T kt=some ki) (hkk:kinds T 9 kt=some ks) (hka:ki.agg=true) (hku:(∃fs,ki.u= .struct fs)∨ ∃n el,ki.u= .array n el)
  (S:cu CC ρ h w) (hE:ER ρ e a.tmps) (hG:bJ ng ρ) (hx:aR ng x=true) (hy:aR ng y=true) (hz:aR ng z=true) (hv:aZ e h (.Bn (9::ks) x y z)=some (v,h')):
  ∃w',v= .tuple #[]∧(Instr.mapUpdate t (a.eval x) (a.eval y) (a.eval z)).run P w= .ok () w'∧cu CC ρ h' w'∧Ext ρ h w ρ h' w':=by
 have hut:=(hT t i hti).u
 rw[hu] at hut
 have huk:(∃fs,P.underlying kt=some (.struct fs))∨ ∃n el,P.underlying kt=some (.array n el):=by
  have:=(hT kt ki hki).u
  rcases hku with⟨fs,e⟩|⟨n,el,e⟩
  ·exact .inl ⟨fs,by rw[this,e]⟩
  ·exact .inr ⟨n,el,by rw[this,e]⟩
 have hrx:=hE.eval hG hx
 have hry:=hE.eval hG hy
 have hrz:=hE.eval hG hz
 obtain⟨l,hky,hll⟩: ∃l,ev e y= .agg ⟨l⟩∧l.length=ks.length:=by
  cases hky:ev e y with
  |agg lk=>
   obtain⟨l⟩:=lk
   refine⟨l,rfl,?_⟩
   cases hko:sg (9::ks) (ev e y) with
   |false=>simp[aZ,hko] at hv
   |true=>rw[hky] at hko;exact Nat.eq_of_beq_eq_true hko
  |_=>simp[aZ,hky,sg] at hv
 have hko:sg (9::ks) (ev e y)=true:=by rw[hky];show Nat.beq l.length ks.length=true;rw[hll];exact Nat.beq_refl _
 rw[hky] at hry
 obtain⟨m,em,hlm⟩:=hry.mK
 have hml:m.length=ks.length:=by rw[←hll];exact(All2.FX hlm).symm
 have hck:=fun b w=>Dl hT hki hkk hka hml b w
 cases hm:ev e x with
 |map m=>
  rw[hm] at hrx
  cases m with
  |none=>simp[aZ,hm] at hv
  |some b=>
   obtain⟨r,hr,e1⟩:=hrx.xN
   simp only[aZ,hm,hko,cond_true] at hv
   cases hg:h.tr.get b with
   |none=>simp[hg] at hv
   |some ob=>
    cases ob with
    |map es=>
     simp only[hg] at hv
     cases hup:pY (9::ks) (ev e y) (ev e z) es with
     |none=>simp[hup] at hv
     |some es'=>
      simp only[hup] at hv
      cases hv
      obtain⟨ces,cl,hw,ha⟩:=S.obj b r _ hr hg
      have hgo:(getObj r.aA).run P w= .ok (.map ces cl) w:=by simp[getObj,Sem.run,hw]
      have hso: ∀o,(setObj r.aA o).run P w= .ok () { w with heap:=w.heap.setIfInBounds r.aA o } :=by intro o;simp[setObj,Sem.run,hw]
      have hset: ∀o,({ w with heap:=w.heap.setIfInBounds r.aA o } :World).heap[r.aA]? =some o:=by
       intro o
       have:=uP hw
       simp[this]
      rw[e1,em]
      rw[hky] at hup
      rcases KS hT hki hkk hka hlm hrz ha 0 hup with⟨hf,hb⟩|⟨j,y',cv',hf,hyj,rD,hb⟩
      ·obtain⟨S',E'⟩:=S.qV hr hg rfl (FL.obj (w:=w) r.aA (.map (ces.push { key:=(.agg ⟨m⟩),val:=a.eval z,born:=cl }) (cl+1))) (o':= .map es') ⟨_,_,hset _,by show All2 (va ρ) es' _;simpa using hb cl⟩ (h.clock+1)
       refine⟨_,rfl,?_,S',E'⟩
       simp[Instr.mapUpdate,run_underlying hut,hgo,hck,pT huk hf,hso]
      ·obtain⟨S',E'⟩:=S.qV hr hg rfl (FL.obj (w:=w) r.aA (.map (ces.modify j fun e=> { e with key:=(.agg ⟨m⟩),val:=a.eval z }) cl)) (o':= .map es') ⟨_,_,hset _,by show All2 (va ρ) es' _;simpa using hb⟩ (h.clock+1)
       refine⟨_,rfl,?_,S',E'⟩
       have hyj':ces[j]? =some y':=by simpa using hyj
       simp[Instr.mapUpdate,run_underlying hut,hgo,hck,pT huk hf,hso,hyj',Instr.keyThatStays,rD]
    |_=>simp[hg] at hv
 |_=>simp[aZ,hm] at hv
theorem HC (hT:bQ P T) {t kt el:TypeId} {i:TI} {x:Operand} (hti:T t=some i) (hu:i.u= .map kt el) (S:cu CC ρ h w) (hE:ER ρ e a.tmps) (hG:bJ ng ρ) (hx:aR ng x=true) (hv:aZ e h (.vZ x)=some (v,h')):
  Out CC ρ h w v h' (((do pure (Next.value (←Instr.range t (a.eval x)))):Sem Next).run P w):=by
 have hut:=(hT t i hti).u
 rw[hu] at hut
 have hrx:=hE.eval hG hx
 simp only[aZ] at hv
 split at hv
 ·rename_i hm
  cases hv
  rw[hm] at hrx
  have e1:=hrx.uI
  obtain⟨S',E'⟩:=cu.add (im:=⟨w.heap.size,0,0,0,0⟩) (o:= .Mz) (co:= .mapIter none 0 #[] 0) S rfl ⟨rfl,wH w _⟩
  refine⟨_,_,.pointer (some ⟨w.heap.size,0,none⟩),.inl (cA ?_),(CR.ptr (o:=0) (kK _ _ _)).vr,S',E'⟩
  simp[Instr.range,run_underlying hut,e1]
 ·cases hv
theorem MH {t:TypeId} {x:Operand} (S:cu CC ρ h w) (hE:ER ρ e a.tmps) (hG:bJ ng ρ) (hx:aR ng x=true) (hv:aZ e h (.ND x)=some (v,h')):
  Out CC ρ h w v h' (((do pure (Next.value (←Instr.next (a.eval x) false t))):Sem Next).run P w):=by
 have hrx:=hE.eval hG hx
 simp only[aZ] at hv
 split at hv
 ·rename_i b hm
  split at hv
  ·rename_i hg
   cases hv
   rw[hm] at hrx
   have hc:=CR.pW hrx rfl
   generalize hev:a.eval x=c at*
   cases hc with
   | @ptr _ _ r hr=>
    obtain⟨hb0,hw⟩:=S.obj b r _ hr hg
    refine Out.same S (c:= .tuple #[.bool false]) (cA ?_) (.tuple (.cons (.cell (.cell (.bool _))) .nil))
    have hgo:(getObj r.aA).run P w= .ok (.mapIter none 0 #[] 0) w:=by simp[getObj,Sem.run,hw]
    simp[Instr.next,hb0,hgo]
  ·cases hv
 ·cases hv
end
section
variable {P:Program} {CC:bI} {ρ:dp} {h h':ae} {w:World} {T:mV} {ng:Nat} {e:Env} {a:Act} {c v:Value}
theorem L8 (hT:bQ P T) {t t' ty el:TypeId} {i ei:TI} {x y:Operand} (hti:T t=some i) (hu:i.u= .slice el) (hel:T el=some ei)
  (S:cu CC ρ h w) (hE:ER ρ e a.tmps) (hG:bJ ng ρ) (hx:aR ng x=true) (hy:aR ng y=true) (hv:aZ e h (.copy ei.size x y)=some (v,h')):
  Out CC ρ h w v h' (((do pure (Next.value (←Builtin.copy_ #[t,t'] ty #[a.eval x,a.eval y]))):Sem Next).run P w):=by
 have hut:=(hT t i hti).u
 rw[hu] at hut
 have hsz:=(eo (w:=w) (hT _ _ hel)).1
 have hrx:=hE.eval hG hx
 have hry:=hE.eval hG hy
 simp only[aZ] at hv
 split at hv
 ·rename_i da dn dc sa sn sc h1 h2
  rw[h1] at hrx;rw[h2] at hry
  split at hv
  ·rename_i h0
   have h0:=Nat.eq_of_beq_eq_true h0
   cases hv
   obtain⟨y1,cc1,e1,_⟩:=hrx.mU
   obtain⟨y2,cc2,e2,_⟩:=hry.mU
   rw[e1,e2]
   refine Out.same S (cA ?_) (VR.int _ _)
   cases y1<;>cases y2<;>simp[Builtin.copy_,run_underlying hut,Builtin.lenOf,h0,hsz,Builtin.firstCells,loadCells,loadCellsFrom,storeCells,goInt]
  ·rename_i h0
   split at hv
   ·rename_i db doff sb soff
    split at hv
    ·rename_i cs hr
     split at hv
     ·rename_i h'' hw
      cases hv
      obtain⟨r1,ca1,cc1,hr1,hc1,ok1⟩:=hrx.ef
      obtain⟨r2,ca2,cc2,hr2,hc2,ok2⟩:=hry.ef
      obtain⟨hl,ccs,hk,hcells⟩:=vj S hr2 hr
      obtain⟨w',hrun,S',E'⟩:=tc (P:=P) S hr1 hw hk
      have hn0:Nat.min sn dn≠0:=by
       intro h;rw[h] at h0;exact h0 rfl
      have hmin:Nat.min sn dn≤sn∧Nat.min sn dn≤dn:=⟨Nat.min_le_left _ _,Nat.min_le_right _ _⟩
      have l1:=ok1.2.2
      have l2:=ok2.2.2
      have c1:=ok1.uB
      have c2:=ok2.uB
      rw[hc1,hc2]
      have e1:=ok1.addr (by omega)
      have e2:=ok2.addr (by omega)
      have hf:=run_firstCells_some (P:=P) w ei.size (Nat.min sn dn) ca2 sn cc2 ccs (by rw[←hk.length,hl]) (by rw[e2];exact hcells)
      refine⟨ρ,w',.int .i64 (Nat.min sn dn),.inl (cA ?_),VR.int _ _,S',E'⟩
      rw[←e1] at hrun
      have hf':(Builtin.firstCells ei.size (min sn dn) (.slice (some ca2) sn cc2)).run P w= .ok ccs.toArray w:=hf
      simp[Builtin.copy_,run_underlying hut,Builtin.lenOf,hsz,hf',hrun,goInt]
     ·cases hv
    ·cases hv
   ·cases hv
 ·cases hv
theorem JR (hT:bQ P T) {t ty el:TypeId} {i ei:TI} {x:Operand} (hti:T t=some i) (hu:i.u= .slice el) (hel:T el=some ei)
  (S:cu CC ρ h w) (hE:ER ρ e a.tmps) (hG:bJ ng ρ) (hx:aR ng x=true) (hv:aZ e h (.clear ei.zero x)=some (v,h')):
  Out CC ρ h w v h' (((do pure (Next.value (←Builtin.clear_ #[t] ty #[a.eval x]))):Sem Next).run P w):=by
 have hut:=(hT t i hti).u
 rw[hu] at hut
 have hei:=hT _ _ hel
 have hrx:=hE.eval hG hx
 simp only[aZ] at hv
 split at hv
 ·rename_i sa n sc h1
  rw[h1] at hrx
  split at hv
  ·rename_i h0
   have h0:=Nat.eq_of_beq_eq_true h0
   subst h0
   cases hv
   obtain⟨y1,cc1,e1,_⟩:=hrx.mU
   rw[e1]
   refine Out.same S (c:=undef) (cA ?_) VR.undef
   cases y1<;>simp[Builtin.clear_,run_underlying hut,undef]
  ·rename_i h0
   split at hv
   ·rename_i b off
    split at hv
    ·rename_i h'' hw
     cases hv
     obtain⟨r1,ca1,cc1,hr1,hc1,ok1⟩:=hrx.ef
     have hn0:n≠0:=by
      intro h;subst h;exact h0 rfl
     have l1:=ok1.2.2
     have c1:=ok1.uB
     have e1:=ok1.addr (by omega)
     obtain⟨ti,k1,k2,k3,z,k4,k5⟩:=hei.info
     have hzz:(zeroValue el).run P w= .ok z w:=by simp[zeroValue,typeInfo,k1,k4]
     have hk:=c_ (ρ:=ρ) (fU hei.zero n)
     obtain⟨w',hrun,S',E'⟩:=tc (P:=P) S hr1 hw hk
     rw[hc1]
     refine⟨ρ,w',undef,.inl (cA ?_),VR.undef,S',E'⟩
     rw[←e1] at hrun
     have hzc:(Builtin.zeroCells z.cells n).toList=gI ei.zero n:=by
      by_cases hz0:0<ei.zero.length
      ·rw[tp (.inl hz0)]
       have:z.cells=⟨ei.zero⟩:=by apply Array.ext';simpa using k5
       simp[Builtin.zeroCells,this]
      ·have hzn:ei.zero=[]:=List.eq_nil_of_length_eq_zero (by omega)
       have:z.cells=⟨[]⟩:=by apply Array.ext';rw[k5,hzn]
       rw[hzn]
       have hrn:gI [] n=[]:=List.eq_nil_of_length_eq_zero (by rw[ly];simp)
       rw[hrn]
       simp[Builtin.zeroCells,this]
     have hclr:(Builtin.clear_ #[t] ty #[.slice (some ca1) n cc1]).run P w= .ok undef w':=by
      unfold Builtin.clear_
      simp only[Sem.run_bind]
      simp[run_underlying hut,hzz,hzc,hrun,undef]
     exact hclr
    ·cases hv
   ·cases hv
 ·cases hv
theorem IL {t:TypeId} (S:cu CC ρ h w):Out CC ρ h w (.map (some h.next)) (h.new (.map [])) (((do pure (Next.value (←Instr.makeMap t none))):Sem Next).run P w):=by
 obtain⟨S',E'⟩:=cu.add (im:=⟨w.heap.size,0,0,0,0⟩) (o:= .map []) (co:= .map #[] 0) S rfl ⟨#[],0,wH w _,.nil⟩
 exact⟨_,_,.map (some w.heap.size),.inl (cA (by simp[Instr.makeMap])),(CR.map (kK _ _ _)).vr,S',E'⟩
theorem DD (hT:bQ P T) (S:cu CC ρ h w) (hE:ER ρ e a.tmps) (hG:bJ ng ρ) (o:Oper) (hok:o.op.operands.toList.all (aR ng)=true) (hv:aZ e h (bC T o.op)=some (v,h')):
  Out CC ρ h w v h' ((execOp a.eval o).run P w):=by
 obtain⟨dst,op,ty,pos,aft,gd⟩:=o
 dsimp only at hok hv
 cases op with
 |move x=>
  simp only[bC,aZ,Option.some.injEq,Prod.mk.injEq] at hv
  obtain⟨rfl,rfl⟩:=hv
  exact Out.same S rfl (hE.eval hG (by simpa [Op.operands] using hok))
 |assign x=>
  simp only[bC,aZ,Option.some.injEq,Prod.mk.injEq] at hv
  obtain⟨rfl,rfl⟩:=hv
  exact Out.same S rfl (hE.eval hG (by simpa [Op.operands] using hok))
 |pick x y z=>
  simp[Op.operands] at hok
  exact L9 S hE hG hok.1 hok.2.1 hok.2.2 hv
 |alloc t=>
  simp only[bC] at hv
  split at hv
  ·rename_i i hi
   simp only[aZ,Option.some.injEq,Prod.mk.injEq] at hv
   obtain⟨rfl,rfl⟩:=hv
   exact JV S (hT t i hi)
  ·simp[aZ] at hv
 |box t x=>
  simp[Op.operands] at hok
  simp only[bC] at hv
  split at hv
  ·simp only[aZ] at hv
   split at hv
   ·rename_i vs hf
    cases hv
    exact Na S (hE.eval hG hok) hf
   ·cases hv
  ·simp[aZ] at hv
 |build t ps=>
  have hok':(ps.toList.map (·.2)).all (aR ng)=true:=by simpa [Op.operands] using hok
  simp only[bC] at hv
  split at hv
  ·rename_i i hi
   split at hv
   ·rename_i fs hu
    cases hall:fs.toList.all fun f=>(T f.type).isSome with
    |false=>simp[hall,aZ] at hv
    |true=>
     simp only[hall,cond_true] at hv
     split at hv
     ·rename_i qs hq
      exact xD hT hi hu hall hq S hE hG hok' hv
     ·simp[aZ] at hv
   ·rename_i n el hu
    split at hv
    ·rename_i ei hel
     exact yo hT hi hu hel S hE hG hok' hv
    ·simp[aZ] at hv
   ·simp[aZ] at hv
  ·simp[aZ] at hv
 |buildSlice t n ps=>
  have hok':(ps.toList.map (·.2)).all (aR ng)=true:=by simpa [Op.operands] using hok
  simp only[bC] at hv
  split at hv
  ·rename_i i hi
   split at hv
   ·rename_i el hu
    split at hv
    ·rename_i ei hel
     cases hc:Nat.ble (n*ei.size) 1000000&&Nat.beq ei.zero.length ei.size with
     |false=>simp[hc,aZ] at hv
     |true=>
      simp only[hc,cond_true] at hv
      simp only[Bool.and_eq_true] at hc
      exact Hb hT hi hu hel (Nat.le_of_ble_eq_true hc.1) S hE hG hok' hv
    ·simp[aZ] at hv
   ·simp[aZ] at hv
  ·simp[aZ] at hv
 |load t x=>
  simp[Op.operands] at hok
  simp only[bC] at hv
  split at hv
  ·rename_i i hi
   exact Js hT hi S hE hG hok hv
  ·simp[aZ] at hv
 |store t x y=>
  simp[Op.operands] at hok
  simp only[bC] at hv
  split at hv
  ·rename_i i hi
   exact Ix hT hi S hE hG hok.1 hok.2 hv
  ·simp[aZ] at hv
 |nilCheck x=>
  simp[Op.operands] at hok
  exact H0 S hE hG hok hv
 |binOp bo t x y yt=>
  simp[Op.operands] at hok
  by_cases hbo:bo= .eql∨bo= .neq
  ·have hcm: ∃ks i,bC T (.binOp bo t x y yt)= .bin bo ks x y∧T t=some i∧x7 T t i.u ks:=by
    have hgen:bC T (.binOp bo t x y yt)=(match T t with
      |some i=>match i.u with
       | .slice _=> .bin bo [3] x y
       | .pointer _=> .bin bo [4] x y
       | .map _ _=> .bin bo [5] x y
       | .func _ _ _=> .bin bo [6] x y
       | .struct _=>match kinds T 9 t with|some ks=> .bin bo (9::ks) x y|none=> .bad
       | .array _ _=>match kinds T 9 t with|some ks=> .bin bo (9::ks) x y|none=> .bad
       | .bool=> .bin bo [0] x y
       | .int _=> .bin bo [1] x y
       | .string=> .bin bo [2] x y
       |_=> .bad
      |none=> .bad):=by
     rcases hbo with rfl|rfl<;>rfl
    rw[hgen] at hv ⊢
    split at hv
    ·rename_i i hi
     simp only[hi]
     split at hv
     ·rename_i hu;exact⟨[3],i,rfl,rfl,.inl ⟨_,hu,rfl⟩⟩
     ·rename_i hu;exact⟨[4],i,rfl,rfl,.inr (.inl ⟨_,hu,rfl⟩)⟩
     ·rename_i hu;exact⟨[5],i,rfl,rfl,.inr (.inr (.inl ⟨_,_,hu,rfl⟩))⟩
     ·rename_i hu;exact⟨[6],i,rfl,rfl,.inr (.inr (.inr (.inl ⟨_,_,_,hu,rfl⟩)))⟩
     ·rename_i hu
      split at hv
      ·rename_i ks hks
       exact⟨9::ks,i,rfl,rfl,.inr (.inr (.inr (.inr (.inl ⟨(),_,by rw[hu];rfl,hks,rfl⟩))))⟩
      ·simp[aZ] at hv
     ·rename_i hu
      split at hv
      ·rename_i ks hks
       exact⟨9::ks,i,rfl,rfl,.inr (.inr (.inr (.inr (.inl ⟨(),_,by rw[hu];rfl,hks,rfl⟩))))⟩
      ·simp[aZ] at hv
     ·rename_i hu;exact⟨[0],i,rfl,rfl,.inr (.inr (.inr (.inr (.inr (.inl ⟨hu,rfl⟩)))))⟩
     ·rename_i hu;exact⟨[1],i,rfl,rfl,.inr (.inr (.inr (.inr (.inr (.inr (.inl ⟨_,hu,rfl⟩))))))⟩
     ·rename_i hu;exact⟨[2],i,rfl,rfl,.inr (.inr (.inr (.inr (.inr (.inr (.inr ⟨hu,rfl⟩))))))⟩
     ·simp[aZ] at hv
    ·simp[aZ] at hv
   obtain⟨ks,i,hcm,hti,hka⟩:=hcm
   rw[hcm] at hv
   exact HU hT S hE hG hok.1 hok.2 hbo hti hka hv
  ·have hcm:bC T (.binOp bo t x y yt)= .bin bo [] x y:=by
    cases bo<;>first|rfl|(exact absurd (.inl rfl) hbo)|(exact absurd (.inr rfl) hbo)
   rw[hcm] at hv
   exact EZ S hE hG hok.1 hok.2 ⟨fun h=>hbo (.inl h),fun h=>hbo (.inr h)⟩ hv
 |unOp uo t x=>
  simp[Op.operands] at hok
  exact N9 S hE hG hok hv
 |convert s d x=>
  simp[Op.operands] at hok
  simp only[bC] at hv
  split at hv
  ·rename_i i j hi hj
   split at hv
   ·rename_i h1 h2
    exact La hT hi hj h1 h2 S hE hG hok hv
   ·simp[aZ] at hv
  ·simp[aZ] at hv
 |makeFunc fn first caps=>
  cases fn with
  |func f=>
   simp only[bC] at hv
   cases hf:first.isEmpty with
   |false=>simp[hf,aZ] at hv
   |true=>
    simp only[hf,cond_true] at hv
    have hok':caps.toList.all (aR ng)=true:=by
     have hf0:first= #[]:=by simpa using hf
     subst hf0
     simpa [Op.operands] using hok
    exact LR S hE hG hf hok' hv
  |_=>simp[bC,aZ] at hv
 |makeMap t r=>
  cases r with
  |some r=>simp[bC,aZ] at hv
  |none=>
   simp only[bC,aZ,Option.some.injEq,Prod.mk.injEq] at hv
   obtain⟨rfl,rfl⟩:=hv
   exact IL S
 |makeSlice t l c=>
  simp[Op.operands] at hok
  simp only[bC] at hv
  split at hv
  ·rename_i i hi
   split at hv
   ·rename_i el hu
    split at hv
    ·rename_i ei hel
     exact EW hT hi hu hel S hE hG hok.1 hok.2 hv
    ·simp[aZ] at hv
   ·simp[aZ] at hv
  ·simp[aZ] at hv
 |slice t x lo hi mx=>
  simp only[bC] at hv
  split at hv
  ·rename_i i hi'
   split at hv
   ·rename_i el hu
    split at hv
    ·rename_i ei hel
     cases hc:mx.isSome&&hi.isNone with
     |true=>simp[hc,aZ] at hv
     |false=>
      simp only[hc,cond_false] at hv
      have hoks:aR ng x=true∧lo.toList.all (aR ng)=true∧hi.toList.all (aR ng)=true∧mx.toList.all (aR ng)=true:=by
       simp[Op.operands] at hok
       refine⟨hok.1,?_⟩
       cases lo<;>cases hi<;>cases mx<;>simp_all
      exact J8 hT hi' hu hel hc S hE hG hoks.1 hoks.2.1 hoks.2.2.1 hoks.2.2.2 hv
    ·simp[aZ] at hv
   ·simp[aZ] at hv
  ·simp[aZ] at hv
 |fieldAddr t x k=>
  simp[Op.operands] at hok
  simp only[bC] at hv
  split at hv
  ·rename_i i hi
   split at hv
   ·rename_i fs hu
    split at hv
    ·rename_i f hf
     split at hv
     ·rename_i fi hfi
      cases hz:Nat.beq fi.size 0 with
      |true=>simp[hz,aZ] at hv
      |false=>
       simp only[hz,cond_false] at hv
       exact Kk hT hi hu hf hfi (by intro h;rw[h] at hz;cases hz) S hE hG hok hv
     ·simp[aZ] at hv
    ·simp[aZ] at hv
   ·simp[aZ] at hv
  ·simp[aZ] at hv
 |indexAddr t x y=>
  simp[Op.operands] at hok
  simp only[bC] at hv
  split at hv
  ·rename_i i hi
   split at hv
   ·rename_i el hu
    split at hv
    ·rename_i ei hel
     exact zp hT hi hu hel S hE hG hok.1 hok.2 hv
    ·simp[aZ] at hv
   ·rename_i n el hu
    split at hv
    ·rename_i ei hel
     exact y8 hT hi hu hel S hE hG hok.1 hok.2 hv
    ·simp[aZ] at hv
   ·simp[aZ] at hv
  ·simp[aZ] at hv
 |field t x k=>
  simp[Op.operands] at hok
  simp only[bC] at hv
  split at hv
  ·rename_i i hi
   split at hv
   ·rename_i fs hu
    split at hv
    ·rename_i f hf
     split at hv
     ·rename_i fi hfi
      exact Jq hT hi hu hf hfi S hE hG hok hv
     ·simp[aZ] at hv
    ·simp[aZ] at hv
   ·simp[aZ] at hv
  ·simp[aZ] at hv
 |index t x y=>
  simp[Op.operands] at hok
  simp only[bC] at hv
  split at hv
  ·rename_i i hi
   split at hv
   ·rename_i hu
    exact Br hT hi hu S hE hG hok.1 hok.2 hv
   ·rename_i n el hu
    split at hv
    ·rename_i ei hel
     exact Cq hT hi hu hel S hE hG hok.1 hok.2 hv
    ·simp[aZ] at hv
   ·simp[aZ] at hv
  ·simp[aZ] at hv
 |extract x i=>
  simp[Op.operands] at hok
  exact MF S hE hG hok hv
 |lookup t x y ok=>
  simp[Op.operands] at hok
  simp only[bC] at hv
  split at hv
  ·rename_i i hi
   split at hv
   ·rename_i kt el hu
    split at hv
    ·rename_i ki ei hki hel
     split at hv
     ·rename_i kk z hku hz hag
      exact Lj hT hi hu hki hku hel hz hag S hE hG hok.1 hok.2 hv
     ·rename_i fs z hku hz hag
      split at hv
      ·rename_i ks hkk
       exact Dw hT hi hu hki hkk (by rw[(hT kt ki hki).agg,hku];rfl) (.inl ⟨_,hku⟩) hel hz hag S hE hG hok.1 hok.2 hv
      ·simp[aZ] at hv
     ·rename_i n el' z hku hz hag
      split at hv
      ·rename_i ks hkk
       exact Dw hT hi hu hki hkk (by rw[(hT kt ki hki).agg,hku];rfl) (.inr ⟨_,_,hku⟩) hel hz hag S hE hG hok.1 hok.2 hv
      ·simp[aZ] at hv
     ·simp[aZ] at hv
    ·simp[aZ] at hv
   ·simp[aZ] at hv
  ·simp[aZ] at hv
 |mapUpdate t x y z=>
  simp[Op.operands] at hok
  simp only[bC] at hv
  split at hv
  ·rename_i i hi
   split at hv
   ·rename_i kt el hu
    split at hv
    ·rename_i ki hki
     split at hv
     ·rename_i kk hku
      obtain⟨w',rfl,hr,S',E'⟩:=Ld hT hi hu hki hku S hE hG hok.1 hok.2.1 hok.2.2 hv
      refine⟨ρ,w',undef,.inr ⟨rfl,?_⟩,VR.undef,S',E'⟩
      show((do Instr.mapUpdate t (a.eval x) (a.eval y) (a.eval z);pure Next.skip):Sem Next).run P w=_
      simp[hr]
     ·rename_i fs hku
      split at hv
      ·rename_i ks hkk
       obtain⟨w',rfl,hr,S',E'⟩:=CL hT hi hu hki hkk (by rw[(hT kt ki hki).agg,hku];rfl) (.inl ⟨_,hku⟩) S hE hG hok.1 hok.2.1 hok.2.2 hv
       refine⟨ρ,w',undef,.inr ⟨rfl,?_⟩,VR.undef,S',E'⟩
       show((do Instr.mapUpdate t (a.eval x) (a.eval y) (a.eval z);pure Next.skip):Sem Next).run P w=_
       simp[hr]
      ·simp[aZ] at hv
     ·rename_i n el' hku
      split at hv
      ·rename_i ks hkk
       obtain⟨w',rfl,hr,S',E'⟩:=CL hT hi hu hki hkk (by rw[(hT kt ki hki).agg,hku];rfl) (.inr ⟨_,_,hku⟩) S hE hG hok.1 hok.2.1 hok.2.2 hv
       refine⟨ρ,w',undef,.inr ⟨rfl,?_⟩,VR.undef,S',E'⟩
       show((do Instr.mapUpdate t (a.eval x) (a.eval y) (a.eval z);pure Next.skip):Sem Next).run P w=_
       simp[hr]
      ·simp[aZ] at hv
     ·simp[aZ] at hv
    ·simp[aZ] at hv
   ·simp[aZ] at hv
  ·simp[aZ] at hv
 |range t x=>
  simp[Op.operands] at hok
  simp only[bC] at hv
  split at hv
  ·rename_i i hi
   split at hv
   ·rename_i kt el hu
    exact HC hT hi hu S hE hG hok hv
   ·simp[aZ] at hv
  ·simp[aZ] at hv
 |next x s=>
  simp[Op.operands] at hok
  simp only[bC] at hv
  cases s with
  |true=>simp[aZ] at hv
  |false=>exact MH S hE hG hok hv
 |call c=>
  obtain⟨cal,args,ats⟩:=c
  have hrun: ∀b,cal= .builtin b→ ∃cs,((execOp a.eval { dst:=dst,op:= .call { callee:=cal,args:=args,argTypes:=ats },type:=ty,pos:=pos,after:=aft,guard:=gd }).run P w)=(builtin b ats ty cs (args.map a.eval)).run P w:=by
   rintro b rfl
   exact⟨_,rfl⟩
  have harr: ∀ {l:List Operand},args.toList=l→args.map a.eval=(l.map a.eval).toArray:=by
   intro l hl
   apply Array.ext'
   simp[←hl]
  have hats: ∀ {l:List TypeId},ats.toList=l→ats=l.toArray:=by
   intro l hl
   apply Array.ext'
   simp[←hl]
  have hoks:args.toList.all (aR ng)=true:=by
   cases cal<;>simp[Op.operands,Call.operands] at hok<;>simp<;>first|exact hok|exact hok.2
  simp only[bC,sZ] at hv
  split at hv
  ·simp[aZ] at hv
  ·
   obtain⟨cs,hr⟩:=hrun _ rfl
   rw[hr]
   split at hv
   ·rename_i x t hx ht
    rw[harr hx,hats ht]
    rw[hx] at hoks
    simp at hoks
    split at hv
    ·rename_i i hi
     split at hv
     ·rename_i el hu
      exact MM hT hi hu S hE hG hoks hv
     ·rename_i hu
      exact Lo hT hi hu S hE hG hoks hv
     ·simp[aZ] at hv
    ·simp[aZ] at hv
   ·simp[aZ] at hv
  ·
   obtain⟨cs,hr⟩:=hrun _ rfl
   rw[hr]
   split at hv
   ·rename_i x y t t' hx ht
    rw[harr hx,hats ht]
    rw[hx] at hoks
    simp at hoks
    split at hv
    ·rename_i i i' hi hi'
     split at hv
     ·rename_i el hu
      split at hv
      ·rename_i ei hel
       split at hv
       ·rename_i k hk
        exact Au hT hi hu hel hi' (by simpa using⟨k,hk⟩) S hE hG hoks.1 hoks.2 hv
       ·rename_i k hk
        exact Au hT hi hu hel hi' (by simpa using⟨k,hk⟩) S hE hG hoks.1 hoks.2 hv
       ·simp[aZ] at hv
      ·simp[aZ] at hv
     ·simp[aZ] at hv
    ·simp[aZ] at hv
   ·simp[aZ] at hv
  ·
   obtain⟨cs,hr⟩:=hrun _ rfl
   rw[hr]
   split at hv
   ·rename_i x y t t' hx ht
    rw[harr hx,hats ht]
    rw[hx] at hoks
    simp at hoks
    split at hv
    ·rename_i i hi
     split at hv
     ·rename_i el hu
      split at hv
      ·rename_i ei hel
       exact L8 hT hi hu hel S hE hG hoks.1 hoks.2 hv
      ·simp[aZ] at hv
     ·simp[aZ] at hv
    ·simp[aZ] at hv
   ·simp[aZ] at hv
  ·
   obtain⟨cs,hr⟩:=hrun _ rfl
   rw[hr]
   split at hv
   ·rename_i x t hx ht
    rw[harr hx,hats ht]
    rw[hx] at hoks
    simp at hoks
    split at hv
    ·rename_i i hi
     split at hv
     ·rename_i el hu
      split at hv
      ·rename_i ei hel
       exact JR hT hi hu hel S hE hG hoks hv
      ·simp[aZ] at hv
     ·simp[aZ] at hv
    ·simp[aZ] at hv
   ·simp[aZ] at hv
  ·
   obtain⟨cs,hr⟩:=hrun _ rfl
   rw[hr]
   split at hv
   ·rename_i x t hx ht
    rw[harr hx,hats ht]
    rw[hx] at hoks
    simp at hoks
    split at hv
    ·rename_i i hi
     split at hv
     ·rename_i el hu
      exact MZ hT hi hu S hE hG hoks hv
     ·simp[aZ] at hv
    ·simp[aZ] at hv
   ·simp[aZ] at hv
  ·
   obtain⟨cs,hr⟩:=hrun _ rfl
   rw[hr]
   split at hv
   ·rename_i x y hx
    rw[harr hx]
    rw[hx] at hoks
    simp at hoks
    exact Ng S hE hG hoks.1 hoks.2 hv
   ·simp[aZ] at hv
  ·simp[aZ] at hv
 |_=>simp[bC,aZ] at hv
end
section
variable {P:Program} {b:Frame} {a:Act} {k:List Item} {c:Frame} {cs:List Frame} {w:World}
theorem Oz (hr:b.roundOf=none):step P (lone (on b a (.code .ret::k)) cs w)= .next (lone { on b a (.code .ret::k) with mode:= .returning } cs w):=
 step_lone_go (by simp[stepG,stepG.exec,on,hr])
theorem NL (hr:b.roundOf=none):step P (lone (on b a []) cs w)= .next (lone { on b a [] with mode:= .returning } cs w):=
 step_lone_go (by simp[stepG,stepG.exec,on,hr])
theorem Bu {r:Nat} {x:Option (List Deferred)} (hh:w.heap[r]? =some (.deferred x)):(getObj r).run P w= .ok (.deferred x) w:=by
 simp only[getObj,Sem.run,hh]
theorem Bs {r:Nat} {x:Option (List Deferred)} (o:Obj) (hh:w.heap[r]? =some (.deferred x)):(setObj r o).run P w= .ok () { w with heap:=w.heap.setIfInBounds r o } :=by
 simp only[setObj,Sem.run,hh]
theorem KI {r:Nat} {L:Loop} (hh:w.heap[r]? =some (.loop L)):(getObj r).run P w= .ok (.loop L) w:=by
 simp only[getObj,Sem.run,hh]
theorem yL {r:Nat} {L:Loop} (o:Obj) (hh:w.heap[r]? =some (.loop L)):(setObj r o).run P w= .ok () { w with heap:=w.heap.setIfInBounds r o } :=by
 simp only[setObj,Sem.run,hh]
theorem oS {r:Nat} {L:Loop} (hh:w.heap[r]? =some (.loop L)):(Instr.getLoop r).run P w= .ok L w:=by
 simp only[Instr.getLoop,Sem.run_bind,KI hh,Result.andThen_ok,Sem.run_pure]
theorem Ds {fr:Frame} {r:Nat} {ds:List Deferred} (hm:fr.mode= .returning) (hd:fr.defers= { target:= .collected r,args:= #[] } ::ds) (hh:w.heap[r]? =some (.deferred (some []))):
  step P (lone fr cs w)= .next (lone { fr with defers:=ds } cs { w with heap:=w.heap.setIfInBounds r (.deferred none) }):=by
 refine step_lone_go ?_
 have h1:(Instr.takeDeferred r).run P w= .ok [] { w with heap:=w.heap.setIfInBounds r (.deferred none) } :=by
  simp only[Instr.takeDeferred,Sem.run_bind,Bu hh,Bs _ hh,Result.andThen_ok,Sem.run_pure]
 simp[stepG,hm,unwind,hd,h1]
theorem BX {l:Nat} {L:Loop} (hr:b.roundOf=some l) (hh:w.heap[l]? =some (.loop L)) (hs:L.state= .ready):
  step P (lone (on b a (.beginRound::k)) cs w)= .next (lone (on b a k) cs { w with heap:=w.heap.setIfInBounds l (.loop { L with state:= .busy }) }):=by
 refine step_lone_go ?_
 have h1:(Instr.beginRound l).run P w= .ok () { w with heap:=w.heap.setIfInBounds l (.loop { L with state:= .busy }) } :=by
  simp only[Instr.beginRound,Sem.run_bind,oS hh,yL _ hh,Result.andThen_ok,hs,Sem.run_pure]
 simp[stepG,stepG.exec,stepG.apply,on,hr,h1,Frame.finish]
theorem qf {l:Nat} {L:Loop} (jump:Option Code) (hh:w.heap[l]? =some (.loop L)):
  (Instr.endRound l jump).run P w= .ok (.bool jump.isNone) { w with heap:=w.heap.setIfInBounds l (.loop { L with state:=if jump.isNone then .ready else .done,pending:=jump }) } :=by
 simp only[Instr.endRound,Sem.run_bind,oS hh,yL _ hh,Result.andThen_ok,Sem.run_pure]
theorem CJ {l:Nat} {L:Loop} (hr:b.roundOf=some l) (hk:b.kind= .normal) (hh:w.heap[l]? =some (.loop L)):
  step P (lone (on b a []) (c::cs) w)= .next (lone (c.finish (.bool true)) cs { w with heap:=w.heap.setIfInBounds l (.loop { L with state:= .ready,pending:=none }) }):=by
 refine step_lone_go ?_
 have h1:=qf (P:=P) none hh
 simp[stepG,stepG.exec,on,hr,h1,doReturn,hk]
theorem DZ {l:Nat} {L:Loop} (hr:b.roundOf=some l) (hk:b.kind= .normal) (hh:w.heap[l]? =some (.loop L)):
  step P (lone (on b a (.code .ret::k)) (c::cs) w)= .next (lone (c.finish (.bool false)) cs { w with heap:=w.heap.setIfInBounds l (.loop { L with state:= .done,pending:=some .ret }) }):=by
 refine step_lone_go ?_
 have h1:=qf (P:=P) (some .ret) hh
 simp[stepG,stepG.exec,on,hr,h1,doReturn,hk]
theorem BM {l id:Nat} {L:Loop} (hr:b.roundOf=some l) (hk:b.kind= .normal) (hh:w.heap[l]? =some (.loop L)) (he:exitTo id k=none):
  step P (lone (on b a (.code (.exit id)::k)) (c::cs) w)= .next (lone (c.finish (.bool false)) cs { w with heap:=w.heap.setIfInBounds l (.loop { L with state:= .done,pending:=some (.exit id) }) }):=by
 refine step_lone_go ?_
 have h1:=qf (P:=P) (some (.exit id)) hh
 simp[stepG,stepG.exec,on,hr,h1,doReturn,hk,he]
theorem Oe {f:Operand} {ps:Array Tmp} {asg body:Code} {g:FuncId} {args:Array Value} {w':World} (hr:b.roundOf=none)
  (hrun:(do let d←resolve a.eval { callee:= .value f,args:= #[.const (.func (.yield (w.heap.size+1)) #[] #[])],argTypes:= #[] } 0;invoke d.target d.args).run P
   { w with heap:=(w.heap.push (.deferred (some []))).push (.loop { state:= .ready,pending:=none,fn:=b.fn,tmps:=a.tmps,params:=ps,assign:=asg,body:=body,defers:=w.heap.size }) } = .ok (.enter g args) w'):
  step P (lone (on b a (.code (.rangeFunc f ps asg body)::k)) cs w)=
   .next (lone (Frame.enter P g args .normal) (on b { a with defers:= { target:= .collected w.heap.size,args:= #[] } ::a.defers } (.inRangeFunc (w.heap.size+1)::k)::cs) w'):=by
 refine step_lone_go ?_
 have h1:(Instr.enterLoop b.fn a.tmps ps asg body none).run P w= .ok (w.heap.size+1,[{ target:= .collected w.heap.size,args:= #[] }])
   { w with heap:=(w.heap.push (.deferred (some []))).push (.loop { state:= .ready,pending:=none,fn:=b.fn,tmps:=a.tmps,params:=ps,assign:=asg,body:=body,defers:=w.heap.size }) } :=by
  simp only[Instr.enterLoop,Sem.run_bind,run_newObj,Result.andThen_ok,Sem.run_pure,Array.size_push]
 have he: ∀(t:List Item) (ds:List Deferred),({ fn:=b.fn,tmps:=a.tmps,todo:=t,defers:=ds,mode:= .run,kind:=b.kind,roundOf:=b.roundOf } :Frame).eval=a.eval:=by
  intro t ds;funext x;cases x<;>rfl
 rw[hr] at he
 simp only[stepG,stepG.exec,on,hr,Sem.runT_eq,h1,GStep.bare_after]
 simp only[List.cons_append,List.nil_append,he]
 simp[stepG.apply,hrun]
theorem IS {l:Nat} {L:Loop} (hh:w.heap[l]? =some (.loop L)) (hs:(L.state== .busy)=false):
  step P (lone (on b a (.endRangeFunc l::k)) cs w)= .next (lone (on b a ((L.pending.map Item.code).toList++k)) cs { w with heap:=w.heap.setIfInBounds l (.loop { L with state:= .exhausted }) }):=by
 refine step_lone_go ?_
 have h1:(Instr.endLoop l).run P w= .ok L.pending { w with heap:=w.heap.setIfInBounds l (.loop { L with state:= .exhausted }) } :=by
  simp only[Instr.endLoop,Sem.run_bind,oS hh,Result.andThen_ok,hs,Bool.false_eq_true,if_false,yL _ hh,Sem.run_pure]
 simp[stepG,stepG.exec,on,h1]
theorem Dg {ρ:Operand→Value} {f:Operand} {args:Array Operand} {ats:Array TypeId} {ty:TypeId} {g:FuncId} {first caps:Array Value} {fn:Func} (hf:ρ f= .func (.func g) first caps)
  (hfn:P.funcs[g]? =some fn) (hb:fn.body.isSome=true) (hn:(fn.name== "runtime.NumGoroutine")=false):
  (do let d←resolve ρ { callee:= .value f,args:=args,argTypes:=ats } ty;invoke d.target d.args).run P w= .ok (.enter g (first++args.map ρ++caps)) w:=by
 have hb': ¬(fn.body=none):=by intro h;rw[h] at hb;cases hb
 have hn': ¬(fn.name= "runtime.NumGoroutine"):=by simpa using hn
 simp[resolve,hf,Deferred.ofValue,invoke,callFunc,hfn,hn',hb']
theorem It {ρ:Operand→Value} {f:Operand} {args:Array Operand} {ats:Array TypeId} {ty:TypeId} {l:Nat} {L:Loop} (hf:ρ f= .func (.yield l) #[] #[])
  (hh:w.heap[l]? =some (.loop L)) (hs:args.size=L.params.size):
  (do let d←resolve ρ { callee:= .value f,args:=args,argTypes:=ats } ty;invoke d.target d.args).run P w=
   .ok (.round l L.fn ((L.params.zip (args.map ρ)).foldl (fun tmps (t,a)=>tmps.setIfInBounds t a) L.tmps) L.assign L.body) w:=by
 simp[resolve,hf,Deferred.ofValue,invoke,Instr.yield,oS hh,hs]
end
abbrev pU:=Nat→List Oper→List (aV×List Nat)
def uj (T:mV):ResultVar→Option zA
 | .tmp t=>some (.tmp t)
 | .cell a t=>match T t with
  |some i=>some (.cell a (tw i))
  |none=>none
section
variable (P:Program) (T:mV) (ng:Nat) (dr:pU) (F:Nat→Option bA)
def eY:bI:=fun k ac c=> ∃n,n≤k∧ac=bz T ng n dr c∧gE c=true
def Nk (f:Nat) (args:List Value) (h:ae) (v:Value) (h':ae):Prop:=
 ∀(cargs:List Value) (ρ:dp) (w:World),cu (eY T ng dr) ρ h w→bJ ng ρ→All2 (VR ρ) args cargs→ ∀cs:List Frame,
  ∃fn ρ' w' c fr,P.funcs[f]? =some fn∧fn.body.isSome=true∧(fn.name== "runtime.NumGoroutine")=false∧
   Steps P (lone (Frame.enter P f ⟨cargs⟩ .normal) cs w) (lone fr cs w')∧fr.fn=f∧fr.leaving P w' (.returned c)∧VR ρ' v c∧cu (eY T ng dr) ρ' h' w'∧Ext ρ h w ρ' h' w'
def Ky (f:Nat) (p:List Value→ae→Option (Value×ae)):Prop:= ∀args h v h',p args h=some (v,h')→Nk P T ng dr f args h v h'
def Gn (f:Nat):Prop:= ∃fn t el i ei,P.funcs[f]? =some fn∧fn.body.isNone=true∧(fn.name== "runtime.NumGoroutine")=false∧Extern.findNext fn=none∧
 Extern.find fn=some (Extern.SlicesOverlaps.overlaps fn.params fn.resultTypes)∧fn.params[0]? =some t∧T t=some i∧i.u= .slice el∧T el=some ei
def zD:Prop:= ∀f af,F f=some af→match af.wF with
 | .no=> ∃fn c,P.funcs[f]? =some fn∧fn.body=some c∧(fn.name== "runtime.NumGoroutine")=false∧
  All2 (fun r ar=>uj T r=some ar) fn.results.toList af.res∧af.body=bz T ng fn.ntmps dr c
 | .run p _=>Ky P T ng dr f p
 | .FN=>Gn P T f
end
def C7 (ρ:dp) (h:ae) (k:Nat):Prop:= ∀x r o,ρ x=some r→h.tr.get x=some o→r.aA≠k
def mark (r:Nat):Deferred:= { target:= .collected r,args:= #[] }
def u7 (B:Nat) (ρ:dp) (h:ae) (w:World) (ds:List Deferred):Prop:=
 ∃rs:List Nat,ds=rs.map mark∧rs.Nodup∧ ∀r∈rs,B≤r∧w.heap[r]? =some (.deferred (some []))∧C7 ρ h r
theorem C7.ext {ρ ρ':dp} {h h':ae} {w w':World} {k:Nat} (hf:C7 ρ h k) (E:Ext ρ h w ρ' h' w') (hk:k<w.heap.size):C7 ρ' h' k:=by
 intro x r o hx ho e
 rcases E.live x r o hx ho with h1|⟨b,r0,o0,h1,h2,h3⟩
 ·omega
 ·exact hf b r0 o0 h1 h2 (h3.trans e)
theorem u7.ext {B:Nat} {ρ ρ':dp} {h h':ae} {w w':World} {ds:List Deferred} (hd:u7 B ρ h w ds) (E:Ext ρ h w ρ' h' w'):u7 B ρ' h' w' ds:=by
 obtain⟨rs,h1,h2,h3⟩:=hd
 refine⟨rs,h1,h2,fun r hr=> ?_⟩
 obtain⟨h4,h5,h6⟩:=h3 r hr
 have hlt:=uP h5
 refine⟨h4,?_,h6.ext E hlt⟩
 rw[E.pK r hlt,h5]
 rintro x rx hx ⟨o,ho,_⟩
 exact h6 x rx o hx ho
def zG (P:Program) (b:Frame) (k:List Item) (cs:List Frame) (m:Machine):aO→Act→World→Prop
 | .normal,a,w=>Steps P m (lone (on b a k) cs w)
 | .exit id,a,w=> ∃k',Steps P m (lone (on b a (.code (.exit id)::k')) cs w)∧exitTo id k'=exitTo id k
 | .ret,a,w=> ∃k',Steps P m (lone (on b a (.code .ret::k')) cs w)
theorem zG.of_steps {P:Program} {b:Frame} {k:List Item} {cs:List Frame} {m m':Machine} {x:aO} {a:Act} {w:World} (h:Steps P m m') (g:zG P b k cs m' x a w):zG P b k cs m x a w:=by
 cases x with
 |normal=>exact Steps.trans h g
 |exit id=>obtain⟨k',h1,h2⟩:=g;exact⟨k',h.trans h1,h2⟩
 |ret=>obtain⟨k',h1⟩:=g;exact⟨k',h.trans h1⟩
section
variable {P:Program} {T:mV} {ng:Nat} {dr:pU} {F:Nat→Option bA} {ih:aj→Env→ae→R}
structure tN (CC:bI) (B:Nat) (ρ:dp) (h:ae) (w:World) (a:Act) (ρ':dp) (e':Env) (h':ae) (w':World) (a':Act):Prop where
 GC:cu CC ρ' h' w'
 er:ER ρ' e' a'.tmps
 size:a'.tmps.size=a.tmps.size
 ext:Ext ρ h w ρ' h' w'
 defs:u7 B ρ' h' w' a'.defers
def qc (P:Program) (T:mV) (ng:Nat) (dr:pU) (ih:aj→Env→ae→R):Prop:=
 ∀(n:Nat) (c:Code) (e:Env) (h:ae) (x:aO) (e':Env) (h':ae),ih (bz T ng n dr c) e h=some (x,e',h')→
  ∀(B:Nat) (ρ:dp) (w:World) (a:Act) (b:Frame) (k:List Item) (cs:List Frame),cu (eY T ng dr) ρ h w→bJ ng ρ→ER ρ e a.tmps→n≤a.tmps.size→B≤w.heap.size→u7 B ρ h w a.defers→
   (b.roundOf=none∨gE c=true)→
   ∃ρ' w' a',zG P b k cs (lone (on b a (.code c::k)) cs w) x a' w'∧tN (eY T ng dr) B ρ h w a ρ' e' h' w' a'
theorem ER.put {ρ:dp} {e:Env} {a:Act} (hE:ER ρ e a.tmps) {dst:Option Nat} {v c:Value} (hd: ∀d,dst=some d→d<a.tmps.size) (hv:VR ρ v c):ER ρ (dW e dst v) (a.put dst c).tmps:=by
 cases dst with
 |none=>exact hE
 |some d=>
  intro t
  have hlt:=hd d rfl
  simp only[dW,Act.put,Env.aN]
  by_cases ht:t=d
  ·subst ht
   simp[Array.getD,hlt,hv]
  ·rw[if_neg ht]
   have:=hE t
   have he:(a.tmps.setIfInBounds d c).getD t undef=a.tmps.getD t undef:=by
    simp[Array.getD_eq_getD_getElem?,Array.getElem?_setIfInBounds,Ne.symm ht]
   rw[he]
   exact this
theorem qd (a:Act) (dst:Option Nat) (c:Value):(a.put dst c).tmps.size=a.tmps.size:=by
 cases dst<;>simp[Act.put]
theorem put_defers (a:Act) (dst:Option Nat) (c:Value):(a.put dst c).defers=a.defers:=by
 cases dst<;>rfl
theorem VR.of_bool {ρ:dp} {v:Value} {b:Bool} (h:VR ρ v (.bool b)):v= .bool b:=by
 cases h with
 |val h=>cases h with
  |cell h=>cases h with
   |cell h=>cases h;rfl
theorem zB {ρ:dp} {e:Env} {a:Act} (hE:ER ρ e a.tmps) {ops:Array Oper} {o:Oper} {g:Option (Nat×Bool)}
  (hg:(o.guard=none∧g=none)∨ ∃j b t,o.guard=some (j,b)∧v7 ops.toList j=some t∧g=some (t,b)):Region.wanted o (yielded ops a.tmps)=wanted e g:=by
 rcases hg with⟨h1,rfl⟩|⟨j,b,t,h1,h2,rfl⟩
 ·simp[Region.wanted,h1,wanted]
 ·simp only[Region.wanted,h1,wanted]
  have hy:yielded ops a.tmps j=match a.tmps[t]? with|some (.bool c)=>some c|_=>none:=by
   unfold v7 at h2
   split at h2
   ·rename_i o' ho'
    have ho'':ops[j]? =some o':=by simpa using ho'
    simp only[yielded,ho'',Option.bind_some,h2]
    rfl
   ·cases h2
  have hr:=hE t
  rw[Array.getD_eq_getD_getElem?] at hr
  rw[hy]
  cases hv:a.tmps[t]? with
  |none=>
   rw[hv] at hr
   simp only[Option.getD_none] at hr
   have hx:Env.get e t= .tuple #[]:=by
    cases hq:Env.get e t with
    |tuple l=>
     rw[hq] at hr
     obtain⟨m,hm,hk⟩:=hr.Aw
     have:m=[]:=by
      unfold undef at hm;injection hm with hm;injection hm with hm;exact hm.symm
     subst this
     obtain⟨l⟩:=l
     cases hk;rfl
    |_=>rw[hq] at hr;unfold undef at hr;cases hr with
     |val h=>cases h with
      |cell h=>exact absurd h.plain.2 (by simp[AI.plain])
   rw[hx]
   simp
  |some u=>
   rw[hv] at hr
   simp only[Option.getD_some] at hr
   cases u with
   |bool c=>
    rw[VR.of_bool hr]
    simp
   |_=>
    cases hq:Env.get e t with
    |bool c=>rw[hq] at hr;have:=hr.j5;cases this
    |_=>simp
theorem x5: ∀(l:List Value) (e:Env) (i t:Nat),Env.get (params e i l) t=if i≤t then(match l[t-i]? with|some v=>v|none=>Env.get e t) else Env.get e t
 |[],e,i,t=>by simp[params]
 |v::l,e,i,t=>by
  rw[params,x5 l _ (i+1) t]
  by_cases h1:i+1≤t
  ·rw[if_pos h1,if_pos (by omega),show t-i=(t-(i+1))+1 by omega,List.getElem?_cons_succ]
   split
   ·rfl
   ·rw[Env.aN,if_neg (by omega)]
  ·rw[if_neg h1,Env.aN]
   by_cases h2:t=i
   ·subst h2;simp
   ·rw[if_neg h2,if_neg (by omega)]
theorem GZ {ρ:dp} {args cargs:List Value} (h:All2 (VR ρ) args cargs) (m:Nat):ER ρ (params .nil 0 args) ((⟨cargs⟩:Array Value)++Array.replicate m undef):=by
 intro t
 rw[x5]
 simp only[Nat.zero_le,if_true,Nat.sub_zero]
 rw[Array.getD_eq_getD_getElem?]
 cases ha:args[t]? with
 |some v=>
  obtain⟨c,hc,hr⟩:=h.get ha
  have hlt:=(bY.1 hc).1
  rw[Array.getElem?_append_left (by simpa using hlt)]
  have:(⟨cargs⟩:Array Value)[t]? =some c:=by rw[←hc];simp
  rw[this]
  exact hr
 |none=>
  have hge:args.length≤t:=List.getElem?_eq_none_iff.1 ha
  have hl:=h.length
  have:((⟨cargs⟩:Array Value)++Array.replicate m undef)[t]?.getD undef=undef:=by
   by_cases ht:t<cargs.length+m
   ·rw[Array.getElem?_append_right (by simp;omega)]
    simp
    by_cases hx:t-cargs.length<m
    ·simp[hx]
    ·simp[hx]
   ·rw[Array.getElem?_eq_none (by simp;omega)]
    rfl
  rw[this]
  exact VR.undef
theorem Bt {ρ:dp} : ∀(ps:List Nat) (args cargs:List Value) (e e':Env) (tmps:Array Value),All2 (VR ρ) args cargs→fH e ps args=some e'→ER ρ e tmps→(∀t∈ps,t<tmps.size)→
  ER ρ e' ((ps.zip cargs).foldl (fun(tmps:Array Value) (x:Nat×Value)=>tmps.setIfInBounds x.1 x.2) tmps)∧((ps.zip cargs).foldl (fun(tmps:Array Value) (x:Nat×Value)=>tmps.setIfInBounds x.1 x.2) tmps).size=tmps.size∧ps.length=args.length:=by
 intro ps
 induction ps with
 |nil=>
  intro args cargs e e' tmps ha hs hE _
  cases ha with
  |nil=>simp only[fH,Option.some.injEq] at hs;subst hs;exact⟨hE,rfl,rfl⟩
  |cons=>simp[fH] at hs
 |cons t ps ihp=>
  intro args cargs e e' tmps ha hs hE hlt
  cases ha with
  |nil=>simp[fH] at hs
  | @cons v c args cargs hv hrest=>
   simp only[fH] at hs
   have hput:=ER.put (a:=⟨tmps,[]⟩) (dst:=some t) hE (fun d hd=>by cases hd;exact hlt t (by simp)) hv
   simp only[dW,Act.put] at hput
   obtain⟨h1,h2,h3⟩:=ihp args cargs _ e' (tmps.setIfInBounds t c) hrest hs hput (fun u hu=>by simpa using hlt u (by simp[hu]))
   exact⟨h1,by simpa using h2,by simp[h3]⟩
def LO (tmps:Array Value):ResultVar→Sem Value
 | .tmp t=>pure (tmps.getD t undef)
 | .cell a t=>do loadVar t (←asAddr (tmps.getD a undef))
theorem El (fn:Func) (tmps:Array Value):Go.results fn tmps=(do
  let vs←fn.results.mapM (LO tmps)
  pure (if h:vs.size=1 then vs[0] else .tuple vs)):=by
 unfold Go.results
 congr 1
theorem CH {CC:bI} {ρ:dp} {e:Env} {h:ae} {w:World} {tmps:Array Value} (hT:bQ P T) (S:cu CC ρ h w) (hE:ER ρ e tmps):
  ∀(rs:List ResultVar) (ars:List zA) (vs:List Value),All2 (fun r ar=>uj T r=some ar) rs ars→results e h ars=some vs→
   ∃cs:List Value,All2 (VR ρ) vs cs∧ ∀r c,(r,c)∈rs.zip cs→(LO tmps r).run P w= .ok c w:=by
 intro rs
 induction rs with
 |nil=>
  intro ars vs ha hr
  cases ha
  simp only[results,Option.some.injEq] at hr
  subst hr
  exact⟨[],.nil,fun r c h=>by simp at h⟩
 |cons r rs ihr=>
  intro ars vs ha hr
  cases ha with
  | @cons _ ar _ ars h1 h2=>
  cases r with
  |tmp t=>
   simp only[uj,Option.some.injEq] at h1
   subst h1
   simp only[results] at hr
   split at hr
   ·rename_i l hl
    cases hr
    obtain⟨cs,hcs,hrun⟩:=ihr ars l h2 hl
    refine⟨_::cs,.cons (hE t) hcs,?_⟩
    intro r c hm
    simp only[List.zip_cons_cons,List.mem_cons,Prod.mk.injEq] at hm
    rcases hm with⟨rfl,rfl⟩|hm
    ·rfl
    ·exact hrun r c hm
   ·cases hr
  |cell ad t=>
   simp only[uj] at h1
   split at h1
   ·rename_i i hi
    cases h1
    simp only[results] at hr
    split at hr
    ·rename_i b off heq
     split at hr
     ·rename_i cells hread
      split at hr
      ·rename_i v hv
       split at hr
       ·rename_i l hl
        cases hr
        obtain⟨cs,hcs,hrun⟩:=ihr ars l h2 hl
        have hp:=hE ad
        rw[heq] at hp
        obtain⟨rr,hrr,hc⟩:=hp.vB
        obtain⟨c,hload,hvr⟩:=GY (P:=P) S (hT t i hi) hrr hread hv
        refine⟨c::cs,.cons hvr hcs,?_⟩
        intro r c' hm
        simp only[List.zip_cons_cons,List.mem_cons,Prod.mk.injEq] at hm
        rcases hm with⟨rfl,rfl⟩|hm
        ·simp only[LO,Sem.run_bind,hc,asAddr,Sem.run_pure,Result.andThen_ok,hload]
        ·exact hrun r c' hm
       ·cases hr
      ·cases hr
     ·cases hr
    ·cases hr
   ·cases h1
theorem Jt {α β:Type} (f:α→Sem β): ∀(l:List α) (m:List β) (w:World),l.length=m.length→(∀x y,(x,y)∈l.zip m→(f x).run P w= .ok y w)→ ∀acc:Array β,
  (l.foldlM (fun bs x=>bs.push <$> f x) acc).run P w= .ok (acc++m.toArray) w:=by
 intro l
 induction l with
 |nil=>intro m w hl _ acc;cases m with
  |nil=>simp
  |cons=>simp at hl
 |cons x l ihl=>
  intro m w hl hx acc
  cases m with
  |nil=>simp at hl
  |cons y m=>
   simp only[List.foldlM_cons,Sem.run_bind,vY,hx x y (by simp),Result.andThen_ok]
   rw[ihl m w (by simpa using hl) (fun u v huv=>hx u v (by simp[huv]))]
   congr 1
   apply Array.ext'
   simp
theorem D7 {CC:bI} {ρ:dp} {e:Env} {h:ae} {w:World} {tmps:Array Value} (hT:bQ P T) (S:cu CC ρ h w) (hE:ER ρ e tmps) {fn:Func} {ars:List zA} {vs:List Value}
  (ha:All2 (fun r ar=>uj T r=some ar) fn.results.toList ars) (hr:results e h ars=some vs) (hok:fW vs=true): ∃c,(Go.results fn tmps).run P w= .ok c w∧VR ρ (result vs) c:=by
 obtain⟨cs,hcs,hrun⟩:=CH hT S hE _ _ _ ha hr
 have hlen:fn.results.toList.length=cs.length:=by
  have h1:=ha.length
  have h2:=hcs.length
  have h3: ∀(ars:List zA) (vs:List Value),results e h ars=some vs→vs.length=ars.length:=by
   intro ars
   induction ars with
   |nil=>intro vs h;simp only[results,Option.some.injEq] at h;subst h;rfl
   |cons r ars ihr=>
    intro vs h
    cases r with
    |tmp t=>
     simp only[results] at h
     split at h
     ·rename_i l hl;cases h;simp[ihr l hl]
     ·cases h
    |cell ad n=>
     simp only[results] at h
     repeat (split at h<;>try cases h)
     rename_i l hl
     simp[ihr l hl]
  have:=h3 _ _ hr
  omega
 have hm:(fn.results.mapM (LO tmps)).run P w= .ok ⟨cs⟩ w:=by
  rw[Array.mapM_eq_foldlM,←Array.foldlM_toList,Jt _ _ cs w hlen hrun]
  congr 1
  apply Array.ext';simp
 refine⟨if h:(⟨cs⟩:Array Value).size=1 then(⟨cs⟩:Array Value)[0] else .tuple ⟨cs⟩,?_,?_⟩
 ·rw[El]
  simp only[Sem.run_bind,hm,Result.andThen_ok,Sem.run_pure]
 ·match vs,cs,hcs with
  |[v],[c],.cons hv .nil=>simpa [result] using hv
  |[],[],.nil=>simpa [result] using VR.tuple (ρ:=ρ) .nil
  |v1::v2::vs,c1::c2::cs,hh=>
   have hne: ¬((⟨c1::c2::cs⟩:Array Value).size=1):=by simp
   rw[dif_neg hne]
   simp only[result]
   have hall:(v1::v2::vs).all tj=true:=hok
   have conv: ∀ {l m:List Value},All2 (VR ρ) l m→l.all tj=true→All2 (AR ρ) l m:=by
    intro l m h
    induction h with
    |nil=>intro _;exact .nil
    |cons hv _ ihh=>
     intro hl
     simp only[List.all_cons,Bool.and_eq_true] at hl
     refine .cons ?_ (ihh hl.2)
     cases hv with
     |val h=>exact h
     |tuple=>simp[tj] at hl
     |Mi=>simp[tj] at hl
   exact VR.tuple (conv hh hall)
end
section
variable {P:Program} {T:mV} {ng:Nat} {dr:pU} {F:Nat→Option bA} {ih:aj→Env→ae→R}
theorem EK (B:Nat) {CC:bI} {ρ₀ ρ:dp} {h₀ h:ae} {w₀:World} (hB:w₀.heap.size≤B): ∀(rs:List Nat) (w:World) (fr:Frame) (cs:List Frame),fr.mode= .returning→fr.defers=rs.map mark→rs.Nodup→
  (∀r∈rs,B≤r∧w.heap[r]? =some (.deferred (some []))∧C7 ρ h r)→cu CC ρ h w→Ext ρ₀ h₀ w₀ ρ h w→
  ∃w',Steps P (lone fr cs w) (lone { fr with defers:=[] } cs w')∧cu CC ρ h w'∧Ext ρ₀ h₀ w₀ ρ h w':=by
 intro rs
 induction rs with
 |nil=>
  intro w fr cs _ hd _ _ S E
  refine⟨w,?_,S,E⟩
  have:({ fr with defers:=[] } :Frame)=fr:=by
   cases fr;simp at hd;subst hd;rfl
  rw[this]
  exact Steps.refl P _
 |cons r rs ihr=>
  intro w fr cs hm hd hn hall S E
  obtain⟨hBr,hh,hf⟩:=hall r (by simp)
  have hlt:=uP hh
  have hstep:=Ds (P:=P) (cs:=cs) (ds:=rs.map mark) hm (by rw[hd];rfl) hh
  have hother: ∀j,j≠r→(w.heap.setIfInBounds r (.deferred none))[j]? =w.heap[j]? :=fun j hj=>by simp[Ne.symm hj]
  have S':cu CC ρ h { w with heap:=w.heap.setIfInBounds r (.deferred none) } :=by
   refine⟨fun b rr hb=>⟨(S.low b rr hb).1,by simpa using(S.low b rr hb).2⟩,?_,S.inj,S.wf⟩
   intro b rr o hb ho
   exact gh.mono ρ.le_refl (hother _ (hf b rr o hb ho)) (S.obj b rr o hb ho)
  have E':Ext ρ₀ h₀ w₀ ρ h { w with heap:=w.heap.setIfInBounds r (.deferred none) } :=by
   refine⟨E.le,E.next,by simpa using E.size,E.os,E.tape,E.output,?_,E.own,E.new,E.live⟩
   intro k hk hkk
   rw[←E.pK k hk hkk]
   exact hother k (by omega)
  obtain⟨w',hsteps,S'',E''⟩:=ihr { w with heap:=w.heap.setIfInBounds r (.deferred none) } { fr with defers:=rs.map mark } cs hm rfl (List.nodup_cons.1 hn).2
   (fun q hq=>by
    obtain⟨g1,g2,g3⟩:=hall q (by simp[hq])
    refine⟨g1,?_,g3⟩
    rw[←g2]
    exact hother q (fun e=>(List.nodup_cons.1 hn).1 (e▸hq))) S' E'
  exact⟨w',.head hstep hsteps,S'',E''⟩
theorem rC (hF:zD P T ng dr F) (hT:bQ P T) (hI:qc P T ng dr ih) {f:Nat} {args cargs:List Value} {h h':ae} {v:Value} (hc:pb F ih f args h=some (v,h'))
  {ρ:dp} {w:World} (S:cu (eY T ng dr) ρ h w) (hG:bJ ng ρ) (ha:All2 (VR ρ) args cargs) (cs:List Frame):
  ∃fn ρ' w' c fr,P.funcs[f]? =some fn∧fn.body.isSome=true∧(fn.name== "runtime.NumGoroutine")=false∧
   Steps P (lone (Frame.enter P f ⟨cargs⟩ .normal) cs w) (lone fr cs w')∧fr.fn=f∧fr.leaving P w' (.returned c)∧VR ρ' v c∧cu (eY T ng dr) ρ' h' w'∧Ext ρ h w ρ' h' w':=by
 unfold pb lK at hc
 split at hc
 ·cases hc
 ·rename_i af haf
  have hFf:=hF f af haf
  split at hc
  ·cases hc
  ·rename_i p hp heq
   rw[heq] at hFf
   exact hFf args h v h' hc cargs ρ w S hG ha cs
  rename_i heq
  rw[heq] at hFf
  obtain⟨fn,c,hfn,hbody,hname,hres,hcode⟩:=hFf
  let b:Frame:= { (default:Frame) with fn:=f,kind:= .normal }
  let a:Act:= { tmps:=(⟨cargs⟩:Array Value)++Array.replicate (fn.ntmps-cargs.length) undef,defers:=[] }
  have henter:Frame.enter P f ⟨cargs⟩ .normal=on b a [.code c]:=by
   simp[Frame.enter,on,hfn,hbody,b,a]
   rfl
  have hER:ER ρ (params .nil 0 args) a.tmps:=GZ ha _
  have hsz:fn.ntmps≤a.tmps.size:=by simp[a];omega
  have hd0:u7 w.heap.size ρ h w a.defers:=⟨[],rfl,List.nodup_nil,fun r hr=>by simp at hr⟩
  rw[hcode] at hc
  
  have out: ∀(e':Env) (h1:ae) (ρ':dp) (w':World) (a':Act),(∃k,Steps P (lone (on b a [.code c]) cs w) (lone { on b a' k with mode:= .returning } cs w'))→
    tN (eY T ng dr) w.heap.size ρ h w a ρ' e' h1 w' a'→
    (match results e' h1 af.res with|some vs=>bif fW vs then some (result vs,h1) else none|none=>none)=some (v,h')→
    ∃fn ρ' w' c fr,P.funcs[f]? =some fn∧fn.body.isSome=true∧(fn.name== "runtime.NumGoroutine")=false∧
     Steps P (lone (Frame.enter P f ⟨cargs⟩ .normal) cs w) (lone fr cs w')∧fr.fn=f∧fr.leaving P w' (.returned c)∧VR ρ' v c∧cu (eY T ng dr) ρ' h' w'∧Ext ρ h w ρ' h' w':=by
   intro e' h1 ρ' w' a' ⟨k,hsteps⟩ hA hr
   split at hr
   ·rename_i vs hvs
    cases hok:fW vs with
    |false=>simp[hok] at hr
    |true=>
     simp only[hok,cond_true,Option.some.injEq,Prod.mk.injEq] at hr
     obtain⟨rfl,rfl⟩:=hr
     obtain⟨rs,hds,hnd,hall⟩:=hA.defs
     obtain⟨w2,hst2,S2,E2⟩:=EK (P:=P) w.heap.size (Nat.le_refl _) rs w' { on b a' k with mode:= .returning } cs rfl hds hnd hall hA.GC hA.ext
     obtain⟨cc,hrun,hvr⟩:=D7 (P:=P) hT S2 hA.er hres hvs hok
     refine⟨fn,ρ',w2,cc,_,hfn,by rw[hbody];rfl,hname,by rw[henter];exact hsteps.trans hst2,rfl,⟨rfl,rfl,rfl,fn,hfn,hrun⟩,hvr,S2,E2⟩
   ·cases hr
  split at hc
  ·rename_i e' h1 hrun
   obtain⟨ρ',w',a',hgo,hA⟩:=hI fn.ntmps c _ h _ e' h1 hrun w.heap.size ρ w a b [] cs S hG hER hsz (Nat.le_refl _) hd0 (.inl rfl)
   exact out e' h1 ρ' w' a' ⟨[],Steps.trans hgo (.one (NL rfl))⟩ hA hc
  ·rename_i e' h1 hrun
   obtain⟨ρ',w',a',hgo,hA⟩:=hI fn.ntmps c _ h _ e' h1 hrun w.heap.size ρ w a b [] cs S hG hER hsz (Nat.le_refl _) hd0 (.inl rfl)
   obtain⟨k',hst⟩:=hgo
   exact out e' h1 ρ' w' a' ⟨_,hst.trans (.one (Oz rfl))⟩ hA hc
  ·cases hc
theorem xj {CC:bI} {ρ:dp} {h:ae} {w:World} (S:cu CC ρ h w) {l:Nat} {r:uD} {env env':Env} {ps ps':List Nat} {asg asg' body body':aj} {st st':IG} (hl:ρ l=some r)
  (hg:h.tr.get l=some (.loop env' ps' asg' body' st')) {L:Loop} (hh:w.heap[r.aA]? =some (.loop L)) (L':Loop) (hok:Ku CC ρ r env ps asg body st { w with heap:=w.heap.setIfInBounds r.aA (.loop L') }):
  cu CC ρ (eL h l env ps asg body st) { w with heap:=w.heap.setIfInBounds r.aA (.loop L') } ∧Ext ρ h w ρ (eL h l env ps asg body st) { w with heap:=w.heap.setIfInBounds r.aA (.loop L') } :=
 cu.qV (o':= .loop env ps asg body st) S hl hg rfl (FL.obj r.aA (.loop L')) hok h.clock
theorem heap_set (w:World) {k:Nat} {o o':Obj} (h:w.heap[k]? =some o):(w.heap.setIfInBounds k o')[k]? =some o':=by
 have:=uP h
 simp[this]
theorem Bz (hI:qc P T ng dr ih) {l:Nat} {args cargs:List Value} {h h':ae} {v:Value} (hc:qi ih l args h=some (v,h'))
  {ρ:dp} {w:World} (S:cu (eY T ng dr) ρ h w) (hG:bJ ng ρ) (ha:All2 (VR ρ) args cargs) {r:uD} (hl:ρ l=some r) (c:Frame) (cs:List Frame):
  ∃L ρ' w' cv,w.heap[r.aA]? =some (.loop L)∧cargs.length=L.params.size∧
   Steps P (lone (Frame.round r.aA L.fn ((L.params.toList.zip cargs).foldl (fun(tmps:Array Value) (x:Nat×Value)=>tmps.setIfInBounds x.1 x.2) L.tmps) L.assign L.body .normal) (c::cs) w) (lone (c.finish cv) cs w')∧
   VR ρ' v cv∧cu (eY T ng dr) ρ' h' w'∧Ext ρ h w ρ' h' w':=by
 unfold qi at hc
 split at hc
 ·rename_i env ps asg body hget
  obtain⟨L,hh,hER,hps,⟨n1,hn1,hca,hna⟩,⟨n2,hn2,hcb,hnb⟩,hlt,hst⟩:=S.obj l r _ hl hget
  split at hc
  ·cases hc
  ·rename_i e0 hset
   obtain⟨hE0,hsz0,hlen⟩:=Bt ps args cargs env e0 L.tmps ha hset hER hlt
   rw[←hps] at hE0 hsz0
   have hcl:cargs.length=L.params.size:=by
    have h1:=ha.length
    rw[←hps] at hlen
    simp at hlen;omega
   let b:Frame:= { (default:Frame) with fn:=L.fn,kind:= .normal,roundOf:=some r.aA }
   let a:Act:= { tmps:=(L.params.toList.zip cargs).foldl (fun(tmps:Array Value) (x:Nat×Value)=>tmps.setIfInBounds x.1 x.2) L.tmps,defers:=[] }
   have hround:Frame.round r.aA L.fn a.tmps L.assign L.body .normal=on b a [.code L.assign,.beginRound,.code L.body]:=rfl
   refine⟨L,?_⟩
   have hasz:a.tmps.size=L.tmps.size:=hsz0
   split at hc
   ·rename_i e1 h1 hrun1
    rw[hca] at hrun1
    obtain⟨ρ1,w1,a1,hgo1,hA1⟩:=hI n1 L.assign e0 h _ e1 h1 hrun1 w.heap.size ρ w a b [.beginRound,.code L.body] (c::cs) S hG hE0 (by omega) (Nat.le_refl _)
     ⟨[],rfl,List.nodup_nil,fun r hr=>by simp at hr⟩ (.inr hna)
    have hl1:=hA1.ext.le l r hl
    unfold uT at hc
    split at hc
    ·rename_i env1 ps1 asg1 body1 hget1
     have hl1ok:=hA1.GC.obj l r _ hl1 hget1
     obtain⟨L1,hh1,hER1,hp1,hc1,hc2,hlt1,hst1,hpend1⟩:=hl1ok
     have hbeg:=BX (P:=P) (b:=b) (a:=a1) (k:=[.code L.body]) (cs:=c::cs) (w:=w1) rfl hh1 hst1
     obtain⟨S2,E2⟩:=xj (st:= .busy) hA1.GC hl1 hget1 hh1 { L1 with state:= .busy } ⟨{ L1 with state:= .busy },heap_set w1 hh1,hER1,hp1,hc1,hc2,hlt1,rfl⟩
     have E02:=hA1.ext.trans E2
     have hd2:=hA1.defs.ext E2
     have tail: ∀(x:aO) (e3:Env) (h3:ae) (st:IG) (bv:Bool) (pend:Option Code) (lst:LoopState),BW st { L1 with state:=lst,pending:=pend } →
       (∀L3:Loop,BW st { L3 with state:=lst,pending:=pend })→
       ih (bz T ng n2 dr L.body) e1 (eL h1 l env1 ps1 asg1 body1 .busy)=some (x,e3,h3)→kM l h3 st bv=some (v,h')→
       (∀a3 w3 L3,w3.heap[r.aA]? =some (.loop L3)→zG P b [] (c::cs) (lone (on b a1 [.code L.body]) (c::cs) { w1 with heap:=w1.heap.setIfInBounds r.aA (.loop { L1 with state:= .busy }) }) x a3 w3→
        Steps P (lone (on b a1 [.code L.body]) (c::cs) { w1 with heap:=w1.heap.setIfInBounds r.aA (.loop { L1 with state:= .busy }) })
         (lone (c.finish (.bool bv)) cs { w3 with heap:=w3.heap.setIfInBounds r.aA (.loop { L3 with state:=lst,pending:=pend }) }))→
       ∃ρ' w' cv,w.heap[r.aA]? =some (.loop L)∧cargs.length=L.params.size∧
        Steps P (lone (Frame.round r.aA L.fn ((L.params.toList.zip cargs).foldl (fun(tmps:Array Value) (x:Nat×Value)=>tmps.setIfInBounds x.1 x.2) L.tmps) L.assign L.body .normal) (c::cs) w) (lone (c.finish cv) cs w')∧
        VR ρ' v cv∧cu (eY T ng dr) ρ' h' w'∧Ext ρ h w ρ' h' w':=by
      intro x e3 h3 st bv pend lst _ hj hrun3 hend hlast
      obtain⟨ρ3,w3,a3,hgo3,hA3⟩:=hI n2 L.body e1 _ x e3 h3 hrun3 w.heap.size ρ1 _ a1 b [] (c::cs) S2 (hG.mono hA1.ext.le) hA1.er (by rw[hA1.size];omega) (by simpa using hA1.ext.size) hd2 (.inr hnb)
      have hl3:=hA3.ext.le l r hl1
      unfold kM at hend
      split at hend
      ·rename_i env3 ps3 asg3 body3 hget3
       cases hend
       obtain⟨L3,hh3,hER3,hp3,hc3,hc4,hlt3,hst3⟩:=hA3.GC.obj l r _ hl3 hget3
       obtain⟨S4,E4⟩:=xj (st:=st) hA3.GC hl3 hget3 hh3 { L3 with state:=lst,pending:=pend } ⟨{ L3 with state:=lst,pending:=pend },heap_set w3 hh3,hER3,hp3,hc3,hc4,hlt3,hj L3⟩
       refine⟨ρ3,_,.bool bv,hh,hcl,?_,VR.bool bv,S4,(E02.trans hA3.ext).trans E4⟩
       rw[hround]
       exact(Steps.trans hgo1 (.head hbeg (hlast a3 w3 L3 hh3 hgo3)))
      ·cases hend
     rw[hcb] at hc
     split at hc
     ·rename_i e3 h3 hrun3
      refine tail .normal e3 h3 .ready true none .ready ⟨rfl,rfl⟩ (fun _=>⟨rfl,rfl⟩) hrun3 hc ?_
      intro a3 w3 L3 hh3 hgo
      exact Steps.trans hgo (.one (CJ rfl rfl hh3))
     ·rename_i e3 h3 hrun3
      refine tail .ret e3 h3 (.done none) false (some .ret) .done ⟨rfl,rfl⟩ (fun _=>⟨rfl,rfl⟩) hrun3 hc ?_
      intro a3 w3 L3 hh3 ⟨k',hgo⟩
      exact Steps.trans hgo (.one (DZ rfl rfl hh3))
     ·rename_i id e3 h3 hrun3
      refine tail (.exit id) e3 h3 (.done (some id)) false (some (.exit id)) .done ⟨rfl,rfl⟩ (fun _=>⟨rfl,rfl⟩) hrun3 hc ?_
      intro a3 w3 L3 hh3 ⟨k',hgo,hex⟩
      exact Steps.trans hgo (.one (BM rfl rfl hh3 hex))
     ·cases hc
    ·cases hc
   ·cases hc
 ·cases hc
end
end Go.AI
