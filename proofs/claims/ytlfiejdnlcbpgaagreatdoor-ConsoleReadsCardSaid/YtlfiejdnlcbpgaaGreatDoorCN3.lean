/- Part 3 of the proof: the texts B2 B3 B4 B5 S1 R1 R2. -/
import Derived.Test.YtlfiejdnlcbpgaaGreatDoorCN2
import Derived.KernelRfl
import Derived.Laws.MakeOwn
import Derived.Laws.Small
set_option linter.unusedSimpArgs false
set_option linter.unusedVariables false
namespace Tdoc
open Go
def vIu (f:Nat→Nat):Tok→Tok
 | .right i=>.right (f i)
 | t=>t
mutual
def ren (f:Nat→Nat):AV→AV
 | .d x=>.d x
 | .sl sz es tok=>.sl sz es (vIu f tok)
 | .nils=>.nils
 | .ptr i off=>.ptr (f i) off
 | .iptr cs=>.iptr cs
 | .nilp=>.nilp
 | .row i off n cap=>.row (f i) off n cap
 | .bm i n=>.bm (f i) n
 | .bp i n m=>.bp (f i) n m
 | .fn g a b=>.fn g (qHv f a) (qHv f b)
 | .nilf=>.nilf
 | .mp i=>.mp (f i)
 | .pv i b=>.pv (f i) b
 | .pb b=>.pb b
 | .rx i off n=>.rx (f i) off n
 | .ifc b=>.ifc b
 | .ifa t v=>.ifa t (ren f v)
 | .agg cs=>.agg (qHv f cs)
 | .tup vs=>.tup (qHv f vs)
 | .gd b v=>.gd b (ren f v)
 | .any=>.any
def qHv (f:Nat→Nat):List AV→List AV
 | []=>[]
 | a::l=>ren f a::qHv f l
end
def vIw (k:Nat):Tok→Bool
 | .right i=>Nat.blt i k
 | _=>true
mutual
def low (k:Nat):AV→Bool
 | .d _=>true
 | .sl _ _ tok=>vIw k tok
 | .nils=>true
 | .ptr i _=>Nat.blt i k
 | .iptr _=>true
 | .nilp=>true
 | .row i _ _ _=>Nat.blt i k
 | .bm i _=>Nat.blt i k
 | .bp i _ _=>Nat.blt i k
 | .fn _ a b=>qBl k a&&qBl k b
 | .nilf=>true
 | .mp i=>Nat.blt i k
 | .pv i _=>Nat.blt i k
 | .pb _=>true
 | .rx i _ _=>Nat.blt i k
 | .ifc _=>true
 | .ifa _ v=>low k v
 | .agg cs=>qBl k cs
 | .tup vs=>qBl k vs
 | .gd _ v=>low k v
 | .any=>true
def qBl (k:Nat):List AV→Bool
 | []=>true
 | a::l=>low k a&&qBl k l
end
theorem renL_at (f:Nat→Nat):∀ (l:List AV) (j:Nat),(qHv f l)[j]?=(l[j]?).map (ren f)
 | [],j=>by simp [qHv]
 | a::l,0=>by simp [qHv]
 | a::l,j+1=>by simpa [qHv] using renL_at f l j
theorem renL_length (f:Nat→Nat):∀ (l:List AV),(qHv f l).length=l.length
 | []=>rfl
 | a::l=>by simp [qHv,renL_length f l]
theorem lowL_at {k:Nat}:∀ {l:List AV} {j:Nat} {x:AV},qBl k l=true→l[j]?=some x→low k x=true
 | [],j,x,_,h=>by simp at h
 | a::l,0,x,h,hx=>by simp at hx;subst hx;simp [qBl] at h;exact h.1
 | a::l,j+1,x,h,hx=>by simp [qBl] at h;exact lowL_at h.2 (by simpa using hx)
def qJg (f:Nat→Nat):AObj→AObj
 | .row cells=>.row (qHv f cells)
 | .buf sz n cells=>.buf sz n (qHv f cells)
 | .right sz n=>.right sz n
 | .dead=>.dead
 | .room=>.room
 | .opq R=>.opq R
def vGx (k:Nat):AObj→Bool
 | .row cells=>qBl k cells
 | .buf _ _ cells=>qBl k cells
 | _=>true
def qCn (k:Nat):List AObj→Bool
 | []=>true
 | o::l=>vGx k o&&qCn k l
theorem lowH_at {k:Nat}:∀ {l:List AObj} {j:Nat} {x:AObj},qCn k l=true→l[j]?=some x→vGx k x=true
 | [],j,x,_,h=>by simp at h
 | a::l,0,x,h,hx=>by simp at hx;subst hx;simp [qCn] at h;exact h.1
 | a::l,j+1,x,h,hx=>by simp [qCn] at h;exact lowH_at h.2 (by simpa using hx)
structure Alike (k:Nat) (f:Nat→Nat) (G G':Gh):Prop where
 imm:∀ a v,G.imm a=some v→G'.imm a=some v
 loc:∀ i b,i < k→G.loc i=some b→G'.loc (f i)=some b
 rt:∀ i n x,i < k→G.rt i n=some x→G'.rt (f i) n=some x
theorem qCc {a b:Nat} (h:Nat.blt a b=true):a < b:=Nat.le_of_ble_eq_true h
theorem RepA.alike {k:Nat} {f:Nat→Nat} {G G':Gh} (ha:Alike k f G G') {x:AV} {v:Value} (h:RepA G x v):low k x=true→RepA G' (ren f x) v:=by
 induction h with
 | d r=>intro _;exact .d (r.mono ha.imm)
 | @sl sz es tok v r t =>
  intro hl
  refine .sl (r.mono ha.imm) ?_
  cases tok with
  | none=>trivial
  | full=>exact t
  | right i =>
   obtain ⟨a,cap,hv,hr⟩:=t
   exact ⟨a,cap,hv,ha.rt _ _ _ (qCc hl) hr⟩
 | nils=>intro _;exact .nils
 | ptr off hl=>intro h;exact .ptr off (ha.loc _ _ (qCc h) hl)
 | iptr a vs h1 h2 h3=>intro _;exact .iptr a vs h1 (fun j d hd=>ha.imm _ _ (h2 j d hd)) (fun j d hd=>(h3 j d hd).mono ha.imm)
 | nilp=>intro _;exact .nilp
 | row off n cap hl=>intro h;exact .row off n cap (ha.loc _ _ (qCc h) hl)
 | bm a cap hr hz=>intro h;exact .bm a cap (ha.rt _ _ _ (qCc h) hr) hz
 | bp p cap k hr=>intro h;exact .bp p cap k (ha.rt _ _ _ (qCc h) hr)
 | fn g fs cs h1 h2 _ _ ih1 ih2 =>
  intro hl
  simp only [low,Bool.and_eq_true] at hl
  refine .fn g fs cs (by rw [renL_length];exact h1) (by rw [renL_length];exact h2) (fun j x v hx hv=>?_) (fun j x v hx hv=>?_)
  ·rw [renL_at,Option.map_eq_some_iff] at hx
   obtain ⟨y,hy,rfl⟩:=hx
   exact ih1 j y v hy hv (lowL_at hl.1 hy)
  ·rw [renL_at,Option.map_eq_some_iff] at hx
   obtain ⟨y,hy,rfl⟩:=hx
   exact ih2 j y v hy hv (lowL_at hl.2 hy)
 | nilf=>intro _;exact .nilf
 | mp hl=>intro h;exact .mp (ha.loc _ _ (qCc h) hl)
 | pv hl=>intro h;exact .pv (ha.loc _ _ (qCc h) hl)
 | pb b=>intro _;exact .pb b
 | rx off cap hl h1 h2=>intro h;exact .rx off cap (ha.loc _ _ (qCc h) hl) h1 h2
 | ifc h=>intro _;exact .ifc h
 | ifa _ ih=>intro hl;exact .ifa (ih hl)
 | agg vs h1 _ h3 ih =>
  intro hl
  refine .agg vs (by rw [renL_length];exact h1) (fun j x v hx hv=>?_) h3
  rw [renL_at,Option.map_eq_some_iff] at hx
  obtain ⟨y,hy,rfl⟩:=hx
  exact ih j y v hy hv (lowL_at hl hy)
 | tup vs h1 _ ih =>
  intro hl
  refine .tup vs (by rw [renL_length];exact h1) (fun j x v hx hv=>?_)
  rw [renL_at,Option.map_eq_some_iff] at hx
  obtain ⟨y,hy,rfl⟩:=hx
  exact ih j y v hy hv (lowL_at hl hy)
 | gd _ hu ih=>intro hl;exact .gd (fun hb=>ih hb hl) hu
 | any v=>intro _;exact .any v
mutual
theorem qVj (f:Nat→Nat) (hf:∀ i,f i=i):∀ (x:AV),ren f x=x
 | .d x=>rfl
 | .sl sz es tok=>by cases tok <;> simp [ren,vIu,hf]
 | .nils=>rfl
 | .ptr i off=>by simp [ren,hf]
 | .iptr cs=>rfl
 | .nilp=>rfl
 | .row i off n cap=>by simp [ren,hf]
 | .bm i n=>by simp [ren,hf]
 | .bp i n m=>by simp [ren,hf]
 | .fn g a b=>by simp [ren,renL_id f hf a,renL_id f hf b]
 | .nilf=>rfl
 | .mp i=>by simp [ren,hf]
 | .pv i b=>by simp [ren,hf]
 | .pb b=>rfl
 | .rx i off n=>by simp [ren,hf]
 | .ifc _=>rfl
 | .ifa t v=>by simp [ren,qVj f hf v]
 | .agg cs=>by simp [ren,renL_id f hf cs]
 | .tup vs=>by simp [ren,renL_id f hf vs]
 | .gd b v=>by simp [ren,qVj f hf v]
 | .any=>rfl
theorem renL_id (f:Nat→Nat) (hf:∀ i,f i=i):∀ (l:List AV),qHv f l=l
 | []=>rfl
 | a::l=>by simp [qHv,qVj f hf a,renL_id f hf l]
end
structure Back (k:Nat) (f:Nat→Nat) (G G':Gh):Prop where
 imm:∀ a v,G'.imm a=some v→G.imm a=some v
 loc:∀ i b,i < k→G'.loc (f i)=some b→G.loc i=some b
 rt:∀ i n x,i < k→G'.rt (f i) n=some x→G.rt i n=some x
theorem RepA.back {k:Nat} {f:Nat→Nat} {G G':Gh} (hb:Back k f G G') {y:AV} {v:Value} (h:RepA G' y v):∀ x,y=ren f x→low k x=true→RepA G x v:=by
 induction h with
 | d r=>intro x hx hl;cases x <;> simp [ren] at hx;subst hx;exact .d (r.mono hb.imm)
 | @sl sz es tok v r t =>
  intro x hx hl
  cases x <;> simp [ren] at hx
  obtain ⟨rfl,rfl,rfl⟩:=hx
  rename_i tok'
  refine .sl (r.mono hb.imm) ?_
  cases tok' with
  | none=>trivial
  | full=>exact t
  | right i =>
   obtain ⟨a,cap,hv,hr⟩:=t
   exact ⟨a,cap,hv,hb.rt _ _ _ (qCc hl) hr⟩
 | nils=>intro x hx hl;cases x <;> simp [ren] at hx;exact .nils
 | ptr off hloc=>intro x hx hl;cases x <;> simp [ren] at hx;obtain ⟨rfl,rfl⟩:=hx;exact .ptr _ (hb.loc _ _ (qCc hl) hloc)
 | iptr a vs h1 h2 h3=>intro x hx hl;cases x <;> simp [ren] at hx;subst hx;exact .iptr a vs h1 (fun j d hd=>hb.imm _ _ (h2 j d hd)) (fun j d hd=>(h3 j d hd).mono hb.imm)
 | nilp=>intro x hx hl;cases x <;> simp [ren] at hx;exact .nilp
 | row off n cap hloc=>intro x hx hl;cases x <;> simp [ren] at hx;obtain ⟨rfl,rfl,rfl,rfl⟩:=hx;exact .row _ _ _ (hb.loc _ _ (qCc hl) hloc)
 | bm a cap hr hz=>intro x hx hl;cases x <;> simp [ren] at hx;obtain ⟨rfl,rfl⟩:=hx;exact .bm _ _ (hb.rt _ _ _ (qCc hl) hr) hz
 | bp p cap k hr=>intro x hx hl;cases x <;> simp [ren] at hx;obtain ⟨rfl,rfl,rfl⟩:=hx;exact .bp _ _ _ (hb.rt _ _ _ (qCc hl) hr)
 | fn g fs cs h1 h2 _ _ ih1 ih2 =>
  intro x hx hl
  cases x <;> simp [ren] at hx
  obtain ⟨rfl,rfl,rfl⟩:=hx
  simp only [low,Bool.and_eq_true] at hl
  rw [renL_length] at h1 h2
  refine .fn _ fs cs h1 h2 (fun j x v hx hv=>?_) (fun j x v hx hv=>?_)
  ·exact ih1 j (ren f x) v (by rw [renL_at,hx];rfl) hv x rfl (lowL_at hl.1 hx)
  ·exact ih2 j (ren f x) v (by rw [renL_at,hx];rfl) hv x rfl (lowL_at hl.2 hx)
 | nilf=>intro x hx hl;cases x <;> simp [ren] at hx;exact .nilf
 | mp hl0=>intro x hx hl;cases x <;> simp [ren] at hx;subst hx;exact .mp (hb.loc _ _ (qCc hl) hl0)
 | pv hl0=>intro x hx hl;cases x <;> simp [ren] at hx;obtain ⟨rfl,rfl⟩:=hx;exact .pv (hb.loc _ _ (qCc hl) hl0)
 | pb b=>intro x hx hl;cases x <;> simp [ren] at hx;subst hx;exact .pb _
 | rx off cap hloc h1 h2=>intro x hx hl;cases x <;> simp [ren] at hx;obtain ⟨rfl,rfl,rfl⟩:=hx;exact .rx _ _ (hb.loc _ _ (qCc hl) hloc) h1 h2
 | ifc h=>intro x hx hl;cases x <;> simp [ren] at hx;subst hx;exact .ifc h
 | ifa _ ih=>intro x hx hl;cases x <;> simp [ren] at hx;obtain ⟨rfl,rfl⟩:=hx;exact .ifa (ih _ rfl hl)
 | agg vs h1 _ h3 ih =>
  intro x hx hl
  cases x <;> simp [ren] at hx
  subst hx
  rw [renL_length] at h1
  exact .agg vs h1 (fun j x v hx hv=>ih j (ren f x) v (by rw [renL_at,hx];rfl) hv x rfl (lowL_at hl hx)) h3
 | tup vs h1 _ ih =>
  intro x hx hl
  cases x <;> simp [ren] at hx
  subst hx
  rw [renL_length] at h1
  exact .tup vs h1 (fun j x v hx hv=>ih j (ren f x) v (by rw [renL_at,hx];rfl) hv x rfl (lowL_at hl hx))
 | gd _ hu ih=>intro x hx hl;cases x <;> simp [ren] at hx;obtain ⟨rfl,rfl⟩:=hx;exact .gd (fun hb'=>ih hb' _ rfl hl) hu
 | any v=>intro x hx hl;cases x <;> simp [ren] at hx;exact .any v
def Spec (P:Program) (f:FuncId) (args:List AV) (h:List AObj) (Q:AV→List AObj→Prop):Prop :=
 (∃ fn,P.funcs[f]?=some fn∧(fn.name == "runtime.NumGoroutine")=false∧fn.body.isNone=false) ∧
 ∀ (G:Gh) (w:World) (vals:Array Value),vals.size=args.length→(∀ (j:Nat) (x:AV) (v:Value),args[j]?=some x→vals[j]?=some v→RepA G x v) →
  ∀ htab:TabOk w G,WRel ⟨w,G,htab,[]⟩ G h w→Calls P f vals w (fun e w'=>∃ v r h' G',e=.returned v∧Q r h'∧h'.length=h.length∧low h.length r=true∧qCn h.length h'=true∧RepA G' r v∧WRel ⟨w,G,htab,[]⟩ G' h' w')
theorem Spec.mono {P:Program} {f:FuncId} {args:List AV} {h:List AObj} {Q Q':AV→List AObj→Prop} (H:Spec P f args h Q) (hq:∀ r h',Q r h'→Q' r h'):Spec P f args h Q' :=
 ⟨H.1,fun G w vals h1 h2 ht h3=>(H.2 G w vals h1 h2 ht h3).mono fun e w' ⟨v,r,h',G',k1,k2,k3⟩=>⟨v,r,h',G',k1,hq _ _ k2,k3⟩⟩
def pars:List AV→Nat→List (Nat×AV)
 | [],_=>[]
 | a::l,k=>(k,a)::pars l (k+1)
theorem qLf:∀ (l:List AV) (k t:Nat),look (pars l k) t=if k≤t∧t < k+l.length then (l[t-k]?).getD .any else .any
 | [],k,t=>by simp [pars,look]
 | a::l,k,t=>by
  unfold pars look
  cases hb:Nat.beq t k with
  | true =>
   obtain rfl:=Nat.eq_of_beq_eq_true hb
   simp
  | false =>
   have hne:t≠k:=fun hh=>by subst hh;rw [Nat.beq_refl] at hb;cases hb
   show look (pars l (k+1)) t=_
   rw [qLf l (k+1) t]
   simp only [List.length_cons]
   by_cases h1:k+1≤t∧t < k+1+l.length
   ·rw [if_pos h1,if_pos (by omega)]
    rw [show t-k=(t-(k+1))+1 by omega];simp
   ·rw [if_neg h1,if_neg (by omega)]
def qVh (T:Tr) (τ:Nat→AV) (h:List AObj):ResultVar→Option AV
 | .tmp t=>some (τ t)
 | .cell a t=>match τ a with
  | .ptr i off=>match h[i]? with
   | some (.row cells)=>vCd T t cells off
   | _=>none
  | _=>none
def qPi (T:Tr) (τ:Nat→AV) (h:List AObj):List ResultVar→Option (List AV)
 | []=>some []
 | x::l=>match qVh T τ h x with
  | some v=>match qPi T τ h l with
   | some r=>some (v::r)
   | none=>none
  | none=>none
def qWs (T:Tr) (τ:Nat→AV) (h:List AObj) (l:List ResultVar):Option AV:=match qPi T τ h l with
 | some [v]=>some v
 | some vs=>some (.tup vs)
 | none=>none
section
variable {P:Program} {T:Tr}
theorem resOne_run (hT:TOk P T) {E:Env} {G:Gh} {h:List AObj} {w:World} {τ:Nat→AV} {tmps:Array Value} (hw:WRel E G h w) (ht:∀ t,RepA G (τ t) (tmps.getD t undef)) {x:ResultVar} {v:AV} (hx:qVh T τ h x=some v) :
  ∃ u,(match x with | .tmp t=>pure (tmps.getD t undef) | .cell a t=>do loadVar t (← asAddr (tmps.getD a undef)):Sem Value).run P w=.ok u w∧RepA G v u:=by
 cases x with
 | tmp t=>simp only [qVh,Option.some.injEq] at hx;subst hx;exact ⟨_,rfl,ht t⟩
 | cell a t =>
  simp only [qVh] at hx
  split at hx
  ·rename_i i off hp
   split at hx
   ·rename_i cells hi
    rw [loadF_eq] at hx
    have hpa:=ht a
    rw [hp] at hpa
    obtain ⟨b,hb,hl⟩:=hpa.ptr_inv
    have hop:=qAo (E:=E) (h:=h) hT (o:=⟨none,.load t (.tmp a),0, "",#[],none⟩) (ρ:=ev τ) (i:=i) (off:=off) rfl hp hi hx
    have:=hop G ⟨tmps,[]⟩ w hw (fun y hy=>qIi (a:=⟨tmps,[]⟩) (E.tab.1.mono hw.le.imm) ht y)
    unfold Oper.wp execOp at this
    simp only [Instr.loadAt,Sem.run_bind,Act.eval,hb,Instr.sureAddr,Sem.run_pure,Result.andThen_ok] at this
    simp only [hb,asAddr,Sem.run_bind,Sem.run_pure,Result.andThen_ok]
    obtain ⟨b',hl',hown,hrow,himm⟩:=hw.obj i _ hi
    rw [hl] at hl';cases hl'
    unfold qEv at hx
    split at hx
    ·rename_i ti hf
     have hti:=hT.at hf
     split at hx
     ·rename_i hagg
      split at hx
      ·rename_i hble
       have hle:=Nat.le_of_ble_eq_true hble
       cases hx
       have hcell:∀ j,j < ti.size→∃ u,w.cell? ⟨b,off+j,none⟩=some u∧qHy u=true∧RepA G (cells[off+j]?.getD .any) u:=by
        intro j hj
        have hc:cells[off+j]?=some cells[off+j]:=by simp [show off+j < cells.length by omega]
        obtain ⟨u,h1,h2,h3,_⟩:=hrow _ _ hc
        exact ⟨u,h1,h2,by rw [hc];exact h3⟩
       let f:Nat→Value:=fun j=>(w.cell? ⟨b,off+j,none⟩).getD undef
       have hld:(loadCells ⟨b,off,none⟩ ti.size).run P w=.ok ((List.range ti.size).map f).toArray w:=by
        refine run_loadCells (P:=P) w _ _ f (fun j hj=>?_)
        obtain ⟨u,h1,_⟩:=hcell j hj
        rw [qCr];simp [f,h1]
       refine ⟨.agg ((List.range ti.size).map f).toArray,by simp [loadVar,hti.run_agg,hagg,hti.run_size,hld],.agg _ (by simp;omega) (fun j c y hc hy=>?_) (fun j y hy=>?_)⟩
       ·simp only [List.getElem?_take,List.getElem?_drop] at hc
        split at hc
        ·rename_i hj
         obtain ⟨u,h1,h2,h3⟩:=hcell j hj
         simp [hj,f,h1] at hy
         subst hy
         rw [hc] at h3;exact h3
        ·cases hc
       ·by_cases hj:j < ti.size
        ·obtain ⟨u,h1,h2,h3⟩:=hcell j hj
         simp [hj,f,h1] at hy
         subst hy;exact h2
        ·simp [hj] at hy
      ·cases hx
     ·rename_i hagg
      obtain ⟨u,h1,h2,h3,_⟩:=hrow _ _ hx
      exact ⟨u,by simp [loadVar,hti.run_agg,hagg,h1],h3⟩
    ·cases hx
   ·cases hx
  ·cases hx
theorem resAll_run (hT:TOk P T) {E:Env} {G:Gh} {h:List AObj} {w:World} {τ:Nat→AV} {tmps:Array Value} (hw:WRel E G h w) (ht:∀ t,RepA G (τ t) (tmps.getD t undef)):∀ {l:List ResultVar} {vs:List AV},qPi T τ h l=some vs →
  ∃ us:List Value,(l.mapM (fun x=>(match x with | .tmp t=>pure (tmps.getD t undef) | .cell a t=>do loadVar t (← asAddr (tmps.getD a undef)):Sem Value))).run P w=.ok us w∧us.length=vs.length ∧
   ∀ (j:Nat) (x:AV) (u:Value),vs[j]?=some x→us[j]?=some u→RepA G x u
 | [],vs,h=>by simp [qPi] at h;subst h;exact ⟨[],by simp,rfl,fun j x u h=>by simp at h⟩
 | x::l,vs,hv=>by
  unfold qPi at hv
  split at hv
  ·rename_i v hx
   split at hv
   ·rename_i r hr
    cases hv
    obtain ⟨u,hu,hru⟩:=resOne_run hT hw ht hx
    obtain ⟨us,h1,h2,h3⟩:=resAll_run hT hw ht hr
    refine ⟨u::us,?_,by simp [h2],fun j y z hy hz=>?_⟩
    ·simp only [List.mapM_cons,Sem.run_bind,hu,Result.andThen_ok,h1,Sem.run_pure]
    ·cases j with
     | zero=>simp at hy hz;subst hy;subst hz;exact hru
     | succ j=>exact h3 j y z (by simpa using hy) (by simpa using hz)
   ·cases hv
  ·cases hv
theorem resA_run (hT:TOk P T) {E:Env} {G:Gh} {h:List AObj} {w:World} {τ:Nat→AV} {tmps:Array Value} (hw:WRel E G h w) (ht:∀ t,RepA G (τ t) (tmps.getD t undef)) {fn:Func} {l:List ResultVar} (hfn:fn.results=l.toArray) {v:AV} (hv:qWs T τ h l=some v) :
  ∃ u,(results fn tmps).run P w=.ok u w∧RepA G v u:=by
 unfold qWs at hv
 split at hv
 ·rename_i v0 hr
  cases hv
  obtain ⟨us,h1,h2,h3⟩:=resAll_run hT hw ht hr
  obtain ⟨u,rfl⟩:∃ u,us=[u]:=by
   cases us with
   | nil=>simp at h2
   | cons u r=>cases r with
    | nil=>exact ⟨u,rfl⟩
    | cons _ _=>simp at h2
  refine ⟨u,?_,h3 0 v u rfl rfl⟩
  unfold results
  rw [hfn,List.mapM_toArray]
  simp only [Sem.run_bind,Sem.run_map]
  erw [h1]
  simp
 ·rename_i vs hne hr
  cases hv
  obtain ⟨us,h1,h2,h3⟩:=resAll_run hT hw ht hr
  have hlen:us.length≠1:=by
   intro hh
   rw [h2] at hh
   obtain ⟨v0,rfl⟩:=List.length_eq_one_iff.1 hh
   exact hne v0 rfl
  refine ⟨.tuple us.toArray,?_,.tup _ (by simp [h2]) (fun j x u hx hu=>h3 j x u hx (by simpa using hu))⟩
  unfold results
  rw [hfn,List.mapM_toArray]
  simp only [Sem.run_bind,Sem.run_map]
  erw [h1]
  simp [hlen]
 ·cases hv
end
def vFw (k:Nat) (G:Gh):Gh :=
 { G with loc:=fun i=>if i < k then G.loc i else none,rt:=fun i n=>if i < k then G.rt i n else none }
theorem qGg (k:Nat) (G:Gh):Alike k (fun i=>i) G (vFw k G) :=
 ⟨fun _ _ h=>h,fun i b hi h=>by show (if i < k then G.loc i else none)=some b;rw [if_pos hi];exact h,fun i n x hi h=>by show (if i < k then G.rt i n else none)=some x;rw [if_pos hi];exact h⟩
theorem RepA.cut {k:Nat} {G:Gh} {x:AV} {v:Value} (h:RepA G x v) (hl:low k x=true):RepA (vFw k G) x v:=by
 have:=h.alike (qGg k G) hl
 rwa [qVj _ (fun _=>rfl)] at this
def Env.below (E:Env) (k:Nat):Prop:=∀ i,k≤i→E.G0.loc i=none∧∀ n,E.G0.rt i n=none
theorem WRel.cut {E:Env} {G:Gh} {h h':List AObj} {w:World} {k:Nat} (hw:WRel E G h w) (hk:E.below k) (hlen:h'.length=k) (hp:∀ i,i < k→h'[i]?=h[i]?) (hl:qCn k h'=true):WRel E (vFw k G) h' w:=by
 refine ⟨⟨hw.le.imm,fun i b hb=>?_,fun i n x hx=>?_,hw.le.own⟩,hw.imm,hw.immNew,hw.keep,hw.size,hw.os,hw.tape,hw.output,hw.own,fun i hi=>?_,fun i ob hi=>?_⟩
 ·show (if i < k then G.loc i else none)=some b
  by_cases hik:i < k
  ·rw [if_pos hik];exact hw.le.loc _ _ hb
  ·rw [(hk i (by omega)).1] at hb;cases hb
 ·show (if i < k then G.rt i n else none)=some x
  by_cases hik:i < k
  ·rw [if_pos hik];exact hw.le.rt _ _ _ hx
  ·rw [(hk i (by omega)).2 n] at hx;cases hx
 ·rw [hlen] at hi
  exact ⟨by show (if i < k then G.loc i else none)=none;rw [if_neg (by omega)],fun n=>by show (if i < k then G.rt i n else none)=none;rw [if_neg (by omega)]⟩
 ·have hik:i < k:=by rw [← hlen];exact (List.getElem?_eq_some_iff.1 hi).1
  have hlo:=lowH_at hl hi
  rw [hp i hik] at hi
  have hob:=hw.obj i ob hi
  cases ob with
  | dead=>trivial
  | room=>exact ⟨by show (if i < k then G.loc i else none)=none;rw [if_pos hik];exact hob.1,fun n=>by show (if i < k then G.rt i n else none)=none;rw [if_pos hik];exact hob.2 n⟩
  | opq R =>
   obtain ⟨b,S,h1,h2,h3,h4,h5,h6⟩:=hob
   exact ⟨b,S,(qGg k G).loc i b hik h1,h2,fun n=>by show (if i < k then G.rt i n else none)=none;rw [if_pos hik];exact h3 n,h4,h5,h6⟩
  | row cells =>
   obtain ⟨b,h1,h2,h3,h4⟩:=hob
   refine ⟨b,(qGg k G).loc i b hik h1,h2,fun j c hj=>?_,h4.1,fun n=>by show (if i < k then G.rt i n else none)=none;rw [if_pos hik];exact h4.2 n⟩
   obtain ⟨v,q1,q2,q3,q4⟩:=h3 j c hj
   exact ⟨v,q1,q2,q3.cut (lowL_at hlo hj),q4⟩
  | buf sz n cells =>
   obtain ⟨a,cap,h1,h2,h3⟩:=hob
   exact ⟨a,cap,(qGg k G).rt i n _ hik h1,fun n' hn=>by show (if i < k then G.rt i n' else none)=none;rw [if_pos hik];exact h2 n' hn,
    h3.trans rfl (fun b hb=>⟨hb,rfl,fun x _ hn=>hn⟩) (fun j c hj=>⟨c,hj,fun v hv=>hv.cut (lowL_at hlo hj)⟩)⟩
  | right sz n =>
   obtain ⟨a,cap,h1,h2,h3,h4⟩:=hob
   exact ⟨a,cap,(qGg k G).rt i n _ hik h1,h2,fun n' hn=>by show (if i < k then G.rt i n' else none)=none;rw [if_pos hik];exact h3 n' hn,h4⟩
def vBq (T:Tr) (rs:List ResultVar) (k:Nat) (Q:AV→List AObj→Prop):Exit→(Nat→AV)→List AObj→Prop
 | .normal,τ,h=>∃ v r h',qWs T τ h rs=some v∧(∀ G x,RepA G v x→RepA G r x)∧h'=h.take k∧h'.length=k∧low k r=true∧qCn k h'=true∧Q r h'
 | .ret,τ,h=>∃ v r h',qWs T τ h rs=some v∧(∀ G x,RepA G v x→RepA G r x)∧h'=h.take k∧h'.length=k∧low k r=true∧qCn k h'=true∧Q r h'
 | _,_,_=>False
theorem qAb {P:Program} {T:Tr} (hT:TOk P T) {f:FuncId} {fn:Func} {c:Code} {rs:List ResultVar} {args:List AV} {h:List AObj} {Q:AV→List AObj→Prop} (hf:P.funcs[f]?=some fn) (hb:fn.body=some c)
  (hname:(fn.name == "runtime.NumGoroutine")=false) (hrs:fn.results=rs.toArray) (hn:Nat.ble args.length fn.ntmps=true)
  (H:∀ E:Env,E.below h.length→AW P E fn.ntmps c (vBq T rs h.length Q) (look (pars args 0)) h):Spec P f args h Q:=by
 refine ⟨⟨fn,hf,hname,by rw [hb];rfl⟩,fun G w vals hvs hargs htab hw=>?_⟩
 have hbel:(⟨w,G,htab,[]⟩:Env).below h.length:=fun i hi=>hw.fresh i hi
 have hle:=Nat.le_of_ble_eq_true hn
 refine calls_of_wp hf hb (wp_mono (H ⟨w,G,htab,[]⟩ hbel _ w ⟨by simp;omega,rfl,G,hw,fun t=>?_⟩) ?_)
 ·rw [qLf]
  by_cases ht:0≤t∧t < 0+args.length
  ·rw [if_pos ht]
   have ht2:t < args.length:=by omega
   have h1:args[t]?=some args[t]:=by simp [ht2]
   have h2:vals[t]?=some vals[t]:=by simp [hvs,ht2]
   have:=hargs t _ _ h1 h2
   simp only [Nat.sub_zero,h1,Option.getD_some]
   have hget:(vals++Array.replicate (fn.ntmps-vals.size) undef).getD t undef=vals[t]:=by
    rw [Array.getD_eq_getD_getElem?,Array.getElem?_append_left (by omega),h2];rfl
   rw [hget];exact this
  ·rw [if_neg ht];exact .any _
 ·rintro e a' w' ⟨τ',h',hq,hr⟩
  have fin:(∃ v r h'',qWs T τ' h' rs=some v∧(∀ G x,RepA G v x→RepA G r x)∧h''=h'.take h.length∧h''.length=h.length∧low h.length r=true∧qCn h.length h''=true∧Q r h'') →
    a'.defers=[]∧∃ v,(results fn a'.tmps).run P w'=.ok v w'∧∃ v_1 r h' G',Ending.returned v=.returned v_1∧Q r h'∧h'.length=h.length∧low h.length r=true∧qCn h.length h'=true∧RepA G' r v_1∧WRel ⟨w,G,htab,[]⟩ G' h' w':=by
   rintro ⟨v,r,h'',q1,q2,q3,q4,q5,q6,q7⟩
   obtain ⟨r1,r2,G',hw',ht⟩:=hr
   obtain ⟨u,hu,hru⟩:=resA_run hT hw' ht hrs q1
   refine ⟨r2,u,hu,u,r,h'',vFw h.length G',rfl,q7,q4,q5,q6,(q2 _ _ hru).cut q5,hw'.cut hbel q4 (fun i hi=>?_) q6⟩
   rw [q3,List.getElem?_take,if_pos hi]
  cases e with
  | normal=>exact fin hq
  | ret=>exact fin hq
  | exit id=>exact hq.elim
  | goto l=>exact hq.elim
  | panic ch=>exact hq.elim
  | outgrown=>exact hq.elim
def fsf (fs:List Nat) (i:Nat):Nat:=fs.getD i 0
def vGb (fs:List Nat) (G:Gh):Gh where
 imm:=G.imm
 loc:=fun i=>if i < fs.length then G.loc (fsf fs i) else none
 rt:=fun i n=>if i < fs.length then G.rt (fsf fs i) n else none
 own:=fun b=>match G.own b with
  | some j=>fs.idxOf? j
  | none=>none
def vGa (fs:List Nat) (G Gc:Gh):Gh where
 imm:=Gc.imm
 loc:=fun j=>match fs.idxOf? j with
  | some i=>Gc.loc i
  | none=>G.loc j
 rt:=fun j n=>match fs.idxOf? j with
  | some i=>Gc.rt i n
  | none=>G.rt j n
 own:=fun b=>match Gc.own b with
  | some i=>if i < fs.length then some (fsf fs i) else G.own b
  | none=>G.own b
theorem idxOf_at:∀ {fs:List Nat} {i:Nat},fs.Nodup→i < fs.length→fs.idxOf? (fsf fs i)=some i
 | [],i,_,h=>by simp at h
 | a::fs,0,_,_=>by simp [fsf,List.idxOf?_cons]
 | a::fs,i+1,hn,h=>by
  simp only [List.nodup_cons] at hn
  simp only [List.length_cons] at h
  have hi:i < fs.length:=by omega
  have hne:a≠fsf fs i:=fun hh=>hn.1 (by rw [hh];unfold fsf;rw [List.getD_eq_getElem?_getD,List.getElem?_eq_getElem hi];exact List.getElem_mem hi)
  have ih:=idxOf_at hn.2 hi
  have:fsf (a::fs) (i+1)=fsf fs i:=rfl
  rw [this,List.idxOf?_cons]
  simp [hne,ih]
theorem idxOf_some:∀ {fs:List Nat} {j i:Nat},fs.idxOf? j=some i→i < fs.length∧fsf fs i=j
 | [],j,i,h=>by simp at h
 | a::fs,j,i,h=>by
  rw [List.idxOf?_cons] at h
  split at h
  ·rename_i hh
   cases h
   simp at hh
   exact ⟨by simp,by simp [fsf,hh]⟩
  ·rw [Option.map_eq_some_iff] at h
   obtain ⟨k,hk,rfl⟩:=h
   obtain ⟨h1,h2⟩:=idxOf_some hk
   exact ⟨by simp;omega,by simpa [fsf] using h2⟩
theorem updH_at:∀ (fs:List Nat) (os h:List AObj) (i:Nat) (o:AObj),fs.Nodup→os[i]?=some o→i < fs.length→fsf fs i < h.length→(qFz h fs os)[fsf fs i]?=some o
 | [],os,h,i,o,_,_,hi,_=>by simp at hi
 | a::fs,[],h,i,o,_,ho,_,_=>by simp at ho
 | a::fs,x::os,h,0,o,hn,ho,_,hl=>by
  simp at ho;subst ho
  simp only [List.nodup_cons] at hn
  have:fsf (a::fs) 0=a:=rfl
  rw [this] at hl ⊢
  rw [qFz,updH_other fs os _ a hn.1]
  simp [hl]
 | a::fs,x::os,h,i+1,o,hn,ho,hi,hl=>by
  simp only [List.nodup_cons] at hn
  have:fsf (a::fs) (i+1)=fsf fs i:=rfl
  rw [this] at hl ⊢
  rw [qFz]
  exact updH_at fs os _ i o hn.2 (by simpa using ho) (by simpa using hi) (by simpa using hl)
theorem qXl {P:Program} {f:FuncId} {args hargs:List AV} {hc H:List AObj} {Q:AV→List AObj→Prop} (S:Spec P f args hc Q) {fs:List Nat} (hnd:fs.Nodup) (hlen:fs.length=hc.length)
  (hobj:∀ i,i < fs.length→H[fsf fs i]?=(hc[i]?).map (qJg (fsf fs))) (hlow:qCn fs.length hc=true) (hargs':hargs=qHv (fsf fs) args) (hla:qBl fs.length args=true)
  {E:Env} {G:Gh} {w:World} (hw:WRel E G H w) {vals:Array Value} (hvs:vals.size=hargs.length) (hr:∀ (j:Nat) (x:AV) (v:Value),hargs[j]?=some x→vals[j]?=some v→RepA G x v) :
  Calls P f vals w (fun e w'=>∃ v r h' G',e=.returned v∧Q r h'∧h'.length=hc.length∧G.le G'∧RepA G' (ren (fsf fs) r) v∧WRel E G' (qFz H fs (h'.map (qJg (fsf fs)))) w'):=by
 let Gc:=vGb fs G
 have hin:∀ i,i < fs.length→fsf fs i < H.length:=fun i hi=>by
  have:=hobj i hi
  have h2:hc[i]?=some hc[i]:=by simp [← hlen,hi]
  rw [h2] at this
  exact (List.getElem?_eq_some_iff.1 this).1
 have hback:Back fs.length (fsf fs) Gc G:=⟨fun _ _ h=>h,fun i b hi h=>by show (if i < fs.length then G.loc (fsf fs i) else none)=some b;rw [if_pos hi];exact h,
  fun i n x hi h=>by show (if i < fs.length then G.rt (fsf fs i) n else none)=some x;rw [if_pos hi];exact h⟩
 have hown:∀ b i,Gc.own b=some i→G.own b=some (fsf fs i)∧i < fs.length:=by
  intro b i hb
  have hb':(match G.own b with | some j=>fs.idxOf? j | none=>none)=some i:=hb
  split at hb'
  ·rename_i j hj
   obtain ⟨h1,h2⟩:=idxOf_some hb'
   exact ⟨by rw [hj,h2],h1⟩
  ·cases hb'
 have hown2:∀ b i,i < fs.length→G.own b=some (fsf fs i)→Gc.own b=some i:=by
  intro b i hi hb
  show (match G.own b with | some j=>fs.idxOf? j | none=>none)=some i
  rw [hb];exact idxOf_at hnd hi
 have htabc:TabOk w Gc:=⟨E.tab.1.mono hw.le.imm,hw.tabB fun b hb=>by show (match G.own b with | some j=>fs.idxOf? j | none=>none)=none;rw [hb]⟩
 have hwc:WRel ⟨w,Gc,htabc,[]⟩ Gc hc w:=by
  refine ⟨.refl _,hw.imm,fun a v h=>.inl h,fun _ _=>rfl,Nat.le_refl _,rfl,rfl,rfl,fun b i hb=>?_,fun i hi=>?_,fun i ob hi=>?_⟩
  ·obtain ⟨h1,h2⟩:=hown b i hb
   exact ⟨(hw.own b _ h1).1,fun hk=>by have hk2:Gc.own b=none:=hk.2;rw [hb] at hk2;cases hk2⟩
  ·exact ⟨by show (if i < fs.length then _ else none)=none;rw [if_neg (by omega)],fun n=>by show (if i < fs.length then _ else none)=none;rw [if_neg (by omega)]⟩
  ·have hil:i < fs.length:=by rw [hlen];exact (List.getElem?_eq_some_iff.1 hi).1
   have hH:=hobj i hil
   rw [hi] at hH
   simp only [Option.map_some] at hH
   have hlo:=lowH_at hlow hi
   have hob:=hw.obj _ _ hH
   cases ob with
   | dead=>trivial
   | room=>exact ⟨by show (if i < fs.length then G.loc (fsf fs i) else none)=none;rw [if_pos hil];exact hob.1,fun n=>by show (if i < fs.length then G.rt (fsf fs i) n else none)=none;rw [if_pos hil];exact hob.2 n⟩
   | opq R =>
    obtain ⟨b,S,h1,h2,h3,h4,h5,h6⟩:=hob
    exact ⟨b,S,hback.loc i b hil h1,h2,fun n=>by show (if i < fs.length then G.rt (fsf fs i) n else none)=none;rw [if_pos hil];exact h3 n,fun k hk=>⟨hown2 k i hil (h4 k hk).1,(h4 k hk).2⟩,h5,h6⟩
   | row cells =>
    obtain ⟨b,h1,h2,h3,h4⟩:=hob
    refine ⟨b,hback.loc i b hil h1,hown2 b i hil h2,fun j c hj=>?_,h4.1,fun n=>by show (if i < fs.length then G.rt (fsf fs i) n else none)=none;rw [if_pos hil];exact h4.2 n⟩
    obtain ⟨v,q1,q2,q3,q4⟩:=h3 j (ren (fsf fs) c) (by rw [renL_at,hj];rfl)
    exact ⟨v,q1,q2,q3.back hback c rfl (lowL_at hlo hj),q4⟩
   | buf sz n cells =>
    obtain ⟨a,cap,h1,h2,h3⟩:=hob
    refine ⟨a,cap,hback.rt i n _ hil h1,fun n' hn=>by show (if i < fs.length then G.rt (fsf fs i) n' else none)=none;rw [if_pos hil];exact h2 n' hn,
     h3.trans (by rw [renL_length]) (fun b hb=>⟨hown2 _ i hil hb,rfl,fun x _ hn=>hn⟩) (fun j c hj=>⟨ren (fsf fs) c,by rw [renL_at,hj];rfl,fun v hv=>hv.back hback c rfl (lowL_at hlo hj)⟩)⟩
   | right sz n =>
    obtain ⟨a,cap,h1,h2,h3,h4⟩:=hob
    refine ⟨a,cap,hback.rt i n _ hil h1,h2,fun n' hn=>?_,fun hlt=>?_⟩
    ·show (if i < fs.length then G.rt (fsf fs i) n' else none)=none
     rw [if_pos hil];exact h3 n' hn
    ·obtain ⟨p,p1,p2,p3,p4⟩:=h4 hlt
     exact ⟨p,p1,p2,hown2 _ i hil p3,p4⟩
 subst hargs'
 have hcall:=S.2 Gc w vals (by rw [hvs,renL_length]) (fun j x v hx hv=>(hr j (ren (fsf fs) x) v (by rw [renL_at,hx];rfl) hv).back hback x rfl (lowL_at hla hx)) htabc hwc
 refine hcall.mono ?_
 rintro e w' ⟨v,r,h',Gc',rfl,hQ,hl',hlr,hlh,hrv,hw'⟩
 have hKc:∀ b,b < w.heap.size→Gc.own b=none→(⟨w,Gc,htabc,[]⟩:Env).K b:=fun b h1 h2=>⟨h1,h2⟩
 have hEK:∀ b,¬ (⟨w,Gc,htabc,[]⟩:Env).K b→¬ E.K b:=by
  intro b hnk hk
  have hb:b < w.heap.size:=Nat.lt_of_lt_of_le hk.1 hw.size
  cases ho:Gc.own b with
  | none=>exact hnk (hKc b hb ho)
  | some i=>exact (hw.own b _ (hown b i ho).1).2 hk
 have hEKc:∀ b,E.K b→(⟨w,Gc,htabc,[]⟩:Env).K b:=fun b hk=>Classical.byContradiction fun hn=>hEK b hn hk
 let G':=vGa fs G Gc'
 have hal:Alike fs.length (fsf fs) Gc' G':=⟨fun _ _ h=>h,fun i b hi h=>by
   show (match fs.idxOf? (fsf fs i) with | some i=>Gc'.loc i | none=>G.loc _)=some b
   rw [idxOf_at hnd hi];exact h,fun i n x hi h=>by
   show (match fs.idxOf? (fsf fs i) with | some i=>Gc'.rt i n | none=>G.rt _ n)=some x
   rw [idxOf_at hnd hi];exact h⟩
 have hle:G.le G':=by
  refine ⟨fun a v h=>hw'.le.imm a v h,fun j b hb=>?_,fun j n x hx=>?_,fun b j hb=>?_⟩
  ·show (match fs.idxOf? j with | some i=>Gc'.loc i | none=>G.loc j)=some b
   split
   ·rename_i i hi
    obtain ⟨h1,h2⟩:=idxOf_some hi
    subst h2
    exact hw'.le.loc i b (hback.loc i b h1 hb)
   ·exact hb
  ·show (match fs.idxOf? j with | some i=>Gc'.rt i n | none=>G.rt j n)=some x
   split
   ·rename_i i hi
    obtain ⟨h1,h2⟩:=idxOf_some hi
    subst h2
    exact hw'.le.rt i n x (hback.rt i n x h1 hx)
   ·exact hx
  ·show (match Gc'.own b with | some i=>if i < fs.length then some (fsf fs i) else G.own b | none=>G.own b)=some j
   have hbs:=(hw.own b j hb).1
   cases hix:fs.idxOf? j with
   | some i =>
    obtain ⟨h1,h2⟩:=idxOf_some hix
    subst h2
    have:=hw'.le.own b i (hown2 b i h1 hb)
    rw [this];simp [h1]
   | none =>
    have hgn:Gc.own b=none:=by
     show (match G.own b with | some j=>fs.idxOf? j | none=>none)=none
     rw [hb];exact hix
    have:Gc'.own b=none:=by
     cases ho:Gc'.own b with
     | none=>rfl
     | some i=>exact absurd (hKc b hbs hgn) (hw'.own b i ho).2
    rw [this];exact hb
 have hlen':(h'.map (qJg (fsf fs))).length=fs.length:=by simp [hl',hlen]
 refine ⟨v,r,h',G',rfl,hQ,hl',hle,hrv.alike hal (by rw [hlen];exact hlr),?_⟩
 refine ⟨hw.le.trans hle,hw'.imm,fun a v ha=>?_,fun b hb=>?_,Nat.le_trans hw.size hw'.size,hw'.os.trans hw.os,hw'.tape.trans hw.tape,hw'.output.trans hw.output,fun b j hb=>?_,fun j hj=>?_,fun j ob hj=>?_⟩
 ·rcases hw'.immNew a v ha with h1 | h1
  ·exact hw.immNew a v h1
  ·exact .inr (hEK _ h1)
 ·exact (hw'.keep b (hEKc b hb)).trans (hw.keep b hb)
 ·have hb':(match Gc'.own b with | some i=>if i < fs.length then some (fsf fs i) else G.own b | none=>G.own b)=some j:=hb
  have old:G.own b=some j→b < w'.heap.size∧¬ E.K b:=fun h=>by
   have:=hw.own b j h;exact ⟨Nat.lt_of_lt_of_le this.1 hw'.size,this.2⟩
  split at hb'
  ·rename_i i hi
   split at hb'
   ·have:=hw'.own b i hi
    exact ⟨this.1,hEK b this.2⟩
   ·exact old hb'
  ·exact old hb'
 ·rw [updH_length] at hj
  have hf:=hw.fresh j hj
  have hno:fs.idxOf? j=none:=by
   cases hix:fs.idxOf? j with
   | none=>rfl
   | some i=>obtain ⟨h1,h2⟩:=idxOf_some hix;have:=hin i h1;omega
  refine ⟨?_,fun n=>?_⟩
  ·show (match fs.idxOf? j with | some i=>Gc'.loc i | none=>G.loc j)=none
   rw [hno];exact hf.1
  ·show (match fs.idxOf? j with | some i=>Gc'.rt i n | none=>G.rt j n)=none
   rw [hno];exact hf.2 n
 ·cases hix:fs.idxOf? j with
  | some i =>
   obtain ⟨h1,h2⟩:=idxOf_some hix
   subst h2
   obtain ⟨o',ho'⟩:∃ o',h'[i]?=some o':=⟨h'[i]'(by omega),by simp [show i < h'.length by omega]⟩
   rw [updH_at fs _ H i (qJg (fsf fs) o') hnd (by simp [ho']) h1 (hin i h1)] at hj
   cases hj
   have hob:=hw'.obj i o' ho'
   have hlo:=lowH_at hlh ho'
   have hown':∀ b,Gc'.own b=some i→G'.own b=some (fsf fs i):=fun b hb=>by
    show (match Gc'.own b with | some i=>if i < fs.length then some (fsf fs i) else G.own b | none=>G.own b)=_
    rw [hb];simp [h1]
   cases o' with
   | dead=>trivial
   | room =>
    refine ⟨?_,fun n=>?_⟩
    ·show (match fs.idxOf? (fsf fs i) with | some i=>Gc'.loc i | none=>G.loc _)=none
     rw [idxOf_at hnd h1];exact hob.1
    ·show (match fs.idxOf? (fsf fs i) with | some i=>Gc'.rt i n | none=>G.rt _ n)=none
     rw [idxOf_at hnd h1];exact hob.2 n
   | opq R =>
    obtain ⟨b,S,q1,q2,q3,q4,q5,q6⟩:=hob
    exact ⟨b,S,hal.loc i b h1 q1,q2,fun n=>by show (match fs.idxOf? (fsf fs i) with | some i=>Gc'.rt i n | none=>G.rt _ n)=none;rw [idxOf_at hnd h1];exact q3 n,fun k hk=>⟨hown' k (q4 k hk).1,(q4 k hk).2⟩,q5,q6⟩
   | row cells =>
    obtain ⟨b,q1,q2,q3,q4⟩:=hob
    refine ⟨b,hal.loc i b h1 q1,hown' b q2,fun k c hk=>?_,q4.1,fun n=>by show (match fs.idxOf? (fsf fs i) with | some i=>Gc'.rt i n | none=>G.rt _ n)=none;rw [idxOf_at hnd h1];exact q4.2 n⟩
    rw [renL_at,Option.map_eq_some_iff] at hk
    obtain ⟨c',hc',rfl⟩:=hk
    obtain ⟨u,u1,u2,u3,u4⟩:=q3 k c' hc'
    exact ⟨u,u1,u2,u3.alike hal (by rw [hlen];exact lowL_at hlo hc'),u4⟩
   | buf sz n cells =>
    obtain ⟨a,cap,q1,q2,q3⟩:=hob
    refine ⟨a,cap,hal.rt i n _ h1 q1,fun n' hn=>by show (match fs.idxOf? (fsf fs i) with | some i=>Gc'.rt i n' | none=>G.rt _ n')=none;rw [idxOf_at hnd h1];exact q2 n' hn,
     q3.trans (by rw [renL_length]) (fun b hb=>⟨hown' _ hb,rfl,fun x _ hn=>hn⟩) (fun j c hj=>?_)⟩
    rw [renL_at,Option.map_eq_some_iff] at hj
    obtain ⟨c',hc',rfl⟩:=hj
    exact ⟨c',hc',fun v hv=>hv.alike hal (by rw [hlen];exact lowL_at hlo hc')⟩
   | right sz n =>
    obtain ⟨a,cap,q1,q2,q3,q4⟩:=hob
    refine ⟨a,cap,hal.rt i n _ h1 q1,q2,fun n' hn=>?_,fun hlt=>?_⟩
    ·show (match fs.idxOf? (fsf fs i) with | some i=>Gc'.rt i n' | none=>G.rt _ n')=none
     rw [idxOf_at hnd h1];exact q3 n' hn
    ·obtain ⟨p,p1,p2,p3,p4⟩:=q4 hlt
     exact ⟨p,p1,p2,hown' _ p3,p4⟩
  | none =>
   have hnm:j∉fs:=by rw [List.idxOf?_eq_none_iff] at hix;exact hix
   rw [updH_other fs _ H j hnm] at hj
   refine (hw.obj j ob hj).keep hle (fun b hb=>?_) (fun n hn=>?_) (fun hn=>by show (match fs.idxOf? j with | some i=>Gc'.loc i | none=>G.loc j)=none;rw [hix];exact hn)
   ·have hbs:=(hw.own b j hb).1
    have hgn:Gc.own b=none:=by
     show (match G.own b with | some j=>fs.idxOf? j | none=>none)=none
     rw [hb];exact hix
    have hk:=hKc b hbs hgn
    refine ⟨hw'.keep b hk,fun a ha=>?_⟩
    cases hga:Gc'.imm a with
    | none =>
     show Gc'.imm a=G.imm a
     rw [hga]
     cases hg:G.imm a with
     | none=>rfl
     | some v=>have:=hw'.le.imm a v hg;rw [hga] at this;cases this
    | some v =>
     show Gc'.imm a=G.imm a
     rcases hw'.immNew a v hga with h1 | h1
     ·rw [hga];exact h1.symm
     ·exact absurd (ha▸hk) h1
   ·show (match fs.idxOf? j with | some i=>Gc'.rt i n | none=>G.rt j n)=none
    rw [hix];exact hn
end Tdoc
namespace Tdoc
open Go
mutual
theorem qKx (f:Nat→Nat):∀ (x:AV),low 0 x=true→ren f x=x
 | .d x,_=>rfl
 | .sl sz es tok,h=>by cases tok <;> first | rfl | (simp [low,vIw] at h)
 | .nils,_=>rfl
 | .ptr i off,h=>by simp [low] at h
 | .iptr cs,_=>rfl
 | .nilp,_=>rfl
 | .row i off n cap,h=>by simp [low] at h
 | .bm i n,h=>by simp [low] at h
 | .bp i n m,h=>by simp [low] at h
 | .fn g a b,h=>by simp [low] at h;simp [ren,renL_low f a h.1,renL_low f b h.2]
 | .nilf,_=>rfl
 | .mp i,h=>by simp [low] at h
 | .pv i b,h=>by simp [low] at h
 | .pb b,_=>rfl
 | .rx i off n,h=>by simp [low] at h
 | .ifc _,_=>rfl
 | .ifa t v,h=>by simp [low] at h;simp [ren,qKx f v h]
 | .agg cs,h=>by simp [low] at h;simp [ren,renL_low f cs h]
 | .tup vs,h=>by simp [low] at h;simp [ren,renL_low f vs h]
 | .gd b v,h=>by simp [low] at h;simp [ren,qKx f v h]
 | .any,_=>rfl
theorem renL_low (f:Nat→Nat):∀ (l:List AV),qBl 0 l=true→qHv f l=l
 | [],_=>rfl
 | a::l,h=>by simp [qBl] at h;simp [qHv,qKx f a h.1,renL_low f l h.2]
end
mutual
theorem qNs {k k':Nat} (hk:k≤k'):∀ (x:AV),low k x=true→low k' x=true
 | .d x,_=>rfl
 | .sl sz es tok,h=>by
  cases tok with
  | right i=>have:=qCc (a:=i) (b:=k) h;simp [low,vIw];omega
  | none=>rfl
  | full=>rfl
 | .nils,_=>rfl
 | .ptr i off,h=>by have:=qCc (a:=i) (b:=k) h;simp [low];omega
 | .iptr cs,_=>rfl
 | .nilp,_=>rfl
 | .row i off n cap,h=>by have:=qCc (a:=i) (b:=k) h;simp [low];omega
 | .bm i n,h=>by have:=qCc (a:=i) (b:=k) h;simp [low];omega
 | .bp i n m,h=>by have:=qCc (a:=i) (b:=k) h;simp [low];omega
 | .fn g a b,h=>by simp [low] at h;simp [low,lowL_mono hk a h.1,lowL_mono hk b h.2]
 | .nilf,_=>rfl
 | .mp i,h=>by have:=qCc (a:=i) (b:=k) h;simp [low];omega
 | .pv i b,h=>by have:=qCc (a:=i) (b:=k) h;simp [low];omega
 | .pb b,_=>rfl
 | .rx i off n,h=>by have:=qCc (a:=i) (b:=k) h;simp [low];omega
 | .ifc _,_=>rfl
 | .ifa t v,h=>by simp [low] at h;simp [low,qNs hk v h]
 | .agg cs,h=>by simp [low] at h;simp [low,lowL_mono hk cs h]
 | .tup vs,h=>by simp [low] at h;simp [low,lowL_mono hk vs h]
 | .gd b v,h=>by simp [low] at h;simp [low,qNs hk v h]
 | .any,_=>rfl
theorem lowL_mono {k k':Nat} (hk:k≤k'):∀ (l:List AV),qBl k l=true→qBl k' l=true
 | [],_=>rfl
 | a::l,h=>by simp [qBl] at h;simp [qBl,qNs hk a h.1,lowL_mono hk l h.2]
end
theorem lowL_d {k:Nat}:∀ (l:List Dat),qBl k (l.map .d)=true
 | []=>rfl
 | a::l=>by simp [qBl,low,lowL_d l]
theorem renO_low (f:Nat→Nat) (o:AObj) (h:vGx 0 o=true):qJg f o=o:=by
 cases o with
 | row cells=>simp [qJg,renL_low f cells h]
 | buf sz n cells=>simp [qJg,renL_low f cells h]
 | right sz n=>rfl
 | dead=>rfl
 | room=>rfl
 | opq R=>rfl
theorem renH_low (f:Nat→Nat):∀ (l:List AObj),qCn 0 l=true→l.map (qJg f)=l
 | [],_=>rfl
 | a::l,h=>by simp [qCn] at h;simp [renO_low f a h.1,renH_low f l h.2]
section
variable {P:Program} {E:Env}
theorem vGd {o:Oper} {ρ:Operand→AV} {H:List AObj} {f:Operand} {as:List Operand} {ats:Array TypeId} {g:FuncId} {first cap:List AV} (ho:o.op=.call ⟨.value f,as.toArray,ats⟩) (hf:ρ f=.fn (.func g) first cap)
  {args:List AV} {hc:List AObj} {Q:AV→List AObj→Prop} (S:Spec P g args hc Q) (fs:List Nat) (hnd:fs.Nodup)
  (hobj:fs.map (fun j=>H[j]?)=hc.map (fun o=>some (qJg (fsf fs) o))) (hlow:qCn fs.length hc=true) (hargs:first++(as.map ρ++cap)=qHv (fsf fs) args) (hla:qBl fs.length args=true) :
  OpR P E o ρ H (fun v H'=>∃ r h',Q r h'∧h'.length=hc.length∧v=ren (fsf fs) r∧H'=qFz H fs (h'.map (qJg (fsf fs)))):=by
 intro G a w hw hr
 have hlen:fs.length=hc.length:=by have:=congrArg List.length hobj;simpa using this
 have hobj':∀ i,i < fs.length→H[fsf fs i]?=(hc[i]?).map (qJg (fsf fs)):=by
  intro i hi
  have h1:=congrArg (fun l=>l[i]?) hobj
  simp only [List.getElem?_map] at h1
  have h2:fs[i]?=some (fsf fs i):=by unfold fsf;rw [List.getD_eq_getElem?_getD,List.getElem?_eq_getElem hi];rfl
  have h3:hc[i]?=some (hc[i]'(by omega)):=by simp [show i < hc.length by omega]
  rw [h2,h3] at h1
  simp only [Option.map_some,Option.some.injEq] at h1
  rw [h1,h3];rfl
 have hf':RepA G (ρ f) (a.eval f):=hr f (by simp [ho,Op.operands,Call.operands])
 have has:∀ x,x∈as→RepA G (ρ x) (a.eval x):=fun x hx=>hr x (by simp [ho,Op.operands,Call.operands,hx])
 rw [hf] at hf'
 generalize hfv:a.eval f=fv at hf'
 cases hf' with
 | fn _ fvs cvs h1 h2 h3 h4 =>
 obtain ⟨fn,k1,k2,k3⟩:=S.1
 have k2':¬ fn.name = "runtime.NumGoroutine" := by simpa using k2
 have k3':¬ fn.body=none:=by intro hh;rw [hh] at k3;cases k3
 have hrun:(execOp a.eval o).run P w=.ok (.enter g (fvs++(as.map a.eval).toArray++cvs)) w:=by
  unfold execOp
  simp [ho,resolve,hfv,Deferred.ofValue,invoke,callFunc,k1,k2',k3']
 unfold Oper.wp
 rw [hrun]
 have hcf:=qXl S hnd hlen hobj' hlow hargs hla hw (vals:=fvs++(as.map a.eval).toArray++cvs) (by simp [h1,h2]) (fun j x v hx hv=>by
  rw [← List.append_assoc] at hx
  have hv':(fvs.toList++(as.map a.eval)++cvs.toList)[j]?=some v:=by
   rw [← Array.getElem?_toList] at hv
   simpa using hv
  by_cases hj1:j < first.length
  ·rw [List.append_assoc,List.getElem?_append_left (by simpa using hj1)] at hx
   rw [List.append_assoc,List.getElem?_append_left (by simp [h1];exact hj1)] at hv'
   exact h3 j x v hx (by simpa using hv')
  ·by_cases hj2:j < first.length+as.length
   ·rw [List.getElem?_append_left (by simp;omega),List.getElem?_append_right (by omega)] at hx
    rw [List.getElem?_append_left (by simp [h1];omega),List.getElem?_append_right (by simp [h1];omega)] at hv'
    simp only [Array.length_toList,h1] at hv'
    rw [List.getElem?_map,Option.map_eq_some_iff] at hx hv'
    obtain ⟨y,hy,rfl⟩:=hx
    obtain ⟨z,hz,rfl⟩:=hv'
    rw [hy] at hz;cases hz
    exact has y (List.mem_of_getElem? hy)
   ·rw [List.getElem?_append_right (by simp;omega)] at hx
    rw [List.getElem?_append_right (by simp [h1];omega)] at hv'
    simp only [List.length_append,Array.length_toList,h1,List.length_map] at hx hv'
    exact h4 _ x v hx (by simpa using hv'))
 refine hcf.mono ?_
 rintro e w' ⟨v,r,h',G',rfl,q1,q2,q3,q4,q5⟩
 exact ⟨v,G',ren (fsf fs) r,_,⟨r,h',q1,q2,rfl,rfl⟩,rfl,q3,q5,q4⟩
theorem qFd {o:Oper} {ρ:Operand→AV} {H:List AObj} {f:Operand} {as:List Operand} {ats:Array TypeId} {g:FuncId} {first cap:List AV} (ho:o.op=.call ⟨.value f,as.toArray,ats⟩) (hf:ρ f=.fn (.func g) first cap)
  {args:List AV} {hc h0:List AObj} {r0:AV} (S:Spec P g args hc (fun r h'=>r=r0∧h'=h0)) (fs:List Nat) (hnd:fs.Nodup)
  (hobj:fs.map (fun j=>H[j]?)=hc.map (fun o=>some (qJg (fsf fs) o))) (hlow:qCn fs.length hc=true) (hargs:first++(as.map ρ++cap)=qHv (fsf fs) args) (hla:qBl fs.length args=true)
  {v:AV} {H':List AObj} (hv:ren (fsf fs) r0=v) (hH:qFz H fs (h0.map (qJg (fsf fs)))=H'):OpS P E o ρ H v H':=by
 intro G a w hw hr
 refine qFi ?_ (vGd ho hf S fs hnd hobj hlow hargs hla G a w hw hr)
 rintro a' w' ⟨u,G',v',h',⟨r,h'',⟨rfl,rfl⟩,k2,rfl,rfl⟩,h1,h2,h3,h4⟩
 subst hv;subst hH
 exact ⟨u,G',h1,h2,h3,h4⟩
theorem qCf {o:Oper} {ρ:Operand→AV} {H:List AObj} {f:Operand} {as:List Operand} {ats:Array TypeId} {g:FuncId} {first cap:List AV} (ho:o.op=.call ⟨.value f,as.toArray,ats⟩) (hf:ρ f=.fn (.func g) first cap)
  {args:List AV} {r0:AV} (S:Spec P g args [] (fun r h'=>r=r0∧h'=[])) (hargs:first++(as.map ρ++cap)=args) (hla:qBl 0 args=true) (hr0:low 0 r0=true):OpS P E o ρ H r0 H :=
 qFd ho hf S [] (List.nodup_nil) rfl rfl (by rw [hargs,renL_low _ _ hla]) hla (qKx _ _ hr0) rfl
def AV.le (x y:AV):Prop:=∀ G v,RepA G x v→RepA G y v
theorem AV.le.refl (x:AV):AV.le x x:=fun _ _ h=>h
theorem AV.le.any (x:AV):AV.le x .any:=fun _ v _=>.any v
theorem AV.le.eq {x y:AV} (h:x=y):AV.le x y:=h▸AV.le.refl x
theorem AV.le.dat {sz:Nat} {es:List (List Dat)} {tok:Tok}:AV.le (.sl sz es tok) (.d (.sl sz es)):=fun _ _ h=>by cases h with | sl r _=>exact .d r
theorem AV.le.nils {sz:Nat}:AV.le .nils (.d (.sl sz [])):=fun _ _ h=>by cases h;exact .d (.nil sz)
theorem AV.le.nilsf {sz:Nat}:AV.le .nils (.sl sz [] .full):=fun _ _ h=>by cases h;exact .sl (.nil sz) ⟨none,rfl,fun p hp=>by cases hp⟩
theorem AV.le.trans {x y z:AV} (h:AV.le x y) (k:AV.le y z):AV.le x z:=fun G v r=>k G v (h G v r)
def AllLe:List AV→List AV→Prop
 | [],[]=>True
 | x::l,y::r=>AV.le x y∧AllLe l r
 | _,_=>False
theorem qFu:∀ {l r:List AV},AllLe l r→l.length=r.length∧∀ (j:Nat) (y:AV),r[j]?=some y→∃ x,l[j]?=some x∧AV.le x y
 | [],[],_=>⟨rfl,fun j y h=>by simp at h⟩
 | x::l,y::r,h=>by
  obtain ⟨h1,h2⟩:=qFu h.2
  refine ⟨by simp [h1],fun j z hz=>?_⟩
  cases j with
  | zero=>simp at hz;subst hz;exact ⟨x,by simp,h.1⟩
  | succ j=>obtain ⟨u,hu,hl⟩:=h2 j z (by simpa using hz);exact ⟨u,by simpa using hu,hl⟩
 | [],_::_,h=>h.elim
 | _::_,[],h=>h.elim
theorem AllLe.refl:∀ (l:List AV),AllLe l l
 | []=>trivial
 | x::l=>⟨.refl x,AllLe.refl l⟩
theorem AV.le.agg {l r:List AV} (h:AllLe l r):AV.le (.agg l) (.agg r):=by
 intro G v hv
 obtain ⟨h1,h2⟩:=qFu h
 generalize hx:AV.agg l=x at hv
 cases hv <;> cases hx
 rename_i vs k3 k1 k2
 refine .agg vs (by rw [k1,h1]) (fun j y u hy hu=>?_) k3
 obtain ⟨x,hx,hl⟩:=h2 j y hy
 exact hl _ _ (k2 j x u hx hu)
theorem AV.le.tup {l r:List AV} (h:AllLe l r):AV.le (.tup l) (.tup r):=by
 intro G v hv
 obtain ⟨h1,h2⟩:=qFu h
 generalize hx:AV.tup l=x at hv
 cases hv <;> cases hx
 rename_i vs k1 k2
 refine .tup vs (by rw [k1,h1]) (fun j y u hy hu=>?_)
 obtain ⟨x,hx,hl⟩:=h2 j y hy
 exact hl _ _ (k2 j x u hx hu)
def SubL (τ:Nat→AV):List (Nat×AV)→Prop
 | []=>True
 | p::l=>AV.le (τ p.1) p.2∧SubL τ l
theorem qQs {τ:Nat→AV}:∀ {l:List (Nat×AV)},SubL τ l→∀ t,AV.le (τ t) (look l t)
 | [],_,t=>.any _
 | (d,v)::l,h,t=>by
  show AV.le (τ t) (bif Nat.beq t d then v else look l t)
  cases hb:Nat.beq t d with
  | true=>obtain rfl:=Nat.eq_of_beq_eq_true hb;exact h.1
  | false=>exact qQs h.2 t
def ObLe:AObj→AObj→Prop
 | .row l,.row r=>AllLe l r
 | .buf sz n l,.buf sz' n' r=>sz=sz'∧n=n'∧AllLe l r
 | .right sz n,.right sz' n'=>sz=sz'∧n=n'
 | _,.dead=>True
 | .room,.room=>True
 | .opq R,.opq R'=>R=R'
 | _,_=>False
def HLe:List AObj→List AObj→Prop
 | [],[]=>True
 | x::l,y::r=>ObLe x y∧HLe l r
 | _,_=>False
theorem vAp:∀ {l r:List AObj},HLe l r→l.length=r.length∧∀ (j:Nat) (y:AObj),r[j]?=some y→∃ x,l[j]?=some x∧ObLe x y
 | [],[],_=>⟨rfl,fun j y h=>by simp at h⟩
 | x::l,y::r,h=>by
  obtain ⟨h1,h2⟩:=vAp h.2
  refine ⟨by simp [h1],fun j z hz=>?_⟩
  cases j with
  | zero=>simp at hz;subst hz;exact ⟨x,by simp,h.1⟩
  | succ j=>obtain ⟨u,hu,hl⟩:=h2 j z (by simpa using hz);exact ⟨u,by simpa using hu,hl⟩
 | [],_::_,h=>h.elim
 | _::_,[],h=>h.elim
theorem ObLe.refl (o:AObj):ObLe o o:=by cases o <;> simp [ObLe,AllLe.refl]
theorem HLe.refl:∀ (h:List AObj),HLe h h
 | []=>trivial
 | o::l=>⟨ObLe.refl o,HLe.refl l⟩
theorem ObjRel.le {G:Gh} {w:World} {i:Nat} {o o':AObj} (h:ObLe o o') (hr:ObjRel G w i o):ObjRel G w i o':=by
 cases o' with
 | dead=>trivial
 | row r =>
  cases o with
  | row l =>
   obtain ⟨b,h1,h2,h3,h4⟩:=hr
   refine ⟨b,h1,h2,fun j c hj=>?_,h4⟩
   obtain ⟨x,hx,hl⟩:=(qFu h).2 j c hj
   obtain ⟨v,q1,q2,q3,q4⟩:=h3 j x hx
   exact ⟨v,q1,q2,hl _ _ q3,q4⟩
  | _=>exact h.elim
 | buf sz n r =>
  cases o with
  | buf sz' n' l =>
   obtain ⟨rfl,rfl,h⟩:=h
   obtain ⟨a,cap,h1,h2,h3⟩:=hr
   refine ⟨a,cap,h1,h2,h3.trans (qFu h).1.symm (fun b hb=>⟨hb,rfl,fun x _ hn=>hn⟩) (fun j c hj=>?_)⟩
   obtain ⟨x,hx,hl⟩:=(qFu h).2 j c hj
   exact ⟨x,hx,fun v hv=>hl _ _ hv⟩
  | _=>exact h.elim
 | right sz n =>
  cases o with
  | right sz' n'=>obtain ⟨rfl,rfl⟩:=h;exact hr
  | _=>exact h.elim
 | room =>
  cases o with
  | room=>exact hr
  | _=>exact h.elim
 | opq R =>
  cases o with
  | opq R'=>obtain rfl:R'=R:=h;exact hr
  | _=>exact h.elim
theorem qFt {N:Nat} {τ:Nat→AV} {l:List (Nat×AV)} {h h':List AObj} (hs:SubL τ l) (hh:HLe h h'):∀ a w,Rel E N τ h a w→Rel E N (look l) h' a w:=by
 rintro a w ⟨h1,h2,G,hw,ht⟩
 refine ⟨h1,h2,G,⟨hw.le,hw.imm,hw.immNew,hw.keep,hw.size,hw.os,hw.tape,hw.output,hw.own,fun i hi=>hw.fresh i (by rw [(vAp hh).1];exact hi),fun i o hi=>?_⟩,fun t=>qQs hs t _ _ (ht t)⟩
 obtain ⟨x,hx,hl⟩:=(vAp hh).2 i o hi
 exact (hw.obj i x hx).le hl
def vHs (k:Nat):List (Nat×AV)→Bool
 | []=>true
 | p::l=>low k p.2&&vHs k l
theorem lowS_look {k:Nat}:∀ {l:List (Nat×AV)},vHs k l=true→∀ t,low k (look l t)=true
 | [],_,t=>rfl
 | (d,v)::l,h,t=>by
  simp only [vHs,Bool.and_eq_true] at h
  show low k (bif Nat.beq t d then v else look l t)=true
  cases hb:Nat.beq t d with
  | true=>exact h.1
  | false=>exact lowS_look h.2 t
theorem vAl {N:Nat} {τ:Nat→AV} {l:List (Nat×AV)} {h h' junk:List AObj} (hb:E.below h'.length) (hs:SubL τ l) (hls:vHs h'.length l=true) (hh:HLe h (h'++junk)) (hlh:qCn h'.length h'=true):∀ a w,Rel E N τ h a w→Rel E N (look l) h' a w:=by
 intro a w hr
 obtain ⟨h1,h2,G,hw,ht⟩:=qFt (l:=l) hs hh a w hr
 refine ⟨h1,h2,vFw h'.length G,hw.cut hb rfl (fun i hi=>by rw [List.getElem?_append_left hi]) hlh,fun t=>(ht t).cut (lowS_look hls t)⟩
theorem Env.below_mono {k k':Nat} (h:E.below k) (hk:k≤k'):E.below k':=fun i hi=>h i (by omega)
end
theorem vDg {E:Env} {N:Nat} {τ:Nat→AV} {h:List AObj}:∀ a w,Rel E N τ h a w→Rel E N τ (h++[.room]) a w:=by
 rintro a w ⟨h1,h2,G,hw,ht⟩
 refine ⟨h1,h2,G,⟨hw.le,hw.imm,hw.immNew,hw.keep,hw.size,hw.os,hw.tape,hw.output,hw.own,fun i hi=>hw.fresh i (by simp at hi;omega),fun i o hi=>?_⟩,ht⟩
 by_cases hlt:i < h.length
 ·rw [List.getElem?_append_left hlt] at hi;exact hw.obj i o hi
 ·rw [List.getElem?_append_right (by omega)] at hi
  have hi0:i-h.length=0:=by have:=(List.getElem?_eq_some_iff.1 hi).1;simp at this;omega
  rw [hi0] at hi
  simp at hi
  subst hi
  exact hw.fresh i (by omega)
def vGy (G:Gh) (i n:Nat) (p:Option Addr):Gh :=
 { G with rt:=fun j m=>if j=i∧m=n then some (p,n) else G.rt j m }
theorem WRel.acquire {E:Env} {G:Gh} {h:List AObj} {w:World} {i sz:Nat} {es:List (List Dat)} {p:Option Addr} (hw:WRel E G h w) (hi:h[i]?=some .room) (hrep:RepD G.imm (.sl sz es) (.slice p es.length es.length)) :
  G.le (vGy G i es.length p)∧WRel E (vGy G i es.length p) (h.set i (.right sz es.length)) w∧RepA (vGy G i es.length p) (.sl sz es (.right i)) (.slice p es.length es.length):=by
 have hro:=hw.obj i _ hi
 have hle:G.le (vGy G i es.length p):=⟨fun _ _ x=>x,fun _ _ x=>x,fun j m x hx=>by
  show (if j=i∧m=es.length then _ else G.rt j m)=some x
  rw [if_neg (by rintro ⟨rfl,rfl⟩;rw [hro.2] at hx;cases hx)];exact hx,fun _ _ x=>x⟩
 refine ⟨hle,⟨hw.le.trans hle,hw.imm,hw.immNew,hw.keep,hw.size,hw.os,hw.tape,hw.output,hw.own,fun j hj=>?_,fun j o hj=>?_⟩,.sl (hrep.mono hle.imm) ⟨p,es.length,rfl,?_⟩⟩
 ·simp only [List.length_set] at hj
  have:=hw.fresh j hj
  have hil:=(List.getElem?_eq_some_iff.1 hi).1
  exact ⟨this.1,fun n=>by show (if j=i∧n=es.length then _ else G.rt j n)=none;rw [if_neg (by omega)];exact this.2 n⟩
 ·rw [List.getElem?_set] at hj
  split at hj
  ·rename_i e;subst e
   split at hj
   ·cases hj
    refine ⟨p,es.length,?_,Nat.le_refl _,fun n' hn=>?_,fun hlt=>by omega⟩
    ·show (if i=i∧es.length=es.length then _ else _)=_;simp
    ·show (if i=i∧n'=es.length then _ else G.rt i n')=none
     rw [if_neg (by omega)];exact hro.2 n'
   ·cases hj
  ·rename_i e
   refine (hw.obj j o hj).keep hle (fun b _=>⟨rfl,fun _ _=>rfl⟩) (fun n hn=>?_) (fun hn=>hn)
   show (if j=i∧n=es.length then _ else G.rt j n)=none
   rw [if_neg (by rintro ⟨rfl,_⟩;exact e rfl)];exact hn
 ·show (if i=i∧es.length=es.length then _ else _)=_;simp
open Classical in
theorem qLp {P:Program} {E:Env} {T:Tr} {o:Oper} {ρ:Operand→AV} {h:List AObj} (hT:TOk P T) {t t2 sz by_ i:Nat} {s x:Operand} {es es2:List (List Dat)} (ho:o.op=.call { callee:=.builtin .append,args:=#[s,x],argTypes:=#[t,t2] })
  (ht:vAg T t=some (sz,by_)) (ht2:qYk T t2=true) (hs:ρ s=.sl sz es .full∨(ρ s=.nils∧es=[])) (hsx:s≠x) (hi:h[i]?=some .room) (hx:qKb sz (ρ x)=some es2)
  (hb:(es.length+es2.length)*(by_+1)≤140737488355328) :
  OpS P E o ρ h (.sl sz (es++es2) (.right i)) (h.set i (.right sz (es.length+es2.length))):=by
 intro G a w hw hr
 have hs':RepA G (ρ s) (a.eval s):=hr s (by simp [ho,Op.operands,Call.operands])
 obtain ⟨p,hv',hrep⟩:∃ p,a.eval s=.slice p es.length es.length∧RepD G.imm (.sl sz es) (a.eval s):=by
  rcases hs with ht | ⟨ht,rfl⟩
  ·rw [ht] at hs'
   generalize a.eval s=u at hs'
   cases hs' with
   | sl r k=>obtain ⟨p,rfl,_⟩:=k;exact ⟨p,rfl,r⟩
  ·rw [ht] at hs'
   generalize a.eval s=u at hs'
   cases hs'
   exact ⟨none,rfl,.nil _⟩
 rw [hv'] at hrep
 obtain ⟨hle,hw1,hrs⟩:=hw.acquire hi hrep
 have hil:=(List.getElem?_eq_some_iff.1 hi).1
 have hstep:=qEp (P:=P) (E:=E) (T:=T) (o:=o) (ρ:=fun y=>if y=s then .sl sz es (.right i) else ρ y) (h:=h.set i (.right sz es.length)) hT ho ht ht2 (if_pos rfl) (by simp [hil])
  (by show qKb sz (if x=s then _ else ρ x)=some es2;rw [if_neg (fun hh=>hsx hh.symm)];exact hx) hb
 have:=hstep (vGy G i es.length p) a w hw1 (fun y hy=>by
  show RepA _ (if y=s then _ else ρ y) _
  split
  ·rename_i e;subst e;rw [hv'];exact hrs
  ·exact (hr y hy).mono hle)
 refine qFi ?_ this
 rintro a' w' ⟨u,G',k1,k2,k3,k4⟩
 refine ⟨u,G',k1,hle.trans k2,?_,k4⟩
 rwa [List.set_set] at k3
theorem qOl {E:Env} {N:Nat} {l:List (Nat×AV)} {h:List AObj} {t sz i:Nat} {es:List (List Dat)} (ht:look l t=.sl sz es .full∨(look l t=.nils∧es=[])) (hi:h[i]?=some .room) :
  ∀ a w,Rel E N (look l) h a w→Rel E N (look ((t,.sl sz es (.right i))::l)) (h.set i (.right sz es.length)) a w:=by
 rintro a w ⟨h1,h2,G,hw,hr⟩
 have hv:=hr t
 obtain ⟨p,hv',hrep⟩:∃ p,a.tmps.getD t undef=.slice p es.length es.length∧RepD G.imm (.sl sz es) (a.tmps.getD t undef):=by
  rcases ht with ht | ⟨ht,rfl⟩
  ·rw [ht] at hv
   generalize a.tmps.getD t undef=u at hv
   cases hv with
   | sl r k=>obtain ⟨p,rfl,_⟩:=k;exact ⟨p,rfl,r⟩
  ·rw [ht] at hv
   generalize a.tmps.getD t undef=u at hv
   cases hv
   exact ⟨none,rfl,.nil _⟩
 rw [hv'] at hrep
 obtain ⟨hle,hw1,hrs⟩:=hw.acquire hi hrep
 refine ⟨h1,h2,_,hw1,fun t'=>?_⟩
 show RepA _ (bif Nat.beq t' t then _ else look l t') _
 cases hb:Nat.beq t' t with
 | true =>
  obtain rfl:=Nat.eq_of_beq_eq_true hb
  rw [hv'];exact hrs
 | false=>exact (hr t').mono hle
theorem qLj {k i:Nat} (h:i < k):fsf (List.range k) i=i:=by
 unfold fsf
 rw [List.getD_eq_getElem?_getD,List.getElem?_range h];rfl
mutual
theorem qKg {k:Nat} {f:Nat→Nat} (hf:∀ i,i < k→f i=i):∀ (x:AV),low k x=true→ren f x=x
 | .d x,_=>rfl
 | .sl sz es tok,h=>by
  cases tok with
  | right i=>simp [ren,vIu,hf i (qCc h)]
  | none=>rfl
  | full=>rfl
 | .nils,_=>rfl
 | .ptr i off,h=>by simp [ren,hf i (qCc h)]
 | .iptr cs,_=>rfl
 | .nilp,_=>rfl
 | .row i off n cap,h=>by simp [ren,hf i (qCc h)]
 | .bm i n,h=>by simp [ren,hf i (qCc h)]
 | .bp i n m,h=>by simp [ren,hf i (qCc h)]
 | .fn g a b,h=>by simp [low] at h;simp [ren,renL_lowk hf a h.1,renL_lowk hf b h.2]
 | .nilf,_=>rfl
 | .mp i,h=>by simp [ren,hf i (qCc h)]
 | .pv i b,h=>by simp [ren,hf i (qCc h)]
 | .pb b,_=>rfl
 | .rx i off n,h=>by simp [ren,hf i (qCc h)]
 | .ifc _,_=>rfl
 | .ifa t v,h=>by simp [low] at h;simp [ren,qKg hf v h]
 | .agg cs,h=>by simp [low] at h;simp [ren,renL_lowk hf cs h]
 | .tup vs,h=>by simp [low] at h;simp [ren,renL_lowk hf vs h]
 | .gd b v,h=>by simp [low] at h;simp [ren,qKg hf v h]
 | .any,_=>rfl
theorem renL_lowk {k:Nat} {f:Nat→Nat} (hf:∀ i,i < k→f i=i):∀ (l:List AV),qBl k l=true→qHv f l=l
 | [],_=>rfl
 | a::l,h=>by simp [qBl] at h;simp [qHv,qKg hf a h.1,renL_lowk hf l h.2]
end
theorem renO_lowk {k:Nat} {f:Nat→Nat} (hf:∀ i,i < k→f i=i) (o:AObj) (h:vGx k o=true):qJg f o=o:=by
 cases o with
 | row cells=>simp [qJg,renL_lowk hf cells h]
 | buf sz n cells=>simp [qJg,renL_lowk hf cells h]
 | right sz n=>rfl
 | dead=>rfl
 | room=>rfl
 | opq R=>rfl
theorem renH_lowk {k:Nat} {f:Nat→Nat} (hf:∀ i,i < k→f i=i):∀ (l:List AObj),qCn k l=true→l.map (qJg f)=l
 | [],_=>rfl
 | a::l,h=>by simp [qCn] at h;simp [renO_lowk hf a h.1,renH_lowk hf l h.2]
theorem updH_range (h os:List AObj) (hl:os.length=h.length):qFz h (List.range h.length) os=os:=by
 apply List.ext_getElem?
 intro j
 by_cases hj:j < h.length
 ·have ho:os[j]?=some (os[j]'(by omega)):=by simp [show j < os.length by omega]
  have:=updH_at (List.range h.length) os h j _ List.nodup_range ho (by simpa using hj) (by rw [qLj hj];exact hj)
  rw [qLj hj] at this
  rw [this,ho]
 ·rw [List.getElem?_eq_none (by rw [updH_length];omega),List.getElem?_eq_none (by omega)]
theorem qWb {P:Program} {E:Env} {o:Oper} {ρ:Operand→AV} {H:List AObj} {f:Operand} {as:List Operand} {ats:Array TypeId} {g:FuncId} {first cap:List AV} (ho:o.op=.call ⟨.value f,as.toArray,ats⟩) (hf:ρ f=.fn (.func g) first cap)
  {args:List AV} {Q:AV→List AObj→Prop} (S:Spec P g args H (fun r h'=>Q r h'∧low H.length r=true∧qCn H.length h'=true)) (hlow:qCn H.length H=true) (hargs:first++(as.map ρ++cap)=args) (hla:qBl H.length args=true):OpR P E o ρ H Q:=by
 intro G a w hw hr
 have hf':∀ i,i < H.length→fsf (List.range H.length) i=i:=fun i hi=>qLj hi
 have hobj:(List.range H.length).map (fun j=>H[j]?)=H.map (fun o=>some (qJg (fsf (List.range H.length)) o)):=by
  have h1:H.map (fun o=>some (qJg (fsf (List.range H.length)) o))=(H.map (qJg (fsf (List.range H.length)))).map some:=by simp
  rw [h1,renH_lowk hf' H hlow]
  apply List.ext_getElem?
  intro j
  by_cases hj:j < H.length
  ·simp [hj]
  ·simp [List.getElem?_eq_none (Nat.le_of_not_lt hj)]
   omega
 refine qFi ?_ (vGd ho hf S (List.range H.length) List.nodup_range hobj (by simpa using hlow) (by rw [hargs,renL_lowk hf' _ hla]) (by simpa using hla) G a w hw hr)
 rintro a' w' ⟨u,G',v',h',⟨r,h'',⟨k0,k1,k2⟩,k3,rfl,rfl⟩,h1,h2,h3,h4⟩
 rw [renH_lowk hf' h'' k2,updH_range H h'' k3] at h3
 rw [qKg hf' r k1] at h4
 exact ⟨u,G',r,h'',k0,h1,h2,h3,h4⟩
section
variable {P:Program} {E:Env} {N:Nat} {Q:Exit→(Nat→AV)→List AObj→Prop} {τ:Nat→AV} {h:List AObj}
theorem qAn {c:Code} {ι:Type} (S:ι→List (Nat×AV)) (H:ι→List AObj) (inv:ι→Prop) (μ:ι→Nat) (x0:ι) (h0:inv x0) (hs:SubL τ (S x0)) (hh:HLe h (H x0))
  (round:∀ x,inv x→AW P E N c (qPb (fun τ' h'=>∃ y,inv y∧μ y < μ x∧SubL τ' (S y)∧HLe h' (H y)) Q) (look (S x)) (H x)):AW P E N (.loop c) Q τ h :=
 vAz (fun x=>look (S x)) H inv μ x0 h0 (qFt hs hh) fun x hx=>qHn (round x hx) fun e τ' h' hq=>by
  cases e with
  | normal=>obtain ⟨y,h1,h2,h3,h4⟩:=hq;exact ⟨y,h1,h2,qFt h3 h4⟩
  | _=>exact hq
theorem qEs {c:Code} {ι:Type} (S:ι→List (Nat×AV)) (H:ι→List AObj) (inv:ι→Prop) (μ:ι→Nat) (x0:ι) (h0:inv x0) (hs:SubL τ (S x0)) (hh:HLe h (H x0))
  (round:∀ x,inv x→AW P E N c (qPb (fun τ' h'=>∃ y junk,inv y∧μ y < μ x∧SubL τ' (S y)∧HLe h' (H y++junk)∧E.below (H y).length∧vHs (H y).length (S y)=true∧qCn (H y).length (H y)=true) Q) (look (S x)) (H x)):AW P E N (.loop c) Q τ h :=
 vAz (fun x=>look (S x)) H inv μ x0 h0 (qFt hs hh) fun x hx=>qHn (round x hx) fun e τ' h' hq=>by
  cases e with
  | normal=>obtain ⟨y,junk,h1,h2,h3,h4,h5,h6,h7⟩:=hq;exact ⟨y,h1,h2,vAl h5 h3 h6 h4 h7⟩
  | _=>exact hq
theorem qAi {c:Code} {l:List (Nat×AV)} {h':List AObj} (hs:SubL τ l) (hh:HLe h h') (hc:AW P E N c Q (look l) h'):AW P E N c Q τ h:=qJt (qFt hs hh) hc
theorem qAq {c:Code} (hc:AW P E N c Q τ (h++[.room])):AW P E N c Q τ h:=qJt vDg hc
theorem qBc {c:Code} {l:List (Nat×AV)} (t sz i:Nat) {es:List (List Dat)} (ht:look l t=.sl sz es .full∨(look l t=.nils∧es=[])) (hi:h[i]?=some .room)
  (hc:AW P E N c Q (look ((t,.sl sz es (.right i))::l)) (h.set i (.right sz es.length))):AW P E N c Q (look l) h:=qJt (qOl ht hi) hc
theorem qFg {x y:Code} {ι:Type} (S:ι→List (Nat×AV)) (H:ι→List AObj) (inv:ι→Prop) (hx:AW P E N x (qPb (fun τ' h'=>∃ i,inv i∧SubL τ' (S i)∧HLe h' (H i)) Q) τ h) (hy:∀ i,inv i→AW P E N y Q (look (S i)) (H i)) :
  AW P E N (.seq x y) Q τ h:=by
 refine qAf (qHn hx fun e τ' h' hq=>?_)
 cases e with
 | normal=>obtain ⟨i,h1,h2,h3⟩:=hq;exact qAi h2 h3 (hy i h1)
 | _=>exact hq
theorem qAa {c:Operand} {x y:Code} {b:Bool} (hc:ev τ c=.d (.bool b)) (ht:b=true→AW P E N x Q τ h) (hf:b=false→AW P E N y Q τ h):AW P E N (.cond c x y) Q τ h :=
 vGr (fun G v=>ofVal_ok G v) hc ht hf
end
end Tdoc
namespace Tdoc
open Go
theorem qAh {n:Int} (h : -9223372036854775808≤n∧n≤9223372036854775807):IntKind.i64.wrap n=n:=by
 simp [IntKind.wrap,IntKind.signed,IntKind.bits];omega
theorem strAt_get {s:List UInt8} {i:Nat} (h:i < s.length):qGa s (i:Int)=(s[i].toNat:Int):=by simp [qGa,h]
theorem qKl {c d:UInt8} {k:Int} (hd:(d.toNat:Int)=k) (h:((c.toNat:Int) == k)=true):c=d:=by
 rw [beq_iff_eq,← hd] at h;exact UInt8.toNat_inj.1 (Int.ofNat_inj.1 h)
theorem qAj {T:Tr} {rs:List ResultVar} {k:Nat} {Q:AV→List AObj→Prop} {τ:Nat→AV} {h h':List AObj} {v r:AV} (h1:qWs T τ h rs=some v) (h2:AV.le v r) (h3:h'=h.take k) (h4:h'.length=k) (h5:low k r=true) (h6:qCn k h'=true) (h7:Q r h') :
  vBq T rs k Q .ret τ h:=⟨v,r,h',h1,h2,h3,h4,h5,h6,h7⟩
theorem qIs {T:Tr} {rs:List ResultVar} {k:Nat} {Q:AV→List AObj→Prop} {τ:Nat→AV} {h h':List AObj} {v r:AV} (h1:qWs T τ h rs=some v) (h2:AV.le v r) (h3:h'=h.take k) (h4:h'.length=k) (h5:low k r=true) (h6:qCn k h'=true) (h7:Q r h') :
  vBq T rs k Q .normal τ h:=⟨v,r,h',h1,h2,h3,h4,h5,h6,h7⟩
theorem lowH_mono {k k':Nat} (hk:k≤k'):∀ (l:List AObj),qCn k l=true→qCn k' l=true
 | [],_=>rfl
 | o::l,h=>by
  simp only [qCn,Bool.and_eq_true] at h ⊢
  refine ⟨?_,lowH_mono hk l h.2⟩
  cases o with
  | row cells=>exact lowL_mono hk cells h.1
  | buf sz n cells=>exact lowL_mono hk cells h.1
  | _=>rfl
theorem qAk {P:Program} {E:Env} {o:Oper} {ρ:Operand→AV} {H:List AObj} {f:Operand} {as:List Operand} {ats:Array TypeId} {g:FuncId} {first cap:List AV} (ho:o.op=.call ⟨.value f,as.toArray,ats⟩) (hf:ρ f=.fn (.func g) first cap)
  {args:List AV} {hc h0:List AObj} {r0:AV} (S:Spec P g args hc (fun r h'=>r=r0∧h'=h0)) (fs:List Nat) (hnd:fs.Nodup)
  (hobj:fs.map (fun j=>H[j]?)=hc.map some) (hargs:first++(as.map ρ++cap)=qHv (fsf fs) args) (hla:qBl fs.length args=true) (hlow:qCn 0 hc=true) (hlow':qCn 0 h0=true) (hr0:ren (fsf fs) r0=r0)
  {H':List AObj} (hH:qFz H fs h0=H'):OpS P E o ρ H r0 H' :=
 qFd ho hf S fs hnd (by rw [hobj];have:=renH_low (fsf fs) hc hlow;rw [show hc.map (fun o=>some (qJg (fsf fs) o))=(hc.map (qJg (fsf fs))).map some by simp,this]) (lowH_mono (Nat.zero_le _) hc hlow) hargs hla hr0
  (by rw [renH_low (fsf fs) h0 hlow'];exact hH)
theorem Spec.drop {P:Program} {f:FuncId} {args:List AV} {h:List AObj} {Q Q':AV→List AObj→Prop} (S:Spec P f args (h++[.room]) Q)
  (hQ:∀ r h',Q r h'→∃ r',AV.le r r'∧low h.length r'=true∧qCn h.length (h'.take h.length)=true∧Q' r' (h'.take h.length)):Spec P f args h Q':=by
 refine ⟨S.1,fun G w vals h1 h2 htab hw=>?_⟩
 have hw1:WRel ⟨w,G,htab,[]⟩ G (h++[.room]) w:=by
  refine ⟨hw.le,hw.imm,hw.immNew,hw.keep,hw.size,hw.os,hw.tape,hw.output,hw.own,fun i hi=>hw.fresh i (by simp at hi;omega),fun i o hi=>?_⟩
  by_cases hlt:i < h.length
  ·rw [List.getElem?_append_left hlt] at hi;exact hw.obj i o hi
  ·rw [List.getElem?_append_right (by omega)] at hi
   have hi0:i-h.length=0:=by have:=(List.getElem?_eq_some_iff.1 hi).1;simp at this;omega
   rw [hi0] at hi
   simp at hi
   subst hi
   exact hw.fresh i (by omega)
 refine (S.2 G w vals h1 h2 htab hw1).mono ?_
 rintro e w' ⟨v,r,h',G',rfl,q1,q2,q3,q4,q5,q6⟩
 obtain ⟨r',k1,k2,k3,k4⟩:=hQ r h' q1
 simp only [List.length_append,List.length_cons,List.length_nil] at q2
 have hlen:(h'.take h.length).length=h.length:=by simp;omega
 exact ⟨v,r',h'.take h.length,vFw h.length G',rfl,k4,hlen,k2,k3,(k1 _ _ q5).cut k2,q6.cut (fun i hi=>hw.fresh i hi) hlen (fun i hi=>by rw [List.getElem?_take,if_pos hi]) k3⟩
theorem eqNil_ok {P:Program} {E:Env} {T:Tr} {o:Oper} {ρ:Operand→AV} {h:List AObj} (hT:TOk P T) (hρ:∀ z,ρ (.const z)=qJx z) {t yt sz:Nat} {x:Operand} {es:List (List Dat)} (ho:o.op=.binOp .eql t x (.const (.slice none 0 0)) yt)
  (ht:qFl T t=true) (hx:vDc (ρ x)=some (sz,es)):OpR P E o ρ h (fun v h'=>h'=h∧∃ b,v=.d (.bool b)∧(b=true→es=[])):=by
 intro G a w hw hr
 have hx':=asEs_ok (hr x (by simp [ho,Op.operands])) hx
 have hy':RepA G (ρ (.const (.slice none 0 0))) (a.eval (.const (.slice none 0 0))):=hr _ (by simp [ho,Op.operands])
 obtain ⟨et,hu⟩:=qDp hT ht
 obtain ⟨p,cap,hv,hn,hp⟩:=hx'.slice_inv
 have hcn:a.eval (.const (.slice none 0 0))=.slice none 0 0:=rfl
 have hrun:∃ b,(execOp a.eval o).run P w=.ok (.value (.bool b)) w∧(b=true→es=[]):=by
  have hg:∀ q:Option Addr,(eqGuard .eql t x (.const (.slice none 0 0)) (.slice q es.length cap) (.slice none 0 0)).run P w=.ok () w:=fun q=>eqGuard_run _ _ _ _ _ _ (by simp) (by simp)
  cases p with
  | none =>
   refine ⟨true,?_,fun _=>(hn rfl).1⟩
   have he:(Op.equal t (.slice none es.length cap) (.slice none 0 0)).run P w=.ok true w:=by
    show (Op.equalIn (9999+1) t _ _).run P w=_
    rw [Op.equalIn]
    simp [run_underlying hu]
   unfold execOp
   simp only [ho,Sem.run_bind]
   rw [hv,hcn,hg]
   simp [Go.binOp,he]
  | some q =>
   refine ⟨false,?_,fun hb=>by cases hb⟩
   have he:(Op.equal t (.slice (some q) es.length cap) (.slice none 0 0)).run P w=.ok false w:=by
    show (Op.equalIn (9999+1) t _ _).run P w=_
    rw [Op.equalIn]
    simp [run_underlying hu]
   unfold execOp
   simp only [ho,Sem.run_bind]
   rw [hv,hcn,hg]
   simp [Go.binOp,he]
 obtain ⟨b,h1,h2⟩:=hrun
 unfold Oper.wp
 rw [h1]
 exact ⟨.bool b,G,.d (.bool b),h,⟨rfl,b,rfl,h2⟩,rfl,.refl G,hw,.d (.bool b)⟩
theorem qQv {E:Env} {N:Nat} {τ:Nat→AV} {h:List AObj} (i off j sz:Nat) {es:List (List Dat)} {cells:List AV} (hi:h[i]?=some (.row cells)) (hc:cells[off]?=some (.sl sz es .full)) (hj:h[j]?=some .room) :
  ∀ a w,Rel E N τ h a w→Rel E N τ ((h.set j (.right sz es.length)).set i (.row (cells.set off (.sl sz es (.right j))))) a w:=by
 rintro a w ⟨h1,h2,G,hw,hr⟩
 have hij:j≠i:=fun hh=>by rw [hh,hi] at hj;cases hj
 obtain ⟨b,b1,b2,b3,b4⟩:=hw.obj i _ hi
 obtain ⟨v,v1,v2,v3,v4⟩:=b3 off _ hc
 obtain ⟨p,rfl,hrep⟩:∃ p,v=.slice p es.length es.length∧RepD G.imm (.sl sz es) v:=by
  cases v3 with
  | sl r k=>obtain ⟨p,rfl,_⟩:=k;exact ⟨p,rfl,r⟩
 obtain ⟨hle,hw1,hrs⟩:=hw.acquire hj hrep
 refine ⟨h1,h2,_,⟨hw1.le,hw1.imm,hw1.immNew,hw1.keep,hw1.size,hw1.os,hw1.tape,hw1.output,hw1.own,fun k hk=>hw1.fresh k (by simpa using hk),fun k o hk=>?_⟩,fun t=>(hr t).mono hle⟩
 rw [List.getElem?_set] at hk
 split at hk
 ·rename_i e;subst e
  split at hk
  ·cases hk
   have hio:(h.set j (.right sz es.length))[i]?=some (.row cells):=by rw [List.getElem?_set_ne hij];exact hi
   obtain ⟨b',c1,c2,c3,c4⟩:=hw1.obj i _ hio
   refine ⟨b',c1,c2,fun q c hq=>?_,c4⟩
   rw [List.getElem?_set] at hq
   split at hq
   ·rename_i e2;subst e2
    split at hq
    ·cases hq
     obtain ⟨u,u1,u2,u3,u4⟩:=c3 off _ hc
     have hbb:b'=b:=by
      have hl2:(vGy G j es.length p).loc i=G.loc i:=rfl
      rw [hl2,b1] at c1;cases c1;rfl
     subst hbb
     exact ⟨_,v1,v2,hrs,v4⟩
    ·cases hq
   ·exact c3 q c hq
  ·cases hk
 ·exact hw1.obj k o hk
theorem qDm {P:Program} {E:Env} {N:Nat} {Q:Exit→(Nat→AV)→List AObj→Prop} {τ:Nat→AV} {h:List AObj} {c:Code} (i off j sz:Nat) {es:List (List Dat)} {cells:List AV} (hi:h[i]?=some (.row cells)) (hc:cells[off]?=some (.sl sz es .full)) (hj:h[j]?=some .room)
  (hw:AW P E N c Q τ ((h.set j (.right sz es.length)).set i (.row (cells.set off (.sl sz es (.right j)))))):AW P E N c Q τ h:=qJt (qQv i off j sz hi hc hj) hw
theorem sd {C:Prop} (h:C:=by first | exact True.intro | exact (fun hh=>hh) | omega | assumption | (intro hh;rw [hh];rfl) | (intro hh;simp [gval,hh];done) | (simp;omega)):C:=h
theorem sg {ex:Bool} {A C:Prop} (hg:ex=true) (h1:A:=by first | exact True.intro | exact ⟨hg,True.intro⟩ | exact ⟨hg,hg,True.intro⟩ | (refine ⟨?_,True.intro⟩;simp at hg;simp [hg];done) | (refine ⟨?_,?_,True.intro⟩ <;> (simp at hg;simp [hg];done))) (h2:C:=by first | exact True.intro | (intro hh;rw [hg,hh];rfl) | (intro hh;simp [gval,hh,hg];done) | (intro hh;simp only [gval,hh,hg,Bool.not_false,Bool.not_true,Bool.and_true,Bool.true_and];done) | (intro hh;simp only [gval] at hg;simp only [gval,hh,hg,Bool.not_false,Bool.and_true,Bool.true_and];done) | (simp [gval] at hg;first | omega | (simp;done) | (simp;omega))):A∧C:=⟨h1,h2⟩
theorem sm {C:Prop} (h:C:=by first | (simp;done) | exact List.mem_cons_self | exact List.mem_cons_of_mem _ List.mem_cons_self):C:=h
section
variable {P:Program} {E:Env} {N:Nat} {T:Tr} {ops:List Oper} {rest:List Oper} {op:Op} {ty:TypeId} {pos:String} {after:Array Edge} {l:List (Nat×AV)} {h h':List AObj} {v:AV} {C:Prop}
theorem wd (hT:TOk P T) {n:Nat} {Q:(Nat→AV)→List AObj→Prop} {i d:Nat} (hs:astep T op (ev (look l)) h=some (v,h,C)) (hd:Nat.blt d N=true) (hn:h.length=n) (hk:AWd P E N ops (fun _=>List.range n) (fun _=>[]) Q rest (i+1) (look ((d,v)::l)) h)
  (hC:C:=by first | exact True.intro | omega | exact sd):AWd P E N ops (fun _=>List.range n) (fun _=>[]) Q (⟨some d,op,ty,pos,after,none⟩::rest) i (look l) h:=vDo hT hs hd hn hC hk
theorem wk (hT:TOk P T) {Q:(Nat→AV)→List AObj→Prop} {d:Nat} (hs:astep T op (ev (look l)) h=some (v,h',C)) (hd:Nat.blt d N=true) (hk:AWk P E N ops Q rest (look ((d,v)::l)) h')
  (hC:C:=by first | exact True.intro | omega | exact sd):AWk P E N ops Q (⟨some d,op,ty,pos,after,none⟩::rest) (look l) h:=qOt hT hs hd hC hk
theorem wz (hT:TOk P T) {Q:(Nat→AV)→List AObj→Prop} (hs:astep T op (ev (look l)) h=some (v,h',C)) (hk:AWk P E N ops Q rest (look l) h')
  (hC:C:=by first | exact True.intro | omega | exact sd):AWk P E N ops Q (⟨none,op,ty,pos,after,none⟩::rest) (look l) h:=vAu hT hs hC hk
theorem wg (hT:TOk P T) {n:Nat} {Q:(Nat→AV)→List AObj→Prop} {i d j gd:Nat} {want ex:Bool} (hg:gslot ops l j want=some (gd,ex)) (hs:astep T op (evG (look l) op) h=some (v,h,C)) (hd:Nat.blt d N=true) (hgd:Nat.blt gd N=true) (hn:h.length=n)
  (hk:AWd P E N ops (fun _=>List.range n) (fun _=>[]) Q rest (i+1) (look ((d,.gd ex v)::l)) h) (hC:ex=true→qSu (look l) (qXb op)∧C:=by intro hg;first | exact ⟨True.intro,True.intro⟩ | exact sg hg) :
  AWd P E N ops (fun _=>List.range n) (fun _=>[]) Q (⟨some d,op,ty,pos,after,some (j,want)⟩::rest) i (look l) h:=vAx hT hg hs hd hgd hn hC hk
theorem wh (hT:TOk P T) {Q:(Nat→AV)→List AObj→Prop} {d j gd:Nat} {want ex:Bool} (hg:gslot ops l j want=some (gd,ex)) (hs:astep T op (evG (look l) op) h=some (v,h,C)) (hd:Nat.blt d N=true) (hgd:Nat.blt gd N=true)
  (hk:AWk P E N ops Q rest (look ((d,.gd ex v)::l)) h) (hC:ex=true→qSu (look l) (qXb op)∧C:=by intro hg;first | exact ⟨True.intro,True.intro⟩ | exact sg hg) :
  AWk P E N ops Q (⟨some d,op,ty,pos,after,some (j,want)⟩::rest) (look l) h:=vAv hT hg hs hd hgd hC hk
theorem wx {id:Nat} {Q:Exit→(Nat→AV)→List AObj→Prop} {τ:Nat→AV} (hm:P.follows .mixedOrders=true) (H:AWd P E N ops (fun _=>List.range h.length) (fun _=>[]) (Q .normal) ops 0 τ h)
  (hB:vDw ops.toArray (fun _=>List.range h.length) (fun _=>[]) ops.length 0 (Array.replicate ops.length false)=true:=by kernel_rfl):AW P E N (.region id ops.toArray true) Q τ h:=vGq hm hB H
variable {rs:List ResultVar} {k:Nat} {Q:AV→List AObj→Prop} {τ:Nat→AV} {r:AV}
theorem rx (h7:Q v h') (h1:qWs T τ h rs=some v:=by exact rfl) (h3:h'=h.take k:=by exact rfl) (h4:h'.length=k:=by exact rfl) (h5:low k v=true:=by exact rfl) (h6:qCn k h'=true:=by exact rfl):vBq T rs k Q .ret τ h:=⟨v,v,h',h1,fun _ _ h=>h,h3,h4,h5,h6,h7⟩
theorem rxN (h7:Q v h') (h1:qWs T τ h rs=some v:=by exact rfl) (h3:h'=h.take k:=by exact rfl) (h4:h'.length=k:=by exact rfl) (h5:low k v=true:=by exact rfl) (h6:qCn k h'=true:=by exact rfl):vBq T rs k Q .normal τ h:=⟨v,v,h',h1,fun _ _ h=>h,h3,h4,h5,h6,h7⟩
theorem rq (h7:Q r h') (h1:qWs T τ h rs=some v) (h2:AV.le v r) (h3:h'=h.take k:=by exact rfl) (h4:h'.length=k:=by exact rfl) (h5:low k r=true:=by exact rfl) (h6:qCn k h'=true:=by exact rfl):vBq T rs k Q .ret τ h:=⟨v,r,h',h1,h2,h3,h4,h5,h6,h7⟩
theorem rqN (h7:Q r h') (h1:qWs T τ h rs=some v) (h2:AV.le v r) (h3:h'=h.take k:=by exact rfl) (h4:h'.length=k:=by exact rfl) (h5:low k r=true:=by exact rfl) (h6:qCn k h'=true:=by exact rfl):vBq T rs k Q .normal τ h:=⟨v,r,h',h1,h2,h3,h4,h5,h6,h7⟩
end
theorem li {k:IntKind} {a b:Int} (h:a=b:=by first | assumption | omega | (rw [qAh (by omega)];omega) | (simp only [qAh (by omega)];omega)):AV.le (.d (.int k a)) (.d (.int k b)):=.eq (congrArg (fun z=>AV.d (.int k z)) h)
theorem lb {a b:Bool} (h:a=b:=by first | assumption | (simp;done) | (simp;omega)):AV.le (.d (.bool a)) (.d (.bool b)):=.eq (congrArg (fun z=>AV.d (.bool z)) h)
theorem ls {sz:Nat} {a b:List (List Dat)} (h:a=b:=by first | assumption | (simp;done)):AV.le (.d (.sl sz a)) (.d (.sl sz b)):=.eq (congrArg (fun z=>AV.d (.sl sz z)) h)
theorem lk {sz:Nat} {a b:List (List Dat)} {t:Tok} (h:a=b:=by first | assumption | (simp;done)):AV.le (.sl sz a t) (.sl sz b t):=.eq (congrArg (fun z=>AV.sl sz z t) h)
theorem ld {sz:Nat} {a b:List (List Dat)} {t:Tok} (h:a=b:=by first | assumption | (simp;done)):AV.le (.sl sz a t) (.d (.sl sz b)):=.trans .dat (.eq (congrArg (fun z=>AV.d (.sl sz z)) h))
theorem lz {a b:List UInt8} (h:a=b:=by first | assumption | (simp;done)):AV.le (.d (.str a)) (.d (.str b)):=.eq (congrArg (fun z=>AV.d (.str z)) h)
theorem yf {g:Prop} (h:g:=by repeat (first | exact trivial | refine ⟨.refl _,?_⟩)):g:=h
section
variable {P:Program} {E:Env} {T:Tr} {o:Oper} {ρ:Operand→AV} {h h':List AObj} {v:AV}
def qXf (T:Tr) (t:Nat):Option (Nat×Nat×List AV):=match T.find t with
 | some i=>match i.kind with
  | .slice e=>match T.find e with
   | some ie=>match Nat.beq ie.zero.length ie.size with
    | true=>some (ie.size,ie.bytes,ie.zero)
    | false=>none
   | none=>none
  | _=>none
 | none=>none
theorem elemT_ok (hT:TOk P T) {t sz by_:Nat} {z:List AV} (h:qXf T t=some (sz,by_,z)) :
  ∃ e ie,P.underlying t=some (.slice e)∧TypeAt P e ie∧ie.size=sz∧ie.bytes=by_∧ie.zero=z∧z.length=sz:=by
 unfold qXf at h
 split at h
 ·rename_i i hi
  split at h
  ·rename_i e hk
   split at h
   ·rename_i ie hie
    split at h
    ·rename_i hb
     cases h
     obtain ⟨d,hd,hkd⟩:=(hT.at hi).und
     rw [hk] at hkd
     cases d <;> simp [qCx] at hkd
     subst hkd
     exact ⟨e,ie,hd,hT.at hie,rfl,rfl,rfl,Nat.eq_of_beq_eq_true hb⟩
    ·cases h
   ·cases h
  ·cases h
 ·cases h
theorem RepA.row_inv {G:Gh} {v:Value} {i off n cap:Nat} (h:RepA G (.row i off n cap) v):∃ b,v=.slice (some ⟨b,off,none⟩) n cap∧G.loc i=some b:=by cases h with | row _ _ _ r=>exact ⟨_,rfl,r⟩
theorem qIg {α:Type} (z:List α):∀ (n j:Nat),(List.replicate n z).flatten[j]?=if j < n*z.length then z[j % z.length]? else none
 | 0,j=>by simp
 | n+1,j=>by
  rw [List.replicate_succ,List.flatten_cons]
  by_cases hj:j < z.length
  ·rw [List.getElem?_append_left hj,Nat.mod_eq_of_lt hj]
   rw [if_pos (by rw [Nat.succ_mul];omega)]
  ·rw [List.getElem?_append_right (by omega),qIg z n]
   rw [Nat.succ_mul,Nat.mod_eq_sub_mod (a:=j) (by omega)]
   by_cases h1:j-z.length < n*z.length
   ·rw [if_pos h1,if_pos (by omega)]
   ·rw [if_neg h1,if_neg (by omega)]
theorem makeRow_ok (hT:TOk P T) {t sz by_:Nat} {z:List AV} {x y:Operand} {k k':IntKind} {n:Nat} (ho:o.op=.makeSlice t x y) (he:qXf T t=some (sz,by_,z)) (hx:ρ x=.d (.int k (n:Int))) (hy:ρ y=.d (.int k' (n:Int)))
  (hb:by_*n≤281474976710656) (h63:n≤9223372036854775807) :
  OpS P E o ρ h (.row h.length 0 n n) (h++[.row (List.replicate n z).flatten]) :=
 qBv fun G e w hw hr=>by
  have hx':RepA G (ρ x) (e x):=hr x (by simp [ho,Op.operands])
  have hy':RepA G (ρ y) (e y):=hr y (by simp [ho,Op.operands])
  rw [hx] at hx';rw [hy] at hy'
  obtain ⟨et,ie,h1,h2,h3,h4,h5,h6⟩:=elemT_ok hT he
  obtain ⟨info,g1,g2,g3,zv,g4,g5⟩:=h2.info
  obtain ⟨hl,hc⟩:=zrepL_ok g5
  have hzs:zv.cells.size=sz:=by
   have:zv.cells.toList.length=ie.zero.length:=hl.symm▸rfl
   simp only [Array.length_toList] at this
   rw [this,h5,h6]
  have hbb:(info.bytes:Int)*(n:Int)≤281474976710656:=by
   have:info.bytes*n≤281474976710656:=by rw [g3,h4];exact hb
   have h9:((info.bytes*n:Nat):Int)≤281474976710656:=by omega
   rwa [Int.natCast_mul] at h9
  have hrun:=run_make (P:=P) w t et info zv h1 g1 g4 k k' (n:Int) (n:Int) (by omega) (Int.le_refl _) hbb (by omega)
  simp only [Int.toNat_natCast] at hrun
  have hinfo:info.size=sz:=by rw [g2,h3]
  have hcells:∀ (j:Nat) (c:AV) (u:Value),((List.replicate n z).flatten)[j]?=some c→(madeCells zv.cells (n*info.size))[j]?=some u→RepA G c u∧qHy u=true:=by
   intro j c u h7 h8
   rw [qIg,h6] at h7
   split at h7
   ·rename_i hj
    have hlt:j % sz < zv.cells.size:=by
     rw [hzs]
     exact Nat.mod_lt _ (by rcases Nat.eq_zero_or_pos sz with h0 | h0;(subst h0;simp at hj);exact h0)
    simp only [madeCells,Array.getElem?_map,Option.map_eq_some_iff] at h8
    obtain ⟨q,hq,rfl⟩:=h8
    have hjq:q=j:=by
     have hh:=hq
     rw [Array.getElem?_eq_some_iff] at hh
     obtain ⟨_,hh⟩:=hh
     simpa using hh.symm
    subst hjq
    rw [hzs,getElem!_pos zv.cells (q % sz) hlt]
    exact hc G _ c _ (by rw [h5];exact h7) (by simp [hlt])
   ·cases h7
  have hn:=hw.newRow (madeCells zv.cells (n*info.size)) et (List.replicate n z).flatten (by rw [size_madeCells,List.length_flatten,List.map_replicate,List.sum_replicate_nat,h6,hinfo])
   hcells { w with heap:=w.heap.push (.cells (madeCells zv.cells (n*info.size)) et) } rfl rfl rfl rfl
  refine ⟨.slice (some ⟨w.heap.size,0,none⟩) n n,_,_,?_,hn.1,hn.2,.row 0 n n ?_⟩
  ·unfold execOp
   simp only [ho,hx'.int_inv,hy'.int_inv,Sem.run_bind,hrun,Result.andThen_ok]
   rfl
  ·show (if h.length=h.length then _ else _)=_;simp
theorem qKj {α:Type} (a:α):∀ n,(List.replicate n [a]).flatten=List.replicate n a
 | 0=>rfl
 | n+1=>by rw [List.replicate_succ,List.flatten_cons,qKj a n];rfl
theorem makeRow1_ok (hT:TOk P T) {t by_:Nat} {z:AV} {x y:Operand} {k k':IntKind} {n:Nat} (ho:o.op=.makeSlice t x y) (he:qXf T t=some (1,by_,[z])) (hx:ρ x=.d (.int k (n:Int))) (hy:ρ y=.d (.int k' (n:Int)))
  (hb:by_*n≤281474976710656) (h63:n≤9223372036854775807) :
  OpS P E o ρ h (.row h.length 0 n n) (h++[.row (List.replicate n z)]):=by
 have:=makeRow_ok (E:=E) (h:=h) hT ho he hx hy hb h63
 rwa [qKj] at this
theorem rowAddr_ok (hT:TOk P T) {t sz i off n cap:Nat} {x ix:Operand} {k:IntKind} {j:Int} (ho:o.op=.indexAddr t x ix) (hs:qCk T t sz=true)
  (hx:ρ x=.row i off n cap) (hix:ρ ix=.d (.int k j)) (h0:0≤j∧j < (n:Int)):OpP P o ρ (.ptr i (off+j.toNat*sz)):=by
 intro G e w hi hr
 have hx':RepA G (ρ x) (e x):=hr x (by simp [ho,Op.operands])
 have hix':RepA G (ρ ix) (e ix):=hr ix (by simp [ho,Op.operands])
 rw [hx] at hx';rw [hix] at hix'
 obtain ⟨et,ie,h1,h2,h3⟩:=sliceElem_ok hT hs
 obtain ⟨b,hv,hl⟩:=hx'.row_inv
 refine ⟨.pointer (some ⟨b,off+j.toNat*sz,none⟩),?_,.ptr _ hl⟩
 unfold execOp
 simp only [ho,Sem.run_bind]
 rw [hv,hix'.int_inv]
 simp [Instr.indexAt,asIntOf,run_underlying h1,h0.1,h0.2,h2.run_size,h3,qCr]
theorem qHo (hT:TOk P T) {t i off:Nat} {ti:TI} {x y:Operand} {cells:List AV} (ho:o.op=.store t x y) (hx:ρ x=.ptr i off) (hi:h[i]?=some (.row cells)) (hf:T.find t=some ti) (hsz:Nat.beq ti.size 1=true)
  (hs:qDd (ρ y)=true) (hlt:off < cells.length):OpS P E o ρ h .any (h.set i (.row (cells.set off (ρ y)))):=by
 refine qAp hT ho hx hi ?_
 have hc:cellsA (ρ y)=some [ρ y]:=by
  generalize ρ y=a at hs ⊢
  cases a <;> first | rfl | cases hs
 have h1:=Nat.eq_of_beq_eq_true hsz
 have h2:Nat.ble (off+1) cells.length=true:=Nat.ble_eq_true_of_le hlt
 simp [qDz,hf,hc,h1,h2,qCw]
theorem qCv (hT:TOk P T) {t i off:Nat} {ti:TI} {x:Operand} {cells:List AV} (ho:o.op=.load t x) (hx:ρ x=.ptr i off) (hi:h[i]?=some (.row cells)) (hf:T.find t=some ti) (ha:ti.agg=false)
  (hv:cells[off]?=some v):OpS P E o ρ h v h:=by
 refine qAo hT ho hx hi ?_
 simp [qEv,hf,ha,hv]
theorem rowCut_ok (hT:TOk P T) {t sz i off n cap:Nat} {x:Operand} {lo hi:Option Operand} {l r:Nat} (ho:o.op=.slice t x lo hi none) (hs:qCk T t sz=true) (hx:ρ x=.row i off n cap)
  (hlo:match lo with | none=>l=0 | some y=>∃ k,ρ y=.d (.int k (l:Int))) (hhi:match hi with | none=>r=n | some y=>∃ k,ρ y=.d (.int k (r:Int))) (hle:l≤r) (hc:r≤cap) :
  OpP P o ρ (.row i (if cap=l then off else off+l*sz) (r-l) (cap-l)):=by
 intro G e w hi' hr
 have hx':RepA G (ρ x) (e x):=hr x (by simp [ho,Op.operands])
 rw [hx] at hx'
 obtain ⟨et,ie,h1,h2,h3⟩:=sliceElem_ok hT hs
 obtain ⟨b,hv,hl⟩:=hx'.row_inv
 have hlo':match lo with | none=>l=0 | some y=>∃ k,e y=.int k (l:Int):=by
  cases lo with
  | none=>exact hlo
  | some y =>
   obtain ⟨k,hk⟩:=hlo
   have:=hr y (by simp [ho,Op.operands])
   rw [hk] at this
   exact ⟨k,this.int_inv⟩
 have hhi':match hi with | none=>r=n | some y=>∃ k,e y=.int k (r:Int):=by
  cases hi with
  | none=>exact hhi
  | some y =>
   obtain ⟨k,hk⟩:=hhi
   have:=hr y (by simp [ho,Op.operands])
   rw [hk] at this
   exact ⟨k,this.int_inv⟩
 have hb1:(0:Int)≤(r:Int)∧(r:Int)≤(cap:Int):=by omega
 have hb2:(0:Int)≤(l:Int)∧(l:Int)≤(r:Int):=by omega
 refine ⟨.slice (some ⟨b,if cap=l then off else off+l*sz,none⟩) (r-l) (cap-l),?_,.row _ _ _ hl⟩
 unfold execOp
 simp only [ho,Sem.run_bind]
 rw [hv]
 have haddr:(if cap=l then some (⟨b,off,none⟩:Addr) else some ((⟨b,off,none⟩:Addr).add (l*sz)))=some ⟨b,if cap=l then off else off+l*sz,none⟩:=by
  split
  ·rfl
  ·rw [qCr]
 cases lo with
 | none =>
  simp only at hlo';subst hlo'
  cases hi with
  | none =>
   simp only at hhi';subst hhi'
   by_cases hcl:cap=0
   ·subst hcl;simp [Instr.sliceAt,Instr.slice,run_underlying h1,Instr.sliceBounds,h2.run_size,h3]
   ·simp [Instr.sliceAt,Instr.slice,run_underlying h1,Instr.sliceBounds,h2.run_size,h3,hcl,qCr]
  | some y =>
   obtain ⟨k,hk⟩:=hhi'
   by_cases hcl:cap=0
   ·have hr0:r=0:=by omega
    subst hcl;subst hr0
    have hb3:=fun (w:World)=>qAw (P:=P) (w:=w) k ((0:Nat):Int) 0 .sliceAcap hb1
    simp only [Int.natCast_zero,Int.toNat_zero] at hb3
    simp [Instr.sliceAt,Instr.slice,run_underlying h1,Instr.sliceBounds,h2.run_size,h3,hk,hb3]
   ·simp [Instr.sliceAt,Instr.slice,run_underlying h1,Instr.sliceBounds,h2.run_size,h3,hk,qAw _ _ _ _ hb1,hcl,qCr]
 | some yl =>
  obtain ⟨kl,hkl⟩:=hlo'
  cases hi with
  | none =>
   simp only at hhi';subst hhi'
   by_cases hcl:cap=l
   ·have:r=l:=by omega
    subst hcl;subst this;simp [Instr.sliceAt,Instr.slice,run_underlying h1,Instr.sliceBounds,h2.run_size,h3,hkl,qAw _ _ _ _ hb2]
   ·simp [Instr.sliceAt,Instr.slice,run_underlying h1,Instr.sliceBounds,h2.run_size,h3,hkl,qAw _ _ _ _ hb2,hcl,qCr]
  | some y =>
   obtain ⟨k,hk⟩:=hhi'
   by_cases hcl:cap=l
   ·have:r=l:=by omega
    subst hcl;subst this;simp [Instr.sliceAt,Instr.slice,run_underlying h1,Instr.sliceBounds,h2.run_size,h3,hkl,hk,qAw _ _ _ _ hb1,qAw _ _ _ _ hb2]
   ·simp [Instr.sliceAt,Instr.slice,run_underlying h1,Instr.sliceBounds,h2.run_size,h3,hkl,hk,qAw _ _ _ _ hb1,qAw _ _ _ _ hb2,hcl,qCr]
def qBf (s:List UInt8):List AV:=s.map fun b=>.d (.int .u8 (b.toNat:Int))
end
theorem WRel.freeze {E:Env} {G:Gh} {h:List AObj} {w:World} {i b:Nat} {cells:List AV} (hw:WRel E G h w) (hi:h[i]?=some (.row cells)) (hl:G.loc i=some b) :
  let G':Gh:={ G with imm:=fun a=>if a.block=b∧a.spot=none∧a.off < cells.length then w.cell? a else G.imm a }
  G.le G'∧WRel E G' (h.set i .dead) w∧∀ (j:Nat) (d:Dat) (c:AV),cells[j]?=some c→qPa c=some d→∃ u,G'.imm ⟨b,j,none⟩=some u∧RepD G'.imm d u:=by
 intro G'
 obtain ⟨b',hl',hown,hrow,himm⟩:=hw.obj i _ hi
 rw [hl] at hl';cases hl'
 have hle:G.le G':=by
  refine ⟨fun a v hv=>?_,fun _ _ h=>h,fun _ _ _ h=>h,fun _ _ h=>h⟩
  have hne:¬ (a.block=b∧a.spot=none∧a.off < cells.length):=fun hh=>by rw [himm.1 a hh.1] at hv;cases hv
  show (if _ then _ else _)=_
  rw [if_neg hne];exact hv
 refine ⟨hle,?_,fun j d c hc hd=>?_⟩
 ·refine ⟨hw.le.trans hle,fun a v hv=>?_,fun a v hv=>?_,hw.keep,hw.size,hw.os,hw.tape,hw.output,hw.own,fun k hk=>hw.fresh k (by simpa using hk),fun k o hk=>?_⟩
  ·simp only [G'] at hv
   split at hv
   ·exact hv
   ·exact hw.imm a v hv
  ·simp only [G'] at hv
   split at hv
   ·rename_i hh
    right;rw [hh.1];exact (hw.own b i hown).2
   ·exact hw.immNew a v hv
  ·rw [List.getElem?_set] at hk
   by_cases hik:i=k
   ·subst hik
    simp only [if_true] at hk
    split at hk
    ·cases hk;trivial
    ·cases hk
   ·rw [if_neg hik] at hk
    refine (hw.obj k o hk).keep hle (fun c hc=>⟨rfl,fun a ha=>?_⟩) (fun _ h=>h) (fun h=>h)
    have hcb:c≠b:=fun hh=>by subst hh;rw [hown] at hc;cases hc;exact hik rfl
    simp only [G']
    rw [if_neg (fun hh=>hcb (ha.symm.trans hh.1))]
 ·obtain ⟨u,u1,u2,u3,_⟩:=hrow j c hc
  refine ⟨u,?_,(toDat_ok u3 hd).mono hle.imm⟩
  simp only [G']
  have hlt:=(List.getElem?_eq_some_iff.1 hc).1
  simp [hlt,u1]
def RowDat (cells:List AV) (off sz:Nat) (es:List (List Dat)):Prop :=
 (∀ e,e∈es→e.length=sz)∧∀ (i:Nat) (e:List Dat) (j:Nat) (d:Dat),es[i]?=some e→e[j]?=some d→∃ c,cells[off+(i*sz+j)]?=some c∧qPa c=some d
theorem qXp {E:Env} {N:Nat} {l:List (Nat×AV)} {h:List AObj} {t i off n cap sz:Nat} {cells:List AV} {es:List (List Dat)} (ht:look l t=.row i off n cap) (hi:h[i]?=some (.row cells)) (hn:es.length=n) (hcap:n≤cap) (hd:RowDat cells off sz es) :
  ∀ a w,Rel E N (look l) h a w→Rel E N (look ((t,.d (.sl sz es))::l)) (h.set i .dead) a w:=by
 intro a w ⟨h1,h2,G,hw,hr⟩
 have hx:=hr t
 rw [ht] at hx
 obtain ⟨b,hv,hl⟩:=hx.row_inv
 obtain ⟨hle,hw',hc⟩:=hw.freeze hi hl
 refine ⟨h1,h2,_,hw',fun s=>?_⟩
 show RepA _ (bif Nat.beq s t then _ else look l s) _
 cases hb:Nat.beq s t with
 | false=>exact (hr s).mono hle
 | true =>
  obtain rfl:=Nat.eq_of_beq_eq_true hb
  rw [hv]
  subst hn
  have hex:∀ (k:Nat),∃ u:Value,∀ (i:Nat) (e:List Dat) (j:Nat) (d:Dat),es[i]?=some e→e[j]?=some d→i*sz+j=k →
    ({ G with imm:=fun a=>if a.block=b∧a.spot=none∧a.off < cells.length then w.cell? a else G.imm a }:Gh).imm ⟨b,off+k,none⟩=some u:=by
   intro k
   rcases hh:({ G with imm:=fun a=>if a.block=b∧a.spot=none∧a.off < cells.length then w.cell? a else G.imm a }:Gh).imm ⟨b,off+k,none⟩ with _ | u
   ·refine ⟨undef,fun i e j d he hj hk=>?_⟩
    obtain ⟨c,g1,g2⟩:=hd.2 i e j d he hj
    obtain ⟨u,g3,_⟩:=hc _ d c g1 g2
    rw [hk] at g3
    rw [hh] at g3;cases g3
   ·exact ⟨u,fun _ _ _ _ _ _ _=>rfl⟩
  refine .d (.sl sz es ⟨b,off,none⟩ cap (fun k=>Classical.choose (hex k)) (fun _=>rfl) hcap hd.1 (fun i e j d he hj=>?_) (fun i e j d he hj=>?_))
  ·rw [qCr]
   exact Classical.choose_spec (hex (i*sz+j)) i e j d he hj rfl
  ·have:=Classical.choose_spec (hex (i*sz+j)) i e j d he hj rfl
   obtain ⟨c,g1,g2⟩:=hd.2 i e j d he hj
   obtain ⟨u,g3,g4⟩:=hc _ d c g1 g2
   have hu:=Option.some.inj (g3.symm.trans this)
   exact hu▸g4
theorem qMc {P:Program} {E:Env} {N:Nat} {Q:Exit→(Nat→AV)→List AObj→Prop} {c:Code} {l:List (Nat×AV)} {h:List AObj} (t i sz:Nat) {off n cap:Nat} {cells:List AV} (es:List (List Dat)) (ht:look l t=.row i off n cap) (hi:h[i]?=some (.row cells))
  (hn:es.length=n) (hcap:n≤cap) (hd:RowDat cells off sz es) (hc:AW P E N c Q (look ((t,.d (.sl sz es))::l)) (h.set i .dead)):AW P E N c Q (look l) h :=
 qJt (qXp ht hi hn hcap hd) hc
section
variable {P:Program} {E:Env} {T:Tr} {o:Oper} {ρ:Operand→AV} {h h':List AObj} {v:AV}
theorem WRel.newRowAtW {G:Gh} {w:World} {i0:Nat} (hw:WRel E G h w) (hroom:h[i0]?=some .room) (cs:Array Value) (t:TypeId) (cells:List AV) (hs:cells.length≤cs.size)
  (hc:∀ (j:Nat) (c:AV) (u:Value),cells[j]?=some c→cs[j]?=some u→RepA G c u∧qHy u=true) (w':World) (hh:w'.heap=w.heap.push (.cells cs t)) (ho:w'.os=w.os) (ht:w'.tape=w.tape) (hout:w'.output=w.output) :
  G.le (qFv G i0 w.heap.size)∧WRel E (qFv G i0 w.heap.size) (h.set i0 (.row cells)) w':=by
 have hf:=hw.obj i0 _ hroom
 have hi0:i0 < h.length:=(List.getElem?_eq_some_iff.1 hroom).1
 have hown:G.own w.heap.size=none:=by
  cases ho:G.own w.heap.size with
  | none=>rfl
  | some i=>have:=(hw.own _ _ ho).1;omega
 have hle:G.le (qFv G i0 w.heap.size):=by
  refine ⟨fun _ _ x=>x,fun i b x=>?_,fun _ _ _ x=>x,fun b i x=>?_⟩
  ·show (if i=i0 then some w.heap.size else G.loc i)=some b
   split
   ·rename_i e;subst e;rw [hf.1] at x;cases x
   ·exact x
  ·show (if b=w.heap.size then some i0 else G.own b)=some i
   split
   ·rename_i e;subst e;rw [hown] at x;cases x
   ·exact x
 have hK:¬ E.K w.heap.size:=fun hk=>by have:=hw.size;have:=hk.1;omega
 refine ⟨hle,hw.le.trans hle,fun a v ha=>?_,hw.immNew,fun b hb=>?_,by rw [hh];simp;have:=hw.size;omega,ho.trans hw.os,ht.trans hw.tape,hout.trans hw.output,fun b i hb=>?_,fun i hi=>?_,fun i ob hi=>?_⟩
 ·have hc:=hw.imm a v ha
  rw [World.cell?_of_block (w:=w) (by rw [hh];exact qBi _ _ _ (World.block_lt_of_cell? _ _ hc))]
  exact hc
 ·rw [hh,qBi _ _ _ (Nat.lt_of_lt_of_le hb.1 hw.size)];exact hw.keep b hb
 ·have hb':(if b=w.heap.size then some i0 else G.own b)=some i:=hb
  split at hb'
  ·rename_i e;subst e;exact ⟨by rw [hh];simp,hK⟩
  ·have:=hw.own b i hb';exact ⟨by rw [hh];simp;omega,this.2⟩
 ·simp only [List.length_set] at hi
  have:=hw.fresh i (by omega)
  refine ⟨?_,this.2⟩
  show (if i=i0 then some w.heap.size else G.loc i)=none
  rw [if_neg (by omega)];exact this.1
 ·rw [List.getElem?_set] at hi
  by_cases hie:i0=i
  ·subst hie
   simp only [if_true,hi0] at hi
   cases hi
   refine ⟨w.heap.size,?_,?_,fun j c hj=>?_,fun a ha=>?_,fun n=>hf.2 n⟩
   ·show (if i0=i0 then _ else _)=_;simp
   ·show (if w.heap.size=w.heap.size then _ else _)=_;simp
   ·have hjl:j < cs.size:=Nat.lt_of_lt_of_le (List.getElem?_eq_some_iff.1 hj).1 hs
    obtain ⟨u,hu⟩:∃ u,cs[j]?=some u:=⟨cs[j],by simp [hjl]⟩
    obtain ⟨r1,r2⟩:=hc j c u hj hu
    exact ⟨u,by simp [World.cell?,hh,hu],r2,r1.mono hle,by simp [World.frozen?,hh]⟩
   ·cases hg:G.imm a with
    | none=>exact hg
    | some v=>have:=World.block_lt_of_cell? _ _ (hw.imm a v hg);omega
  ·rw [if_neg hie] at hi
   refine (hw.obj i ob hi).keep hle (fun b hb=>?_) (fun n hn=>hn) (fun hn=>by show (if i=i0 then _ else G.loc i)=none;rw [if_neg (fun e=>hie e.symm)];exact hn)
   exact ⟨by rw [hh];exact qBi _ _ _ (hw.own b i hb).1,fun a ha=>rfl⟩
theorem WRel.newRowAt {G:Gh} {w:World} {i0:Nat} (hw:WRel E G h w) (hroom:h[i0]?=some .room) (cs:Array Value) (t:TypeId) (cells:List AV) (hs:cs.size=cells.length)
  (hc:∀ (j:Nat) (c:AV) (u:Value),cells[j]?=some c→cs[j]?=some u→RepA G c u∧qHy u=true) (w':World) (hh:w'.heap=w.heap.push (.cells cs t)) (ho:w'.os=w.os) (ht:w'.tape=w.tape) (hout:w'.output=w.output) :
  G.le (qFv G i0 w.heap.size)∧WRel E (qFv G i0 w.heap.size) (h.set i0 (.row cells)) w' :=
 hw.newRowAtW hroom cs t cells (Nat.le_of_eq hs.symm) hc w' hh ho ht hout
theorem allocAt_ok (hT:TOk P T) {t i0:Nat} {i:TI} (ho:o.op=.alloc t) (hf:T.find t=some i) (hroom:h[i0]?=some .room):OpS P E o ρ h (.ptr i0 0) (h.set i0 (.row i.zero)) :=
 qBv fun G e w hw hr=>by
  have hti:=hT.at hf
  obtain ⟨z,hz,hzc⟩:=hti.run_zero (w:=w)
  obtain ⟨hl,hc⟩:=zrepL_ok hzc
  have hn:=hw.newRowAt hroom z.cells t i.zero (by simp [hl]) (fun j c u h1 h2=>hc G j c u h1 (by simpa using h2)) { w with heap:=w.heap.push (.cells z.cells t) } rfl rfl rfl rfl
  refine ⟨.pointer (some ⟨w.heap.size,0,none⟩),_,_,?_,hn.1,hn.2,.ptr 0 ?_⟩
  ·unfold execOp
   simp [ho,Instr.alloc,hz,newVar,newRow]
  ·show (if i0=i0 then _ else _)=_;simp
theorem boxAt_ok {t i0:Nat} {x:Operand} {cs:List AV} (ho:o.op=.box t x) (hx:cellsA (ρ x)=some cs) (hroom:h[i0]?=some .room):OpS P E o ρ h (.ptr i0 0) (h.set i0 (.row cs)) :=
 qBv fun G e w hw hr=>by
  have hx':RepA G (ρ x) (e x):=hr x (by simp [ho,Op.operands])
  obtain ⟨hl,hc⟩:=cellsA_ok hx' hx
  have hn:=hw.newRowAt hroom (e x).cells t cs hl (fun j c u h1 h2=>hc j c u h1 h2) { w with heap:=w.heap.push (.cells (e x).cells t) } rfl rfl rfl rfl
  refine ⟨.pointer (some ⟨w.heap.size,0,none⟩),_,_,?_,hn.1,hn.2,.ptr 0 ?_⟩
  ·unfold execOp
   simp [ho,Instr.box,newVar,newRow]
  ·show (if i0=i0 then _ else _)=_;simp
theorem qSm {x y:Operand} {t1 t2:Array TypeId} {k:IntKind} {a b:Int} (ho:o.op=.call { callee:=.builtin .min,args:=#[x,y],argTypes:=t1 }) (hx:ρ x=.d (.int k a)) (hy:ρ y=.d (.int k b)):OpP P o ρ (.d (.int k (if b < a then b else a))):=by
 intro G e w hi hr
 have hx':RepA G (ρ x) (e x):=hr x (by simp [ho,Op.operands,Call.operands])
 have hy':RepA G (ρ y) (e y):=hr y (by simp [ho,Op.operands,Call.operands])
 rw [hx] at hx';rw [hy] at hy'
 refine ⟨.int k (if b < a then b else a),?_,.d (.int _ _)⟩
 unfold execOp
 simp [ho,resolve,invoke,builtin,hx'.int_inv,hy'.int_inv,run_min_int2 w]
end
theorem qMz {h h':List AObj} (hh:qEo h some=some h'):h'=h:=by rw [forceS_eq] at hh;exact (Option.some.inj hh).symm
theorem qUw {P:Program} {E:Env} {N:Nat} {ops:List Oper} {Q:(Nat→AV)→List AObj→Prop} {d:Nat} {op:Op} {ty:TypeId} {pos:String} {after:Array Edge} {rest:List Oper}
  {l:List (Nat×AV)} {h h1 h':List AObj} {v:AV} (hs:OpS P E ⟨some d,op,ty,pos,after,none⟩ (ev (look l)) h v h1) (hd:Nat.blt d N=true) (hh:qEo h1 some=some h') (hk:AWk P E N ops Q rest (look ((d,v)::l)) h') :
  AWk P E N ops Q (⟨some d,op,ty,pos,after,none⟩::rest) (look l) h:=by
 obtain rfl:=qMz hh
 exact qAd hs hd hk
theorem qAu {P:Program} {E:Env} {N:Nat} {ops:List Oper} {Q:(Nat→AV)→List AObj→Prop} {op:Op} {ty:TypeId} {pos:String} {after:Array Edge} {rest:List Oper}
  {l:List (Nat×AV)} {h h1 h':List AObj} {v:AV} (hs:OpS P E ⟨none,op,ty,pos,after,none⟩ (ev (look l)) h v h1) (hh:qEo h1 some=some h') (hk:AWk P E N ops Q rest (look l) h') :
  AWk P E N ops Q (⟨none,op,ty,pos,after,none⟩::rest) (look l) h:=by
 obtain rfl:=qMz hh
 exact ⟨_,⟨rfl,qDg hs⟩,fun v' h'' ⟨h1,h2⟩=>by subst h1;subst h2;exact hk⟩
end Tdoc
