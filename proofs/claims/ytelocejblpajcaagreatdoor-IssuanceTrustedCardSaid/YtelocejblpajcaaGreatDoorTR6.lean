/- Part 6 of the proof: the texts R26 R27 R28 R29 R30 R31 R23 R40 R41 R42. -/
import Derived.Test.YtelocejblpajcaaGreatDoorTR5
import Derived.MapKept
import Derived.Laws.IdiomRangeMap
import Derived.ChangeAlike
set_option linter.unusedSimpArgs false
set_option linter.unusedVariables false
namespace Tdoc
open Go
def qFa:Dat→Value
 | .int k n=>.int k n
 | .bool b=>.bool b
 | .str s=>.string ⟨s.toArray⟩
 | .sl _ _=>.nilFunc
def qGa:Dat→Bool
 | .sl _ _=>false
 | _=>true
theorem qMt {m:Addr→Option Value} {d:Dat} (h:qGa d=true):RepD m d (qFa d):=by
 cases d with
 | int k n=>exact .int k n
 | bool b=>exact .bool b
 | str s=>exact .str s
 | sl _ _=>cases h
theorem vDx {m:Addr→Option Value} {d:Dat} {v:Value} (h:qGa d=true) (r:RepD m d v):v=qFa d:=by
 cases r with
 | int k n=>rfl
 | bool b=>rfl
 | str s=>rfl
 | nil=>cases h
 | sl=>cases h
theorem flatV_inj {a b:Dat} (ha:qGa a=true) (hb:qGa b=true) (h:qFa a=qFa b):a=b:=by
 cases a <;> cases b <;> simp [qFa] at h <;> first | (obtain ⟨rfl,rfl⟩:=h;rfl) | (subst h;rfl) | cases ha | cases hb | skip
structure MapIs (A:List (Dat×Dat)) (es:Array MapEntry) (clock:Nat):Prop where
 st:MapKept.Stamped es clock
 fwd:∀ e,e∈es.toList→∃ p,p∈A∧e.key=qFa p.1∧e.val=qFa p.2
 bwd:∀ p,p∈A→∃ e,e∈es.toList∧e.key=qFa p.1∧e.val=qFa p.2
def qTs (A:List (Dat×Dat)) (f:Nat→Option Obj) (b:Nat) (S:List Nat):Prop:=S=[b]∧∃ es clock,f b=some (.map es clock)∧MapIs A es clock
def vGy (bm:Nat) (es:Array MapEntry) (clock:Nat) (f:Nat→Option Obj) (b:Nat) (S:List Nat):Prop:=S=[b]∧b=bm∧f b=some (.map es clock)
def qRj (bm since:Nat) (seen:Array Nat) (last:Nat) (f:Nat→Option Obj) (b:Nat) (S:List Nat):Prop:=S=[b]∧f b=some (.mapIter (some bm) since seen last)
theorem mapR_loc {A:List (Dat×Dat)} {b:Nat} (f g:Nat→Option Obj) (h:∀ k,k∈[b]→f k=g k) (hr:qTs A f b [b]):qTs A g b [b]:=by
 obtain ⟨h1,es,c,h2,h3⟩:=hr
 exact ⟨h1,es,c,by rw [← h b (List.mem_singleton.2 rfl)];exact h2,h3⟩
theorem mapC_loc {bm clock:Nat} {es:Array MapEntry} {b:Nat} (f g:Nat→Option Obj) (h:∀ k,k∈[b]→f k=g k) (hr:vGy bm es clock f b [b]):vGy bm es clock g b [b] :=
 ⟨hr.1,hr.2.1,by rw [← h b (List.mem_singleton.2 rfl)];exact hr.2.2⟩
theorem iterC_loc {bm since last:Nat} {seen:Array Nat} {b:Nat} (f g:Nat→Option Obj) (h:∀ k,k∈[b]→f k=g k) (hr:qRj bm since seen last f b [b]):qRj bm since seen last g b [b] :=
 ⟨hr.1,by rw [← h b (List.mem_singleton.2 rfl)];exact hr.2⟩
theorem WRel.newOpqAt {E:Env} {G:Gh} {h:List AObj} {w:World} {i0:Nat} (hw:WRel E G h w) (hroom:h[i0]?=some .room) (ob:Obj) (R:(Nat→Option Obj)→Nat→List Nat→Prop) (w':World) (hh:w'.heap=w.heap.push ob) (ho:w'.os=w.os) (ht:w'.tape=w.tape) (hout:w'.output=w.output)
  (hR:∀ f:Nat→Option Obj,f w.heap.size=some ob→R f w.heap.size [w.heap.size]) (hloc:∀ (b:Nat) (f g:Nat→Option Obj),(∀ k,k∈[b]→f k=g k)→R f b [b]→R g b [b]) :
  G.le (qEi G i0 w.heap.size)∧WRel E (qEi G i0 w.heap.size) (h.set i0 (.opq R)) w':=by
 have hf:=hw.obj i0 _ hroom
 have hi0:i0 < h.length:=(List.getElem?_eq_some_iff.1 hroom).1
 have hown:G.own w.heap.size=none:=by
  cases ho:G.own w.heap.size with
  | none=>rfl
  | some i=>have:=(hw.own _ _ ho).1;omega
 have hle:G.le (qEi G i0 w.heap.size):=by
  refine ⟨fun _ _ x=>x,fun i b x=>?_,fun _ _ _ x=>x,fun b i x=>?_⟩
  ·show (if i=i0 then some w.heap.size else G.loc i)=some b
   split
   ·rename_i e;subst e;rw [hf.1] at x;cases x
   ·exact x
  ·show (if b=w.heap.size then some i0 else G.own b)=some i
   split
   ·rename_i e;subst e;rw [hown] at x;cases x
   ·exact x
 have hK:¬ E.K w.heap.size:=fun hk=>by have:=hw.size;have:=hk.1;omega
 have hnew:w'.heap[w.heap.size]?=some ob:=by rw [hh];exact Array.getElem?_push_size
 refine ⟨hle,hw.le.trans hle,fun a v ha=>?_,hw.immNew,fun b hb=>?_,by rw [hh];simp;have:=hw.size;omega,ho.trans hw.os,ht.trans hw.tape,hout.trans hw.output,fun b i hb=>?_,fun i hi=>?_,fun i ob' hi=>?_⟩
 ·have hc:=hw.imm a v ha
  rw [World.cell?_of_block (w:=w) (by rw [hh];exact qBa _ _ _ (World.block_lt_of_cell? _ _ hc))]
  exact hc
 ·rw [hh,qBa _ _ _ (Nat.lt_of_lt_of_le hb.1 hw.size)];exact hw.keep b hb
 ·have hb':(if b=w.heap.size then some i0 else G.own b)=some i:=hb
  split at hb'
  ·rename_i e;subst e;exact ⟨by rw [hh];simp,hK⟩
  ·have:=hw.own b i hb';exact ⟨by rw [hh];simp;omega,this.2⟩
 ·simp only [List.length_set] at hi
  have:=hw.fresh i (by omega)
  refine ⟨?_,this.2⟩
  show (if i=i0 then some w.heap.size else G.loc i)=none
  rw [if_neg (by omega)];exact this.1
 ·rw [List.getElem?_set] at hi
  by_cases hie:i0=i
  ·subst hie
   simp only [if_true,hi0] at hi
   cases hi
   refine ⟨w.heap.size,[w.heap.size],?_,List.mem_singleton.2 rfl,fun n=>hf.2 n,fun k hk=>?_,hR _ hnew,hloc _⟩
   ·show (if i0=i0 then _ else _)=_;simp
   ·rw [List.mem_singleton] at hk
    subst hk
    refine ⟨?_,fun a ha=>?_⟩
    ·show (if w.heap.size=w.heap.size then _ else _)=_;simp
    ·cases hg:G.imm a with
     | none=>exact hg
     | some v=>have:=World.block_lt_of_cell? _ _ (hw.imm a v hg);omega
  ·rw [if_neg hie] at hi
   refine (hw.obj i ob' hi).keep hle (fun b hb=>?_) (fun n hn=>hn) (fun hn=>by show (if i=i0 then _ else G.loc i)=none;rw [if_neg (fun e=>hie e.symm)];exact hn)
   exact ⟨by rw [hh];exact qBa _ _ _ (hw.own b i hb).1,fun a ha=>rfl⟩
theorem WRel.setOpq {E:Env} {G:Gh} {h:List AObj} {w:World} {i b:Nat} {o':Obj} {R R':(Nat→Option Obj)→Nat→List Nat→Prop} (hw:WRel E G h w) (hi:h[i]?=some (.opq R)) (hl:G.loc i=some b) (hown:G.own b=some i) (himm:∀ a:Addr,a.block=b→G.imm a=none)
  (hb:b < w.heap.size) (w':World) (hh:w'.heap=w.heap.setIfInBounds b o') (ho:w'.os=w.os) (ht:w'.tape=w.tape) (hout:w'.output=w.output)
  (hR:∀ f:Nat→Option Obj,f b=some o'→R' f b [b]) (hloc:∀ (b:Nat) (f g:Nat→Option Obj),(∀ k,k∈[b]→f k=g k)→R' f b [b]→R' g b [b]):WRel E G (h.set i (.opq R')) w':=by
 have hat:w'.heap[b]?=some o':=by rw [hh];simp [hb]
 have hne:∀ k,k≠b→w'.heap[k]?=w.heap[k]?:=fun k hk=>by rw [hh];simp [Ne.symm hk]
 have hsz:w'.heap.size=w.heap.size:=by rw [hh];simp
 have hNK:¬ E.K b:=(hw.own b i hown).2
 refine ⟨hw.le,fun a u ha=>?_,hw.immNew,fun k hk=>?_,by rw [hsz];exact hw.size,ho.trans hw.os,ht.trans hw.tape,hout.trans hw.output,fun k j hk=>by rw [hsz];exact hw.own k j hk,fun j hj=>hw.fresh j (by simpa using hj),fun j ob hj=>?_⟩
 ·have hab:a.block≠b:=fun hh=>by rw [himm a hh] at ha;cases ha
  rw [World.cell?_of_block (w:=w) (hne _ hab)]
  exact hw.imm a u ha
 ·rw [hne k (fun hh=>hNK (hh▸hk))]
  exact hw.keep k hk
 ·rw [List.getElem?_set] at hj
  split at hj
  ·rename_i e
   subst e
   split at hj
   ·cases hj
    obtain ⟨b',S,k1,k2,k3,k4,_,_⟩:=hw.obj i _ hi
    rw [hl] at k1
    cases k1
    exact ⟨b,[b],hl,List.mem_singleton.2 rfl,k3,fun k hk=>by rw [List.mem_singleton] at hk;subst hk;exact ⟨hown,himm⟩,hR _ hat,hloc b⟩
   ·cases hj
  ·rename_i hij
   refine (hw.obj j ob hj).keep (.refl G) (fun k hk=>?_) (fun m hm=>hm) (fun hm=>hm)
   have hkb:k≠b:=fun hh=>by rw [hh,hown] at hk;cases hk;exact hij rfl
   exact ⟨hne k hkb,fun a ha=>rfl⟩
section
variable {P:Program} {E:Env} {T:Tr} {o:Oper} {ρ:Operand→AV} {h h':List AObj} {v:AV}
theorem RepA.mp_inv {G:Gh} {v:Value} {i:Nat} (h:RepA G (.mp i) v):∃ b,v=.map (some b)∧G.loc i=some b:=by cases h with | mp r=>exact ⟨_,rfl,r⟩
theorem RepA.ptr_inv0 {G:Gh} {v:Value} {i:Nat} (h:RepA G (.ptr i 0) v):∃ b,v=.pointer (some ⟨b,0,none⟩)∧G.loc i=some b:=by cases h with | ptr _ r=>exact ⟨_,rfl,r⟩
theorem makeMap_ok {t m:Nat} (ho:o.op=.makeMap t none) (hroom:h[m]?=some .room):OpS P E o ρ h (.mp m) (h.set m (.opq (qTs []))) :=
 qBf fun G e w hw hr=>by
  have hn:=hw.newOpqAt hroom (.map #[] 0) (qTs []) (w.alloc (.map #[] 0)) rfl rfl rfl rfl (fun f hf=>⟨rfl,#[],0,hf,MapKept.stamped_empty 0,fun e he=>by simp at he,fun p hp=>by cases hp⟩) (fun b f g=>mapR_loc f g)
  refine ⟨.map (some w.heap.size),_,_,?_,hn.1,hn.2,.mp (by show (if m=m then _ else _)=_;simp)⟩
  unfold execOp
  simp [ho,Instr.makeMap]
theorem vDs {t kt et m:Nat} {x kx vx:Operand} {A:List (Dat×Dat)} {k v:Dat} {d:TypeDesc} (ho:o.op=.insert t x kx vx) (ht:P.underlying t=some (.map kt et)) (hd:P.underlying kt=some d) (hx:ρ x=.mp m) (hk:ρ kx=.d k) (hv:ρ vx=.d v)
  (hi:h[m]?=some (.opq (qTs A))) (hkf:qGa k=true) (hvf:qGa v=true) (hkey:∀ p,p∈(k,v)::A→MapKept.IsKey d (qFa p.1)∧qGa p.1=true) (hnew:∀ p,p∈A→p.1≠k):OpS P E o ρ h .any (h.set m (.opq (qTs ((k,v)::A)))) :=
 qHn fun G e w hw hr=>by
  have hx':RepA G (ρ x) (e x):=hr x (by simp [ho,Op.operands])
  have hk':RepA G (ρ kx) (e kx):=hr kx (by simp [ho,Op.operands])
  have hv':RepA G (ρ vx) (e vx):=hr vx (by simp [ho,Op.operands])
  rw [hx] at hx';rw [hk] at hk';rw [hv] at hv'
  obtain ⟨b,hxv,hlb⟩:=hx'.mp_inv
  have hkv:e kx=qFa k:=by
   generalize e kx=u at hk'
   cases hk' with
   | d r=>exact vDx hkf r
  have hvv:e vx=qFa v:=by
   generalize e vx=u at hv'
   cases hv' with
   | d r=>exact vDx hvf r
  obtain ⟨b',S,k1,k2,k3,k4,⟨k5,es,clock,k6,k7⟩,_⟩:=hw.obj m _ hi
  rw [hlb] at k1
  cases k1
  have k6:w.heap[b]?=some (.map es clock):=k6
  obtain ⟨kown,kimm⟩:=k4 b k2
  have hbl:b < w.heap.size:=(hw.own b m kown).1
  have hkk:=(hkey (k,v) List.mem_cons_self).1
  have hks:∀ x,x∈es.toList→MapKept.IsKey d x.key:=fun y hy=>by
   obtain ⟨p,hp,h1,_⟩:=k7.fwd y hy
   rw [h1]
   exact (hkey p (List.mem_cons_of_mem _ hp)).1
  have hne:∀ x,x∈es.toList→x.key≠qFa k:=fun y hy hh=>by
   obtain ⟨p,hp,h1,_⟩:=k7.fwd y hy
   rw [h1] at hh
   exact hnew p hp (flatV_inj (hkey p (List.mem_cons_of_mem _ hp)).2 hkf hh)
  have hfind:Instr.findNow d (qFa k) es.toList 0=some none:=by
   rcases MapKept.findNow_spec hkk es.toList 0 hks with ⟨h1,_⟩ | ⟨j,e',_,h2,h3⟩
   ·exact h1
   ·exact absurd h3 (hne e' (List.mem_of_getElem? h2))
  refine ⟨{ w with heap:=w.heap.setIfInBounds b (.map (es.push { key:=qFa k,val:=qFa v,born:=clock }) (clock+1)) },G,?_,.refl G,
   hw.setOpq hi hlb kown kimm hbl _ rfl rfl rfl rfl (fun f hf=>⟨rfl,_,_,hf,MapKept.stamped_push k7.st hne,fun y hy=>?_,fun p hp=>?_⟩) (fun b f g=>mapR_loc f g)⟩
  ·unfold execOp
   simp [ho,hxv,hkv,hvv,Instr.mapUpdate,run_underlying ht,MapKept.run_getObj_map k6,MapKept.run_checkKey hd hkk,MapKept.run_findKey hd hfind,MapKept.run_setObj_map _ k6,Result.andThen]
  ·simp only [Array.toList_push,List.mem_append,List.mem_singleton] at hy
   rcases hy with hy | rfl
   ·obtain ⟨p,hp,h1,h2⟩:=k7.fwd y hy
    exact ⟨p,List.mem_cons_of_mem _ hp,h1,h2⟩
   ·exact ⟨(k,v),List.mem_cons_self,rfl,rfl⟩
  ·rcases List.mem_cons.1 hp with rfl | hp
   ·exact ⟨{ key:=qFa k,val:=qFa v,born:=clock },by simp,rfl,rfl⟩
   ·obtain ⟨y,hy,h1,h2⟩:=k7.bwd p hp
    exact ⟨y,by simp [hy],h1,h2⟩
theorem vGr {t kt et m it:Nat} {x:Operand} {A:List (Dat×Dat)} (ho:o.op=.range t x) (ht:P.underlying t=some (.map kt et)) (hx:ρ x=.mp m) (hi:h[m]?=some (.opq (qTs A))) (hroom:h[it]?=some .room) :
  OpR P E o ρ h (fun u k=>∃ y:Nat×Array MapEntry×Nat,MapIs A y.2.1 y.2.2∧u=.ptr it 0∧k=(h.set m (.opq (vGy y.1 y.2.1 y.2.2))).set it (.opq (qRj y.1 y.2.2 #[] y.2.2))):=by
 intro G a w hw hr
 have hx':RepA G (ρ x) (a.eval x):=hr x (by simp [ho,Op.operands])
 rw [hx] at hx'
 obtain ⟨b,hxv,hlb⟩:=hx'.mp_inv
 obtain ⟨b',S,k1,k2,k3,k4,⟨k5,es,clock,k6,k7⟩,_⟩:=hw.obj m _ hi
 rw [hlb] at k1
 cases k1
 have k6:w.heap[b]?=some (.map es clock):=k6
 subst k5
 have hne:m≠it:=fun hh=>by rw [hh,hroom] at hi;cases hi
 have hw1:WRel E G (h.set m (.opq (vGy b es clock))) w:=hw.reObj hi fun hob=>by
  exact ⟨b,[b],hlb,List.mem_singleton.2 rfl,k3,k4,⟨rfl,rfl,k6⟩,fun f g=>mapC_loc f g⟩
 have hroom':(h.set m (.opq (vGy b es clock)))[it]?=some .room:=by rw [List.getElem?_set_ne hne];exact hroom
 have hn:=hw1.newOpqAt hroom' (.mapIter (some b) clock #[] clock) (qRj b clock #[] clock) (w.alloc (.mapIter (some b) clock #[] clock)) rfl rfl rfl rfl (fun f hf=>⟨rfl,hf⟩) (fun b f g=>iterC_loc f g)
 have hrun:=run_range_map (P:=P) w t kt et b es clock ht k6
 have hex:(execOp a.eval o).run P w=.ok (.value (.pointer (some ⟨w.heap.size,0,none⟩))) (w.alloc (.mapIter (some b) clock #[] clock)):=by
  unfold execOp
  simp [ho,hxv,hrun]
 unfold Oper.wp
 rw [hex]
 exact ⟨_,qEi G it w.heap.size,.ptr it 0,_,⟨(b,es,clock),k7,rfl,rfl⟩,rfl,hn.1,hn.2,.ptr 0 (by show (if it=it then _ else _)=_;simp)⟩
end
section
variable {P:Program} {E:Env} {N:Nat} {ops:Array Oper} {M:Array Bool→AObj} {m L:Nat} {rd wr:Nat→List Nat}
def Closed (ops:Array Oper) (listed:Array Bool):Prop:=∀ i o,ops[i]?=some o→listed.getD i false=true→∀ e∈o.after,Region.binds .any e=true→listed.getD e.on false=true
theorem Closed.set {listed:Array Bool} {i:Nat} (h:Closed ops listed) (hi:i∈Region.ready .any ops listed):Closed ops (listed.setIfInBounds i true):=by
 intro j o ho hj e he hb
 by_cases hji:i=j
 ·subst hji
  obtain ⟨_,o',ho',hall⟩:=mem_ready.1 hi
  rw [ho] at ho';cases ho'
  exact getD_set_true (hall e he hb)
 ·rw [getD_set_ne false hji] at hj
  exact getD_set_true (h j o ho hj e he hb)
theorem qKq {listed:Array Bool} {i:Nat} (h:listed.getD i true=false):listed.getD i false=false:=by
 rcases Nat.lt_or_ge i listed.size with h' | h'
 ·simp [h'] at h ⊢;exact h
 ·simp [Array.getElem?_eq_none h'] at h
def SM (P:Program) (E:Env) (N:Nat) (ops:Array Oper) (M:Array Bool→AObj) (m:Nat) (rd wr:Nat→List Nat) (i:Nat) (o:Oper) (τ:Nat→AV) (h:List AObj) (v:AV) (os:List AObj):Prop :=
 ∀ (listed:Array Bool) (k:List AObj),Closed ops listed→i∈Region.ready .any ops listed→k.length=h.length→(∀ j,j∈rd i→k[j]?=h[j]?) →
  StepR P E N ops o τ (k.set m (M listed)) (fun a b=>a=v∧b=(qGg k (wr i) os).set m (M (listed.setIfInBounds i true)))
theorem SM.congr {i:Nat} {o:Oper} {τ τ':Nat→AV} {h h' os:List AObj} {v:AV} (hc:∀ d,d∈o.looksAt ops→τ' d=τ d) (hl:h'.length=h.length) (hh:∀ j,j∈rd i→h'[j]?=h[j]?)
  (H:SM P E N ops M m rd wr i o τ h v os):SM P E N ops M m rd wr i o τ' h' v os :=
 fun listed k h0 h1 h2 h3=>qOn hc (H listed k h0 h1 (h2.trans hl) fun j hj=>(h3 j hj).trans (hh j hj))
def vNe (P:Program) (E:Env) (N:Nat) (ops:Array Oper) (M:Array Bool→AObj) (m L:Nat) (Q:(Nat→AV)→List AObj→Prop) (listed:Array Bool) (τ:Nat→AV) (h:List AObj):Prop :=
 Region.ready .any ops listed=[L]∧Region.ready .any ops (listed.setIfInBounds L true)=[]∧∃ o R,ops[L]?=some o∧StepR P E N ops o τ (h.set m (M listed)) R∧∀ v h',R v h'→Q (qKm τ o.dst v) h'
def vMn (P:Program) (E:Env) (N:Nat) (ops:Array Oper) (M:Array Bool→AObj) (m L:Nat) (rd wr:Nat→List Nat) (Q:(Nat→AV)→List AObj→Prop):Nat→Array Bool→(Nat→AV)→List AObj→Prop
 | 0,listed,τ,h=>vNe P E N ops M m L Q listed τ h
 | fuel+1,listed,τ,h=>Region.ready .any ops listed≠[]∧∀ i,i∈Region.ready .any ops listed→i≠L∧∃ o v os,ops[i]?=some o∧SM P E N ops M m rd wr i o τ h v os ∧
   vMn P E N ops M m L rd wr Q fuel (listed.setIfInBounds i true) (qKm τ o.dst v) (qGg h (wr i) os)
theorem anyM_sound {Q:Exit→(Nat→AV)→List AObj→Prop}:∀ (fuel:Nat) (listed:Array Bool) (τ:Nat→AV) (h:List AObj) (a:Act) (w:World),Closed ops listed→vMn P E N ops M m L rd wr (Q .normal) fuel listed τ h→Rel E N τ (h.set m (M listed)) a w →
  wpAny P .any ops (fun ex a' w'=>∃ τ' h',Q ex τ' h'∧Rel E N τ' h' a' w') (fuel+1) listed a w
 | 0,listed,τ,h,a,w,hc,⟨h1,h2,o,R,ho,hs,hk⟩,hr=>by
  refine ⟨fun h0=>(by rw [h1] at h0;cases h0),fun i hi=>?_⟩
  rw [h1,List.mem_singleton] at hi
  subst hi
  exact qGn ho hs hr fun v h' a' w' hR hrel=>⟨h2,_,h',hk v h' hR,hrel⟩
 | fuel+1,listed,τ,h,a,w,hc,⟨h1,h2⟩,hr=>by
  refine ⟨fun h0=>absurd h0 h1,fun i hi=>?_⟩
  obtain ⟨_,o,v,os,ho,hsm,hk⟩:=h2 i hi
  exact qGn ho (hsm listed h hc hi rfl fun _ _=>rfl) hr fun v' h'' a' w' ⟨e1,e2⟩ hrel=>by
   subst e1;subst e2
   exact anyM_sound fuel _ _ _ a' w' (hc.set hi) hk hrel
theorem anyM_first {Q:(Nat→AV)→List AObj→Prop} {i:Nat} {oi:Oper} {v:AV} {osi:List AObj} (hi:ops[i]?=some oi) (hiL:i≠L) (hL:∀ listed,Closed ops listed→L∈Region.ready .any ops listed→listed.getD i false=true) :
  ∀ (fuel:Nat) (listed:Array Bool) (τ:Nat→AV) (h:List AObj),Closed ops listed →
  (∀ j oj,ops[j]?=some oj→j≠i→listed.getD j true=false→(∀ e∈oj.after,Region.binds .any e=true→e.on≠i)→oi.apart ops oj=true∧conf rd wr i j=false) →
  i∈Region.ready .any ops listed→SM P E N ops M m rd wr i oi τ h v osi→vMn P E N ops M m L rd wr Q fuel (listed.setIfInBounds i true) (qKm τ oi.dst v) (qGg h (wr i) osi)→vMn P E N ops M m L rd wr Q (fuel+1) listed τ h:=by
 have noL:∀ (listed:Array Bool) (j:Nat),Closed ops listed→i∈Region.ready .any ops listed→j∈Region.ready .any ops listed→j≠L:=fun listed j hc hr hj hjL=>by
  subst hjL
  have h1:=hL listed hc hj
  rw [qKq (mem_ready.1 hr).1] at h1
  cases h1
 intro fuel
 induction fuel with
 | zero =>
  intro listed τ h hcl _ hr hy H
  refine ⟨fun h0=>(by rw [h0] at hr;cases hr),fun j hj=>⟨noL listed j hcl hr hj,?_⟩⟩
  by_cases hji:j=i
  ·subst hji;exact ⟨oi,v,osi,hi,hy,H⟩
  ·have h1:=ready_mono hj hji
   rw [H.1,List.mem_singleton] at h1
   exact absurd h1 (noL listed j hcl hr hj)
 | succ fuel ih =>
  intro listed τ h hcl hfree hr hy H
  refine ⟨fun h0=>(by rw [h0] at hr;cases hr),fun j hj=>⟨noL listed j hcl hr hj,?_⟩⟩
  by_cases hji:j=i
  ·subst hji;exact ⟨oi,v,osi,hi,hy,H⟩
  ·obtain ⟨_,oj,vj,osj,hoj,hsj,hk⟩:=H.2 j (ready_mono hj hji)
   obtain ⟨hjun,oj',hoj',hall⟩:=mem_ready.1 hj
   rw [hoj] at hoj';cases hoj'
   have hnot:∀ e∈oj.after,Region.binds .any e=true→e.on≠i:=fun e he hb heq=>by
    have h1:=hall e he hb
    rw [heq,qKq (mem_ready.1 hr).1] at h1
    cases h1
   obtain ⟨hap,hcf⟩:=hfree j oj hoj hji hjun hnot
   obtain ⟨a1,a2,a3⟩:=Oper.apart_spec hap
   simp only [conf,Bool.or_eq_false_iff] at hcf
   obtain ⟨⟨f1,f2⟩,f3⟩:=hcf
   have f1:=qEk f1
   have f2:=qEk f2
   have f3:=qEk f3
   have cj:∀ d,d∈oj.looksAt ops→τ d=qKm τ oi.dst v d:=fun d hd=>(putA_other fun e he hh=>a1 e he (hh▸hd)).symm
   have ci:∀ u d,d∈oi.looksAt ops→qKm τ oj.dst u d=τ d:=fun u d hd=>putA_other fun e he hh=>a3 e he (hh▸hd)
   have hfree':∀ k ok,ops[k]?=some ok→k≠i→(listed.setIfInBounds j true).getD k true=false→(∀ e∈ok.after,Region.binds .any e=true→e.on≠i)→oi.apart ops ok=true∧conf rd wr i k=false:=fun k ok hk' hki hun hno=>by
    refine hfree k ok hk' hki ?_ hno
    by_cases hjk:j=k
    ·subst hjk;exact hjun
    ·rw [getD_set_ne true hjk] at hun;exact hun
   refine ⟨oj,vj,osj,hoj,hsj.congr cj (by rw [updH_length]) (fun x hx=>(updH_other _ _ _ _ (fun hw=>f1 x hw hx)).symm),ih _ _ _ (hcl.set hj) hfree' (ready_mono hr (Ne.symm hji)) (hy.congr (ci vj) (by rw [updH_length]) (fun x hx=>updH_other _ _ _ _ (fun hw=>f3 x hw hx))) ?_⟩
   rw [Array.setIfInBounds_comm _ _ hji,← putA_comm a2,← updH_comm _ _ _ _ _ f2]
   exact hk
def AWdM (P:Program) (E:Env) (N:Nat) (ops:List Oper) (M:Array Bool→AObj) (m L:Nat) (rd wr:Nat→List Nat) (Q:(Nat→AV)→List AObj→Prop):List Oper→Nat→(Nat→AV)→List AObj→Prop
 | [],_,τ,h=>∃ o R,ops[L]?=some o∧(∀ listed,(∀ i,i < L→listed.getD i false=true)→StepR P E N ops.toArray o τ (h.set m (M listed)) R)∧∀ v h',R v h'→Q (qKm τ o.dst v) h'
 | o::rest,i,τ,h=>∃ v os,SM P E N ops.toArray M m rd wr i o τ h v os∧AWdM P E N ops M m L rd wr Q rest (i+1) (qKm τ o.dst v) (qGg h (wr i) os)
def vLv (ops:Array Oper) (rd wr:Nat→List Nat) (L:Nat):Nat→Nat→Array Bool→Bool
 | 0,_,listed=>(Region.ready .any ops listed == [L])&&(Region.ready .any ops (listed.setIfInBounds L true)).isEmpty&&(List.range L).all fun i=>listed.getD i false
 | fuel+1,k,listed=>(Region.ready .any ops listed).contains k&&vHg ops rd wr listed k&&!Nat.beq k L&&vLv ops rd wr L fuel (k+1) (listed.setIfInBounds k true)
def qYr (ops:Array Oper) (L L':Nat):Bool:=match ops[L]?,ops[L']? with
 | some o,some o'=>o.after.any (fun e=>Region.binds .any e&&Nat.beq e.on L')&&(List.range ops.size).all fun k=>Nat.beq k L||Nat.beq k L'||o'.after.any fun e=>Region.binds .any e&&Nat.beq e.on k
 | _,_=>false
theorem lastOk_spec {L':Nat} (h:qYr ops L L'=true) {i:Nat} {oi:Oper} (hi:ops[i]?=some oi) (hiL:i≠L) (listed:Array Bool) (hc:Closed ops listed) (hr:L∈Region.ready .any ops listed):listed.getD i false=true:=by
 unfold qYr at h
 split at h
 ·rename_i o o' ho ho'
  simp only [Bool.and_eq_true,List.all_eq_true,List.mem_range] at h
  obtain ⟨h1,h2⟩:=h
  obtain ⟨e,he,hb⟩:=Array.any_eq_true'.1 h1
  simp only [Bool.and_eq_true] at hb
  obtain ⟨_,o2,ho2,hall⟩:=mem_ready.1 hr
  rw [ho] at ho2;cases ho2
  have hl:=hall e he hb.1
  rw [Nat.eq_of_beq_eq_true hb.2] at hl
  have h3:=h2 i (Array.getElem?_eq_some_iff.1 hi).1
  simp only [Bool.or_eq_true] at h3
  rcases h3 with (h3 | h3) | h3
  ·exact absurd (Nat.eq_of_beq_eq_true h3) hiL
  ·rw [Nat.eq_of_beq_eq_true h3];exact hl
  ·obtain ⟨e2,he2,hb2⟩:=Array.any_eq_true'.1 h3
   simp only [Bool.and_eq_true] at hb2
   have:=hc L' o' ho' hl e2 he2 hb2.1
   rw [Nat.eq_of_beq_eq_true hb2.2] at this
   exact this
 ·cases h
theorem qZp {ops:List Oper} {Q:(Nat→AV)→List AObj→Prop} {L':Nat} (hlast:qYr ops.toArray L L'=true):∀ (l:List Oper) (k:Nat) (listed:Array Bool) (τ:Nat→AV) (h:List AObj),(∀ j,j < l.length→l[j]?=ops[k+j]?)→Closed ops.toArray listed →
  vLv ops.toArray rd wr L l.length k listed=true→AWdM P E N ops M m L rd wr Q l k τ h→vMn P E N ops.toArray M m L rd wr Q l.length listed τ h
 | [],_,listed,τ,h,_,_,hB,⟨o,R,ho,hs,hk⟩=>by
  simp only [List.length_nil,vLv,Bool.and_eq_true,List.all_eq_true,List.mem_range,beq_iff_eq] at hB
  exact ⟨hB.1.1,by simpa using hB.1.2,o,R,by simpa using ho,hs listed hB.2,hk⟩
 | o::l,k,listed,τ,h,hl,hc,hB,H=>by
  have h0:ops.toArray[k]?=some o:=by simpa using (hl 0 (by simp)).symm
  simp only [List.length_cons,vLv,Bool.and_eq_true,Bool.not_eq_true'] at hB
  obtain ⟨⟨⟨hr,hf⟩,hkL⟩,hB'⟩:=hB
  have hr':k∈Region.ready .any ops.toArray listed:=by simpa using hr
  have hkL':k≠L:=fun hh=>by rw [hh] at hkL;simp at hkL
  obtain ⟨v,os,hs,hk⟩:=H
  exact anyM_first h0 hkL' (fun listed hcl hrL=>lastOk_spec hlast h0 hkL' listed hcl hrL) l.length listed τ h hc (freeD_spec h0 hf) hr' hs
   (qZp hlast l (k+1) _ _ _ (fun j hj=>by have:=hl (j+1) (by simp only [List.length_cons];omega);simpa [Nat.add_assoc,Nat.add_comm 1 j] using this) (hc.set hr') hB' hk)
theorem vIl {id:Nat} (M:Array Bool→AObj) (m L L':Nat) (rd wr:Nat→List Nat) {ops:List Oper} {Q:Exit→(Nat→AV)→List AObj→Prop} {τ:Nat→AV} {h:List AObj} (hm:P.follows .mixedOrders=true) (hlen:ops.length=L+1)
  (hB:vLv ops.toArray rd wr L L 0 (Array.replicate ops.length false)=true) (hlast:qYr ops.toArray L L'=true) (h0:h.set m (M (Array.replicate ops.length false))=h) (H:AWdM P E N ops M m L rd wr (Q .normal) (ops.take L) 0 τ h) :
  AW P E N (.region id ops.toArray true) Q τ h:=by
 intro a w hr
 refine wp_region_any hm ?_
 have hll:(ops.take L).length=L:=by simp [hlen]
 have h1:=qZp (P:=P) (E:=E) (N:=N) (M:=M) (m:=m) (rd:=rd) (wr:=wr) hlast (ops.take L) 0 (Array.replicate ops.length false) τ h (fun j hj=>by rw [hll] at hj;simp [List.getElem?_take,hj]) (fun i o _ hi=>by
  rcases Nat.lt_or_ge i ops.length with h' | h'
  ·simp [h'] at hi
  ·simp [Array.getElem?_eq_none (show (Array.replicate ops.length false).size≤i by simpa using h')] at hi) (by rw [hll];exact hB) H
 have h2:=anyM_sound (Q:=Q) _ _ _ _ a _ (fun i o _ hi=>by
  rcases Nat.lt_or_ge i ops.length with h' | h'
  ·simp [h'] at hi
  ·simp [Array.getElem?_eq_none (show (Array.replicate ops.length false).size≤i by simpa using h')] at hi) h1 (by rw [h0];exact hr.drew)
 rw [hll] at h2
 simpa [hlen] using h2
theorem qDv {ops:List Oper} {Q:(Nat→AV)→List AObj→Prop} {o:Oper} {rest:List Oper} {i:Nat} {τ:Nat→AV} {h:List AObj} (hr:m∉rd i) (hw:m∉wr i) (hM:∀ listed:Array Bool,M (listed.setIfInBounds i true)=M listed)
  (H:AWd P E N ops rd wr (fun τ' h'=>AWdM P E N ops M m L rd wr Q rest (i+1) τ' h') [o] i τ h):AWdM P E N ops M m L rd wr Q (o::rest) i τ h:=by
 obtain ⟨v,os,hs,hk⟩:=H
 refine ⟨v,os,fun listed k hc hi hl hh=>?_,hk⟩
 have h1:=hs (k.set m (M listed)) (by simpa using hl) (fun j hj=>by rw [List.getElem?_set_ne (fun hh=>hr (by rw [hh];exact hj))];exact hh j hj)
 have e:qGg (k.set m (M listed)) (wr i) os=(qGg k (wr i) os).set m (M listed):=updH_comm [m] (wr i) [M listed] os k (fun x hx=>by rw [List.mem_singleton] at hx;subst hx;exact hw)
 rw [e] at h1
 rw [hM listed]
 exact h1
def qPr (ins:List (Nat×Dat×Dat)) (listed:Array Bool):List (Dat×Dat):=(ins.filter fun x=>listed.getD x.1 false).map Prod.snd
def mapM (i0:Nat) (ins:List (Nat×Dat×Dat)) (listed:Array Bool):AObj:=bif listed.getD i0 false then .opq (qTs (qPr ins listed)) else .room
theorem mapM_other {i0:Nat} {ins:List (Nat×Dat×Dat)} {i:Nat} (h:(!Nat.beq i i0&&ins.all fun x=>!Nat.beq x.1 i)=true) (listed:Array Bool):mapM i0 ins (listed.setIfInBounds i true)=mapM i0 ins listed:=by
 simp only [Bool.and_eq_true,Bool.not_eq_true',List.all_eq_true] at h
 have e1:qPr ins (listed.setIfInBounds i true)=qPr ins listed:=by
  unfold qPr
  congr 1
  refine List.filter_congr fun x hx=>?_
  have:=h.2 x hx
  exact getD_set_ne false (fun hh=>by rw [hh] at this;simp at this)
 unfold mapM
 rw [e1,getD_set_ne false (fun hh=>by rw [hh] at h;simp at h)]
theorem MapIs.congr {A B:List (Dat×Dat)} {es:Array MapEntry} {c:Nat} (h:∀ p,p∈A↔p∈B) (H:MapIs A es c):MapIs B es c :=
 ⟨H.st,fun e he=>by obtain ⟨p,hp,k⟩:=H.fwd e he;exact ⟨p,(h p).1 hp,k⟩,fun p hp=>H.bwd p ((h p).2 hp)⟩
theorem mapR_congr {A B:List (Dat×Dat)} (h:∀ p,p∈A↔p∈B):qTs A=qTs B:=by
 funext f b S
 refine propext ⟨fun ⟨h1,es,c,h2,h3⟩=>⟨h1,es,c,h2,h3.congr h⟩,fun ⟨h1,es,c,h2,h3⟩=>⟨h1,es,c,h2,h3.congr fun p=>(h p).symm⟩⟩
theorem qQp {dst:Option Tmp} {op:Op} {ty:TypeId} {pos:String} {after:Array Edge} {τ:Nat→AV} {h:List AObj} {v:AV} {h':List AObj} (hd:qUc N ⟨dst,op,ty,pos,after,none⟩=true) (hs:OpS P E ⟨dst,op,ty,pos,after,none⟩ (ev τ) h v h') :
  StepR P E N ops ⟨dst,op,ty,pos,after,none⟩ τ h (fun a b=>a=v∧b=h'):=⟨hd,qDi hs⟩
def vIy (ops:Array Oper) (i0:Nat) (ins:List (Nat×Dat×Dat)):Bool:=ins.all fun x=>match ops[x.1]? with
 | some o=>o.after.any fun e=>Region.binds .any e&&Nat.beq e.on i0
 | none=>false
theorem vIg {T:Tr} (hT:TOk P T) {ops:List Oper} {Q:(Nat→AV)→List AObj→Prop} {rest:List Oper} {i d t:Nat} {ty:TypeId} {pos:String} {after:Array Edge} {ins:List (Nat×Dat×Dat)} {l:List (Nat×AV)} {h:List AObj} (hd:Nat.blt d N=true)
  (hdep:vIy ops.toArray i ins=true) (hlt:i < ops.length) (hm:m < h.length) (hw:wr i=[])
  (H:AWdM P E N ops (mapM i ins) m L rd wr Q rest (i+1) (look ((d,.mp m)::l)) h):AWdM P E N ops (mapM i ins) m L rd wr Q (⟨some d,.makeMap t none,ty,pos,after,none⟩::rest) i (look l) h:=by
 refine ⟨.mp m,[],fun listed k hc hi hl hh=>?_,by rw [hw,updH_nil];exact H⟩
 have hun:=qKq (mem_ready.1 hi).1
 have hsz:i < listed.size:=by
  rcases Nat.lt_or_ge i listed.size with h' | h'
  ·exact h'
  ·have:=(mem_ready.1 hi).1;simp [Array.getElem?_eq_none h'] at this
 have e0:mapM i ins listed=.room:=by unfold mapM;rw [hun];rfl
 have e1:mapM i ins (listed.setIfInBounds i true)=.opq (qTs []):=by
  have hs:qPr ins (listed.setIfInBounds i true)=[]:=by
   unfold qPr
   rw [List.map_eq_nil_iff,List.filter_eq_nil_iff]
   intro x hx hlx
   unfold vIy at hdep
   rw [List.all_eq_true] at hdep
   have h1:=hdep x hx
   split at h1
   ·rename_i o ho
    obtain ⟨e,he,hb⟩:=Array.any_eq_true'.1 h1
    simp only [Bool.and_eq_true] at hb
    have hxi:x.1≠i∨x.1=i:=by omega
    rcases hxi with hxi | hxi
    ·rw [getD_set_ne false (Ne.symm hxi)] at hlx
     have h2:=hc x.1 o ho hlx e he hb.1
     rw [Nat.eq_of_beq_eq_true hb.2,hun] at h2
     cases h2
    ·obtain ⟨_,o2,ho2,hall⟩:=mem_ready.1 hi
     rw [hxi] at ho
     rw [ho] at ho2;cases ho2
     have h2:=hall e he hb.1
     rw [Nat.eq_of_beq_eq_true hb.2,hun] at h2
     cases h2
   ·cases h1
  unfold mapM
  rw [hs]
  simp [hsz]
 rw [e0,e1,hw,updH_nil]
 have hroom:(k.set m .room)[m]?=some .room:=by simp [hl,hm]
 have:=makeMap_ok (P:=P) (E:=E) (o:=⟨some d,.makeMap t none,ty,pos,after,none⟩) (ρ:=ev (look l)) (h:=k.set m .room) (t:=t) (m:=m) rfl hroom
 rw [List.set_set] at this
 exact qQp hd this
theorem vBv {T:Tr} (hT:TOk P T) {ops:List Oper} {Q:(Nat→AV)→List AObj→Prop} {rest:List Oper} {i i0 t kt et:Nat} {x kx vx:Operand} {ty:TypeId} {pos:String} {after:Array Edge} {ins:List (Nat×Dat×Dat)} {l:List (Nat×AV)} {h:List AObj} {kk:IntKind} {n:Int} {s:List UInt8}
  (ht:P.underlying t=some (.map kt et)) (hkt:P.underlying kt=some (.int kk)) (hx:ev (look l) x=.mp m) (hk:ev (look l) kx=.d (.int kk n)) (hv:ev (look l) vx=.d (.str s)) (hin:(i,.int kk n,.str s)∈ins)
  (hall:∀ x∈ins,(∃ z u,x.2=(.int kk z,.str u))∧(x.1≠i→x.2.1≠.int kk n)) (hsame:∀ x∈ins,x.1=i→x.2=(.int kk n,.str s)) (hm:m < h.length) (hw:wr i=[]) (hni:i≠i0) (haft:after.any (fun e=>Region.binds .any e&&Nat.beq e.on i0)=true) (hop:ops[i]?=some ⟨none,.insert t x kx vx,ty,pos,after,none⟩)
  (H:AWdM P E N ops (mapM i0 ins) m L rd wr Q rest (i+1) (look l) h):AWdM P E N ops (mapM i0 ins) m L rd wr Q (⟨none,.insert t x kx vx,ty,pos,after,none⟩::rest) i (look l) h:=by
 refine ⟨.any,[],fun listed k hc hi hl hh=>?_,by rw [hw,updH_nil];exact H⟩
 obtain ⟨hun0,o2,ho2,hrdy⟩:=mem_ready.1 hi
 have hun:=qKq hun0
 have hsz:i < listed.size:=by
  rcases Nat.lt_or_ge i listed.size with h' | h'
  ·exact h'
  ·simp [Array.getElem?_eq_none h'] at hun0
 have ho2':o2=⟨none,.insert t x kx vx,ty,pos,after,none⟩:=by
  have:ops.toArray[i]?=ops[i]?:=by simp
  rw [this,hop] at ho2
  exact (Option.some.inj ho2).symm
 subst ho2'
 obtain ⟨e,he,hb⟩:=Array.any_eq_true'.1 haft
 simp only [Bool.and_eq_true] at hb
 have hl0:=hrdy e he hb.1
 rw [Nat.eq_of_beq_eq_true hb.2] at hl0
 have e0:mapM i0 ins listed=.opq (qTs (qPr ins listed)):=by unfold mapM;rw [hl0];rfl
 have hmem:∀ p,p∈(Dat.int kk n,Dat.str s)::qPr ins listed↔p∈qPr ins (listed.setIfInBounds i true):=fun p=>by
  unfold qPr
  simp only [List.mem_cons,List.mem_map,List.mem_filter]
  constructor
  ·rintro (rfl | ⟨y,⟨hy,hly⟩,rfl⟩)
   ·exact ⟨_,⟨hin,by simp [hsz]⟩,rfl⟩
   ·exact ⟨y,⟨hy,getD_set_true hly⟩,rfl⟩
  ·rintro ⟨y,⟨hy,hly⟩,rfl⟩
   by_cases hyi:y.1=i
   ·exact .inl (hsame y hy hyi)
   ·rw [getD_set_ne false (Ne.symm hyi)] at hly
    exact .inr ⟨y,⟨hy,hly⟩,rfl⟩
 have e1:mapM i0 ins (listed.setIfInBounds i true)=.opq (qTs ((.int kk n,.str s)::qPr ins listed)):=by
  unfold mapM
  rw [getD_set_ne false hni,hl0,mapR_congr hmem];rfl
 rw [e0,e1,hw,updH_nil]
 have hi':(k.set m (.opq (qTs (qPr ins listed))))[m]?=some (.opq (qTs (qPr ins listed))):=by simp [hl,hm]
 have hkey:∀ p,p∈(Dat.int kk n,Dat.str s)::qPr ins listed→MapKept.IsKey (.int kk) (qFa p.1)∧qGa p.1=true:=fun p hp=>by
  rcases List.mem_cons.1 hp with rfl | hp
  ·exact ⟨rfl,rfl⟩
  ·unfold qPr at hp
   obtain ⟨y,hy,rfl⟩:=List.mem_map.1 hp
   obtain ⟨z,u,hz⟩:=(hall y (List.mem_filter.1 hy).1).1
   rw [hz]
   exact ⟨rfl,rfl⟩
 have hnew:∀ p,p∈qPr ins listed→p.1≠Dat.int kk n:=fun p hp=>by
  unfold qPr at hp
  obtain ⟨y,hy,rfl⟩:=List.mem_map.1 hp
  obtain ⟨hy1,hy2⟩:=List.mem_filter.1 hy
  refine (hall y hy1).2 fun hh=>?_
  rw [hh,hun] at hy2
  cases hy2
 have:=vDs (P:=P) (E:=E) (o:=⟨none,.insert t x kx vx,ty,pos,after,none⟩) (ρ:=ev (look l)) (h:=k.set m (.opq (qTs (qPr ins listed)))) rfl ht hkt hx hk hv hi' rfl rfl hkey hnew
 rw [List.set_set] at this
 exact qQp rfl this
end
section
variable {P:Program} {E:Env} {T:Tr} {o:Oper} {ρ:Operand→AV} {h h':List AObj} {v:AV}
theorem vCw {G:Gh} {xv:Value} {w:World} {h:List AObj} {i2 m cap2 sz:Nat} {cs2:List AV} (hw:WRel E G h w) (hr:RepA G (.row i2 0 m cap2) xv) (hi2:h[i2]?=some (.row cs2)) (hl2:cs2.length=m*sz) :
  ∃ news,Src P w xv m sz news∧news.length=m*sz∧(∀ (k:Nat) (u:Value),news[k]?=some u→qIw u=true)∧∀ (j:Nat) (c:AV),cs2[j]?=some c→∃ u,news[j]?=some u∧RepA G c u:=by
 obtain ⟨b,hv,hl⟩:=hr.row_inv
 obtain ⟨b',hl',_,hrow,_⟩:=hw.obj i2 _ hi2
 rw [hl] at hl';cases hl'
 have o2:=vJj (P:=P) (i:=i2) (off:=0) (n:=m) (cap:=cap2) (sz:=sz) hrow (by omega)
 have k2:=vLr (k:=m*sz) hrow (off:=0) (by omega)
 rw [List.drop_zero,← hl2,List.take_length] at k2
 rw [hl2] at k2
 generalize hnews:((List.range (m*sz)).map fun j=>(w.cell? ⟨b,0+j,none⟩).getD undef)=news at o2 k2
 have hnl:news.length=cs2.length:=by rw [← hnews,hl2];simp
 subst hv
 refine ⟨news,o2,by omega,fun k u hu=>?_,fun j c hj=>?_⟩
 ·have hk:k < cs2.length:=by have:=(List.getElem?_eq_some_iff.1 hu).1;omega
  exact (k2 k cs2[k] u (by simp [hk]) hu).2
 ·have hk:j < news.length:=by have:=(List.getElem?_eq_some_iff.1 hj).1;omega
  exact ⟨news[j],by simp [hk],(k2 j c news[j] hj (by simp [hk])).1⟩
theorem bufAppRow_ok (hT:TOk P T) {t t2 sz by_ i n i2 m cap2:Nat} {s x:Operand} {cells cs2:List AV} (ho:o.op=.call { callee:=.builtin .append,args:=#[s,x],argTypes:=#[t,t2] })
  (ht:qSg T t=some (sz,by_)) (ht2:qVu T t2=true) (hs:ρ s=.bm i n) (hi:h[i]?=some (.buf sz n cells)) (hx:ρ x=.row i2 0 m cap2) (hi2:h[i2]?=some (.row cs2)) (hl2:cs2.length=m*sz)
  (hb:(n+m)*(by_+1)≤140737488355328):OpS P E o ρ h (.bm i (n+m)) (h.set i (.buf sz (n+m) (cells++cs2))) :=
 bufAppG_ok hT ho ht ht2 hs hi hl2 (fun G xv w hw hr=>vCw hw (by rw [← hx];exact hr) hi2 hl2) hb
theorem bufAppRow0_ok (hT:TOk P T) {t t2 sz by_ i i2 m cap2:Nat} {s x:Operand} {cs2:List AV} (ho:o.op=.call { callee:=.builtin .append,args:=#[s,x],argTypes:=#[t,t2] })
  (ht:qSg T t=some (sz,by_)) (ht2:qVu T t2=true) (hs:ρ s=.sl sz [] .full∨ρ s=.nils) (hsx:s≠x) (hi:h[i]?=some .room) (hx:ρ x=.row i2 0 m cap2) (hi2:h[i2]?=some (.row cs2)) (hl2:cs2.length=m*sz)
  (hb:m*(by_+1)≤140737488355328):OpS P E o ρ h (.bm i m) (h.set i (.buf sz m cs2)) :=
 bufApp0G_ok hT ho ht ht2 hs hsx hi hl2 (fun G xv w hw hr=>vCw hw (by rw [← hx];exact hr) (by rw [List.getElem?_set_ne (fun hh=>by rw [hh,hi2] at hi;cases hi)];exact hi2) hl2) hb
theorem copyStr_ok (hT:TOk P T) {t t2 by_ i off n cap:Nat} {d s:Operand} {cells:List AV} {b:List UInt8} (ho:o.op=.call { callee:=.builtin .copy,args:=#[d,s],argTypes:=#[t,t2] })
  (ht:qSg T t=some (1,by_)) (hd:ρ d=.row i off n cap) (hs:ρ s=.d (.str b)) (hi:h[i]?=some (.row cells)) (hle:off+n≤cells.length) :
  OpS P E o ρ h (.d (.int .i64 (Nat.min b.length n:Nat))) (h.set i (.row (qBv cells off (qAn (b.take n))))) :=
 qBf fun G e w hw hr=>by
  have hd':RepA G (ρ d) (e d):=hr d (by simp [ho,Op.operands,Call.operands])
  have hs':RepA G (ρ s) (e s):=hr s (by simp [ho,Op.operands,Call.operands])
  rw [hd] at hd';rw [hs] at hs'
  obtain ⟨bl,hdv,hl⟩:=hd'.row_inv
  have hsv:=hs'.str_inv
  obtain ⟨et,ie,h1,h2,hsz,rfl,hzl⟩:=appT_ok hT ht
  obtain ⟨b',hl',_,hrow,_⟩:=hw.obj i _ hi
  rw [hl] at hl';cases hl'
  have hbs:(⟨b.toArray⟩:ByteArray).size=b.length:=by simp [ByteArray.size]
  obtain ⟨w',q1,q2,q3,q4,q5,q6,q7⟩:=qEt (P:=P) ((b.take n).map fun c=>Value.int .u8 (c.toNat:Int)) (qAn (b.take n)) cells off 0 w hrow (by simp;omega) (by simp [qAn]) (fun j c u hc hu=>by
   simp only [qAn,List.getElem?_map,Option.map_eq_some_iff] at hc hu
   obtain ⟨x,hx,rfl⟩:=hc
   obtain ⟨y,hy,rfl⟩:=hu
   rw [hx] at hy;cases hy
   exact ⟨.d (.int _ _),rfl⟩)
  have hq:List.take (b.length.min n) (b.map fun c=>Value.int .u8 (c.toNat:Int))=(b.take n).map fun c=>Value.int .u8 (c.toNat:Int):=by
   rw [← List.map_take]
   congr 1
   rcases Nat.le_total b.length n with hc | hc
   ·rw [show b.length.min n=b.length from Nat.min_eq_left hc,List.take_length,List.take_of_length_le hc]
   ·rw [show b.length.min n=n from Nat.min_eq_right hc]
  refine ⟨_,w',G,?_,.refl G,hw.setObj hi hl (by simpa using q2) q3 q4 q5 q6 q7,.d (.int _ _)⟩
  unfold execOp
  simp only [ho,resolve,invoke,builtin]
  simp [hdv,hsv,Builtin.copy_,run_underlying h1,Builtin.lenOf,Builtin.firstCells,h2.run_size,hbs,goInt]
  rw [hq,q1]
  rfl
end
theorem qVw {P:Program} (w:World) (ty:TypeId) (r bm since c0:Nat) (seen:Array Nat) (es:Array MapEntry) (clock:Nat) (hr:w.heap[r]?=some (.mapIter (some bm) since seen c0)) (hb:w.heap[bm]?=some (.map es clock)) (hold:∀ x∈es.toList,x.born < since) (hsc:since≤c0) :
  ((leftOf es seen).size=0∧(Instr.next (.pointer (some ⟨r,0,none⟩)) false ty).run P w=.ok (.tuple #[.bool false]) w) ∨
  ∃ e∈(leftOf es seen).toList,∃ w1:World,(w1=w∨w1=w.drew)∧(Instr.next (.pointer (some ⟨r,0,none⟩)) false ty).run P w=.ok (.tuple #[.bool true,e.key,e.val]) { w1 with heap:=w1.heap.setIfInBounds r (.mapIter (some bm) since (seen.push e.born) clock) }:=by
 simp only [Instr.next,getObj,Sem.run_bind,Sem.run,hr,hb,Result.andThen,next_test_false seen es since c0 hold hsc,Bool.false_eq_true,if_false]
 unfold leftOf
 have hmem:∀ x∈(Array.filter (fun e=>!seen.contains e.born) es).toList,x.born < since:=fun x hx=>hold x (by simp at hx ⊢;exact hx.1)
 generalize Array.filter (fun e=>!seen.contains e.born) es=L at hmem ⊢
 have e1:L.filter (fun x=>decide (x.born < since))=L:=Array.filter_eq_self.2 (fun x hx=>by simpa using hmem x (by simpa using hx))
 have e2:L.filter (fun x=>decide (x.born≥since)) = #[]:=by
  rw [Array.filter_eq_empty_iff]
  intro x hx
  have:=hmem x (by simpa using hx)
  simp
  omega
 simp only [e1,e2,Array.append_empty]
 by_cases h0:L.size=0
 ·left
  have:L = #[]:=Array.eq_empty_of_size_eq_zero h0
  subst this
  refine ⟨rfl,?_⟩
  simp [choose,Sem.run,Question.forced]
 ·right
  have hne:L.isEmpty=false:=by simp [Array.isEmpty,h0]
  simp only [hne,Bool.false_eq_true,if_false,Array.empty_append,Array.size_map]
  have hch:∃ (j:Nat) (w1:World),j < L.size∧(w1=w∨w1=w.drew)∧(choose (Question.mapNext L.size)).run P w=.ok j w1:=by
   by_cases hf:L.size≤1
   ·exact ⟨0,w,by omega,.inl rfl,by simp [choose,Sem.run,Question.forced,hf]⟩
   ·exact ⟨_,w.drew,Nat.mod_lt _ (by omega),.inr rfl,by
     simp only [choose,Sem.run,Question.forced,decide_eq_true_eq,hf,if_false,Question.cut]
     rfl⟩
  obtain ⟨j,w1,hj,hal,hrun⟩:=hch
  refine ⟨L[j],by simp,w1,hal,?_⟩
  have hr1:w1.heap[r]?=some (.mapIter (some bm) since seen c0):=by rcases hal with rfl | rfl <;> exact hr
  simp only [hrun,Array.getElem?_map,Array.getElem?_eq_getElem hj,Option.map_some,Sem.run_bind,Result.andThen]
  simp only [setObj,Sem.run,hr1]
  rfl
theorem qTi {P:Program} (w:World) (r bm since:Nat) (seen:Array Nat) (es:Array MapEntry) (clock:Nat) (e:MapEntry) (hr:w.heap[r]?=some (.mapIter (some bm) since (seen.push e.born) clock)) (hb:w.heap[bm]?=some (.map es clock)) (he:e∈es.toList) (hn:(es.toList.map (·.born)).Nodup) :
  (Instr.entry (.pointer (some ⟨r,0,none⟩))).run P w=.ok (.tuple #[e.key,e.val]) w:=by
 have hf:es.find? (·.born == e.born)=some e:=by rw [← Array.find?_toList];exact find_born e es.toList hn he
 simp only [Instr.entry,getObj,Sem.run_bind,Sem.run,hr,hb,Result.andThen,Array.back?_push,bne_self_eq_false,Bool.false_eq_true,if_false,hf]
 rfl
section
variable {P:Program} {E:Env} {T:Tr} {o:Oper} {ρ:Operand→AV} {h h':List AObj} {v:AV}
theorem WRel.drew {G:Gh} {w:World} (hw:WRel E G h w):WRel E G h w.drew :=
 ⟨hw.le,hw.imm,hw.immNew,hw.keep,hw.size,hw.os,hw.tape,hw.output,hw.own,hw.fresh,fun i ob hi=>(hw.obj i ob hi).keep (.refl G) (fun b _=>⟨rfl,fun _ _=>rfl⟩) (fun _ hn=>hn) (fun hn=>hn)⟩
theorem vJu {m it bm clock:Nat} {x:Operand} {A:List (Dat×Dat)} {es:Array MapEntry} {seen:Array Nat} (hA:MapIs A es clock) (hk:∀ p,p∈A→qGa p.1=true∧qGa p.2=true) (ho:o.op=.next x false) (hx:ρ x=.ptr it 0) (hm:h[m]?=some (.opq (vGy bm es clock))) (hi:h[it]?=some (.opq (qRj bm clock seen clock))) :
  OpR P E o ρ h (fun u k=>((leftOf es seen).size=0∧u=.tup [.d (.bool false)]∧k=h) ∨
   ∃ e p,e∈(leftOf es seen).toList∧p∈A∧e.key=qFa p.1∧e.val=qFa p.2∧u=.tup [.d (.bool true),.d p.1,.d p.2]∧k=h.set it (.opq (qRj bm clock (seen.push e.born) clock))):=by
 intro G a w hw hr
 have hx':RepA G (ρ x) (a.eval x):=hr x (by simp [ho,Op.operands])
 rw [hx] at hx'
 obtain ⟨b,hxv,hlb⟩:=hx'.ptr_inv0
 obtain ⟨b1,S1,k1,k2,k3,k4,⟨k5,k6,k7⟩,_⟩:=hw.obj m _ hm
 obtain ⟨b2,S2,j1,j2,j3,j4,⟨j5,j6⟩,_⟩:=hw.obj it _ hi
 rw [hlb] at j1
 cases j1
 have k7:w.heap[b1]?=some (.map es clock):=k7
 have j6:w.heap[b]?=some (.mapIter (some bm) clock seen clock):=j6
 subst k6
 obtain ⟨jown,jimm⟩:=j4 b j2
 have hbl:b < w.heap.size:=(hw.own b it jown).1
 rcases qVw (P:=P) w o.type b b1 clock clock seen es clock j6 k7 hA.st.1 (Nat.le_refl _) with ⟨h0,hrun⟩ | ⟨e,he,w1,hw1,hrun⟩
 ·have hex:(execOp a.eval o).run P w=.ok (.value (.tuple #[.bool false])) w:=by
   unfold execOp
   simp [ho,hxv,hrun]
  unfold Oper.wp
  rw [hex]
  exact ⟨_,G,_,_,.inl ⟨h0,rfl,rfl⟩,rfl,.refl G,hw,.tup _ rfl (fun j y u hj hu=>by
   match j,hj,hu with
   | 0,hj,hu=>simp at hj hu;subst hj;subst hu;exact .d (.bool false)
   | j+1,hj,hu=>simp at hj)⟩
 ·obtain ⟨p,hp,e1,e2⟩:=hA.fwd e (mem_left he).1
  have hex:(execOp a.eval o).run P w=.ok (.value (.tuple #[.bool true,e.key,e.val])) { w1 with heap:=w1.heap.setIfInBounds b (.mapIter (some b1) clock (seen.push e.born) clock) }:=by
   unfold execOp
   simp [ho,hxv,hrun]
  unfold Oper.wp
  rw [hex]
  have hwr:WRel E G h w1:=by rcases hw1 with rfl | rfl;exact hw;exact hw.drew
  have hbl1:b < w1.heap.size:=by rcases hw1 with rfl | rfl <;> exact hbl
  refine ⟨_,G,_,_,.inr ⟨e,p,he,hp,e1,e2,rfl,rfl⟩,rfl,.refl G,hwr.setOpq hi hlb jown jimm hbl1 _ rfl rfl rfl rfl (fun f hf=>⟨rfl,hf⟩) (fun b f g=>iterC_loc f g),.tup _ rfl (fun j y u hj hu=>?_)⟩
  match j,hj,hu with
  | 0,hj,hu=>simp at hj hu;subst hj;subst hu;exact .d (.bool true)
  | 1,hj,hu=>simp at hj hu;subst hj;subst hu;rw [e1];exact .d (qMt (hk p hp).1)
  | 2,hj,hu=>simp at hj hu;subst hj;subst hu;rw [e2];exact .d (qMt (hk p hp).2)
  | j+3,hj,hu=>simp at hj
theorem vHj {m it bm clock:Nat} {x:Operand} {A:List (Dat×Dat)} {es:Array MapEntry} {seen:Array Nat} {e:MapEntry} {p:Dat×Dat} (hA:MapIs A es clock) (hk:qGa p.1=true∧qGa p.2=true) (ho:o.op=.entry x) (hx:ρ x=.ptr it 0) (hm:h[m]?=some (.opq (vGy bm es clock)))
  (hi:h[it]?=some (.opq (qRj bm clock (seen.push e.born) clock))) (he:e∈es.toList) (e1:e.key=qFa p.1) (e2:e.val=qFa p.2):OpS P E o ρ h (.tup [.d p.1,.d p.2]) h :=
 qBf fun G ev w hw hr=>by
  have hx':RepA G (ρ x) (ev x):=hr x (by simp [ho,Op.operands])
  rw [hx] at hx'
  obtain ⟨b,hxv,hlb⟩:=hx'.ptr_inv0
  obtain ⟨b1,S1,k1,k2,k3,k4,⟨k5,k6,k7⟩,_⟩:=hw.obj m _ hm
  obtain ⟨b2,S2,j1,j2,j3,j4,⟨j5,j6⟩,_⟩:=hw.obj it _ hi
  rw [hlb] at j1
  cases j1
  have k7:w.heap[b1]?=some (.map es clock):=k7
  have j6:w.heap[b]?=some (.mapIter (some bm) clock (seen.push e.born) clock):=j6
  subst k6
  have hrun:=qTi (P:=P) w b b1 clock seen es clock e j6 k7 he hA.st.2.1
  refine ⟨.tuple #[e.key,e.val],w,G,?_,.refl G,hw,.tup _ rfl (fun j y u hj hu=>?_)⟩
  ·unfold execOp
   simp [ho,hxv,hrun]
  ·match j,hj,hu with
   | 0,hj,hu=>simp at hj hu;subst hj;subst hu;rw [e1];exact .d (qMt hk.1)
   | 1,hj,hu=>simp at hj hu;subst hj;subst hu;rw [e2];exact .d (qMt hk.2)
   | j+2,hj,hu=>simp at hj
end
end Tdoc
namespace Tdoc
open Go
section
variable {P:Program} {E:Env} {T:Tr} {o:Oper} {ρ:Operand→AV} {h h':List AObj} {v:AV}
theorem RepA.rx_inv {G:Gh} {v:Value} {i off n:Nat} (h:RepA G (.rx i off n) v):∃ off' cap,n≤cap∧(0 < n→off'=off)∧RepA G (.row i off' n cap) v:=by
 cases h with | rx off' cap hl h1 h2=>exact ⟨off',cap,h1,h2,.row _ _ _ hl⟩
theorem RepA.row_rx {G:Gh} {v:Value} {i off n cap:Nat} (h:RepA G (.row i off n cap) v) (hn:n≤cap):RepA G (.rx i off n) v:=by
 cases h with | row _ _ _ hl=>exact .rx _ _ hl hn (fun _=>rfl)
open Classical in
theorem vFg {x:Operand} {i off n:Nat} (hx:ρ x=.rx i off n) (hn:0 < n) (hxo:x∈o.op.operands.toList) (H:∀ (cap:Nat) (ρ':Operand→AV),n≤cap→ρ' x=.row i off n cap→(∀ y,y≠x→ρ' y=ρ y)→OpS P E o ρ' h v h'):OpS P E o ρ h v h':=by
 intro G a w hw hr
 have hx':=hr x hxo
 rw [hx] at hx'
 obtain ⟨off',cap,h1,h2,h3⟩:=hx'.rx_inv
 rw [h2 hn] at h3
 exact H cap (fun y=>if y=x then .row i off n cap else ρ y) h1 (if_pos rfl) (fun y hy=>if_neg hy) G a w hw (fun y hy=>by
  show RepA G (if y=x then _ else _) _
  split
  ·rename_i e;subst e;exact h3
  ·exact hr y hy)
theorem strRx_ok (hT:TOk P T) {t t2 i0:Nat} {x:Operand} {s:List UInt8} (ho:o.op=.convert t t2 x) (hb:(qFz T t&&qCl T t2)=true) (hx:ρ x=.d (.str s)) (hroom:h[i0]?=some .room) :
  OpS P E o ρ h (.rx i0 0 s.length) (h.set i0 (.row (qAn s))):=by
 intro G a w hw hr
 refine qFl ?_ (strRow_ok hT ho hb hx hroom G a w hw hr)
 rintro a' w' ⟨u,G',v,h',⟨cap,k1,rfl,rfl⟩,k2,k3,k4,k5⟩
 exact ⟨u,G',k2,k3,k4,k5.row_rx k1⟩
theorem copyRx_ok (hT:TOk P T) {t t2 by_ i off n:Nat} {d s:Operand} {cells:List AV} {b:List UInt8} (ho:o.op=.call { callee:=.builtin .copy,args:=#[d,s],argTypes:=#[t,t2] })
  (ht:qSg T t=some (1,by_)) (hd:ρ d=.rx i off n) (hn:0 < n) (hs:ρ s=.d (.str b)) (hi:h[i]?=some (.row cells)) (hle:off+n≤cells.length) :
  OpS P E o ρ h (.d (.int .i64 (Nat.min b.length n:Nat))) (h.set i (.row (qBv cells off (qAn (b.take n))))) :=
 vFg hd hn (by simp [ho,Op.operands,Call.operands]) fun cap ρ' hc h1 h2=>copyStr_ok hT ho ht h1 ((h2 s (fun hh=>by rw [hh,hd] at hs;cases hs)).trans hs) hi hle
theorem rxStr_ok (hT:TOk P T) {t t2 i off n:Nat} {x:Operand} {cells:List AV} {s:List UInt8} (ho:o.op=.convert t t2 x) (hb:(qCl T t&&qFz T t2)=true) (hx:ρ x=.rx i off n) (hn:0 < n) (hi:h[i]?=some (.row cells))
  (hs:s.length=n) (hc:∀ (j:Nat) (c:UInt8),s[j]?=some c→cells[off+j]?=some (.d (.int .u8 (c.toNat:Int)))):OpS P E o ρ h (.d (.str s)) h :=
 vFg hx hn (by simp [ho,Op.operands]) fun cap ρ' h0 h1 h2=>rowStr_ok hT ho hb h1 hi hs hc
theorem rxCut_ok (hT:TOk P T) {t sz i off n:Nat} {x:Operand} {lo hi:Option Operand} {l r:Nat} (ho:o.op=.slice t x lo hi none) (hs:qCj T t sz=true) (hx:ρ x=.rx i off n) (hn:0 < n)
  (hlo:match lo with | none=>l=0 | some y=>∃ k,ρ y=.d (.int k (l:Int))) (hhi:match hi with | none=>r=n | some y=>∃ k,ρ y=.d (.int k (r:Int))) (hle:l≤r) (hc:r≤n):OpS P E o ρ h (.rx i (off+l*sz) (r-l)) h :=
 vFg hx hn (by simp [ho,Op.operands]) fun cap ρ' h0 h1 h2=>by
  have hne:∀ y k (z:Int),ρ y=.d (.int k z)→ρ' y=.d (.int k z):=fun y k z hy=>(h2 y (fun hh=>by rw [hh,hx] at hy;cases hy)).trans hy
  have:=rowCut_ok (P:=P) (T:=T) (o:=o) (ρ:=ρ') (l:=l) (r:=r) hT ho hs h1 (by cases lo with | none=>exact hlo | some y=>obtain ⟨k,hk⟩:=hlo;exact ⟨k,hne y k _ hk⟩) (by cases hi with | none=>exact hhi | some y=>obtain ⟨k,hk⟩:=hhi;exact ⟨k,hne y k _ hk⟩) hle (by omega)
  refine qAc (fun G e w k1 k2=>?_)
  obtain ⟨u,q1,q2⟩:=this G e w k1 k2
  refine ⟨u,q1,?_⟩
  obtain ⟨b,rfl,hl⟩:=q2.row_inv
  refine .rx _ _ hl (by omega) (fun hp=>?_)
  rw [if_neg (by omega)]
theorem vCv (hT:TOk P T) {t sz i off n:Nat} {x:Operand} {lo hi:Option Operand} {l r:Nat} (ho:o.op=.slice t x lo hi none) (hs:qCj T t sz=true) (hx:ρ x=.rx i off n) (hn:0 < n)
  (hlo:match lo with | none=>l=0 | some y=>∃ k,ρ y=.d (.int k (l:Int))) (hhi:match hi with | none=>r=n | some y=>∃ k,ρ y=.d (.int k (r:Int))) (hle:l≤r) (hc:r≤n) (hv:AV.rx i (off+l*sz) (r-l)=v):OpS P E o ρ h v h :=
 hv▸rxCut_ok hT ho hs hx hn hlo hhi hle hc
theorem vEg (hT:TOk P T) {t t2 by_ i off n:Nat} {d s:Operand} {cells cells':List AV} {b:List UInt8} (ho:o.op=.call { callee:=.builtin .copy,args:=#[d,s],argTypes:=#[t,t2] })
  (ht:qSg T t=some (1,by_)) (hd:ρ d=.rx i off n) (hn:0 < n) (hs:ρ s=.d (.str b)) (hi:h[i]?=some (.row cells)) (hle:off+n≤cells.length) (hv:AV.d (.int .i64 (Nat.min b.length n:Nat))=v) (hc:qBv cells off (qAn (b.take n))=cells') :
  OpS P E o ρ h v (h.set i (.row cells')):=by
 subst hv;subst hc
 exact copyRx_ok hT ho ht hd hn hs hi hle
end
end Tdoc
namespace Tdoc
open Go
def vKb (l:List (Nat×Int×List UInt8)):List (Nat×Dat×Dat):=l.map fun x=>(x.1,.int .i64 x.2.1,.str x.2.2)
def vAi (l:List (Nat×Int×List UInt8)):Bool:=(List.range l.length).all fun a=>(List.range l.length).all fun b=>Nat.beq a b||(match l[a]?,l[b]? with
 | some x,some y=>!Nat.beq x.1 y.1&&!(x.2.1 == y.2.1)
 | _,_=>true)
theorem okIns_spec {l:List (Nat×Int×List UInt8)} (h:vAi l=true) {a b:Nat} {x y:Nat×Int×List UInt8} (ha:l[a]?=some x) (hb:l[b]?=some y) (hne:a≠b):x.1≠y.1∧x.2.1≠y.2.1:=by
 unfold vAi at h
 rw [List.all_eq_true] at h
 have h1:=h a (List.mem_range.2 (List.getElem?_eq_some_iff.1 ha).1)
 rw [List.all_eq_true] at h1
 have h2:=h1 b (List.mem_range.2 (List.getElem?_eq_some_iff.1 hb).1)
 simp only [ha,hb,Bool.or_eq_true,Bool.and_eq_true,Bool.not_eq_true'] at h2
 rcases h2 with h2 | ⟨h2,h3⟩
 ·exact absurd (Nat.eq_of_beq_eq_true h2) hne
 ·exact ⟨fun hh=>by rw [hh] at h2;simp at h2,fun hh=>by rw [hh] at h3;simp at h3⟩
section
variable {P:Program} {E:Env} {N:Nat} {m L:Nat} {rd wr:Nat→List Nat}
theorem qGl {T:Tr} (hT:TOk P T) {ops:List Oper} {Q:(Nat→AV)→List AObj→Prop} {rest:List Oper} {i i0 t kt et:Nat} {x kx vx:Operand} {ty:TypeId} {pos:String} {after:Array Edge} {q:List (Nat×Int×List UInt8)} {l:List (Nat×AV)} {h:List AObj} {n:Int} {s:List UInt8} (hok:vAi q=true) (j:Nat) (hj:q[j]?=some (i,n,s))
  (ht:P.underlying t=some (.map kt et)) (hkt:P.underlying kt=some (.int .i64)) (hx:ev (look l) x=.mp m) (hk:ev (look l) kx=.d (.int .i64 n)) (hv:ev (look l) vx=.d (.str s)) (hm:Nat.blt m h.length=true) (hw:wr i=[]) (hni:Nat.beq i i0=false) (haft:after.any (fun e=>Region.binds .any e&&Nat.beq e.on i0)=true) (hop:ops[i]?=some ⟨none,.insert t x kx vx,ty,pos,after,none⟩)
  (H:AWdM P E N ops (mapM i0 (vKb q)) m L rd wr Q rest (i+1) (look l) h):AWdM P E N ops (mapM i0 (vKb q)) m L rd wr Q (⟨none,.insert t x kx vx,ty,pos,after,none⟩::rest) i (look l) h:=by
 refine vBv hT ht hkt hx hk hv (List.mem_map.2 ⟨_,List.mem_of_getElem? hj,rfl⟩) (fun y hy=>?_) (fun y hy hyi=>?_) (qCd hm) hw (fun hh=>by rw [hh] at hni;simp at hni) haft hop H
 ·obtain ⟨z,hz,rfl⟩:=List.mem_map.1 hy
  refine ⟨⟨_,_,rfl⟩,fun hzi hzn=>?_⟩
  obtain ⟨b,hb⟩:=List.mem_iff_getElem?.1 hz
  by_cases hbj:b=j
  ·subst hbj;rw [hj] at hb;cases hb;exact hzi rfl
  ·exact (okIns_spec hok hb hj hbj).2 (by simpa using hzn)
 ·obtain ⟨z,hz,rfl⟩:=List.mem_map.1 hy
  obtain ⟨b,hb⟩:=List.mem_iff_getElem?.1 hz
  by_cases hbj:b=j
  ·subst hbj;rw [hj] at hb;cases hb;rfl
  ·exact absurd hyi (okIns_spec hok hb hj hbj).1
theorem vFo {ops:List Oper} {Q:(Nat→AV)→List AObj→Prop} {i i0 it d t kt et:Nat} {x:Operand} {ty:TypeId} {pos:String} {after:Array Edge} {q:List (Nat×Int×List UInt8)} {l:List (Nat×AV)} {h:List AObj}
  (hop:ops[L]?=some ⟨some d,.range t x,ty,pos,after,none⟩) (ht:P.underlying t=some (.map kt et)) (hx:ev (look l) x=.mp m) (hm:Nat.blt m h.length=true) (hi:h[it]?=some .room) (hne:Nat.beq m it=false) (hd:Nat.blt d N=true) (h0:Nat.blt i0 L=true) (hq:q.all (fun x=>Nat.blt x.1 L)=true)
  (H:∀ (bm:Nat) (es:Array MapEntry) (clock:Nat),MapIs (q.map fun x=>(Dat.int .i64 x.2.1,Dat.str x.2.2)) es clock→Q (look ((d,.ptr it 0)::l)) ((h.set m (.opq (vGy bm es clock))).set it (.opq (qRj bm clock #[] clock)))) :
  AWdM P E N ops (mapM i0 (vKb q)) m L rd wr Q [] i (look l) h:=by
 refine ⟨⟨some d,.range t x,ty,pos,after,none⟩,_,hop,fun listed hl=>?_,fun v h' hR=>hR⟩
 have e1:qPr (vKb q) listed=q.map fun x=>(Dat.int .i64 x.2.1,Dat.str x.2.2):=by
  unfold qPr vKb
  rw [List.filter_eq_self.2 (fun y hy=>?_),List.map_map]
  ·rfl
  ·obtain ⟨z,hz,rfl⟩:=List.mem_map.1 hy
   rw [List.all_eq_true] at hq
   exact hl z.1 (qCd (hq z hz))
 have e0:mapM i0 (vKb q) listed=.opq (qTs (q.map fun x=>(Dat.int .i64 x.2.1,Dat.str x.2.2))):=by
  unfold mapM
  rw [hl i0 (qCd h0),e1];rfl
 rw [e0]
 have hne':m≠it:=fun hh=>by rw [hh] at hne;simp at hne
 refine ⟨hd,OpR.mono (vGr (A:=q.map fun x=>(Dat.int .i64 x.2.1,Dat.str x.2.2)) rfl ht hx (by simp [qCd hm]) (by rw [List.getElem?_set_ne hne'];exact hi)) ?_⟩
 rintro v k ⟨⟨bm,es,clock⟩,hA,rfl,rfl⟩
 have:=H bm es clock hA
 simp only [List.set_set]
 exact this
end
theorem vIb {P:Program} {E:Env} {o:Oper} {ρ ρ':Operand→AV} {h h':List AObj} {v:AV} (hle:∀ x,AV.le (ρ x) (ρ' x)) (H:OpS P E o ρ' h v h'):OpS P E o ρ h v h' :=
 fun G a w hw hr=>H G a w hw fun x hx=>hle x G _ (hr x hx)
def vHa:AV→AV
 | .sl sz es _=>.d (.sl sz es)
 | y=>y
theorem lessS_le (x:AV):AV.le x (vHa x):=by
 cases x with
 | sl sz es t=>exact .dat
 | _=>exact .refl _
theorem vKm {P:Program} {E:Env} {o:Oper} {ρ:Operand→AV} {H:List AObj} {f:Operand} {as:List Operand} {ats:Array TypeId} {g:FuncId} {first cap:List AV} (ho:o.op=.call ⟨.value f,as.toArray,ats⟩) (hf:ρ f=.fn (.func g) first cap)
  {args:List AV} {r0:AV} (S:Spec P g args [] (fun r h'=>r=r0∧h'=[])) (hargs:first++(as.map (fun x=>vHa (ρ x))++cap)=args) (hla:qCo 0 args=true) (hr0:low 0 r0=true):OpS P E o ρ H r0 H :=
 vIb (ρ':=fun x=>vHa (ρ x)) (fun x=>lessS_le _) (qBl ho (by show vHa (ρ f)=_;rw [hf];rfl) S hargs hla hr0)
section
variable {P:Program} {E:Env} {T:Tr} {o:Oper} {ρ:Operand→AV} {h:List AObj}
theorem copyDat_ok (hT:TOk P T) {t t2 by_ i off n cap:Nat} {d s:Operand} {cells:List AV} {es:List (List Dat)} (ho:o.op=.call { callee:=.builtin .copy,args:=#[d,s],argTypes:=#[t,t2] })
  (ht:qSg T t=some (1,by_)) (hd:ρ d=.row i off n cap) (hs:ρ s=.d (.sl 1 es)) (hi:h[i]?=some (.row cells)) (hle:off+n≤cells.length) :
  OpS P E o ρ h (.d (.int .i64 (Nat.min es.length n:Nat))) (h.set i (.row (qBv cells off (qBi (es.take n))))) :=
 qBf fun G e w hw hr=>by
  have hd':RepA G (ρ d) (e d):=hr d (by simp [ho,Op.operands,Call.operands])
  have hs':RepA G (ρ s) (e s):=hr s (by simp [ho,Op.operands,Call.operands])
  rw [hd] at hd';rw [hs] at hs'
  obtain ⟨bl,hdv,hl⟩:=hd'.row_inv
  have hsd:RepD G.imm (.sl 1 es) (e s):=by cases hs' with | d r=>exact r
  obtain ⟨a,cp,hsv,hn0,hp⟩:=hsd.slice_inv
  obtain ⟨et,ie,h1,h2,hsz,rfl,hzl⟩:=appT_ok hT ht
  obtain ⟨b',hl',_,hrow,_⟩:=hw.obj i _ hi
  rw [hl] at hl';cases hl'
  cases a with
  | none =>
   obtain ⟨rfl,rfl⟩:=hn0 rfl
   obtain ⟨w',q1,q2,q3,q4,q5,q6,q7⟩:=qEt (P:=P) [] [] cells off 0 w hrow (by simp;omega) rfl (by simp)
   refine ⟨_,w',G,?_,.refl G,hw.setObj hi hl (by simpa [qBi] using q2) q3 q4 q5 q6 q7,.d (.int _ _)⟩
   unfold execOp
   simp only [ho,resolve,invoke,builtin]
   simp [hdv,hsv,Builtin.copy_,run_underlying h1,Builtin.lenOf,Builtin.firstCells,h2.run_size,goInt]
   rw [q1]
   rfl
  | some p =>
   obtain ⟨p1,p2,p3,vs,p4,p5⟩:=hp p rfl
   have hlen:∀ x,x∈es.take n→x.length=1:=fun x hx=>p3 x (List.mem_of_mem_take hx)
   have hfl:=flatAV_length hlen
   have hk:(es.take n).length=Nat.min es.length n:=by rw [List.length_take];exact Nat.min_comm _ _
   have hel:∀ j,j < Nat.min es.length n→∃ x,es[j]?=some [x]:=fun j hj=>by
    have hj':j < es.length:=Nat.lt_of_lt_of_le hj (Nat.min_le_left _ _)
    have h3:=p3 es[j] (List.getElem_mem hj')
    match hx:es[j],h3 with
    | [x],_=>exact ⟨x,by rw [List.getElem?_eq_getElem hj',hx]⟩
   have hlc:(loadCells p (Nat.min es.length n)).run P w=.ok ((List.range (Nat.min es.length n)).map vs).toArray w:=by
    refine run_loadCells (P:=P) w p (Nat.min es.length n) vs (fun j hj=>?_)
    obtain ⟨x,hx⟩:=hel j hj
    have:=hw.imm _ _ (p4 j [x] 0 x hx rfl)
    simpa using this
   obtain ⟨w',q1,q2,q3,q4,q5,q6,q7⟩:=qEt (P:=P) ((List.range (Nat.min es.length n)).map vs) (qBi (es.take n)) cells off 0 w hrow
    (by rw [List.length_map,List.length_range];have:Nat.min es.length n≤n:=Nat.min_le_right _ _;omega) (by rw [hfl,hk,List.length_map,List.length_range];omega)
    (qYp hlen (fun j x i2 y hx hy=>by
     have hj:j < Nat.min es.length n:=by rw [← hk];exact (List.getElem?_eq_some_iff.1 hx).1
     have hx':es[j]?=some x:=by
      rw [List.getElem?_take] at hx
      split at hx
      ·exact hx
      ·cases hx
     have hl1:=p3 x (List.mem_of_getElem? hx')
     have hi2:i2=0:=by have:=(List.getElem?_eq_some_iff.1 hy).1;omega
     subst hi2
     have:=p5 j x 0 y hx' hy
     exact ⟨vs (j*1+0),by simp [hj],this⟩))
   refine ⟨_,w',G,?_,.refl G,hw.setObj hi hl (by simpa using q2) q3 q4 q5 q6 q7,.d (.int _ _)⟩
   unfold execOp
   simp only [ho,resolve,invoke,builtin]
   simp [hdv,hsv,Builtin.copy_,run_underlying h1,Builtin.lenOf,Builtin.firstCells,h2.run_size,goInt,hsz,hlc]
   rw [q1]
   rfl
end
section
variable {P:Program} {E:Env} {T:Tr} {o:Oper} {ρ:Operand→AV} {h:List AObj}
theorem appendNone_ok (hT:TOk P T) {t t2 sz by_:Nat} {s x:Operand} {es:List (List Dat)} (ho:o.op=.call { callee:=.builtin .append,args:=#[s,x],argTypes:=#[t,t2] })
  (ht:qSg T t=some (sz,by_)) (ht2:qVu T t2=true) (hs:ρ s=.d (.sl sz es)) (hx:qLm sz (ρ x)=some []):OpS P E o ρ h (.d (.sl sz es)) h :=
 qBf fun G e w hw hr=>by
  have hs':RepA G (ρ s) (e s):=hr s (by simp [ho,Op.operands,Call.operands])
  have hx':RepA G (ρ x) (e x):=hr x (by simp [ho,Op.operands,Call.operands])
  obtain ⟨et,ie,h1,h2,rfl,rfl,hzl⟩:=appT_ok hT ht
  obtain ⟨d2,h3,h4⟩:=srcT_ok hT ht2
  obtain ⟨hlen2,news,n1,n2,n3,n4⟩:=asNew_src (P:=P) hw.imm hx' hx
  have hnews:news=[]:=List.length_eq_zero_iff.1 (by rw [n2];simp)
  rw [hs] at hs'
  have hsd:RepD G.imm (.sl ie.size es) (e s):=by cases hs' with | d r=>exact r
  obtain ⟨a,cp,hsv,hn0,hp⟩:=hsd.slice_inv
  have hfit:es.length+([]:List (List Dat)).length≤cp:=by
   cases a with
   | none=>obtain ⟨q1,q2⟩:=hn0 rfl;rw [q1,q2];simp
   | some p=>have:=(hp p rfl).2.1;simpa using this
  have hrun:=qCy (ty:=o.type) h1 h3 h4 h2 (w':=w) (a:=a) (n:=es.length) (cap:=cp) n1 hfit (by subst hnews;cases a <;> simp [storeCells])
  refine ⟨.slice a (es.length+([]:List (List Dat)).length) cp,w,G,?_,.refl G,hw,?_⟩
  ·unfold execOp
   simp [ho,resolve,invoke,builtin,hsv]
   have h5:(Builtin.append_ #[t,t2] o.type #[.slice a es.length cp,e x]).run P w=.ok (.slice a es.length cp) w:=by simpa using hrun
   rw [h5]
   rfl
  ·have:es.length+([]:List (List Dat)).length=es.length:=by simp
   rw [this,← hsv]
   exact .d hsd
end
end Tdoc
