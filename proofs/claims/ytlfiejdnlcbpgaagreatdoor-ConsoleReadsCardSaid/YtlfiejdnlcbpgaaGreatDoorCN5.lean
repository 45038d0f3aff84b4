/- Part 5 of the proof: the texts R16 R17 I1 R18 R19 R37 R20 R21 R44 R49 R9 R10 R12 R13 R24 R34 R50 N2 N3 R36 R22 R38 R47 R40 R25 R26 R48. -/
import Derived.Test.YtlfiejdnlcbpgaaGreatDoorCN4
import Derived.RangeFuncRecord
import Derived.RangeFuncCalls
import Derived.OrdersIn
import Derived.Below
import Derived.Sort.Grow
import Derived.Deep.Draws
import Derived.Scope
import Derived.Lib.ConvBytes
import Derived.MapKept
import Derived.Laws.IdiomRangeMap
set_option linter.unusedSimpArgs false
set_option linter.unusedVariables false
namespace Tdoc
open Go
def FOk (F:Fence):Prop:=F=Fence.wide∨∃ l,F=Fence.wide.inRound l
theorem FOk.fn {F:Fence} (h:FOk F) (f:FuncId):F.fn f:=by rcases h with rfl | ⟨l,rfl⟩ <;> exact True.intro
theorem FOk.depth {F:Fence} (h:FOk F):F.depth=none:=by rcases h with rfl | ⟨l,rfl⟩ <;> rfl
theorem FOk.calls {F:Fence} (hF:FOk F) {P:Program} {f:FuncId} {args:Array Value} {w:World} {R:Ending→World→Prop} (h:Calls P f args w R) (n:Nat):CallsIn F n P f args w R:=by
 rcases hF with rfl | ⟨l,rfl⟩
 ·exact callsIn_wide.2 h
 ·exact CallsIn.inRound l (callsIn_wide.2 h)
theorem FOk.rows {F:Fence} (hF:FOk F) {P:Program} {row:String} {args:Array Value} {w:World} {R:Value→World→Prop} (h:Rows P row args w R) (n:Nat):RowsIn F n P row args w R:=by
 have hw:RowsIn Fence.wide n P row args w R:=fun c cs _=>let ⟨v,w',r,s⟩:=h c cs;⟨v,w',r,stepsIn_wide.2 s⟩
 rcases hF with rfl | ⟨l,rfl⟩
 ·exact hw
 ·exact hw
def qGb:Op→Bool
 | .defer _=>false
 | _=>true
theorem opIn_of_wp {F:Fence} (hF:FOk F) {P:Program} {o:Oper} (hd:qGb o.op=true) {a:Act} {w:World} {next:Act→World→Prop} (h:o.wp P a w next (fun _ _ _=>False)) (n:Nat) (Q:Exit→Act→World→Prop):o.wpIn F n P a w next Q:=by
 refine ⟨fun f _=>hF.fn f,?_⟩
 rw [Oper.semAt_eq _ _ _ (fun c hc=>by rw [hc] at hd;cases hd)]
 unfold Oper.wp at h
 generalize (execOp a.eval o).run P w=r at h
 cases r with
 | ok x w' =>
  cases x <;> simp only [Oper.upon,Oper.uponIn] at h ⊢ <;>
   first
    | exact h
    | exact ⟨fun hh=>(by rw [hF.depth] at hh;cases hh),hF.calls (h.mono fun e w'' he=>by cases e <;> first | exact he | exact he.elim | (obtain ⟨_,_,hf⟩:=he;exact hf.elim)) _⟩
    | exact ⟨fun hh=>(by rw [hF.depth] at hh;cases hh),hF.rows h _⟩
    | exact h.elim
 | halt x w'=>cases x <;> simp only [Oper.upon,Oper.uponIn] at h ⊢ <;> exact h.elim
def OpRF (F:Fence) (P:Program) (E:Env) (o:Oper) (ρ:Operand→AV) (h:List AObj) (R:AV→List AObj→Prop):Prop :=
 ∀ (G:Gh) (a:Act) (w:World),WRel E G h w→(∀ x,x∈o.op.operands.toList→RepA G (ρ x) (a.eval x))→∀ Q:Exit→Act→World→Prop,
  o.wpIn F 0 P a w (fun a' w'=>∃ u G' v h',R v h'∧a'=a.put o.dst u∧G.le G'∧WRel E G' h' w'∧RepA G' v u) Q
theorem vAn {F:Fence} (hF:FOk F) {P:Program} {E:Env} {o:Oper} (hd:qGb o.op=true) {ρ:Operand→AV} {h:List AObj} {R:AV→List AObj→Prop} (H:OpR P E o ρ h R):OpRF F P E o ρ h R :=
 fun G a w hw hr Q=>opIn_of_wp hF hd (H G a w hw hr) 0 Q
def StepRF (F:Fence) (P:Program) (E:Env) (N:Nat) (ops:Array Oper) (o:Oper) (τ:Nat→AV) (h:List AObj) (R:AV→List AObj→Prop):Prop :=
 qSy N o=true∧match o.guard with
 | none=>OpRF F P E o (ev τ) h R
 | some (j,want)=>∃ d ex,(ops[j]?).bind (·.dst)=some d∧Nat.blt d N=true∧(∀ G v,RepA G (τ d) v→(v=.bool want↔ex=true))∧(ex=true→OpRF F P E o (ev τ) h R)∧(ex=false→∃ v,R v h∧∀ G,RepA G v undef)
theorem qQt {F:Fence} (hF:FOk F) {P:Program} {E:Env} {N:Nat} {ops:Array Oper} {o:Oper} (hd:qGb o.op=true) {τ:Nat→AV} {h:List AObj} {R:AV→List AObj→Prop} (H:StepR P E N ops o τ h R):StepRF F P E N ops o τ h R:=by
 refine ⟨H.1,?_⟩
 have h2:=H.2
 cases hg:o.guard with
 | none=>rw [hg] at h2;exact vAn hF hd h2
 | some g =>
  obtain ⟨j,want⟩:=g
  rw [hg] at h2
  obtain ⟨d,ex,k1,k2,k3,k4,k5⟩:=h2
  exact ⟨d,ex,k1,k2,k3,fun hb=>vAn hF hd (k4 hb),k5⟩
theorem qKq {F:Fence} (hF:FOk F) {P:Program} {E:Env} {N:Nat} {ops:Array Oper} {Q:Exit→Act→World→Prop} {i:Nat} {o:Oper} (ho:ops[i]?=some o) {τ:Nat→AV} {h:List AObj} {R:AV→List AObj→Prop} {K:Act→World→Prop} {a:Act} {w:World}
  (hs:StepRF F P E N ops o τ h R) (hr:Rel E N τ h a w) (hk:∀ v h' a' w',R v h'→Rel E N (qMh τ o.dst v) h' a' w'→K a' w'):wpOpIn F 0 P ops Q i K a w:=by
 obtain ⟨hd,hg⟩:=hs
 obtain ⟨r1,r2,G,hw,ht⟩:=hr
 have hdl:=dstOk_lt hd
 have go:OpRF F P E o (ev τ) h R→o.wpIn F 0 P a w K Q:=fun H=>by
  refine Oper.wpIn_mono ?_ (H G a w hw (fun x _=>qIi (E.tab.1.mono hw.le.imm) ht x) Q)
  rintro a' w' ⟨u,G',v,h',hR,rfl,hle,hw',hv⟩
  refine hk v h' _ w' hR ⟨by rw [qKh];exact r1,by rw [qGo];exact r2,G',hw',?_⟩
  obtain ⟨tmps,ds⟩:=a
  exact qKw r1 hdl (fun t=>(ht t).mono hle) hv ds
 unfold wpOpIn
 simp only [ho]
 cases hgd:o.guard with
 | none =>
  rw [hgd] at hg
  have:Region.wanted o (yielded ops a.tmps)=true:=by simp [Region.wanted,hgd]
  rw [if_pos this]
  exact go hg
 | some g =>
  obtain ⟨j,want⟩:=g
  rw [hgd] at hg
  obtain ⟨d,ex,h1,h2,h3,h4,h5⟩:=hg
  have hv:=h3 G _ (ht d)
  have hdn:d < a.tmps.size:=by rw [r1];exact Nat.le_of_ble_eq_true h2
  have hget:a.tmps[d]?=some (a.tmps.getD d undef):=by
   rw [Array.getD_eq_getD_getElem?]
   have h6:a.tmps[d]?=some a.tmps[d]:=by simp [hdn]
   rw [h6];rfl
  have hwd:Region.wanted o (yielded ops a.tmps)=ex:=by
   unfold Region.wanted yielded
   rw [hgd]
   simp only [h1,Option.bind_some,hget]
   generalize a.tmps.getD d undef=u at hv
   cases ex with
   | true =>
    rw [hv.2 rfl];simp
   | false =>
    have hne:u≠.bool want:=fun hh=>by have:=hv.1 hh;cases this
    cases u <;> simp
    rename_i b
    intro hh;exact hne (by rw [hh])
  rw [hwd]
  cases ex with
  | true=>rw [if_pos rfl];exact go (h4 rfl)
  | false =>
   rw [if_neg (by simp)]
   obtain ⟨v,hR,hv0⟩:=h5 rfl
   refine ⟨fun f _=>hF.fn f,hk v h _ w hR ⟨by rw [qKh];exact r1,by rw [qGo];exact r2,G,hw,?_⟩⟩
   obtain ⟨tmps,ds⟩:=a
   exact qKw r1 hdl ht (hv0 G) ds
def AWF (F:Fence) (P:Program) (E:Env) (N:Nat) (c:Code) (Q:Exit→(Nat→AV)→List AObj→Prop) (τ:Nat→AV) (h:List AObj):Prop :=
 ∀ a w,Rel E N τ h a w→c.wpIn F 0 P (fun ex a' w'=>∃ τ' h',Q ex τ' h'∧Rel E N τ' h' a' w') a w
section rules
variable {F:Fence} {P:Program} {E:Env} {N:Nat} {Q:Exit→(Nat→AV)→List AObj→Prop} {τ:Nat→AV} {h:List AObj}
theorem qWm (hq:Q .normal τ h):AWF F P E N .skip Q τ h:=fun _ _ r=>wpIn_skip ⟨τ,h,hq,r⟩
theorem vDq {id:Nat} (hq:Q (.exit id) τ h):AWF F P E N (.exit id) Q τ h:=fun _ _ r=>wpIn_exit ⟨τ,h,hq,r⟩
theorem qJc {x y:Code} (hx:AWF F P E N x (qPb (fun τ h=>AWF F P E N y Q τ h) Q) τ h):AWF F P E N (.seq x y) Q τ h :=
 fun a w r=>wpIn_seq (wpIn_mono (hx a w r) fun e a' w' ⟨τ',h',q,r'⟩=>by
  cases e with
  | normal=>exact q a' w' r'
  | _=>exact ⟨τ',h',q,r'⟩)
theorem qMe {id:Nat} {c:Code} (hc:AWF F P E N c (qGr id Q) τ h):AWF F P E N (.block id c) Q τ h :=
 fun a w r=>wpIn_block (wpIn_mono (hc a w r) fun e a' w' ⟨τ',h',q,r'⟩=>by
  cases e with
  | exit id' =>
   simp only [qGr] at q
   by_cases hid:id'=id
   ·subst hid;simp only [Exit.inBlock,if_true]
    have hb:Nat.beq id' id'=true:=Nat.beq_refl id'
    rw [hb] at q;exact ⟨τ',h',q,r'⟩
   ·simp only [Exit.inBlock,hid,if_false]
    have hb:Nat.beq id' id=false:=by
     cases hb:Nat.beq id' id with
     | false=>rfl
     | true=>exact absurd (Nat.eq_of_beq_eq_true hb) hid
    rw [hb] at q;exact ⟨τ',h',q,r'⟩
  | _=>exact ⟨τ',h',q,r'⟩)
theorem qRm {c:Operand} {x y:Code} {b:Bool} (hc:ev τ c=.d (.bool b)) (ht:b=true→AWF F P E N x Q τ h) (hf:b=false→AWF F P E N y Q τ h):AWF F P E N (.cond c x y) Q τ h:=by
 intro a w r
 have hv:a.eval c=.bool b:=by
  obtain ⟨h1,h2,G,hw,ht'⟩:=r
  have:=qIi (E.tab.1.mono hw.le.imm) ht' c
  rw [hc] at this
  exact this.bool_inv
 exact wpIn_cond_split hv (fun e=>ht e a w r) (fun e=>hf e a w r)
theorem vGs {c:Code} {τ':Nat→AV} {h':List AObj} (hs:∀ a w,Rel E N τ h a w→Rel E N τ' h' a w) (hc:AWF F P E N c Q τ' h'):AWF F P E N c Q τ h:=fun a w r=>hc a w (hs a w r)
theorem vBa {c:Code} {ι:Type} (S:ι→List (Nat×AV)) (H:ι→List AObj) (inv:ι→Prop) (μ:ι→Nat) (x0:ι) (h0:inv x0) (hs:SubL τ (S x0)) (hh:HLe h (H x0))
  (round:∀ x,inv x→AWF F P E N c (qPb (fun τ' h'=>∃ y,inv y∧μ y < μ x∧SubL τ' (S y)∧HLe h' (H y)) Q) (look (S x)) (H x)):AWF F P E N (.loop c) Q τ h:=by
 intro a w r b k cs hro hb hroom
 have key:∀ n x a w,μ x=n→inv x→Rel E N (look (S x)) (H x) a w →
   ∃ e a' w',(∃ τ' h',Q e τ' h'∧Rel E N τ' h' a' w')∧ArrivesIn (Machine.fenced P F) P (lone (b.atR a (.code c::.inLoop c::k)) cs w) b k cs e a' w':=by
  intro n
  induction n using Nat.strongRecOn with
  | _ n ih =>
   intro x a w hn hI hr
   obtain ⟨e,a₁,w₁,⟨τ',h',hq,hr'⟩,harr⟩:=round x hI a w hr b (.inLoop c::k) cs hro hb hroom
   cases e with
   | normal =>
    obtain ⟨y,hy,hlt,hs',hh'⟩:=hq
    obtain ⟨e₂,a₂,w₂,hq₂,harr₂⟩:=ih (μ y) (hn▸hlt) y a₁ w₁ rfl hy (qFt hs' hh' a₁ w₁ hr')
    exact ⟨e₂,a₂,w₂,hq₂,.of_steps (StepsIn.trans harr (.one (fenced_calm hb hroom rfl) stepR_inLoop)) harr₂⟩
   | exit id=>exact ⟨_,a₁,w₁,⟨τ',h',hq,hr'⟩,.pass (x:=.inLoop c) rfl (fun _ _=>.inl (by simp)) harr⟩
   | goto l=>exact ⟨_,a₁,w₁,⟨τ',h',hq,hr'⟩,.pass (x:=.inLoop c) rfl (fun _ _=>.inl (by simp)) harr⟩
   | ret=>exact ⟨_,a₁,w₁,⟨τ',h',hq,hr'⟩,.pass (x:=.inLoop c) rfl (fun _ _=>.inl (by simp)) harr⟩
   | panic ch=>exact ⟨_,a₁,w₁,⟨τ',h',hq,hr'⟩,.pass (x:=.inLoop c) rfl (fun _ _=>.inl (by simp)) harr⟩
   | outgrown=>exact ⟨_,a₁,w₁,⟨τ',h',hq,hr'⟩,.pass (x:=.inLoop c) rfl (fun _ _=>.inl (by simp)) harr⟩
 obtain ⟨e,a',w',hq,harr⟩:=key _ x0 a w rfl h0 (qFt hs hh a w r)
 exact ⟨e,a',w',hq,.of_steps (.one (fenced_calm hb hroom rfl) stepR_loop) harr⟩
theorem qWl {c:Code} {l:List (Nat×AV)} {h':List AObj} (hs:SubL τ l) (hh:HLe h h') (hc:AWF F P E N c Q (look l) h'):AWF F P E N c Q τ h:=vGs (qFt hs hh) hc
end rules
def AWkF (F:Fence) (P:Program) (E:Env) (N:Nat) (ops:List Oper) (Q:(Nat→AV)→List AObj→Prop):List Oper→(Nat→AV)→List AObj→Prop
 | [],τ,h=>Q τ h
 | o::rest,τ,h=>∃ R,StepRF F P E N ops.toArray o τ h R∧∀ v h',R v h'→AWkF F P E N ops Q rest (qMh τ o.dst v) h'
section
variable {F:Fence} {P:Program} {E:Env} {N:Nat} {ops:List Oper}
theorem qOu (hF:FOk F) {Q:(Nat→AV)→List AObj→Prop} {post:List Oper}:∀ (pre:List Oper) (τ:Nat→AV) (h:List AObj),(pre.all fun o=>qGb o.op)=true →
  AWk P E N ops (fun τ h=>AWkF F P E N ops Q post τ h) pre τ h→AWkF F P E N ops Q (pre++post) τ h
 | [],τ,h,_,hk=>hk
 | o::pre,τ,h,hd,hk=>by
  rw [List.all_cons,Bool.and_eq_true] at hd
  obtain ⟨R,hs,hn⟩:=hk
  exact ⟨R,qQt hF hd.1 hs,fun v h' hR=>qOu hF pre _ _ hd.2 (hn v h' hR)⟩
theorem qWj (hF:FOk F) {Q:(Nat→AV)→List AObj→Prop} (l:List Oper) (τ:Nat→AV) (h:List AObj) (hd:(l.all fun o=>qGb o.op)=true) (hk:AWk P E N ops Q l τ h):AWkF F P E N ops Q l τ h:=by
 have:=qOu hF (Q:=Q) (ops:=ops) (post:=[]) l τ h hd hk
 rwa [List.append_nil] at this
theorem vGo {Q:(Nat→AV)→List AObj→Prop} {d:Nat} {op:Op} {ty:TypeId} {pos:String} {after:Array Edge} {rest:List Oper}
  {l:List (Nat×AV)} {h h':List AObj} {v:AV} (hs:OpRF F P E ⟨some d,op,ty,pos,after,none⟩ (ev (look l)) h (fun a b=>a=v∧b=h')) (hd:Nat.blt d N=true) (hk:AWkF F P E N ops Q rest (look ((d,v)::l)) h') :
  AWkF F P E N ops Q (⟨some d,op,ty,pos,after,none⟩::rest) (look l) h :=
 ⟨_,⟨hd,hs⟩,fun a b hab=>by obtain ⟨rfl,rfl⟩:=hab;exact hk⟩
theorem qNf (hF:FOk F) {Q:Exit→(Nat→AV)→List AObj→Prop}:∀ (rest:List Oper) (k:Nat) (τ:Nat→AV) (h:List AObj) (a:Act) (w:World),(∀ j,rest[j]?=ops[k+j]?) →
  AWkF F P E N ops (Q .normal) rest τ h→Rel E N τ h a w →
  wpOpsIn F 0 P ops.toArray (fun ex a' w'=>∃ τ' h',Q ex τ' h'∧Rel E N τ' h' a' w') (List.range' k rest.length) a w
 | [],k,τ,h,a,w,_,hk,hr=>⟨τ,h,hk,hr⟩
 | o::rest,k,τ,h,a,w,hj,hk,hr=>by
  obtain ⟨R,hs,hnext⟩:=hk
  have ho:ops.toArray[k]?=some o:=by simpa using (hj 0).symm
  simp only [List.length_cons,List.range'_succ]
  rw [wpOpsIn_cons]
  exact qKq hF ho hs hr fun v h' a' w' hR hrel =>
   qNf hF rest (k+1) _ _ a' w' (fun j=>by have:=hj (j+1);simpa [Nat.add_assoc,Nat.add_comm 1 j] using this) (hnext v h' hR) hrel
theorem qMd (hF:FOk F) {id:Nat} {Q:Exit→(Nat→AV)→List AObj→Prop} {τ:Nat→AV} {h:List AObj} (hk:AWkF F P E N ops (Q .normal) ops τ h):AWF F P E N (.region id ops.toArray false) Q τ h:=by
 intro a w hr
 refine wpIn_region ?_
 have:=qNf hF ops 0 τ h a w (fun j=>by simp) hk hr
 simpa [List.range_eq_range'] using this
theorem qFh (hF:FOk F) {id:Nat} {Q:Exit→(Nat→AV)→List AObj→Prop} {τ:Nat→AV} {h:List AObj} (hd:(ops.all fun o=>qGb o.op)=true) (hk:AWk P E N ops (Q .normal) ops τ h):AWF F P E N (.region id ops.toArray false) Q τ h :=
 qMd hF (qWj hF ops τ h hd hk)
theorem anyA_soundF (hF:FOk F) {ops:Array Oper} (hd:∀ (i:Nat) (o:Oper),ops[i]?=some o→qGb o.op=true) {rd wr:Nat→List Nat} {Q:Exit→(Nat→AV)→List AObj→Prop}:∀ (fuel:Nat) (listed:Array Bool) (τ:Nat→AV) (h:List AObj) (a:Act) (w:World),vDe P E N ops rd wr (Q .normal) fuel listed τ h→Rel E N τ h a w →
  wpAnyIn F 0 P .any ops (fun ex a' w'=>∃ τ' h',Q ex τ' h'∧Rel E N τ' h' a' w') fuel listed a w
 | 0,_,τ,h,_,_,H,hr=>⟨H.1,τ,h,H.2,hr⟩
 | fuel+1,listed,τ,h,a,w,H,hr=>by
  refine ⟨fun h0=>⟨τ,h,H.1 h0,hr⟩,fun i hi=>?_⟩
  have hs:=H.2 i hi
  unfold qNi at hs
  split at hs
  ·rename_i ho
   unfold wpOpIn
   simp only [ho]
   exact anyA_soundF hF hd fuel _ τ h a w hs hr
  ·rename_i o ho
   obtain ⟨v,os,hsi,hk⟩:=hs
   exact qKq hF ho (qQt hF (hd _ _ ho) (hsi h rfl fun _ _=>rfl)) hr fun v' h'' a' w' ⟨h1,h2⟩ hrel=>by
    subst h1;subst h2
    exact anyA_soundF hF hd fuel _ _ _ a' w' hk hrel
theorem vBb (hF:FOk F) {id:Nat} (rd wr:Nat→List Nat) {Q:Exit→(Nat→AV)→List AObj→Prop} {τ:Nat→AV} {h:List AObj} (hm:P.follows .mixedOrders=true) (hd:(ops.all fun o=>qGb o.op)=true)
  (hB:vDw ops.toArray rd wr ops.length 0 (Array.replicate ops.length false)=true) (H:AWd P E N ops rd wr (Q .normal) ops 0 τ h):AWF F P E N (.region id ops.toArray true) Q τ h:=by
 intro a w hr
 refine wpIn_region_any hm ?_
 have h1:=qUx (P:=P) (E:=E) (N:=N) (rd:=rd) (wr:=wr) (ops:=ops) (Q:=Q .normal) ops 0 (Array.replicate ops.length false) τ h (fun j=>by simp) hB H
 have:=anyA_soundF hF (ops:=ops.toArray) (fun i o ho=>List.all_eq_true.1 hd o (List.mem_of_getElem? (by simpa using ho))) (Q:=Q) _ _ _ _ a _ h1 hr.drew
 simpa using this
end
theorem WRel.tabOk {E:Env} {G:Gh} {h:List AObj} {w:World} (hw:WRel E G h w):TabOk w G:=⟨E.tab.1.mono hw.le.imm,hw.tabB fun _ hb=>hb⟩
theorem WRel.restart {E:Env} {G:Gh} {h:List AObj} {w:World} (hw:WRel E G h w) (htab:TabOk w G) (ds:List Deferred):WRel ⟨w,G,htab,ds⟩ G h w :=
 ⟨.refl _,hw.imm,fun a v ha=>.inl ha,fun _ _=>rfl,Nat.le_refl _,rfl,rfl,rfl,fun b i hb=>⟨(hw.own b i hb).1,fun hk=>by
  have hk2:G.own b=none:=hk.2
  rw [hb] at hk2;cases hk2⟩,hw.fresh,hw.obj⟩
theorem WRel.after {E:Env} {G G2:Gh} {h h2:List AObj} {w w2:World} {htab:TabOk w G} {ds:List Deferred} (hw:WRel E G h w) (hw2:WRel ⟨w,G,htab,ds⟩ G2 h2 w2):WRel E G2 h2 w2:=by
 have hEK:∀ b,E.K b→(⟨w,G,htab,ds⟩:Env).K b:=fun b hk=>⟨Nat.lt_of_lt_of_le hk.1 hw.size,by
  show G.own b=none
  cases ho:G.own b with
  | none=>rfl
  | some i=>exact absurd hk (hw.own b i ho).2⟩
 refine ⟨hw.le.trans hw2.le,hw2.imm,fun a v ha=>?_,fun b hb=>(hw2.keep b (hEK b hb)).trans (hw.keep b hb),Nat.le_trans hw.size hw2.size,hw2.os.trans hw.os,hw2.tape.trans hw.tape,hw2.output.trans hw.output,
  fun b i hb=>⟨(hw2.own b i hb).1,fun hk=>(hw2.own b i hb).2 (hEK b hk)⟩,hw2.fresh,hw2.obj⟩
 rcases hw2.immNew a v ha with h1 | h1
 ·exact hw.immNew a v h1
 ·exact .inr fun hk=>h1 (hEK _ hk)
theorem vCx {w:World} {a:Addr} {o:Obj} (h:w.heap[a.block]?=some o) (ho:o.isCells=false):w.cell? a=none:=by
 unfold World.cell?
 rw [h]
 cases o <;> simp_all [Obj.isCells]
theorem WRel.poke {E:Env} {G:Gh} {h:List AObj} {w:World} {l:Nat} {o:Obj} (o':Obj) (hw:WRel E G h w) (hl:w.heap[l]?=some o) (ho:o.isCells=false) (hown:G.own l=none) :
  (∀ a v,G.imm a=some v→(w.putObj l o').cell? a=some v)∧∀ i ob,h[i]?=some ob→ObjRel G (w.putObj l o') i ob:=by
 refine ⟨fun a v ha=>?_,fun i ob hi=>?_⟩
 ·have h1:=hw.imm a v ha
  have hne:a.block≠l:=fun e=>by rw [vCx (by rw [e];exact hl) ho] at h1;cases h1
  rw [World.cell?_of_block (w:=w) (World.putObj_heap_other hne)];exact h1
 ·refine (hw.obj i ob hi).keep (.refl G) (fun b hb=>⟨World.putObj_heap_other fun e=>?_,fun a _=>rfl⟩) (fun _ hn=>hn) (fun hn=>hn)
  subst e;rw [hown] at hb;cases hb
theorem WRel.pokeIn {E:Env} {G:Gh} {h:List AObj} {w:World} {l:Nat} {o:Obj} (o':Obj) (hw:WRel E G h w) (hl:w.heap[l]?=some o) (ho:o.isCells=false) (hown:G.own l=none) (hk:¬ E.K l):WRel E G h (w.putObj l o'):=by
 obtain ⟨h1,h2⟩:=hw.poke o' hl ho hown
 refine ⟨hw.le,h1,hw.immNew,fun b hb=>?_,by rw [World.putObj_size];exact hw.size,hw.os,hw.tape,hw.output,fun b i hb=>by rw [World.putObj_size];exact hw.own b i hb,hw.fresh,h2⟩
 have hne:b≠l:=fun e=>hk (by rw [← e];exact hb)
 rw [World.putObj_heap_other hne];exact hw.keep b hb
theorem WRel.pokeAt {E:Env} {G:Gh} {h:List AObj} {w:World} {l:Nat} {o:Obj} (o':Obj) (hw:WRel E G h w) (hl:w.heap[l]?=some o) (ho:o.isCells=false) (hown:G.own l=none) (htab:TabOk (w.putObj l o') G) (ds:List Deferred) :
  WRel ⟨w.putObj l o',G,htab,ds⟩ G h (w.putObj l o'):=by
 obtain ⟨h1,h2⟩:=hw.poke o' hl ho hown
 exact ⟨.refl _,h1,fun a v ha=>.inl ha,fun _ _=>rfl,Nat.le_refl _,rfl,rfl,rfl,fun b i hb=>⟨by rw [World.putObj_size];exact (hw.own b i hb).1,fun hk=>by
  have hk2:G.own b=none:=hk.2
  rw [hb] at hk2;cases hk2⟩,hw.fresh,h2⟩
theorem WRel.tabPoke {E:Env} {G:Gh} {h:List AObj} {w:World} {l:Nat} (o':Obj) (hw:WRel E G h w) (hl:∀ g p,qIq g=some p→g≠l):TabOk (w.putObj l o') G:=by
 obtain ⟨h1,h2⟩:=hw.tabOk
 refine ⟨h1,fun g p hg=>?_⟩
 obtain ⟨k1,o,k2,k3⟩:=h2 g p hg
 exact ⟨k1,o,by rw [World.putObj_heap_other (hl g p hg)];exact k2,k3⟩
def YieldOk (P:Program) (E:Env) (l:Nat) (x:AV) (h h':List AObj):Prop :=
 ∀ (G:Gh) (w:World) (v:Value),WRel E G h w→RepA G x v→∃ fn tmps assign body,(Instr.yield l #[v]).run P w=.ok (.round l fn tmps assign body) w ∧
  RoundIn Fence.wide 0 P l fn tmps assign body w fun e w'=>e=.returned (.bool true)∧∃ G',G.le G'∧WRel E G' h' w'
theorem vBi {P:Program} {E:Env} {o:Oper} {ρ:Operand→AV} {h h':List AObj} {f x:Operand} {ats:Array TypeId} {l:Nat} {xv:AV} (ho:o.op=.call ⟨.value f,#[x],ats⟩) (hf:ρ f=.fn (.yield l) [] []) (hx:ρ x=xv) (Y:YieldOk P E l xv h h') :
  OpRF Fence.wide P E o ρ h (fun a b=>a=.d (.bool true)∧b=h'):=by
 intro G a w hw hr Q
 have hx':RepA G (ρ x) (a.eval x):=hr x (by simp [ho,Op.operands,Call.operands])
 have hf':RepA G (ρ f) (a.eval f):=hr f (by simp [ho,Op.operands,Call.operands])
 rw [hx] at hx'
 rw [hf] at hf'
 obtain ⟨fn,tmps,assign,body,hy,hR⟩:=Y G w _ hw hx'
 generalize hfv:a.eval f=fv at hf'
 cases hf' with
 | fn _ fvs cvs h1 h2 h3 h4 =>
 refine ⟨fun _ _=>True.intro,?_⟩
 rw [Oper.semAt_eq _ _ _ (fun c hc=>by rw [ho] at hc;cases hc)]
 have e1:fvs = #[]:=Array.eq_empty_of_size_eq_zero h1
 have hrun:(execOp a.eval o).run P w=.ok (.round l fn tmps assign body) w:=by
  unfold execOp
  simp [ho,resolve,hfv,Deferred.ofValue,invoke,e1,hy]
 rw [hrun,Oper.uponIn_round]
 exact ⟨fun hh=>(by cases hh),hR.mono fun e w' ⟨he,G',k1,k2⟩=>by subst he;exact ⟨_,G',_,_,⟨rfl,rfl⟩,rfl,k1,k2,.d (.bool true)⟩⟩
def SeqOk (P:Program) (gf:FuncId) (cap:List AV) (ok:List AObj→Prop) (xs:List AV):Prop :=
 (∃ fn,P.funcs[gf]?=some fn∧(fn.name == "runtime.NumGoroutine")=false∧fn.body.isNone=false) ∧
 ∀ (E:Env) (l:Nat) (Hs:Nat→List AObj),E.ds=[]→(∀ k,ok (Hs k))→(∀ (k:Nat) (x:AV),xs[k]?=some x→YieldOk P E l x (Hs k) (Hs (k+1))) →
  WRel E E.G0 (Hs 0) E.w0→∀ cs:Array Value,cs.size=cap.length→(∀ (j:Nat) (x:AV) (v:Value),cap[j]?=some x→cs[j]?=some v→RepA E.G0 x v) →
   CallsIn Fence.wide 0 P gf (#[.func (.yield l) #[] #[]]++cs) E.w0 fun e w'=>(∃ v,e=.returned v)∧∃ G',WRel E G' (Hs xs.length) w'
theorem qVi {G:Gh} {args:List AV} {vals:Array Value} {n:Nat} (hvs:vals.size=args.length) (hargs:∀ (j:Nat) (x:AV) (v:Value),args[j]?=some x→vals[j]?=some v→RepA G x v) (t:Nat) :
  RepA G (look (pars args 0) t) ((vals++Array.replicate n undef).getD t undef):=by
 rw [qLf]
 by_cases ht:0≤t∧t < 0+args.length
 ·rw [if_pos ht]
  have ht2:t < args.length:=by omega
  have h1:args[t]?=some args[t]:=by simp [ht2]
  have h2:vals[t]?=some vals[t]:=by simp [hvs,ht2]
  have:=hargs t _ _ h1 h2
  simp only [Nat.sub_zero,h1,Option.getD_some]
  have hget:(vals++Array.replicate n undef).getD t undef=vals[t]:=by
   rw [Array.getD_eq_getD_getElem?,Array.getElem?_append_left (by omega),h2];rfl
  rw [hget];exact this
 ·rw [if_neg ht];exact .any _
theorem qTl {P:Program} {gf:FuncId} {fn:Func} {c:Code} {cap:List AV} {ok:List AObj→Prop} {xs:List AV} (hf:P.funcs[gf]?=some fn) (hb:fn.body=some c) (hname:(fn.name == "runtime.NumGoroutine")=false)
  (hrs:fn.results = #[]) (hn:Nat.ble (cap.length+1) fn.ntmps=true)
  (H:∀ (E:Env) (l:Nat) (Hs:Nat→List AObj),(∀ k,ok (Hs k))→(∀ (k:Nat) (x:AV),xs[k]?=some x→YieldOk P E l x (Hs k) (Hs (k+1))) →
   AWF Fence.wide P E fn.ntmps c (fun e τ h=>(e=.normal∨e=.ret)∧h=Hs xs.length) (look (pars (.fn (.yield l) [] []::cap) 0)) (Hs 0)):SeqOk P gf cap ok xs:=by
 refine ⟨⟨fn,hf,hname,by rw [hb];rfl⟩,fun E l Hs hds hok hy hw cs hcs hcap=>?_⟩
 have hle:=Nat.le_of_ble_eq_true hn
 have hsz:(#[Value.func (.yield l) #[] #[]]++cs).size=(AV.fn (.yield l) [] []::cap).length:=by simp [hcs,Nat.add_comm]
 refine callsIn_of_wp hf hb True.intro (wpIn_mono (H E l Hs hok hy _ E.w0 ⟨?_,hds.symm,E.G0,hw,fun t=>qVi hsz (fun j x v hx hv=>?_) t⟩) ?_)
 ·simp only [Array.size_append,Array.size_replicate]
  rw [Array.size_append] at hsz
  simp only [List.length_cons] at hsz
  omega
 ·cases j with
  | zero =>
   have hv':(#[Value.func (.yield l) #[] #[]]++cs)[0]?=some (.func (.yield l) #[] #[]):=by rw [Array.getElem?_append_left (by simp)];rfl
   rw [hv'] at hv
   simp at hx hv
   subst hx;subst hv
   exact .fn _ #[] #[] rfl rfl (fun j x v h=>by simp at h) (fun j x v h=>by simp at h)
  | succ j =>
   have hv':cs[j]?=some v:=by
    rw [Array.getElem?_append_right (by simp)] at hv
    simpa using hv
   exact hcap j x v (by simpa using hx) hv'
 ·rintro e a' w' ⟨τ',h',⟨he,rfl⟩,r1,r2,G',hw',ht⟩
  have fin:a'.defers=[]∧∃ v,(results fn a'.tmps).run P w'=.ok v w'∧((∃ u,Ending.returned v=.returned u)∧∃ G',WRel E G' (Hs xs.length) w'):=by
   obtain ⟨u,hu,_⟩:=resA_run (T:=.lf) (P:=P) ⟨rfl⟩ hw' ht (l:=[]) hrs rfl
   exact ⟨r2.trans hds,u,hu,⟨u,rfl⟩,G',hw'⟩
  rcases he with rfl | rfl
  ·exact fin
  ·exact fin
def marks (Ds:List Nat):List Deferred:=Ds.map fun D=>{ target:=.collected D,args:=#[] }
structure ELe (E E2:Env):Prop where
 conv:∀ G h w,WRel E2 G h w→WRel E G h w
 kle:∀ b,E.K b→E2.K b
 kheap:∀ b,E.K b→E2.w0.heap[b]?=E.w0.heap[b]?
 defs:∃ Ds:List Nat,E2.ds=marks Ds++E.ds∧Ds.Nodup∧∀ D,D∈Ds→E2.w0.heap[D]?=some (.deferred (some []))∧E2.K D∧¬ E.K D
theorem ELe.refl (E:Env):ELe E E:=⟨fun _ _ _ h=>h,fun _ h=>h,fun _ _=>rfl,[],rfl,List.nodup_nil,fun _ h=>by cases h⟩
theorem ELe.trans {A B C:Env} (h:ELe A B) (k:ELe B C):ELe A C:=by
 refine ⟨fun G l w hw=>h.conv _ _ _ (k.conv _ _ _ hw),fun b hb=>k.kle b (h.kle b hb),fun b hb=>(k.kheap b (h.kle b hb)).trans (h.kheap b hb),?_⟩
 obtain ⟨D1,a1,a2,a3⟩:=h.defs
 obtain ⟨D2,b1,b2,b3⟩:=k.defs
 refine ⟨D2++D1,by rw [b1,a1];simp [marks],List.nodup_append.2 ⟨b2,a2,fun x hx y hy e=>?_⟩,fun D hD=>?_⟩
 ·subst e;exact (b3 x hx).2.2 (a3 x hy).2.1
 ·rcases List.mem_append.1 hD with hD | hD
  ·exact ⟨(b3 D hD).1,(b3 D hD).2.1,fun hk=>(b3 D hD).2.2 (h.kle D hk)⟩
  ·obtain ⟨c1,c2,c3⟩:=a3 D hD
   exact ⟨(k.kheap D c2).trans c1,k.kle D c2,c3⟩
def AWx (P:Program) (E:Env) (N:Nat) (c:Code) (Q:Exit→(Nat→AV)→List AObj→Prop) (τ:Nat→AV) (h:List AObj):Prop :=
 ∀ a w,Rel E N τ h a w→c.wp P (fun ex a' w'=>∃ E2,ELe E E2∧∃ τ' h',Q ex τ' h'∧Rel E2 N τ' h' a' w') a w
theorem vIs {P:Program} {E:Env} {N:Nat} {c:Code} {Q:Exit→(Nat→AV)→List AObj→Prop} {τ:Nat→AV} {h:List AObj} (hc:AW P E N c Q τ h):AWx P E N c Q τ h :=
 fun a w r=>wp_mono (hc a w r) fun _ _ _ ⟨τ',h',q,r'⟩=>⟨E,ELe.refl E,τ',h',q,r'⟩
theorem qUu {P:Program} {E:Env} {N:Nat} {x y:Code} {Q:Exit→(Nat→AV)→List AObj→Prop} {τ:Nat→AV} {h:List AObj} (hx:AW P E N x (qPb (fun τ h=>AWx P E N y Q τ h) Q) τ h):AWx P E N (.seq x y) Q τ h :=
 fun a w r=>wp_seq (wp_mono (hx a w r) fun e a' w' ⟨τ',h',q,r'⟩=>by
  cases e with
  | normal=>exact q a' w' r'
  | _=>exact ⟨E,ELe.refl E,τ',h',q,r'⟩)
theorem vGn {P:Program} {E:Env} {N:Nat} {c:Code} {Q:Exit→(Nat→AV)→List AObj→Prop} {τ τ':Nat→AV} {h h':List AObj} (hs:∀ a w,Rel E N τ h a w→Rel E N τ' h' a w) (hc:AWx P E N c Q τ' h'):AWx P E N c Q τ h:=fun a w r=>hc a w (hs a w r)
theorem vAt {P:Program} {E:Env} {N:Nat} {id:Nat} {c:Code} {Q:Exit→(Nat→AV)→List AObj→Prop} {τ:Nat→AV} {h:List AObj} (hc:AWx P E N c (qGr id Q) τ h):AWx P E N (.block id c) Q τ h :=
 fun a w r=>wp_block (wp_mono (hc a w r) fun e a' w' ⟨E2,hE,τ',h',q,r'⟩=>by
  cases e with
  | exit id' =>
   simp only [qGr] at q
   by_cases hid:id'=id
   ·subst hid;simp only [Exit.inBlock,if_true]
    have hb:Nat.beq id' id'=true:=Nat.beq_refl id'
    rw [hb] at q;exact ⟨E2,hE,τ',h',q,r'⟩
   ·simp only [Exit.inBlock,hid,if_false]
    have hb:Nat.beq id' id=false:=by
     cases hb:Nat.beq id' id with
     | false=>rfl
     | true=>exact absurd (Nat.eq_of_beq_eq_true hb) hid
    rw [hb] at q;exact ⟨E2,hE,τ',h',q,r'⟩
  | _=>exact ⟨E2,hE,τ',h',q,r'⟩)
end Tdoc
namespace Tdoc
open Go Go.RowKit Go.Sort
theorem qJa {E:Env} {G:Gh} {h:List AObj} {w w':World} (hw:WRel E G h w) (hb:Below w.heap.size w w'):WRel E G h w':=vAi hw hb.block hb.size hb.os hb.tape hb.output
theorem qNe (w:World) (k:Nat) (os:Array Obj):Below w.heap.size w (grow (w.drewN k) os) :=
 ⟨rfl,rfl,rfl,by show w.heap.size≤(w.heap++os).size;simp,fun b hb=>by show (w.heap++os)[b]?=w.heap[b]?;rw [Array.getElem?_append_left hb]⟩
theorem qLz (w:World) (o:Obj):Below w.heap.size w (w.alloc o):=by rw [alloc_eq_grow];exact qNe w 0 #[o]
section
variable {P:Program} {f:FuncId} {args:List AV}
def LibH (P:Program) (f:FuncId) (args:List AV) (K:Gh→World→Ending→World→Prop):Prop :=
 ∀ (G:Gh) (w:World) (vals:Array Value),vals.size=args.length→(∀ (j:Nat) (x:AV) (v:Value),args[j]?=some x→vals[j]?=some v→RepA G x v)→TabOk w G→(∀ a v,G.imm a=some v→w.cell? a=some v)→Calls P f vals w (K G w)
theorem qFs {r:AV} (hf:∃ fn,P.funcs[f]?=some fn∧(fn.name == "runtime.NumGoroutine")=false∧fn.body.isNone=false) (hlow:low 0 r=true)
  (H:LibH P f args fun G w e w'=>∃ v,e=.returned v∧RepA G r v∧Below w.heap.size w w'):Spec P f args [] (fun r' h'=>r'=r∧h'=[]) :=
 ⟨hf,fun G w vals h1 h2 ht hw=>(H G w vals h1 h2 ht hw.imm).mono fun e w' ⟨v,he,hr,hb⟩=>⟨v,r,[],G,he,⟨rfl,rfl⟩,rfl,hlow,rfl,hr,qJa hw hb⟩⟩
end
theorem ifcNe_ok {P:Program} {o:Oper} {ρ:Operand→AV} {t yt:Nat} {x:Operand} {b:Bool} {ms:Array (String×TypeId)} (hρ:∀ z,ρ (.const z)=qJx z) (ho:o.op=.binOp .neq t x (.const .nilIface) yt) (hu:P.underlying t=some (.interface ms)) (hx:ρ x=.ifc b) :
  OpP P o ρ (.d (.bool (!b))):=by
 intro G e w hi hr
 have hx':RepA G (ρ x) (e x):=hr x (by simp [ho,Op.operands])
 have hy':RepA G (ρ (.const .nilIface)) (e (.const .nilIface)):=hr _ (by simp [ho,Op.operands])
 rw [hx] at hx';rw [hρ] at hy'
 have hn:e (.const .nilIface)=.nilIface:=by
  generalize e (.const .nilIface)=u at hy'
  cases hy' with
  | ifc h=>cases u <;> first | rfl | cases h
 unfold execOp
 simp only [ho,Sem.run_bind,hn]
 generalize e x=u at hx'
 cases hx' with
 | ifc h =>
  cases b with
  | true =>
   have:u=.nilIface:=by cases u <;> first | rfl | cases h
   subst this
   refine ⟨.bool false,?_,.d (.bool _)⟩
   have he:(Op.equal t .nilIface .nilIface).run P w=.ok true w:=by
    show (Op.equalIn (9999+1) t _ _).run P w=_
    rw [Op.equalIn]
    simp [run_underlying hu]
   simp [eqGuard,Go.binOp,he]
  | false =>
   obtain ⟨t1,v1,rfl⟩:∃ t1 v1,u=.iface t1 v1:=by cases u <;> first | exact ⟨_,_,rfl⟩ | cases h
   refine ⟨.bool true,?_,.d (.bool _)⟩
   have he:(Op.equal t (.iface t1 v1) .nilIface).run P w=.ok false w:=by
    show (Op.equalIn (9999+1) t _ _).run P w=_
    rw [Op.equalIn]
    simp [run_underlying hu]
   simp [eqGuard,Go.binOp,he]
end Tdoc
namespace Tdoc
open Go
def shut:List Nat→World→World
 | [],w=>w
 | D::Ds,w=>shut Ds (w.putObj D (.deferred none))
theorem qJj {P:Program} {fn:Func} {tmps:Array Value} {R:Ending→World→Prop}:∀ (Ds:List Nat) (w:World),Ds.Nodup→(∀ D,D∈Ds→w.heap[D]?=some (.deferred (some []))) →
  (∃ v,(results fn tmps).run P (shut Ds w)=.ok v (shut Ds w)∧R (.returned v) (shut Ds w))→LeavesInM Fence.wide 0 P fn tmps R (marks Ds) .returning w
 | [],w,_,_,h=>h
 | D::Ds,w,hn,hd,h=>by
  obtain ⟨n1,n2⟩:=List.nodup_cons.1 hn
  refine ⟨by simp,.inl ⟨D,_,rfl,run_takeDeferred (hd D List.mem_cons_self),qJj Ds _ n2 (fun D' hD'=>?_) h⟩⟩
  have hne:D'≠D:=fun e=>n1 (by rw [← e];exact hD')
  rw [World.putObj_heap_other hne]
  exact hd D' (List.mem_cons_of_mem _ hD')
theorem qVd {E:Env} {G:Gh} {h:List AObj}:∀ (Ds:List Nat) (w:World),Ds.Nodup→(∀ D,D∈Ds→w.heap[D]?=some (.deferred (some []))∧G.own D=none∧¬ E.K D)→WRel E G h w→WRel E G h (shut Ds w)
 | [],w,_,_,hw=>hw
 | D::Ds,w,hn,hd,hw=>by
  obtain ⟨n1,n2⟩:=List.nodup_cons.1 hn
  obtain ⟨d1,d2,d3⟩:=hd D List.mem_cons_self
  refine qVd Ds _ n2 (fun D' hD'=>?_) (hw.pokeIn (.deferred none) d1 rfl d2 d3)
  obtain ⟨e1,e2,e3⟩:=hd D' (List.mem_cons_of_mem _ hD')
  have hne:D'≠D:=fun e=>n1 (by rw [← e];exact hD')
  exact ⟨by rw [World.putObj_heap_other hne];exact e1,e2,e3⟩
theorem qOj {P:Program} {T:Tr} (hT:TOk P T) {f:FuncId} {fn:Func} {c:Code} {rs:List ResultVar} {args:List AV} {h:List AObj} {Q:AV→List AObj→Prop} (hf:P.funcs[f]?=some fn) (hb:fn.body=some c)
  (hname:(fn.name == "runtime.NumGoroutine")=false) (hrs:fn.results=rs.toArray) (hn:Nat.ble args.length fn.ntmps=true)
  (H:∀ E:Env,E.below h.length→AWx P E fn.ntmps c (vBq T rs h.length Q) (look (pars args 0)) h):Spec P f args h Q:=by
 refine ⟨⟨fn,hf,hname,by rw [hb];rfl⟩,fun G w vals hvs hargs htab hw=>?_⟩
 have hbel:(⟨w,G,htab,[]⟩:Env).below h.length:=fun i hi=>hw.fresh i hi
 have hle:=Nat.le_of_ble_eq_true hn
 refine (callsIn_wide (n:=0)).1 (callsIn_of_wp_marks hf hb True.intro (wpIn_wide.2 (wp_mono (H ⟨w,G,htab,[]⟩ hbel _ w ⟨by simp;omega,rfl,G,hw,fun t=>qVi hvs hargs t⟩) ?_)))
 rintro e a' w' ⟨E2,hE,τ',h',hq,hr⟩
 have fin:(∃ v r h'',qWs T τ' h' rs=some v∧(∀ G x,RepA G v x→RepA G r x)∧h''=h'.take h.length∧h''.length=h.length∧low h.length r=true∧qCn h.length h''=true∧Q r h'') →
   LeavesInM Fence.wide 0 P fn a'.tmps (fun e w'=>∃ v r h' G',e=.returned v∧Q r h'∧h'.length=h.length∧low h.length r=true∧qCn h.length h'=true∧RepA G' r v∧WRel ⟨w,G,htab,[]⟩ G' h' w') a'.defers .returning w':=by
  rintro ⟨v,r,h'',q1,q2,q3,q4,q5,q6,q7⟩
  obtain ⟨r1,r2,G',hw2,ht⟩:=hr
  obtain ⟨Ds,d1,d2,d3⟩:=hE.defs
  rw [r2,d1]
  show LeavesInM Fence.wide 0 P fn a'.tmps _ (marks Ds++[]) .returning w'
  rw [List.append_nil]
  have hD:∀ D,D∈Ds→w'.heap[D]?=some (.deferred (some []))∧G'.own D=none∧¬ (⟨w,G,htab,[]⟩:Env).K D:=fun D hDm=>by
   obtain ⟨e1,e2,e3⟩:=d3 D hDm
   refine ⟨(hw2.keep D e2).trans e1,?_,e3⟩
   cases ho:G'.own D with
   | none=>rfl
   | some i=>exact absurd e2 (hw2.own D i ho).2
  have hw3:=qVd Ds w' d2 hD (hE.conv _ _ _ hw2)
  refine qJj Ds w' d2 (fun D hDm=>(hD D hDm).1) ?_
  obtain ⟨u,hu,hru⟩:=resA_run hT hw3 ht hrs q1
  refine ⟨u,hu,u,r,h'',vFw h.length G',rfl,q7,q4,q5,q6,(q2 _ _ hru).cut q5,hw3.cut hbel q4 (fun i hi=>?_) q6⟩
  rw [q3,List.getElem?_take,if_pos hi]
 cases e with
 | normal=>exact fin hq
 | ret=>exact fin hq
 | exit id=>exact hq.elim
 | goto l=>exact hq.elim
 | panic ch=>exact hq.elim
 | outgrown=>exact hq.elim
theorem RepD.cutC {m:Addr→Option Value} {sz:Nat} {es:List (List Dat)} {a:Option Addr} {len cap:Nat} (h:RepD m (.sl sz es) (.slice a len cap)) {l r:Nat} (hl:l≤r) (hr:r≤len) :
  RepD m (.sl sz ((es.drop l).take (r-l))) (.slice (if r=l then a else a.map (·.add (l*sz))) (r-l) (r-l)):=by
 cases h with
 | nil =>
  obtain rfl:r=0:=by omega
  obtain rfl:l=0:=by omega
  exact .nil sz
 | sl _ _ p _ vs h1 h2 h3 h4 h5 =>
  have hlen:((es.drop l).take (r-l)).length=r-l:=by simp;omega
  by_cases hc:r=l
  ·have:(es.drop l).take (r-l)=[]:=by
    apply List.eq_nil_of_length_eq_zero;rw [hlen];omega
   rw [if_pos hc,this]
   have h0:r-l=([]:List (List Dat)).length:=by simp;omega
   rw [h0]
   exact .sl sz [] p _ vs (fun hh=>absurd hh (by omega)) (by simp) (fun e he=>by cases he) (fun i e j d he=>by simp at he) (fun i e j d he=>by simp at he)
  ·have h1:=h1 (by omega)
   rw [if_neg hc]
   simp only [Option.map_some]
   rw [show r-l=((es.drop l).take (r-l)).length from hlen.symm]
   rw [show ((es.drop l).take ((es.drop l).take (r-l)).length)=(es.drop l).take (r-l) by rw [hlen]]
   refine .sl sz _ (p.add (l*sz)) _ (fun i=>vs (l*sz+i)) (fun _=>qFr p h1 _) (Nat.le_refl _) (fun e he=>h3 e (List.mem_of_mem_drop (List.mem_of_mem_take he))) (fun i e j d he hd=>?_) (fun i e j d he hd=>?_)
   ·simp only [List.getElem?_take,List.getElem?_drop] at he
    split at he
    ·rw [qDw p h1]
     have:=h4 (l+i) e j d he hd
     rwa [show (l+i)*sz+j=l*sz+(i*sz+j) by rw [Nat.add_mul];omega] at this
    ·cases he
   ·simp only [List.getElem?_take,List.getElem?_drop] at he
    split at he
    ·have:=h5 (l+i) e j d he hd
     rwa [show (l+i)*sz+j=l*sz+(i*sz+j) by rw [Nat.add_mul];omega] at this
    ·cases he
theorem vFx {P:Program} {T:Tr} {o:Oper} {ρ:Operand→AV} {v:AV} (hT:TOk P T) {t:Nat} {x lo hi mx:Operand} {sz:Nat} {es:List (List Dat)} {l r:Nat} {k1 k2 k3:IntKind} (ho:o.op=.slice t x (some lo) (some hi) (some mx)) (hs:qCk T t sz=true) (hx:ρ x=.d (.sl sz es))
  (hl:ρ lo=.d (.int k1 (l:Int))) (hr':ρ hi=.d (.int k2 (r:Int))) (hm:ρ mx=.d (.int k3 (r:Int))) (hb:l≤r∧r≤es.length) (hv:AV.d (.sl sz ((es.drop l).take (r-l)))=v):OpP P o ρ v:=by
 intro G e w hi' hr
 subst hv
 have hx':RepA G (ρ x) (e x):=hr x (by simp [ho,Op.operands])
 have h1:RepA G (ρ lo) (e lo):=hr lo (by simp [ho,Op.operands])
 have h2:RepA G (ρ hi) (e hi):=hr hi (by simp [ho,Op.operands])
 have h3:RepA G (ρ mx) (e mx):=hr mx (by simp [ho,Op.operands])
 rw [hx] at hx';rw [hl] at h1;rw [hr'] at h2;rw [hm] at h3
 have hxd:RepD G.imm (.sl sz es) (e x):=by cases hx' with | d r=>exact r
 obtain ⟨a,cap,hev,hnil,hsome⟩:=hxd.slice_inv
 have hcap:es.length≤cap:=by
  cases a with
  | none=>have:=hnil rfl;rw [this.1];exact Nat.zero_le _
  | some p=>exact (hsome p rfl).2.1
 rw [hev] at hxd
 have hcut:=hxd.cutC (l:=l) (r:=r) hb.1 hb.2
 obtain ⟨et,ie,g1,g2,g3⟩:=sliceElem_ok hT hs
 refine ⟨_,?_,.d hcut⟩
 unfold execOp
 simp only [ho,Sem.run_bind,Instr.sliceAt,Instr.slice,hev,h1.int_inv,h2.int_inv,h3.int_inv]
 simp [h1.int_inv,h2.int_inv,h3.int_inv,run_underlying g1,Instr.sliceBounds,g2.run_size,g3,qAw _ _ _ _ (show 0≤(r:Int)∧(r:Int)≤(cap:Int) by omega),qAw _ _ _ _ (show 0≤(r:Int)∧(r:Int)≤((r:Nat):Int) by omega),qAw _ _ _ _ (show 0≤(l:Int)∧(l:Int)≤((r:Nat):Int) by omega)]
section
variable {P:Program} {E:Env} {T:Tr} {o:Oper} {ρ:Operand→AV} {h:List AObj}
theorem growMake_ok (hT:TOk P T) {t t2 sz by_ i0 n:Nat} {z:List AV} {k k':IntKind} {s x:Operand} (ho:o.op=.call { callee:=.builtin .append,args:=#[s,x],argTypes:=#[t,t2] })
  (ht:qXf T t=some (sz,by_,z)) (ht2:qGq T t2=some k) (hs:ρ s=.sl sz [] .full∨ρ s=.nils) (hx:ρ x=.d (.int k' (n:Int))) (hn:0 < n∧0 < sz) (hb:n*(by_+1)≤140737488355328) (hroom:h[i0]?=some .room) :
  OpR P E o ρ h (fun u k=>∃ cap:Nat,n≤cap∧u=.row i0 0 n cap∧k=h.set i0 (.row (List.replicate n z).flatten)):=by
 intro G a w hw hr
 have hs':RepA G (ρ s) (a.eval s):=hr s (by simp [ho,Op.operands,Call.operands])
 have hx':RepA G (ρ x) (a.eval x):=hr x (by simp [ho,Op.operands,Call.operands])
 rw [hx] at hx'
 obtain ⟨et,ie,h1,h2,h3,h4,h5,h6⟩:=elemT_ok hT ht
 have hk2:=qGn hT ht2
 obtain ⟨info,g1,g2,g3,zv,g4,g5⟩:=h2.info
 obtain ⟨hl,hc⟩:=zrepL_ok g5
 have hzs:zv.cells.size=sz:=by
  have:zv.cells.toList.length=ie.zero.length:=hl.symm▸rfl
  simp only [Array.length_toList] at this
  rw [this,h5,h6]
 obtain ⟨p,hsv⟩:∃ p,a.eval s=.slice p 0 0:=by
  rcases hs with hs | hs
  ·rw [hs] at hs'
   generalize a.eval s=u at hs'
   cases hs' with
   | sl r k=>obtain ⟨p,rfl,_⟩:=k;exact ⟨p,rfl⟩
  ·rw [hs] at hs'
   generalize a.eval s=u at hs'
   cases hs'
   exact ⟨none,rfl⟩
 have hrd:RepD G.imm (.sl ie.size []) (a.eval s):=by
  rcases hs with hs | hs
  ·rw [hs] at hs'
   generalize a.eval s=u at hs'
   cases hs' with
   | sl r k=>rw [h3];exact r
  ·rw [hs] at hs'
   generalize a.eval s=u at hs'
   cases hs'
   exact .nil _
 obtain ⟨olds,o1,o2,o3,o4⟩:=qEx (P:=P) hw.imm hrd
 have ho0:olds=[]:=by simpa using o2
 subst ho0
 rw [hsv] at o1
 have hfc:=(o1 w.drew rfl).2
 have hb1:n*ie.bytes≤140737488355328:=Nat.le_trans (Nat.mul_le_mul_left _ (by omega)) hb
 have hb2:n≤140737488355328:=Nat.le_trans (by rw [Nat.mul_add];omega) hb
 have h48:¬ (Builtin.nextslicecap n 0*info.bytes > 2 ^ 48):=by
  have:=growslice_fits (bytes:=ie.bytes) (need:=n) (old:=0) hn.1 hb1
  rw [g3];omega
 have h63:¬ ((n:Int) > IntKind.i64.max):=by simp [IntKind.max,IntKind.signed,IntKind.bits];omega
 have hw63:IntKind.i64.wrap (n:Int)=(n:Int):=qAh (by omega)
 have hbb:¬ ((n:Int)*(info.bytes:Int) > 2 ^ 48):=by
  have h9:((n*info.bytes:Nat):Int)≤140737488355328:=by rw [g3];omega
  rw [Int.natCast_mul] at h9
  omega
 have hsz0:¬ (n*ie.size=0):=by
  have:=Nat.mul_pos hn.1 (show 0 < ie.size by rw [h3];exact hn.2)
  omega
 have hnle:¬ (n≤0):=by omega
 generalize hcapv:(Question.appendCap n 0 et).cut (w.tape w.drawn (.appendCap n 0 et))=newCap
 have hcap:n≤newCap:=by rw [← hcapv];simp [Question.cut]
 have hrun:(Builtin.append_ #[t,t2] o.type #[.slice p 0 0,.int k' (n:Int)]).run P w=.ok (.slice (some ⟨w.heap.size,0,none⟩) n newCap)
   (w.drew.alloc (.cells (#[]++Builtin.zeroCells zv.cells n++Builtin.zeroCells zv.cells (newCap-n)) et)):=by
  have hq:(Question.appendCap n 0 et).forced=false:=rfl
  unfold Builtin.append_
  simp only [List.getElem?_toArray,List.getElem?_cons_zero,List.getElem?_cons_succ,Sem.run_bind,run_underlying h1,Result.andThen_ok,h2.run_size,run_underlying hk2]
  simp only [Sem.run_bind,Sem.run_pure,Result.andThen_ok,if_true,asInt,asIntOf,hw63,Sem.run_ite,typeInfo,run_program,g1,hbb,if_false,Int.toNat_natCast,Nat.zero_add,hnle,hw63,h63,false_and,h48,run_choose,hq,World.drew_eq,run_askRoom,hsz0,zeroValue,g4,newRow,run_newObj,World.alloc_eq,Bool.not_true,Bool.false_eq_true,show ¬ ((n:Int) < 0) by omega]
  have hfc':Sem.run P (Builtin.firstCells ie.size 0 (Value.slice p 0 0)) w.drew=Result.ok #[] w.drew:=hfc
  simp [hfc',hcapv]
  done
 have hn':=hw.newRowAtW hroom (#[]++Builtin.zeroCells zv.cells n++Builtin.zeroCells zv.cells (newCap-n)) et (List.replicate n z).flatten ?_ (fun j c u h7 h8=>?_) (w.drew.alloc (.cells (#[]++Builtin.zeroCells zv.cells n++Builtin.zeroCells zv.cells (newCap-n)) et)) rfl rfl rfl rfl
 ·have hex:(execOp a.eval o).run P w=.ok (.value (.slice (some ⟨w.heap.size,0,none⟩) n newCap)) (w.drew.alloc (.cells (#[]++Builtin.zeroCells zv.cells n++Builtin.zeroCells zv.cells (newCap-n)) et)):=by
   unfold execOp
   simp [ho,resolve,invoke,builtin,hsv,hx'.int_inv,hrun]
  unfold Oper.wp
  rw [hex]
  exact ⟨_,qFv G i0 w.heap.size,.row i0 0 n newCap,h.set i0 (.row (List.replicate n z).flatten),⟨newCap,hcap,rfl,rfl⟩,rfl,hn'.1,hn'.2,.row 0 _ _ (by show (if i0=i0 then _ else _)=_;simp)⟩
 ·simp [Builtin.zeroCells,List.length_flatten,hzs,h6]
 ·rw [qIg,h6] at h7
  split at h7
  ·rename_i hj
   have hlt:j % sz < zv.cells.size:=by rw [hzs];exact Nat.mod_lt _ hn.2
   rw [Array.getElem?_append_left (by simp [Builtin.zeroCells,hzs];exact hj)] at h8
   simp only [Array.empty_append,Builtin.zeroCells,Array.getElem?_map,Option.map_eq_some_iff] at h8
   obtain ⟨q,hq,rfl⟩:=h8
   have hjq:q=j:=by
    rw [Array.getElem?_eq_some_iff] at hq
    obtain ⟨_,hh⟩:=hq
    simpa using hh.symm
   subst hjq
   rw [hzs,getElem!_pos zv.cells (q % sz) hlt]
   exact hc G _ c _ (by rw [h5];exact h7) (by simp [hlt])
  ·cases h7
theorem capNil_ok (hT:TOk P T) {t sz:Nat} {x:Operand} (ho:o.op=.call { callee:=.builtin .cap,args:=#[x],argTypes:=#[t] }) (ht:qCk T t sz=true) (hx:ρ x=.nils):OpP P o ρ (.d (.int .i64 0)):=by
 intro G e w hi hr
 have hx':RepA G (ρ x) (e x):=hr x (by simp [ho,Op.operands,Call.operands])
 rw [hx] at hx'
 obtain ⟨et,ie,g1,g2,g3⟩:=sliceElem_ok hT ht
 have hv:e x=.slice none 0 0:=by generalize e x=u at hx';cases hx';rfl
 refine ⟨.int .i64 0,?_,.d (.int _ _)⟩
 unfold execOp
 simp [ho,resolve,invoke,builtin,Builtin.cap_,hv,run_underlying g1,goInt]
theorem nilCut_ok (hT:TOk P T) {t sz:Nat} {x hi:Operand} {k:IntKind} (ho:o.op=.slice t x none (some hi) none) (hs:qCk T t sz=true) (hx:ρ x=.nils) (hh:ρ hi=.d (.int k 0)):OpP P o ρ .nils:=by
 intro G e w hi' hr
 have hx':RepA G (ρ x) (e x):=hr x (by simp [ho,Op.operands])
 have h2:RepA G (ρ hi) (e hi):=hr hi (by simp [ho,Op.operands])
 rw [hx] at hx';rw [hh] at h2
 obtain ⟨et,ie,g1,g2,g3⟩:=sliceElem_ok hT hs
 have hv:e x=.slice none 0 0:=by generalize e x=u at hx';cases hx';rfl
 refine ⟨.slice none 0 0,?_,.nils⟩
 unfold execOp
 simp only [ho,Sem.run_bind,Instr.sliceAt,Instr.slice,hv,h2.int_inv]
 simp [h2.int_inv,run_underlying g1,Instr.sliceBounds,g2.run_size,g3,qAw _ _ _ _ (show 0≤(0:Int)∧(0:Int)≤((0:Nat):Int) by omega)]
theorem vCu {v:AV} (hT:TOk P T) {t:Nat} {x hi mx:Operand} {sz:Nat} {es:List (List Dat)} {r:Nat} {k2 k3:IntKind} (ho:o.op=.slice t x none (some hi) (some mx)) (hs:qCk T t sz=true) (hx:ρ x=.d (.sl sz es))
  (hr':ρ hi=.d (.int k2 (r:Int))) (hm:ρ mx=.d (.int k3 (r:Int))) (hb:r≤es.length) (hv:AV.d (.sl sz (es.take r))=v):OpP P o ρ v:=by
 intro G e w hi' hr
 subst hv
 have hx':RepA G (ρ x) (e x):=hr x (by simp [ho,Op.operands])
 have h2:RepA G (ρ hi) (e hi):=hr hi (by simp [ho,Op.operands])
 have h3:RepA G (ρ mx) (e mx):=hr mx (by simp [ho,Op.operands])
 rw [hx] at hx';rw [hr'] at h2;rw [hm] at h3
 have hxd:RepD G.imm (.sl sz es) (e x):=by cases hx' with | d r=>exact r
 obtain ⟨a,cap,hev,hnil,hsome⟩:=hxd.slice_inv
 have hcap:es.length≤cap:=by
  cases a with
  | none=>have:=hnil rfl;rw [this.1];exact Nat.zero_le _
  | some p=>exact (hsome p rfl).2.1
 rw [hev] at hxd
 have hcut:=hxd.cutC (l:=0) (r:=r) (Nat.zero_le _) hb
 rw [List.drop_zero,Nat.sub_zero] at hcut
 obtain ⟨et,ie,g1,g2,g3⟩:=sliceElem_ok hT hs
 refine ⟨_,?_,.d hcut⟩
 unfold execOp
 simp only [ho,Sem.run_bind,Instr.sliceAt,Instr.slice,hev,h2.int_inv,h3.int_inv]
 simp [h2.int_inv,h3.int_inv,run_underlying g1,Instr.sliceBounds,g2.run_size,g3,qAw _ _ _ _ (show 0≤(r:Int)∧(r:Int)≤(cap:Int) by omega),qAw _ _ _ _ (show 0≤(r:Int)∧(r:Int)≤((r:Nat):Int) by omega)]
end
theorem loadA_agg {T:Tr} {t off:Nat} {i:TI} {cells vs:List AV} (hf:T.find t=some i) (ha:i.agg=true) (hle:off+i.size≤cells.length) (hv:(cells.drop off).take i.size=vs):qEv T t cells off=some (.agg vs):=by
 unfold qEv
 rw [hf]
 simp only [ha]
 rw [Nat.ble_eq_true_of_le hle,hv]
theorem setRun_full {cells cs:List AV} (h:cells.length=cs.length):qCw cells 0 cs=cs:=by
 apply List.ext_getElem?
 intro j
 rw [setRun_at cs cells 0 j (by omega)]
 by_cases hj:j < cs.length
 ·rw [if_pos ⟨by omega,by omega⟩];rfl
 ·rw [if_neg (by omega),List.getElem?_eq_none (by omega),List.getElem?_eq_none (by omega)]
theorem storeA_agg {T:Tr} {t off:Nat} {i:TI} {cells cs cells':List AV} (hf:T.find t=some i) (hsz:cs.length=i.size) (hle:off+i.size≤cells.length) (hr:qCw cells off cs=cells'):qDz T t cells off (.agg cs)=some cells':=by
 unfold qDz
 rw [hf]
 simp only [cellsA]
 rw [hsz,Nat.beq_refl,Nat.ble_eq_true_of_le hle,hr]
 rfl
theorem storeAgg_ok {P:Program} {E:Env} {T:Tr} {o:Oper} {ρ:Operand→AV} {h:List AObj} (hT:TOk P T) {t i off:Nat} {ti:TI} {x y:Operand} {cells cs cells':List AV} (ho:o.op=.store t x y) (hx:ρ x=.ptr i off) (hy:ρ y=.agg cs) (hi:h[i]?=some (.row cells)) (hf:T.find t=some ti) (hsz:cs.length=ti.size)
  (hle:off+ti.size≤cells.length) (hr:qCw cells off cs=cells'):OpS P E o ρ h .any (h.set i (.row cells')) :=
 qAp hT ho hx hi (by rw [hy];exact storeA_agg hf hsz hle hr)
section
variable {P:Program} {E:Env} {T:Tr} {o:Oper} {ρ:Operand→AV} {h:List AObj}
theorem growMakeC_ok (hT:TOk P T) {t t2 sz by_ i0 n:Nat} {z:List AV} {k k':IntKind} {s x:Operand} (ho:o.op=.call { callee:=.builtin .append,args:=#[s,x],argTypes:=#[t,t2] })
  (ht:qXf T t=some (sz,by_,z)) (ht2:qGq T t2=some k) (hs:ρ s=.sl sz [] .full∨ρ s=.nils) (hx:ρ x=.d (.int k' (n:Int))) (hn:0 < n∧0 < sz) (hb:n*(by_+1)≤140737488355328) (hroom:h[i0]?=some .room) :
  OpR P E o ρ h (fun u k=>∃ cap:Nat,n≤cap∧u=.row i0 0 n cap∧k=h.set i0 (.row (List.replicate cap z).flatten)):=by
 intro G a w hw hr
 have hs':RepA G (ρ s) (a.eval s):=hr s (by simp [ho,Op.operands,Call.operands])
 have hx':RepA G (ρ x) (a.eval x):=hr x (by simp [ho,Op.operands,Call.operands])
 rw [hx] at hx'
 obtain ⟨et,ie,h1,h2,h3,h4,h5,h6⟩:=elemT_ok hT ht
 have hk2:=qGn hT ht2
 obtain ⟨info,g1,g2,g3,zv,g4,g5⟩:=h2.info
 obtain ⟨hl,hc⟩:=zrepL_ok g5
 have hzs:zv.cells.size=sz:=by
  have:zv.cells.toList.length=ie.zero.length:=hl.symm▸rfl
  simp only [Array.length_toList] at this
  rw [this,h5,h6]
 obtain ⟨p,hsv⟩:∃ p,a.eval s=.slice p 0 0:=by
  rcases hs with hs | hs
  ·rw [hs] at hs'
   generalize a.eval s=u at hs'
   cases hs' with
   | sl r k=>obtain ⟨p,rfl,_⟩:=k;exact ⟨p,rfl⟩
  ·rw [hs] at hs'
   generalize a.eval s=u at hs'
   cases hs'
   exact ⟨none,rfl⟩
 have hrd:RepD G.imm (.sl ie.size []) (a.eval s):=by
  rcases hs with hs | hs
  ·rw [hs] at hs'
   generalize a.eval s=u at hs'
   cases hs' with
   | sl r k=>rw [h3];exact r
  ·rw [hs] at hs'
   generalize a.eval s=u at hs'
   cases hs'
   exact .nil _
 obtain ⟨olds,o1,o2,o3,o4⟩:=qEx (P:=P) hw.imm hrd
 have ho0:olds=[]:=by simpa using o2
 subst ho0
 rw [hsv] at o1
 have hfc:=(o1 w.drew rfl).2
 have hb1:n*ie.bytes≤140737488355328:=Nat.le_trans (Nat.mul_le_mul_left _ (by omega)) hb
 have hb2:n≤140737488355328:=Nat.le_trans (by rw [Nat.mul_add];omega) hb
 have h48:¬ (Builtin.nextslicecap n 0*info.bytes > 2 ^ 48):=by
  have:=growslice_fits (bytes:=ie.bytes) (need:=n) (old:=0) hn.1 hb1
  rw [g3];omega
 have h63:¬ ((n:Int) > IntKind.i64.max):=by simp [IntKind.max,IntKind.signed,IntKind.bits];omega
 have hw63:IntKind.i64.wrap (n:Int)=(n:Int):=qAh (by omega)
 have hbb:¬ ((n:Int)*(info.bytes:Int) > 2 ^ 48):=by
  have h9:((n*info.bytes:Nat):Int)≤140737488355328:=by rw [g3];omega
  rw [Int.natCast_mul] at h9
  omega
 have hsz0:¬ (n*ie.size=0):=by
  have:=Nat.mul_pos hn.1 (show 0 < ie.size by rw [h3];exact hn.2)
  omega
 have hnle:¬ (n≤0):=by omega
 generalize hcapv:(Question.appendCap n 0 et).cut (w.tape w.drawn (.appendCap n 0 et))=newCap
 have hcap:n≤newCap:=by rw [← hcapv];simp [Question.cut]
 have hrun:(Builtin.append_ #[t,t2] o.type #[.slice p 0 0,.int k' (n:Int)]).run P w=.ok (.slice (some ⟨w.heap.size,0,none⟩) n newCap)
   (w.drew.alloc (.cells (#[]++Builtin.zeroCells zv.cells n++Builtin.zeroCells zv.cells (newCap-n)) et)):=by
  have hq:(Question.appendCap n 0 et).forced=false:=rfl
  unfold Builtin.append_
  simp only [List.getElem?_toArray,List.getElem?_cons_zero,List.getElem?_cons_succ,Sem.run_bind,run_underlying h1,Result.andThen_ok,h2.run_size,run_underlying hk2]
  simp only [Sem.run_bind,Sem.run_pure,Result.andThen_ok,if_true,asInt,asIntOf,hw63,Sem.run_ite,typeInfo,run_program,g1,hbb,if_false,Int.toNat_natCast,Nat.zero_add,hnle,hw63,h63,false_and,h48,run_choose,hq,World.drew_eq,run_askRoom,hsz0,zeroValue,g4,newRow,run_newObj,World.alloc_eq,Bool.not_true,Bool.false_eq_true,show ¬ ((n:Int) < 0) by omega]
  have hfc':Sem.run P (Builtin.firstCells ie.size 0 (Value.slice p 0 0)) w.drew=Result.ok #[] w.drew:=hfc
  simp [hfc',hcapv]
  done
 have hn':=hw.newRowAtW hroom (#[]++Builtin.zeroCells zv.cells n++Builtin.zeroCells zv.cells (newCap-n)) et (List.replicate newCap z).flatten ?_ (fun j c u h7 h8=>?_) (w.drew.alloc (.cells (#[]++Builtin.zeroCells zv.cells n++Builtin.zeroCells zv.cells (newCap-n)) et)) rfl rfl rfl rfl
 ·have hex:(execOp a.eval o).run P w=.ok (.value (.slice (some ⟨w.heap.size,0,none⟩) n newCap)) (w.drew.alloc (.cells (#[]++Builtin.zeroCells zv.cells n++Builtin.zeroCells zv.cells (newCap-n)) et)):=by
   unfold execOp
   simp [ho,resolve,invoke,builtin,hsv,hx'.int_inv,hrun]
  unfold Oper.wp
  rw [hex]
  exact ⟨_,qFv G i0 w.heap.size,.row i0 0 n newCap,h.set i0 (.row (List.replicate newCap z).flatten),⟨newCap,hcap,rfl,rfl⟩,rfl,hn'.1,hn'.2,.row 0 _ _ (by show (if i0=i0 then _ else _)=_;simp)⟩
 ·simp [Builtin.zeroCells,List.length_flatten,hzs,h6]
  rw [← Nat.add_mul]
  exact Nat.mul_le_mul_right _ (by omega)
 ·rw [qIg,h6] at h7
  split at h7
  ·rename_i hj
   have hlt:j % sz < zv.cells.size:=by rw [hzs];exact Nat.mod_lt _ hn.2
   have hu:zv.cells[j % sz]! = u:=by
    simp only [Array.empty_append] at h8
    by_cases hjn:j < n*sz
    ·rw [Array.getElem?_append_left (by simp [Builtin.zeroCells,hzs];exact hjn)] at h8
     simp only [Builtin.zeroCells,Array.getElem?_map,Option.map_eq_some_iff] at h8
     obtain ⟨q,hq,rfl⟩:=h8
     rw [Array.getElem?_eq_some_iff] at hq
     obtain ⟨_,hh⟩:=hq
     rw [show q=j by simpa using hh.symm,hzs]
    ·rw [Array.getElem?_append_right (by simp [Builtin.zeroCells,hzs];omega)] at h8
     simp only [Builtin.zeroCells,Array.getElem?_map,Option.map_eq_some_iff] at h8
     obtain ⟨q,hq,rfl⟩:=h8
     rw [Array.getElem?_eq_some_iff] at hq
     obtain ⟨_,hh⟩:=hq
     have hq':q=j-n*sz:=by simpa [hzs] using hh.symm
     rw [hq',hzs]
     congr 1
     obtain ⟨d,hd⟩:∃ d,j=d+n*sz:=⟨j-n*sz,by omega⟩
     rw [hd,Nat.add_sub_cancel,Nat.add_mul_mod_self_right]
   subst hu
   rw [getElem!_pos zv.cells (j % sz) hlt]
   exact hc G _ c _ (by rw [h5];exact h7) (by simp [hlt])
  ·cases h7
end
theorem qTo {E:Env} {N:Nat} {l:List (Nat×AV)} {h:List AObj} {t i n cap sz:Nat} {cells:List AV} (ht:look l t=.row i 0 n cap) (hi:h[i]?=some (.row cells)) (hl:cells.length=cap*sz) (hc0:n≤cap) :
  ∀ a w,Rel E N (look l) h a w→Rel E N (look ((t,.bm i n)::l)) (h.set i (.buf sz n (cells.take (n*sz)))) a w:=by
 intro a w ⟨h1,h2,G,hw,hr⟩
 have hx:=hr t
 rw [ht] at hx
 obtain ⟨b,hv,hlb⟩:=hx.row_inv
 obtain ⟨b',hl',hown,hrow,himm,hrt⟩:=hw.obj i _ hi
 rw [hlb] at hl'
 cases hl'
 have hilt:i < h.length:=(List.getElem?_eq_some_iff.1 hi).1
 have hle:=rtSet_le (G:=G) (i:=i) (n:=n) (x:=(some ⟨b,0,none⟩,cap)) (hrt n)
 refine ⟨h1,h2,qMj G i n (some ⟨b,0,none⟩,cap),⟨hw.le.trans hle,hw.imm,hw.immNew,hw.keep,hw.size,hw.os,hw.tape,hw.output,hw.own,fun j hj=>?_,fun j o hj=>?_⟩,fun s=>?_⟩
 ·simp only [List.length_set] at hj
  have:=hw.fresh j hj
  exact ⟨this.1,fun m=>by rw [rtSet_ne (by omega)];exact this.2 m⟩
 ·rw [List.getElem?_set] at hj
  by_cases hij:i=j
  ·subst hij
   simp only [if_true,hilt] at hj
   cases hj
   refine ⟨some ⟨b,0,none⟩,cap,rtSet_at _ _ _ _,fun n' hn'=>by rw [rtSet_ne (by omega)];exact hrt n',by rw [List.length_take,hl];exact Nat.min_eq_left (Nat.mul_le_mul_right _ hc0),hc0,⟨fun h=>(by cases h),fun p hp=>(by cases hp;rfl)⟩,fun p hp _=>?_⟩
   cases hp
   refine ⟨rfl,hown,fun j c hj=>?_,fun j hj=>?_⟩
   ·have hj:cells[j]?=some c:=by
     rw [List.getElem?_take] at hj
     split at hj
     ·exact hj
     ·cases hj
    obtain ⟨v,v1,v2,v3,v4⟩:=hrow j c hj
    exact ⟨v,by rw [qCr,Nat.zero_add];exact v1,v2,v3.mono hle⟩
   ·have hjl:j < cells.length:=by omega
    obtain ⟨v,v1,v2,v3,v4⟩:=hrow j cells[j] (by simp [hjl])
    exact ⟨⟨v,by rw [qCr,Nat.zero_add];exact v1⟩,by rw [qCr,Nat.zero_add];exact v4,himm _ (by rw [qCs])⟩
  ·rw [if_neg hij] at hj
   exact (hw.obj j o hj).keep hle (fun b hb=>⟨rfl,fun _ _=>rfl⟩) (fun n hn=>by rw [rtSet_ne (fun hc=>hij hc.1.symm)];exact hn) (fun hn=>hn)
 ·show RepA _ (bif Nat.beq s t then _ else look l s) _
  cases hb:Nat.beq s t with
  | false=>exact (hr s).mono hle
  | true =>
   obtain rfl:=Nat.eq_of_beq_eq_true hb
   rw [hv]
   exact .bm _ _ (rtSet_at _ _ _ _) (fun h=>by cases h)
theorem qYb {P:Program} {E:Env} {N:Nat} {Q:Exit→(Nat→AV)→List AObj→Prop} {c:Code} {l:List (Nat×AV)} {h h':List AObj} (t i sz:Nat) {n cap:Nat} {cells:List AV} (ht:look l t=.row i 0 n cap) (hi:h[i]?=some (.row cells)) (hl:cells.length=cap*sz) (hc0:n≤cap)
  (hh:qEo (h.set i (.buf sz n (cells.take (n*sz)))) some=some h') (hc:AW P E N c Q (look ((t,.bm i n)::l)) h'):AW P E N c Q (look l) h:=by
 rw [forceS_eq] at hh;cases hh
 exact qJt (qTo ht hi hl hc0) hc
section
variable {P:Program} {T:Tr} {E:Env} {o:Oper} {ρ:Operand→AV} {h h':List AObj}
end
section
variable {P:Program} {T:Tr} {E:Env} {o:Oper} {ρ:Operand→AV} {h:List AObj} {v:AV}
end
section
variable {P:Program} {E:Env} {T:Tr} {o:Oper} {ρ:Operand→AV} {h h':List AObj} {v:AV}
theorem bytesWorld_eq (w:World) (e:TypeId) (s:ByteArray):Lib.bytesWorld w e s=w.drew.alloc (.cells (Lib.bytesCells w e s) e ((Lib.bytesCells w e s).size,(Lib.bytesCells w e s).size+1)):=by
 unfold Lib.bytesWorld World.freeze World.alloc
 have hd:w.drew.heap=w.heap:=rfl
 simp only [Nat.one_ne_zero,if_false]
 congr 1
 rw [hd]
 apply Array.ext_getElem?
 intro j
 rw [Array.getElem?_modify]
 by_cases hj:w.heap.size=j
 ·subst hj
  simp [Array.getElem?_push_size]
 ·rw [if_neg hj,Array.getElem?_push,Array.getElem?_push,if_neg (fun h=>hj h.symm),if_neg (fun h=>hj h.symm)]
theorem bytesCells_at (w:World) (e:TypeId) (s:List UInt8) {j:Nat} {c:UInt8} (h:s[j]?=some c):(Lib.bytesCells w e ⟨s.toArray⟩)[j]?=some (.int .u8 (c.toNat:Int)):=by
 have hj:=(List.getElem?_eq_some_iff.1 h).1
 unfold Lib.bytesCells
 rw [Array.getElem?_append_left (by simpa using hj)]
 simp [h]
theorem strBytes_ok (hT:TOk P T) {t t2:Nat} {x:Operand} {s:List UInt8} (ho:o.op=.convert t t2 x) (hb:(qIe T t&&qFm T t2)=true) (hx:ρ x=.d (.str s)) :
  OpS P E o ρ h (.d (.sl 1 (s.map fun b=>[.int .u8 (b.toNat:Int)]))) h :=
 qBv fun G e w hw hr=>by
  have hx':RepA G (ρ x) (e x):=hr x (by simp [ho,Op.operands])
  rw [hx] at hx'
  have hv:=hx'.str_inv
  simp only [Bool.and_eq_true] at hb
  obtain ⟨et,h1,h2⟩:=isByteSlice_ok hT hb.2
  have h3:=qDl hT hb.1
  have hrun:=Lib.run_convert_string_bytes (P:=P) w t t2 et ⟨s.toArray⟩ h3 h1 h2
  rw [bytesWorld_eq] at hrun
  have hfree:G.own w.heap.size=none:=by
   cases ho:G.own w.heap.size with
   | none=>rfl
   | some j=>have:=(hw.own _ _ ho).1;omega
  have hle:=immExt_le hw s.length (Lib.bytesCells w et ⟨s.toArray⟩)
  have hnew:=hw.newImm s.length (Lib.bytesCells w et ⟨s.toArray⟩) et (w.drew.alloc (.cells (Lib.bytesCells w et ⟨s.toArray⟩) et)) rfl rfl rfl rfl
  have hmk:=qTg (w:=w.drew) (G:=qLh G w.heap.size s.length (Lib.bytesCells w et ⟨s.toArray⟩)) (f:=((Lib.bytesCells w et ⟨s.toArray⟩).size,(Lib.bytesCells w et ⟨s.toArray⟩).size+1)) hw.size hfree hnew
  refine ⟨.slice (some ⟨w.heap.size,0,none⟩) s.length (grownCap w s.length 0 et),_,_,?_,hle,hmk,.d ?_⟩
  ·unfold execOp
   simp only [ho,Sem.run_bind]
   rw [hv]
   have hsz:(⟨s.toArray⟩:ByteArray).size=s.length:=by simp [ByteArray.size]
   rw [hsz] at hrun
   rw [hrun]
   rfl
  ·have hsz:s.length=(s.map fun b=>[Dat.int .u8 (b.toNat:Int)]).length:=by simp
   conv=>rhs;rw [hsz]
   refine newImm_rep (n:=s.length) (fun el hel=>?_) (by simp) _ (by simpa using grownCap_ge w s.length 0 et) (fun i el j d he hd=>?_)
   ·obtain ⟨b,_,rfl⟩:=List.mem_map.1 hel;rfl
   ·rw [List.getElem?_map,Option.map_eq_some_iff] at he
    obtain ⟨b,hb',rfl⟩:=he
    match j,hd with
    | 0,hd=>cases hd;exact ⟨_,by simpa using bytesCells_at w et s hb',.int _ _⟩
    | j+1,hd=>simp at hd
end
variable {P:Program} {E:Env} {N:Nat}
end Tdoc
namespace Tdoc
open Go
section
variable {P:Program} {E:Env} {T:Tr} {o:Oper} {ρ:Operand→AV} {h h':List AObj} {v:AV}
def qYs (T:Tr) (t len:Nat) (parts:List (Nat×AV)):Option (List AV):=match T.find t with
 | some i=>match i.kind with
  | .slice el=>match T.find el with
   | some ie=>match Nat.blt 0 ie.size&&Nat.beq ie.zero.length ie.size&&Nat.blt 0 len&&Nat.ble (len*ie.size) 16777216 with
    | true=>qNw (fun i=>some (i*ie.size,ie.size)) ((List.range (len*ie.size)).map fun k=>(ie.zero[k % ie.size]?).getD .any) parts
    | false=>none
   | none=>none
  | _=>none
 | none=>none
theorem buildRow_run (hT:TOk P T) {t len i0:Nat} {parts:Array (Nat×Operand)} {cells:List AV} (ho:o.op=.buildSlice t len parts) (hv:qYs T t len (parts.toList.map fun x=>(x.1,ρ x.2))=some cells) (hroom:h[i0]?=some .room)
  (G:Gh) (e:Operand→Value) (w:World) (hw:WRel E G h w) (hr:∀ x,x∈o.op.operands.toList→RepA G (ρ x) (e x)) :
  ∃ el vs',(execOp e o).run P w=.ok (.value (.slice (some ⟨w.heap.size,0,none⟩) len len)) (w.alloc (.cells vs' el))∧G.le (qFv G i0 w.heap.size)∧WRel E (qFv G i0 w.heap.size) (h.set i0 (.row cells)) (w.alloc (.cells vs' el)) ∧
   vs'.size=cells.length∧∀ (j:Nat) (c:AV) (u:Value),cells[j]?=some c→vs'[j]?=some u→RepA G c u∧qHy u=true:=by
  have hp:∀ x,x∈parts.toList→RepA G (ρ x.2) (e x.2):=fun x hx=>hr x.2 (by
   simp only [ho,Op.operands]
   exact List.mem_map_of_mem hx)
  unfold qYs at hv
  split at hv
  ·rename_i i hf
   split at hv
   ·rename_i el hk
    obtain ⟨d,hd,hkd⟩:=(hT.at hf).und
    rw [hk] at hkd
    cases d <;> simp [qCx] at hkd
    subst hkd
    split at hv
    ·rename_i ie hfe
     obtain ⟨einfo,heinfo,hesz,heb,z,hz,hzc⟩:=(hT.at hfe).info
     split at hv
     ·rename_i hb
      simp only [Bool.and_eq_true] at hb
      have hpos:0 < ie.size:=by have:=hb.1.1.1;(simp [Nat.blt] at this;omega)
      have hzlen:=Nat.eq_of_beq_eq_true hb.1.1.2
      have hlen:0 < len:=by have:=hb.1.2;(simp [Nat.blt] at this;omega)
      have hsmall:=Nat.le_of_ble_eq_true hb.2
      obtain ⟨zl,zr⟩:=zrepL_ok hzc
      simp only [Array.length_toList] at zl
      let base:List AV:=(List.range (len*ie.size)).map fun k=>(ie.zero[k % ie.size]?).getD .any
      let basev:Array Value:=(Array.range (len*ie.size)).map (z.cells[· % z.cells.size]!)
      have hbase:CellsRep G base basev:=by
       refine ⟨by simp [base,basev],fun j c u hc hu=>?_⟩
       have hj:j < len*ie.size:=by have:=(List.getElem?_eq_some_iff.1 hc).1;simpa [base] using this
       have hm:j % ie.size < ie.size:=Nat.mod_lt _ hpos
       have hm2:j % ie.size < z.cells.size:=by omega
       simp [base,hj] at hc
       simp [basev,hj] at hu
       subst hc;subst hu
       rw [← zl,hzlen]
       have h1:ie.zero[j % ie.size]?=some ie.zero[j % ie.size]:=by simp [hzlen,hm]
       rw [h1]
       simp only [Option.getD_some]
       have h2:z.cells[j % ie.size]! = z.cells[j % ie.size]:=by simp [hm2]
       rw [h2]
       exact zr G _ _ _ h1 (by simp [hm2])
      obtain ⟨vs',v1,v2⟩:=fillA_ok (e:=e) parts.toList _ _ _ hbase hp hv
      have hn:=hw.newRowAt hroom vs' el cells v2.1 (fun j c u h1 h2=>v2.2 j c u h1 h2) (w.alloc (.cells vs' el)) rfl rfl rfl rfl
      refine ⟨el,vs',?_,hn.1,hn.2,v2.1,v2.2⟩
      have h0:len*ie.size≠0:=by
       have:=Nat.mul_pos hlen hpos
       omega
      unfold execOp
      simp only [ho,Sem.run_bind]
      rw [run_buildSlice w t el len _ vs' einfo z hd heinfo hz (by rw [hesz];omega) (by rw [hesz];exact h0) (by rw [hesz];simpa using v1)]
      rfl
     ·cases hv
    ·cases hv
   ·cases hv
  ·cases hv
theorem buildRowAt_ok (hT:TOk P T) {t len i0:Nat} {parts:Array (Nat×Operand)} {cells:List AV} (ho:o.op=.buildSlice t len parts) (hv:qYs T t len (parts.toList.map fun x=>(x.1,ρ x.2))=some cells) (hroom:h[i0]?=some .room) :
  OpS P E o ρ h (.row i0 0 len len) (h.set i0 (.row cells)) :=
 qBv fun G e w hw hr=>by
  obtain ⟨el,vs',h1,h2,h3,_,_⟩:=buildRow_run hT ho hv hroom G e w hw hr
  exact ⟨_,_,_,h1,h2,h3,.row 0 _ _ (by show (if i0=i0 then _ else _)=_;simp)⟩
end
variable {P:Program} {E:Env} {N:Nat} {ops:Array Oper}
theorem anyA_firstT {rd wr:Nat→List Nat} {Q:(Nat→AV)→List AObj→Prop} {i:Nat} {oi:Oper} {v:AV} {osi:List AObj} (U:Nat→Bool) (hi:ops[i]?=some oi)
  (hdep:∀ j oj,U j=true→ops[j]?=some oj→∃ e,e∈oj.after∧Region.binds .any e=true∧(e.on=i∨U e.on=true)):∀ (fuel:Nat) (listed:Array Bool) (τ:Nat→AV) (h:List AObj),
  (∀ j,U j=true→listed.getD j true=false) →
  (∀ j oj,ops[j]?=some oj→j≠i→U j=false→listed.getD j true=false→oi.apart ops oj=true∧conf rd wr i j=false) →
  i∈Region.ready .any ops listed→SI P E N ops rd wr i oi τ h v osi→vDe P E N ops rd wr Q fuel (listed.setIfInBounds i true) (qMh τ oi.dst v) (qFz h (wr i) osi)→vDe P E N ops rd wr Q (fuel+1) listed τ h:=by
 intro fuel
 have own:∀ (listed:Array Bool) (τ:Nat→AV) (h:List AObj) (K:(Nat→AV)→List AObj→Prop),SI P E N ops rd wr i oi τ h v osi→K (qMh τ oi.dst v) (qFz h (wr i) osi)→qNi P E N ops rd wr i K τ h:=by
  intro listed τ h K hs hk
  unfold qNi
  simp only [hi]
  exact ⟨v,osi,hs,hk⟩
 induction fuel with
 | zero =>
  intro listed τ h _ _ hr hy H
  refine ⟨fun h0=>(by rw [h0] at hr;cases hr),fun j hj=>?_⟩
  by_cases hji:j=i
  ·subst hji;exact own listed τ h _ hy H
  ·have:=ready_mono hj hji
   rw [H.1] at this
   cases this
 | succ fuel ih =>
  intro listed τ h hU hfree hr hy H
  refine ⟨fun h0=>(by rw [h0] at hr;cases hr),fun j hj=>?_⟩
  by_cases hji:j=i
  ·subst hji;exact own listed τ h _ hy H
  ·have hs:=H.2 j (ready_mono hj hji)
   obtain ⟨hjun,oj,hoj,hall⟩:=mem_ready.1 hj
   have hin:listed.getD i true=false:=(mem_ready.1 hr).1
   have hcon:∀ k,listed.getD k true=false→listed.getD k false=true→False:=fun k h0 h1=>by
    rcases Nat.lt_or_ge k listed.size with h' | h'
    ·simp [h'] at h0 h1;rw [h0] at h1;cases h1
    ·simp [Array.getElem?_eq_none h'] at h1
   have hUj:U j=false:=by
    cases hu:U j with
    | false=>rfl
    | true =>
     obtain ⟨e,he,hb,hor⟩:=hdep j oj hu hoj
     have h1:=hall e he hb
     rcases hor with rfl | hu2
     ·exact (hcon _ hin h1).elim
     ·exact (hcon _ (hU _ hu2) h1).elim
   obtain ⟨hap,hcf⟩:=hfree j oj hoj hji hUj hjun
   obtain ⟨a1,a2,a3⟩:=Oper.apart_spec hap
   simp only [conf,Bool.or_eq_false_iff] at hcf
   obtain ⟨⟨f1,f2⟩,f3⟩:=hcf
   have f1:=qFa f1
   have f2:=qFa f2
   have f3:=qFa f3
   unfold qNi at hs ⊢
   simp only [hoj] at hs ⊢
   obtain ⟨vj,osj,hsj,hk⟩:=hs
   have cj:∀ d,d∈oj.looksAt ops→τ d=qMh τ oi.dst v d:=fun d hd=>(putA_other fun e he hh=>a1 e he (hh▸hd)).symm
   have ci:∀ u d,d∈oi.looksAt ops→qMh τ oj.dst u d=τ d:=fun u d hd=>putA_other fun e he hh=>a3 e he (hh▸hd)
   have hU':∀ k,U k=true→(listed.setIfInBounds j true).getD k true=false:=fun k hk=>by
    rw [getD_set_ne true (fun hh=>by subst hh;rw [hUj] at hk;cases hk)]
    exact hU k hk
   have hfree':∀ k ok,ops[k]?=some ok→k≠i→U k=false→(listed.setIfInBounds j true).getD k true=false→oi.apart ops ok=true∧conf rd wr i k=false:=fun k ok hk' hki hku hun=>by
    refine hfree k ok hk' hki hku ?_
    by_cases hjk:j=k
    ·subst hjk;exact hjun
    ·rw [getD_set_ne true hjk] at hun;exact hun
   refine ⟨vj,osj,hsj.congr cj (by rw [updH_length]) (fun x hx=>(updH_other _ _ _ _ (fun hw=>f1 x hw hx)).symm),ih _ _ _ hU' hfree' (ready_mono hr (Ne.symm hji)) (hy.congr (ci vj) (by rw [updH_length]) (fun x hx=>updH_other _ _ _ _ (fun hw=>f3 x hw hx))) ?_⟩
   rw [Array.setIfInBounds_comm _ _ hji,← putA_comm a2,← updH_comm _ _ _ _ _ f2]
   exact hk
def waits (ops:Array Oper) (i:Nat):Array Bool :=
 (List.range ops.size).foldl (fun u j=>u.setIfInBounds j (match ops[j]? with
  | some oj=>oj.after.any fun e=>Region.binds .any e&&(e.on == i||u.getD e.on false)
  | none=>false)) (Array.replicate ops.size false)
def vFn (ops:Array Oper) (rd wr:Nat→List Nat) (listed:Array Bool) (i:Nat) (U:Array Bool):Bool :=
 match ops[i]? with
 | none=>false
 | some oi=>Nat.beq U.size ops.size&&(List.range ops.size).all fun j=>match ops[j]? with
   | some oj=>match U.getD j false with
    | true=>!listed.getD j true&&oj.after.any fun e=>Region.binds .any e&&(e.on == i||U.getD e.on false)
    | false=>j == i||listed.getD j true||(oi.apart ops oj&&!conf rd wr i j)
   | none=>true
theorem freeT_spec {rd wr:Nat→List Nat} {listed U:Array Bool} {i:Nat} {oi:Oper} (hi:ops[i]?=some oi) (h:vFn ops rd wr listed i U=true) :
  (∀ j oj,U.getD j false=true→ops[j]?=some oj→∃ e,e∈oj.after∧Region.binds .any e=true∧(e.on=i∨U.getD e.on false=true))∧(∀ j,U.getD j false=true→listed.getD j true=false) ∧
  (∀ j oj,ops[j]?=some oj→j≠i→U.getD j false=false→listed.getD j true=false→oi.apart ops oj=true∧conf rd wr i j=false):=by
 simp only [vFn,hi,Bool.and_eq_true,List.all_eq_true,List.mem_range] at h
 obtain ⟨hsz,h⟩:=h
 have hsz:=Nat.eq_of_beq_eq_true hsz
 refine ⟨fun j oj hu hj=>?_,fun j hu=>?_,fun j oj hj hne hu hun=>?_⟩
 ·have h1:=h j (Array.getElem?_eq_some_iff.1 hj).1
  simp only [hj,hu,Bool.and_eq_true] at h1
  obtain ⟨e,he,hb⟩:=Array.any_eq_true'.1 h1.2
  simp only [Bool.and_eq_true,Bool.or_eq_true,beq_iff_eq] at hb
  exact ⟨e,he,hb.1,hb.2⟩
 ·have hlt:j < U.size:=by
   rcases Nat.lt_or_ge j U.size with h' | h'
   ·exact h'
   ·simp [Array.getElem?_eq_none h'] at hu
  have h1:=h j (by omega)
  have hj:ops[j]?=some ops[j]:=by simp [show j < ops.size by omega]
  simp only [hj,hu,Bool.and_eq_true] at h1
  simpa using h1.1
 ·have h1:=h j (Array.getElem?_eq_some_iff.1 hj).1
  simp only [hj,hu,Bool.or_eq_true,beq_iff_eq,hne,false_or,hun,Bool.false_eq_true] at h1
  simpa using h1
def vHv (ops:Array Oper) (rd wr:Nat→List Nat):Nat→Nat→Array Bool→Bool
 | 0,_,listed=>(Region.ready .any ops listed).isEmpty
 | fuel+1,k,listed=>(Region.ready .any ops listed).contains k&&vFn ops rd wr listed k (waits ops k)&&vHv ops rd wr fuel (k+1) (listed.setIfInBounds k true)
theorem qWk {rd wr:Nat→List Nat} {ops:List Oper} {Q:(Nat→AV)→List AObj→Prop}:∀ (l:List Oper) (k:Nat) (listed:Array Bool) (τ:Nat→AV) (h:List AObj),(∀ j,l[j]?=ops[k+j]?) →
  vHv ops.toArray rd wr l.length k listed=true→AWd P E N ops rd wr Q l k τ h→vDe P E N ops.toArray rd wr Q l.length listed τ h
 | [],_,_,_,_,_,hB,H=>⟨by simpa [vHv] using hB,H⟩
 | o::l,k,listed,τ,h,hl,hB,H=>by
  have h0:ops.toArray[k]?=some o:=by simpa using (hl 0).symm
  simp only [List.length_cons,vHv,Bool.and_eq_true] at hB
  obtain ⟨⟨hr,hf⟩,hB'⟩:=hB
  obtain ⟨v,os,hs,hk⟩:=H
  obtain ⟨f1,f2,f3⟩:=freeT_spec h0 hf
  exact anyA_firstT (fun j=>(waits ops.toArray k).getD j false) h0 f1 l.length listed τ h f2 f3 (by simpa using hr) hs
   (qWk l (k+1) _ _ _ (fun j=>by have:=hl (j+1);simpa [Nat.add_assoc,Nat.add_comm 1 j] using this) hB' hk)
theorem qAv {id:Nat} (rd wr:Nat→List Nat) {ops:List Oper} {Q:Exit→(Nat→AV)→List AObj→Prop} {τ:Nat→AV} {h:List AObj} (hm:P.follows .mixedOrders=true)
  (hB:vHv ops.toArray rd wr ops.length 0 (Array.replicate ops.length false)=true) (H:AWd P E N ops rd wr (Q .normal) ops 0 τ h):AW P E N (.region id ops.toArray true) Q τ h:=by
 intro a w hr
 refine wp_region_any hm ?_
 have:=qWk (P:=P) (E:=E) (N:=N) ops 0 _ τ h (fun j=>by simp) hB H
 have:=anyA_sound (Q:=Q) _ _ _ _ a _ this hr.drew
 simpa using this
end Tdoc
namespace Tdoc
open Go
variable {P:Program} {E:Env} {N:Nat}
theorem qFf {T:Tr} (hT:TOk P T) {rd wr:Nat→List Nat} {ops:List Oper} {Q:(Nat→AV)→List AObj→Prop} {i d:Nat} {op:Op} {ty:TypeId} {pos:String} {after:Array Edge} {j:Nat} {want:Bool} {rest:List Oper}
  {l:List (Nat×AV)} {h:List AObj} {v:AV} {C:Prop} {gd:Nat} {ex:Bool} (hg:gslot ops l j want=some (gd,ex)) (hs:∀ k,astep T op (evG (look l) op) k=some (v,k,C)) (hd:Nat.blt d N=true) (hgd:Nat.blt gd N=true) (hw:wr i=[])
  (hk:AWd P E N ops rd wr Q rest (i+1) (look ((d,.gd ex v)::l)) h) (hC:ex=true→qSu (look l) (qXb op)∧C:=by intro hg;first | exact ⟨True.intro,True.intro⟩ | exact sg hg) :
  AWd P E N ops rd wr Q (⟨some d,op,ty,pos,after,some (j,want)⟩::rest) i (look l) h:=by
 refine ⟨.gd ex v,[],fun k h1 h2=>?_,by rw [hw,updH_nil];exact hk⟩
 rw [hw]
 simp only [updH_nil]
 exact qGs rfl hg hd hgd (fun hb=>⟨(hC hb).1,astepU_ok (o:=⟨some d,op,ty,pos,after,some (j,want)⟩) hT (hs k) (hC hb).2⟩)
theorem vGp {rd wr:Nat→List Nat} {ops:List Oper} {Q:(Nat→AV)→List AObj→Prop} {i d:Nat} {op:Op} {ty:TypeId} {pos:String} {after:Array Edge} {j:Nat} {want:Bool} {rest:List Oper}
  {l:List (Nat×AV)} {h:List AObj} {v:AV} {gd:Nat} {ex:Bool} (hg:gslot ops l j want=some (gd,ex)) (hd:Nat.blt d N=true) (hgd:Nat.blt gd N=true) (hw:wr i=[])
  (hC:ex=true→qSu (look l) (qXb op)∧∀ k:List AObj,k.length=h.length→(∀ x,x∈rd i→k[x]?=h[x]?)→OpS P E ⟨some d,op,ty,pos,after,some (j,want)⟩ (evG (look l) op) k v k)
  (hk:AWd P E N ops rd wr Q rest (i+1) (look ((d,.gd ex v)::l)) h) :
  AWd P E N ops rd wr Q (⟨some d,op,ty,pos,after,some (j,want)⟩::rest) i (look l) h:=by
 refine ⟨.gd ex v,[],fun k h1 h2=>?_,by rw [hw,updH_nil];exact hk⟩
 rw [hw]
 simp only [updH_nil]
 exact qGs rfl hg hd hgd (fun hb=>⟨(hC hb).1,(hC hb).2 k h1 h2⟩)
end Tdoc
namespace Tdoc
open Go
def wI (x:BitVec 32):Int:=(x.toNat:Int)
theorem wrap32 (n:Int):IntKind.u32.wrap n=n % 4294967296:=by
 simp only [IntKind.wrap,IntKind.signed,IntKind.bits]
 simp
theorem ofInt_wI (x:BitVec 32):BitVec.ofInt IntKind.u32.bits (wI x)=x:=by
 show BitVec.ofInt 32 (wI x)=x
 apply BitVec.eq_of_toNat_eq
 rw [BitVec.toNat_ofInt]
 have:=x.isLt
 unfold wI
 omega
theorem qKc (x:BitVec 32):IntKind.u32.wrap (x.toNat:Int)=wI x:=by rw [wrap32];have:=x.isLt;unfold wI;omega
theorem wI_add (x y:BitVec 32):IntKind.u32.wrap (wI x+wI y)=wI (x+y):=by
 rw [wrap32];unfold wI;rw [BitVec.toNat_add];omega
theorem wI_and (x y:BitVec 32):IntKind.u32.wrap ((BitVec.ofInt IntKind.u32.bits (wI x) &&& BitVec.ofInt IntKind.u32.bits (wI y)).toNat:Int)=wI (x &&& y):=by rw [ofInt_wI,ofInt_wI];exact qKc (x &&& y)
theorem wI_or (x y:BitVec 32):IntKind.u32.wrap ((BitVec.ofInt IntKind.u32.bits (wI x) ||| BitVec.ofInt IntKind.u32.bits (wI y)).toNat:Int)=wI (x ||| y):=by rw [ofInt_wI,ofInt_wI];exact qKc (x ||| y)
theorem wI_xor (x y:BitVec 32):IntKind.u32.wrap ((BitVec.ofInt IntKind.u32.bits (wI x) ^^^ BitVec.ofInt IntKind.u32.bits (wI y)).toNat:Int)=wI (x ^^^ y):=by rw [ofInt_wI,ofInt_wI];exact qKc (x ^^^ y)
theorem wI_not (x:BitVec 32):IntKind.u32.wrap ((BitVec.ofInt IntKind.u32.bits (if IntKind.u32.signed then -1 else IntKind.u32.max) ^^^ BitVec.ofInt IntKind.u32.bits (wI x)).toNat:Int)=wI (~~~ x):=by
 show IntKind.u32.wrap ((BitVec.ofInt 32 4294967295 ^^^ BitVec.ofInt 32 (wI x)).toNat:Int)=wI (~~~ x)
 have h1:BitVec.ofInt 32 4294967295=BitVec.allOnes 32:=by decide
 have h3:BitVec.ofInt 32 (wI x)=x:=ofInt_wI x
 have h2:BitVec.allOnes 32 ^^^ x = ~~~ x:=by rw [BitVec.xor_comm,BitVec.xor_allOnes]
 rw [h1,h3,h2]
 exact qKc (~~~ x)
theorem wI_shl (x:BitVec 32) (k:Nat):IntKind.u32.wrap (wI x*2 ^ k)=wI (x <<< k):=by
 rw [wrap32];unfold wI
 rw [BitVec.toNat_shiftLeft,Nat.shiftLeft_eq]
 have h:((x.toNat:Int)*2 ^ k)=((x.toNat*2 ^ k:Nat):Int):=by push_cast;rfl
 rw [h]
 omega
theorem wI_shr (x:BitVec 32) (k:Nat):Int.fdiv (wI x) (2 ^ k)=wI (x >>> k):=by
 unfold wI
 rw [BitVec.toNat_ushiftRight,Nat.shiftRight_eq_div_pow]
 have h:(2:Int) ^ k=((2 ^ k:Nat):Int):=by push_cast;rfl
 rw [h,Int.fdiv_eq_ediv_of_nonneg _ (Int.natCast_nonneg _)]
 exact (Int.natCast_ediv _ _).symm
def wB (c:UInt8):BitVec 32:=BitVec.ofNat 32 c.toNat
theorem wI_byte (c:UInt8):IntKind.u32.wrap (c.toNat:Int)=wI (wB c):=by
 have:=UInt8.toNat_lt c
 rw [wrap32];unfold wI wB
 rw [BitVec.toNat_ofNat]
 omega
def bW (x:BitVec 32):UInt8:=UInt8.ofNat (x.toNat % 256)
theorem bW_wrap (x:BitVec 32):IntKind.u8.wrap (wI x)=((bW x).toNat:Int):=by
 rw [qEe];unfold wI bW
 rw [show (UInt8.ofNat (x.toNat % 256)).toNat=x.toNat % 256 by simp]
 omega
def qHt (x:BitVec 32) (n:Nat):BitVec 32:=x >>> n ||| x <<< (32-n)
theorem rotW_comm (x:BitVec 32) (n:Nat):x <<< (32-n) ||| x >>> n=qHt x n:=BitVec.or_comm _ _
def sg0 (x:BitVec 32):BitVec 32:=qHt x 7 ^^^ qHt x 18 ^^^ x >>> 3
def sg1 (y:BitVec 32):BitVec 32:=qHt y 17 ^^^ qHt y 19 ^^^ y >>> 10
def bs0 (a:BitVec 32):BitVec 32:=qHt a 2 ^^^ qHt a 13 ^^^ qHt a 22
def bs1 (e:BitVec 32):BitVec 32:=qHt e 6 ^^^ qHt e 11 ^^^ qHt e 25
def qRr (b:List UInt8) (i:Nat):BitVec 32:=wB (b.getD i 0) <<< 24 ||| wB (b.getD (i+1) 0) <<< 16 ||| wB (b.getD (i+2) 0) <<< 8 ||| wB (b.getD (i+3) 0)
def vEw (w:List (BitVec 32)) (t:Nat):BitVec 32:=sg1 (w.getD (t-2) 0)+w.getD (t-7) 0+sg0 (w.getD (t-15) 0)+w.getD (t-16) 0
def qKe (b:List UInt8):Nat→List (BitVec 32)
 | 0=>[]
 | n+1=>qKe b n++[if n < 16 then qRr b (4*n) else vEw (qKe b n) n]
theorem schW_length (b:List UInt8):∀ n,(qKe b n).length=n
 | 0=>rfl
 | n+1=>by rw [qKe,List.length_append,schW_length b n];rfl
def kW:List (BitVec 32):=[0x428a2f98,0x71374491,0xb5c0fbcf,0xe9b5dba5,0x3956c25b,0x59f111f1,0x923f82a4,0xab1c5ed5,
 0xd807aa98,0x12835b01,0x243185be,0x550c7dc3,0x72be5d74,0x80deb1fe,0x9bdc06a7,0xc19bf174,
 0xe49b69c1,0xefbe4786,0x0fc19dc6,0x240ca1cc,0x2de92c6f,0x4a7484aa,0x5cb0a9dc,0x76f988da,
 0x983e5152,0xa831c66d,0xb00327c8,0xbf597fc7,0xc6e00bf3,0xd5a79147,0x06ca6351,0x14292967,
 0x27b70a85,0x2e1b2138,0x4d2c6dfc,0x53380d13,0x650a7354,0x766a0abb,0x81c2c92e,0x92722c85,
 0xa2bfe8a1,0xa81a664b,0xc24b8b70,0xc76c51a3,0xd192e819,0xd6990624,0xf40e3585,0x106aa070,
 0x19a4c116,0x1e376c08,0x2748774c,0x34b0bcb5,0x391c0cb3,0x4ed8aa4a,0x5b9cca4f,0x682e6ff3,
 0x748f82ee,0x78a5636f,0x84c87814,0x8cc70208,0x90befffa,0xa4506ceb,0xbef9a3f7,0xc67178f2]
structure Vw where
 a:BitVec 32
 b:BitVec 32
 c:BitVec 32
 d:BitVec 32
 e:BitVec 32
 f:BitVec 32
 g:BitVec 32
 h:BitVec 32
def vEk (v:Vw) (k w:BitVec 32):Vw :=
 let t1:=v.h+bs1 v.e+((v.e &&& v.f) ^^^ (~~~ v.e &&& v.g))+k+w
 let t2:=bs0 v.a+((v.a &&& v.b) ^^^ (v.a &&& v.c) ^^^ (v.b &&& v.c))
 ⟨t1+t2,v.a,v.b,v.c,v.d+t1,v.e,v.f,v.g⟩
def qGy (v:Vw) (w:List (BitVec 32)):Nat→Vw
 | 0=>v
 | n+1=>vEk (qGy v w n) (kW.getD n 0) (w.getD n 0)
def qVb:Vw:=⟨0x6a09e667,0xbb67ae85,0x3c6ef372,0xa54ff53a,0x510e527f,0x9b05688c,0x1f83d9ab,0x5be0cd19⟩
def qXi (v:Vw) (b:List UInt8):Vw :=
 let r:=qGy v (qKe b 64) 64
 ⟨v.a+r.a,v.b+r.b,v.c+r.c,v.d+r.d,v.e+r.e,v.f+r.f,v.g+r.g,v.h+r.h⟩
def qEk (x:BitVec 32):List UInt8:=[bW (x >>> 24),bW (x >>> 16),bW (x >>> 8),bW x]
def vGw (v:Vw):List UInt8:=qEk v.a++qEk v.b++qEk v.c++qEk v.d++qEk v.e++qEk v.f++qEk v.g++qEk v.h
def vEz:Nat→Nat→List UInt8
 | 0,_=>[]
 | m+1,n=>vEz m (n / 256)++[UInt8.ofNat (n % 256)]
def qWv (b:List UInt8):List UInt8:=b++[128]++List.replicate ((119-b.length % 64) % 64) 0++vEz 8 (8*b.length)
theorem lenW_length:∀ (m n:Nat),(vEz m n).length=m
 | 0,_=>rfl
 | m+1,n=>by rw [vEz,List.length_append,lenW_length m];rfl
theorem padW_length (b:List UInt8):(qWv b).length % 64=0∧(qWv b).length≤b.length+73:=by
 unfold qWv
 simp only [List.length_append,List.length_replicate,List.length_singleton,lenW_length]
 omega
def vBo:Nat→Vw→List UInt8→Vw
 | 0,v,_=>v
 | n+1,v,b=>vBo n (qXi v (b.take 64)) (b.drop 64)
def qOv (b:List UInt8):List UInt8:=vGw (vBo ((qWv b).length / 64) qVb (qWv b))
theorem sumW_length (b:List UInt8):(qOv b).length=32:=rfl
def uV (x:BitVec 32):AV:=.d (.int .u32 (wI x))
def cellsW (b:List UInt8) (t:Nat):List AV:=(qKe b t).map uV++List.replicate (64-t) (uV 0)
def qMp (b:List UInt8) (t:Nat):BitVec 32:=if t < 16 then qRr b (4*t) else vEw (qKe b t) t
theorem schW_succ (b:List UInt8) (n:Nat):qKe b (n+1)=qKe b n++[qMp b n]:=rfl
theorem cellsW_length (b:List UInt8) {t:Nat} (h:t≤64):(cellsW b t).length=64:=by
 unfold cellsW
 rw [List.length_append,List.length_map,schW_length,List.length_replicate];omega
theorem cellsW_at (b:List UInt8) {i t:Nat} (h:i < t):(cellsW b t)[i]?=some (uV ((qKe b t).getD i 0)):=by
 have hl:=schW_length b t
 unfold cellsW
 rw [List.getElem?_append_left (by rw [List.length_map];omega),List.getElem?_map]
 simp [show i < (qKe b t).length by omega]
theorem cellsW_set (b:List UInt8) {t:Nat} (h:t < 64):(cellsW b t).set t (uV (qMp b t))=cellsW b (t+1):=by
 have hl:=schW_length b t
 unfold cellsW
 rw [schW_succ,List.map_append,List.set_append_right _ _ (by rw [List.length_map];omega),List.length_map,hl,Nat.sub_self,show 64-t=(64-(t+1))+1 by omega,List.replicate_succ,List.set_cons_zero,List.append_assoc]
 rfl
theorem schW_next (b:List UInt8) {t:Nat} (h:16≤t):qMp b t=sg1 ((qKe b t).getD (t-2) 0)+(qKe b t).getD (t-7) 0+sg0 ((qKe b t).getD (t-15) 0)+(qKe b t).getD (t-16) 0:=by
 unfold qMp vEw;rw [if_neg (by omega)]
theorem schW_word (b:List UInt8) {t:Nat} (h:t < 16):qMp b t=qRr b (4*t):=by unfold qMp;rw [if_pos h]
theorem cells64 (b:List UInt8) {t:Nat} (h:t < 64):(cellsW b 64)[t]?=some (uV ((qKe b 64).getD t 0)):=cellsW_at b h
def qVm (n:Nat):Nat:=(119-n % 64) % 64
theorem padZ_iff {n j:Nat} (h:j≤qVm n):(n+1+j) % 64=56↔j=qVm n:=by unfold qVm at h ⊢;omega
theorem padZ_lt (n:Nat):qVm n < 64:=by unfold qVm;omega
theorem padW_eq (b:List UInt8):qWv b=b++[128]++List.replicate (qVm b.length) 0++vEz 8 (8*b.length):=rfl
def qPc (b:List UInt8):Nat→Vw
 | 0=>qVb
 | n+1=>qXi (qPc b n) (((qWv b).drop (64*n)).take 64)
theorem sumGo_to (b:List UInt8):∀ (m n:Nat),vBo m (qPc b n) ((qWv b).drop (64*n))=qPc b (n+m)
 | 0,n=>rfl
 | m+1,n=>by
  rw [vBo,List.drop_drop,show 64*n+64=64*(n+1) by omega]
  exact (sumGo_to b m (n+1)).trans (by rw [show n+1+m=n+(m+1) by omega])
theorem sumW_to (b:List UInt8):qOv b=vGw (qPc b ((qWv b).length / 64)):=by
 have:=sumGo_to b ((qWv b).length / 64) 0
 rw [Nat.zero_add] at this
 unfold qOv
 exact congrArg vGw this
def vwL (v:Vw):List (BitVec 32):=[v.a,v.b,v.c,v.d,v.e,v.f,v.g,v.h]
def qMi (v:Vw):List (List Dat):=(vwL v).map fun x=>[.int .u32 (wI x)]
theorem outW_eq (v:Vw):vGw v=((vwL v).map qEk).flatten:=by simp [vGw,vwL]
theorem len8 (n:Nat) (h:n < 18446744073709551616):vEz 8 n=qEk (BitVec.ofNat 32 (n / 4294967296))++qEk (BitVec.ofNat 32 n):=by
 have hb:∀ (x:BitVec 32) (k:Nat),bW (x >>> k)=UInt8.ofNat (x.toNat / 2 ^ k % 256):=fun x k=>by unfold bW;rw [BitVec.toNat_ushiftRight,Nat.shiftRight_eq_div_pow]
 have h0:∀ x:BitVec 32,bW x=UInt8.ofNat (x.toNat % 256):=fun x=>rfl
 unfold qEk
 simp only [hb,h0,BitVec.toNat_ofNat]
 simp only [vEz,List.nil_append,List.cons_append]
 have e:∀ a c:Nat,a=c→UInt8.ofNat a=UInt8.ofNat c:=fun a c h=>by rw [h]
 congr 1
 ·exact e _ _ (by omega)
 congr 1
 ·exact e _ _ (by omega)
 congr 1
 ·exact e _ _ (by omega)
 congr 1
 ·exact e _ _ (by omega)
 congr 1
 ·exact e _ _ (by omega)
 congr 1
 ·exact e _ _ (by omega)
 congr 1
 ·exact e _ _ (by omega)
 congr 1
 exact e _ _ (by omega)
section
variable {P:Program} {T:Tr} {o:Oper} {ρ:Operand→AV}
theorem sliceArr_ok (hT:TOk P T) {t n sz:Nat} {g:Bool} {x:Operand} {es:List (List Dat)} (ho:o.op=.sliceToArrayPointer t x) (ht:vIp T t=some (n,sz,g)) (hx:ρ x=.d (.sl sz es)) (hn:0 < n∧n≤es.length) :
  OpP P o ρ (.iptr es.flatten):=by
 intro G e w hi hr
 have hx':RepA G (ρ x) (e x):=hr x (by simp [ho,Op.operands])
 rw [hx] at hx'
 obtain ⟨et,ie,h1,h2,h3,h4⟩:=arrT_ok hT ht
 have hd:RepD G.imm (.sl sz es) (e x):=by generalize e x=u at hx';cases hx' with | d r=>exact r
 obtain ⟨a,cap,hv,hnn,hp⟩:=hd.slice_inv
 cases a with
 | none=>have:=(hnn rfl).1;subst this;simp at hn;omega
 | some p =>
  obtain ⟨p1,p2,p3,vs,p4,p5⟩:=hp p rfl
  have p1:=p1 (by omega)
  refine ⟨.pointer (some p),?_,.iptr p vs p1 (fun j d hd=>?_) (fun j d hd=>?_)⟩
  ·unfold execOp
   simp only [ho,Sem.run_bind]
   rw [hv]
   simp [Instr.arrayAt,run_underlying h1,show ¬ es.length < n by omega]
  ·obtain ⟨i,j',e',he,hd',rfl⟩:=qFc p3 hd
   exact p4 _ _ _ _ he hd'
  ·obtain ⟨i,j',e',he,hd',rfl⟩:=qFc p3 hd
   exact p5 _ _ _ _ he hd'
end
theorem qYa {P:Program} {E:Env} {N:Nat} {g:Operand} {p:Tmp} {assign body:Code} {Q:Exit→(Nat→AV)→List AObj→Prop} {τ:Nat→AV} {h:List AObj} {gf:FuncId} {cap:List AV} {ok:List AObj→Prop} {xs:List AV}
  (Hs:Nat→List AObj) (hg:ev τ g=.fn (.func gf) [] cap) (hseq:SeqOk P gf cap ok xs) (h0:Hs 0=h) (hok:∀ k,ok (Hs k)) (hp:Nat.blt p N=true) (hlen:∀ k,(Hs k).length=h.length) (hlow:∀ k,qCn h.length (Hs k)=true)
  (T1:AV→Nat→AV) (hassign:∀ (k:Nat) (x:AV),xs[k]?=some x→∀ (E':Env) (l:Nat),AWF (Fence.wide.inRound l) P E' N assign (fun e τ' h'=>e=.normal∧τ'=T1 x∧h'=Hs k) (qMh τ (some p) x) (Hs k))
  (hround:∀ (k:Nat) (x:AV),xs[k]?=some x→∀ (E':Env) (l:Nat),E'.below h.length→AWF (Fence.wide.inRound l) P E' N body (fun e τ' h'=>e=.normal∧∃ junk,HLe h' (Hs (k+1)++junk)) (T1 x) (Hs k))
  (hpost:Q .normal τ (Hs xs.length)):AWx P E N (.rangeFunc g #[p] assign body) Q τ h:=by
 intro a w r
 obtain ⟨r1,r2,G,hw,ht⟩:=r
 have hgv:=qIi (E.tab.1.mono hw.le.imm) ht g
 rw [hg] at hgv
 generalize hge:a.eval g=gv at hgv
 cases hgv with
 | fn _ fvs cvs g1 g2 g3 g4 =>
 obtain rfl:fvs = #[]:=Array.eq_empty_of_size_eq_zero g1
 obtain ⟨fn0,k1,k2,k3⟩:=hseq.1
 have k2':¬ fn0.name = "runtime.NumGoroutine" := by simpa using k2
 have k3':¬ fn0.body=none:=by intro hh;rw [hh] at k3;cases k3
 refine (wpIn_wide (n:=0)).1 (wpIn_rangeFunc ?_)
 intro fn hfn
 obtain ⟨rec0,hrec⟩:∃ rec0:Loop,rec0={ state:=.ready,pending:=none,fn,tmps:=a.tmps,params:=#[p],assign,body,defers:=w.heap.size }:=⟨_,rfl⟩
 obtain ⟨w1,hW1⟩:∃ w1,(w.alloc (.deferred (some []))).alloc (.loop rec0)=w1:=⟨_,rfl⟩
 have hl:w1.heap[w.heap.size+1]?=some (.loop rec0):=by
  rw [← hW1];have:=World.alloc_heap_new (w.alloc (.deferred (some []))) (.loop rec0);rwa [World.size_alloc] at this
 have hD:w1.heap[w.heap.size]?=some (.deferred (some [])):=by
  rw [← hW1];show ((w.heap.push _).push _)[w.heap.size]?=_;simp [Array.getElem?_push]
 have hsz1:w1.heap.size=w.heap.size+2:=by rw [← hW1];simp
 have hw1:WRel E G h w1:=by
  rw [← hW1]
  exact qJa (qJa hw (qLz w _)) (qLz _ _)
 have hown:∀ b,w.heap.size≤b→G.own b=none:=fun b hb=>by
  cases ho:G.own b with
  | none=>rfl
  | some i=>have:=(hw.own b i ho).1;omega
 have hEl:∀ b,w.heap.size≤b→¬ E.K b:=fun b hb hk=>by have h1:=hk.1;have h2:=hw.size;omega
 have hne:∀ (b:Nat),w.heap.size≤b→∀ g p,qIq g=some p→g≠b:=fun b hb g p hgp hgb=>by
  obtain ⟨_,o,h2,_⟩:=E.tab.2 g p hgp
  have:=(Array.getElem?_eq_some_iff.1 h2).1
  have:=hw.size
  omega
 have htab1:TabOk w1 G:=hw1.tabOk
 obtain ⟨E1,hE1⟩:∃ E1:Env,E1=⟨w1,G,htab1,[]⟩:=⟨_,rfl⟩
 have hw1':WRel E1 G h w1:=by rw [hE1];exact hw1.restart htab1 []
 have hK1:∀ b,w.heap.size≤b→b < w1.heap.size→E1.K b:=fun b hb hlt=>by rw [hE1];exact ⟨hlt,hown b hb⟩
 have hY:∀ (k:Nat) (x:AV),xs[k]?=some x→YieldOk P E1 (w.heap.size+1) x (Hs k) (Hs (k+1)):=by
  intro k x hx Gk0 wk0 v hwk0 hv
  have hkl:=hK1 (w.heap.size+1) (by omega) (by omega)
  have hlk0:wk0.heap[w.heap.size+1]?=some (.loop rec0):=by
   have:=hwk0.keep _ hkl
   rw [this,hE1];exact hl
  have hy:=run_yield (P:=P) (args:=#[v]) hlk0 (by rw [hrec];rfl)
  rw [hrec] at hy
  have hGG0:G.le Gk0:=by have:=hwk0.le;rw [hE1] at this;exact this
  refine ⟨fn,_,assign,body,hy,roundIn_of_wpIn True.intro (wpIn_mono (hassign k x hx ⟨wk0,Gk0,hwk0.tabOk,[]⟩ (w.heap.size+1) _ wk0 ⟨by simp [r1],rfl,Gk0,hwk0.restart _ _,fun t=>?_⟩) ?_)⟩
  ·have:=qKw (dst:=some p) (N:=N) (τ:=τ) r1 (fun d hd=>by cases hd;exact Nat.le_of_ble_eq_true hp) (fun t=>(ht t).mono hGG0) hv [] t
   simpa [Act.put] using this
  rintro e1 a1 wk ⟨τ1,h1,⟨rfl,rfl,rfl⟩,s1,s2,Gk,hwk1,ht1⟩
  have hwk:WRel E1 Gk (Hs k) wk:=hwk0.after hwk1
  have hG01:Gk0.le Gk:=hwk1.le
  clear hwk1
  have hlk:wk.heap[w.heap.size+1]?=some (.loop rec0):=by
   have:=hwk.keep _ hkl
   rw [this,hE1];exact hl
  have hownk:Gk.own (w.heap.size+1)=none:=by
   cases ho:Gk.own (w.heap.size+1) with
   | none=>rfl
   | some i=>exact absurd hkl (hwk.own _ i ho).2
  refine ⟨_,run_beginRound hlk (by rw [hrec]),?_⟩
  generalize hbz:({ rec0 with state:=.busy }:Loop)=busy
  have htab2:TabOk (wk.putObj (w.heap.size+1) (.loop busy)) Gk:=hwk.tabPoke _ (hne _ (by omega))
  have hw2:=hwk.pokeAt (.loop busy) hlk rfl hownk htab2 []
  have hbel:(⟨wk.putObj (w.heap.size+1) (.loop busy),Gk,htab2,[]⟩:Env).below h.length:=fun i hi=>hwk.fresh i (by rw [hlen];exact hi)
  refine wpIn_mono (hround k x hx _ (w.heap.size+1) hbel _ _ ⟨s1,s2,Gk,hw2,ht1⟩) ?_
  ·rintro e a3 w3 ⟨τ',h',⟨rfl,junk,hj⟩,hr3⟩
   have hr4:=vAl (h':=Hs (k+1)) (l:=[]) (junk:=junk) (by rw [hlen];exact hbel) True.intro rfl hj (by rw [hlen];exact hlow _) a3 w3 hr3
   obtain ⟨_,_,G',hw3,_⟩:=hr4
   have hk2:(⟨wk.putObj (w.heap.size+1) (.loop busy),Gk,htab2,[]⟩:Env).K (w.heap.size+1):=⟨by rw [World.putObj_size];exact (Array.getElem?_eq_some_iff.1 hlk).1,hownk⟩
   have hl3:w3.heap[w.heap.size+1]?=some (.loop busy):=(hw3.keep _ hk2).trans (World.putObj_heap_same (Array.getElem?_eq_some_iff.1 hlk).1)
   have hend:=run_endRound (P:=P) none hl3
   have hback:({ busy with state:=if (none:Option Code).isNone then .ready else .done,pending:=none }:Loop)=rec0:=by rw [← hbz,hrec];rfl
   rw [hback] at hend
   refine ⟨_,_,hend,rfl,G',hG01.trans hw3.le,?_⟩
   have hEK:∀ b,E1.K b→(⟨wk.putObj (w.heap.size+1) (.loop busy),Gk,htab2,[]⟩:Env).K b:=fun b hk=>⟨by rw [World.putObj_size];exact Nat.lt_of_lt_of_le hk.1 hwk.size,by
    show Gk.own b=none
    cases ho:Gk.own b with
    | none=>rfl
    | some i=>exact absurd hk (hwk.own b i ho).2⟩
   have hownl:G'.own (w.heap.size+1)=none:=by
    cases ho:G'.own (w.heap.size+1) with
    | none=>rfl
    | some i=>exact absurd hk2 (hw3.own _ i ho).2
   obtain ⟨p1,p2⟩:=hw3.poke (.loop rec0) hl3 rfl hownl
   refine ⟨hwk.le.trans hw3.le,p1,fun b v hb=>?_,fun b hb=>?_,?_,hw3.os.trans hwk.os,hw3.tape.trans hwk.tape,hw3.output.trans hwk.output,fun b i hb=>⟨by rw [World.putObj_size];exact (hw3.own b i hb).1,fun hk=>(hw3.own b i hb).2 (hEK b hk)⟩,hw3.fresh,p2⟩
   ·rcases hw3.immNew b v hb with h1 | h1
    ·exact hwk.immNew b v h1
    ·exact .inr fun hk=>h1 (hEK _ hk)
   ·by_cases hbl:b=w.heap.size+1
    ·subst hbl
     rw [World.putObj_heap_same (Array.getElem?_eq_some_iff.1 hl3).1,hE1];exact hl.symm
    ·rw [World.putObj_heap_other hbl]
     exact (hw3.keep b (hEK b hb)).trans ((World.putObj_heap_other hbl).trans (hwk.keep b hb))
   ·rw [World.putObj_size]
    refine Nat.le_trans hwk.size ?_
    have:=hw3.size
    rwa [World.putObj_size] at this
 have hcall:=hseq.2 E1 (w.heap.size+1) Hs (by rw [hE1]) hok hY (by rw [h0,hE1];exact hw1.restart htab1 []) cvs g2 (fun j x v hx hv=>by rw [hE1];exact g4 j x v hx hv)
 have hE1w:E1.w0=w1:=by rw [hE1]
 rw [hE1w] at hcall
 refine ⟨w.heap.size+1,[{ target:=.collected w.heap.size,args:=#[] }],w1,{ target:=.fn (.func gf) cvs,args:=#[.func (.yield (w.heap.size+1)) #[] #[]] },w1,gf,#[.func (.yield (w.heap.size+1)) #[] #[]]++cvs,w1,?_,?_,fun _ _=>True.intro,?_,fun hh=>?_,?_⟩
 ·rw [← hW1,hrec];exact run_enterLoop_outer _ _ _ _ _
 ·simp [resolve,hge,Deferred.ofValue]
  rfl
 ·simp [invoke,callFunc,k1,k2',k3']
 ·exact absurd hh (by decide)
 ·show CallsIn Fence.wide 0 P gf _ w1 _
  refine hcall.mono ?_
  rintro e w3 ⟨⟨v,rfl⟩,G3,hw3⟩
  have hkl:=hK1 (w.heap.size+1) (by omega) (by omega)
  have hkD:=hK1 w.heap.size (Nat.le_refl _) (by omega)
  have hl3:w3.heap[w.heap.size+1]?=some (.loop rec0):=by rw [hw3.keep _ hkl,hE1];exact hl
  have hD3:w3.heap[w.heap.size]?=some (.deferred (some [])):=by rw [hw3.keep _ hkD,hE1];exact hD
  have hownl:∀ b,E1.K b→G3.own b=none:=fun b hk=>by
   cases ho:G3.own b with
   | none=>rfl
   | some i=>exact absurd hk (hw3.own b i ho).2
  have hG3:G.le G3:=by have:=hw3.le;rw [hE1] at this;exact this
  have hw3E:WRel E G3 (Hs xs.length) w3:=by
   subst hE1
   exact hw1.after hw3
  have hend:=run_endLoop (P:=P) hl3 (by rw [hrec];simp)
  have hw4E:=hw3E.pokeIn (.loop { rec0 with state:=.exhausted }) hl3 rfl (hownl _ hkl) (hEl _ (by omega))
  generalize hw4:w3.putObj (w.heap.size+1) (.loop { rec0 with state:=.exhausted })=w4 at hw4E hend
  have hpend:rec0.pending=none:=by rw [hrec]
  rw [hpend] at hend
  refine ⟨none,w4,hend,?_⟩
  have hD4:w4.heap[w.heap.size]?=some (.deferred (some [])):=by rw [← hw4,World.putObj_heap_other (by omega)];exact hD3
  have hle:ELe E ⟨w4,G3,hw4E.tabOk,marks [w.heap.size]++E.ds⟩:=by
   refine ⟨fun G h w hw=>hw4E.after hw,fun b hk=>⟨Nat.lt_of_lt_of_le hk.1 hw4E.size,?_⟩,fun b hk=>hw4E.keep b hk,[w.heap.size],rfl,(List.nodup_cons.2 ⟨by simp,List.nodup_nil⟩),fun D hDm=>?_⟩
   ·show G3.own b=none
    cases ho:G3.own b with
    | none=>rfl
    | some i=>exact absurd hk (hw4E.own b i ho).2
   ·obtain rfl:D=w.heap.size:=by simpa using hDm
    exact ⟨hD4,⟨(Array.getElem?_eq_some_iff.1 hD4).1,hownl _ hkD⟩,hEl _ (Nat.le_refl _)⟩
  refine ⟨_,hle,τ,Hs xs.length,hpost,r1,?_,G3,hw4E.restart _ _,fun t=>(ht t).mono hG3⟩
  show [_]++a.defers=_
  rw [r2];rfl
theorem vDl {P:Program} {E:Env} {N:Nat} {x y:Code} {Qx Q:Exit→(Nat→AV)→List AObj→Prop} {τ:Nat→AV} {h:List AObj} (hx:AWx P E N x Qx τ h) (hn:∀ E2,ELe E E2→∀ τ' h',Qx .normal τ' h'→AWx P E2 N y Q τ' h')
  (he:∀ e τ' h',e≠.normal→Qx e τ' h'→Q e τ' h'):AWx P E N (.seq x y) Q τ h :=
 fun a w r=>wp_seq (wp_mono (hx a w r) fun e a' w' ⟨E2,hE,τ',h',q,r'⟩=>by
  cases e with
  | normal =>
   refine wp_mono (hn E2 hE τ' h' q a' w' r') fun e3 a3 w3 ⟨E3,hE3,τ3,h3,q3,r3⟩=>⟨E3,hE.trans hE3,τ3,h3,q3,r3⟩
  | _=>exact ⟨E2,hE,τ',h',he _ _ _ (by simp) q,r'⟩)
theorem qWi {P:Program} {E:Env} {N:Nat} {c:Code} {Q:Exit→(Nat→AV)→List AObj→Prop} {τ:Nat→AV} {h:List AObj} {l:List (Nat×AV)} {h':List AObj} (hs:SubL τ l) (hh:HLe h h') (hc:AWx P E N c Q (look l) h'):AWx P E N c Q τ h:=vGn (qFt hs hh) hc
theorem Spec.weak {P:Program} {f:FuncId} {args:List AV} {h H:List AObj} {a b:AV} (S:Spec P f args h (fun r h'=>r=a∧h'=H)) (hab:AV.le a b) (hb:low h.length b=true):Spec P f args h (fun r h'=>r=b∧h'=H) :=
 ⟨S.1,fun G w vals h1 h2 ht h3=>(S.2 G w vals h1 h2 ht h3).mono fun e w' ⟨v,r,h',G',k1,⟨k2,k3⟩,k4,k5,k6,k7,k8⟩=>by
  subst k2
  exact ⟨v,b,h',G',k1,⟨rfl,k3⟩,k4,hb,k6,hab _ _ k7,k8⟩⟩
theorem vDi {P:Program} {E:Env} {o:Oper} {ρ ρ':Operand→AV} {h h':List AObj} {v:AV} (hle:∀ x,AV.le (ρ x) (ρ' x)) (H:OpS P E o ρ' h v h'):OpS P E o ρ h v h' :=
 fun G a w hw hr=>H G a w hw fun x hx=>hle x G _ (hr x hx)
section
variable {P:Program} {E:Env} {T:Tr} {o:Oper} {ρ:Operand→AV} {h h':List AObj} {v:AV}
end
section
variable {P:Program} {E:Env} {T:Tr} {o:Oper} {ρ:Operand→AV} {h h':List AObj} {v:AV}
end
section
variable {P:Program} {E:Env} {o:Oper} {ρ:Operand→AV} {h:List AObj}
theorem eqFn_ok {t yt:Nat} {x y:Operand} {f:Fn} {first cap:List AV} {ps rs:Array TypeId} {vr:Bool} (ho:o.op=.binOp .eql t x y yt) (hu:P.underlying t=some (.func ps rs vr)) (hx:ρ x=.fn f first cap) (hy:ρ y=.nilf):OpP P o ρ (.d (.bool false)):=by
 intro G e w hi hr
 have hx':RepA G (ρ x) (e x):=hr x (by simp [ho,Op.operands])
 have hy':RepA G (ρ y) (e y):=hr y (by simp [ho,Op.operands])
 rw [hx] at hx';rw [hy] at hy'
 have ey:e y=.nilFunc:=by
  generalize e y=v at hy'
  cases hy';rfl
 obtain ⟨fs,cs,ex⟩:∃ fs cs,e x=.func f fs cs:=by
  generalize e x=v at hx'
  cases hx' with
  | fn _ fs cs _ _ _ _=>exact ⟨fs,cs,rfl⟩
 refine ⟨.bool false,?_,.d (.bool false)⟩
 have hg:(eqGuard .eql t x y (.func f fs cs) .nilFunc).run P w=.ok () w:=eqGuard_run _ _ _ _ _ _ (by simp) (by simp)
 have he:(Op.equal t (.func f fs cs) .nilFunc).run P w=.ok false w:=by
  show (Op.equalIn (9999+1) t _ _).run P w=_
  rw [Op.equalIn]
  simp [run_underlying hu]
 unfold execOp
 simp only [ho,Sem.run_bind]
 rw [ex,ey,hg]
 simp [Go.binOp,he]
end
end Tdoc
