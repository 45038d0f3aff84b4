/- Part 5 of the proof: the texts R17 I1 R18 R19 R22 R37 R38 R34 R20 R21 R39 R43 R45 R44 R9 R14 R32 R24 R10 R33 R25. -/
import Derived.Test.YtelocejblpajcaaGreatDoorTR4
import Derived.Below
import Derived.Sort.Grow
import Derived.Deep.Draws
import Derived.Scope
set_option linter.unusedSimpArgs false
set_option linter.unusedVariables false
namespace Tdoc
open Go
theorem WRel.tabOk {E:Env} {G:Gh} {h:List AObj} {w:World} (hw:WRel E G h w):TabOk w G:=⟨E.tab.1.mono hw.le.imm,hw.tabB fun _ hb=>hb⟩
theorem WRel.restart {E:Env} {G:Gh} {h:List AObj} {w:World} (hw:WRel E G h w) (htab:TabOk w G) (ds:List Deferred):WRel ⟨w,G,htab,ds⟩ G h w :=
 ⟨.refl _,hw.imm,fun a v ha=>.inl ha,fun _ _=>rfl,Nat.le_refl _,rfl,rfl,rfl,fun b i hb=>⟨(hw.own b i hb).1,fun hk=>by
  have hk2:G.own b=none:=hk.2
  rw [hb] at hk2;cases hk2⟩,hw.fresh,hw.obj⟩
theorem WRel.after {E:Env} {G G2:Gh} {h h2:List AObj} {w w2:World} {htab:TabOk w G} {ds:List Deferred} (hw:WRel E G h w) (hw2:WRel ⟨w,G,htab,ds⟩ G2 h2 w2):WRel E G2 h2 w2:=by
 have hEK:∀ b,E.K b→(⟨w,G,htab,ds⟩:Env).K b:=fun b hk=>⟨Nat.lt_of_lt_of_le hk.1 hw.size,by
  show G.own b=none
  cases ho:G.own b with
  | none=>rfl
  | some i=>exact absurd hk (hw.own b i ho).2⟩
 refine ⟨hw.le.trans hw2.le,hw2.imm,fun a v ha=>?_,fun b hb=>(hw2.keep b (hEK b hb)).trans (hw.keep b hb),Nat.le_trans hw.size hw2.size,hw2.os.trans hw.os,hw2.tape.trans hw.tape,hw2.output.trans hw.output,
  fun b i hb=>⟨(hw2.own b i hb).1,fun hk=>(hw2.own b i hb).2 (hEK b hk)⟩,hw2.fresh,hw2.obj⟩
 rcases hw2.immNew a v ha with h1 | h1
 ·exact hw.immNew a v h1
 ·exact .inr fun hk=>h1 (hEK _ hk)
theorem vHs {w:World} {a:Addr} {o:Obj} (h:w.heap[a.block]?=some o) (ho:o.isCells=false):w.cell? a=none:=by
 unfold World.cell?
 rw [h]
 cases o <;> simp_all [Obj.isCells]
theorem WRel.poke {E:Env} {G:Gh} {h:List AObj} {w:World} {l:Nat} {o:Obj} (o':Obj) (hw:WRel E G h w) (hl:w.heap[l]?=some o) (ho:o.isCells=false) (hown:G.own l=none) :
  (∀ a v,G.imm a=some v→(w.putObj l o').cell? a=some v)∧∀ i ob,h[i]?=some ob→ObjRel G (w.putObj l o') i ob:=by
 refine ⟨fun a v ha=>?_,fun i ob hi=>?_⟩
 ·have h1:=hw.imm a v ha
  have hne:a.block≠l:=fun e=>by rw [vHs (by rw [e];exact hl) ho] at h1;cases h1
  rw [World.cell?_of_block (w:=w) (World.putObj_heap_other hne)];exact h1
 ·refine (hw.obj i ob hi).keep (.refl G) (fun b hb=>⟨World.putObj_heap_other fun e=>?_,fun a _=>rfl⟩) (fun _ hn=>hn) (fun hn=>hn)
  subst e;rw [hown] at hb;cases hb
theorem WRel.pokeIn {E:Env} {G:Gh} {h:List AObj} {w:World} {l:Nat} {o:Obj} (o':Obj) (hw:WRel E G h w) (hl:w.heap[l]?=some o) (ho:o.isCells=false) (hown:G.own l=none) (hk:¬ E.K l):WRel E G h (w.putObj l o'):=by
 obtain ⟨h1,h2⟩:=hw.poke o' hl ho hown
 refine ⟨hw.le,h1,hw.immNew,fun b hb=>?_,by rw [World.putObj_size];exact hw.size,hw.os,hw.tape,hw.output,fun b i hb=>by rw [World.putObj_size];exact hw.own b i hb,hw.fresh,h2⟩
 have hne:b≠l:=fun e=>hk (by rw [← e];exact hb)
 rw [World.putObj_heap_other hne];exact hw.keep b hb
theorem WRel.pokeAt {E:Env} {G:Gh} {h:List AObj} {w:World} {l:Nat} {o:Obj} (o':Obj) (hw:WRel E G h w) (hl:w.heap[l]?=some o) (ho:o.isCells=false) (hown:G.own l=none) (htab:TabOk (w.putObj l o') G) (ds:List Deferred) :
  WRel ⟨w.putObj l o',G,htab,ds⟩ G h (w.putObj l o'):=by
 obtain ⟨h1,h2⟩:=hw.poke o' hl ho hown
 exact ⟨.refl _,h1,fun a v ha=>.inl ha,fun _ _=>rfl,Nat.le_refl _,rfl,rfl,rfl,fun b i hb=>⟨by rw [World.putObj_size];exact (hw.own b i hb).1,fun hk=>by
  have hk2:G.own b=none:=hk.2
  rw [hb] at hk2;cases hk2⟩,hw.fresh,h2⟩
theorem WRel.tabPoke {E:Env} {G:Gh} {h:List AObj} {w:World} {l:Nat} (o':Obj) (hw:WRel E G h w) (hl:∀ g p,qGh g=some p→g≠l):TabOk (w.putObj l o') G:=by
 obtain ⟨h1,h2⟩:=hw.tabOk
 refine ⟨h1,fun g p hg=>?_⟩
 obtain ⟨k1,o,k2,k3⟩:=h2 g p hg
 exact ⟨k1,o,by rw [World.putObj_heap_other (hl g p hg)];exact k2,k3⟩
def YieldOk (P:Program) (E:Env) (l:Nat) (x:AV) (h h':List AObj):Prop :=
 ∀ (G:Gh) (w:World) (v:Value),WRel E G h w→RepA G x v→∃ fn tmps assign body,(Instr.yield l #[v]).run P w=.ok (.round l fn tmps assign body) w ∧
  RoundIn Fence.wide 0 P l fn tmps assign body w fun e w'=>e=.returned (.bool true)∧∃ G',G.le G'∧WRel E G' h' w'
theorem vGd {P:Program} {E:Env} {o:Oper} {ρ:Operand→AV} {h h':List AObj} {f x:Operand} {ats:Array TypeId} {l:Nat} {xv:AV} (ho:o.op=.call ⟨.value f,#[x],ats⟩) (hf:ρ f=.fn (.yield l) [] []) (hx:ρ x=xv) (Y:YieldOk P E l xv h h') :
  OpRF Fence.wide P E o ρ h (fun a b=>a=.d (.bool true)∧b=h'):=by
 intro G a w hw hr Q
 have hx':RepA G (ρ x) (a.eval x):=hr x (by simp [ho,Op.operands,Call.operands])
 have hf':RepA G (ρ f) (a.eval f):=hr f (by simp [ho,Op.operands,Call.operands])
 rw [hx] at hx'
 rw [hf] at hf'
 obtain ⟨fn,tmps,assign,body,hy,hR⟩:=Y G w _ hw hx'
 generalize hfv:a.eval f=fv at hf'
 cases hf' with
 | fn _ fvs cvs h1 h2 h3 h4 =>
 refine ⟨fun _ _=>True.intro,?_⟩
 rw [Oper.semAt_eq _ _ _ (fun c hc=>by rw [ho] at hc;cases hc)]
 have e1:fvs = #[]:=Array.eq_empty_of_size_eq_zero h1
 have hrun:(execOp a.eval o).run P w=.ok (.round l fn tmps assign body) w:=by
  unfold execOp
  simp [ho,resolve,hfv,Deferred.ofValue,invoke,e1,hy]
 rw [hrun,Oper.uponIn_round]
 exact ⟨fun hh=>(by cases hh),hR.mono fun e w' ⟨he,G',k1,k2⟩=>by subst he;exact ⟨_,G',_,_,⟨rfl,rfl⟩,rfl,k1,k2,.d (.bool true)⟩⟩
def SeqOk (P:Program) (gf:FuncId) (cap:List AV) (ok:List AObj→Prop) (xs:List AV):Prop :=
 (∃ fn,P.funcs[gf]?=some fn∧(fn.name == "runtime.NumGoroutine")=false∧fn.body.isNone=false) ∧
 ∀ (E:Env) (l:Nat) (Hs:Nat→List AObj),E.ds=[]→(∀ k,ok (Hs k))→(∀ (k:Nat) (x:AV),xs[k]?=some x→YieldOk P E l x (Hs k) (Hs (k+1))) →
  WRel E E.G0 (Hs 0) E.w0→∀ cs:Array Value,cs.size=cap.length→(∀ (j:Nat) (x:AV) (v:Value),cap[j]?=some x→cs[j]?=some v→RepA E.G0 x v) →
   CallsIn Fence.wide 0 P gf (#[.func (.yield l) #[] #[]]++cs) E.w0 fun e w'=>(∃ v,e=.returned v)∧∃ G',WRel E G' (Hs xs.length) w'
theorem qYm {G:Gh} {args:List AV} {vals:Array Value} {n:Nat} (hvs:vals.size=args.length) (hargs:∀ (j:Nat) (x:AV) (v:Value),args[j]?=some x→vals[j]?=some v→RepA G x v) (t:Nat) :
  RepA G (look (pars args 0) t) ((vals++Array.replicate n undef).getD t undef):=by
 rw [qNs]
 by_cases ht:0≤t∧t < 0+args.length
 ·rw [if_pos ht]
  have ht2:t < args.length:=by omega
  have h1:args[t]?=some args[t]:=by simp [ht2]
  have h2:vals[t]?=some vals[t]:=by simp [hvs,ht2]
  have:=hargs t _ _ h1 h2
  simp only [Nat.sub_zero,h1,Option.getD_some]
  have hget:(vals++Array.replicate n undef).getD t undef=vals[t]:=by
   rw [Array.getD_eq_getD_getElem?,Array.getElem?_append_left (by omega),h2];rfl
  rw [hget];exact this
 ·rw [if_neg ht];exact .any _
theorem qXi {P:Program} {gf:FuncId} {fn:Func} {c:Code} {cap:List AV} {ok:List AObj→Prop} {xs:List AV} (hf:P.funcs[gf]?=some fn) (hb:fn.body=some c) (hname:(fn.name == "runtime.NumGoroutine")=false)
  (hrs:fn.results = #[]) (hn:Nat.ble (cap.length+1) fn.ntmps=true)
  (H:∀ (E:Env) (l:Nat) (Hs:Nat→List AObj),(∀ k,ok (Hs k))→(∀ (k:Nat) (x:AV),xs[k]?=some x→YieldOk P E l x (Hs k) (Hs (k+1))) →
   AWF Fence.wide P E fn.ntmps c (fun e τ h=>(e=.normal∨e=.ret)∧h=Hs xs.length) (look (pars (.fn (.yield l) [] []::cap) 0)) (Hs 0)):SeqOk P gf cap ok xs:=by
 refine ⟨⟨fn,hf,hname,by rw [hb];rfl⟩,fun E l Hs hds hok hy hw cs hcs hcap=>?_⟩
 have hle:=Nat.le_of_ble_eq_true hn
 have hsz:(#[Value.func (.yield l) #[] #[]]++cs).size=(AV.fn (.yield l) [] []::cap).length:=by simp [hcs,Nat.add_comm]
 refine callsIn_of_wp hf hb True.intro (wpIn_mono (H E l Hs hok hy _ E.w0 ⟨?_,hds.symm,E.G0,hw,fun t=>qYm hsz (fun j x v hx hv=>?_) t⟩) ?_)
 ·simp only [Array.size_append,Array.size_replicate]
  rw [Array.size_append] at hsz
  simp only [List.length_cons] at hsz
  omega
 ·cases j with
  | zero =>
   have hv':(#[Value.func (.yield l) #[] #[]]++cs)[0]?=some (.func (.yield l) #[] #[]):=by rw [Array.getElem?_append_left (by simp)];rfl
   rw [hv'] at hv
   simp at hx hv
   subst hx;subst hv
   exact .fn _ #[] #[] rfl rfl (fun j x v h=>by simp at h) (fun j x v h=>by simp at h)
  | succ j =>
   have hv':cs[j]?=some v:=by
    rw [Array.getElem?_append_right (by simp)] at hv
    simpa using hv
   exact hcap j x v (by simpa using hx) hv'
 ·rintro e a' w' ⟨τ',h',⟨he,rfl⟩,r1,r2,G',hw',ht⟩
  have fin:a'.defers=[]∧∃ v,(results fn a'.tmps).run P w'=.ok v w'∧((∃ u,Ending.returned v=.returned u)∧∃ G',WRel E G' (Hs xs.length) w'):=by
   obtain ⟨u,hu,_⟩:=resA_run (T:=.lf) (P:=P) ⟨rfl⟩ hw' ht (l:=[]) hrs rfl
   exact ⟨r2.trans hds,u,hu,⟨u,rfl⟩,G',hw'⟩
  rcases he with rfl | rfl
  ·exact fin
  ·exact fin
def marks (Ds:List Nat):List Deferred:=Ds.map fun D=>{ target:=.collected D,args:=#[] }
structure ELe (E E2:Env):Prop where
 conv:∀ G h w,WRel E2 G h w→WRel E G h w
 kle:∀ b,E.K b→E2.K b
 kheap:∀ b,E.K b→E2.w0.heap[b]?=E.w0.heap[b]?
 defs:∃ Ds:List Nat,E2.ds=marks Ds++E.ds∧Ds.Nodup∧∀ D,D∈Ds→E2.w0.heap[D]?=some (.deferred (some []))∧E2.K D∧¬ E.K D
theorem ELe.refl (E:Env):ELe E E:=⟨fun _ _ _ h=>h,fun _ h=>h,fun _ _=>rfl,[],rfl,List.nodup_nil,fun _ h=>by cases h⟩
theorem ELe.trans {A B C:Env} (h:ELe A B) (k:ELe B C):ELe A C:=by
 refine ⟨fun G l w hw=>h.conv _ _ _ (k.conv _ _ _ hw),fun b hb=>k.kle b (h.kle b hb),fun b hb=>(k.kheap b (h.kle b hb)).trans (h.kheap b hb),?_⟩
 obtain ⟨D1,a1,a2,a3⟩:=h.defs
 obtain ⟨D2,b1,b2,b3⟩:=k.defs
 refine ⟨D2++D1,by rw [b1,a1];simp [marks],List.nodup_append.2 ⟨b2,a2,fun x hx y hy e=>?_⟩,fun D hD=>?_⟩
 ·subst e;exact (b3 x hx).2.2 (a3 x hy).2.1
 ·rcases List.mem_append.1 hD with hD | hD
  ·exact ⟨(b3 D hD).1,(b3 D hD).2.1,fun hk=>(b3 D hD).2.2 (h.kle D hk)⟩
  ·obtain ⟨c1,c2,c3⟩:=a3 D hD
   exact ⟨(k.kheap D c2).trans c1,k.kle D c2,c3⟩
def AWx (P:Program) (E:Env) (N:Nat) (c:Code) (Q:Exit→(Nat→AV)→List AObj→Prop) (τ:Nat→AV) (h:List AObj):Prop :=
 ∀ a w,Rel E N τ h a w→c.wp P (fun ex a' w'=>∃ E2,ELe E E2∧∃ τ' h',Q ex τ' h'∧Rel E2 N τ' h' a' w') a w
theorem vMo {P:Program} {E:Env} {N:Nat} {c:Code} {Q:Exit→(Nat→AV)→List AObj→Prop} {τ:Nat→AV} {h:List AObj} (hc:AW P E N c Q τ h):AWx P E N c Q τ h :=
 fun a w r=>wp_mono (hc a w r) fun _ _ _ ⟨τ',h',q,r'⟩=>⟨E,ELe.refl E,τ',h',q,r'⟩
theorem qXy {P:Program} {E:Env} {N:Nat} {x y:Code} {Q:Exit→(Nat→AV)→List AObj→Prop} {τ:Nat→AV} {h:List AObj} (hx:AW P E N x (qTe (fun τ h=>AWx P E N y Q τ h) Q) τ h):AWx P E N (.seq x y) Q τ h :=
 fun a w r=>wp_seq (wp_mono (hx a w r) fun e a' w' ⟨τ',h',q,r'⟩=>by
  cases e with
  | normal=>exact q a' w' r'
  | _=>exact ⟨E,ELe.refl E,τ',h',q,r'⟩)
theorem vKx {P:Program} {E:Env} {N:Nat} {c:Code} {Q:Exit→(Nat→AV)→List AObj→Prop} {τ τ':Nat→AV} {h h':List AObj} (hs:∀ a w,Rel E N τ h a w→Rel E N τ' h' a w) (hc:AWx P E N c Q τ' h'):AWx P E N c Q τ h:=fun a w r=>hc a w (hs a w r)
theorem vFn {P:Program} {E:Env} {N:Nat} {id:Nat} {c:Code} {Q:Exit→(Nat→AV)→List AObj→Prop} {τ:Nat→AV} {h:List AObj} (hc:AWx P E N c (qIz id Q) τ h):AWx P E N (.block id c) Q τ h :=
 fun a w r=>wp_block (wp_mono (hc a w r) fun e a' w' ⟨E2,hE,τ',h',q,r'⟩=>by
  cases e with
  | exit id' =>
   simp only [qIz] at q
   by_cases hid:id'=id
   ·subst hid;simp only [Exit.inBlock,if_true]
    have hb:Nat.beq id' id'=true:=Nat.beq_refl id'
    rw [hb] at q;exact ⟨E2,hE,τ',h',q,r'⟩
   ·simp only [Exit.inBlock,hid,if_false]
    have hb:Nat.beq id' id=false:=by
     cases hb:Nat.beq id' id with
     | false=>rfl
     | true=>exact absurd (Nat.eq_of_beq_eq_true hb) hid
    rw [hb] at q;exact ⟨E2,hE,τ',h',q,r'⟩
  | _=>exact ⟨E2,hE,τ',h',q,r'⟩)
end Tdoc
namespace Tdoc
open Go Go.RowKit Go.Sort
theorem qLn {E:Env} {G:Gh} {h:List AObj} {w w':World} (hw:WRel E G h w) (hb:Below w.heap.size w w'):WRel E G h w':=vEy hw hb.block hb.size hb.os hb.tape hb.output
theorem vBt (w:World) (k:Nat) (os:Array Obj):Below w.heap.size w (grow (w.drewN k) os) :=
 ⟨rfl,rfl,rfl,by show w.heap.size≤(w.heap++os).size;simp,fun b hb=>by show (w.heap++os)[b]?=w.heap[b]?;rw [Array.getElem?_append_left hb]⟩
theorem qOv (w:World) (o:Obj):Below w.heap.size w (w.alloc o):=by rw [alloc_eq_grow];exact vBt w 0 #[o]
section
variable {P:Program} {f:FuncId} {args:List AV}
def LibH (P:Program) (f:FuncId) (args:List AV) (K:Gh→World→Ending→World→Prop):Prop :=
 ∀ (G:Gh) (w:World) (vals:Array Value),vals.size=args.length→(∀ (j:Nat) (x:AV) (v:Value),args[j]?=some x→vals[j]?=some v→RepA G x v)→TabOk w G→(∀ a v,G.imm a=some v→w.cell? a=some v)→Calls P f vals w (K G w)
theorem qJe {r:AV} (hf:∃ fn,P.funcs[f]?=some fn∧(fn.name == "runtime.NumGoroutine")=false∧fn.body.isNone=false) (hlow:low 0 r=true)
  (H:LibH P f args fun G w e w'=>∃ v,e=.returned v∧RepA G r v∧Below w.heap.size w w'):Spec P f args [] (fun r' h'=>r'=r∧h'=[]) :=
 ⟨hf,fun G w vals h1 h2 ht hw=>(H G w vals h1 h2 ht hw.imm).mono fun e w' ⟨v,he,hr,hb⟩=>⟨v,r,[],G,he,⟨rfl,rfl⟩,rfl,hlow,rfl,hr,qLn hw hb⟩⟩
end
end Tdoc
namespace Tdoc
open Go
def shut:List Nat→World→World
 | [],w=>w
 | D::Ds,w=>shut Ds (w.putObj D (.deferred none))
theorem qLw {P:Program} {fn:Func} {tmps:Array Value} {R:Ending→World→Prop}:∀ (Ds:List Nat) (w:World),Ds.Nodup→(∀ D,D∈Ds→w.heap[D]?=some (.deferred (some []))) →
  (∃ v,(results fn tmps).run P (shut Ds w)=.ok v (shut Ds w)∧R (.returned v) (shut Ds w))→LeavesInM Fence.wide 0 P fn tmps R (marks Ds) .returning w
 | [],w,_,_,h=>h
 | D::Ds,w,hn,hd,h=>by
  obtain ⟨n1,n2⟩:=List.nodup_cons.1 hn
  refine ⟨by simp,.inl ⟨D,_,rfl,run_takeDeferred (hd D List.mem_cons_self),qLw Ds _ n2 (fun D' hD'=>?_) h⟩⟩
  have hne:D'≠D:=fun e=>n1 (by rw [← e];exact hD')
  rw [World.putObj_heap_other hne]
  exact hd D' (List.mem_cons_of_mem _ hD')
theorem qYf {E:Env} {G:Gh} {h:List AObj}:∀ (Ds:List Nat) (w:World),Ds.Nodup→(∀ D,D∈Ds→w.heap[D]?=some (.deferred (some []))∧G.own D=none∧¬ E.K D)→WRel E G h w→WRel E G h (shut Ds w)
 | [],w,_,_,hw=>hw
 | D::Ds,w,hn,hd,hw=>by
  obtain ⟨n1,n2⟩:=List.nodup_cons.1 hn
  obtain ⟨d1,d2,d3⟩:=hd D List.mem_cons_self
  refine qYf Ds _ n2 (fun D' hD'=>?_) (hw.pokeIn (.deferred none) d1 rfl d2 d3)
  obtain ⟨e1,e2,e3⟩:=hd D' (List.mem_cons_of_mem _ hD')
  have hne:D'≠D:=fun e=>n1 (by rw [← e];exact hD')
  exact ⟨by rw [World.putObj_heap_other hne];exact e1,e2,e3⟩
theorem qSk {P:Program} {T:Tr} (hT:TOk P T) {f:FuncId} {fn:Func} {c:Code} {rs:List ResultVar} {args:List AV} {h:List AObj} {Q:AV→List AObj→Prop} (hf:P.funcs[f]?=some fn) (hb:fn.body=some c)
  (hname:(fn.name == "runtime.NumGoroutine")=false) (hrs:fn.results=rs.toArray) (hn:Nat.ble args.length fn.ntmps=true)
  (H:∀ E:Env,E.below h.length→AWx P E fn.ntmps c (vGn T rs h.length Q) (look (pars args 0)) h):Spec P f args h Q:=by
 refine ⟨⟨fn,hf,hname,by rw [hb];rfl⟩,fun G w vals hvs hargs htab hw=>?_⟩
 have hbel:(⟨w,G,htab,[]⟩:Env).below h.length:=fun i hi=>hw.fresh i hi
 have hle:=Nat.le_of_ble_eq_true hn
 refine (callsIn_wide (n:=0)).1 (callsIn_of_wp_marks hf hb True.intro (wpIn_wide.2 (wp_mono (H ⟨w,G,htab,[]⟩ hbel _ w ⟨by simp;omega,rfl,G,hw,fun t=>qYm hvs hargs t⟩) ?_)))
 rintro e a' w' ⟨E2,hE,τ',h',hq,hr⟩
 have fin:(∃ v r h'',vAd T τ' h' rs=some v∧(∀ G x,RepA G v x→RepA G r x)∧h''=h'.take h.length∧h''.length=h.length∧low h.length r=true∧qEg h.length h''=true∧Q r h'') →
   LeavesInM Fence.wide 0 P fn a'.tmps (fun e w'=>∃ v r h' G',e=.returned v∧Q r h'∧h'.length=h.length∧low h.length r=true∧qEg h.length h'=true∧RepA G' r v∧WRel ⟨w,G,htab,[]⟩ G' h' w') a'.defers .returning w':=by
  rintro ⟨v,r,h'',q1,q2,q3,q4,q5,q6,q7⟩
  obtain ⟨r1,r2,G',hw2,ht⟩:=hr
  obtain ⟨Ds,d1,d2,d3⟩:=hE.defs
  rw [r2,d1]
  show LeavesInM Fence.wide 0 P fn a'.tmps _ (marks Ds++[]) .returning w'
  rw [List.append_nil]
  have hD:∀ D,D∈Ds→w'.heap[D]?=some (.deferred (some []))∧G'.own D=none∧¬ (⟨w,G,htab,[]⟩:Env).K D:=fun D hDm=>by
   obtain ⟨e1,e2,e3⟩:=d3 D hDm
   refine ⟨(hw2.keep D e2).trans e1,?_,e3⟩
   cases ho:G'.own D with
   | none=>rfl
   | some i=>exact absurd e2 (hw2.own D i ho).2
  have hw3:=qYf Ds w' d2 hD (hE.conv _ _ _ hw2)
  refine qLw Ds w' d2 (fun D hDm=>(hD D hDm).1) ?_
  obtain ⟨u,hu,hru⟩:=resA_run hT hw3 ht hrs q1
  refine ⟨u,hu,u,r,h'',vLg h.length G',rfl,q7,q4,q5,q6,(q2 _ _ hru).cut q5,hw3.cut hbel q4 (fun i hi=>?_) q6⟩
  rw [q3,List.getElem?_take,if_pos hi]
 cases e with
 | normal=>exact fin hq
 | ret=>exact fin hq
 | exit id=>exact hq.elim
 | goto l=>exact hq.elim
 | panic ch=>exact hq.elim
 | outgrown=>exact hq.elim
theorem RepD.cutC {m:Addr→Option Value} {sz:Nat} {es:List (List Dat)} {a:Option Addr} {len cap:Nat} (h:RepD m (.sl sz es) (.slice a len cap)) {l r:Nat} (hl:l≤r) (hr:r≤len) :
  RepD m (.sl sz ((es.drop l).take (r-l))) (.slice (if r=l then a else a.map (·.add (l*sz))) (r-l) (r-l)):=by
 cases h with
 | nil =>
  obtain rfl:r=0:=by omega
  obtain rfl:l=0:=by omega
  exact .nil sz
 | sl _ _ p _ vs h1 h2 h3 h4 h5 =>
  have hlen:((es.drop l).take (r-l)).length=r-l:=by simp;omega
  by_cases hc:r=l
  ·have:(es.drop l).take (r-l)=[]:=by
    apply List.eq_nil_of_length_eq_zero;rw [hlen];omega
   rw [if_pos hc,this]
   have h0:r-l=([]:List (List Dat)).length:=by simp;omega
   rw [h0]
   exact .sl sz [] p _ vs h1 (by simp) (fun e he=>by cases he) (fun i e j d he=>by simp at he) (fun i e j d he=>by simp at he)
  ·rw [if_neg hc]
   simp only [Option.map_some]
   rw [show r-l=((es.drop l).take (r-l)).length from hlen.symm]
   rw [show ((es.drop l).take ((es.drop l).take (r-l)).length)=(es.drop l).take (r-l) by rw [hlen]]
   refine .sl sz _ (p.add (l*sz)) _ (fun i=>vs (l*sz+i)) (qGe p h1 _) (Nat.le_refl _) (fun e he=>h3 e (List.mem_of_mem_drop (List.mem_of_mem_take he))) (fun i e j d he hd=>?_) (fun i e j d he hd=>?_)
   ·simp only [List.getElem?_take,List.getElem?_drop] at he
    split at he
    ·rw [qEo p h1]
     have:=h4 (l+i) e j d he hd
     rwa [show (l+i)*sz+j=l*sz+(i*sz+j) by rw [Nat.add_mul];omega] at this
    ·cases he
   ·simp only [List.getElem?_take,List.getElem?_drop] at he
    split at he
    ·have:=h5 (l+i) e j d he hd
     rwa [show (l+i)*sz+j=l*sz+(i*sz+j) by rw [Nat.add_mul];omega] at this
    ·cases he
theorem vKg {P:Program} {T:Tr} {o:Oper} {ρ:Operand→AV} {v:AV} (hT:TOk P T) {t:Nat} {x lo hi mx:Operand} {sz:Nat} {es:List (List Dat)} {l r:Nat} {k1 k2 k3:IntKind} (ho:o.op=.slice t x (some lo) (some hi) (some mx)) (hs:qCj T t sz=true) (hx:ρ x=.d (.sl sz es))
  (hl:ρ lo=.d (.int k1 (l:Int))) (hr':ρ hi=.d (.int k2 (r:Int))) (hm:ρ mx=.d (.int k3 (r:Int))) (hb:l≤r∧r≤es.length) (hv:AV.d (.sl sz ((es.drop l).take (r-l)))=v):OpP P o ρ v:=by
 intro G e w hi' hr
 subst hv
 have hx':RepA G (ρ x) (e x):=hr x (by simp [ho,Op.operands])
 have h1:RepA G (ρ lo) (e lo):=hr lo (by simp [ho,Op.operands])
 have h2:RepA G (ρ hi) (e hi):=hr hi (by simp [ho,Op.operands])
 have h3:RepA G (ρ mx) (e mx):=hr mx (by simp [ho,Op.operands])
 rw [hx] at hx';rw [hl] at h1;rw [hr'] at h2;rw [hm] at h3
 have hxd:RepD G.imm (.sl sz es) (e x):=by cases hx' with | d r=>exact r
 obtain ⟨a,cap,hev,hnil,hsome⟩:=hxd.slice_inv
 have hcap:es.length≤cap:=by
  cases a with
  | none=>have:=hnil rfl;rw [this.1];exact Nat.zero_le _
  | some p=>exact (hsome p rfl).2.1
 rw [hev] at hxd
 have hcut:=hxd.cutC (l:=l) (r:=r) hb.1 hb.2
 obtain ⟨et,ie,g1,g2,g3⟩:=sliceElem_ok hT hs
 refine ⟨_,?_,.d hcut⟩
 unfold execOp
 simp only [ho,Sem.run_bind,Instr.sliceAt,Instr.slice,hev,h1.int_inv,h2.int_inv,h3.int_inv]
 simp [h1.int_inv,h2.int_inv,h3.int_inv,run_underlying g1,Instr.sliceBounds,g2.run_size,g3,qAx _ _ _ _ (show 0≤(r:Int)∧(r:Int)≤(cap:Int) by omega),qAx _ _ _ _ (show 0≤(r:Int)∧(r:Int)≤((r:Nat):Int) by omega),qAx _ _ _ _ (show 0≤(l:Int)∧(l:Int)≤((r:Nat):Int) by omega)]
theorem vBu {P:Program} {E:Env} {N:Nat} {g:Operand} {p:Tmp} {assign body:Code} {Q:Exit→(Nat→AV)→List AObj→Prop} {τ:Nat→AV} {h:List AObj} {gf:FuncId} {cap:List AV} {ok:List AObj→Prop} {xs:List AV}
  (Hs:Nat→List AObj) (hg:ev τ g=.fn (.func gf) [] cap) (hseq:SeqOk P gf cap ok xs) (h0:Hs 0=h) (hok:∀ k,ok (Hs k)) (hp:Nat.blt p N=true) (hlen:∀ k,(Hs k).length=h.length) (hlow:∀ k,qEg h.length (Hs k)=true)
  (T1:AV→Nat→AV) (hassign:∀ (k:Nat) (x:AV),xs[k]?=some x→∀ (E':Env) (l:Nat),AWF (Fence.wide.inRound l) P E' N assign (fun e τ' h'=>e=.normal∧τ'=T1 x∧h'=Hs k) (qKm τ (some p) x) (Hs k))
  (hround:∀ (k:Nat) (x:AV),xs[k]?=some x→∀ (E':Env) (l:Nat),E'.below h.length→AWF (Fence.wide.inRound l) P E' N body (fun e τ' h'=>e=.normal∧∃ junk,HLe h' (Hs (k+1)++junk)) (T1 x) (Hs k))
  (hpost:Q .normal τ (Hs xs.length)):AWx P E N (.rangeFunc g #[p] assign body) Q τ h:=by
 intro a w r
 obtain ⟨r1,r2,G,hw,ht⟩:=r
 have hgv:=qJb (E.tab.1.mono hw.le.imm) ht g
 rw [hg] at hgv
 generalize hge:a.eval g=gv at hgv
 cases hgv with
 | fn _ fvs cvs g1 g2 g3 g4 =>
 obtain rfl:fvs = #[]:=Array.eq_empty_of_size_eq_zero g1
 obtain ⟨fn0,k1,k2,k3⟩:=hseq.1
 have k2':¬ fn0.name = "runtime.NumGoroutine" := by simpa using k2
 have k3':¬ fn0.body=none:=by intro hh;rw [hh] at k3;cases k3
 refine (wpIn_wide (n:=0)).1 (wpIn_rangeFunc ?_)
 intro fn hfn
 obtain ⟨rec0,hrec⟩:∃ rec0:Loop,rec0={ state:=.ready,pending:=none,fn,tmps:=a.tmps,params:=#[p],assign,body,defers:=w.heap.size }:=⟨_,rfl⟩
 obtain ⟨w1,hW1⟩:∃ w1,(w.alloc (.deferred (some []))).alloc (.loop rec0)=w1:=⟨_,rfl⟩
 have hl:w1.heap[w.heap.size+1]?=some (.loop rec0):=by
  rw [← hW1];have:=World.alloc_heap_new (w.alloc (.deferred (some []))) (.loop rec0);rwa [World.size_alloc] at this
 have hD:w1.heap[w.heap.size]?=some (.deferred (some [])):=by
  rw [← hW1];show ((w.heap.push _).push _)[w.heap.size]?=_;simp [Array.getElem?_push]
 have hsz1:w1.heap.size=w.heap.size+2:=by rw [← hW1];simp
 have hw1:WRel E G h w1:=by
  rw [← hW1]
  exact qLn (qLn hw (qOv w _)) (qOv _ _)
 have hown:∀ b,w.heap.size≤b→G.own b=none:=fun b hb=>by
  cases ho:G.own b with
  | none=>rfl
  | some i=>have:=(hw.own b i ho).1;omega
 have hEl:∀ b,w.heap.size≤b→¬ E.K b:=fun b hb hk=>by have h1:=hk.1;have h2:=hw.size;omega
 have hne:∀ (b:Nat),w.heap.size≤b→∀ g p,qGh g=some p→g≠b:=fun b hb g p hgp hgb=>by
  obtain ⟨_,o,h2,_⟩:=E.tab.2 g p hgp
  have:=(Array.getElem?_eq_some_iff.1 h2).1
  have:=hw.size
  omega
 have htab1:TabOk w1 G:=hw1.tabOk
 obtain ⟨E1,hE1⟩:∃ E1:Env,E1=⟨w1,G,htab1,[]⟩:=⟨_,rfl⟩
 have hw1':WRel E1 G h w1:=by rw [hE1];exact hw1.restart htab1 []
 have hK1:∀ b,w.heap.size≤b→b < w1.heap.size→E1.K b:=fun b hb hlt=>by rw [hE1];exact ⟨hlt,hown b hb⟩
 have hY:∀ (k:Nat) (x:AV),xs[k]?=some x→YieldOk P E1 (w.heap.size+1) x (Hs k) (Hs (k+1)):=by
  intro k x hx Gk0 wk0 v hwk0 hv
  have hkl:=hK1 (w.heap.size+1) (by omega) (by omega)
  have hlk0:wk0.heap[w.heap.size+1]?=some (.loop rec0):=by
   have:=hwk0.keep _ hkl
   rw [this,hE1];exact hl
  have hy:=run_yield (P:=P) (args:=#[v]) hlk0 (by rw [hrec];rfl)
  rw [hrec] at hy
  have hGG0:G.le Gk0:=by have:=hwk0.le;rw [hE1] at this;exact this
  refine ⟨fn,_,assign,body,hy,roundIn_of_wpIn True.intro (wpIn_mono (hassign k x hx ⟨wk0,Gk0,hwk0.tabOk,[]⟩ (w.heap.size+1) _ wk0 ⟨by simp [r1],rfl,Gk0,hwk0.restart _ _,fun t=>?_⟩) ?_)⟩
  ·have:=qJu (dst:=some p) (N:=N) (τ:=τ) r1 (fun d hd=>by cases hd;exact Nat.le_of_ble_eq_true hp) (fun t=>(ht t).mono hGG0) hv [] t
   simpa [Act.put] using this
  rintro e1 a1 wk ⟨τ1,h1,⟨rfl,rfl,rfl⟩,s1,s2,Gk,hwk1,ht1⟩
  have hwk:WRel E1 Gk (Hs k) wk:=hwk0.after hwk1
  have hG01:Gk0.le Gk:=hwk1.le
  clear hwk1
  have hlk:wk.heap[w.heap.size+1]?=some (.loop rec0):=by
   have:=hwk.keep _ hkl
   rw [this,hE1];exact hl
  have hownk:Gk.own (w.heap.size+1)=none:=by
   cases ho:Gk.own (w.heap.size+1) with
   | none=>rfl
   | some i=>exact absurd hkl (hwk.own _ i ho).2
  refine ⟨_,run_beginRound hlk (by rw [hrec]),?_⟩
  generalize hbz:({ rec0 with state:=.busy }:Loop)=busy
  have htab2:TabOk (wk.putObj (w.heap.size+1) (.loop busy)) Gk:=hwk.tabPoke _ (hne _ (by omega))
  have hw2:=hwk.pokeAt (.loop busy) hlk rfl hownk htab2 []
  have hbel:(⟨wk.putObj (w.heap.size+1) (.loop busy),Gk,htab2,[]⟩:Env).below h.length:=fun i hi=>hwk.fresh i (by rw [hlen];exact hi)
  refine wpIn_mono (hround k x hx _ (w.heap.size+1) hbel _ _ ⟨s1,s2,Gk,hw2,ht1⟩) ?_
  ·rintro e a3 w3 ⟨τ',h',⟨rfl,junk,hj⟩,hr3⟩
   have hr4:=vFc (h':=Hs (k+1)) (l:=[]) (junk:=junk) (by rw [hlen];exact hbel) True.intro rfl hj (by rw [hlen];exact hlow _) a3 w3 hr3
   obtain ⟨_,_,G',hw3,_⟩:=hr4
   have hk2:(⟨wk.putObj (w.heap.size+1) (.loop busy),Gk,htab2,[]⟩:Env).K (w.heap.size+1):=⟨by rw [World.putObj_size];exact (Array.getElem?_eq_some_iff.1 hlk).1,hownk⟩
   have hl3:w3.heap[w.heap.size+1]?=some (.loop busy):=(hw3.keep _ hk2).trans (World.putObj_heap_same (Array.getElem?_eq_some_iff.1 hlk).1)
   have hend:=run_endRound (P:=P) none hl3
   have hback:({ busy with state:=if (none:Option Code).isNone then .ready else .done,pending:=none }:Loop)=rec0:=by rw [← hbz,hrec];rfl
   rw [hback] at hend
   refine ⟨_,_,hend,rfl,G',hG01.trans hw3.le,?_⟩
   have hEK:∀ b,E1.K b→(⟨wk.putObj (w.heap.size+1) (.loop busy),Gk,htab2,[]⟩:Env).K b:=fun b hk=>⟨by rw [World.putObj_size];exact Nat.lt_of_lt_of_le hk.1 hwk.size,by
    show Gk.own b=none
    cases ho:Gk.own b with
    | none=>rfl
    | some i=>exact absurd hk (hwk.own b i ho).2⟩
   have hownl:G'.own (w.heap.size+1)=none:=by
    cases ho:G'.own (w.heap.size+1) with
    | none=>rfl
    | some i=>exact absurd hk2 (hw3.own _ i ho).2
   obtain ⟨p1,p2⟩:=hw3.poke (.loop rec0) hl3 rfl hownl
   refine ⟨hwk.le.trans hw3.le,p1,fun b v hb=>?_,fun b hb=>?_,?_,hw3.os.trans hwk.os,hw3.tape.trans hwk.tape,hw3.output.trans hwk.output,fun b i hb=>⟨by rw [World.putObj_size];exact (hw3.own b i hb).1,fun hk=>(hw3.own b i hb).2 (hEK b hk)⟩,hw3.fresh,p2⟩
   ·rcases hw3.immNew b v hb with h1 | h1
    ·exact hwk.immNew b v h1
    ·exact .inr fun hk=>h1 (hEK _ hk)
   ·by_cases hbl:b=w.heap.size+1
    ·subst hbl
     rw [World.putObj_heap_same (Array.getElem?_eq_some_iff.1 hl3).1,hE1];exact hl.symm
    ·rw [World.putObj_heap_other hbl]
     exact (hw3.keep b (hEK b hb)).trans ((World.putObj_heap_other hbl).trans (hwk.keep b hb))
   ·rw [World.putObj_size]
    refine Nat.le_trans hwk.size ?_
    have:=hw3.size
    rwa [World.putObj_size] at this
 have hcall:=hseq.2 E1 (w.heap.size+1) Hs (by rw [hE1]) hok hY (by rw [h0,hE1];exact hw1.restart htab1 []) cvs g2 (fun j x v hx hv=>by rw [hE1];exact g4 j x v hx hv)
 have hE1w:E1.w0=w1:=by rw [hE1]
 rw [hE1w] at hcall
 refine ⟨w.heap.size+1,[{ target:=.collected w.heap.size,args:=#[] }],w1,{ target:=.fn (.func gf) cvs,args:=#[.func (.yield (w.heap.size+1)) #[] #[]] },w1,gf,#[.func (.yield (w.heap.size+1)) #[] #[]]++cvs,w1,?_,?_,fun _ _=>True.intro,?_,fun hh=>?_,?_⟩
 ·rw [← hW1,hrec];exact run_enterLoop_outer _ _ _ _ _
 ·simp [resolve,hge,Deferred.ofValue]
  rfl
 ·simp [invoke,callFunc,k1,k2',k3']
 ·exact absurd hh (by decide)
 ·show CallsIn Fence.wide 0 P gf _ w1 _
  refine hcall.mono ?_
  rintro e w3 ⟨⟨v,rfl⟩,G3,hw3⟩
  have hkl:=hK1 (w.heap.size+1) (by omega) (by omega)
  have hkD:=hK1 w.heap.size (Nat.le_refl _) (by omega)
  have hl3:w3.heap[w.heap.size+1]?=some (.loop rec0):=by rw [hw3.keep _ hkl,hE1];exact hl
  have hD3:w3.heap[w.heap.size]?=some (.deferred (some [])):=by rw [hw3.keep _ hkD,hE1];exact hD
  have hownl:∀ b,E1.K b→G3.own b=none:=fun b hk=>by
   cases ho:G3.own b with
   | none=>rfl
   | some i=>exact absurd hk (hw3.own b i ho).2
  have hG3:G.le G3:=by have:=hw3.le;rw [hE1] at this;exact this
  have hw3E:WRel E G3 (Hs xs.length) w3:=by
   subst hE1
   exact hw1.after hw3
  have hend:=run_endLoop (P:=P) hl3 (by rw [hrec];simp)
  have hw4E:=hw3E.pokeIn (.loop { rec0 with state:=.exhausted }) hl3 rfl (hownl _ hkl) (hEl _ (by omega))
  generalize hw4:w3.putObj (w.heap.size+1) (.loop { rec0 with state:=.exhausted })=w4 at hw4E hend
  have hpend:rec0.pending=none:=by rw [hrec]
  rw [hpend] at hend
  refine ⟨none,w4,hend,?_⟩
  have hD4:w4.heap[w.heap.size]?=some (.deferred (some [])):=by rw [← hw4,World.putObj_heap_other (by omega)];exact hD3
  have hle:ELe E ⟨w4,G3,hw4E.tabOk,marks [w.heap.size]++E.ds⟩:=by
   refine ⟨fun G h w hw=>hw4E.after hw,fun b hk=>⟨Nat.lt_of_lt_of_le hk.1 hw4E.size,?_⟩,fun b hk=>hw4E.keep b hk,[w.heap.size],rfl,(List.nodup_cons.2 ⟨by simp,List.nodup_nil⟩),fun D hDm=>?_⟩
   ·show G3.own b=none
    cases ho:G3.own b with
    | none=>rfl
    | some i=>exact absurd hk (hw4E.own b i ho).2
   ·obtain rfl:D=w.heap.size:=by simpa using hDm
    exact ⟨hD4,⟨(Array.getElem?_eq_some_iff.1 hD4).1,hownl _ hkD⟩,hEl _ (Nat.le_refl _)⟩
  refine ⟨_,hle,τ,Hs xs.length,hpost,r1,?_,G3,hw4E.restart _ _,fun t=>(ht t).mono hG3⟩
  show [_]++a.defers=_
  rw [r2];rfl
theorem vIf {P:Program} {E:Env} {N:Nat} {x y:Code} {Qx Q:Exit→(Nat→AV)→List AObj→Prop} {τ:Nat→AV} {h:List AObj} (hx:AWx P E N x Qx τ h) (hn:∀ E2,ELe E E2→∀ τ' h',Qx .normal τ' h'→AWx P E2 N y Q τ' h')
  (he:∀ e τ' h',e≠.normal→Qx e τ' h'→Q e τ' h'):AWx P E N (.seq x y) Q τ h :=
 fun a w r=>wp_seq (wp_mono (hx a w r) fun e a' w' ⟨E2,hE,τ',h',q,r'⟩=>by
  cases e with
  | normal =>
   refine wp_mono (hn E2 hE τ' h' q a' w' r') fun e3 a3 w3 ⟨E3,hE3,τ3,h3,q3,r3⟩=>⟨E3,hE.trans hE3,τ3,h3,q3,r3⟩
  | _=>exact ⟨E2,hE,τ',h',he _ _ _ (by simp) q,r'⟩)
theorem qZm {P:Program} {E:Env} {N:Nat} {c:Code} {Q:Exit→(Nat→AV)→List AObj→Prop} {τ:Nat→AV} {h:List AObj} {l:List (Nat×AV)} {h':List AObj} (hs:SubL τ l) (hh:HLe h h') (hc:AWx P E N c Q (look l) h'):AWx P E N c Q τ h:=vKx (qHl hs hh) hc
section
variable {P:Program} {E:Env} {T:Tr} {o:Oper} {ρ:Operand→AV} {h:List AObj}
theorem growMake_ok (hT:TOk P T) {t t2 sz by_ i0 n:Nat} {z:List AV} {k k':IntKind} {s x:Operand} (ho:o.op=.call { callee:=.builtin .append,args:=#[s,x],argTypes:=#[t,t2] })
  (ht:vAx T t=some (sz,by_,z)) (ht2:qIy T t2=some k) (hs:ρ s=.sl sz [] .full∨ρ s=.nils) (hx:ρ x=.d (.int k' (n:Int))) (hn:0 < n∧0 < sz) (hb:n*(by_+1)≤140737488355328) (hroom:h[i0]?=some .room) :
  OpR P E o ρ h (fun u k=>∃ cap:Nat,n≤cap∧u=.row i0 0 n cap∧k=h.set i0 (.row (List.replicate n z).flatten)):=by
 intro G a w hw hr
 have hs':RepA G (ρ s) (a.eval s):=hr s (by simp [ho,Op.operands,Call.operands])
 have hx':RepA G (ρ x) (a.eval x):=hr x (by simp [ho,Op.operands,Call.operands])
 rw [hx] at hx'
 obtain ⟨et,ie,h1,h2,h3,h4,h5,h6⟩:=elemT_ok hT ht
 have hk2:=qIt hT ht2
 obtain ⟨info,g1,g2,g3,zv,g4,g5⟩:=h2.info
 obtain ⟨hl,hc⟩:=zrepL_ok g5
 have hzs:zv.cells.size=sz:=by
  have:zv.cells.toList.length=ie.zero.length:=hl.symm▸rfl
  simp only [Array.length_toList] at this
  rw [this,h5,h6]
 obtain ⟨p,hsv⟩:∃ p,a.eval s=.slice p 0 0:=by
  rcases hs with hs | hs
  ·rw [hs] at hs'
   generalize a.eval s=u at hs'
   cases hs' with
   | sl r k=>obtain ⟨p,rfl⟩:=k;exact ⟨p,rfl⟩
  ·rw [hs] at hs'
   generalize a.eval s=u at hs'
   cases hs'
   exact ⟨none,rfl⟩
 have hrd:RepD G.imm (.sl ie.size []) (a.eval s):=by
  rcases hs with hs | hs
  ·rw [hs] at hs'
   generalize a.eval s=u at hs'
   cases hs' with
   | sl r k=>rw [h3];exact r
  ·rw [hs] at hs'
   generalize a.eval s=u at hs'
   cases hs'
   exact .nil _
 obtain ⟨olds,o1,o2,o3,o4⟩:=qIu (P:=P) hw.imm hrd
 have ho0:olds=[]:=by simpa using o2
 subst ho0
 rw [hsv] at o1
 have hfc:=(o1 w.drew rfl).2
 have hb1:n*ie.bytes≤140737488355328:=Nat.le_trans (Nat.mul_le_mul_left _ (by omega)) hb
 have hb2:n≤140737488355328:=Nat.le_trans (by rw [Nat.mul_add];omega) hb
 have h48:¬ (Builtin.nextslicecap n 0*info.bytes > 2 ^ 48):=by
  have:=growslice_fits (bytes:=ie.bytes) (need:=n) (old:=0) hn.1 hb1
  rw [g3];omega
 have h63:¬ ((n:Int) > IntKind.i64.max):=by simp [IntKind.max,IntKind.signed,IntKind.bits];omega
 have hw63:IntKind.i64.wrap (n:Int)=(n:Int):=qAe (by omega)
 have hbb:¬ ((n:Int)*(info.bytes:Int) > 2 ^ 48):=by
  have h9:((n*info.bytes:Nat):Int)≤140737488355328:=by rw [g3];omega
  rw [Int.natCast_mul] at h9
  omega
 have hsz0:¬ (n*ie.size=0):=by
  have:=Nat.mul_pos hn.1 (show 0 < ie.size by rw [h3];exact hn.2)
  omega
 have hnle:¬ (n≤0):=by omega
 generalize hcapv:(Question.appendCap n 0 et).cut (w.tape w.drawn (.appendCap n 0 et))=newCap
 have hcap:n≤newCap:=by rw [← hcapv];simp [Question.cut]
 have hrun:(Builtin.append_ #[t,t2] o.type #[.slice p 0 0,.int k' (n:Int)]).run P w=.ok (.slice (some ⟨w.heap.size,0,none⟩) n newCap)
   (w.drew.alloc (.cells (#[]++Builtin.zeroCells zv.cells n++Builtin.zeroCells zv.cells (newCap-n)) et)):=by
  have hq:(Question.appendCap n 0 et).forced=false:=rfl
  unfold Builtin.append_
  simp only [List.getElem?_toArray,List.getElem?_cons_zero,List.getElem?_cons_succ,Sem.run_bind,run_underlying h1,Result.andThen_ok,h2.run_size,run_underlying hk2]
  simp only [Sem.run_bind,Sem.run_pure,Result.andThen_ok,if_true,asInt,asIntOf,hw63,Sem.run_ite,typeInfo,run_program,g1,hbb,if_false,Int.toNat_natCast,Nat.zero_add,hnle,hw63,h63,false_and,h48,run_choose,hq,World.drew_eq,run_askRoom,hsz0,zeroValue,g4,newRow,run_newObj,World.alloc_eq,Bool.not_true,Bool.false_eq_true,show ¬ ((n:Int) < 0) by omega]
  have hfc':Sem.run P (Builtin.firstCells ie.size 0 (Value.slice p 0 0)) w.drew=Result.ok #[] w.drew:=hfc
  simp [hfc',hcapv]
  done
 have hn':=hw.newRowAtW hroom (#[]++Builtin.zeroCells zv.cells n++Builtin.zeroCells zv.cells (newCap-n)) et (List.replicate n z).flatten ?_ (fun j c u h7 h8=>?_) (w.drew.alloc (.cells (#[]++Builtin.zeroCells zv.cells n++Builtin.zeroCells zv.cells (newCap-n)) et)) rfl rfl rfl rfl
 ·have hex:(execOp a.eval o).run P w=.ok (.value (.slice (some ⟨w.heap.size,0,none⟩) n newCap)) (w.drew.alloc (.cells (#[]++Builtin.zeroCells zv.cells n++Builtin.zeroCells zv.cells (newCap-n)) et)):=by
   unfold execOp
   simp [ho,resolve,invoke,builtin,hsv,hx'.int_inv,hrun]
  unfold Oper.wp
  rw [hex]
  exact ⟨_,qEi G i0 w.heap.size,.row i0 0 n newCap,h.set i0 (.row (List.replicate n z).flatten),⟨newCap,hcap,rfl,rfl⟩,rfl,hn'.1,hn'.2,.row 0 _ _ (by show (if i0=i0 then _ else _)=_;simp)⟩
 ·simp [Builtin.zeroCells,List.length_flatten,hzs,h6]
 ·rw [qOa,h6] at h7
  split at h7
  ·rename_i hj
   have hlt:j % sz < zv.cells.size:=by rw [hzs];exact Nat.mod_lt _ hn.2
   rw [Array.getElem?_append_left (by simp [Builtin.zeroCells,hzs];exact hj)] at h8
   simp only [Array.empty_append,Builtin.zeroCells,Array.getElem?_map,Option.map_eq_some_iff] at h8
   obtain ⟨q,hq,rfl⟩:=h8
   have hjq:q=j:=by
    rw [Array.getElem?_eq_some_iff] at hq
    obtain ⟨_,hh⟩:=hq
    simpa using hh.symm
   subst hjq
   rw [hzs,getElem!_pos zv.cells (q % sz) hlt]
   exact hc G _ c _ (by rw [h5];exact h7) (by simp [hlt])
  ·cases h7
theorem capNil_ok (hT:TOk P T) {t sz:Nat} {x:Operand} (ho:o.op=.call { callee:=.builtin .cap,args:=#[x],argTypes:=#[t] }) (ht:qCj T t sz=true) (hx:ρ x=.nils):OpP P o ρ (.d (.int .i64 0)):=by
 intro G e w hi hr
 have hx':RepA G (ρ x) (e x):=hr x (by simp [ho,Op.operands,Call.operands])
 rw [hx] at hx'
 obtain ⟨et,ie,g1,g2,g3⟩:=sliceElem_ok hT ht
 have hv:e x=.slice none 0 0:=by generalize e x=u at hx';cases hx';rfl
 refine ⟨.int .i64 0,?_,.d (.int _ _)⟩
 unfold execOp
 simp [ho,resolve,invoke,builtin,Builtin.cap_,hv,run_underlying g1,goInt]
theorem nilCut_ok (hT:TOk P T) {t sz:Nat} {x hi:Operand} {k:IntKind} (ho:o.op=.slice t x none (some hi) none) (hs:qCj T t sz=true) (hx:ρ x=.nils) (hh:ρ hi=.d (.int k 0)):OpP P o ρ .nils:=by
 intro G e w hi' hr
 have hx':RepA G (ρ x) (e x):=hr x (by simp [ho,Op.operands])
 have h2:RepA G (ρ hi) (e hi):=hr hi (by simp [ho,Op.operands])
 rw [hx] at hx';rw [hh] at h2
 obtain ⟨et,ie,g1,g2,g3⟩:=sliceElem_ok hT hs
 have hv:e x=.slice none 0 0:=by generalize e x=u at hx';cases hx';rfl
 refine ⟨.slice none 0 0,?_,.nils⟩
 unfold execOp
 simp only [ho,Sem.run_bind,Instr.sliceAt,Instr.slice,hv,h2.int_inv]
 simp [h2.int_inv,run_underlying g1,Instr.sliceBounds,g2.run_size,g3,qAx _ _ _ _ (show 0≤(0:Int)∧(0:Int)≤((0:Nat):Int) by omega)]
theorem vHn {v:AV} (hT:TOk P T) {t:Nat} {x hi mx:Operand} {sz:Nat} {es:List (List Dat)} {r:Nat} {k2 k3:IntKind} (ho:o.op=.slice t x none (some hi) (some mx)) (hs:qCj T t sz=true) (hx:ρ x=.d (.sl sz es))
  (hr':ρ hi=.d (.int k2 (r:Int))) (hm:ρ mx=.d (.int k3 (r:Int))) (hb:r≤es.length) (hv:AV.d (.sl sz (es.take r))=v):OpP P o ρ v:=by
 intro G e w hi' hr
 subst hv
 have hx':RepA G (ρ x) (e x):=hr x (by simp [ho,Op.operands])
 have h2:RepA G (ρ hi) (e hi):=hr hi (by simp [ho,Op.operands])
 have h3:RepA G (ρ mx) (e mx):=hr mx (by simp [ho,Op.operands])
 rw [hx] at hx';rw [hr'] at h2;rw [hm] at h3
 have hxd:RepD G.imm (.sl sz es) (e x):=by cases hx' with | d r=>exact r
 obtain ⟨a,cap,hev,hnil,hsome⟩:=hxd.slice_inv
 have hcap:es.length≤cap:=by
  cases a with
  | none=>have:=hnil rfl;rw [this.1];exact Nat.zero_le _
  | some p=>exact (hsome p rfl).2.1
 rw [hev] at hxd
 have hcut:=hxd.cutC (l:=0) (r:=r) (Nat.zero_le _) hb
 rw [List.drop_zero,Nat.sub_zero] at hcut
 obtain ⟨et,ie,g1,g2,g3⟩:=sliceElem_ok hT hs
 refine ⟨_,?_,.d hcut⟩
 unfold execOp
 simp only [ho,Sem.run_bind,Instr.sliceAt,Instr.slice,hev,h2.int_inv,h3.int_inv]
 simp [h2.int_inv,h3.int_inv,run_underlying g1,Instr.sliceBounds,g2.run_size,g3,qAx _ _ _ _ (show 0≤(r:Int)∧(r:Int)≤(cap:Int) by omega),qAx _ _ _ _ (show 0≤(r:Int)∧(r:Int)≤((r:Nat):Int) by omega)]
end
theorem qXl {E:Env} {N:Nat} {l:List (Nat×AV)} {h:List AObj} {t i off n sz:Nat} {cells:List AV} {es:List (List Dat)} (ht:look l t=.row i off n n) (hi:h[i]?=some (.row cells)) (hn:es.length=n) (hd:RowDat cells off sz es) :
  ∀ a w,Rel E N (look l) h a w→Rel E N (look ((t,.sl sz es .full)::l)) (h.set i .dead) a w:=by
 intro a w ⟨h1,h2,G,hw,hr⟩
 have hx:=hr t
 rw [ht] at hx
 obtain ⟨b,hv,hl⟩:=hx.row_inv
 obtain ⟨hle,hw',hc⟩:=hw.freeze hi hl
 refine ⟨h1,h2,_,hw',fun s=>?_⟩
 show RepA _ (bif Nat.beq s t then _ else look l s) _
 cases hb:Nat.beq s t with
 | false=>exact (hr s).mono hle
 | true =>
  obtain rfl:=Nat.eq_of_beq_eq_true hb
  rw [hv]
  subst hn
  have hex:∀ (k:Nat),∃ u:Value,∀ (i:Nat) (e:List Dat) (j:Nat) (d:Dat),es[i]?=some e→e[j]?=some d→i*sz+j=k →
    ({ G with imm:=fun a=>if a.block=b∧a.spot=none∧a.off < cells.length then w.cell? a else G.imm a }:Gh).imm ⟨b,off+k,none⟩=some u:=by
   intro k
   rcases hh:({ G with imm:=fun a=>if a.block=b∧a.spot=none∧a.off < cells.length then w.cell? a else G.imm a }:Gh).imm ⟨b,off+k,none⟩ with _ | u
   ·refine ⟨undef,fun i e j d he hj hk=>?_⟩
    obtain ⟨c,g1,g2⟩:=hd.2 i e j d he hj
    obtain ⟨u,g3,_⟩:=hc _ d c g1 g2
    rw [hk] at g3
    rw [hh] at g3;cases g3
   ·exact ⟨u,fun _ _ _ _ _ _ _=>rfl⟩
  refine .sl (.sl sz es ⟨b,off,none⟩ es.length (fun k=>Classical.choose (hex k)) rfl (Nat.le_refl _) hd.1 (fun i e j d he hj=>?_) (fun i e j d he hj=>?_)) ⟨_,rfl⟩
  ·rw [qCq]
   exact Classical.choose_spec (hex (i*sz+j)) i e j d he hj rfl
  ·have:=Classical.choose_spec (hex (i*sz+j)) i e j d he hj rfl
   obtain ⟨c,g1,g2⟩:=hd.2 i e j d he hj
   obtain ⟨u,g3,g4⟩:=hc _ d c g1 g2
   have hu:=Option.some.inj (g3.symm.trans this)
   exact hu▸g4
theorem vBw {P:Program} {E:Env} {N:Nat} {Q:Exit→(Nat→AV)→List AObj→Prop} {c:Code} {l:List (Nat×AV)} {h:List AObj} (t i sz:Nat) {off n:Nat} {cells:List AV} (es:List (List Dat)) (ht:look l t=.row i off n n) (hi:h[i]?=some (.row cells))
  (hn:es.length=n) (hd:RowDat cells off sz es) (hc:AW P E N c Q (look ((t,.sl sz es .full)::l)) (h.set i .dead)):AW P E N c Q (look l) h :=
 qKy (qXl ht hi hn hd) hc
variable {P:Program} {E:Env} {N:Nat} {ops:Array Oper}
theorem anyA_firstT {rd wr:Nat→List Nat} {Q:(Nat→AV)→List AObj→Prop} {i:Nat} {oi:Oper} {v:AV} {osi:List AObj} (U:Nat→Bool) (hi:ops[i]?=some oi)
  (hdep:∀ j oj,U j=true→ops[j]?=some oj→∃ e,e∈oj.after∧Region.binds .any e=true∧(e.on=i∨U e.on=true)):∀ (fuel:Nat) (listed:Array Bool) (τ:Nat→AV) (h:List AObj),
  (∀ j,U j=true→listed.getD j true=false) →
  (∀ j oj,ops[j]?=some oj→j≠i→U j=false→listed.getD j true=false→oi.apart ops oj=true∧conf rd wr i j=false) →
  i∈Region.ready .any ops listed→SI P E N ops rd wr i oi τ h v osi→vHv P E N ops rd wr Q fuel (listed.setIfInBounds i true) (qKm τ oi.dst v) (qGg h (wr i) osi)→vHv P E N ops rd wr Q (fuel+1) listed τ h:=by
 intro fuel
 have own:∀ (listed:Array Bool) (τ:Nat→AV) (h:List AObj) (K:(Nat→AV)→List AObj→Prop),SI P E N ops rd wr i oi τ h v osi→K (qKm τ oi.dst v) (qGg h (wr i) osi)→qRa P E N ops rd wr i K τ h:=by
  intro listed τ h K hs hk
  unfold qRa
  simp only [hi]
  exact ⟨v,osi,hs,hk⟩
 induction fuel with
 | zero =>
  intro listed τ h _ _ hr hy H
  refine ⟨fun h0=>(by rw [h0] at hr;cases hr),fun j hj=>?_⟩
  by_cases hji:j=i
  ·subst hji;exact own listed τ h _ hy H
  ·have:=ready_mono hj hji
   rw [H.1] at this
   cases this
 | succ fuel ih =>
  intro listed τ h hU hfree hr hy H
  refine ⟨fun h0=>(by rw [h0] at hr;cases hr),fun j hj=>?_⟩
  by_cases hji:j=i
  ·subst hji;exact own listed τ h _ hy H
  ·have hs:=H.2 j (ready_mono hj hji)
   obtain ⟨hjun,oj,hoj,hall⟩:=mem_ready.1 hj
   have hin:listed.getD i true=false:=(mem_ready.1 hr).1
   have hcon:∀ k,listed.getD k true=false→listed.getD k false=true→False:=fun k h0 h1=>by
    rcases Nat.lt_or_ge k listed.size with h' | h'
    ·simp [h'] at h0 h1;rw [h0] at h1;cases h1
    ·simp [Array.getElem?_eq_none h'] at h1
   have hUj:U j=false:=by
    cases hu:U j with
    | false=>rfl
    | true =>
     obtain ⟨e,he,hb,hor⟩:=hdep j oj hu hoj
     have h1:=hall e he hb
     rcases hor with rfl | hu2
     ·exact (hcon _ hin h1).elim
     ·exact (hcon _ (hU _ hu2) h1).elim
   obtain ⟨hap,hcf⟩:=hfree j oj hoj hji hUj hjun
   obtain ⟨a1,a2,a3⟩:=Oper.apart_spec hap
   simp only [conf,Bool.or_eq_false_iff] at hcf
   obtain ⟨⟨f1,f2⟩,f3⟩:=hcf
   have f1:=qEk f1
   have f2:=qEk f2
   have f3:=qEk f3
   unfold qRa at hs ⊢
   simp only [hoj] at hs ⊢
   obtain ⟨vj,osj,hsj,hk⟩:=hs
   have cj:∀ d,d∈oj.looksAt ops→τ d=qKm τ oi.dst v d:=fun d hd=>(putA_other fun e he hh=>a1 e he (hh▸hd)).symm
   have ci:∀ u d,d∈oi.looksAt ops→qKm τ oj.dst u d=τ d:=fun u d hd=>putA_other fun e he hh=>a3 e he (hh▸hd)
   have hU':∀ k,U k=true→(listed.setIfInBounds j true).getD k true=false:=fun k hk=>by
    rw [getD_set_ne true (fun hh=>by subst hh;rw [hUj] at hk;cases hk)]
    exact hU k hk
   have hfree':∀ k ok,ops[k]?=some ok→k≠i→U k=false→(listed.setIfInBounds j true).getD k true=false→oi.apart ops ok=true∧conf rd wr i k=false:=fun k ok hk' hki hku hun=>by
    refine hfree k ok hk' hki hku ?_
    by_cases hjk:j=k
    ·subst hjk;exact hjun
    ·rw [getD_set_ne true hjk] at hun;exact hun
   refine ⟨vj,osj,hsj.congr cj (by rw [updH_length]) (fun x hx=>(updH_other _ _ _ _ (fun hw=>f1 x hw hx)).symm),ih _ _ _ hU' hfree' (ready_mono hr (Ne.symm hji)) (hy.congr (ci vj) (by rw [updH_length]) (fun x hx=>updH_other _ _ _ _ (fun hw=>f3 x hw hx))) ?_⟩
   rw [Array.setIfInBounds_comm _ _ hji,← putA_comm a2,← updH_comm _ _ _ _ _ f2]
   exact hk
def waits (ops:Array Oper) (i:Nat):Array Bool :=
 (List.range ops.size).foldl (fun u j=>u.setIfInBounds j (match ops[j]? with
  | some oj=>oj.after.any fun e=>Region.binds .any e&&(e.on == i||u.getD e.on false)
  | none=>false)) (Array.replicate ops.size false)
def vKf (ops:Array Oper) (rd wr:Nat→List Nat) (listed:Array Bool) (i:Nat) (U:Array Bool):Bool :=
 match ops[i]? with
 | none=>false
 | some oi=>Nat.beq U.size ops.size&&(List.range ops.size).all fun j=>match ops[j]? with
   | some oj=>match U.getD j false with
    | true=>!listed.getD j true&&oj.after.any fun e=>Region.binds .any e&&(e.on == i||U.getD e.on false)
    | false=>j == i||listed.getD j true||(oi.apart ops oj&&!conf rd wr i j)
   | none=>true
theorem freeT_spec {rd wr:Nat→List Nat} {listed U:Array Bool} {i:Nat} {oi:Oper} (hi:ops[i]?=some oi) (h:vKf ops rd wr listed i U=true) :
  (∀ j oj,U.getD j false=true→ops[j]?=some oj→∃ e,e∈oj.after∧Region.binds .any e=true∧(e.on=i∨U.getD e.on false=true))∧(∀ j,U.getD j false=true→listed.getD j true=false) ∧
  (∀ j oj,ops[j]?=some oj→j≠i→U.getD j false=false→listed.getD j true=false→oi.apart ops oj=true∧conf rd wr i j=false):=by
 simp only [vKf,hi,Bool.and_eq_true,List.all_eq_true,List.mem_range] at h
 obtain ⟨hsz,h⟩:=h
 have hsz:=Nat.eq_of_beq_eq_true hsz
 refine ⟨fun j oj hu hj=>?_,fun j hu=>?_,fun j oj hj hne hu hun=>?_⟩
 ·have h1:=h j (Array.getElem?_eq_some_iff.1 hj).1
  simp only [hj,hu,Bool.and_eq_true] at h1
  obtain ⟨e,he,hb⟩:=Array.any_eq_true'.1 h1.2
  simp only [Bool.and_eq_true,Bool.or_eq_true,beq_iff_eq] at hb
  exact ⟨e,he,hb.1,hb.2⟩
 ·have hlt:j < U.size:=by
   rcases Nat.lt_or_ge j U.size with h' | h'
   ·exact h'
   ·simp [Array.getElem?_eq_none h'] at hu
  have h1:=h j (by omega)
  have hj:ops[j]?=some ops[j]:=by simp [show j < ops.size by omega]
  simp only [hj,hu,Bool.and_eq_true] at h1
  simpa using h1.1
 ·have h1:=h j (Array.getElem?_eq_some_iff.1 hj).1
  simp only [hj,hu,Bool.or_eq_true,beq_iff_eq,hne,false_or,hun,Bool.false_eq_true] at h1
  simpa using h1
def vLu (ops:Array Oper) (rd wr:Nat→List Nat):Nat→Nat→Array Bool→Bool
 | 0,_,listed=>(Region.ready .any ops listed).isEmpty
 | fuel+1,k,listed=>(Region.ready .any ops listed).contains k&&vKf ops rd wr listed k (waits ops k)&&vLu ops rd wr fuel (k+1) (listed.setIfInBounds k true)
theorem qZo {rd wr:Nat→List Nat} {ops:List Oper} {Q:(Nat→AV)→List AObj→Prop}:∀ (l:List Oper) (k:Nat) (listed:Array Bool) (τ:Nat→AV) (h:List AObj),(∀ j,l[j]?=ops[k+j]?) →
  vLu ops.toArray rd wr l.length k listed=true→AWd P E N ops rd wr Q l k τ h→vHv P E N ops.toArray rd wr Q l.length listed τ h
 | [],_,_,_,_,_,hB,H=>⟨by simpa [vLu] using hB,H⟩
 | o::l,k,listed,τ,h,hl,hB,H=>by
  have h0:ops.toArray[k]?=some o:=by simpa using (hl 0).symm
  simp only [List.length_cons,vLu,Bool.and_eq_true] at hB
  obtain ⟨⟨hr,hf⟩,hB'⟩:=hB
  obtain ⟨v,os,hs,hk⟩:=H
  obtain ⟨f1,f2,f3⟩:=freeT_spec h0 hf
  exact anyA_firstT (fun j=>(waits ops.toArray k).getD j false) h0 f1 l.length listed τ h f2 f3 (by simpa using hr) hs
   (qZo l (k+1) _ _ _ (fun j=>by have:=hl (j+1);simpa [Nat.add_assoc,Nat.add_comm 1 j] using this) hB' hk)
theorem qBh {id:Nat} (rd wr:Nat→List Nat) {ops:List Oper} {Q:Exit→(Nat→AV)→List AObj→Prop} {τ:Nat→AV} {h:List AObj} (hm:P.follows .mixedOrders=true)
  (hB:vLu ops.toArray rd wr ops.length 0 (Array.replicate ops.length false)=true) (H:AWd P E N ops rd wr (Q .normal) ops 0 τ h):AW P E N (.region id ops.toArray true) Q τ h:=by
 intro a w hr
 refine wp_region_any hm ?_
 have:=qZo (P:=P) (E:=E) (N:=N) ops 0 _ τ h (fun j=>by simp) hB H
 have:=anyA_sound (Q:=Q) _ _ _ _ a _ this hr.drew
 simpa using this
end Tdoc
namespace Tdoc
open Go
theorem loadA_agg {T:Tr} {t off:Nat} {i:TI} {cells vs:List AV} (hf:T.find t=some i) (ha:i.agg=true) (hle:off+i.size≤cells.length) (hv:(cells.drop off).take i.size=vs):qMg T t cells off=some (.agg vs):=by
 unfold qMg
 rw [hf]
 simp only [ha]
 rw [Nat.ble_eq_true_of_le hle,hv]
theorem runeStr_ok {P:Program} {T:Tr} {o:Oper} {ρ:Operand→AV} (hT:TOk P T) {t t2:Nat} {x:Operand} {k k':IntKind} {n:Int} (ho:o.op=.convert t t2 x) (ht:qIy T t=some k) (ht2:qFz T t2=true) (hx:ρ x=.d (.int k' n)) (hn:0≤n∧n < 128) :
  OpP P o ρ (.d (.str [UInt8.ofNat n.toNat])):=by
 intro G e w hi hr
 have hx':RepA G (ρ x) (e x):=hr x (by simp [ho,Op.operands])
 rw [hx] at hx'
 refine ⟨.string ⟨#[UInt8.ofNat n.toNat]⟩,?_,.d (.str [UInt8.ofNat n.toNat])⟩
 have hc:Utf8.encode n=⟨#[UInt8.ofNat n.toNat]⟩:=by
  unfold Utf8.encode
  have hv:Utf8.valid n=true:=by unfold Utf8.valid;simp;omega
  rw [hv]
  simp only [if_true]
  rw [if_pos (by omega)]
 unfold execOp
 simp only [ho,Sem.run_bind]
 rw [hx'.int_inv]
 simp [convert,run_underlying (qIt hT ht),run_underlying (qDf hT ht2),Conv.intToString,hc]
def vJr (Q:Exit→(Nat→AV)→List AObj→Prop):Exit→(Nat→AV)→List AObj→Prop
 | .goto _,_,_=>False
 | e,τ,h=>Q e τ h
theorem qZq {P:Program} {E:Env} {N:Nat} {c:Code} {Q:Exit→(Nat→AV)→List AObj→Prop} {τ:Nat→AV} {h:List AObj} (hc:AW P E N c (vJr Q) τ h):AW P E N (.scope c) Q τ h :=
 fun a w r=>wp_scope_straight (wp_mono (hc a w r) fun e a' w' ⟨τ',h',q,r'⟩=>by
  cases e with
  | goto l=>exact q.elim
  | _=>exact ⟨τ',h',q,r'⟩)
theorem setRun_full {cells cs:List AV} (h:cells.length=cs.length):qBv cells 0 cs=cs:=by
 apply List.ext_getElem?
 intro j
 rw [setRun_at cs cells 0 j (by omega)]
 by_cases hj:j < cs.length
 ·rw [if_pos ⟨by omega,by omega⟩];rfl
 ·rw [if_neg (by omega),List.getElem?_eq_none (by omega),List.getElem?_eq_none (by omega)]
theorem setRun_head {cells cs rest:List AV} (h:cells.length=cs.length):qBv (cells++rest) 0 cs=cs++rest:=by
 apply List.ext_getElem?
 intro j
 rw [setRun_at cs (cells++rest) 0 j (by simp;omega)]
 by_cases hj:j < cs.length
 ·rw [if_pos ⟨by omega,by omega⟩,List.getElem?_append_left hj];rfl
 ·rw [if_neg (by omega),List.getElem?_append_right (by omega),List.getElem?_append_right (by omega),h]
theorem storeA_agg {T:Tr} {t off:Nat} {i:TI} {cells cs cells':List AV} (hf:T.find t=some i) (hsz:cs.length=i.size) (hle:off+i.size≤cells.length) (hr:qBv cells off cs=cells'):qHs T t cells off (.agg cs)=some cells':=by
 unfold qHs
 rw [hf]
 simp only [cellsA]
 rw [hsz,Nat.beq_refl,Nat.ble_eq_true_of_le hle,hr]
 rfl
theorem storeAgg_ok {P:Program} {E:Env} {T:Tr} {o:Oper} {ρ:Operand→AV} {h:List AObj} (hT:TOk P T) {t i off:Nat} {ti:TI} {x y:Operand} {cells cs cells':List AV} (ho:o.op=.store t x y) (hx:ρ x=.ptr i off) (hy:ρ y=.agg cs) (hi:h[i]?=some (.row cells)) (hf:T.find t=some ti) (hsz:cs.length=ti.size)
  (hle:off+ti.size≤cells.length) (hr:qBv cells off cs=cells'):OpS P E o ρ h .any (h.set i (.row cells')) :=
 qBq hT ho hx hi (by rw [hy];exact storeA_agg hf hsz hle hr)
def vDh (P:Program) (l:List Field) (ks1 ks2:List (Option IntKind)):Bool :=
 match l.reverse with
 | g::r=>fOk P r.reverse 0 ks1&&((g.name != "_")&&(Nat.beq g.offset ks1.length&&((match P.underlying g.type with | some (.struct _)=>true | _=>false)&&(!P.stoodInHeld g.type&&(fOk P (P.fieldsOf g.type).toList 0 ks2&&(match P.info? g.type with | some i=>Nat.beq i.size ks2.length | none=>false))))))
 | []=>false
section
variable {P:Program} {o:Oper} {ρ:Operand→AV}
end
theorem eqFlat_tl {m:Addr→Option Value} {P:Program} {w:World} {n:Nat} {xs ys:Array Value} (tl:List Field):∀ (fs:List Field) (ks:List (Option IntKind)) (off:Nat) (ds es:List Dat),fOk P fs off ks=true→ds.map qDc=ks.map some→es.map qDc=ks.map some →
  (∀ (j:Nat) (d:Dat),ds[j]?=some d→∃ v,xs[off+j]?=some v∧RepD m d v)→(∀ (j:Nat) (d:Dat),es[j]?=some d→∃ v,ys[off+j]?=some v∧RepD m d v) →
  (Op.eqFields (n+1) xs ys (fs++tl)).run P w=if qEr ds es=true then (Op.eqFields (n+1) xs ys tl).run P w else .ok false w
 | [],[],off,ds,es,_,h1,h2,_,_=>by
  obtain rfl:ds=[]:=by simpa using h1
  obtain rfl:es=[]:=by simpa using h2
  rfl
 | [],_::_,_,_,_,h,_,_,_,_=>by simp [fOk] at h
 | _::_,[],_,_,_,h,_,_,_,_=>by simp [fOk] at h
 | f::fs,k::ks,off,ds,es,h,h1,h2,hx,hy=>by
  match ds,es,h1,h2 with
  | [],_,h1,_=>simp at h1
  | _::_,[],_,h2=>simp at h2
  | d::ds,e::es,h1,h2 =>
   simp only [List.map_cons,List.cons.injEq] at h1 h2
   simp only [fOk,Bool.and_eq_true,bne_iff_ne,ne_eq] at h
   obtain ⟨g1,g2,g3,g4⟩:=h
   have ih:=eqFlat_tl (n:=n) (w:=w) (xs:=xs) (ys:=ys) (m:=m) tl fs ks (off+1) ds es g4 h1.2 h2.2 (fun j d hj=>by have:=hx (j+1) d (by simpa using hj);rwa [show off+(j+1)=off+1+j by omega] at this) (fun j d hj=>by have:=hy (j+1) d (by simpa using hj);rwa [show off+(j+1)=off+1+j by omega] at this)
   obtain ⟨u,hu,ru⟩:=hx 0 d rfl
   obtain ⟨v,hv,rv⟩:=hy 0 e rfl
   rw [Nat.add_zero] at hu hv
   have ho:f.offset=off:=Nat.eq_of_beq_eq_true g2
   rw [← ho] at hu hv
   rw [List.cons_append]
   generalize (Op.eqFields (n+1) xs ys tl).run P w=R at ih ⊢
   unfold Op.eqFields
   rw [if_pos g1]
   have fin:∀ b:Bool,(Op.equalIn (n+1) f.type u v).run P w=.ok b w→(∃ t,P.underlying f.type=some t∧∀ w:World,(isAgg f.type).run P w=.ok false w)→b=qTh d e →
     (do let a ← part f.type xs f.offset;let b ← part f.type ys f.offset;let r ← Op.equalIn (n+1) f.type a b;if (!r)=true then pure false else Op.eqFields (n+1) xs ys (fs++tl):Sem Bool).run P w=if qEr (d::ds) (e::es)=true then R else .ok false w:=by
    rintro b hb ⟨t,ht,ha⟩ rfl
    simp only [Sem.run_bind,qMv ht ha hu,qMv ht ha hv,Result.andThen_ok,hb]
    rw [qEr]
    cases qTh d e
    ·simp
    ·simp [ih]
   cases hund:P.underlying f.type with
   | none=>rw [hund] at g3;cases g3
   | some td =>
    rw [hund] at g3
    cases td
    case int k' =>
     cases k with
     | none=>cases g3
     | some k =>
      match d,h1.1,ru with
      | .int _ x,h1,ru =>
       match e,h2.1,rv with
       | .int _ y,h2,rv =>
        simp only [qDc,Option.some.injEq] at h1 h2
        subst h1;subst h2
        cases ru;cases rv
        exact fin (x == y) (run_equalIn_int w n f.type _ k' x y hund) ⟨_,hund,fun w=>by simp [isAgg,run_underlying hund]⟩ rfl
       | .bool _,h2,_=>simp [qDc] at h2
       | .str _,h2,_=>simp [qDc] at h2
       | .sl _ _,h2,_=>simp [qDc] at h2
      | .bool _,h1,_=>simp [qDc] at h1
      | .str _,h1,_=>simp [qDc] at h1
      | .sl _ _,h1,_=>simp [qDc] at h1
    case string =>
     cases k with
     | some k=>cases g3
     | none =>
      match d,h1.1,ru with
      | .str a,h1,ru =>
       match e,h2.1,rv with
       | .str b,h2,rv =>
        cases ru;cases rv
        refine fin _ (run_equalIn_string w n f.type _ _ hund) ⟨_,hund,fun w=>by simp [isAgg,run_underlying hund]⟩ ?_
        simp [qTh,ByteArray.toList_mk]
       | .bool _,h2,_=>simp [qDc] at h2
       | .int _ _,h2,_=>simp [qDc] at h2
       | .sl _ _,h2,_=>simp [qDc] at h2
      | .bool _,h1,_=>simp [qDc] at h1
      | .int _ _,h1,_=>simp [qDc] at h1
      | .sl _ _,h1,_=>simp [qDc] at h1
    all_goals cases g3
theorem sameL_split:∀ (a b c d:List Dat),a.length=b.length→qEr (a++c) (b++d)=(qEr a b&&qEr c d)
 | [],[],c,d,_=>by simp [qEr]
 | [],_::_,_,_,h=>by simp at h
 | _::_,[],_,_,h=>by simp at h
 | x::a,y::b,c,d,h=>by
  rw [List.cons_append,List.cons_append,qEr,qEr,sameL_split a b c d (by simpa using h),Bool.and_assoc]
theorem vMg {m:Addr→Option Value} {P:Program} {w:World} {n:Nat} {xs ys:Array Value} {l:List Field} {ks1 ks2:List (Option IntKind)} {ds es:List Dat} (hn:vDh P l ks1 ks2=true) (h1:ds.map qDc=(ks1++ks2).map some) (h2:es.map qDc=(ks1++ks2).map some) (hs:xs.size=ds.length) (hs2:ys.size=es.length)
  (hx:∀ (j:Nat) (d:Dat),ds[j]?=some d→∃ v,xs[0+j]?=some v∧RepD m d v) (hy:∀ (j:Nat) (d:Dat),es[j]?=some d→∃ v,ys[0+j]?=some v∧RepD m d v):(Op.eqFields (n+2) xs ys l).run P w=.ok (qEr ds es) w:=by
 unfold vDh at hn
 generalize hr:l.reverse=r at hn
 match r,hr,hn with
 | [],_,hn=>cases hn
 | g::r,hr,hn =>
  simp only [Bool.and_eq_true,bne_iff_ne,ne_eq,Bool.not_eq_true'] at hn
  obtain ⟨f1,g1,g2,g3,g4,g5,g6⟩:=hn
  have g2:=Nat.eq_of_beq_eq_true g2
  have hl:l=r.reverse++[g]:=by rw [← List.reverse_reverse l,hr,List.reverse_cons]
  have hdl:ds.length=ks1.length+ks2.length:=by simpa using congrArg List.length h1
  have hel:es.length=ks1.length+ks2.length:=by simpa using congrArg List.length h2
  have e1:∀ {ds:List Dat},ds.map qDc=(ks1++ks2).map some→(ds.take ks1.length).map qDc=ks1.map some:=by
   intro ds h1
   rw [List.map_take,h1,List.map_append,List.take_append_of_le_length (by simp),List.take_of_length_le (by simp)]
  have e2:∀ {ds:List Dat},ds.map qDc=(ks1++ks2).map some→(ds.drop ks1.length).map qDc=ks2.map some:=by
   intro ds h1
   rw [List.map_drop,h1,List.map_append,List.drop_append_of_le_length (by simp),List.drop_of_length_le (by simp),List.nil_append]
  rw [hl,eqFlat_tl (n:=n+1) (m:=m) [g] r.reverse ks1 0 (ds.take ks1.length) (es.take ks1.length) f1 (e1 h1) (e1 h2) (fun j d hj=>hx j d (by rw [List.getElem?_take] at hj;split at hj <;> simp_all)) (fun j d hj=>hy j d (by rw [List.getElem?_take] at hj;split at hj <;> simp_all))]
  have hsp:qEr ds es=(qEr (ds.take ks1.length) (es.take ks1.length)&&qEr (ds.drop ks1.length) (es.drop ks1.length)):=by
   rw [← sameL_split _ _ _ _ (by simp [hdl,hel]),List.take_append_drop,List.take_append_drop]
  rw [hsp]
  cases qEr (ds.take ks1.length) (es.take ks1.length) with
  | false=>simp
  | true =>
  rw [if_pos rfl,Bool.true_and]
  unfold Op.eqFields
  rw [if_pos g1]
  have hu:P.underlying g.type=some (.struct (P.fieldsOf g.type)):=by
   unfold Program.fieldsOf
   cases hund:P.underlying g.type with
   | none=>rw [hund] at g3;cases g3
   | some td =>
    rw [hund] at g3
    cases td
    case struct fs=>rfl
    all_goals cases g3
  obtain ⟨i,hi,g6⟩:∃ i,P.info? g.type=some i∧i.size=ks2.length:=by
   cases hh:P.info? g.type with
   | none=>rw [hh] at g6;cases g6
   | some i=>rw [hh] at g6;exact ⟨i,rfl,Nat.eq_of_beq_eq_true g6⟩
  have hp:∀ xs:Array Value,(part g.type xs g.offset).run P w=.ok (.agg (xs.extract g.offset (g.offset+i.size))) w:=by
   intro xs
   simp [part,isAgg,run_underlying hu,Go.sizeOf,typeInfo,hi]
  have hq:(Op.equalIn (n+2) g.type (.agg (xs.extract g.offset (g.offset+i.size))) (.agg (ys.extract g.offset (g.offset+i.size)))).run P w=.ok (qEr (ds.drop ks1.length) (es.drop ks1.length)) w:=by
   rw [run_equalIn_agg w (n+1) g.type _ _ hu g4]
   refine eqFields_flat (P:=P) (w:=w) (n:=n) (m:=m) (xs:=xs.extract g.offset (g.offset+i.size)) (ys:=ys.extract g.offset (g.offset+i.size)) (P.fieldsOf g.type).toList ks2 0 (ds.drop ks1.length) (es.drop ks1.length) g5 (e2 h1) (e2 h2) (fun j d hj=>?_) (fun j d hj=>?_)
   ·rw [List.getElem?_drop] at hj
    obtain ⟨v,hv,hd⟩:=hx _ d hj
    refine ⟨v,?_,hd⟩
    have hlt:=(List.getElem?_eq_some_iff.1 hj).1
    rw [Array.getElem?_extract,if_pos (by rw [hs];omega),← hv]
    congr 1
    omega
   ·rw [List.getElem?_drop] at hj
    obtain ⟨v,hv,hd⟩:=hy _ d hj
    refine ⟨v,?_,hd⟩
    have hlt:=(List.getElem?_eq_some_iff.1 hj).1
    rw [Array.getElem?_extract,if_pos (by rw [hs2];omega),← hv]
    congr 1
    omega
  simp only [Sem.run_bind,hp,hq,Result.andThen_ok]
  cases qEr (ds.drop ks1.length) (es.drop ks1.length) <;> rfl
section
variable {P:Program} {o:Oper} {ρ:Operand→AV}
theorem cellsOf {G:Gh} {ds:List Dat} {v:Value} (h:RepA G (.agg (ds.map .d)) v):∃ vs,v=.agg vs∧vs.size=ds.length∧∀ (j:Nat) (d:Dat),ds[j]?=some d→∃ v,vs[0+j]?=some v∧RepD G.imm d v:=by
 generalize hc:ds.map AV.d=cs at h
 cases h with
 | agg vs hs hv ho =>
  subst hc
  refine ⟨vs,rfl,by rw [hs,List.length_map],fun j d hj=>?_⟩
  have hjl:=(List.getElem?_eq_some_iff.1 hj).1
  have hl:j < vs.size:=by rw [hs];simpa using hjl
  have:=hv j (.d d) vs[j] (by simp [hj]) (by simp [hl])
  refine ⟨vs[j],by simp [hl],?_⟩
  cases this with
  | d r=>exact r
theorem nestEq_ok {t yt:Nat} {x y:Operand} {ds es:List Dat} (ks1 ks2:List (Option IntKind)) (ho:o.op=.binOp .eql t x y yt) (hu:P.underlying t=some (.struct (P.fieldsOf t))) (hp:P.stoodInHeld t=false) (hg:P.eqGuardType P.depth t=false)
  (hn:vDh P (P.fieldsOf t).toList ks1 ks2=true) (hx:ρ x=.agg (ds.map .d)) (hy:ρ y=.agg (es.map .d)) (h1:ds.map qDc=(ks1++ks2).map some) (h2:es.map qDc=(ks1++ks2).map some):OpP P o ρ (.d (.bool (qEr ds es))):=by
 intro G e w hi hr
 have hx':RepA G (ρ x) (e x):=hr x (by simp [ho,Op.operands])
 have hy':RepA G (ρ y) (e y):=hr y (by simp [ho,Op.operands])
 rw [hx] at hx';rw [hy] at hy'
 obtain ⟨xs,hxe,hxs,hxc⟩:=cellsOf hx'
 obtain ⟨ys,hye,hys,hyc⟩:=cellsOf hy'
 refine ⟨.bool (qEr ds es),?_,.d (.bool _)⟩
 have heq:(Op.equalIn 10000 t (.agg xs) (.agg ys)).run P w=.ok (qEr ds es) w:=by
  rw [show (10000:Nat)=9999+1 from rfl,run_equalIn_agg w 9999 t xs ys hu hp]
  exact vMg (n:=9997) hn h1 h2 hxs hys hxc hyc
 unfold execOp
 simp only [ho,Sem.run_bind]
 rw [hxe,hye,run_eqGuard_agg w .eql t x y xs ys hg]
 simp only [Result.andThen_ok,Sem.run_bind]
 rw [run_eql_struct,heq]
 rfl
end
theorem qSv {P:Program} {E:Env} {N:Nat} {ops:List Oper} {Q:(Nat→AV)→List AObj→Prop} {d:Nat} {op:Op} {ty:TypeId} {pos:String} {after:Array Edge} {j:Nat} {want:Bool} {rest:List Oper}
  {l:List (Nat×AV)} {h h':List AObj} {gd:Nat} {ex:Bool} {v:AV} (hg:gslot ops l j want=some (gd,ex)) (hex:ex=true) (hd:Nat.blt d N=true) (hgd:Nat.blt gd N=true)
  (hC:ex=true→qWv (look l) (vAr op)∧OpS P E ⟨some d,op,ty,pos,after,some (j,want)⟩ (evG (look l) op) h v h')
  (hk:AWk P E N ops Q rest (look ((d,.gd true v)::l)) h'):AWk P E N ops Q (⟨some d,op,ty,pos,after,some (j,want)⟩::rest) (look l) h :=
 vIh (ι:=Unit) (p:=fun _=>True) (v:=fun _=>v) (h':=fun _=>h') .any hg hd hgd
  (fun hb=>⟨(hC hb).1,(qDi (hC hb).2).mono fun u k hu=>⟨(),True.intro,hu⟩⟩)
  (fun _ _ _=>hk) (fun hb=>by rw [hex] at hb;cases hb)
theorem vIi {P:Program} {E:Env} {N:Nat} {ops:List Oper} {Q:(Nat→AV)→List AObj→Prop} {d:Nat} {op:Op} {ty:TypeId} {pos:String} {after:Array Edge} {j:Nat} {want:Bool} {rest:List Oper}
  {l:List (Nat×AV)} {h:List AObj} {gd:Nat} {ex:Bool} (v:AV) (hg:gslot ops l j want=some (gd,ex)) (hex:ex=false) (hd:Nat.blt d N=true) (hgd:Nat.blt gd N=true)
  (hk:AWk P E N ops Q rest (look ((d,.gd false v)::l)) h):AWk P E N ops Q (⟨some d,op,ty,pos,after,some (j,want)⟩::rest) (look l) h:=by
 subst hex
 exact qCh (v:=v) hg hd hgd (fun hb=>by cases hb) hk
theorem vBj {E:Env} {N:Nat} {l:List (Nat×AV)} {h:List AObj} {t i n sz:Nat} {cells:List AV} (ht:look l t=.row i 0 n n) (hi:h[i]?=some (.row cells)) (hl:cells.length=n*sz) :
  ∀ a w,Rel E N (look l) h a w→Rel E N (look ((t,.bm i n)::l)) (h.set i (.buf sz n cells)) a w:=by
 intro a w ⟨h1,h2,G,hw,hr⟩
 have hx:=hr t
 rw [ht] at hx
 obtain ⟨b,hv,hlb⟩:=hx.row_inv
 obtain ⟨b',hl',hown,hrow,himm,hrt⟩:=hw.obj i _ hi
 rw [hlb] at hl'
 cases hl'
 have hilt:i < h.length:=(List.getElem?_eq_some_iff.1 hi).1
 have hle:=rtSet_le (G:=G) (i:=i) (n:=n) (x:=(some ⟨b,0,none⟩,n)) (hrt n)
 refine ⟨h1,h2,qMf G i n (some ⟨b,0,none⟩,n),⟨hw.le.trans hle,hw.imm,hw.immNew,hw.keep,hw.size,hw.os,hw.tape,hw.output,hw.own,fun j hj=>?_,fun j o hj=>?_⟩,fun s=>?_⟩
 ·simp only [List.length_set] at hj
  have:=hw.fresh j hj
  exact ⟨this.1,fun m=>by rw [rtSet_ne (by omega)];exact this.2 m⟩
 ·rw [List.getElem?_set] at hj
  by_cases hij:i=j
  ·subst hij
   simp only [if_true,hilt] at hj
   cases hj
   refine ⟨some ⟨b,0,none⟩,n,rtSet_at _ _ _ _,fun n' hn'=>by rw [rtSet_ne (by omega)];exact hrt n',hl,Nat.le_refl _,⟨fun h=>(by cases h),fun p hp=>(by cases hp;rfl)⟩,fun p hp _=>?_⟩
   cases hp
   refine ⟨rfl,hown,fun j c hj=>?_,fun j hj=>?_⟩
   ·obtain ⟨v,v1,v2,v3,v4⟩:=hrow j c hj
    exact ⟨v,by rw [qCq,Nat.zero_add];exact v1,v2,v3.mono hle⟩
   ·have hjl:j < cells.length:=by omega
    obtain ⟨v,v1,v2,v3,v4⟩:=hrow j cells[j] (by simp [hjl])
    exact ⟨⟨v,by rw [qCq,Nat.zero_add];exact v1⟩,by rw [qCq,Nat.zero_add];exact v4,himm _ (by rw [qDe])⟩
  ·rw [if_neg hij] at hj
   exact (hw.obj j o hj).keep hle (fun b hb=>⟨rfl,fun _ _=>rfl⟩) (fun n hn=>by rw [rtSet_ne (fun hc=>hij hc.1.symm)];exact hn) (fun hn=>hn)
 ·show RepA _ (bif Nat.beq s t then _ else look l s) _
  cases hb:Nat.beq s t with
  | false=>exact (hr s).mono hle
  | true =>
   obtain rfl:=Nat.eq_of_beq_eq_true hb
   rw [hv]
   exact .bm _ _ (rtSet_at _ _ _ _) (fun h=>by cases h)
theorem vFt {P:Program} {E:Env} {N:Nat} {Q:Exit→(Nat→AV)→List AObj→Prop} {c:Code} {l:List (Nat×AV)} {h h':List AObj} (t i sz:Nat) {n:Nat} {cells:List AV} (ht:look l t=.row i 0 n n) (hi:h[i]?=some (.row cells)) (hl:cells.length=n*sz)
  (hh:qGb (h.set i (.buf sz n cells)) some=some h') (hc:AW P E N c Q (look ((t,.bm i n)::l)) h'):AW P E N c Q (look l) h:=by
 rw [forceS_eq] at hh;cases hh
 exact qKy (vBj ht hi hl) hc
theorem setRun_skip:∀ (cs A R:List AV) (off:Nat),qBv (A++R) (A.length+off) cs=A++qBv R off cs
 | [],_,_,_=>rfl
 | c::cs,A,R,off=>by
  rw [qBv,qBv,List.set_append_right _ _ (by omega),show A.length+off-A.length=off by omega]
  have:=setRun_skip cs A (R.set off c) (off+1)
  rw [← Nat.add_assoc] at this
  exact this
theorem flatAV_setN {sz:Nat}:∀ {es:List (List Dat)} {k:Nat} {e:List Dat},(∀ x,x∈es→x.length=sz)→e.length=sz→k < es.length→qBv (qBi es) (k*sz) (e.map .d)=qBi (es.set k e)
 | [],k,e,_,_,h=>by simp at h
 | a::l,0,e,hs,he,_=>by
  have ha:=hs a (by simp)
  show qBv ((a++l.flatten).map AV.d) (0*sz) _=((e++l.flatten).map AV.d)
  rw [List.map_append,List.map_append,Nat.zero_mul]
  exact setRun_head (by simp [ha,he])
 | a::l,k+1,e,hs,he,h=>by
  have ha:=hs a (by simp)
  have ih:=flatAV_setN (es:=l) (k:=k) (e:=e) (fun x hx=>hs x (by simp [hx])) he (by simpa using h)
  show qBv ((a++l.flatten).map AV.d) ((k+1)*sz) _=((a++(l.set k e).flatten).map AV.d)
  rw [List.map_append,List.map_append,show (k+1)*sz=(a.map AV.d).length+k*sz by rw [Nat.succ_mul,List.length_map,ha];omega,setRun_skip]
  unfold qBi at ih
  rw [ih]
section
variable {P:Program} {T:Tr} {E:Env} {o:Oper} {ρ:Operand→AV} {h h':List AObj}
theorem qUk (hT:TOk P T) {t i n off sz:Nat} {ti:TI} {x y:Operand} {cells cs:List AV} {vy:AV} (ho:o.op=.store t x y) (hx:ρ x=.bp i n off) (hyv:ρ y=vy) (hcs:cellsA vy=some cs) (hi:h[i]?=some (.buf sz n cells)) (hf:T.find t=some ti)
  (hlen:Nat.beq cs.length ti.size=true) (hpos:0 < cs.length) (hlt:off+cs.length≤cells.length) (hh:h.set i (.buf sz n (qBv cells off cs))=h'):OpS P E o ρ h .any h':=by
 subst hyv;subst hh
 exact qHn fun G e w hw hr=>by
  have hx':RepA G (ρ x) (e x):=hr x (by simp [ho,Op.operands])
  have hy':RepA G (ρ y) (e y):=hr y (by simp [ho,Op.operands])
  rw [hx] at hx'
  obtain ⟨p,cap,hp,hl⟩:=hx'.bp_inv
  obtain ⟨a',cap',hl',hlater,hb1,hb2,hb3,hb4⟩:=hw.obj i _ hi
  rw [hl] at hl';cases hl'
  have hcap:0 < cap:=by
   rcases Nat.eq_zero_or_pos cap with h0 | h0
   ·have:n=0:=by omega
    subst this;rw [Nat.zero_mul] at hb1;omega
   ·exact h0
  obtain ⟨q1,q2,q3,q4⟩:=hb4 p rfl hcap
  have hcs':n*sz≤cap*sz:=Nat.mul_le_mul_right _ hb2
  obtain ⟨c1,c2⟩:=cellsA_ok hy' hcs
  have hti:=hT.at hf
  have hl2:=Nat.eq_of_beq_eq_true hlen
  have hspot:(p.add off).spot=none:=qGe p q1 _
  have hadd:∀ k,(p.add off).add (0+k)=p.add (off+k):=fun k=>by rw [Nat.zero_add,qEo p q1]
  have hnl:(e y).cells.toList.length=cs.length:=by simp [c1]
  obtain ⟨w',r1,r2,r3,r4,r5,r6,r7,r8,r9⟩:=qFr (P:=P) hspot (e y).cells.toList 0 w (fun k u hk=>by
    have hkl:k < cs.length:=by rw [← hnl];exact (List.getElem?_eq_some_iff.1 hk).1
    exact (c2 k _ u (List.getElem?_eq_getElem hkl) (by simpa using hk)).2) (fun k hk=>by
    obtain ⟨d1,d2,_⟩:=q4 (off+k) (by omega)
    rw [hadd]
    exact ⟨d1,d2⟩)
  have hne:∀ j,(∀ k,k < cs.length→j≠off+k)→w'.cell? (p.add j)=w.cell? (p.add j):=fun j hj=>r3 _ (fun k hk hh=>by
   rw [hadd,qDh p q1,qDh p q1] at hh
   injection hh with _ h5 _
   exact hj k (by omega) (by omega))
  refine ⟨w',G,?_,.refl G,hw.bufAt (bl:=p.block) hi (.refl G) (fun _=>rfl) (fun _=>rfl) (fun _=>rfl) (fun _ _ _=>rfl) q2 (fun a u hu=>?_) (fun k hk=>r5 k (by rw [qDe];exact hk)) r6 r7 r8 r9 ?_⟩
  ·unfold execOp
   have hsz':(e y).cells.size=ti.size:=by rw [c1,hl2]
   simp [ho,Instr.storeAt,hp,Instr.sureAddr,storeVar,hti.run_size,hsz',r1]
  ·rw [r3 a (fun k hk hh=>?_)]
   ·exact hw.imm a u hu
   ·rw [hadd] at hh
    have:=(q4 (off+k) (by omega)).2.2
    rw [← hh,hu] at this;cases this
  ·refine ⟨some p,cap,hl,hlater,by rw [setRun_length];exact hb1,hb2,hb3,fun p' hp' _=>?_⟩
   cases hp'
   refine ⟨q1,q2,fun j c hj=>?_,fun j hj=>?_⟩
   ·rw [setRun_at _ _ _ _ hlt] at hj
    by_cases hjo:off≤j∧j < off+cs.length
    ·rw [if_pos hjo] at hj
     have hkl:j-off < (e y).cells.toList.length:=by omega
     have hg:=List.getElem?_eq_getElem hkl
     have:=r2 (j-off) _ hg
     rw [hadd,show off+(j-off)=j by omega] at this
     have hc:=c2 (j-off) c _ hj (by rw [← Array.getElem?_toList];exact hg)
     exact ⟨_,this,hc.2,hc.1⟩
    ·rw [if_neg hjo] at hj
     obtain ⟨u,u1,u2,u3⟩:=q3 j c hj
     exact ⟨u,by rw [hne j (fun k hk=>by omega)];exact u1,u2,u3⟩
   ·obtain ⟨⟨u,d1⟩,d2,d3⟩:=q4 j hj
    refine ⟨?_,by rw [r4];exact d2,d3⟩
    by_cases hjo:off≤j∧j < off+cs.length
    ·have hkl:j-off < (e y).cells.toList.length:=by omega
     have:=r2 (j-off) _ (List.getElem?_eq_getElem hkl)
     rw [hadd,show off+(j-off)=j by omega] at this
     exact ⟨_,this⟩
    ·exact ⟨u,by rw [hne j (fun k hk=>by omega)];exact d1⟩
end
variable {P:Program} {E:Env} {T:Tr} {o:Oper} {ρ:Operand→AV} {h:List AObj}
theorem qSa (hT:TOk P T) {t i n off sz:Nat} {ti:TI} {x:Operand} {cells cs:List AV} (ho:o.op=.load t x) (hx:ρ x=.bp i n off) (hi:h[i]?=some (.buf sz n cells)) (hf:T.find t=some ti) (ha:ti.agg=true)
  (hpos:0 < ti.size) (hle:off+ti.size≤cells.length) (hcs:(cells.drop off).take ti.size=cs):OpS P E o ρ h (.agg cs) h:=by
 subst hcs
 exact qBf fun G e w hw hr=>by
  have hx':RepA G (ρ x) (e x):=hr x (by simp [ho,Op.operands])
  rw [hx] at hx'
  obtain ⟨p,cap,hp,hl⟩:=hx'.bp_inv
  obtain ⟨a',cap',hl',_,hb1,hb2,hb3,hb4⟩:=hw.obj i _ hi
  rw [hl] at hl';cases hl'
  have hcap:0 < cap:=by
   rcases Nat.eq_zero_or_pos cap with h0 | h0
   ·have:n=0:=by omega
    subst this;simp at hb1;rw [hb1] at hle;simp at hle;omega
   ·exact h0
  obtain ⟨q1,q2,q3,q4⟩:=hb4 p rfl hcap
  have hti:=hT.at hf
  have hcell:∀ j,j < ti.size→∃ u,w.cell? (p.add (off+j))=some u∧qIw u=true∧RepA G (cells[off+j]?.getD .any) u:=by
   intro j hj
   have hc:cells[off+j]?=some cells[off+j]:=by simp [show off+j < cells.length by omega]
   obtain ⟨u,h1,h2,h3⟩:=q3 _ _ hc
   exact ⟨u,h1,h2,by rw [hc];exact h3⟩
  let f:Nat→Value:=fun j=>(w.cell? (p.add (off+j))).getD undef
  have hld:(loadCells (p.add off) ti.size).run P w=.ok ((List.range ti.size).map f).toArray w:=by
   refine run_loadCells (P:=P) w _ _ f (fun j hj=>?_)
   obtain ⟨u,h1,_⟩:=hcell j hj
   rw [qEo p q1];simp [f,h1]
  refine ⟨.agg ((List.range ti.size).map f).toArray,w,G,?_,.refl G,hw,.agg _ (by simp;omega) (fun j c y hc hy=>?_) (fun j y hy=>?_)⟩
  ·unfold execOp
   simp [ho,Instr.loadAt,hp,Instr.sureAddr,loadVar,hti.run_agg,ha,hti.run_size,hld]
  ·simp only [List.getElem?_take,List.getElem?_drop] at hc
   split at hc
   ·rename_i hj
    obtain ⟨u,h1,h2,h3⟩:=hcell j hj
    simp [hj,f,h1] at hy
    subst hy
    rw [hc] at h3;exact h3
   ·cases hc
  ·by_cases hj:j < ti.size
   ·obtain ⟨u,h1,h2,h3⟩:=hcell j hj
    simp [hj,f,h1] at hy
    subst hy;exact h2
   ·simp [hj] at hy
end Tdoc
namespace Tdoc
open Go
section
variable {P:Program} {E:Env} {T:Tr} {o:Oper} {ρ:Operand→AV} {h:List AObj}
theorem makeDat_ok (hT:TOk P T) {t by_:Nat} {z:Dat} {x y:Operand} {k k':IntKind} {n:Nat} (ho:o.op=.makeSlice t x y) (he:vAx T t=some (1,by_,[.d z])) (hx:ρ x=.d (.int k (n:Int))) (hy:ρ y=.d (.int k' (n:Int)))
  (hb:by_*n≤281474976710656) (h63:n≤9223372036854775807) :
  OpS P E o ρ h (.d (.sl 1 (List.replicate n [z]))) h :=
 qBf fun G e w hw hr=>by
  have hx':RepA G (ρ x) (e x):=hr x (by simp [ho,Op.operands])
  have hy':RepA G (ρ y) (e y):=hr y (by simp [ho,Op.operands])
  rw [hx] at hx';rw [hy] at hy'
  obtain ⟨et,ie,h1,h2,h3,h4,h5,h6⟩:=elemT_ok hT he
  obtain ⟨info,g1,g2,g3,zv,g4,g5⟩:=h2.info
  obtain ⟨hl,hc⟩:=zrepL_ok g5
  have hzs:zv.cells.size=1:=by
   have:zv.cells.toList.length=ie.zero.length:=hl.symm▸rfl
   simp only [Array.length_toList] at this
   rw [this,h5,h6]
  have hbb:(info.bytes:Int)*(n:Int)≤281474976710656:=by
   have:info.bytes*n≤281474976710656:=by rw [g3,h4];exact hb
   have h9:((info.bytes*n:Nat):Int)≤281474976710656:=by omega
   rwa [Int.natCast_mul] at h9
  have hrun:=run_make (P:=P) w t et info zv h1 g1 g4 k k' (n:Int) (n:Int) (by omega) (Int.le_refl _) hbb (by omega)
  simp only [Int.toNat_natCast] at hrun
  have hinfo:info.size=1:=by rw [g2,h3]
  have hz0:RepD G.imm z (zv.cells[0]'(by omega)):=by
   have:=(hc G 0 (.d z) (zv.cells[0]'(by omega)) (by rw [h5];rfl) (by simp [hzs])).1
   cases this with
   | d r=>exact r
  have hle:=immExt_le hw n (madeCells zv.cells (n*info.size))
  have hnew:=hw.newImm n (madeCells zv.cells (n*info.size)) et { w with heap:=w.heap.push (.cells (madeCells zv.cells (n*info.size)) et) } rfl rfl rfl rfl
  refine ⟨.slice (some ⟨w.heap.size,0,none⟩) n n,_,_,?_,hle,hnew,.d ?_⟩
  ·unfold execOp
   simp only [ho,hx'.int_inv,hy'.int_inv,Sem.run_bind,hrun,Result.andThen_ok]
   rfl
  ·have hlen:(List.replicate n [z]).length=n:=by simp
   conv=>rhs;rw [← hlen]
   refine newImm_rep (n:=n) (fun el hel=>?_) (by simp) _ (Nat.le_refl _) (fun i el j d he hd=>?_)
   ·rw [List.eq_of_mem_replicate hel];rfl
   ·have hi:=(List.getElem?_eq_some_iff.1 he).1
    rw [List.length_replicate] at hi
    rw [List.getElem?_replicate,if_pos hi] at he
    cases he
    cases j with
    | succ j=>simp at hd
    | zero =>
     simp at hd
     subst hd
     refine ⟨zv.cells[0]'(by omega),?_,hz0.mono hle.imm⟩
     simp only [madeCells,hinfo,hzs,Nat.mul_one,Nat.add_zero,Nat.mod_one,Array.getElem?_map]
     simp [hi]
     rw [getElem!_pos zv.cells 0 (by omega)]
end
section
variable {P:Program} {E:Env} {T:Tr} {o:Oper} {ρ:Operand→AV} {h h':List AObj} {v:AV}
def qYj (T:Tr) (t len:Nat) (parts:List (Nat×AV)):Option (List AV):=match T.find t with
 | some i=>match i.kind with
  | .slice el=>match T.find el with
   | some ie=>match Nat.blt 0 ie.size&&Nat.beq ie.zero.length ie.size&&Nat.blt 0 len&&Nat.ble (len*ie.size) 16777216 with
    | true=>qRn (fun i=>some (i*ie.size,ie.size)) ((List.range (len*ie.size)).map fun k=>(ie.zero[k % ie.size]?).getD .any) parts
    | false=>none
   | none=>none
  | _=>none
 | none=>none
theorem buildRow_run (hT:TOk P T) {t len i0:Nat} {parts:Array (Nat×Operand)} {cells:List AV} (ho:o.op=.buildSlice t len parts) (hv:qYj T t len (parts.toList.map fun x=>(x.1,ρ x.2))=some cells) (hroom:h[i0]?=some .room)
  (G:Gh) (e:Operand→Value) (w:World) (hw:WRel E G h w) (hr:∀ x,x∈o.op.operands.toList→RepA G (ρ x) (e x)) :
  ∃ el vs',(execOp e o).run P w=.ok (.value (.slice (some ⟨w.heap.size,0,none⟩) len len)) (w.alloc (.cells vs' el))∧G.le (qEi G i0 w.heap.size)∧WRel E (qEi G i0 w.heap.size) (h.set i0 (.row cells)) (w.alloc (.cells vs' el)) ∧
   vs'.size=cells.length∧∀ (j:Nat) (c:AV) (u:Value),cells[j]?=some c→vs'[j]?=some u→RepA G c u∧qIw u=true:=by
  have hp:∀ x,x∈parts.toList→RepA G (ρ x.2) (e x.2):=fun x hx=>hr x.2 (by
   simp only [ho,Op.operands]
   exact List.mem_map_of_mem hx)
  unfold qYj at hv
  split at hv
  ·rename_i i hf
   split at hv
   ·rename_i el hk
    obtain ⟨d,hd,hkd⟩:=(hT.at hf).und
    rw [hk] at hkd
    cases d <;> simp [qEe] at hkd
    subst hkd
    split at hv
    ·rename_i ie hfe
     obtain ⟨einfo,heinfo,hesz,heb,z,hz,hzc⟩:=(hT.at hfe).info
     split at hv
     ·rename_i hb
      simp only [Bool.and_eq_true] at hb
      have hpos:0 < ie.size:=by have:=hb.1.1.1;(simp [Nat.blt] at this;omega)
      have hzlen:=Nat.eq_of_beq_eq_true hb.1.1.2
      have hlen:0 < len:=by have:=hb.1.2;(simp [Nat.blt] at this;omega)
      have hsmall:=Nat.le_of_ble_eq_true hb.2
      obtain ⟨zl,zr⟩:=zrepL_ok hzc
      simp only [Array.length_toList] at zl
      let base:List AV:=(List.range (len*ie.size)).map fun k=>(ie.zero[k % ie.size]?).getD .any
      let basev:Array Value:=(Array.range (len*ie.size)).map (z.cells[· % z.cells.size]!)
      have hbase:CellsRep G base basev:=by
       refine ⟨by simp [base,basev],fun j c u hc hu=>?_⟩
       have hj:j < len*ie.size:=by have:=(List.getElem?_eq_some_iff.1 hc).1;simpa [base] using this
       have hm:j % ie.size < ie.size:=Nat.mod_lt _ hpos
       have hm2:j % ie.size < z.cells.size:=by omega
       simp [base,hj] at hc
       simp [basev,hj] at hu
       subst hc;subst hu
       rw [← zl,hzlen]
       have h1:ie.zero[j % ie.size]?=some ie.zero[j % ie.size]:=by simp [hzlen,hm]
       rw [h1]
       simp only [Option.getD_some]
       have h2:z.cells[j % ie.size]! = z.cells[j % ie.size]:=by simp [hm2]
       rw [h2]
       exact zr G _ _ _ h1 (by simp [hm2])
      obtain ⟨vs',v1,v2⟩:=fillA_ok (e:=e) parts.toList _ _ _ hbase hp hv
      have hn:=hw.newRowAt hroom vs' el cells v2.1 (fun j c u h1 h2=>v2.2 j c u h1 h2) (w.alloc (.cells vs' el)) rfl rfl rfl rfl
      refine ⟨el,vs',?_,hn.1,hn.2,v2.1,v2.2⟩
      have h0:len*ie.size≠0:=by
       have:=Nat.mul_pos hlen hpos
       omega
      unfold execOp
      simp only [ho,Sem.run_bind]
      rw [run_buildSlice w t el len _ vs' einfo z hd heinfo hz (by rw [hesz];omega) (by rw [hesz];exact h0) (by rw [hesz];simpa using v1)]
      rfl
     ·cases hv
    ·cases hv
   ·cases hv
  ·cases hv
theorem buildRowAt_ok (hT:TOk P T) {t len i0:Nat} {parts:Array (Nat×Operand)} {cells:List AV} (ho:o.op=.buildSlice t len parts) (hv:qYj T t len (parts.toList.map fun x=>(x.1,ρ x.2))=some cells) (hroom:h[i0]?=some .room) :
  OpS P E o ρ h (.row i0 0 len len) (h.set i0 (.row cells)) :=
 qBf fun G e w hw hr=>by
  obtain ⟨el,vs',h1,h2,h3,_,_⟩:=buildRow_run hT ho hv hroom G e w hw hr
  exact ⟨_,_,_,h1,h2,h3,.row 0 _ _ (by show (if i0=i0 then _ else _)=_;simp)⟩
theorem vJj {G:Gh} {w:World} {i b off n cap sz:Nat} {cells:List AV} (hrow:RowAt G w b cells) (hle:off+n*sz≤cells.length) :
  Src P w (.slice (some ⟨b,off,none⟩) n cap) n sz ((List.range (n*sz)).map fun j=>(w.cell? ⟨b,off+j,none⟩).getD undef):=fun w' hw'=>by
 have hcell:∀ k,k < n*sz→w.cell? ⟨b,off+k,none⟩=some ((w.cell? ⟨b,off+k,none⟩).getD undef):=by
  intro k hk
  have hget:cells[off+k]?=some cells[off+k]:=by simp [show off+k < cells.length by omega]
  obtain ⟨y,y1,_⟩:=hrow _ _ hget
  rw [y1];rfl
 refine ⟨rfl,?_⟩
 simp only [Builtin.firstCells]
 exact run_loadCells (P:=P) w' ⟨b,off,none⟩ _ _ (fun k hk=>by rw [cell?_heap hw',qCq];exact hcell k hk)
end
end Tdoc
namespace Tdoc
open Go
section
variable {P:Program} {T:Tr} {E:Env} {o:Oper} {ρ:Operand→AV} {h:List AObj} {v:AV}
open Classical in
theorem bufApp0G_ok (hT:TOk P T) {t t2 sz by_ i m:Nat} {s x:Operand} {cs2:List AV} (ho:o.op=.call { callee:=.builtin .append,args:=#[s,x],argTypes:=#[t,t2] })
  (ht:qSg T t=some (sz,by_)) (ht2:qVu T t2=true) (hs:ρ s=.sl sz [] .full∨ρ s=.nils) (hsx:s≠x) (hi:h[i]?=some .room) (hl2:cs2.length=m*sz)
  (hsrc:∀ (G:Gh) (xv:Value) (w:World),WRel E G (h.set i (.buf sz 0 [])) w→RepA G (ρ x) xv→∃ news,Src P w xv m sz news∧news.length=m*sz∧(∀ (k:Nat) (u:Value),news[k]?=some u→qIw u=true)∧∀ (j:Nat) (c:AV),cs2[j]?=some c→∃ u,news[j]?=some u∧RepA G c u) (hb:m*(by_+1)≤140737488355328) :
  OpS P E o ρ h (.bm i m) (h.set i (.buf sz m cs2)):=by
 intro G a w hw hr
 have hs':RepA G (ρ s) (a.eval s):=hr s (by simp [ho,Op.operands,Call.operands])
 obtain ⟨p,hv',hsp⟩:∃ p:Option Addr,a.eval s=.slice p 0 0∧∀ q,p=some q→q.spot=none:=by
  rcases hs with ht | ht
  ·rw [ht] at hs'
   generalize a.eval s=u at hs'
   cases hs' with
   | sl r k =>
    obtain ⟨p,rfl⟩:=k
    obtain ⟨a',cap',h5,h6,h7⟩:=r.slice_inv
    cases h5
    exact ⟨p,rfl,fun q hq=>(h7 q hq).1⟩
  ·rw [ht] at hs'
   generalize a.eval s=u at hs'
   cases hs';exact ⟨none,rfl,fun q hq=>by cases hq⟩
 have hrm:=hw.obj i _ hi
 have hilt:i < h.length:=(List.getElem?_eq_some_iff.1 hi).1
 have hle:=rtSet_le (G:=G) (i:=i) (n:=0) (x:=(p,0)) (hrm.2 0)
 have hw1:WRel E (qMf G i 0 (p,0)) (h.set i (.buf sz 0 [])) w:=by
  refine ⟨hw.le.trans hle,hw.imm,hw.immNew,hw.keep,hw.size,hw.os,hw.tape,hw.output,hw.own,fun j hj=>?_,fun j o hj=>?_⟩
  ·simp only [List.length_set] at hj
   have:=hw.fresh j hj
   exact ⟨this.1,fun n=>by rw [rtSet_ne (by omega)];exact this.2 n⟩
  ·rw [List.getElem?_set] at hj
   by_cases hij:i=j
   ·subst hij
    simp only [if_true,hilt] at hj
    cases hj
    exact ⟨p,0,rtSet_at _ _ _ _,fun n' hn'=>by rw [rtSet_ne (by omega)];exact hrm.2 n',by simp,Nat.le_refl _,⟨fun _=>rfl,hsp⟩,fun _ _ hc=>by omega⟩
   ·rw [if_neg hij] at hj
    exact (hw.obj j o hj).keep hle (fun b hb=>⟨rfl,fun _ _=>rfl⟩) (fun n hn=>by rw [rtSet_ne (fun hc=>hij hc.1.symm)];exact hn) (fun hn=>hn)
 have hstep:=bufAppG_ok (P:=P) (E:=E) (T:=T) (o:=o) (ρ:=fun y=>if y=s then .bm i 0 else ρ y) (h:=h.set i (.buf sz 0 [])) (i:=i) (n:=0) (cells:=[]) hT ho ht ht2 (if_pos rfl) (by simp [hilt])
  hl2 (by show ∀ G xv w,_→RepA G (if x=s then _ else ρ x) xv→_;rw [if_neg (fun hh=>hsx hh.symm)];exact hsrc) (by simpa using hb)
 have:=hstep (qMf G i 0 (p,0)) a w hw1 (fun y hy=>by
  show RepA _ (if y=s then _ else ρ y) _
  split
  ·rename_i e;subst e;rw [hv'];exact .bm _ _ (rtSet_at _ _ _ _) (fun _=>rfl)
  ·exact (hr y hy).mono hle)
 refine qFl ?_ this
 rintro a' w' ⟨u,G',k1,k2,k3,k4⟩
 refine ⟨u,G',k1,hle.trans k2,?_,by simpa using k4⟩
 rw [List.set_set] at k3
 simpa using k3
end
end Tdoc
namespace Tdoc
open Go
section
variable {P:Program} {E:Env} {T:Tr} {o:Oper} {ρ:Operand→AV} {h:List AObj}
end
theorem WRel.reObj {E:Env} {G:Gh} {h:List AObj} {w:World} {i:Nat} {ob ob':AObj} (hw:WRel E G h w) (hi:h[i]?=some ob) (hr:ObjRel G w i ob→ObjRel G w i ob'):WRel E G (h.set i ob') w:=by
 refine ⟨hw.le,hw.imm,hw.immNew,hw.keep,hw.size,hw.os,hw.tape,hw.output,hw.own,fun j hj=>hw.fresh j (by simpa using hj),fun j o hj=>?_⟩
 rw [List.getElem?_set] at hj
 split at hj
 ·rename_i e
  subst e
  split at hj
  ·cases hj;exact hr (hw.obj i ob hi)
  ·cases hj
 ·exact hw.obj j o hj
def cbR (s:List UInt8) (f:Nat→Option Obj) (b:Nat) (S:List Nat):Prop :=
 S=[b]∧∃ (vs:Array Value) (el:TypeId),f b=some (.cells vs el)∧vs.size=s.length∧∀ (j:Nat) (c:UInt8),s[j]?=some c→vs[j]?=some (.int .u8 (c.toNat:Int))
section
variable {P:Program} {E:Env} {T:Tr} {o:Oper} {ρ:Operand→AV} {h h':List AObj} {v:AV}
theorem buildCB_ok (hT:TOk P T) {t len i0:Nat} {parts:Array (Nat×Operand)} {s:List UInt8} (ho:o.op=.buildSlice t len parts) (hv:qYj T t len (parts.toList.map fun x=>(x.1,ρ x.2))=some (qAn s)) (hroom:h[i0]?=some .room) :
  OpS P E o ρ h (.row i0 0 len len) (h.set i0 (.opq (cbR s))):=by
 have hset:(h.set i0 (.row (qAn s))).set i0 (.opq (cbR s))=h.set i0 (.opq (cbR s)):=List.set_set ..
 refine qBf fun G e w hw hr=>?_
 obtain ⟨el,vs',hrun,hle,hw1,v1,v2⟩:=buildRow_run hT ho hv hroom G e w hw hr
 refine ⟨_,_,_,hrun,hle,?_,.row 0 _ _ (by show (if i0=i0 then _ else _)=_;simp)⟩
 rw [← hset]
 have hlt:i0 < h.length:=(List.getElem?_eq_some_iff.1 hroom).1
 refine hw1.reObj (ob:=.row (qAn s)) (by simp [hlt]) fun hob=>?_
 obtain ⟨b,h1,h2,h3,h4,h5⟩:=hob
 have hb:b=w.heap.size:=by
  have h1':(if i0=i0 then some w.heap.size else _)=some b:=h1
  simp at h1'
  exact h1'.symm
 subst hb
 refine ⟨w.heap.size,[w.heap.size],h1,List.mem_singleton.2 rfl,h5,fun k hk=>?_,⟨rfl,vs',el,?_,?_,fun j c hc=>?_⟩,fun f g hfg hR=>?_⟩
 ·rw [List.mem_singleton] at hk
  subst hk
  exact ⟨h2,h4⟩
 ·show (w.heap.push _)[w.heap.size]?=_
  exact Array.getElem?_push_size
 ·rw [v1];simp [qAn]
 ·have hcell:(qAn s)[j]?=some (.d (.int .u8 (c.toNat:Int))):=by simp [qAn,hc]
  have hj:j < vs'.size:=by rw [v1];exact (List.getElem?_eq_some_iff.1 hcell).1
  have hu:vs'[j]?=some vs'[j]:=by simp [hj]
  have:=(v2 j _ _ hcell hu).1.int_inv
  rw [hu,this]
 ·obtain ⟨r1,vs2,el2,r2,r3⟩:=hR
  exact ⟨r1,vs2,el2,by rw [← hfg w.heap.size (List.mem_singleton.2 rfl)];exact r2,r3⟩
theorem markCB_ok (hT:TOk P T) {t i0 n:Nat} {x:Operand} {s:List UInt8} (ho:o.op=.convert t t x) (hb:qCl T t=true) (hx:ρ x=.row i0 0 n n) (hi:h[i0]?=some (.opq (cbR s))) (hn:s.length=n) :
  OpS P E o ρ h (.sl 1 (s.map fun c=>[.int .u8 (c.toNat:Int)]) .full) (h.set i0 .dead):=by
 refine qBf fun G e w hw hr=>?_
 have hx':RepA G (ρ x) (e x):=hr x (by simp [ho,Op.operands])
 rw [hx] at hx'
 obtain ⟨b,hv,hlc⟩:=hx'.row_inv
 obtain ⟨b',S,k1,k2,k3,k4,⟨k5,vs,el,k6,k7,k8⟩,_⟩:=hw.obj i0 _ hi
 rw [hlc] at k1
 cases k1
 obtain ⟨kown,kimm⟩:=k4 b k2
 have k6:w.heap[b]?=some (.cells vs el):=k6
 obtain ⟨el',hel1,hel2⟩:=isByteSlice_ok hT hb
 have hbl:b < w.heap.size:=(hw.own b i0 kown).1
 have hsh:w.shape? b=some (el,vs.size):=by
  unfold World.shape?
  rw [k6]
 let w':World:=w.freeze ⟨b,vs.size,none⟩ 1
 have hheap:w'.heap=w.heap.modify b fun
   | .cells c elem (lo,hi)=>.cells c elem (if lo == hi then (vs.size,vs.size+1) else (min lo vs.size,max hi (vs.size+1)))
   | o=>o:=by
  show (w.freeze _ _).heap=_
  unfold World.freeze
  rw [if_neg (by decide)]
  rfl
 have hat:w'.heap[b]?=some (.cells vs el (vs.size,vs.size+1)):=by
  rw [hheap,Array.getElem?_modify]
  simp [k6]
 have hne:∀ k,k≠b→w'.heap[k]?=w.heap[k]?:=fun k hk=>by
  rw [hheap,Array.getElem?_modify,if_neg (fun hh=>hk hh.symm)]
 have hsz:w'.heap.size=w.heap.size:=by rw [hheap];simp
 have hfr:w'.os=w.os∧w'.tape=w.tape∧w'.output=w.output:=by
  show (w.freeze _ _).os=_∧(w.freeze _ _).tape=_∧(w.freeze _ _).output=_
  unfold World.freeze
  rw [if_neg (by decide)]
  exact ⟨rfl,rfl,rfl⟩
 have hcell:∀ a:Addr,a.block=b→w'.cell? a=w.cell? a:=fun a ha=>by
  have h1:w'.heap[a.block]?=some (.cells vs el (vs.size,vs.size+1)):=by rw [ha];exact hat
  have h2:w.heap[a.block]?=some (.cells vs el):=by rw [ha];exact k6
  simp only [World.cell?,h1,h2]
 have hrun:(execOp e o).run P w=.ok (.value (.slice (some ⟨b,0,none⟩) n n)) w':=by
  unfold execOp
  simp only [ho,Sem.run_bind]
  simp [hv,convert,run_underlying hel1,run_underlying hel2,markStringish,hsh]
  rfl
 have hle:G.le (qJm G b n vs):=by
  refine ⟨fun a u ha=>?_,fun _ _ x=>x,fun _ _ _ x=>x,fun _ _ x=>x⟩
  show (if a.block=b then _ else G.imm a)=some u
  rw [if_neg (fun hh=>by rw [kimm a hh] at ha;cases ha)]
  exact ha
 have hrd:∀ (j:Nat) (c:UInt8),s[j]?=some c→(qJm G b n vs).imm ((⟨b,0,none⟩:Addr).add j)=some (.int .u8 (c.toNat:Int)):=fun j c hc=>by
  rw [qCq,Nat.zero_add]
  show (if b=b then (if (none:Option Nat)=none∧j < n then vs[j]? else none) else _)=_
  have hj:j < n:=by rw [← hn];exact (List.getElem?_eq_some_iff.1 hc).1
  simp [hj,k8 j c hc]
 refine ⟨_,w',qJm G b n vs,hrun,hle,?_,.sl ?_ ?_⟩
 ·have hNK:¬ E.K b:=(hw.own b i0 kown).2
  refine ⟨hw.le.trans hle,fun a u ha=>?_,fun a u ha=>?_,fun k hk=>?_,by rw [hsz];exact hw.size,hfr.1.trans hw.os,hfr.2.1.trans hw.tape,hfr.2.2.trans hw.output,fun k i hk=>by rw [hsz];exact hw.own k i hk,fun j hj=>hw.fresh j (by simpa using hj),fun j ob hj=>?_⟩
  ·have ha':(if a.block=b then (if a.spot=none∧a.off < n then vs[a.off]? else none) else G.imm a)=some u:=ha
   split at ha'
   ·rename_i hab
    split at ha'
    ·rename_i hs
     rw [hcell a hab]
     have h2:w.heap[a.block]?=some (.cells vs el):=by rw [hab];exact k6
     simp only [World.cell?,h2,hs.1]
     simpa using ha'
    ·cases ha'
   ·rename_i hab
    rw [World.cell?_of_block (w:=w) (hne _ hab)]
    exact hw.imm a u ha'
  ·have ha':(if a.block=b then (if a.spot=none∧a.off < n then vs[a.off]? else none) else G.imm a)=some u:=ha
   split at ha'
   ·rename_i hab;right;rw [hab];exact hNK
   ·exact hw.immNew a u ha'
  ·rw [hne k (fun hh=>hNK (hh▸hk))]
   exact hw.keep k hk
  ·rw [List.getElem?_set] at hj
   split at hj
   ·rename_i e
    subst e
    split at hj
    ·cases hj;trivial
    ·cases hj
   ·rename_i hij
    refine (hw.obj j ob hj).keep hle (fun k hk=>?_) (fun m hm=>hm) (fun hm=>hm)
    have hkb:k≠b:=fun hh=>by rw [hh,kown] at hk;cases hk;exact hij rfl
    refine ⟨hne k hkb,fun a ha=>?_⟩
    show (if a.block=b then _ else G.imm a)=G.imm a
    rw [if_neg (by rw [ha];exact hkb)]
 ·have hl:n=(s.map fun c=>[Dat.int .u8 (c.toNat:Int)]).length:=by simp [hn]
  rw [hl]
  refine .sl 1 _ ⟨b,0,none⟩ _ (fun j=>vs.getD j undef) rfl (Nat.le_refl _) (fun e he=>?_) (fun i e j d he hd=>?_) (fun i e j d he hd=>?_)
  ·obtain ⟨c,_,rfl⟩:=List.mem_map.1 he
   rfl
  ·simp only [List.getElem?_map,Option.map_eq_some_iff] at he
   obtain ⟨c,hc,rfl⟩:=he
   cases j with
   | succ j=>simp at hd
   | zero =>
    rw [← hl,Nat.mul_one,Nat.add_zero,hrd i c hc]
    simp [Array.getD_eq_getD_getElem?,k8 i c hc]
  ·simp only [List.getElem?_map,Option.map_eq_some_iff] at he
   obtain ⟨c,hc,rfl⟩:=he
   cases j with
   | succ j=>simp at hd
   | zero =>
    simp at hd
    subst hd
    rw [Nat.mul_one,Nat.add_zero]
    simp only [Array.getD_eq_getD_getElem?,k8 i c hc,Option.getD_some]
    exact .int _ _
 ·exact ⟨some ⟨b,0,none⟩,by simp [hn]⟩
end
end Tdoc
