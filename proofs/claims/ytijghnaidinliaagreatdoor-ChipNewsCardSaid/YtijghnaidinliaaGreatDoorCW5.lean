/- Part 5 of the proof: the texts R18 R19 R22 R37 R24 R34 R38 R32 R41 R20 R21 JQ R39 R43 R46 R25 R47 R26 R48 R10 R45 R33 R11 HL. -/
import Derived.Test.YtijghnaidinliaaGreatDoorCW4
import Derived.Scope
import Derived.MapKept
import Derived.Laws.IdiomRangeMap
import Derived.Deep.Slices
import Derived.Deep.Strs
import Derived.Deep.Fields
import Derived.Lib.SmallJoins
set_option linter.unusedSimpArgs false
set_option linter.unusedVariables false
set_option maxRecDepth 100000
namespace Tdoc
open Go
def shut:List Nat→World→World
 | [],w=>w
 | D::Ds,w=>shut Ds (w.putObj D (.deferred none))
theorem qHc {P:Program} {fn:Func} {tmps:Array Value} {R:Ending→World→Prop}:∀ (Ds:List Nat) (w:World),Ds.Nodup→(∀ D,D∈Ds→w.heap[D]?=some (.deferred (some []))) →
  (∃ v,(results fn tmps).run P (shut Ds w)=.ok v (shut Ds w)∧R (.returned v) (shut Ds w))→LeavesInM Fence.wide 0 P fn tmps R (marks Ds) .returning w
 | [],w,_,_,h=>h
 | D::Ds,w,hn,hd,h=>by
  obtain ⟨n1,n2⟩:=List.nodup_cons.1 hn
  refine ⟨by simp,.inl ⟨D,_,rfl,run_takeDeferred (hd D List.mem_cons_self),qHc Ds _ n2 (fun D' hD'=>?_) h⟩⟩
  have hne:D'≠D:=fun e=>n1 (by rw [← e];exact hD')
  rw [World.putObj_heap_other hne]
  exact hd D' (List.mem_cons_of_mem _ hD')
theorem qOn {E:Env} {G:Gh} {h:List AObj}:∀ (Ds:List Nat) (w:World),Ds.Nodup→(∀ D,D∈Ds→w.heap[D]?=some (.deferred (some []))∧G.own D=none∧¬ E.K D)→WRel E G h w→WRel E G h (shut Ds w)
 | [],w,_,_,hw=>hw
 | D::Ds,w,hn,hd,hw=>by
  obtain ⟨n1,n2⟩:=List.nodup_cons.1 hn
  obtain ⟨d1,d2,d3⟩:=hd D List.mem_cons_self
  refine qOn Ds _ n2 (fun D' hD'=>?_) (hw.pokeIn (.deferred none) d1 rfl d2 d3)
  obtain ⟨e1,e2,e3⟩:=hd D' (List.mem_cons_of_mem _ hD')
  have hne:D'≠D:=fun e=>n1 (by rw [← e];exact hD')
  exact ⟨by rw [World.putObj_heap_other hne];exact e1,e2,e3⟩
theorem qKx {P:Program} {T:Tr} (hT:TOk P T) {f:FuncId} {fn:Func} {c:Code} {rs:List ResultVar} {args:List AV} {h:List AObj} {Q:AV→List AObj→Prop} (hf:P.funcs[f]?=some fn) (hb:fn.body=some c)
  (hname:(fn.name == "runtime.NumGoroutine")=false) (hrs:fn.results=rs.toArray) (hn:Nat.ble args.length fn.ntmps=true)
  (H:∀ E:Env,E.below h.length→AWx P E fn.ntmps c (qVp T rs h.length Q) (look (pars args 0)) h):Spec P f args h Q:=by
 refine ⟨⟨fn,hf,hname,by rw [hb];rfl⟩,fun G w vals hvs hargs htab hw=>?_⟩
 have hbel:(⟨w,G,htab,[]⟩:Env).below h.length:=fun i hi=>hw.fresh i hi
 have hle:=Nat.le_of_ble_eq_true hn
 refine (callsIn_wide (n:=0)).1 (callsIn_of_wp_marks hf hb True.intro (wpIn_wide.2 (wp_mono (H ⟨w,G,htab,[]⟩ hbel _ w ⟨by simp;omega,rfl,G,hw,fun t=>qOr hvs hargs t⟩) ?_)))
 rintro e a' w' ⟨E2,hE,τ',h',hq,hr⟩
 have fin:(∃ v r h'',qRj T τ' h' rs=some v∧(∀ G x,RepA G v x→RepA G r x)∧h''=h'.take h.length∧h''.length=h.length∧low h.length r=true∧qDl h.length h''=true∧Q r h'') →
   LeavesInM Fence.wide 0 P fn a'.tmps (fun e w'=>∃ v r h' G',e=.returned v∧Q r h'∧h'.length=h.length∧low h.length r=true∧qDl h.length h'=true∧RepA G' r v∧WRel ⟨w,G,htab,[]⟩ G' h' w') a'.defers .returning w':=by
  rintro ⟨v,r,h'',q1,q2,q3,q4,q5,q6,q7⟩
  obtain ⟨r1,r2,G',hw2,ht⟩:=hr
  obtain ⟨Ds,d1,d2,d3⟩:=hE.defs
  rw [r2,d1]
  show LeavesInM Fence.wide 0 P fn a'.tmps _ (marks Ds++[]) .returning w'
  rw [List.append_nil]
  have hD:∀ D,D∈Ds→w'.heap[D]?=some (.deferred (some []))∧G'.own D=none∧¬ (⟨w,G,htab,[]⟩:Env).K D:=fun D hDm=>by
   obtain ⟨e1,e2,e3⟩:=d3 D hDm
   refine ⟨(hw2.keep D e2).trans e1,?_,e3⟩
   cases ho:G'.own D with
   | none=>rfl
   | some i=>exact absurd e2 (hw2.own D i ho).2
  have hw3:=qOn Ds w' d2 hD (hE.conv _ _ _ hw2)
  refine qHc Ds w' d2 (fun D hDm=>(hD D hDm).1) ?_
  obtain ⟨u,hu,hru⟩:=resA_run hT hw3 ht hrs q1
  refine ⟨u,hu,u,r,h'',qXj h.length G',rfl,q7,q4,q5,q6,(q2 _ _ hru).cut q5,hw3.cut hbel q4 (fun i hi=>?_) q6⟩
  rw [q3,List.getElem?_take,if_pos hi]
 cases e with
 | normal=>exact fin hq
 | ret=>exact fin hq
 | exit id=>exact hq.elim
 | goto l=>exact hq.elim
 | panic ch=>exact hq.elim
 | outgrown=>exact hq.elim
theorem RepD.cutC {m:Addr→Option Value} {sz:Nat} {es:List (List Dat)} {a:Option Addr} {len cap:Nat} (h:RepD m (.sl sz es) (.slice a len cap)) {l r:Nat} (hl:l≤r) (hr:r≤len) :
  RepD m (.sl sz ((es.drop l).take (r-l))) (.slice (if r=l then a else a.map (·.add (l*sz))) (r-l) (r-l)):=by
 cases h with
 | nil =>
  obtain rfl:r=0:=by omega
  obtain rfl:l=0:=by omega
  exact .nil sz
 | sl _ _ p _ vs h1 h2 h3 h4 h5 =>
  have hlen:((es.drop l).take (r-l)).length=r-l:=by simp;omega
  by_cases hc:r=l
  ·have:(es.drop l).take (r-l)=[]:=by
    apply List.eq_nil_of_length_eq_zero;rw [hlen];omega
   rw [if_pos hc,this]
   have h0:r-l=([]:List (List Dat)).length:=by simp;omega
   rw [h0]
   exact .sl sz [] p _ vs (fun hh=>absurd hh (by omega)) (by simp) (fun e he=>by cases he) (fun i e j d he=>by simp at he) (fun i e j d he=>by simp at he)
  ·have h1:=h1 (by omega)
   rw [if_neg hc]
   simp only [Option.map_some]
   rw [show r-l=((es.drop l).take (r-l)).length from hlen.symm]
   rw [show ((es.drop l).take ((es.drop l).take (r-l)).length)=(es.drop l).take (r-l) by rw [hlen]]
   refine .sl sz _ (p.add (l*sz)) _ (fun i=>vs (l*sz+i)) (fun _=>qDt p h1 _) (Nat.le_refl _) (fun e he=>h3 e (List.mem_of_mem_drop (List.mem_of_mem_take he))) (fun i e j d he hd=>?_) (fun i e j d he hd=>?_)
   ·simp only [List.getElem?_take,List.getElem?_drop] at he
    split at he
    ·rw [qCe p h1]
     have:=h4 (l+i) e j d he hd
     rwa [show (l+i)*sz+j=l*sz+(i*sz+j) by rw [Nat.add_mul];omega] at this
    ·cases he
   ·simp only [List.getElem?_take,List.getElem?_drop] at he
    split at he
    ·have:=h5 (l+i) e j d he hd
     rwa [show (l+i)*sz+j=l*sz+(i*sz+j) by rw [Nat.add_mul];omega] at this
    ·cases he
theorem qWr {P:Program} {T:Tr} {o:Oper} {ρ:Operand→AV} {v:AV} (hT:TOk P T) {t:Nat} {x lo hi mx:Operand} {sz:Nat} {es:List (List Dat)} {l r:Nat} {k1 k2 k3:IntKind} (ho:o.op=.slice t x (some lo) (some hi) (some mx)) (hs:qBy T t sz=true) (hx:ρ x=.d (.sl sz es))
  (hl:ρ lo=.d (.int k1 (l:Int))) (hr':ρ hi=.d (.int k2 (r:Int))) (hm:ρ mx=.d (.int k3 (r:Int))) (hb:l≤r∧r≤es.length) (hv:AV.d (.sl sz ((es.drop l).take (r-l)))=v):OpP P o ρ v:=by
 intro G e w hi' hr
 subst hv
 have hx':RepA G (ρ x) (e x):=hr x (by simp [ho,Op.operands])
 have h1:RepA G (ρ lo) (e lo):=hr lo (by simp [ho,Op.operands])
 have h2:RepA G (ρ hi) (e hi):=hr hi (by simp [ho,Op.operands])
 have h3:RepA G (ρ mx) (e mx):=hr mx (by simp [ho,Op.operands])
 rw [hx] at hx';rw [hl] at h1;rw [hr'] at h2;rw [hm] at h3
 have hxd:RepD G.imm (.sl sz es) (e x):=by cases hx' with | d r=>exact r
 obtain ⟨a,cap,hev,hnil,hsome⟩:=hxd.slice_inv
 have hcap:es.length≤cap:=by
  cases a with
  | none=>have:=hnil rfl;rw [this.1];exact Nat.zero_le _
  | some p=>exact (hsome p rfl).2.1
 rw [hev] at hxd
 have hcut:=hxd.cutC (l:=l) (r:=r) hb.1 hb.2
 obtain ⟨et,ie,g1,g2,g3⟩:=sliceElem_ok hT hs
 refine ⟨_,?_,.d hcut⟩
 unfold execOp
 simp only [ho,Sem.run_bind,Instr.sliceAt,Instr.slice,hev,h1.int_inv,h2.int_inv,h3.int_inv]
 simp [h1.int_inv,h2.int_inv,h3.int_inv,run_underlying g1,Instr.sliceBounds,g2.run_size,g3,qAv _ _ _ _ (show 0≤(r:Int)∧(r:Int)≤(cap:Int) by omega),qAv _ _ _ _ (show 0≤(r:Int)∧(r:Int)≤((r:Nat):Int) by omega),qAv _ _ _ _ (show 0≤(l:Int)∧(l:Int)≤((r:Nat):Int) by omega)]
theorem qRh {P:Program} {E:Env} {N:Nat} {g:Operand} {p:Tmp} {assign body:Code} {Q:Exit→(Nat→AV)→List AObj→Prop} {τ:Nat→AV} {h:List AObj} {gf:FuncId} {cap:List AV} {ok:List AObj→Prop} {xs:List AV}
  (Hs:Nat→List AObj) (hg:ev τ g=.fn (.func gf) [] cap) (hseq:SeqOk P gf cap ok xs) (h0:Hs 0=h) (hok:∀ k,ok (Hs k)) (hp:Nat.blt p N=true) (hlen:∀ k,(Hs k).length=h.length) (hlow:∀ k,qDl h.length (Hs k)=true)
  (T1:AV→Nat→AV) (hassign:∀ (k:Nat) (x:AV),xs[k]?=some x→∀ (E':Env) (l:Nat),AWF (Fence.wide.inRound l) P E' N assign (fun e τ' h'=>e=.normal∧τ'=T1 x∧h'=Hs k) (qJf τ (some p) x) (Hs k))
  (hround:∀ (k:Nat) (x:AV),xs[k]?=some x→∀ (E':Env) (l:Nat),E'.below h.length→AWF (Fence.wide.inRound l) P E' N body (fun e τ' h'=>e=.normal∧∃ junk,HLe h' (Hs (k+1)++junk)) (T1 x) (Hs k))
  (hpost:Q .normal τ (Hs xs.length)):AWx P E N (.rangeFunc g #[p] assign body) Q τ h:=by
 intro a w r
 obtain ⟨r1,r2,G,hw,ht⟩:=r
 have hgv:=qGg (E.tab.1.mono hw.le.imm) ht g
 rw [hg] at hgv
 generalize hge:a.eval g=gv at hgv
 cases hgv with
 | fn _ fvs cvs g1 g2 g3 g4 =>
 obtain rfl:fvs = #[]:=Array.eq_empty_of_size_eq_zero g1
 obtain ⟨fn0,k1,k2,k3⟩:=hseq.1
 have k2':¬ fn0.name = "runtime.NumGoroutine" := by simpa using k2
 have k3':¬ fn0.body=none:=by intro hh;rw [hh] at k3;cases k3
 refine (wpIn_wide (n:=0)).1 (wpIn_rangeFunc ?_)
 intro fn hfn
 obtain ⟨rec0,hrec⟩:∃ rec0:Loop,rec0={ state:=.ready,pending:=none,fn,tmps:=a.tmps,params:=#[p],assign,body,defers:=w.heap.size }:=⟨_,rfl⟩
 obtain ⟨w1,hW1⟩:∃ w1,(w.alloc (.deferred (some []))).alloc (.loop rec0)=w1:=⟨_,rfl⟩
 have hl:w1.heap[w.heap.size+1]?=some (.loop rec0):=by
  rw [← hW1];have:=World.alloc_heap_new (w.alloc (.deferred (some []))) (.loop rec0);rwa [World.size_alloc] at this
 have hD:w1.heap[w.heap.size]?=some (.deferred (some [])):=by
  rw [← hW1];show ((w.heap.push _).push _)[w.heap.size]?=_;simp [Array.getElem?_push]
 have hsz1:w1.heap.size=w.heap.size+2:=by rw [← hW1];simp
 have hw1:WRel E G h w1:=by
  rw [← hW1]
  exact qJz (qJz hw (qIz w _)) (qIz _ _)
 have hown:∀ b,w.heap.size≤b→G.own b=none:=fun b hb=>by
  cases ho:G.own b with
  | none=>rfl
  | some i=>have:=(hw.own b i ho).1;omega
 have hEl:∀ b,w.heap.size≤b→¬ E.K b:=fun b hb hk=>by have h1:=hk.1;have h2:=hw.size;omega
 have hne:∀ (b:Nat),w.heap.size≤b→∀ g p,qKg g=some p→g≠b:=fun b hb g p hgp hgb=>by
  obtain ⟨_,o,h2,_⟩:=E.tab.2 g p hgp
  have:=(Array.getElem?_eq_some_iff.1 h2).1
  have:=hw.size
  omega
 have htab1:TabOk w1 G:=hw1.tabOk
 obtain ⟨E1,hE1⟩:∃ E1:Env,E1=⟨w1,G,htab1,[]⟩:=⟨_,rfl⟩
 have hw1':WRel E1 G h w1:=by rw [hE1];exact hw1.restart htab1 []
 have hK1:∀ b,w.heap.size≤b→b < w1.heap.size→E1.K b:=fun b hb hlt=>by rw [hE1];exact ⟨hlt,hown b hb⟩
 have hY:∀ (k:Nat) (x:AV),xs[k]?=some x→YieldOk P E1 (w.heap.size+1) x (Hs k) (Hs (k+1)):=by
  intro k x hx Gk0 wk0 v hwk0 hv
  have hkl:=hK1 (w.heap.size+1) (by omega) (by omega)
  have hlk0:wk0.heap[w.heap.size+1]?=some (.loop rec0):=by
   have:=hwk0.keep _ hkl
   rw [this,hE1];exact hl
  have hy:=run_yield (P:=P) (args:=#[v]) hlk0 (by rw [hrec];rfl)
  rw [hrec] at hy
  have hGG0:G.le Gk0:=by have:=hwk0.le;rw [hE1] at this;exact this
  refine ⟨fn,_,assign,body,hy,roundIn_of_wpIn True.intro (wpIn_mono (hassign k x hx ⟨wk0,Gk0,hwk0.tabOk,[]⟩ (w.heap.size+1) _ wk0 ⟨by simp [r1],rfl,Gk0,hwk0.restart _ _,fun t=>?_⟩) ?_)⟩
  ·have:=qIh (dst:=some p) (N:=N) (τ:=τ) r1 (fun d hd=>by cases hd;exact Nat.le_of_ble_eq_true hp) (fun t=>(ht t).mono hGG0) hv [] t
   simpa [Act.put] using this
  rintro e1 a1 wk ⟨τ1,h1,⟨rfl,rfl,rfl⟩,s1,s2,Gk,hwk1,ht1⟩
  have hwk:WRel E1 Gk (Hs k) wk:=hwk0.after hwk1
  have hG01:Gk0.le Gk:=hwk1.le
  clear hwk1
  have hlk:wk.heap[w.heap.size+1]?=some (.loop rec0):=by
   have:=hwk.keep _ hkl
   rw [this,hE1];exact hl
  have hownk:Gk.own (w.heap.size+1)=none:=by
   cases ho:Gk.own (w.heap.size+1) with
   | none=>rfl
   | some i=>exact absurd hkl (hwk.own _ i ho).2
  refine ⟨_,run_beginRound hlk (by rw [hrec]),?_⟩
  generalize hbz:({ rec0 with state:=.busy }:Loop)=busy
  have htab2:TabOk (wk.putObj (w.heap.size+1) (.loop busy)) Gk:=hwk.tabPoke _ (hne _ (by omega))
  have hw2:=hwk.pokeAt (.loop busy) hlk rfl hownk htab2 []
  have hbel:(⟨wk.putObj (w.heap.size+1) (.loop busy),Gk,htab2,[]⟩:Env).below h.length:=fun i hi=>hwk.fresh i (by rw [hlen];exact hi)
  refine wpIn_mono (hround k x hx _ (w.heap.size+1) hbel _ _ ⟨s1,s2,Gk,hw2,ht1⟩) ?_
  ·rintro e a3 w3 ⟨τ',h',⟨rfl,junk,hj⟩,hr3⟩
   have hr4:=qTh (h':=Hs (k+1)) (l:=[]) (junk:=junk) (by rw [hlen];exact hbel) True.intro rfl hj (by rw [hlen];exact hlow _) a3 w3 hr3
   obtain ⟨_,_,G',hw3,_⟩:=hr4
   have hk2:(⟨wk.putObj (w.heap.size+1) (.loop busy),Gk,htab2,[]⟩:Env).K (w.heap.size+1):=⟨by rw [World.putObj_size];exact (Array.getElem?_eq_some_iff.1 hlk).1,hownk⟩
   have hl3:w3.heap[w.heap.size+1]?=some (.loop busy):=(hw3.keep _ hk2).trans (World.putObj_heap_same (Array.getElem?_eq_some_iff.1 hlk).1)
   have hend:=run_endRound (P:=P) none hl3
   have hback:({ busy with state:=if (none:Option Code).isNone then .ready else .done,pending:=none }:Loop)=rec0:=by rw [← hbz,hrec];rfl
   rw [hback] at hend
   refine ⟨_,_,hend,rfl,G',hG01.trans hw3.le,?_⟩
   have hEK:∀ b,E1.K b→(⟨wk.putObj (w.heap.size+1) (.loop busy),Gk,htab2,[]⟩:Env).K b:=fun b hk=>⟨by rw [World.putObj_size];exact Nat.lt_of_lt_of_le hk.1 hwk.size,by
    show Gk.own b=none
    cases ho:Gk.own b with
    | none=>rfl
    | some i=>exact absurd hk (hwk.own b i ho).2⟩
   have hownl:G'.own (w.heap.size+1)=none:=by
    cases ho:G'.own (w.heap.size+1) with
    | none=>rfl
    | some i=>exact absurd hk2 (hw3.own _ i ho).2
   obtain ⟨p1,p2⟩:=hw3.poke (.loop rec0) hl3 rfl hownl
   refine ⟨hwk.le.trans hw3.le,p1,fun b v hb=>?_,fun b hb=>?_,?_,hw3.os.trans hwk.os,hw3.tape.trans hwk.tape,hw3.output.trans hwk.output,fun b i hb=>⟨by rw [World.putObj_size];exact (hw3.own b i hb).1,fun hk=>(hw3.own b i hb).2 (hEK b hk)⟩,hw3.fresh,p2⟩
   ·rcases hw3.immNew b v hb with h1 | h1
    ·exact hwk.immNew b v h1
    ·exact .inr fun hk=>h1 (hEK _ hk)
   ·by_cases hbl:b=w.heap.size+1
    ·subst hbl
     rw [World.putObj_heap_same (Array.getElem?_eq_some_iff.1 hl3).1,hE1];exact hl.symm
    ·rw [World.putObj_heap_other hbl]
     exact (hw3.keep b (hEK b hb)).trans ((World.putObj_heap_other hbl).trans (hwk.keep b hb))
   ·rw [World.putObj_size]
    refine Nat.le_trans hwk.size ?_
    have:=hw3.size
    rwa [World.putObj_size] at this
 have hcall:=hseq.2 E1 (w.heap.size+1) Hs (by rw [hE1]) hok hY (by rw [h0,hE1];exact hw1.restart htab1 []) cvs g2 (fun j x v hx hv=>by rw [hE1];exact g4 j x v hx hv)
 have hE1w:E1.w0=w1:=by rw [hE1]
 rw [hE1w] at hcall
 refine ⟨w.heap.size+1,[{ target:=.collected w.heap.size,args:=#[] }],w1,{ target:=.fn (.func gf) cvs,args:=#[.func (.yield (w.heap.size+1)) #[] #[]] },w1,gf,#[.func (.yield (w.heap.size+1)) #[] #[]]++cvs,w1,?_,?_,fun _ _=>True.intro,?_,fun hh=>?_,?_⟩
 ·rw [← hW1,hrec];exact run_enterLoop_outer _ _ _ _ _
 ·simp [resolve,hge,Deferred.ofValue]
  rfl
 ·simp [invoke,callFunc,k1,k2',k3']
 ·exact absurd hh (by decide)
 ·show CallsIn Fence.wide 0 P gf _ w1 _
  refine hcall.mono ?_
  rintro e w3 ⟨⟨v,rfl⟩,G3,hw3⟩
  have hkl:=hK1 (w.heap.size+1) (by omega) (by omega)
  have hkD:=hK1 w.heap.size (Nat.le_refl _) (by omega)
  have hl3:w3.heap[w.heap.size+1]?=some (.loop rec0):=by rw [hw3.keep _ hkl,hE1];exact hl
  have hD3:w3.heap[w.heap.size]?=some (.deferred (some [])):=by rw [hw3.keep _ hkD,hE1];exact hD
  have hownl:∀ b,E1.K b→G3.own b=none:=fun b hk=>by
   cases ho:G3.own b with
   | none=>rfl
   | some i=>exact absurd hk (hw3.own b i ho).2
  have hG3:G.le G3:=by have:=hw3.le;rw [hE1] at this;exact this
  have hw3E:WRel E G3 (Hs xs.length) w3:=by
   subst hE1
   exact hw1.after hw3
  have hend:=run_endLoop (P:=P) hl3 (by rw [hrec];simp)
  have hw4E:=hw3E.pokeIn (.loop { rec0 with state:=.exhausted }) hl3 rfl (hownl _ hkl) (hEl _ (by omega))
  generalize hw4:w3.putObj (w.heap.size+1) (.loop { rec0 with state:=.exhausted })=w4 at hw4E hend
  have hpend:rec0.pending=none:=by rw [hrec]
  rw [hpend] at hend
  refine ⟨none,w4,hend,?_⟩
  have hD4:w4.heap[w.heap.size]?=some (.deferred (some [])):=by rw [← hw4,World.putObj_heap_other (by omega)];exact hD3
  have hle:ELe E ⟨w4,G3,hw4E.tabOk,marks [w.heap.size]++E.ds⟩:=by
   refine ⟨fun G h w hw=>hw4E.after hw,fun b hk=>⟨Nat.lt_of_lt_of_le hk.1 hw4E.size,?_⟩,fun b hk=>hw4E.keep b hk,[w.heap.size],rfl,(List.nodup_cons.2 ⟨by simp,List.nodup_nil⟩),fun D hDm=>?_⟩
   ·show G3.own b=none
    cases ho:G3.own b with
    | none=>rfl
    | some i=>exact absurd hk (hw4E.own b i ho).2
   ·obtain rfl:D=w.heap.size:=by simpa using hDm
    exact ⟨hD4,⟨(Array.getElem?_eq_some_iff.1 hD4).1,hownl _ hkD⟩,hEl _ (Nat.le_refl _)⟩
  refine ⟨_,hle,τ,Hs xs.length,hpost,r1,?_,G3,hw4E.restart _ _,fun t=>(ht t).mono hG3⟩
  show [_]++a.defers=_
  rw [r2];rfl
theorem qVm {P:Program} {E:Env} {N:Nat} {x y:Code} {Qx Q:Exit→(Nat→AV)→List AObj→Prop} {τ:Nat→AV} {h:List AObj} (hx:AWx P E N x Qx τ h) (hn:∀ E2,ELe E E2→∀ τ' h',Qx .normal τ' h'→AWx P E2 N y Q τ' h')
  (he:∀ e τ' h',e≠.normal→Qx e τ' h'→Q e τ' h'):AWx P E N (.seq x y) Q τ h :=
 fun a w r=>wp_seq (wp_mono (hx a w r) fun e a' w' ⟨E2,hE,τ',h',q,r'⟩=>by
  cases e with
  | normal =>
   refine wp_mono (hn E2 hE τ' h' q a' w' r') fun e3 a3 w3 ⟨E3,hE3,τ3,h3,q3,r3⟩=>⟨E3,hE.trans hE3,τ3,h3,q3,r3⟩
  | _=>exact ⟨E2,hE,τ',h',he _ _ _ (by simp) q,r'⟩)
theorem qPg {P:Program} {E:Env} {N:Nat} {c:Code} {Q:Exit→(Nat→AV)→List AObj→Prop} {τ:Nat→AV} {h:List AObj} {l:List (Nat×AV)} {h':List AObj} (hs:SubL τ l) (hh:HLe h h') (hc:AWx P E N c Q (look l) h'):AWx P E N c Q τ h:=qXb (qEq hs hh) hc
section
variable {P:Program} {E:Env} {T:Tr} {o:Oper} {ρ:Operand→AV} {h:List AObj}
theorem growMake_ok (hT:TOk P T) {t t2 sz by_ i0 n:Nat} {z:List AV} {k k':IntKind} {s x:Operand} (ho:o.op=.call { callee:=.builtin .append,args:=#[s,x],argTypes:=#[t,t2] })
  (ht:qQj T t=some (sz,by_,z)) (ht2:qGe T t2=some k) (hs:ρ s=.sl sz [] .full∨ρ s=.nils) (hx:ρ x=.d (.int k' (n:Int))) (hn:0 < n∧0 < sz) (hb:n*(by_+1)≤140737488355328) (hroom:h[i0]?=some .room) :
  OpR P E o ρ h (fun u k=>∃ cap:Nat,n≤cap∧u=.row i0 0 n cap∧k=h.set i0 (.row (List.replicate n z).flatten)):=by
 intro G a w hw hr
 have hs':RepA G (ρ s) (a.eval s):=hr s (by simp [ho,Op.operands,Call.operands])
 have hx':RepA G (ρ x) (a.eval x):=hr x (by simp [ho,Op.operands,Call.operands])
 rw [hx] at hx'
 obtain ⟨et,ie,h1,h2,h3,h4,h5,h6⟩:=elemT_ok hT ht
 have hk2:=qGm hT ht2
 obtain ⟨info,g1,g2,g3,zv,g4,g5⟩:=h2.info
 obtain ⟨hl,hc⟩:=zrepL_ok g5
 have hzs:zv.cells.size=sz:=by
  have:zv.cells.toList.length=ie.zero.length:=hl.symm▸rfl
  simp only [Array.length_toList] at this
  rw [this,h5,h6]
 obtain ⟨p,hsv⟩:∃ p,a.eval s=.slice p 0 0:=by
  rcases hs with hs | hs
  ·rw [hs] at hs'
   generalize a.eval s=u at hs'
   cases hs' with
   | sl r k=>obtain ⟨p,rfl,_⟩:=k;exact ⟨p,rfl⟩
  ·rw [hs] at hs'
   generalize a.eval s=u at hs'
   cases hs'
   exact ⟨none,rfl⟩
 have hrd:RepD G.imm (.sl ie.size []) (a.eval s):=by
  rcases hs with hs | hs
  ·rw [hs] at hs'
   generalize a.eval s=u at hs'
   cases hs' with
   | sl r k=>rw [h3];exact r
  ·rw [hs] at hs'
   generalize a.eval s=u at hs'
   cases hs'
   exact .nil _
 obtain ⟨olds,o1,o2,o3,o4⟩:=qFl (P:=P) hw.imm hrd
 have ho0:olds=[]:=by simpa using o2
 subst ho0
 rw [hsv] at o1
 have hfc:=(o1 w.drew rfl).2
 have hb1:n*ie.bytes≤140737488355328:=Nat.le_trans (Nat.mul_le_mul_left _ (by omega)) hb
 have hb2:n≤140737488355328:=Nat.le_trans (by rw [Nat.mul_add];omega) hb
 have h48:¬ (Builtin.nextslicecap n 0*info.bytes > 2 ^ 48):=by
  have:=growslice_fits (bytes:=ie.bytes) (need:=n) (old:=0) hn.1 hb1
  rw [g3];omega
 have h63:¬ ((n:Int) > IntKind.i64.max):=by simp [IntKind.max,IntKind.signed,IntKind.bits];omega
 have hw63:IntKind.i64.wrap (n:Int)=(n:Int):=qAj (by omega)
 have hbb:¬ ((n:Int)*(info.bytes:Int) > 2 ^ 48):=by
  have h9:((n*info.bytes:Nat):Int)≤140737488355328:=by rw [g3];omega
  rw [Int.natCast_mul] at h9
  omega
 have hsz0:¬ (n*ie.size=0):=by
  have:=Nat.mul_pos hn.1 (show 0 < ie.size by rw [h3];exact hn.2)
  omega
 have hnle:¬ (n≤0):=by omega
 generalize hcapv:(Question.appendCap n 0 et).cut (w.tape w.drawn (.appendCap n 0 et))=newCap
 have hcap:n≤newCap:=by rw [← hcapv];simp [Question.cut]
 have hrun:(Builtin.append_ #[t,t2] o.type #[.slice p 0 0,.int k' (n:Int)]).run P w=.ok (.slice (some ⟨w.heap.size,0,none⟩) n newCap)
   (w.drew.alloc (.cells (#[]++Builtin.zeroCells zv.cells n++Builtin.zeroCells zv.cells (newCap-n)) et)):=by
  have hq:(Question.appendCap n 0 et).forced=false:=rfl
  unfold Builtin.append_
  simp only [List.getElem?_toArray,List.getElem?_cons_zero,List.getElem?_cons_succ,Sem.run_bind,run_underlying h1,Result.andThen_ok,h2.run_size,run_underlying hk2]
  simp only [Sem.run_bind,Sem.run_pure,Result.andThen_ok,if_true,asInt,asIntOf,hw63,Sem.run_ite,typeInfo,run_program,g1,hbb,if_false,Int.toNat_natCast,Nat.zero_add,hnle,hw63,h63,false_and,h48,run_choose,hq,World.drew_eq,run_askRoom,hsz0,zeroValue,g4,newRow,run_newObj,World.alloc_eq,Bool.not_true,Bool.false_eq_true,show ¬ ((n:Int) < 0) by omega]
  have hfc':Sem.run P (Builtin.firstCells ie.size 0 (Value.slice p 0 0)) w.drew=Result.ok #[] w.drew:=hfc
  simp [hfc',hcapv]
  done
 have hn':=hw.newRowAtW hroom (#[]++Builtin.zeroCells zv.cells n++Builtin.zeroCells zv.cells (newCap-n)) et (List.replicate n z).flatten ?_ (fun j c u h7 h8=>?_) (w.drew.alloc (.cells (#[]++Builtin.zeroCells zv.cells n++Builtin.zeroCells zv.cells (newCap-n)) et)) rfl rfl rfl rfl
 ·have hex:(execOp a.eval o).run P w=.ok (.value (.slice (some ⟨w.heap.size,0,none⟩) n newCap)) (w.drew.alloc (.cells (#[]++Builtin.zeroCells zv.cells n++Builtin.zeroCells zv.cells (newCap-n)) et)):=by
   unfold execOp
   simp [ho,resolve,invoke,builtin,hsv,hx'.int_inv,hrun]
  unfold Oper.wp
  rw [hex]
  exact ⟨_,qDr G i0 w.heap.size,.row i0 0 n newCap,h.set i0 (.row (List.replicate n z).flatten),⟨newCap,hcap,rfl,rfl⟩,rfl,hn'.1,hn'.2,.row 0 _ _ (by show (if i0=i0 then _ else _)=_;simp)⟩
 ·simp [Builtin.zeroCells,List.length_flatten,hzs,h6]
 ·rw [qIs,h6] at h7
  split at h7
  ·rename_i hj
   have hlt:j % sz < zv.cells.size:=by rw [hzs];exact Nat.mod_lt _ hn.2
   rw [Array.getElem?_append_left (by simp [Builtin.zeroCells,hzs];exact hj)] at h8
   simp only [Array.empty_append,Builtin.zeroCells,Array.getElem?_map,Option.map_eq_some_iff] at h8
   obtain ⟨q,hq,rfl⟩:=h8
   have hjq:q=j:=by
    rw [Array.getElem?_eq_some_iff] at hq
    obtain ⟨_,hh⟩:=hq
    simpa using hh.symm
   subst hjq
   rw [hzs,getElem!_pos zv.cells (q % sz) hlt]
   exact hc G _ c _ (by rw [h5];exact h7) (by simp [hlt])
  ·cases h7
theorem capNil_ok (hT:TOk P T) {t sz:Nat} {x:Operand} (ho:o.op=.call { callee:=.builtin .cap,args:=#[x],argTypes:=#[t] }) (ht:qBy T t sz=true) (hx:ρ x=.nils):OpP P o ρ (.d (.int .i64 0)):=by
 intro G e w hi hr
 have hx':RepA G (ρ x) (e x):=hr x (by simp [ho,Op.operands,Call.operands])
 rw [hx] at hx'
 obtain ⟨et,ie,g1,g2,g3⟩:=sliceElem_ok hT ht
 have hv:e x=.slice none 0 0:=by generalize e x=u at hx';cases hx';rfl
 refine ⟨.int .i64 0,?_,.d (.int _ _)⟩
 unfold execOp
 simp [ho,resolve,invoke,builtin,Builtin.cap_,hv,run_underlying g1,goInt]
theorem nilCut_ok (hT:TOk P T) {t sz:Nat} {x hi:Operand} {k:IntKind} (ho:o.op=.slice t x none (some hi) none) (hs:qBy T t sz=true) (hx:ρ x=.nils) (hh:ρ hi=.d (.int k 0)):OpP P o ρ .nils:=by
 intro G e w hi' hr
 have hx':RepA G (ρ x) (e x):=hr x (by simp [ho,Op.operands])
 have h2:RepA G (ρ hi) (e hi):=hr hi (by simp [ho,Op.operands])
 rw [hx] at hx';rw [hh] at h2
 obtain ⟨et,ie,g1,g2,g3⟩:=sliceElem_ok hT hs
 have hv:e x=.slice none 0 0:=by generalize e x=u at hx';cases hx';rfl
 refine ⟨.slice none 0 0,?_,.nils⟩
 unfold execOp
 simp only [ho,Sem.run_bind,Instr.sliceAt,Instr.slice,hv,h2.int_inv]
 simp [h2.int_inv,run_underlying g1,Instr.sliceBounds,g2.run_size,g3,qAv _ _ _ _ (show 0≤(0:Int)∧(0:Int)≤((0:Nat):Int) by omega)]
theorem qUx {v:AV} (hT:TOk P T) {t:Nat} {x hi mx:Operand} {sz:Nat} {es:List (List Dat)} {r:Nat} {k2 k3:IntKind} (ho:o.op=.slice t x none (some hi) (some mx)) (hs:qBy T t sz=true) (hx:ρ x=.d (.sl sz es))
  (hr':ρ hi=.d (.int k2 (r:Int))) (hm:ρ mx=.d (.int k3 (r:Int))) (hb:r≤es.length) (hv:AV.d (.sl sz (es.take r))=v):OpP P o ρ v:=by
 intro G e w hi' hr
 subst hv
 have hx':RepA G (ρ x) (e x):=hr x (by simp [ho,Op.operands])
 have h2:RepA G (ρ hi) (e hi):=hr hi (by simp [ho,Op.operands])
 have h3:RepA G (ρ mx) (e mx):=hr mx (by simp [ho,Op.operands])
 rw [hx] at hx';rw [hr'] at h2;rw [hm] at h3
 have hxd:RepD G.imm (.sl sz es) (e x):=by cases hx' with | d r=>exact r
 obtain ⟨a,cap,hev,hnil,hsome⟩:=hxd.slice_inv
 have hcap:es.length≤cap:=by
  cases a with
  | none=>have:=hnil rfl;rw [this.1];exact Nat.zero_le _
  | some p=>exact (hsome p rfl).2.1
 rw [hev] at hxd
 have hcut:=hxd.cutC (l:=0) (r:=r) (Nat.zero_le _) hb
 rw [List.drop_zero,Nat.sub_zero] at hcut
 obtain ⟨et,ie,g1,g2,g3⟩:=sliceElem_ok hT hs
 refine ⟨_,?_,.d hcut⟩
 unfold execOp
 simp only [ho,Sem.run_bind,Instr.sliceAt,Instr.slice,hev,h2.int_inv,h3.int_inv]
 simp [h2.int_inv,h3.int_inv,run_underlying g1,Instr.sliceBounds,g2.run_size,g3,qAv _ _ _ _ (show 0≤(r:Int)∧(r:Int)≤(cap:Int) by omega),qAv _ _ _ _ (show 0≤(r:Int)∧(r:Int)≤((r:Nat):Int) by omega)]
end
section
variable {P:Program} {E:Env} {T:Tr} {o:Oper} {ρ:Operand→AV} {h h':List AObj} {v:AV}
def qOo (T:Tr) (t len:Nat) (parts:List (Nat×AV)):Option (List AV):=match T.find t with
 | some i=>match i.kind with
  | .slice el=>match T.find el with
   | some ie=>match Nat.blt 0 ie.size&&Nat.beq ie.zero.length ie.size&&Nat.blt 0 len&&Nat.ble (len*ie.size) 16777216 with
    | true=>qKn (fun i=>some (i*ie.size,ie.size)) ((List.range (len*ie.size)).map fun k=>(ie.zero[k % ie.size]?).getD .any) parts
    | false=>none
   | none=>none
  | _=>none
 | none=>none
theorem buildRow_run (hT:TOk P T) {t len i0:Nat} {parts:Array (Nat×Operand)} {cells:List AV} (ho:o.op=.buildSlice t len parts) (hv:qOo T t len (parts.toList.map fun x=>(x.1,ρ x.2))=some cells) (hroom:h[i0]?=some .room)
  (G:Gh) (e:Operand→Value) (w:World) (hw:WRel E G h w) (hr:∀ x,x∈o.op.operands.toList→RepA G (ρ x) (e x)) :
  ∃ el vs',(execOp e o).run P w=.ok (.value (.slice (some ⟨w.heap.size,0,none⟩) len len)) (w.alloc (.cells vs' el))∧G.le (qDr G i0 w.heap.size)∧WRel E (qDr G i0 w.heap.size) (h.set i0 (.row cells)) (w.alloc (.cells vs' el)) ∧
   vs'.size=cells.length∧∀ (j:Nat) (c:AV) (u:Value),cells[j]?=some c→vs'[j]?=some u→RepA G c u∧qFv u=true:=by
  have hp:∀ x,x∈parts.toList→RepA G (ρ x.2) (e x.2):=fun x hx=>hr x.2 (by
   simp only [ho,Op.operands]
   exact List.mem_map_of_mem hx)
  unfold qOo at hv
  split at hv
  ·rename_i i hf
   split at hv
   ·rename_i el hk
    obtain ⟨d,hd,hkd⟩:=(hT.at hf).und
    rw [hk] at hkd
    cases d <;> simp [qCl] at hkd
    subst hkd
    split at hv
    ·rename_i ie hfe
     obtain ⟨einfo,heinfo,hesz,heb,z,hz,hzc⟩:=(hT.at hfe).info
     split at hv
     ·rename_i hb
      simp only [Bool.and_eq_true] at hb
      have hpos:0 < ie.size:=by have:=hb.1.1.1;(simp [Nat.blt] at this;omega)
      have hzlen:=Nat.eq_of_beq_eq_true hb.1.1.2
      have hlen:0 < len:=by have:=hb.1.2;(simp [Nat.blt] at this;omega)
      have hsmall:=Nat.le_of_ble_eq_true hb.2
      obtain ⟨zl,zr⟩:=zrepL_ok hzc
      simp only [Array.length_toList] at zl
      let base:List AV:=(List.range (len*ie.size)).map fun k=>(ie.zero[k % ie.size]?).getD .any
      let basev:Array Value:=(Array.range (len*ie.size)).map (z.cells[· % z.cells.size]!)
      have hbase:CellsRep G base basev:=by
       refine ⟨by simp [base,basev],fun j c u hc hu=>?_⟩
       have hj:j < len*ie.size:=by have:=(List.getElem?_eq_some_iff.1 hc).1;simpa [base] using this
       have hm:j % ie.size < ie.size:=Nat.mod_lt _ hpos
       have hm2:j % ie.size < z.cells.size:=by omega
       simp [base,hj] at hc
       simp [basev,hj] at hu
       subst hc;subst hu
       rw [← zl,hzlen]
       have h1:ie.zero[j % ie.size]?=some ie.zero[j % ie.size]:=by simp [hzlen,hm]
       rw [h1]
       simp only [Option.getD_some]
       have h2:z.cells[j % ie.size]! = z.cells[j % ie.size]:=by simp [hm2]
       rw [h2]
       exact zr G _ _ _ h1 (by simp [hm2])
      obtain ⟨vs',v1,v2⟩:=fillA_ok (e:=e) parts.toList _ _ _ hbase hp hv
      have hn:=hw.newRowAt hroom vs' el cells v2.1 (fun j c u h1 h2=>v2.2 j c u h1 h2) (w.alloc (.cells vs' el)) rfl rfl rfl rfl
      refine ⟨el,vs',?_,hn.1,hn.2,v2.1,v2.2⟩
      have h0:len*ie.size≠0:=by
       have:=Nat.mul_pos hlen hpos
       omega
      unfold execOp
      simp only [ho,Sem.run_bind]
      rw [run_buildSlice w t el len _ vs' einfo z hd heinfo hz (by rw [hesz];omega) (by rw [hesz];exact h0) (by rw [hesz];simpa using v1)]
      rfl
     ·cases hv
    ·cases hv
   ·cases hv
  ·cases hv
theorem buildRowAt_ok (hT:TOk P T) {t len i0:Nat} {parts:Array (Nat×Operand)} {cells:List AV} (ho:o.op=.buildSlice t len parts) (hv:qOo T t len (parts.toList.map fun x=>(x.1,ρ x.2))=some cells) (hroom:h[i0]?=some .room) :
  OpS P E o ρ h (.row i0 0 len len) (h.set i0 (.row cells)) :=
 qBd fun G e w hw hr=>by
  obtain ⟨el,vs',h1,h2,h3,_,_⟩:=buildRow_run hT ho hv hroom G e w hw hr
  exact ⟨_,_,_,h1,h2,h3,.row 0 _ _ (by show (if i0=i0 then _ else _)=_;simp)⟩
end
variable {P:Program} {E:Env} {N:Nat} {ops:Array Oper}
theorem anyA_firstT {rd wr:Nat→List Nat} {Q:(Nat→AV)→List AObj→Prop} {i:Nat} {oi:Oper} {v:AV} {osi:List AObj} (U:Nat→Bool) (hi:ops[i]?=some oi)
  (hdep:∀ j oj,U j=true→ops[j]?=some oj→∃ e,e∈oj.after∧Region.binds .any e=true∧(e.on=i∨U e.on=true)):∀ (fuel:Nat) (listed:Array Bool) (τ:Nat→AV) (h:List AObj),
  (∀ j,U j=true→listed.getD j true=false) →
  (∀ j oj,ops[j]?=some oj→j≠i→U j=false→listed.getD j true=false→oi.apart ops oj=true∧conf rd wr i j=false) →
  i∈Region.ready .any ops listed→SI P E N ops rd wr i oi τ h v osi→qVd P E N ops rd wr Q fuel (listed.setIfInBounds i true) (qJf τ oi.dst v) (qFc h (wr i) osi)→qVd P E N ops rd wr Q (fuel+1) listed τ h:=by
 intro fuel
 have own:∀ (listed:Array Bool) (τ:Nat→AV) (h:List AObj) (K:(Nat→AV)→List AObj→Prop),SI P E N ops rd wr i oi τ h v osi→K (qJf τ oi.dst v) (qFc h (wr i) osi)→qKd P E N ops rd wr i K τ h:=by
  intro listed τ h K hs hk
  unfold qKd
  simp only [hi]
  exact ⟨v,osi,hs,hk⟩
 induction fuel with
 | zero =>
  intro listed τ h _ _ hr hy H
  refine ⟨fun h0=>(by rw [h0] at hr;cases hr),fun j hj=>?_⟩
  by_cases hji:j=i
  ·subst hji;exact own listed τ h _ hy H
  ·have:=ready_mono hj hji
   rw [H.1] at this
   cases this
 | succ fuel ih =>
  intro listed τ h hU hfree hr hy H
  refine ⟨fun h0=>(by rw [h0] at hr;cases hr),fun j hj=>?_⟩
  by_cases hji:j=i
  ·subst hji;exact own listed τ h _ hy H
  ·have hs:=H.2 j (ready_mono hj hji)
   obtain ⟨hjun,oj,hoj,hall⟩:=mem_ready.1 hj
   have hin:listed.getD i true=false:=(mem_ready.1 hr).1
   have hcon:∀ k,listed.getD k true=false→listed.getD k false=true→False:=fun k h0 h1=>by
    rcases Nat.lt_or_ge k listed.size with h' | h'
    ·simp [h'] at h0 h1;rw [h0] at h1;cases h1
    ·simp [Array.getElem?_eq_none h'] at h1
   have hUj:U j=false:=by
    cases hu:U j with
    | false=>rfl
    | true =>
     obtain ⟨e,he,hb,hor⟩:=hdep j oj hu hoj
     have h1:=hall e he hb
     rcases hor with rfl | hu2
     ·exact (hcon _ hin h1).elim
     ·exact (hcon _ (hU _ hu2) h1).elim
   obtain ⟨hap,hcf⟩:=hfree j oj hoj hji hUj hjun
   obtain ⟨a1,a2,a3⟩:=Oper.apart_spec hap
   simp only [conf,Bool.or_eq_false_iff] at hcf
   obtain ⟨⟨f1,f2⟩,f3⟩:=hcf
   have f1:=qEg f1
   have f2:=qEg f2
   have f3:=qEg f3
   unfold qKd at hs ⊢
   simp only [hoj] at hs ⊢
   obtain ⟨vj,osj,hsj,hk⟩:=hs
   have cj:∀ d,d∈oj.looksAt ops→τ d=qJf τ oi.dst v d:=fun d hd=>(putA_other fun e he hh=>a1 e he (hh▸hd)).symm
   have ci:∀ u d,d∈oi.looksAt ops→qJf τ oj.dst u d=τ d:=fun u d hd=>putA_other fun e he hh=>a3 e he (hh▸hd)
   have hU':∀ k,U k=true→(listed.setIfInBounds j true).getD k true=false:=fun k hk=>by
    rw [getD_set_ne true (fun hh=>by subst hh;rw [hUj] at hk;cases hk)]
    exact hU k hk
   have hfree':∀ k ok,ops[k]?=some ok→k≠i→U k=false→(listed.setIfInBounds j true).getD k true=false→oi.apart ops ok=true∧conf rd wr i k=false:=fun k ok hk' hki hku hun=>by
    refine hfree k ok hk' hki hku ?_
    by_cases hjk:j=k
    ·subst hjk;exact hjun
    ·rw [getD_set_ne true hjk] at hun;exact hun
   refine ⟨vj,osj,hsj.congr cj (by rw [updH_length]) (fun x hx=>(updH_other _ _ _ _ (fun hw=>f1 x hw hx)).symm),ih _ _ _ hU' hfree' (ready_mono hr (Ne.symm hji)) (hy.congr (ci vj) (by rw [updH_length]) (fun x hx=>updH_other _ _ _ _ (fun hw=>f3 x hw hx))) ?_⟩
   rw [Array.setIfInBounds_comm _ _ hji,← putA_comm a2,← updH_comm _ _ _ _ _ f2]
   exact hk
def waits (ops:Array Oper) (i:Nat):Array Bool :=
 (List.range ops.size).foldl (fun u j=>u.setIfInBounds j (match ops[j]? with
  | some oj=>oj.after.any fun e=>Region.binds .any e&&(e.on == i||u.getD e.on false)
  | none=>false)) (Array.replicate ops.size false)
def qWo (ops:Array Oper) (rd wr:Nat→List Nat) (listed:Array Bool) (i:Nat) (U:Array Bool):Bool :=
 match ops[i]? with
 | none=>false
 | some oi=>Nat.beq U.size ops.size&&(List.range ops.size).all fun j=>match ops[j]? with
   | some oj=>match U.getD j false with
    | true=>!listed.getD j true&&oj.after.any fun e=>Region.binds .any e&&(e.on == i||U.getD e.on false)
    | false=>j == i||listed.getD j true||(oi.apart ops oj&&!conf rd wr i j)
   | none=>true
theorem freeT_spec {rd wr:Nat→List Nat} {listed U:Array Bool} {i:Nat} {oi:Oper} (hi:ops[i]?=some oi) (h:qWo ops rd wr listed i U=true) :
  (∀ j oj,U.getD j false=true→ops[j]?=some oj→∃ e,e∈oj.after∧Region.binds .any e=true∧(e.on=i∨U.getD e.on false=true))∧(∀ j,U.getD j false=true→listed.getD j true=false) ∧
  (∀ j oj,ops[j]?=some oj→j≠i→U.getD j false=false→listed.getD j true=false→oi.apart ops oj=true∧conf rd wr i j=false):=by
 simp only [qWo,hi,Bool.and_eq_true,List.all_eq_true,List.mem_range] at h
 obtain ⟨hsz,h⟩:=h
 have hsz:=Nat.eq_of_beq_eq_true hsz
 refine ⟨fun j oj hu hj=>?_,fun j hu=>?_,fun j oj hj hne hu hun=>?_⟩
 ·have h1:=h j (Array.getElem?_eq_some_iff.1 hj).1
  simp only [hj,hu,Bool.and_eq_true] at h1
  obtain ⟨e,he,hb⟩:=Array.any_eq_true'.1 h1.2
  simp only [Bool.and_eq_true,Bool.or_eq_true,beq_iff_eq] at hb
  exact ⟨e,he,hb.1,hb.2⟩
 ·have hlt:j < U.size:=by
   rcases Nat.lt_or_ge j U.size with h' | h'
   ·exact h'
   ·simp [Array.getElem?_eq_none h'] at hu
  have h1:=h j (by omega)
  have hj:ops[j]?=some ops[j]:=by simp [show j < ops.size by omega]
  simp only [hj,hu,Bool.and_eq_true] at h1
  simpa using h1.1
 ·have h1:=h j (Array.getElem?_eq_some_iff.1 hj).1
  simp only [hj,hu,Bool.or_eq_true,beq_iff_eq,hne,false_or,hun,Bool.false_eq_true] at h1
  simpa using h1
def qXv (ops:Array Oper) (rd wr:Nat→List Nat):Nat→Nat→Array Bool→Bool
 | 0,_,listed=>(Region.ready .any ops listed).isEmpty
 | fuel+1,k,listed=>(Region.ready .any ops listed).contains k&&qWo ops rd wr listed k (waits ops k)&&qXv ops rd wr fuel (k+1) (listed.setIfInBounds k true)
theorem qPi {rd wr:Nat→List Nat} {ops:List Oper} {Q:(Nat→AV)→List AObj→Prop}:∀ (l:List Oper) (k:Nat) (listed:Array Bool) (τ:Nat→AV) (h:List AObj),(∀ j,l[j]?=ops[k+j]?) →
  qXv ops.toArray rd wr l.length k listed=true→AWd P E N ops rd wr Q l k τ h→qVd P E N ops.toArray rd wr Q l.length listed τ h
 | [],_,_,_,_,_,hB,H=>⟨by simpa [qXv] using hB,H⟩
 | o::l,k,listed,τ,h,hl,hB,H=>by
  have h0:ops.toArray[k]?=some o:=by simpa using (hl 0).symm
  simp only [List.length_cons,qXv,Bool.and_eq_true] at hB
  obtain ⟨⟨hr,hf⟩,hB'⟩:=hB
  obtain ⟨v,os,hs,hk⟩:=H
  obtain ⟨f1,f2,f3⟩:=freeT_spec h0 hf
  exact anyA_firstT (fun j=>(waits ops.toArray k).getD j false) h0 f1 l.length listed τ h f2 f3 (by simpa using hr) hs
   (qPi l (k+1) _ _ _ (fun j=>by have:=hl (j+1);simpa [Nat.add_assoc,Nat.add_comm 1 j] using this) hB' hk)
theorem qAy {id:Nat} (rd wr:Nat→List Nat) {ops:List Oper} {Q:Exit→(Nat→AV)→List AObj→Prop} {τ:Nat→AV} {h:List AObj} (hm:P.follows .mixedOrders=true)
  (hB:qXv ops.toArray rd wr ops.length 0 (Array.replicate ops.length false)=true) (H:AWd P E N ops rd wr (Q .normal) ops 0 τ h):AW P E N (.region id ops.toArray true) Q τ h:=by
 intro a w hr
 refine wp_region_any hm ?_
 have:=qPi (P:=P) (E:=E) (N:=N) ops 0 _ τ h (fun j=>by simp) hB H
 have:=anyA_sound (Q:=Q) _ _ _ _ a _ this hr.drew
 simpa using this
end Tdoc
namespace Tdoc
open Go
theorem qOe {E:Env} {N:Nat} {l:List (Nat×AV)} {h:List AObj} {t i off n sz:Nat} {cells:List AV} {es:List (List Dat)} (ht:look l t=.row i off n n) (hi:h[i]?=some (.row cells)) (hn:es.length=n) (hd:RowDat cells off sz es) :
  ∀ a w,Rel E N (look l) h a w→Rel E N (look ((t,.sl sz es .full)::l)) (h.set i .dead) a w:=by
 intro a w ⟨h1,h2,G,hw,hr⟩
 have hx:=hr t
 rw [ht] at hx
 obtain ⟨b,hv,hl⟩:=hx.row_inv
 obtain ⟨hle,hw',hc⟩:=hw.freeze hi hl
 refine ⟨h1,h2,_,hw',fun s=>?_⟩
 show RepA _ (bif Nat.beq s t then _ else look l s) _
 cases hb:Nat.beq s t with
 | false=>exact (hr s).mono hle
 | true =>
  obtain rfl:=Nat.eq_of_beq_eq_true hb
  rw [hv]
  subst hn
  have hex:∀ (k:Nat),∃ u:Value,∀ (i:Nat) (e:List Dat) (j:Nat) (d:Dat),es[i]?=some e→e[j]?=some d→i*sz+j=k →
    ({ G with imm:=fun a=>if a.block=b∧a.spot=none∧a.off < cells.length then w.cell? a else G.imm a }:Gh).imm ⟨b,off+k,none⟩=some u:=by
   intro k
   rcases hh:({ G with imm:=fun a=>if a.block=b∧a.spot=none∧a.off < cells.length then w.cell? a else G.imm a }:Gh).imm ⟨b,off+k,none⟩ with _ | u
   ·refine ⟨undef,fun i e j d he hj hk=>?_⟩
    obtain ⟨c,g1,g2⟩:=hd.2 i e j d he hj
    obtain ⟨u,g3,_⟩:=hc _ d c g1 g2
    rw [hk] at g3
    rw [hh] at g3;cases g3
   ·exact ⟨u,fun _ _ _ _ _ _ _=>rfl⟩
  refine .sl (.sl sz es ⟨b,off,none⟩ es.length (fun k=>Classical.choose (hex k)) (fun _=>rfl) (Nat.le_refl _) hd.1 (fun i e j d he hj=>?_) (fun i e j d he hj=>?_)) ⟨_,rfl,fun p hp=>by cases hp;rfl⟩
  ·rw [qCd]
   exact Classical.choose_spec (hex (i*sz+j)) i e j d he hj rfl
  ·have:=Classical.choose_spec (hex (i*sz+j)) i e j d he hj rfl
   obtain ⟨c,g1,g2⟩:=hd.2 i e j d he hj
   obtain ⟨u,g3,g4⟩:=hc _ d c g1 g2
   have hu:=Option.some.inj (g3.symm.trans this)
   exact hu▸g4
theorem qKb {P:Program} {E:Env} {N:Nat} {Q:Exit→(Nat→AV)→List AObj→Prop} {c:Code} {l:List (Nat×AV)} {h:List AObj} (t i sz:Nat) {off n:Nat} {cells:List AV} (es:List (List Dat)) (ht:look l t=.row i off n n) (hi:h[i]?=some (.row cells))
  (hn:es.length=n) (hd:RowDat cells off sz es) (hc:AW P E N c Q (look ((t,.sl sz es .full)::l)) (h.set i .dead)):AW P E N c Q (look l) h :=
 qHk (qOe ht hi hn hd) hc
section
variable {P:Program} {E:Env} {T:Tr} {o:Oper} {ρ:Operand→AV} {h:List AObj}
theorem makeDat_ok (hT:TOk P T) {t by_:Nat} {z:Dat} {x y:Operand} {k k':IntKind} {n:Nat} (ho:o.op=.makeSlice t x y) (he:qQj T t=some (1,by_,[.d z])) (hx:ρ x=.d (.int k (n:Int))) (hy:ρ y=.d (.int k' (n:Int)))
  (hb:by_*n≤281474976710656) (h63:n≤9223372036854775807) :
  OpS P E o ρ h (.d (.sl 1 (List.replicate n [z]))) h :=
 qBd fun G e w hw hr=>by
  have hx':RepA G (ρ x) (e x):=hr x (by simp [ho,Op.operands])
  have hy':RepA G (ρ y) (e y):=hr y (by simp [ho,Op.operands])
  rw [hx] at hx';rw [hy] at hy'
  obtain ⟨et,ie,h1,h2,h3,h4,h5,h6⟩:=elemT_ok hT he
  obtain ⟨info,g1,g2,g3,zv,g4,g5⟩:=h2.info
  obtain ⟨hl,hc⟩:=zrepL_ok g5
  have hzs:zv.cells.size=1:=by
   have:zv.cells.toList.length=ie.zero.length:=hl.symm▸rfl
   simp only [Array.length_toList] at this
   rw [this,h5,h6]
  have hbb:(info.bytes:Int)*(n:Int)≤281474976710656:=by
   have:info.bytes*n≤281474976710656:=by rw [g3,h4];exact hb
   have h9:((info.bytes*n:Nat):Int)≤281474976710656:=by omega
   rwa [Int.natCast_mul] at h9
  have hrun:=run_make (P:=P) w t et info zv h1 g1 g4 k k' (n:Int) (n:Int) (by omega) (Int.le_refl _) hbb (by omega)
  simp only [Int.toNat_natCast] at hrun
  have hinfo:info.size=1:=by rw [g2,h3]
  have hz0:RepD G.imm z (zv.cells[0]'(by omega)):=by
   have:=(hc G 0 (.d z) (zv.cells[0]'(by omega)) (by rw [h5];rfl) (by simp [hzs])).1
   cases this with
   | d r=>exact r
  have hle:=immExt_le hw n (madeCells zv.cells (n*info.size))
  have hnew:=hw.newImm n (madeCells zv.cells (n*info.size)) et { w with heap:=w.heap.push (.cells (madeCells zv.cells (n*info.size)) et) } rfl rfl rfl rfl
  refine ⟨.slice (some ⟨w.heap.size,0,none⟩) n n,_,_,?_,hle,hnew,.d ?_⟩
  ·unfold execOp
   simp only [ho,hx'.int_inv,hy'.int_inv,Sem.run_bind,hrun,Result.andThen_ok]
   rfl
  ·have hlen:(List.replicate n [z]).length=n:=by simp
   conv=>rhs;rw [← hlen]
   refine newImm_rep (n:=n) (fun el hel=>?_) (by simp) _ (Nat.le_refl _) (fun i el j d he hd=>?_)
   ·rw [List.eq_of_mem_replicate hel];rfl
   ·have hi:=(List.getElem?_eq_some_iff.1 he).1
    rw [List.length_replicate] at hi
    rw [List.getElem?_replicate,if_pos hi] at he
    cases he
    cases j with
    | succ j=>simp at hd
    | zero =>
     simp at hd
     subst hd
     refine ⟨zv.cells[0]'(by omega),?_,hz0.mono hle.imm⟩
     simp only [madeCells,hinfo,hzs,Nat.mul_one,Nat.add_zero,Nat.mod_one,Array.getElem?_map]
     simp [hi]
     rw [getElem!_pos zv.cells 0 (by omega)]
end
section
variable {P:Program} {E:Env} {T:Tr} {o:Oper} {ρ:Operand→AV} {h:List AObj}
theorem copyDat_ok (hT:TOk P T) {t t2 by_ i off n cap:Nat} {d s:Operand} {cells:List AV} {es:List (List Dat)} (ho:o.op=.call { callee:=.builtin .copy,args:=#[d,s],argTypes:=#[t,t2] })
  (ht:qPe T t=some (1,by_)) (hd:ρ d=.row i off n cap) (hs:ρ s=.d (.sl 1 es)) (hi:h[i]?=some (.row cells)) (hle:off+n≤cells.length) :
  OpS P E o ρ h (.d (.int .i64 (Nat.min es.length n:Nat))) (h.set i (.row (qBz cells off (qAu (es.take n))))) :=
 qBd fun G e w hw hr=>by
  have hd':RepA G (ρ d) (e d):=hr d (by simp [ho,Op.operands,Call.operands])
  have hs':RepA G (ρ s) (e s):=hr s (by simp [ho,Op.operands,Call.operands])
  rw [hd] at hd';rw [hs] at hs'
  obtain ⟨bl,hdv,hl⟩:=hd'.row_inv
  have hsd:RepD G.imm (.sl 1 es) (e s):=by cases hs' with | d r=>exact r
  obtain ⟨a,cp,hsv,hn0,hp⟩:=hsd.slice_inv
  obtain ⟨et,ie,h1,h2,hsz,rfl,hzl⟩:=appT_ok hT ht
  obtain ⟨b',hl',_,hrow,_⟩:=hw.obj i _ hi
  rw [hl] at hl';cases hl'
  cases a with
  | none =>
   obtain ⟨rfl,rfl⟩:=hn0 rfl
   obtain ⟨w',q1,q2,q3,q4,q5,q6,q7⟩:=qDk (P:=P) [] [] cells off 0 w hrow (by simp;omega) rfl (by simp)
   refine ⟨_,w',G,?_,.refl G,hw.setObj hi hl (by simpa [qAu] using q2) q3 q4 q5 q6 q7,.d (.int _ _)⟩
   unfold execOp
   simp only [ho,resolve,invoke,builtin]
   simp [hdv,hsv,Builtin.copy_,run_underlying h1,Builtin.lenOf,Builtin.firstCells,h2.run_size,goInt]
   rw [q1]
   rfl
  | some p =>
   obtain ⟨p1,p2,p3,vs,p4,p5⟩:=hp p rfl
   have hlen:∀ x,x∈es.take n→x.length=1:=fun x hx=>p3 x (List.mem_of_mem_take hx)
   have hfl:=flatAV_length hlen
   have hk:(es.take n).length=Nat.min es.length n:=by rw [List.length_take];exact Nat.min_comm _ _
   have hel:∀ j,j < Nat.min es.length n→∃ x,es[j]?=some [x]:=fun j hj=>by
    have hj':j < es.length:=Nat.lt_of_lt_of_le hj (Nat.min_le_left _ _)
    have h3:=p3 es[j] (List.getElem_mem hj')
    match hx:es[j],h3 with
    | [x],_=>exact ⟨x,by rw [List.getElem?_eq_getElem hj',hx]⟩
   have hlc:(loadCells p (Nat.min es.length n)).run P w=.ok ((List.range (Nat.min es.length n)).map vs).toArray w:=by
    refine run_loadCells (P:=P) w p (Nat.min es.length n) vs (fun j hj=>?_)
    obtain ⟨x,hx⟩:=hel j hj
    have:=hw.imm _ _ (p4 j [x] 0 x hx rfl)
    simpa using this
   obtain ⟨w',q1,q2,q3,q4,q5,q6,q7⟩:=qDk (P:=P) ((List.range (Nat.min es.length n)).map vs) (qAu (es.take n)) cells off 0 w hrow
    (by rw [List.length_map,List.length_range];have:Nat.min es.length n≤n:=Nat.min_le_right _ _;omega) (by rw [hfl,hk,List.length_map,List.length_range];omega)
    (qOt hlen (fun j x i2 y hx hy=>by
     have hj:j < Nat.min es.length n:=by rw [← hk];exact (List.getElem?_eq_some_iff.1 hx).1
     have hx':es[j]?=some x:=by
      rw [List.getElem?_take] at hx
      split at hx
      ·exact hx
      ·cases hx
     have hl1:=p3 x (List.mem_of_getElem? hx')
     have hi2:i2=0:=by have:=(List.getElem?_eq_some_iff.1 hy).1;omega
     subst hi2
     have:=p5 j x 0 y hx' hy
     exact ⟨vs (j*1+0),by simp [hj],this⟩))
   refine ⟨_,w',G,?_,.refl G,hw.setObj hi hl (by simpa using q2) q3 q4 q5 q6 q7,.d (.int _ _)⟩
   unfold execOp
   simp only [ho,resolve,invoke,builtin]
   simp [hdv,hsv,Builtin.copy_,run_underlying h1,Builtin.lenOf,Builtin.firstCells,h2.run_size,goInt,hsz,hlc]
   rw [q1]
   rfl
end
theorem loadA_agg {T:Tr} {t off:Nat} {i:TI} {cells vs:List AV} (hf:T.find t=some i) (ha:i.agg=true) (hle:off+i.size≤cells.length) (hv:(cells.drop off).take i.size=vs):qGp T t cells off=some (.agg vs):=by
 unfold qGp
 rw [hf]
 simp only [ha]
 rw [Nat.ble_eq_true_of_le hle,hv]
theorem setRun_full {cells cs:List AV} (h:cells.length=cs.length):qBz cells 0 cs=cs:=by
 apply List.ext_getElem?
 intro j
 rw [setRun_at cs cells 0 j (by omega)]
 by_cases hj:j < cs.length
 ·rw [if_pos ⟨by omega,by omega⟩];rfl
 ·rw [if_neg (by omega),List.getElem?_eq_none (by omega),List.getElem?_eq_none (by omega)]
theorem setRun_head {cells cs rest:List AV} (h:cells.length=cs.length):qBz (cells++rest) 0 cs=cs++rest:=by
 apply List.ext_getElem?
 intro j
 rw [setRun_at cs (cells++rest) 0 j (by simp;omega)]
 by_cases hj:j < cs.length
 ·rw [if_pos ⟨by omega,by omega⟩,List.getElem?_append_left hj];rfl
 ·rw [if_neg (by omega),List.getElem?_append_right (by omega),List.getElem?_append_right (by omega),h]
theorem storeA_agg {T:Tr} {t off:Nat} {i:TI} {cells cs cells':List AV} (hf:T.find t=some i) (hsz:cs.length=i.size) (hle:off+i.size≤cells.length) (hr:qBz cells off cs=cells'):qFe T t cells off (.agg cs)=some cells':=by
 unfold qFe
 rw [hf]
 simp only [qDm]
 rw [hsz,Nat.beq_refl,Nat.ble_eq_true_of_le hle,hr]
 rfl
end Tdoc

namespace Tdoc
open Go
section
variable {P:Program} {o:Oper} {ρ:Operand→AV}
end
section
variable {P:Program} {o:Oper} {ρ:Operand→AV}
theorem cellsOf {G:Gh} {ds:List Dat} {v:Value} (h:RepA G (.agg (ds.map .d)) v):∃ vs,v=.agg vs∧vs.size=ds.length∧∀ (j:Nat) (d:Dat),ds[j]?=some d→∃ v,vs[0+j]?=some v∧RepD G.imm d v:=by
 generalize hc:ds.map AV.d=cs at h
 cases h with
 | agg vs hs hv ho =>
  subst hc
  refine ⟨vs,rfl,by rw [hs,List.length_map],fun j d hj=>?_⟩
  have hjl:=(List.getElem?_eq_some_iff.1 hj).1
  have hl:j < vs.size:=by rw [hs];simpa using hjl
  have:=hv j (.d d) vs[j] (by simp [hj]) (by simp [hl])
  refine ⟨vs[j],by simp [hl],?_⟩
  cases this with
  | d r=>exact r
end
inductive Fk where
 | int (k:IntKind)
 | str
 | bool
def qMd:Dat→Option Fk
 | .int k _=>some (.int k)
 | .str _=>some .str
 | .bool _=>some .bool
 | _=>none
def qXi (P:Program):List Field→Nat→List Fk→Bool
 | [],_,[]=>true
 | f::fs,off,k::ks=>(f.name != "_")&&(Nat.beq f.offset off&&((match P.underlying f.type,k with
  | some (.int _),.int _=>true
  | some .string,.str=>true
  | some .bool,.bool=>true
  | _,_=>false)&&qXi P fs (off+1) ks))
 | _,_,_=>false
theorem qQr {m:Addr→Option Value} {d:Dat} {k:Fk} (h:qMd d=some k) {u v:Value} (hu:RepD m d u) (hv:RepD m d v):u=v:=by
 match d,h,hu,hv with
 | .int _ _,_,hu,hv=>cases hu;cases hv;rfl
 | .str _,_,hu,hv=>cases hu;cases hv;rfl
 | .bool _,_,hu,hv=>cases hu;cases hv;rfl
theorem qSu {m:Addr→Option Value} {P:Program} {w:World} {n:Nat} {xs:Array Value}:∀ (fs:List Field) (ks:List Fk) (off:Nat) (ds:List Dat),qXi P fs off ks=true→ds.map qMd=ks.map some →
  (∀ (j:Nat) (d:Dat),ds[j]?=some d→∃ v,xs[off+j]?=some v∧RepD m d v)→(Op.eqFields (n+1) xs xs fs).run P w=.ok true w
 | [],[],off,ds,_,h1,hx=>rfl
 | [],_::_,_,_,h,_,_=>by simp [qXi] at h
 | _::_,[],_,_,h,_,_=>by simp [qXi] at h
 | f::fs,k::ks,off,ds,h,h1,hx=>by
  match ds,h1 with
  | [],h1=>simp at h1
  | d::ds,h1 =>
   simp only [List.map_cons,List.cons.injEq] at h1
   simp only [qXi,Bool.and_eq_true,bne_iff_ne,ne_eq] at h
   obtain ⟨g1,g2,g3,g4⟩:=h
   have ih:=qSu (n:=n) (w:=w) (xs:=xs) (m:=m) fs ks (off+1) ds g4 h1.2 (fun j d hj=>by have:=hx (j+1) d (by simpa using hj);rwa [show off+(j+1)=off+1+j by omega] at this)
   obtain ⟨u,hu,ru⟩:=hx 0 d rfl
   rw [Nat.add_zero] at hu
   have ho:f.offset=off:=Nat.eq_of_beq_eq_true g2
   rw [← ho] at hu
   unfold Op.eqFields
   rw [if_pos g1]
   have fin:(Op.equalIn (n+1) f.type u u).run P w=.ok true w→(∃ t,P.underlying f.type=some t∧∀ w:World,(isAgg f.type).run P w=.ok false w) →
     (do let a ← part f.type xs f.offset;let b ← part f.type xs f.offset;let r ← Op.equalIn (n+1) f.type a b;if (!r)=true then pure false else Op.eqFields (n+1) xs xs fs:Sem Bool).run P w=.ok true w:=by
    rintro hb ⟨t,ht,ha⟩
    simp only [Sem.run_bind,qKi ht ha hu,Result.andThen_ok,hb]
    simpa using ih
   cases hund:P.underlying f.type with
   | none=>rw [hund] at g3;simp at g3
   | some td =>
    rw [hund] at g3
    match d,h1.1,ru with
    | .int _ x,h1,ru =>
     simp only [qMd,Option.some.injEq] at h1
     subst h1
     cases ru
     cases td <;> simp at g3
     exact fin (by rw [run_equalIn_int w n f.type _ _ x x hund];simp) ⟨_,hund,fun w=>by simp [isAgg,run_underlying hund]⟩
    | .str a,h1,ru =>
     simp only [qMd,Option.some.injEq] at h1
     subst h1
     cases ru
     cases td <;> simp at g3
     exact fin (by rw [run_equalIn_string w n f.type _ _ hund];simp) ⟨_,hund,fun w=>by simp [isAgg,run_underlying hund]⟩
    | .bool a,h1,ru =>
     simp only [qMd,Option.some.injEq] at h1
     subst h1
     cases ru
     cases td <;> simp at g3
     exact fin (by rw [run_equalIn_bool' w n f.type _ _ hund];simp) ⟨_,hund,fun w=>by simp [isAgg,run_underlying hund]⟩
    | .sl _ _,h1,_=>simp [qMd] at h1
section
variable {P:Program} {o:Oper} {ρ:Operand→AV}
theorem structSelfF_ok {t yt:Nat} {x y:Operand} {ds:List Dat} (ks:List Fk) (ho:o.op=.binOp .eql t x y yt) (hu:P.underlying t=some (.struct (P.fieldsOf t))) (hp:P.stoodInHeld t=false) (hg:P.eqGuardType P.depth t=false)
  (hf:qXi P (P.fieldsOf t).toList 0 ks=true) (hx:ρ x=.agg (ds.map .d)) (hy:ρ y=.agg (ds.map .d)) (h1:ds.map qMd=ks.map some):OpP P o ρ (.d (.bool true)):=by
 intro G e w hi hr
 have hx':RepA G (ρ x) (e x):=hr x (by simp [ho,Op.operands])
 have hy':RepA G (ρ y) (e y):=hr y (by simp [ho,Op.operands])
 rw [hx] at hx';rw [hy] at hy'
 obtain ⟨xs,hxe,hxs,hxc⟩:=cellsOf hx'
 obtain ⟨ys,hye,hys,hyc⟩:=cellsOf hy'
 have hxy:ys=xs:=by
  refine Array.ext (by rw [hxs,hys]) fun j hj1 hj2=>?_
  have hjd:j < ds.length:=by rw [← hys];exact hj1
  have hk:qMd ds[j]=some (ks[j]'(by have:=congrArg List.length h1;simp only [List.length_map] at this;omega)):=by
   have:=congrArg (fun l=>l[j]?) h1
   simp only [List.getElem?_map] at this
   rw [List.getElem?_eq_getElem hjd,List.getElem?_eq_getElem (by have:=congrArg List.length h1;simp only [List.length_map] at this;omega)] at this
   simpa using this
  obtain ⟨u,hu1,ru⟩:=hxc j ds[j] (by simp [hjd])
  obtain ⟨v,hv1,rv⟩:=hyc j ds[j] (by simp [hjd])
  rw [Nat.zero_add] at hu1 hv1
  rw [Array.getElem?_eq_getElem hj2] at hu1
  rw [Array.getElem?_eq_getElem hj1] at hv1
  simp only [Option.some.injEq] at hu1 hv1
  rw [hu1,hv1]
  exact qQr hk rv ru
 subst hxy
 refine ⟨.bool true,?_,.d (.bool _)⟩
 have heq:(Op.equalIn 10000 t (.agg ys) (.agg ys)).run P w=.ok true w:=by
  rw [show (10000:Nat)=9999+1 from rfl,run_equalIn_agg w 9999 t ys ys hu hp]
  exact qSu (n:=9998) _ ks 0 ds hf h1 hxc
 unfold execOp
 simp only [ho,Sem.run_bind]
 rw [hxe,hye,run_eqGuard_agg w .eql t x y ys ys hg]
 simp only [Result.andThen_ok,Sem.run_bind]
 rw [run_eql_struct,heq]
 rfl
end
theorem WRel.reObj {E:Env} {G:Gh} {h:List AObj} {w:World} {i:Nat} {ob ob':AObj} (hw:WRel E G h w) (hi:h[i]?=some ob) (hr:ObjRel G w i ob→ObjRel G w i ob'):WRel E G (h.set i ob') w:=by
 refine ⟨hw.le,hw.imm,hw.immNew,hw.keep,hw.size,hw.os,hw.tape,hw.output,hw.own,fun j hj=>hw.fresh j (by simpa using hj),fun j o hj=>?_⟩
 rw [List.getElem?_set] at hj
 split at hj
 ·rename_i e
  subst e
  split at hj
  ·cases hj;exact hr (hw.obj i ob hi)
  ·cases hj
 ·exact hw.obj j o hj
def cbR (s:List UInt8) (f:Nat→Option Obj) (b:Nat) (S:List Nat):Prop :=
 S=[b]∧∃ (vs:Array Value) (el:TypeId),f b=some (.cells vs el)∧vs.size=s.length∧∀ (j:Nat) (c:UInt8),s[j]?=some c→vs[j]?=some (.int .u8 (c.toNat:Int))
section
variable {P:Program} {E:Env} {T:Tr} {o:Oper} {ρ:Operand→AV} {h h':List AObj} {v:AV}
theorem buildCB_ok (hT:TOk P T) {t len i0:Nat} {parts:Array (Nat×Operand)} {s:List UInt8} (ho:o.op=.buildSlice t len parts) (hv:qOo T t len (parts.toList.map fun x=>(x.1,ρ x.2))=some (qAx s)) (hroom:h[i0]?=some .room) :
  OpS P E o ρ h (.row i0 0 len len) (h.set i0 (.opq (cbR s))):=by
 have hset:(h.set i0 (.row (qAx s))).set i0 (.opq (cbR s))=h.set i0 (.opq (cbR s)):=List.set_set ..
 refine qBd fun G e w hw hr=>?_
 obtain ⟨el,vs',hrun,hle,hw1,v1,v2⟩:=buildRow_run hT ho hv hroom G e w hw hr
 refine ⟨_,_,_,hrun,hle,?_,.row 0 _ _ (by show (if i0=i0 then _ else _)=_;simp)⟩
 rw [← hset]
 have hlt:i0 < h.length:=(List.getElem?_eq_some_iff.1 hroom).1
 refine hw1.reObj (ob:=.row (qAx s)) (by simp [hlt]) fun hob=>?_
 obtain ⟨b,h1,h2,h3,h4,h5⟩:=hob
 have hb:b=w.heap.size:=by
  have h1':(if i0=i0 then some w.heap.size else _)=some b:=h1
  simp at h1'
  exact h1'.symm
 subst hb
 refine ⟨w.heap.size,[w.heap.size],h1,List.mem_singleton.2 rfl,h5,fun k hk=>?_,⟨rfl,vs',el,?_,?_,fun j c hc=>?_⟩,fun f g hfg hR=>?_⟩
 ·rw [List.mem_singleton] at hk
  subst hk
  exact ⟨h2,h4⟩
 ·show (w.heap.push _)[w.heap.size]?=_
  exact Array.getElem?_push_size
 ·rw [v1];simp [qAx]
 ·have hcell:(qAx s)[j]?=some (.d (.int .u8 (c.toNat:Int))):=by simp [qAx,hc]
  have hj:j < vs'.size:=by rw [v1];exact (List.getElem?_eq_some_iff.1 hcell).1
  have hu:vs'[j]?=some vs'[j]:=by simp [hj]
  have:=(v2 j _ _ hcell hu).1.int_inv
  rw [hu,this]
 ·obtain ⟨r1,vs2,el2,r2,r3⟩:=hR
  exact ⟨r1,vs2,el2,by rw [← hfg w.heap.size (List.mem_singleton.2 rfl)];exact r2,r3⟩
theorem markCB_ok (hT:TOk P T) {t i0 n:Nat} {x:Operand} {s:List UInt8} (ho:o.op=.convert t t x) (hb:qEn T t=true) (hx:ρ x=.row i0 0 n n) (hi:h[i0]?=some (.opq (cbR s))) (hn:s.length=n) :
  OpS P E o ρ h (.sl 1 (s.map fun c=>[.int .u8 (c.toNat:Int)]) .full) (h.set i0 .dead):=by
 refine qBd fun G e w hw hr=>?_
 have hx':RepA G (ρ x) (e x):=hr x (by simp [ho,Op.operands])
 rw [hx] at hx'
 obtain ⟨b,hv,hlc⟩:=hx'.row_inv
 obtain ⟨b',S,k1,k2,k3,k4,⟨k5,vs,el,k6,k7,k8⟩,_⟩:=hw.obj i0 _ hi
 rw [hlc] at k1
 cases k1
 obtain ⟨kown,kimm⟩:=k4 b k2
 have k6:w.heap[b]?=some (.cells vs el):=k6
 obtain ⟨el',hel1,hel2⟩:=isByteSlice_ok hT hb
 have hbl:b < w.heap.size:=(hw.own b i0 kown).1
 have hsh:w.shape? b=some (el,vs.size):=by
  unfold World.shape?
  rw [k6]
 let w':World:=w.freeze ⟨b,vs.size,none⟩ 1
 have hheap:w'.heap=w.heap.modify b fun
   | .cells c elem (lo,hi)=>.cells c elem (if lo == hi then (vs.size,vs.size+1) else (min lo vs.size,max hi (vs.size+1)))
   | o=>o:=by
  show (w.freeze _ _).heap=_
  unfold World.freeze
  rw [if_neg (by decide)]
  rfl
 have hat:w'.heap[b]?=some (.cells vs el (vs.size,vs.size+1)):=by
  rw [hheap,Array.getElem?_modify]
  simp [k6]
 have hne:∀ k,k≠b→w'.heap[k]?=w.heap[k]?:=fun k hk=>by
  rw [hheap,Array.getElem?_modify,if_neg (fun hh=>hk hh.symm)]
 have hsz:w'.heap.size=w.heap.size:=by rw [hheap];simp
 have hfr:w'.os=w.os∧w'.tape=w.tape∧w'.output=w.output:=by
  show (w.freeze _ _).os=_∧(w.freeze _ _).tape=_∧(w.freeze _ _).output=_
  unfold World.freeze
  rw [if_neg (by decide)]
  exact ⟨rfl,rfl,rfl⟩
 have hcell:∀ a:Addr,a.block=b→w'.cell? a=w.cell? a:=fun a ha=>by
  have h1:w'.heap[a.block]?=some (.cells vs el (vs.size,vs.size+1)):=by rw [ha];exact hat
  have h2:w.heap[a.block]?=some (.cells vs el):=by rw [ha];exact k6
  simp only [World.cell?,h1,h2]
 have hrun:(execOp e o).run P w=.ok (.value (.slice (some ⟨b,0,none⟩) n n)) w':=by
  unfold execOp
  simp only [ho,Sem.run_bind]
  simp [hv,convert,run_underlying hel1,run_underlying hel2,markStringish,hsh]
  rfl
 have hle:G.le (qGf G b n vs):=by
  refine ⟨fun a u ha=>?_,fun _ _ x=>x,fun _ _ _ x=>x,fun _ _ x=>x⟩
  show (if a.block=b then _ else G.imm a)=some u
  rw [if_neg (fun hh=>by rw [kimm a hh] at ha;cases ha)]
  exact ha
 have hrd:∀ (j:Nat) (c:UInt8),s[j]?=some c→(qGf G b n vs).imm ((⟨b,0,none⟩:Addr).add j)=some (.int .u8 (c.toNat:Int)):=fun j c hc=>by
  rw [qCd,Nat.zero_add]
  show (if b=b then (if (none:Option Nat)=none∧j < n then vs[j]? else none) else _)=_
  have hj:j < n:=by rw [← hn];exact (List.getElem?_eq_some_iff.1 hc).1
  simp [hj,k8 j c hc]
 refine ⟨_,w',qGf G b n vs,hrun,hle,?_,.sl ?_ ?_⟩
 ·have hNK:¬ E.K b:=(hw.own b i0 kown).2
  refine ⟨hw.le.trans hle,fun a u ha=>?_,fun a u ha=>?_,fun k hk=>?_,by rw [hsz];exact hw.size,hfr.1.trans hw.os,hfr.2.1.trans hw.tape,hfr.2.2.trans hw.output,fun k i hk=>by rw [hsz];exact hw.own k i hk,fun j hj=>hw.fresh j (by simpa using hj),fun j ob hj=>?_⟩
  ·have ha':(if a.block=b then (if a.spot=none∧a.off < n then vs[a.off]? else none) else G.imm a)=some u:=ha
   split at ha'
   ·rename_i hab
    split at ha'
    ·rename_i hs
     rw [hcell a hab]
     have h2:w.heap[a.block]?=some (.cells vs el):=by rw [hab];exact k6
     simp only [World.cell?,h2,hs.1]
     simpa using ha'
    ·cases ha'
   ·rename_i hab
    rw [World.cell?_of_block (w:=w) (hne _ hab)]
    exact hw.imm a u ha'
  ·have ha':(if a.block=b then (if a.spot=none∧a.off < n then vs[a.off]? else none) else G.imm a)=some u:=ha
   split at ha'
   ·rename_i hab;right;rw [hab];exact hNK
   ·exact hw.immNew a u ha'
  ·rw [hne k (fun hh=>hNK (hh▸hk))]
   exact hw.keep k hk
  ·rw [List.getElem?_set] at hj
   split at hj
   ·rename_i e
    subst e
    split at hj
    ·cases hj;trivial
    ·cases hj
   ·rename_i hij
    refine (hw.obj j ob hj).keep hle (fun k hk=>?_) (fun m hm=>hm) (fun hm=>hm)
    have hkb:k≠b:=fun hh=>by rw [hh,kown] at hk;cases hk;exact hij rfl
    refine ⟨hne k hkb,fun a ha=>?_⟩
    show (if a.block=b then _ else G.imm a)=G.imm a
    rw [if_neg (by rw [ha];exact hkb)]
 ·have hl:n=(s.map fun c=>[Dat.int .u8 (c.toNat:Int)]).length:=by simp [hn]
  rw [hl]
  refine .sl 1 _ ⟨b,0,none⟩ _ (fun j=>vs.getD j undef) (fun _=>rfl) (Nat.le_refl _) (fun e he=>?_) (fun i e j d he hd=>?_) (fun i e j d he hd=>?_)
  ·obtain ⟨c,_,rfl⟩:=List.mem_map.1 he
   rfl
  ·simp only [List.getElem?_map,Option.map_eq_some_iff] at he
   obtain ⟨c,hc,rfl⟩:=he
   cases j with
   | succ j=>simp at hd
   | zero =>
    rw [← hl,Nat.mul_one,Nat.add_zero,hrd i c hc]
    simp [Array.getD_eq_getD_getElem?,k8 i c hc]
  ·simp only [List.getElem?_map,Option.map_eq_some_iff] at he
   obtain ⟨c,hc,rfl⟩:=he
   cases j with
   | succ j=>simp at hd
   | zero =>
    simp at hd
    subst hd
    rw [Nat.mul_one,Nat.add_zero]
    simp only [Array.getD_eq_getD_getElem?,k8 i c hc,Option.getD_some]
    exact .int _ _
 ·exact ⟨some ⟨b,0,none⟩,by simp [hn],fun p hp=>by cases hp;rfl⟩
end
theorem Spec.weak {P:Program} {f:FuncId} {args:List AV} {h H:List AObj} {a b:AV} (S:Spec P f args h (fun r h'=>r=a∧h'=H)) (hab:AV.le a b) (hb:low h.length b=true):Spec P f args h (fun r h'=>r=b∧h'=H) :=
 ⟨S.1,fun G w vals h1 h2 ht h3=>(S.2 G w vals h1 h2 ht h3).mono fun e w' ⟨v,r,h',G',k1,⟨k2,k3⟩,k4,k5,k6,k7,k8⟩=>by
  subst k2
  exact ⟨v,b,h',G',k1,⟨rfl,k3⟩,k4,hb,k6,hab _ _ k7,k8⟩⟩
theorem WRel.newOpqAt {E:Env} {G:Gh} {h:List AObj} {w:World} {i0:Nat} (hw:WRel E G h w) (hroom:h[i0]?=some .room) (ob:Obj) (R:(Nat→Option Obj)→Nat→List Nat→Prop) (w':World) (hh:w'.heap=w.heap.push ob) (ho:w'.os=w.os) (ht:w'.tape=w.tape) (hout:w'.output=w.output)
  (hR:∀ f:Nat→Option Obj,f w.heap.size=some ob→R f w.heap.size [w.heap.size]) (hloc:∀ (b:Nat) (f g:Nat→Option Obj),(∀ k,k∈[b]→f k=g k)→R f b [b]→R g b [b]) :
  G.le (qDr G i0 w.heap.size)∧WRel E (qDr G i0 w.heap.size) (h.set i0 (.opq R)) w':=by
 have hf:=hw.obj i0 _ hroom
 have hi0:i0 < h.length:=(List.getElem?_eq_some_iff.1 hroom).1
 have hown:G.own w.heap.size=none:=by
  cases ho:G.own w.heap.size with
  | none=>rfl
  | some i=>have:=(hw.own _ _ ho).1;omega
 have hle:G.le (qDr G i0 w.heap.size):=by
  refine ⟨fun _ _ x=>x,fun i b x=>?_,fun _ _ _ x=>x,fun b i x=>?_⟩
  ·show (if i=i0 then some w.heap.size else G.loc i)=some b
   split
   ·rename_i e;subst e;rw [hf.1] at x;cases x
   ·exact x
  ·show (if b=w.heap.size then some i0 else G.own b)=some i
   split
   ·rename_i e;subst e;rw [hown] at x;cases x
   ·exact x
 have hK:¬ E.K w.heap.size:=fun hk=>by have:=hw.size;have:=hk.1;omega
 have hnew:w'.heap[w.heap.size]?=some ob:=by rw [hh];exact Array.getElem?_push_size
 refine ⟨hle,hw.le.trans hle,fun a v ha=>?_,hw.immNew,fun b hb=>?_,by rw [hh];simp;have:=hw.size;omega,ho.trans hw.os,ht.trans hw.tape,hout.trans hw.output,fun b i hb=>?_,fun i hi=>?_,fun i ob' hi=>?_⟩
 ·have hc:=hw.imm a v ha
  rw [World.cell?_of_block (w:=w) (by rw [hh];exact qBa _ _ _ (World.block_lt_of_cell? _ _ hc))]
  exact hc
 ·rw [hh,qBa _ _ _ (Nat.lt_of_lt_of_le hb.1 hw.size)];exact hw.keep b hb
 ·have hb':(if b=w.heap.size then some i0 else G.own b)=some i:=hb
  split at hb'
  ·rename_i e;subst e;exact ⟨by rw [hh];simp,hK⟩
  ·have:=hw.own b i hb';exact ⟨by rw [hh];simp;omega,this.2⟩
 ·simp only [List.length_set] at hi
  have:=hw.fresh i (by omega)
  refine ⟨?_,this.2⟩
  show (if i=i0 then some w.heap.size else G.loc i)=none
  rw [if_neg (by omega)];exact this.1
 ·rw [List.getElem?_set] at hi
  by_cases hie:i0=i
  ·subst hie
   simp only [if_true,hi0] at hi
   cases hi
   refine ⟨w.heap.size,[w.heap.size],?_,List.mem_singleton.2 rfl,fun n=>hf.2 n,fun k hk=>?_,hR _ hnew,hloc _⟩
   ·show (if i0=i0 then _ else _)=_;simp
   ·rw [List.mem_singleton] at hk
    subst hk
    refine ⟨?_,fun a ha=>?_⟩
    ·show (if w.heap.size=w.heap.size then _ else _)=_;simp
    ·cases hg:G.imm a with
     | none=>exact hg
     | some v=>have:=World.block_lt_of_cell? _ _ (hw.imm a v hg);omega
  ·rw [if_neg hie] at hi
   refine (hw.obj i ob' hi).keep hle (fun b hb=>?_) (fun n hn=>hn) (fun hn=>by show (if i=i0 then _ else G.loc i)=none;rw [if_neg (fun e=>hie e.symm)];exact hn)
   exact ⟨by rw [hh];exact qBa _ _ _ (hw.own b i hb).1,fun a ha=>rfl⟩
theorem WRel.setOpq {E:Env} {G:Gh} {h:List AObj} {w:World} {i b:Nat} {o':Obj} {R R':(Nat→Option Obj)→Nat→List Nat→Prop} (hw:WRel E G h w) (hi:h[i]?=some (.opq R)) (hl:G.loc i=some b) (hown:G.own b=some i) (himm:∀ a:Addr,a.block=b→G.imm a=none)
  (hb:b < w.heap.size) (w':World) (hh:w'.heap=w.heap.setIfInBounds b o') (ho:w'.os=w.os) (ht:w'.tape=w.tape) (hout:w'.output=w.output)
  (hR:∀ f:Nat→Option Obj,f b=some o'→R' f b [b]) (hloc:∀ (b:Nat) (f g:Nat→Option Obj),(∀ k,k∈[b]→f k=g k)→R' f b [b]→R' g b [b]):WRel E G (h.set i (.opq R')) w':=by
 have hat:w'.heap[b]?=some o':=by rw [hh];simp [hb]
 have hne:∀ k,k≠b→w'.heap[k]?=w.heap[k]?:=fun k hk=>by rw [hh];simp [Ne.symm hk]
 have hsz:w'.heap.size=w.heap.size:=by rw [hh];simp
 have hNK:¬ E.K b:=(hw.own b i hown).2
 refine ⟨hw.le,fun a u ha=>?_,hw.immNew,fun k hk=>?_,by rw [hsz];exact hw.size,ho.trans hw.os,ht.trans hw.tape,hout.trans hw.output,fun k j hk=>by rw [hsz];exact hw.own k j hk,fun j hj=>hw.fresh j (by simpa using hj),fun j ob hj=>?_⟩
 ·have hab:a.block≠b:=fun hh=>by rw [himm a hh] at ha;cases ha
  rw [World.cell?_of_block (w:=w) (hne _ hab)]
  exact hw.imm a u ha
 ·rw [hne k (fun hh=>hNK (hh▸hk))]
  exact hw.keep k hk
 ·rw [List.getElem?_set] at hj
  split at hj
  ·rename_i e
   subst e
   split at hj
   ·cases hj
    obtain ⟨b',S,k1,k2,k3,k4,_,_⟩:=hw.obj i _ hi
    rw [hl] at k1
    cases k1
    exact ⟨b,[b],hl,List.mem_singleton.2 rfl,k3,fun k hk=>by rw [List.mem_singleton] at hk;subst hk;exact ⟨hown,himm⟩,hR _ hat,hloc b⟩
   ·cases hj
  ·rename_i hij
   refine (hw.obj j ob hj).keep (.refl G) (fun k hk=>?_) (fun m hm=>hm) (fun hm=>hm)
   have hkb:k≠b:=fun hh=>by rw [hh,hown] at hk;cases hk;exact hij rfl
   exact ⟨hne k hkb,fun a ha=>rfl⟩
section
variable {P:Program} {E:Env} {T:Tr} {o:Oper} {ρ:Operand→AV} {h h':List AObj} {v:AV}
theorem RepA.mp_inv {G:Gh} {v:Value} {i:Nat} (h:RepA G (.mp i) v):∃ b,v=.map (some b)∧G.loc i=some b:=by cases h with | mp r=>exact ⟨_,rfl,r⟩
theorem RepA.ptr_inv0 {G:Gh} {v:Value} {i:Nat} (h:RepA G (.ptr i 0) v):∃ b,v=.pointer (some ⟨b,0,none⟩)∧G.loc i=some b:=by cases h with | ptr _ r=>exact ⟨_,rfl,r⟩
end
def fnV (g b:Nat):Value:=.func (.func g) #[.pointer (some ⟨b,0,none⟩)] #[]
structure MapIsV (A:List (Int×Nat)) (b0:Nat) (es:Array MapEntry) (clock:Nat):Prop where
 st:MapKept.Stamped es clock
 fwd:∀ e,e∈es.toList→∃ p,p∈A∧e.key=.int .i64 p.1∧e.val=fnV p.2 b0
 bwd:∀ p,p∈A→∃ e,e∈es.toList∧e.key=.int .i64 p.1∧e.val=fnV p.2 b0
def qJk (b0:Nat) (A:List (Int×Nat)) (f:Nat→Option Obj) (b:Nat) (S:List Nat):Prop:=S=[b]∧∃ es clock,f b=some (.map es clock)∧MapIsV A b0 es clock
theorem mapVR_loc {b0:Nat} {A:List (Int×Nat)} {b:Nat} (f g:Nat→Option Obj) (h:∀ k,k∈[b]→f k=g k) (hr:qJk b0 A f b [b]):qJk b0 A g b [b]:=by
 obtain ⟨h1,es,c,h2,h3⟩:=hr
 exact ⟨h1,es,c,by rw [← h b (List.mem_singleton.2 rfl)];exact h2,h3⟩
section
variable {P:Program} {E:Env} {o:Oper} {ρ:Operand→AV} {h:List AObj}
theorem makeMapV_ok {t m:Nat} (b0:Nat) (ho:o.op=.makeMap t none) (hroom:h[m]?=some .room):OpS P E o ρ h (.mp m) (h.set m (.opq (qJk b0 []))) :=
 qBd fun G e w hw hr=>by
  have hn:=hw.newOpqAt hroom (.map #[] 0) (qJk b0 []) (w.alloc (.map #[] 0)) rfl rfl rfl rfl (fun f hf=>⟨rfl,#[],0,hf,MapKept.stamped_empty 0,fun e he=>by simp at he,fun p hp=>by cases hp⟩) (fun b f g=>mapVR_loc f g)
  refine ⟨.map (some w.heap.size),_,_,?_,hn.1,hn.2,.mp (by show (if m=m then _ else _)=_;simp)⟩
  unfold execOp
  simp [ho,Instr.makeMap]
theorem insertV_ok {t kt et m g i b0:Nat} {x kx vx:Operand} {A:List (Int×Nat)} {n:Int} {d:TypeDesc} (ho:o.op=.insert t x kx vx) (ht:P.underlying t=some (.map kt et)) (hd:P.underlying kt=some d) (hx:ρ x=.mp m) (hk:ρ kx=.d (.int .i64 n)) (hv:ρ vx=.fn (.func g) [.pv i b0] [])
  (hi:h[m]?=some (.opq (qJk b0 A))) (hkey:∀ n,MapKept.IsKey d (.int .i64 n)) (hnew:∀ p,p∈A→p.1≠n):OpS P E o ρ h .any (h.set m (.opq (qJk b0 ((n,g)::A)))) :=
 qEr fun G e w hw hr=>by
  have hx':RepA G (ρ x) (e x):=hr x (by simp [ho,Op.operands])
  have hk':RepA G (ρ kx) (e kx):=hr kx (by simp [ho,Op.operands])
  have hv':RepA G (ρ vx) (e vx):=hr vx (by simp [ho,Op.operands])
  rw [hx] at hx';rw [hk] at hk';rw [hv] at hv'
  obtain ⟨b,hxv,hlb⟩:=hx'.mp_inv
  have hkv:e kx=.int .i64 n:=hk'.int_inv
  have hvv:e vx=fnV g b0:=by
   generalize e vx=u at hv'
   cases hv' with
   | fn _ fs cs h1 h2 h3 h4 =>
    obtain ⟨fl⟩:=fs
    obtain ⟨cl⟩:=cs
    match fl,h1,cl,h2 with
    | [f0],_,[],_ =>
     have:=h3 0 (.pv i b0) f0 rfl rfl
     cases this
     rfl
  obtain ⟨b',S,k1,k2,k3,k4,⟨k5,es,clock,k6,k7⟩,_⟩:=hw.obj m _ hi
  rw [hlb] at k1
  cases k1
  have k6:w.heap[b]?=some (.map es clock):=k6
  obtain ⟨kown,kimm⟩:=k4 b k2
  have hbl:b < w.heap.size:=(hw.own b m kown).1
  have hkk:=hkey n
  have hks:∀ x,x∈es.toList→MapKept.IsKey d x.key:=fun y hy=>by
   obtain ⟨p,hp,h1,_⟩:=k7.fwd y hy
   rw [h1]
   exact hkey p.1
  have hne:∀ x,x∈es.toList→x.key≠.int .i64 n:=fun y hy hh=>by
   obtain ⟨p,hp,h1,_⟩:=k7.fwd y hy
   rw [h1] at hh
   injection hh with _ h2
   exact hnew p hp h2
  have hfind:Instr.findNow d (.int .i64 n) es.toList 0=some none:=by
   rcases MapKept.findNow_spec hkk es.toList 0 hks with ⟨h1,_⟩ | ⟨j,e',_,h2,h3⟩
   ·exact h1
   ·exact absurd h3 (hne e' (List.mem_of_getElem? h2))
  refine ⟨{ w with heap:=w.heap.setIfInBounds b (.map (es.push { key:=.int .i64 n,val:=fnV g b0,born:=clock }) (clock+1)) },G,?_,.refl G,
   hw.setOpq hi hlb kown kimm hbl _ rfl rfl rfl rfl (fun f hf=>⟨rfl,_,_,hf,MapKept.stamped_push k7.st hne,fun y hy=>?_,fun p hp=>?_⟩) (fun b f g=>mapVR_loc f g)⟩
  ·unfold execOp
   simp [ho,hxv,hkv,hvv,Instr.mapUpdate,run_underlying ht,MapKept.run_getObj_map k6,MapKept.run_checkKey hd hkk,MapKept.run_findKey hd hfind,MapKept.run_setObj_map _ k6,Result.andThen]
  ·simp only [Array.toList_push,List.mem_append,List.mem_singleton] at hy
   rcases hy with hy | rfl
   ·obtain ⟨p,hp,h1,h2⟩:=k7.fwd y hy
    exact ⟨p,List.mem_cons_of_mem _ hp,h1,h2⟩
   ·exact ⟨(n,g),List.mem_cons_self,rfl,rfl⟩
  ·rcases List.mem_cons.1 hp with rfl | hp
   ·exact ⟨{ key:=.int .i64 n,val:=fnV g b0,born:=clock },by simp,rfl,rfl⟩
   ·obtain ⟨y,hy,h1,h2⟩:=k7.bwd p hp
    exact ⟨y,by simp [hy],h1,h2⟩
theorem lookupV_ok {t kt et m g b0:Nat} {x kx:Operand} {A:List (Int×Nat)} {n:Int} {d:TypeDesc} (ho:o.op=.lookup t x kx false) (ht:P.underlying t=some (.map kt et)) (hd:P.underlying kt=some d) (hx:ρ x=.mp m) (hk:ρ kx=.d (.int .i64 n))
  (hi:h[m]?=some (.opq (qJk b0 A))) (hkey:∀ n,MapKept.IsKey d (.int .i64 n)) (hmem:(n,g)∈A) (huniq:∀ p,p∈A→p.1=n→p.2=g):OpS P E o ρ h (.fn (.func g) [.pb b0] []) h :=
 qBd fun G e w hw hr=>by
  have hx':RepA G (ρ x) (e x):=hr x (by simp [ho,Op.operands])
  have hk':RepA G (ρ kx) (e kx):=hr kx (by simp [ho,Op.operands])
  rw [hx] at hx';rw [hk] at hk'
  obtain ⟨b,hxv,hlb⟩:=hx'.mp_inv
  have hkv:e kx=.int .i64 n:=hk'.int_inv
  obtain ⟨b',S,k1,k2,k3,k4,⟨k5,es,clock,k6,k7⟩,_⟩:=hw.obj m _ hi
  rw [hlb] at k1
  cases k1
  have k6:w.heap[b]?=some (.map es clock):=k6
  have hkk:=hkey n
  have hks:∀ x,x∈es.toList→MapKept.IsKey d x.key:=fun y hy=>by
   obtain ⟨p,hp,h1,_⟩:=k7.fwd y hy
   rw [h1]
   exact hkey p.1
  obtain ⟨j,hfind⟩:∃ j,Instr.findNow d (.int .i64 n) es.toList 0=some (some (j,fnV g b0)):=by
   rcases MapKept.findNow_spec hkk es.toList 0 hks with ⟨_,h2⟩ | ⟨j,e',h1,h2,h3⟩
   ·obtain ⟨y,hy,h3,_⟩:=k7.bwd _ hmem
    exact absurd h3 (h2 y hy)
   ·obtain ⟨p,hp,q1,q2⟩:=k7.fwd e' (List.mem_of_getElem? h2)
    rw [h3] at q1
    injection q1 with _ q3
    rw [q2,huniq p hp q3.symm] at h1
    exact ⟨_,h1⟩
  refine ⟨fnV g b0,w,G,?_,.refl G,hw,?_⟩
  ·unfold execOp
   simp [ho,hxv,hkv,Instr.lookup,run_underlying ht,MapKept.run_getObj_map k6,MapKept.run_checkKey hd hkk,MapKept.run_findKey hd hfind,Result.andThen]
  ·refine .fn _ _ _ rfl rfl (fun j y v hy hv=>?_) (fun j y v hy=>by simp at hy)
   match j,hy with
   | 0,hy =>
    cases hy
    have:v=.pointer (some ⟨b0,0,none⟩):=by simp at hv;exact hv.symm
    rw [this]
    exact .pb b0
   | j+1,hy=>simp at hy
theorem eqFn_ok {t yt:Nat} {x y:Operand} {f:Fn} {first cap:List AV} {ps rs:Array TypeId} {vr:Bool} (ho:o.op=.binOp .eql t x y yt) (hu:P.underlying t=some (.func ps rs vr)) (hx:ρ x=.fn f first cap) (hy:ρ y=.nilf):OpP P o ρ (.d (.bool false)):=by
 intro G e w hi hr
 have hx':RepA G (ρ x) (e x):=hr x (by simp [ho,Op.operands])
 have hy':RepA G (ρ y) (e y):=hr y (by simp [ho,Op.operands])
 rw [hx] at hx';rw [hy] at hy'
 have ey:e y=.nilFunc:=by
  generalize e y=v at hy'
  cases hy';rfl
 obtain ⟨fs,cs,ex⟩:∃ fs cs,e x=.func f fs cs:=by
  generalize e x=v at hx'
  cases hx' with
  | fn _ fs cs _ _ _ _=>exact ⟨fs,cs,rfl⟩
 refine ⟨.bool false,?_,.d (.bool false)⟩
 have hg:(eqGuard .eql t x y (.func f fs cs) .nilFunc).run P w=.ok () w:=eqGuard_run _ _ _ _ _ _ (by simp) (by simp)
 have he:(Op.equal t (.func f fs cs) .nilFunc).run P w=.ok false w:=by
  show (Op.equalIn (9999+1) t _ _).run P w=_
  rw [Op.equalIn]
  simp [run_underlying hu]
 unfold execOp
 simp only [ho,Sem.run_bind]
 rw [ex,ey,hg]
 simp [Go.binOp,he]
end
theorem qHa {s t:Nat} {v:AV} {l:List (Nat×AV)} (hs:s≠t):look ((t,v)::l) s=look l s:=by
 show (bif Nat.beq s t then v else look l s)=look l s
 rw [show Nat.beq s t=false by
  cases hb:Nat.beq s t with
  | false=>rfl
  | true=>exact absurd (Nat.eq_of_beq_eq_true hb) hs]
 rfl
theorem qTu {P:Program} {E:Env} {N:Nat} {Q:Exit→(Nat→AV)→List AObj→Prop} {c:Code} {l:List (Nat×AV)} {h:List AObj} (t i:Nat) (ht:look l t=.ptr i 0) (hc:∀ b,AW P E N c Q (look ((t,.pv i b)::l)) h):AW P E N c Q (look l) h:=by
 rintro a w ⟨h1,h2,G,hw,hr⟩
 have ht':=hr t
 rw [ht] at ht'
 obtain ⟨b,hb,hl⟩:=ht'.ptr_inv0
 refine hc b a w ⟨h1,h2,G,hw,fun s=>?_⟩
 by_cases hs:s=t
 ·subst hs
  have e:look ((s,AV.pv i b)::l) s=.pv i b:=qHb
  rw [e,hb]
  exact .pv hl
 ·rw [qHa hs]
  exact hr s
theorem qXd {P:Program} {E:Env} {N:Nat} {Q:Exit→(Nat→AV)→List AObj→Prop} {c:Code} {l:List (Nat×AV)} {h:List AObj} (t s:Nat) {i b g:Nat} (ht:look l t=.pv i b) (hs:look l s=.fn (.func g) [.pb b] []) (hc:AW P E N c Q (look ((s,.fn (.func g) [.ptr i 0] [])::l)) h):AW P E N c Q (look l) h:=by
 rintro a w ⟨h1,h2,G,hw,hr⟩
 have ht':=hr t
 rw [ht] at ht'
 have hs':=hr s
 rw [hs] at hs'
 refine hc a w ⟨h1,h2,G,hw,fun u=>?_⟩
 have hl:G.loc i=some b:=by
  generalize a.tmps.getD t undef=x at ht'
  cases ht' with
  | pv hl=>exact hl
 by_cases hu:u=s
 ·subst hu
  rw [qHb]
  generalize a.tmps.getD u undef=x at hs' ⊢
  cases hs' with
  | fn _ fs cs q1 q2 q3 q4 =>
   refine .fn _ fs cs q1 q2 (fun j y v hy hv=>?_) q4
   match j,hy with
   | 0,hy =>
    cases hy
    have:=q3 0 (.pb b) v rfl hv
    cases this
    exact .ptr 0 hl
   | j+1,hy=>simp at hy
 ·rw [qHa hu]
  exact hr u
end Tdoc
namespace Tdoc
open Go
section
variable {P:Program} {T:Tr} {E:Env} {o:Oper} {ρ:Operand→AV} {h:List AObj} {v:AV}
open Classical in
theorem bufApp0G_ok (hT:TOk P T) {t t2 sz by_ i m:Nat} {s x:Operand} {cs2:List AV} (ho:o.op=.call { callee:=.builtin .append,args:=#[s,x],argTypes:=#[t,t2] })
  (ht:qPe T t=some (sz,by_)) (ht2:qPr T t2=true) (hs:ρ s=.sl sz [] .full∨ρ s=.nils) (hsx:s≠x) (hi:h[i]?=some .room) (hl2:cs2.length=m*sz)
  (hsrc:∀ (G:Gh) (xv:Value) (w:World),WRel E G (h.set i (.buf sz 0 [])) w→RepA G (ρ x) xv→∃ news,Src P w xv m sz news∧news.length=m*sz∧(∀ (k:Nat) (u:Value),news[k]?=some u→qFv u=true)∧∀ (j:Nat) (c:AV),cs2[j]?=some c→∃ u,news[j]?=some u∧RepA G c u) (hb:m*(by_+1)≤140737488355328) :
  OpS P E o ρ h (.bm i m) (h.set i (.buf sz m cs2)):=by
 intro G a w hw hr
 have hs':RepA G (ρ s) (a.eval s):=hr s (by simp [ho,Op.operands,Call.operands])
 obtain ⟨p,hv',hsp⟩:∃ p:Option Addr,a.eval s=.slice p 0 0∧∀ q,p=some q→q.spot=none:=by
  rcases hs with ht | ht
  ·rw [ht] at hs'
   generalize a.eval s=u at hs'
   cases hs' with
   | sl r k =>
    obtain ⟨p,rfl,hk⟩:=k
    exact ⟨p,rfl,hk⟩
  ·rw [ht] at hs'
   generalize a.eval s=u at hs'
   cases hs';exact ⟨none,rfl,fun q hq=>by cases hq⟩
 have hrm:=hw.obj i _ hi
 have hilt:i < h.length:=(List.getElem?_eq_some_iff.1 hi).1
 have hle:=rtSet_le (G:=G) (i:=i) (n:=0) (x:=(p,0)) (hrm.2 0)
 have hw1:WRel E (qJi G i 0 (p,0)) (h.set i (.buf sz 0 [])) w:=by
  refine ⟨hw.le.trans hle,hw.imm,hw.immNew,hw.keep,hw.size,hw.os,hw.tape,hw.output,hw.own,fun j hj=>?_,fun j o hj=>?_⟩
  ·simp only [List.length_set] at hj
   have:=hw.fresh j hj
   exact ⟨this.1,fun n=>by rw [rtSet_ne (by omega)];exact this.2 n⟩
  ·rw [List.getElem?_set] at hj
   by_cases hij:i=j
   ·subst hij
    simp only [if_true,hilt] at hj
    cases hj
    exact ⟨p,0,rtSet_at _ _ _ _,fun n' hn'=>by rw [rtSet_ne (by omega)];exact hrm.2 n',by simp,Nat.le_refl _,⟨fun _=>rfl,hsp⟩,fun _ _ hc=>by omega⟩
   ·rw [if_neg hij] at hj
    exact (hw.obj j o hj).keep hle (fun b hb=>⟨rfl,fun _ _=>rfl⟩) (fun n hn=>by rw [rtSet_ne (fun hc=>hij hc.1.symm)];exact hn) (fun hn=>hn)
 have hstep:=bufAppG_ok (P:=P) (E:=E) (T:=T) (o:=o) (ρ:=fun y=>if y=s then .bm i 0 else ρ y) (h:=h.set i (.buf sz 0 [])) (i:=i) (n:=0) (cells:=[]) hT ho ht ht2 (if_pos rfl) (by simp [hilt])
  hl2 (by show ∀ G xv w,_→RepA G (if x=s then _ else ρ x) xv→_;rw [if_neg (fun hh=>hsx hh.symm)];exact hsrc) (by simpa using hb)
 have:=hstep (qJi G i 0 (p,0)) a w hw1 (fun y hy=>by
  show RepA _ (if y=s then _ else ρ y) _
  split
  ·rename_i e;subst e;rw [hv'];exact .bm _ _ (rtSet_at _ _ _ _) (fun _=>rfl)
  ·exact (hr y hy).mono hle)
 refine qDq ?_ this
 rintro a' w' ⟨u,G',k1,k2,k3,k4⟩
 refine ⟨u,G',k1,hle.trans k2,?_,by simpa using k4⟩
 rw [List.set_set] at k3
 simpa using k3
theorem bufApp0_ok (hT:TOk P T) {t t2 sz by_ i:Nat} {s x:Operand} {es2:List (List Dat)} (ho:o.op=.call { callee:=.builtin .append,args:=#[s,x],argTypes:=#[t,t2] })
  (ht:qPe T t=some (sz,by_)) (ht2:qPr T t2=true) (hs:ρ s=.sl sz [] .full∨ρ s=.nils) (hsx:s≠x) (hi:h[i]?=some .room) (hx:qGh sz (ρ x)=some es2) (hb:es2.length*(by_+1)≤140737488355328) :
  OpS P E o ρ h (.bm i es2.length) (h.set i (.buf sz es2.length (qAu es2))):=by
 intro G e w hw hr
 have hx':=hr x (by simp [ho,Op.operands,Call.operands])
 have hl:=(asNew_src (P:=P) hw.imm hx' hx).1
 refine bufApp0G_ok (m:=es2.length) (cs2:=qAu es2) hT ho ht ht2 hs hsx hi (flatAV_length hl) (fun G xv w hw hx=>?_) hb G e w hw hr
 obtain ⟨_,news,n1,n2,n3,n4⟩:=asNew_src (P:=P) hw.imm hx ‹qGh sz (ρ x)=some es2›
 refine ⟨news,n1,n2,n3,fun j c hj=>?_⟩
 simp only [qAu,List.getElem?_map,Option.map_eq_some_iff] at hj
 obtain ⟨d,hd,rfl⟩:=hj
 obtain ⟨i',j',el,e1,e2,rfl⟩:=qDi hl hd
 obtain ⟨u,hu,hru⟩:=n4 i' el j' d e1 e2
 exact ⟨u,hu,.d hru⟩
end
end Tdoc
namespace Tdoc
open Go
section
variable {P:Program} {E:Env} {T:Tr} {o:Oper} {ρ:Operand→AV} {h:List AObj}
theorem fieldAddrB_ok (hT:TOk P T) {t f i n off sz of s:Nat} {g:Bool} {x:Operand} {cells:List AV} (ho:o.op=.fieldAddr t x f) (hx:ρ x=.bp i n off) (hi:h[i]?=some (.buf sz n cells)) (hf:qMh T t f=some (of,s,g)) (hs:Nat.beq s 0=false) :
  OpS P E o ρ h (.bp i n (off+of)) h :=
 qBd fun G e w hw hr=>by
  have hx':RepA G (ρ x) (e x):=hr x (by simp [ho,Op.operands])
  rw [hx] at hx'
  obtain ⟨p,cap,hp,hl⟩:=hx'.bp_inv
  obtain ⟨a',cap',hl',_,hb1,hb2,hb3,hb4⟩:=hw.obj i _ hi
  rw [hl] at hl';cases hl'
  have hsp:=hb3.2 p rfl
  obtain ⟨fields,fd,h1,h2,h3,⟨j,h4,h5⟩,h6⟩:=fieldT_ok hT hf
  have hs':¬ s=0:=fun hh=>by subst hh;simp at hs
  have hrun:∀ a:Addr,(Instr.fieldAt t (.pointer (some a)) f).run P w=.ok (.pointer (some (a.add of))) w:=by
   intro a
   simp [Instr.fieldAt,run_underlying h1,h2,Instr.sureAddr,fieldPlace,Go.sizeOf,typeInfo,h4,h5,hs',h3]
  refine ⟨.pointer (some (p.add (off+of))),w,G,?_,.refl G,hw,.bp p cap _ hl⟩
  unfold execOp
  simp only [ho,Sem.run_bind]
  rw [hp,hrun,qCe p hsp]
  rfl
end
theorem WRel.freezeBuf {E:Env} {G:Gh} {h:List AObj} {w:World} {i n sz:Nat} {cells:List AV} {es:List (List Dat)} (hw:WRel E G h w) (hi:h[i]?=some (.buf sz n cells)) (hn:es.length=n) (hd:RowDat cells 0 sz es) :
  ∃ G',G.le G'∧WRel E G' (h.set i (.right sz n)) w∧∀ v,RepA G (.bm i n) v→RepA G' (.sl sz es (.right i)) v:=by
 obtain ⟨p,cap,hl,hlater,hb1,hb2,hb3,hb4⟩:=hw.obj i _ hi
 have hilt:i < h.length:=(List.getElem?_eq_some_iff.1 hi).1
 cases p with
 | none =>
  have hc0:=hb3.1 rfl
  have hn0:n=0:=by omega
  have hes:es=[]:=List.length_eq_zero_iff.1 (by omega)
  subst hn0;subst hes;subst hc0
  refine ⟨G,.refl G,⟨hw.le,hw.imm,hw.immNew,hw.keep,hw.size,hw.os,hw.tape,hw.output,hw.own,fun j hj=>hw.fresh j (by simpa using hj),fun j o hj=>?_⟩,fun v hv=>?_⟩
  ·rw [List.getElem?_set] at hj
   by_cases hij:i=j
   ·subst hij
    simp only [if_true,hilt] at hj
    cases hj
    exact ⟨none,0,hl,Nat.le_refl _,hlater,fun hlt=>by omega⟩
   ·rw [if_neg hij] at hj;exact hw.obj j o hj
  ·obtain ⟨p',cap',rfl,hl'⟩:=hv.bm_inv
   rw [hl] at hl';cases hl'
   exact .sl (.nil sz) ⟨none,0,rfl,hl⟩
 | some p =>
  have hsp:=hb3.2 p rfl
  by_cases hcap0:0 < cap
  ·obtain ⟨q1,q2,q3,q4⟩:=hb4 p rfl hcap0
   have hns:n*sz≤cap*sz:=Nat.mul_le_mul_right _ hb2
   let G':Gh:={ G with imm:=fun a=>if a.block=p.block∧a.spot=none∧p.off≤a.off∧a.off < p.off+n*sz then w.cell? a else G.imm a }
   have hle:G.le G':=by
    refine ⟨fun x u hu=>?_,fun _ _ h=>h,fun _ _ _ h=>h,fun _ _ h=>h⟩
    have hne:¬ (x.block=p.block∧x.spot=none∧p.off≤x.off∧x.off < p.off+n*sz):=fun hh=>by
     have:=(q4 (x.off-p.off) (by omega)).2.2
     rw [qBu p q1,← hh.1,show p.off+(x.off-p.off)=x.off by omega,← hh.2.1] at this
     rw [show (⟨x.block,x.off,x.spot⟩:Addr)=x from rfl,hu] at this
     cases this
    show (if _ then _ else _)=_
    rw [if_neg hne];exact hu
   have hKb:=(hw.own _ i q2).2
   have hat:∀ k,k < n*sz→G'.imm (p.add k)=w.cell? (p.add k):=fun k hk=>by
    show (if _ then _ else _)=_
    rw [if_pos (by rw [qBu p q1];exact ⟨rfl,rfl,by simp,by simp;omega⟩)]
   refine ⟨G',hle,⟨hw.le.trans hle,fun x u hu=>?_,fun x u hu=>?_,hw.keep,hw.size,hw.os,hw.tape,hw.output,hw.own,fun j hj=>hw.fresh j (by simpa using hj),fun j o hj=>?_⟩,fun v hv=>?_⟩
   ·simp only [G'] at hu
    split at hu
    ·exact hu
    ·exact hw.imm x u hu
   ·simp only [G'] at hu
    split at hu
    ·rename_i hh;right;rw [hh.1];exact hKb
    ·exact hw.immNew x u hu
   ·rw [List.getElem?_set] at hj
    by_cases hij:i=j
    ·subst hij
     simp only [if_true,hilt] at hj
     cases hj
     refine ⟨some p,cap,hl,hb2,hlater,fun hlt=>⟨p,rfl,q1,q2,fun k hk1 hk2=>?_⟩⟩
     obtain ⟨c1,c2,c3⟩:=q4 k hk2
     refine ⟨c1,c2,?_⟩
     show (if _ then _ else _)=_
     rw [if_neg (by rw [qBu p q1];simp;omega)];exact c3
    ·rw [if_neg hij] at hj
     refine (hw.obj j o hj).keep hle (fun b hb=>⟨rfl,fun x hx=>?_⟩) (fun _ h=>h) (fun h=>h)
     have hne:b≠p.block:=fun hh=>by subst hh;rw [q2] at hb;cases hb;exact hij rfl
     show (if _ then _ else _)=_
     rw [if_neg (fun hh=>hne (hx.symm.trans hh.1))]
   ·obtain ⟨p',cap',rfl,hl'⟩:=hv.bm_inv
    rw [hl] at hl';cases hl'
    have hcell:∀ (i':Nat) (e:List Dat) (j:Nat) (d:Dat),es[i']?=some e→e[j]?=some d→G'.imm (p.add (i'*sz+j))=some ((w.cell? (p.add (i'*sz+j))).getD undef)∧RepD G'.imm d ((w.cell? (p.add (i'*sz+j))).getD undef):=by
     intro i' e j d he hj
     obtain ⟨c,g1,g2⟩:=hd.2 i' e j d he hj
     rw [Nat.zero_add] at g1
     have hlt:=(List.getElem?_eq_some_iff.1 g1).1
     obtain ⟨u,u1,u2,u3⟩:=q3 _ c g1
     rw [hat _ (by omega),u1]
     exact ⟨rfl,(toDat_ok u3 g2).mono hle.imm⟩
    refine .sl ?_ ⟨some p,cap,by rw [hn],by rw [hn];exact hl⟩
    rw [← hn]
    exact .sl sz es p cap (fun k=>(w.cell? (p.add k)).getD undef) (fun _=>q1) (by omega) hd.1 (fun i' e j d he hj=>(hcell i' e j d he hj).1) (fun i' e j d he hj=>(hcell i' e j d he hj).2)
  ·have hc0:cap=0:=by omega
   have hn0:n=0:=by omega
   have hes:es=[]:=List.length_eq_zero_iff.1 (by omega)
   subst hn0;subst hes;subst hc0
   refine ⟨G,.refl G,⟨hw.le,hw.imm,hw.immNew,hw.keep,hw.size,hw.os,hw.tape,hw.output,hw.own,fun j hj=>hw.fresh j (by simpa using hj),fun j o hj=>?_⟩,fun v hv=>?_⟩
   ·rw [List.getElem?_set] at hj
    by_cases hij:i=j
    ·subst hij
     simp only [if_true,hilt] at hj
     cases hj
     exact ⟨some p,0,hl,Nat.le_refl _,hlater,fun hlt=>by omega⟩
    ·rw [if_neg hij] at hj;exact hw.obj j o hj
   ·obtain ⟨p',cap',rfl,hl'⟩:=hv.bm_inv
    rw [hl] at hl';cases hl'
    exact .sl (RepD.sl sz [] p 0 (fun _=>undef) (fun _=>hsp) (Nat.le_refl _) (fun e he=>by cases he) (fun i e j d he=>by simp at he) (fun i e j d he=>by simp at he)) ⟨some p,0,rfl,hl⟩
theorem qDf {P:Program} {E:Env} {N:Nat} {Q:Exit→(Nat→AV)→List AObj→Prop} {c:Code} {τ:Nat→AV} {h h':List AObj} (k o i:Nat) {n sz:Nat} {cells row:List AV} (es:List (List Dat)) (hk:h[k]?=some (.row row)) (ho:row[o]?=some (.bm i n)) (hi:h[i]?=some (.buf sz n cells)) (hn:es.length=n)
  (hd:RowDat cells 0 sz es) (hh:qEh ((h.set i (.right sz n)).set k (.row (row.set o (.sl sz es (.right i))))) some=some h') (hc:AW P E N c Q τ h'):AW P E N c Q τ h:=by
 rw [forceS_eq] at hh;cases hh
 refine qHk (fun a w ⟨h1,h2,G,hw,hr⟩=>?_) hc
 obtain ⟨G',hle,hw',hf⟩:=hw.freezeBuf hi hn hd
 have hki:i≠k:=fun hh=>by subst hh;rw [hi] at hk;cases hk
 obtain ⟨b,k1,k2,k3,k4⟩:=hw.obj k _ hk
 refine ⟨h1,h2,G',⟨hw'.le,hw'.imm,hw'.immNew,hw'.keep,hw'.size,hw'.os,hw'.tape,hw'.output,hw'.own,fun j hj=>hw'.fresh j (by simpa using hj),fun j ob hj=>?_⟩,fun s=>(hr s).mono hle⟩
 rw [List.getElem?_set] at hj
 by_cases hkj:k=j
 ·subst hkj
  have hkl:k < h.length:=(List.getElem?_eq_some_iff.1 hk).1
  simp only [if_true,List.length_set,hkl] at hj
  cases hj
  obtain ⟨b',g1,g2,g3,g4⟩:=hw'.obj k (.row row) (by rw [List.getElem?_set_ne hki];exact hk)
  refine ⟨b',g1,g2,fun j c hj=>?_,g4⟩
  rw [List.getElem?_set] at hj
  by_cases hoj:o=j
  ·subst hoj
   have hol:o < row.length:=(List.getElem?_eq_some_iff.1 ho).1
   simp only [if_true,hol] at hj
   cases hj
   have hbb:b=b':=by have:=hle.loc _ _ k1;rw [g1] at this;cases this;rfl
   subst hbb
   obtain ⟨v,c1,c2,c3,c4⟩:=k3 o _ ho
   exact ⟨v,c1,c2,hf v c3,c4⟩
  ·rw [if_neg hoj] at hj
   exact g3 j c hj
 ·rw [if_neg hkj] at hj
  exact hw'.obj j ob hj
end Tdoc
namespace Tdoc
open Go Go.Proofs Go.ChangeShapes Go.WideShapes Go.Deep Go.Joins
section
variable {H:Type} {enc:TypeId×Value→H} {P:Program} {W:World}
def Opn (enc:TypeId×Value→H) (P:Program) (W:World) (t:TypeId) (m:Nat) (F:List Dat→Prop):Prop :=
 ∀ (fuel:Nat) (cs:List Value) (y:DataW H×List MemPlace),DataW.trod enc P W 0 (fun _=>true) true fuel t cs=some y →
  cs.length=m∧∃ ds:List Dat,ds.length=m∧F ds∧∀ (j:Nat) (d:Dat) (v:Value),ds[j]?=some d→cs[j]?=some v→RepD (GW W).imm d v
theorem Opn.weak {t:TypeId} {m:Nat} {F F':List Dat→Prop} (h:Opn enc P W t m F) (hf:∀ ds,F ds→F' ds):Opn enc P W t m F':=fun fuel cs y hd=>by
 obtain ⟨h1,ds,h2,h3,h4⟩:=h fuel cs y hd
 exact ⟨h1,ds,h2,hf _ h3,h4⟩
theorem qIj {d:Dat} {v:Value} (h:RepD (GW W).imm d v):∀ (j:Nat) (d':Dat) (v':Value),[d][j]?=some d'→[v][j]?=some v'→RepD (GW W).imm d' v':=fun j d' v' hd hv=>by
 match j,hd,hv with
 | 0,hd,hv=>simp at hd hv;subst hd;subst hv;exact h
 | j+1,hd,hv=>simp at hd
theorem qTj {t:TypeId} {k:IntKind} (ht:P.underlying t=some (.int k)):Opn enc P W t 1 (fun ds=>∃ n,ds=[.int k n]∧(Lit.int k n).wf=true):=fun fuel cs y hd=>by
 obtain ⟨n,rfl,-,w⟩:=DataW.trod_int ht hd
 exact ⟨rfl,[.int k n],rfl,⟨n,rfl,w⟩,qIj (.int k n)⟩
theorem qVi {t:TypeId} (ht:P.underlying t=some .bool):Opn enc P W t 1 (fun ds=>∃ b,ds=[.bool b]):=fun fuel cs y hd=>by
 obtain ⟨b,rfl,-⟩:=DataW.trod_bool ht hd
 exact ⟨rfl,[.bool b],rfl,⟨b,rfl⟩,qIj (.bool b)⟩
theorem qWz {t:TypeId} (ht:P.underlying t=some .string):Opn enc P W t 1 (fun ds=>∃ s:List UInt8,ds=[.str s]∧s.length≤maxLen):=fun fuel cs y hd=>by
 obtain ⟨⟨⟨l⟩⟩,rfl,-,w⟩:=DataW.trod_string ht hd
 exact ⟨rfl,[.str l],rfl,⟨l,rfl,by simpa [ByteArray.size] using w⟩,qIj (.str l)⟩
theorem qFk {t e:TypeId} {m:Nat} {F:List Dat→Prop} (ht:P.underlying t=some (.slice e)) (ce:P.cellsOf e=m) (hm:0 < m) (he:Opn enc P W e m F) :
  Opn enc P W t 1 (fun ds=>∃ es:List (List Dat),ds=[.sl m es]∧(∀ x,x∈es→F x)∧es.length≤maxLen):=fun fuel cs y hd=>by
 rcases open_slice ht hd with ⟨rfl,-⟩ | ⟨a,len,cap,m',n,D,Pl,rfl,-,hlc,hcm,hm',-,hx⟩
 ·exact ⟨rfl,[.sl m []],rfl,⟨[],rfl,(fun x hx=>by cases hx),by simp⟩,qIj (.nil m)⟩
 ·simp only [if_true] at hm'
  subst hm'
  rw [ce] at hx
  have hsp:0 < m'→a.spot=none:=fun h0=>by
   obtain ⟨cs',h1,-⟩:=hx 0 h0
   obtain ⟨-,hl,hc⟩:=World.cells?_some h1
   have h2:=hc 0 hm
   rw [List.getElem?_eq_getElem (by omega)] at h2
   simp only [Nat.zero_mul] at h2
   have h3:(a.add 0).add 0=a:=by simp [Addr.add]
   rw [h3] at h2
   unfold World.cell? at h2
   split at h2
   ·split at h2
    ·cases h2
    ·rename_i hn
     cases hs:a.spot with
     | none=>rfl
     | some _=>rw [hs] at hn;simp at hn
   ·cases h2
  have each:∀ i,∃ q:List Value×List Dat,i < m'→(∀ j,j < m→W.cell? (a.add (i*m+j))=q.1[j]?)∧q.1.length=m∧q.2.length=m∧F q.2∧∀ (j:Nat) (d:Dat) (v:Value),q.2[j]?=some d→q.1[j]?=some v→RepD (GW W).imm d v:=fun i=>by
   by_cases hi:i < m'
   ·obtain ⟨cs',h1,h2⟩:=hx i hi
    obtain ⟨h3,ds,h4,h5,h6⟩:=he _ _ _ h2
    obtain ⟨-,hl,hc⟩:=World.cells?_some h1
    refine ⟨(cs',ds),fun _=>⟨fun j hj=>?_,hl,h4,h5,h6⟩⟩
    have:=hc j hj
    rwa [qCe a (hsp (by omega))] at this
   ·exact ⟨([],[]),fun hh=>absurd hh hi⟩
  let es:List (List Dat):=(List.range len).map fun i=>((each i).choose).2
  have hel:es.length=len:=by simp [es]
  have hat:∀ (i:Nat) (x:List Dat),es[i]?=some x→i < len∧x=((each i).choose).2:=fun i x hx=>by
   have hi:i < len:=by rw [← hel];exact (List.getElem?_eq_some_iff.1 hx).1
   simp [es,hi] at hx
   exact ⟨hi,hx.symm⟩
  have hrep:RepD (GW W).imm (.sl m es) (.slice (some a) es.length m'):=by
   refine .sl m es a m' (fun k=>(((each (k / m)).choose).1).getD (k % m) undef) hsp (by omega) (fun x hx=>?_) (fun i x j d hx hd=>?_) (fun i x j d hx hd=>?_)
   ·obtain ⟨i,hi,rfl⟩:=List.getElem_of_mem hx
    obtain ⟨h1,h2⟩:=hat i _ (List.getElem?_eq_getElem hi)
    rw [h2]
    exact ((each i).choose_spec (by omega)).2.2.1
   ·obtain ⟨h1,rfl⟩:=hat i x hx
    obtain ⟨g1,g2,g3,g4,g5⟩:=(each i).choose_spec (by omega)
    have hj:j < m:=by rw [← g3];exact (List.getElem?_eq_some_iff.1 hd).1
    have e1:(i*m+j) / m=i:=by rw [Nat.mul_comm,Nat.mul_add_div hm,Nat.div_eq_of_lt hj];omega
    have e2:(i*m+j) % m=j:=by rw [Nat.mul_comm,Nat.mul_add_mod];exact Nat.mod_eq_of_lt hj
    simp only [e1,e2]
    show W.cell? _=_
    rw [g1 j hj,List.getD_eq_getElem?_getD,List.getElem?_eq_getElem (by omega)]
    rfl
   ·obtain ⟨h1,rfl⟩:=hat i x hx
    obtain ⟨g1,g2,g3,g4,g5⟩:=(each i).choose_spec (by omega)
    have hj:j < m:=by rw [← g3];exact (List.getElem?_eq_some_iff.1 hd).1
    have e1:(i*m+j) / m=i:=by rw [Nat.mul_comm,Nat.mul_add_div hm,Nat.div_eq_of_lt hj];omega
    have e2:(i*m+j) % m=j:=by rw [Nat.mul_comm,Nat.mul_add_mod];exact Nat.mod_eq_of_lt hj
    simp only [e1,e2]
    refine g5 j d _ hd ?_
    rw [List.getD_eq_getElem?_getD,List.getElem?_eq_getElem (by omega)]
    rfl
  refine ⟨rfl,[.sl m es],rfl,⟨es,rfl,fun x hx=>?_,by omega⟩,qIj (by rw [hel] at hrep;exact hrep)⟩
  obtain ⟨i,hi,rfl⟩:=List.getElem_of_mem hx
  obtain ⟨h1,h2⟩:=hat i _ (List.getElem?_eq_getElem hi)
  rw [h2]
  exact ((each i).choose_spec (by omega)).2.2.2.1
def FldAll:List (List Dat→Prop)→List Dat→Prop
 | [],ds=>ds=[]
 | F::Fs,ds=>∃ p q,ds=p++q∧F p∧FldAll Fs q
def FldOk (enc:TypeId×Value→H) (P:Program) (W:World):Nat→List Field→List (List Dat→Prop)→Nat→Prop
 | o,[],[],m=>o=m
 | o,f::fs,F::Fs,m=>f.offset=o∧∃ k,P.cellsOf f.type=k∧Opn enc P W f.type k F∧FldOk enc P W (o+k) fs Fs m
 | _,_,_,_=>False
theorem qIt {n:Nat} {cs:List Value} {m:Nat} (hl:cs.length=m):∀ (fs:List Field) (Fs:List (List Dat→Prop)) (o:Nat),FldOk enc P W o fs Fs m →
  (∀ f,f∈fs→∃ y,DataW.trod enc P W 0 (fun _=>true) true n f.type ((cs.drop f.offset).take (P.cellsOf f.type))=some y) →
  o≤m∧∃ ds:List Dat,o+ds.length=m∧FldAll Fs ds∧∀ (j:Nat) (d:Dat) (v:Value),ds[j]?=some d→cs[o+j]?=some v→RepD (GW W).imm d v
 | [],[],o,h,_=>by
  have ho:o=m:=h
  exact ⟨by omega,[],by simpa using ho,rfl,fun j d v hd=>by simp at hd⟩
 | f::fs,F::Fs,o,h,hr=>by
  obtain ⟨h1,k,h2,h3,h4⟩:=h
  obtain ⟨g1,q,g2,g3,g4⟩:=qIt hl fs Fs (o+k) h4 (fun f hf=>hr f (List.mem_cons_of_mem _ hf))
  obtain ⟨y,hy⟩:=hr f List.mem_cons_self
  rw [h1,h2] at hy
  obtain ⟨-,p,p1,p2,p3⟩:=h3 _ _ _ hy
  refine ⟨by omega,p++q,by rw [List.length_append];omega,⟨p,q,rfl,p2,g3⟩,fun j d v hd hv=>?_⟩
  by_cases hj:j < p.length
  ·rw [List.getElem?_append_left hj] at hd
   refine p3 j d v hd ?_
   rw [List.getElem?_take,if_pos (by omega),List.getElem?_drop]
   exact hv
  ·rw [List.getElem?_append_right (by omega)] at hd
   refine g4 (j-p.length) d v hd ?_
   rw [show o+k+(j-p.length)=o+j by omega]
   exact hv
 | [],_::_,_,h,_=>by exact absurd h (by simp [FldOk])
 | _::_,[],_,h,_=>by exact absurd h (by simp [FldOk])
theorem qCm {t:TypeId} {fs:Array Field} {m:Nat} {Fs:List (List Dat→Prop)} (ht:P.underlying t=some (.struct fs)) (hc:P.cellsOf t=m) (h:FldOk enc P W 0 fs.toList Fs m):Opn enc P W t m (FldAll Fs):=fun fuel cs y hd=>by
 obtain ⟨xs,n,rfl,-,hl,hxl,hf⟩:=DataW.trod_struct ht hd
 rw [hc] at hl
 obtain ⟨-,ds,h1,h2,h3⟩:=qIt (n:=n) hl fs.toList Fs 0 h (fun f hf'=>by
  obtain ⟨i,hi,rfl⟩:=List.getElem_of_mem hf'
  have hi':i < fs.size:=by simpa using hi
  have:=hf i (fs.toList[i]) (by simp [hi'])
  rw [List.getElem?_eq_getElem (by omega)] at this
  exact ⟨_,this⟩)
 exact ⟨hl,ds,by omega,h2,fun j d v hd hv=>h3 j d v hd (by rw [Nat.zero_add];exact hv)⟩
theorem qSa {r:Reach} {b0:Nat} {t:TypeId} {v:Value} {d:DataW H} {ps:List MemPlace} {fs:Array Field} {m:Nat} {F:List Dat→Prop} (ht:P.underlying t=some (.struct fs)) (ho:Opn enc P W t m F)
  (hval:Value.okWide P W r b0 t v) (hd:DataW.Trod enc P W 0 (fun _=>true) true t v d ps):∃ ds:List Dat,F ds∧RepA (GW W) (.agg (ds.map .d)) v:=by
 obtain ⟨fuel,hd⟩:=hd
 simp only [Value.okWide,ht] at hval
 obtain ⟨cs,rfl,-,-⟩:=hval
 obtain ⟨h1,ds,h2,h3,h4⟩:=ho _ _ _ hd
 have h1':cs.size=m:=by simpa [Value.cells] using h1
 refine ⟨ds,h3,.agg _ (by simp;omega) (fun j x v hx hv=>?_) (fun j v hv=>?_)⟩
 ·rw [List.getElem?_map,Option.map_eq_some_iff] at hx
  obtain ⟨d,hd,rfl⟩:=hx
  exact .d (h4 j d v hd (by simpa [Value.cells] using hv))
 ·have hj:j < ds.length:=by
   have:j < cs.size:=by
    have:=(Array.getElem?_eq_some_iff.1 hv).1
    exact this
   omega
  exact (h4 j ds[j] v (List.getElem?_eq_getElem hj) (by simpa [Value.cells] using hv)).one
end
end Tdoc
