/- Part 5 of the proof: the texts R18 R19 R20 R21 R24 R25 R26 R27 R9 R10 R28 R29 R30 R31 R22 R23 R14 N2 N3 R35. -/
import Derived.Test.YtelocejblpajcaaGreatDoorBG4
import Derived.Scope
import Derived.MapKept
import Derived.Laws.IdiomRangeMap
import Derived.ChangeAlike
set_option linter.unusedSimpArgs false
set_option linter.unusedVariables false
namespace Tdoc
open Go
def shut:List Nat→World→World
 | [],w=>w
 | D::Ds,w=>shut Ds (w.putObj D (.deferred none))
theorem qLw {P:Program} {fn:Func} {tmps:Array Value} {R:Ending→World→Prop}:∀ (Ds:List Nat) (w:World),Ds.Nodup→(∀ D,D∈Ds→w.heap[D]?=some (.deferred (some []))) →
  (∃ v,(results fn tmps).run P (shut Ds w)=.ok v (shut Ds w)∧R (.returned v) (shut Ds w))→LeavesInM Fence.wide 0 P fn tmps R (marks Ds) .returning w
 | [],w,_,_,h=>h
 | D::Ds,w,hn,hd,h=>by
  obtain ⟨n1,n2⟩:=List.nodup_cons.1 hn
  refine ⟨by simp,.inl ⟨D,_,rfl,run_takeDeferred (hd D List.mem_cons_self),qLw Ds _ n2 (fun D' hD'=>?_) h⟩⟩
  have hne:D'≠D:=fun e=>n1 (by rw [← e];exact hD')
  rw [World.putObj_heap_other hne]
  exact hd D' (List.mem_cons_of_mem _ hD')
theorem qXp {E:Env} {G:Gh} {h:List AObj}:∀ (Ds:List Nat) (w:World),Ds.Nodup→(∀ D,D∈Ds→w.heap[D]?=some (.deferred (some []))∧G.own D=none∧¬ E.K D)→WRel E G h w→WRel E G h (shut Ds w)
 | [],w,_,_,hw=>hw
 | D::Ds,w,hn,hd,hw=>by
  obtain ⟨n1,n2⟩:=List.nodup_cons.1 hn
  obtain ⟨d1,d2,d3⟩:=hd D List.mem_cons_self
  refine qXp Ds _ n2 (fun D' hD'=>?_) (hw.pokeIn (.deferred none) d1 rfl d2 d3)
  obtain ⟨e1,e2,e3⟩:=hd D' (List.mem_cons_of_mem _ hD')
  have hne:D'≠D:=fun e=>n1 (by rw [← e];exact hD')
  exact ⟨by rw [World.putObj_heap_other hne];exact e1,e2,e3⟩
theorem qRz {P:Program} {T:Tr} (hT:TOk P T) {f:FuncId} {fn:Func} {c:Code} {rs:List ResultVar} {args:List AV} {h:List AObj} {Q:AV→List AObj→Prop} (hf:P.funcs[f]?=some fn) (hb:fn.body=some c)
  (hname:(fn.name == "runtime.NumGoroutine")=false) (hrs:fn.results=rs.toArray) (hn:Nat.ble args.length fn.ntmps=true)
  (H:∀ E:Env,E.below h.length→AWx P E fn.ntmps c (vFg T rs h.length Q) (look (pars args 0)) h):Spec P f args h Q:=by
 refine ⟨⟨fn,hf,hname,by rw [hb];rfl⟩,fun G w vals hvs hargs htab hw=>?_⟩
 have hbel:(⟨w,G,htab,[]⟩:Env).below h.length:=fun i hi=>hw.fresh i hi
 have hle:=Nat.le_of_ble_eq_true hn
 refine (callsIn_wide (n:=0)).1 (callsIn_of_wp_marks hf hb True.intro (wpIn_wide.2 (wp_mono (H ⟨w,G,htab,[]⟩ hbel _ w ⟨by simp;omega,rfl,G,hw,fun t=>qXv hvs hargs t⟩) ?_)))
 rintro e a' w' ⟨E2,hE,τ',h',hq,hr⟩
 have fin:(∃ v r h'',qZi T τ' h' rs=some v∧(∀ G x,RepA G v x→RepA G r x)∧h''=h'.take h.length∧h''.length=h.length∧low h.length r=true∧qEb h.length h''=true∧Q r h'') →
   LeavesInM Fence.wide 0 P fn a'.tmps (fun e w'=>∃ v r h' G',e=.returned v∧Q r h'∧h'.length=h.length∧low h.length r=true∧qEb h.length h'=true∧RepA G' r v∧WRel ⟨w,G,htab,[]⟩ G' h' w') a'.defers .returning w':=by
  rintro ⟨v,r,h'',q1,q2,q3,q4,q5,q6,q7⟩
  obtain ⟨r1,r2,G',hw2,ht⟩:=hr
  obtain ⟨Ds,d1,d2,d3⟩:=hE.defs
  rw [r2,d1]
  show LeavesInM Fence.wide 0 P fn a'.tmps _ (marks Ds++[]) .returning w'
  rw [List.append_nil]
  have hD:∀ D,D∈Ds→w'.heap[D]?=some (.deferred (some []))∧G'.own D=none∧¬ (⟨w,G,htab,[]⟩:Env).K D:=fun D hDm=>by
   obtain ⟨e1,e2,e3⟩:=d3 D hDm
   refine ⟨(hw2.keep D e2).trans e1,?_,e3⟩
   cases ho:G'.own D with
   | none=>rfl
   | some i=>exact absurd e2 (hw2.own D i ho).2
  have hw3:=qXp Ds w' d2 hD (hE.conv _ _ _ hw2)
  refine qLw Ds w' d2 (fun D hDm=>(hD D hDm).1) ?_
  obtain ⟨u,hu,hru⟩:=resA_run hT hw3 ht hrs q1
  refine ⟨u,hu,u,r,h'',vKb h.length G',rfl,q7,q4,q5,q6,(q2 _ _ hru).cut q5,hw3.cut hbel q4 (fun i hi=>?_) q6⟩
  rw [q3,List.getElem?_take,if_pos hi]
 cases e with
 | normal=>exact fin hq
 | ret=>exact fin hq
 | exit id=>exact hq.elim
 | goto l=>exact hq.elim
 | panic ch=>exact hq.elim
 | outgrown=>exact hq.elim
end Tdoc
namespace Tdoc
open Go
theorem RepD.cutC {m:Addr→Option Value} {sz:Nat} {es:List (List Dat)} {a:Option Addr} {len cap:Nat} (h:RepD m (.sl sz es) (.slice a len cap)) {l r:Nat} (hl:l≤r) (hr:r≤len) :
  RepD m (.sl sz ((es.drop l).take (r-l))) (.slice (if r=l then a else a.map (·.add (l*sz))) (r-l) (r-l)):=by
 cases h with
 | nil =>
  obtain rfl:r=0:=by omega
  obtain rfl:l=0:=by omega
  exact .nil sz
 | sl _ _ p _ vs h1 h2 h3 h4 h5 =>
  have hlen:((es.drop l).take (r-l)).length=r-l:=by simp;omega
  by_cases hc:r=l
  ·have:(es.drop l).take (r-l)=[]:=by
    apply List.eq_nil_of_length_eq_zero;rw [hlen];omega
   rw [if_pos hc,this]
   have h0:r-l=([]:List (List Dat)).length:=by simp;omega
   rw [h0]
   exact .sl sz [] p _ vs h1 (by simp) (fun e he=>by cases he) (fun i e j d he=>by simp at he) (fun i e j d he=>by simp at he)
  ·rw [if_neg hc]
   simp only [Option.map_some]
   rw [show r-l=((es.drop l).take (r-l)).length from hlen.symm]
   rw [show ((es.drop l).take ((es.drop l).take (r-l)).length)=(es.drop l).take (r-l) by rw [hlen]]
   refine .sl sz _ (p.add (l*sz)) _ (fun i=>vs (l*sz+i)) (qGy p h1 _) (Nat.le_refl _) (fun e he=>h3 e (List.mem_of_mem_drop (List.mem_of_mem_take he))) (fun i e j d he hd=>?_) (fun i e j d he hd=>?_)
   ·simp only [List.getElem?_take,List.getElem?_drop] at he
    split at he
    ·rw [qFd p h1]
     have:=h4 (l+i) e j d he hd
     rwa [show (l+i)*sz+j=l*sz+(i*sz+j) by rw [Nat.add_mul];omega] at this
    ·cases he
   ·simp only [List.getElem?_take,List.getElem?_drop] at he
    split at he
    ·have:=h5 (l+i) e j d he hd
     rwa [show (l+i)*sz+j=l*sz+(i*sz+j) by rw [Nat.add_mul];omega] at this
    ·cases he
theorem vJc {P:Program} {T:Tr} {o:Oper} {ρ:Operand→AV} {v:AV} (hT:TOk P T) {t:Nat} {x lo hi mx:Operand} {sz:Nat} {es:List (List Dat)} {l r:Nat} {k1 k2 k3:IntKind} (ho:o.op=.slice t x (some lo) (some hi) (some mx)) (hs:qCk T t sz=true) (hx:ρ x=.d (.sl sz es))
  (hl:ρ lo=.d (.int k1 (l:Int))) (hr':ρ hi=.d (.int k2 (r:Int))) (hm:ρ mx=.d (.int k3 (r:Int))) (hb:l≤r∧r≤es.length) (hv:AV.d (.sl sz ((es.drop l).take (r-l)))=v):OpP P o ρ v:=by
 intro G e w hi' hr
 subst hv
 have hx':RepA G (ρ x) (e x):=hr x (by simp [ho,Op.operands])
 have h1:RepA G (ρ lo) (e lo):=hr lo (by simp [ho,Op.operands])
 have h2:RepA G (ρ hi) (e hi):=hr hi (by simp [ho,Op.operands])
 have h3:RepA G (ρ mx) (e mx):=hr mx (by simp [ho,Op.operands])
 rw [hx] at hx';rw [hl] at h1;rw [hr'] at h2;rw [hm] at h3
 have hxd:RepD G.imm (.sl sz es) (e x):=by cases hx' with | d r=>exact r
 obtain ⟨a,cap,hev,hnil,hsome⟩:=hxd.slice_inv
 have hcap:es.length≤cap:=by
  cases a with
  | none=>have:=hnil rfl;rw [this.1];exact Nat.zero_le _
  | some p=>exact (hsome p rfl).2.1
 rw [hev] at hxd
 have hcut:=hxd.cutC (l:=l) (r:=r) hb.1 hb.2
 obtain ⟨et,ie,g1,g2,g3⟩:=sliceElem_ok hT hs
 refine ⟨_,?_,.d hcut⟩
 unfold execOp
 simp only [ho,Sem.run_bind,Instr.sliceAt,Instr.slice,hev,h1.int_inv,h2.int_inv,h3.int_inv]
 simp [h1.int_inv,h2.int_inv,h3.int_inv,run_underlying g1,Instr.sliceBounds,g2.run_size,g3,qAy _ _ _ _ (show 0≤(r:Int)∧(r:Int)≤(cap:Int) by omega),qAy _ _ _ _ (show 0≤(r:Int)∧(r:Int)≤((r:Nat):Int) by omega),qAy _ _ _ _ (show 0≤(l:Int)∧(l:Int)≤((r:Nat):Int) by omega)]
end Tdoc
namespace Tdoc
open Go
theorem loadA_agg {T:Tr} {t off:Nat} {i:TI} {cells vs:List AV} (hf:T.find t=some i) (ha:i.agg=true) (hle:off+i.size≤cells.length) (hv:(cells.drop off).take i.size=vs):qMe T t cells off=some (.agg vs):=by
 unfold qMe
 rw [hf]
 simp only [ha]
 rw [Nat.ble_eq_true_of_le hle,hv]
theorem runeStr_ok {P:Program} {T:Tr} {o:Oper} {ρ:Operand→AV} (hT:TOk P T) {t t2:Nat} {x:Operand} {k k':IntKind} {n:Int} (ho:o.op=.convert t t2 x) (ht:qIq T t=some k) (ht2:qFq T t2=true) (hx:ρ x=.d (.int k' n)) (hn:0≤n∧n < 128) :
  OpP P o ρ (.d (.str [UInt8.ofNat n.toNat])):=by
 intro G e w hi hr
 have hx':RepA G (ρ x) (e x):=hr x (by simp [ho,Op.operands])
 rw [hx] at hx'
 refine ⟨.string ⟨#[UInt8.ofNat n.toNat]⟩,?_,.d (.str [UInt8.ofNat n.toNat])⟩
 have hc:Utf8.encode n=⟨#[UInt8.ofNat n.toNat]⟩:=by
  unfold Utf8.encode
  have hv:Utf8.valid n=true:=by unfold Utf8.valid;simp;omega
  rw [hv]
  simp only [if_true]
  rw [if_pos (by omega)]
 unfold execOp
 simp only [ho,Sem.run_bind]
 rw [hx'.int_inv]
 simp [convert,run_underlying (qIm hT ht),run_underlying (qDb hT ht2),Conv.intToString,hc]
def vIn (Q:Exit→(Nat→AV)→List AObj→Prop):Exit→(Nat→AV)→List AObj→Prop
 | .goto _,_,_=>False
 | e,τ,h=>Q e τ h
theorem qYt {P:Program} {E:Env} {N:Nat} {c:Code} {Q:Exit→(Nat→AV)→List AObj→Prop} {τ:Nat→AV} {h:List AObj} (hc:AW P E N c (vIn Q) τ h):AW P E N (.scope c) Q τ h :=
 fun a w r=>wp_scope_straight (wp_mono (hc a w r) fun e a' w' ⟨τ',h',q,r'⟩=>by
  cases e with
  | goto l=>exact q.elim
  | _=>exact ⟨τ',h',q,r'⟩)
end Tdoc
namespace Tdoc
open Go
theorem setRun_full {cells cs:List AV} (h:cells.length=cs.length):qCg cells 0 cs=cs:=by
 apply List.ext_getElem?
 intro j
 rw [setRun_at cs cells 0 j (by omega)]
 by_cases hj:j < cs.length
 ·rw [if_pos ⟨by omega,by omega⟩];rfl
 ·rw [if_neg (by omega),List.getElem?_eq_none (by omega),List.getElem?_eq_none (by omega)]
theorem storeA_agg {T:Tr} {t off:Nat} {i:TI} {cells cs cells':List AV} (hf:T.find t=some i) (hsz:cs.length=i.size) (hle:off+i.size≤cells.length) (hr:qCg cells off cs=cells'):qHh T t cells off (.agg cs)=some cells':=by
 unfold qHh
 rw [hf]
 simp only [cellsA]
 rw [hsz,Nat.beq_refl,Nat.ble_eq_true_of_le hle,hr]
 rfl
theorem storeAgg_ok {P:Program} {E:Env} {T:Tr} {o:Oper} {ρ:Operand→AV} {h:List AObj} (hT:TOk P T) {t i off:Nat} {ti:TI} {x y:Operand} {cells cs cells':List AV} (ho:o.op=.store t x y) (hx:ρ x=.ptr i off) (hy:ρ y=.agg cs) (hi:h[i]?=some (.row cells)) (hf:T.find t=some ti) (hsz:cs.length=ti.size)
  (hle:off+ti.size≤cells.length) (hr:qCg cells off cs=cells'):OpS P E o ρ h .any (h.set i (.row cells')) :=
 qBe hT ho hx hi (by rw [hy];exact storeA_agg hf hsz hle hr)
end Tdoc
namespace Tdoc
open Go
section
variable {P:Program} {E:Env} {T:Tr} {o:Oper} {ρ:Operand→AV} {h h':List AObj} {v:AV}
def qXs (T:Tr) (t len:Nat) (parts:List (Nat×AV)):Option (List AV):=match T.find t with
 | some i=>match i.kind with
  | .slice el=>match T.find el with
   | some ie=>match Nat.blt 0 ie.size&&Nat.beq ie.zero.length ie.size&&Nat.blt 0 len&&Nat.ble (len*ie.size) 16777216 with
    | true=>qRe (fun i=>some (i*ie.size,ie.size)) ((List.range (len*ie.size)).map fun k=>(ie.zero[k % ie.size]?).getD .any) parts
    | false=>none
   | none=>none
  | _=>none
 | none=>none
theorem buildRow_run (hT:TOk P T) {t len i0:Nat} {parts:Array (Nat×Operand)} {cells:List AV} (ho:o.op=.buildSlice t len parts) (hv:qXs T t len (parts.toList.map fun x=>(x.1,ρ x.2))=some cells) (hroom:h[i0]?=some .room)
  (G:Gh) (e:Operand→Value) (w:World) (hw:WRel E G h w) (hr:∀ x,x∈o.op.operands.toList→RepA G (ρ x) (e x)) :
  ∃ el vs',(execOp e o).run P w=.ok (.value (.slice (some ⟨w.heap.size,0,none⟩) len len)) (w.alloc (.cells vs' el))∧G.le (qEe G i0 w.heap.size)∧WRel E (qEe G i0 w.heap.size) (h.set i0 (.row cells)) (w.alloc (.cells vs' el)) ∧
   vs'.size=cells.length∧∀ (j:Nat) (c:AV) (u:Value),cells[j]?=some c→vs'[j]?=some u→RepA G c u∧qJd u=true:=by
  have hp:∀ x,x∈parts.toList→RepA G (ρ x.2) (e x.2):=fun x hx=>hr x.2 (by
   simp only [ho,Op.operands]
   exact List.mem_map_of_mem hx)
  unfold qXs at hv
  split at hv
  ·rename_i i hf
   split at hv
   ·rename_i el hk
    obtain ⟨d,hd,hkd⟩:=(hT.at hf).und
    rw [hk] at hkd
    cases d <;> simp [qDy] at hkd
    subst hkd
    split at hv
    ·rename_i ie hfe
     obtain ⟨einfo,heinfo,hesz,heb,z,hz,hzc⟩:=(hT.at hfe).info
     split at hv
     ·rename_i hb
      simp only [Bool.and_eq_true] at hb
      have hpos:0 < ie.size:=by have:=hb.1.1.1;(simp [Nat.blt] at this;omega)
      have hzlen:=Nat.eq_of_beq_eq_true hb.1.1.2
      have hlen:0 < len:=by have:=hb.1.2;(simp [Nat.blt] at this;omega)
      have hsmall:=Nat.le_of_ble_eq_true hb.2
      obtain ⟨zl,zr⟩:=zrepL_ok hzc
      simp only [Array.length_toList] at zl
      let base:List AV:=(List.range (len*ie.size)).map fun k=>(ie.zero[k % ie.size]?).getD .any
      let basev:Array Value:=(Array.range (len*ie.size)).map (z.cells[· % z.cells.size]!)
      have hbase:CellsRep G base basev:=by
       refine ⟨by simp [base,basev],fun j c u hc hu=>?_⟩
       have hj:j < len*ie.size:=by have:=(List.getElem?_eq_some_iff.1 hc).1;simpa [base] using this
       have hm:j % ie.size < ie.size:=Nat.mod_lt _ hpos
       have hm2:j % ie.size < z.cells.size:=by omega
       simp [base,hj] at hc
       simp [basev,hj] at hu
       subst hc;subst hu
       rw [← zl,hzlen]
       have h1:ie.zero[j % ie.size]?=some ie.zero[j % ie.size]:=by simp [hzlen,hm]
       rw [h1]
       simp only [Option.getD_some]
       have h2:z.cells[j % ie.size]! = z.cells[j % ie.size]:=by simp [hm2]
       rw [h2]
       exact zr G _ _ _ h1 (by simp [hm2])
      obtain ⟨vs',v1,v2⟩:=fillA_ok (e:=e) parts.toList _ _ _ hbase hp hv
      have hn:=hw.newRowAt hroom vs' el cells v2.1 (fun j c u h1 h2=>v2.2 j c u h1 h2) (w.alloc (.cells vs' el)) rfl rfl rfl rfl
      refine ⟨el,vs',?_,hn.1,hn.2,v2.1,v2.2⟩
      have h0:len*ie.size≠0:=by
       have:=Nat.mul_pos hlen hpos
       omega
      unfold execOp
      simp only [ho,Sem.run_bind]
      rw [run_buildSlice w t el len _ vs' einfo z hd heinfo hz (by rw [hesz];omega) (by rw [hesz];exact h0) (by rw [hesz];simpa using v1)]
      rfl
     ·cases hv
    ·cases hv
   ·cases hv
  ·cases hv
theorem buildRowAt_ok (hT:TOk P T) {t len i0:Nat} {parts:Array (Nat×Operand)} {cells:List AV} (ho:o.op=.buildSlice t len parts) (hv:qXs T t len (parts.toList.map fun x=>(x.1,ρ x.2))=some cells) (hroom:h[i0]?=some .room) :
  OpS P E o ρ h (.row i0 0 len len) (h.set i0 (.row cells)) :=
 qBg fun G e w hw hr=>by
  obtain ⟨el,vs',h1,h2,h3,_,_⟩:=buildRow_run hT ho hv hroom G e w hw hr
  exact ⟨_,_,_,h1,h2,h3,.row 0 _ _ (by show (if i0=i0 then _ else _)=_;simp)⟩
theorem vIf {G:Gh} {w:World} {i b off n cap sz:Nat} {cells:List AV} (hrow:RowAt G w b cells) (hle:off+n*sz≤cells.length) :
  Src P w (.slice (some ⟨b,off,none⟩) n cap) n sz ((List.range (n*sz)).map fun j=>(w.cell? ⟨b,off+j,none⟩).getD undef):=fun w' hw'=>by
 have hcell:∀ k,k < n*sz→w.cell? ⟨b,off+k,none⟩=some ((w.cell? ⟨b,off+k,none⟩).getD undef):=by
  intro k hk
  have hget:cells[off+k]?=some cells[off+k]:=by simp [show off+k < cells.length by omega]
  obtain ⟨y,y1,_⟩:=hrow _ _ hget
  rw [y1];rfl
 refine ⟨rfl,?_⟩
 simp only [Builtin.firstCells]
 exact run_loadCells (P:=P) w' ⟨b,off,none⟩ _ _ (fun k hk=>by rw [cell?_heap hw',qDd];exact hcell k hk)
end
end Tdoc
namespace Tdoc
open Go
theorem WRel.reObj {E:Env} {G:Gh} {h:List AObj} {w:World} {i:Nat} {ob ob':AObj} (hw:WRel E G h w) (hi:h[i]?=some ob) (hr:ObjRel G w i ob→ObjRel G w i ob'):WRel E G (h.set i ob') w:=by
 refine ⟨hw.le,hw.imm,hw.immNew,hw.keep,hw.size,hw.os,hw.tape,hw.output,hw.own,fun j hj=>hw.fresh j (by simpa using hj),fun j o hj=>?_⟩
 rw [List.getElem?_set] at hj
 split at hj
 ·rename_i e
  subst e
  split at hj
  ·cases hj;exact hr (hw.obj i ob hi)
  ·cases hj
 ·exact hw.obj j o hj
def cbR (s:List UInt8) (f:Nat→Option Obj) (b:Nat) (S:List Nat):Prop :=
 S=[b]∧∃ (vs:Array Value) (el:TypeId),f b=some (.cells vs el)∧vs.size=s.length∧∀ (j:Nat) (c:UInt8),s[j]?=some c→vs[j]?=some (.int .u8 (c.toNat:Int))
section
variable {P:Program} {E:Env} {T:Tr} {o:Oper} {ρ:Operand→AV} {h h':List AObj} {v:AV}
theorem buildCB_ok (hT:TOk P T) {t len i0:Nat} {parts:Array (Nat×Operand)} {s:List UInt8} (ho:o.op=.buildSlice t len parts) (hv:qXs T t len (parts.toList.map fun x=>(x.1,ρ x.2))=some (qAn s)) (hroom:h[i0]?=some .room) :
  OpS P E o ρ h (.row i0 0 len len) (h.set i0 (.opq (cbR s))):=by
 have hset:(h.set i0 (.row (qAn s))).set i0 (.opq (cbR s))=h.set i0 (.opq (cbR s)):=List.set_set ..
 refine qBg fun G e w hw hr=>?_
 obtain ⟨el,vs',hrun,hle,hw1,v1,v2⟩:=buildRow_run hT ho hv hroom G e w hw hr
 refine ⟨_,_,_,hrun,hle,?_,.row 0 _ _ (by show (if i0=i0 then _ else _)=_;simp)⟩
 rw [← hset]
 have hlt:i0 < h.length:=(List.getElem?_eq_some_iff.1 hroom).1
 refine hw1.reObj (ob:=.row (qAn s)) (by simp [hlt]) fun hob=>?_
 obtain ⟨b,h1,h2,h3,h4,h5⟩:=hob
 have hb:b=w.heap.size:=by
  have h1':(if i0=i0 then some w.heap.size else _)=some b:=h1
  simp at h1'
  exact h1'.symm
 subst hb
 refine ⟨w.heap.size,[w.heap.size],h1,List.mem_singleton.2 rfl,h5,fun k hk=>?_,⟨rfl,vs',el,?_,?_,fun j c hc=>?_⟩,fun f g hfg hR=>?_⟩
 ·rw [List.mem_singleton] at hk
  subst hk
  exact ⟨h2,h4⟩
 ·show (w.heap.push _)[w.heap.size]?=_
  exact Array.getElem?_push_size
 ·rw [v1];simp [qAn]
 ·have hcell:(qAn s)[j]?=some (.d (.int .u8 (c.toNat:Int))):=by simp [qAn,hc]
  have hj:j < vs'.size:=by rw [v1];exact (List.getElem?_eq_some_iff.1 hcell).1
  have hu:vs'[j]?=some vs'[j]:=by simp [hj]
  have:=(v2 j _ _ hcell hu).1.int_inv
  rw [hu,this]
 ·obtain ⟨r1,vs2,el2,r2,r3⟩:=hR
  exact ⟨r1,vs2,el2,by rw [← hfg w.heap.size (List.mem_singleton.2 rfl)];exact r2,r3⟩
theorem markCB_ok (hT:TOk P T) {t i0 n:Nat} {x:Operand} {s:List UInt8} (ho:o.op=.convert t t x) (hb:qCn T t=true) (hx:ρ x=.row i0 0 n n) (hi:h[i0]?=some (.opq (cbR s))) (hn:s.length=n) :
  OpS P E o ρ h (.sl 1 (s.map fun c=>[.int .u8 (c.toNat:Int)]) .full) (h.set i0 .dead):=by
 refine qBg fun G e w hw hr=>?_
 have hx':RepA G (ρ x) (e x):=hr x (by simp [ho,Op.operands])
 rw [hx] at hx'
 obtain ⟨b,hv,hlc⟩:=hx'.row_inv
 obtain ⟨b',S,k1,k2,k3,k4,⟨k5,vs,el,k6,k7,k8⟩,_⟩:=hw.obj i0 _ hi
 rw [hlc] at k1
 cases k1
 obtain ⟨kown,kimm⟩:=k4 b k2
 have k6:w.heap[b]?=some (.cells vs el):=k6
 obtain ⟨el',hel1,hel2⟩:=isByteSlice_ok hT hb
 have hbl:b < w.heap.size:=(hw.own b i0 kown).1
 have hsh:w.shape? b=some (el,vs.size):=by
  unfold World.shape?
  rw [k6]
 let w':World:=w.freeze ⟨b,vs.size,none⟩ 1
 have hheap:w'.heap=w.heap.modify b fun
   | .cells c elem (lo,hi)=>.cells c elem (if lo == hi then (vs.size,vs.size+1) else (min lo vs.size,max hi (vs.size+1)))
   | o=>o:=by
  show (w.freeze _ _).heap=_
  unfold World.freeze
  rw [if_neg (by decide)]
  rfl
 have hat:w'.heap[b]?=some (.cells vs el (vs.size,vs.size+1)):=by
  rw [hheap,Array.getElem?_modify]
  simp [k6]
 have hne:∀ k,k≠b→w'.heap[k]?=w.heap[k]?:=fun k hk=>by
  rw [hheap,Array.getElem?_modify,if_neg (fun hh=>hk hh.symm)]
 have hsz:w'.heap.size=w.heap.size:=by rw [hheap];simp
 have hfr:w'.os=w.os∧w'.tape=w.tape∧w'.output=w.output:=by
  show (w.freeze _ _).os=_∧(w.freeze _ _).tape=_∧(w.freeze _ _).output=_
  unfold World.freeze
  rw [if_neg (by decide)]
  exact ⟨rfl,rfl,rfl⟩
 have hcell:∀ a:Addr,a.block=b→w'.cell? a=w.cell? a:=fun a ha=>by
  have h1:w'.heap[a.block]?=some (.cells vs el (vs.size,vs.size+1)):=by rw [ha];exact hat
  have h2:w.heap[a.block]?=some (.cells vs el):=by rw [ha];exact k6
  simp only [World.cell?,h1,h2]
 have hrun:(execOp e o).run P w=.ok (.value (.slice (some ⟨b,0,none⟩) n n)) w':=by
  unfold execOp
  simp only [ho,Sem.run_bind]
  simp [hv,convert,run_underlying hel1,run_underlying hel2,markStringish,hsh]
  rfl
 have hle:G.le (qJl G b n vs):=by
  refine ⟨fun a u ha=>?_,fun _ _ x=>x,fun _ _ _ x=>x,fun _ _ x=>x⟩
  show (if a.block=b then _ else G.imm a)=some u
  rw [if_neg (fun hh=>by rw [kimm a hh] at ha;cases ha)]
  exact ha
 have hrd:∀ (j:Nat) (c:UInt8),s[j]?=some c→(qJl G b n vs).imm ((⟨b,0,none⟩:Addr).add j)=some (.int .u8 (c.toNat:Int)):=fun j c hc=>by
  rw [qDd,Nat.zero_add]
  show (if b=b then (if (none:Option Nat)=none∧j < n then vs[j]? else none) else _)=_
  have hj:j < n:=by rw [← hn];exact (List.getElem?_eq_some_iff.1 hc).1
  simp [hj,k8 j c hc]
 refine ⟨_,w',qJl G b n vs,hrun,hle,?_,.sl ?_ ?_⟩
 ·have hNK:¬ E.K b:=(hw.own b i0 kown).2
  refine ⟨hw.le.trans hle,fun a u ha=>?_,fun a u ha=>?_,fun k hk=>?_,by rw [hsz];exact hw.size,hfr.1.trans hw.os,hfr.2.1.trans hw.tape,hfr.2.2.trans hw.output,fun k i hk=>by rw [hsz];exact hw.own k i hk,fun j hj=>hw.fresh j (by simpa using hj),fun j ob hj=>?_⟩
  ·have ha':(if a.block=b then (if a.spot=none∧a.off < n then vs[a.off]? else none) else G.imm a)=some u:=ha
   split at ha'
   ·rename_i hab
    split at ha'
    ·rename_i hs
     rw [hcell a hab]
     have h2:w.heap[a.block]?=some (.cells vs el):=by rw [hab];exact k6
     simp only [World.cell?,h2,hs.1]
     simpa using ha'
    ·cases ha'
   ·rename_i hab
    rw [World.cell?_of_block (w:=w) (hne _ hab)]
    exact hw.imm a u ha'
  ·have ha':(if a.block=b then (if a.spot=none∧a.off < n then vs[a.off]? else none) else G.imm a)=some u:=ha
   split at ha'
   ·rename_i hab;right;rw [hab];exact hNK
   ·exact hw.immNew a u ha'
  ·rw [hne k (fun hh=>hNK (hh▸hk))]
   exact hw.keep k hk
  ·rw [List.getElem?_set] at hj
   split at hj
   ·rename_i e
    subst e
    split at hj
    ·cases hj;trivial
    ·cases hj
   ·rename_i hij
    refine (hw.obj j ob hj).keep hle (fun k hk=>?_) (fun m hm=>hm) (fun hm=>hm)
    have hkb:k≠b:=fun hh=>by rw [hh,kown] at hk;cases hk;exact hij rfl
    refine ⟨hne k hkb,fun a ha=>?_⟩
    show (if a.block=b then _ else G.imm a)=G.imm a
    rw [if_neg (by rw [ha];exact hkb)]
 ·have hl:n=(s.map fun c=>[Dat.int .u8 (c.toNat:Int)]).length:=by simp [hn]
  rw [hl]
  refine .sl 1 _ ⟨b,0,none⟩ _ (fun j=>vs.getD j undef) rfl (Nat.le_refl _) (fun e he=>?_) (fun i e j d he hd=>?_) (fun i e j d he hd=>?_)
  ·obtain ⟨c,_,rfl⟩:=List.mem_map.1 he
   rfl
  ·simp only [List.getElem?_map,Option.map_eq_some_iff] at he
   obtain ⟨c,hc,rfl⟩:=he
   cases j with
   | succ j=>simp at hd
   | zero =>
    rw [← hl,Nat.mul_one,Nat.add_zero,hrd i c hc]
    simp [Array.getD_eq_getD_getElem?,k8 i c hc]
  ·simp only [List.getElem?_map,Option.map_eq_some_iff] at he
   obtain ⟨c,hc,rfl⟩:=he
   cases j with
   | succ j=>simp at hd
   | zero =>
    simp at hd
    subst hd
    rw [Nat.mul_one,Nat.add_zero]
    simp only [Array.getD_eq_getD_getElem?,k8 i c hc,Option.getD_some]
    exact .int _ _
 ·exact ⟨some ⟨b,0,none⟩,by simp [hn]⟩
end
end Tdoc
namespace Tdoc
open Go
def qEx:Dat→Value
 | .int k n=>.int k n
 | .bool b=>.bool b
 | .str s=>.string ⟨s.toArray⟩
 | .sl _ _=>.nilFunc
def qFr:Dat→Bool
 | .sl _ _=>false
 | _=>true
theorem qMr {m:Addr→Option Value} {d:Dat} (h:qFr d=true):RepD m d (qEx d):=by
 cases d with
 | int k n=>exact .int k n
 | bool b=>exact .bool b
 | str s=>exact .str s
 | sl _ _=>cases h
theorem vCw {m:Addr→Option Value} {d:Dat} {v:Value} (h:qFr d=true) (r:RepD m d v):v=qEx d:=by
 cases r with
 | int k n=>rfl
 | bool b=>rfl
 | str s=>rfl
 | nil=>cases h
 | sl=>cases h
theorem flatV_inj {a b:Dat} (ha:qFr a=true) (hb:qFr b=true) (h:qEx a=qEx b):a=b:=by
 cases a <;> cases b <;> simp [qEx] at h <;> first | (obtain ⟨rfl,rfl⟩:=h;rfl) | (subst h;rfl) | cases ha | cases hb | skip
structure MapIs (A:List (Dat×Dat)) (es:Array MapEntry) (clock:Nat):Prop where
 st:MapKept.Stamped es clock
 fwd:∀ e,e∈es.toList→∃ p,p∈A∧e.key=qEx p.1∧e.val=qEx p.2
 bwd:∀ p,p∈A→∃ e,e∈es.toList∧e.key=qEx p.1∧e.val=qEx p.2
def qTh (A:List (Dat×Dat)) (f:Nat→Option Obj) (b:Nat) (S:List Nat):Prop:=S=[b]∧∃ es clock,f b=some (.map es clock)∧MapIs A es clock
def vFt (bm:Nat) (es:Array MapEntry) (clock:Nat) (f:Nat→Option Obj) (b:Nat) (S:List Nat):Prop:=S=[b]∧b=bm∧f b=some (.map es clock)
def qRa (bm since:Nat) (seen:Array Nat) (last:Nat) (f:Nat→Option Obj) (b:Nat) (S:List Nat):Prop:=S=[b]∧f b=some (.mapIter (some bm) since seen last)
theorem mapR_loc {A:List (Dat×Dat)} {b:Nat} (f g:Nat→Option Obj) (h:∀ k,k∈[b]→f k=g k) (hr:qTh A f b [b]):qTh A g b [b]:=by
 obtain ⟨h1,es,c,h2,h3⟩:=hr
 exact ⟨h1,es,c,by rw [← h b (List.mem_singleton.2 rfl)];exact h2,h3⟩
theorem mapC_loc {bm clock:Nat} {es:Array MapEntry} {b:Nat} (f g:Nat→Option Obj) (h:∀ k,k∈[b]→f k=g k) (hr:vFt bm es clock f b [b]):vFt bm es clock g b [b] :=
 ⟨hr.1,hr.2.1,by rw [← h b (List.mem_singleton.2 rfl)];exact hr.2.2⟩
theorem iterC_loc {bm since last:Nat} {seen:Array Nat} {b:Nat} (f g:Nat→Option Obj) (h:∀ k,k∈[b]→f k=g k) (hr:qRa bm since seen last f b [b]):qRa bm since seen last g b [b] :=
 ⟨hr.1,by rw [← h b (List.mem_singleton.2 rfl)];exact hr.2⟩
theorem WRel.newOpqAt {E:Env} {G:Gh} {h:List AObj} {w:World} {i0:Nat} (hw:WRel E G h w) (hroom:h[i0]?=some .room) (ob:Obj) (R:(Nat→Option Obj)→Nat→List Nat→Prop) (w':World) (hh:w'.heap=w.heap.push ob) (ho:w'.os=w.os) (ht:w'.tape=w.tape) (hout:w'.output=w.output)
  (hR:∀ f:Nat→Option Obj,f w.heap.size=some ob→R f w.heap.size [w.heap.size]) (hloc:∀ (b:Nat) (f g:Nat→Option Obj),(∀ k,k∈[b]→f k=g k)→R f b [b]→R g b [b]) :
  G.le (qEe G i0 w.heap.size)∧WRel E (qEe G i0 w.heap.size) (h.set i0 (.opq R)) w':=by
 have hf:=hw.obj i0 _ hroom
 have hi0:i0 < h.length:=(List.getElem?_eq_some_iff.1 hroom).1
 have hown:G.own w.heap.size=none:=by
  cases ho:G.own w.heap.size with
  | none=>rfl
  | some i=>have:=(hw.own _ _ ho).1;omega
 have hle:G.le (qEe G i0 w.heap.size):=by
  refine ⟨fun _ _ x=>x,fun i b x=>?_,fun _ _ _ x=>x,fun b i x=>?_⟩
  ·show (if i=i0 then some w.heap.size else G.loc i)=some b
   split
   ·rename_i e;subst e;rw [hf.1] at x;cases x
   ·exact x
  ·show (if b=w.heap.size then some i0 else G.own b)=some i
   split
   ·rename_i e;subst e;rw [hown] at x;cases x
   ·exact x
 have hK:¬ E.K w.heap.size:=fun hk=>by have:=hw.size;have:=hk.1;omega
 have hnew:w'.heap[w.heap.size]?=some ob:=by rw [hh];exact Array.getElem?_push_size
 refine ⟨hle,hw.le.trans hle,fun a v ha=>?_,hw.immNew,fun b hb=>?_,by rw [hh];simp;have:=hw.size;omega,ho.trans hw.os,ht.trans hw.tape,hout.trans hw.output,fun b i hb=>?_,fun i hi=>?_,fun i ob' hi=>?_⟩
 ·have hc:=hw.imm a v ha
  rw [World.cell?_of_block (w:=w) (by rw [hh];exact qBc _ _ _ (World.block_lt_of_cell? _ _ hc))]
  exact hc
 ·rw [hh,qBc _ _ _ (Nat.lt_of_lt_of_le hb.1 hw.size)];exact hw.keep b hb
 ·have hb':(if b=w.heap.size then some i0 else G.own b)=some i:=hb
  split at hb'
  ·rename_i e;subst e;exact ⟨by rw [hh];simp,hK⟩
  ·have:=hw.own b i hb';exact ⟨by rw [hh];simp;omega,this.2⟩
 ·simp only [List.length_set] at hi
  have:=hw.fresh i (by omega)
  refine ⟨?_,this.2⟩
  show (if i=i0 then some w.heap.size else G.loc i)=none
  rw [if_neg (by omega)];exact this.1
 ·rw [List.getElem?_set] at hi
  by_cases hie:i0=i
  ·subst hie
   simp only [if_true,hi0] at hi
   cases hi
   refine ⟨w.heap.size,[w.heap.size],?_,List.mem_singleton.2 rfl,fun n=>hf.2 n,fun k hk=>?_,hR _ hnew,hloc _⟩
   ·show (if i0=i0 then _ else _)=_;simp
   ·rw [List.mem_singleton] at hk
    subst hk
    refine ⟨?_,fun a ha=>?_⟩
    ·show (if w.heap.size=w.heap.size then _ else _)=_;simp
    ·cases hg:G.imm a with
     | none=>exact hg
     | some v=>have:=World.block_lt_of_cell? _ _ (hw.imm a v hg);omega
  ·rw [if_neg hie] at hi
   refine (hw.obj i ob' hi).keep hle (fun b hb=>?_) (fun n hn=>hn) (fun hn=>by show (if i=i0 then _ else G.loc i)=none;rw [if_neg (fun e=>hie e.symm)];exact hn)
   exact ⟨by rw [hh];exact qBc _ _ _ (hw.own b i hb).1,fun a ha=>rfl⟩
theorem WRel.setOpq {E:Env} {G:Gh} {h:List AObj} {w:World} {i b:Nat} {o':Obj} {R R':(Nat→Option Obj)→Nat→List Nat→Prop} (hw:WRel E G h w) (hi:h[i]?=some (.opq R)) (hl:G.loc i=some b) (hown:G.own b=some i) (himm:∀ a:Addr,a.block=b→G.imm a=none)
  (hb:b < w.heap.size) (w':World) (hh:w'.heap=w.heap.setIfInBounds b o') (ho:w'.os=w.os) (ht:w'.tape=w.tape) (hout:w'.output=w.output)
  (hR:∀ f:Nat→Option Obj,f b=some o'→R' f b [b]) (hloc:∀ (b:Nat) (f g:Nat→Option Obj),(∀ k,k∈[b]→f k=g k)→R' f b [b]→R' g b [b]):WRel E G (h.set i (.opq R')) w':=by
 have hat:w'.heap[b]?=some o':=by rw [hh];simp [hb]
 have hne:∀ k,k≠b→w'.heap[k]?=w.heap[k]?:=fun k hk=>by rw [hh];simp [Ne.symm hk]
 have hsz:w'.heap.size=w.heap.size:=by rw [hh];simp
 have hNK:¬ E.K b:=(hw.own b i hown).2
 refine ⟨hw.le,fun a u ha=>?_,hw.immNew,fun k hk=>?_,by rw [hsz];exact hw.size,ho.trans hw.os,ht.trans hw.tape,hout.trans hw.output,fun k j hk=>by rw [hsz];exact hw.own k j hk,fun j hj=>hw.fresh j (by simpa using hj),fun j ob hj=>?_⟩
 ·have hab:a.block≠b:=fun hh=>by rw [himm a hh] at ha;cases ha
  rw [World.cell?_of_block (w:=w) (hne _ hab)]
  exact hw.imm a u ha
 ·rw [hne k (fun hh=>hNK (hh▸hk))]
  exact hw.keep k hk
 ·rw [List.getElem?_set] at hj
  split at hj
  ·rename_i e
   subst e
   split at hj
   ·cases hj
    obtain ⟨b',S,k1,k2,k3,k4,_,_⟩:=hw.obj i _ hi
    rw [hl] at k1
    cases k1
    exact ⟨b,[b],hl,List.mem_singleton.2 rfl,k3,fun k hk=>by rw [List.mem_singleton] at hk;subst hk;exact ⟨hown,himm⟩,hR _ hat,hloc b⟩
   ·cases hj
  ·rename_i hij
   refine (hw.obj j ob hj).keep (.refl G) (fun k hk=>?_) (fun m hm=>hm) (fun hm=>hm)
   have hkb:k≠b:=fun hh=>by rw [hh,hown] at hk;cases hk;exact hij rfl
   exact ⟨hne k hkb,fun a ha=>rfl⟩
section
variable {P:Program} {E:Env} {T:Tr} {o:Oper} {ρ:Operand→AV} {h h':List AObj} {v:AV}
theorem RepA.mp_inv {G:Gh} {v:Value} {i:Nat} (h:RepA G (.mp i) v):∃ b,v=.map (some b)∧G.loc i=some b:=by cases h with | mp r=>exact ⟨_,rfl,r⟩
theorem RepA.ptr_inv0 {G:Gh} {v:Value} {i:Nat} (h:RepA G (.ptr i 0) v):∃ b,v=.pointer (some ⟨b,0,none⟩)∧G.loc i=some b:=by cases h with | ptr _ r=>exact ⟨_,rfl,r⟩
theorem makeMap_ok {t m:Nat} (ho:o.op=.makeMap t none) (hroom:h[m]?=some .room):OpS P E o ρ h (.mp m) (h.set m (.opq (qTh []))) :=
 qBg fun G e w hw hr=>by
  have hn:=hw.newOpqAt hroom (.map #[] 0) (qTh []) (w.alloc (.map #[] 0)) rfl rfl rfl rfl (fun f hf=>⟨rfl,#[],0,hf,MapKept.stamped_empty 0,fun e he=>by simp at he,fun p hp=>by cases hp⟩) (fun b f g=>mapR_loc f g)
  refine ⟨.map (some w.heap.size),_,_,?_,hn.1,hn.2,.mp (by show (if m=m then _ else _)=_;simp)⟩
  unfold execOp
  simp [ho,Instr.makeMap]
theorem vCq {t kt et m:Nat} {x kx vx:Operand} {A:List (Dat×Dat)} {k v:Dat} {d:TypeDesc} (ho:o.op=.insert t x kx vx) (ht:P.underlying t=some (.map kt et)) (hd:P.underlying kt=some d) (hx:ρ x=.mp m) (hk:ρ kx=.d k) (hv:ρ vx=.d v)
  (hi:h[m]?=some (.opq (qTh A))) (hkf:qFr k=true) (hvf:qFr v=true) (hkey:∀ p,p∈(k,v)::A→MapKept.IsKey d (qEx p.1)∧qFr p.1=true) (hnew:∀ p,p∈A→p.1≠k):OpS P E o ρ h .any (h.set m (.opq (qTh ((k,v)::A)))) :=
 qKf fun G e w hw hr=>by
  have hx':RepA G (ρ x) (e x):=hr x (by simp [ho,Op.operands])
  have hk':RepA G (ρ kx) (e kx):=hr kx (by simp [ho,Op.operands])
  have hv':RepA G (ρ vx) (e vx):=hr vx (by simp [ho,Op.operands])
  rw [hx] at hx';rw [hk] at hk';rw [hv] at hv'
  obtain ⟨b,hxv,hlb⟩:=hx'.mp_inv
  have hkv:e kx=qEx k:=by
   generalize e kx=u at hk'
   cases hk' with
   | d r=>exact vCw hkf r
  have hvv:e vx=qEx v:=by
   generalize e vx=u at hv'
   cases hv' with
   | d r=>exact vCw hvf r
  obtain ⟨b',S,k1,k2,k3,k4,⟨k5,es,clock,k6,k7⟩,_⟩:=hw.obj m _ hi
  rw [hlb] at k1
  cases k1
  have k6:w.heap[b]?=some (.map es clock):=k6
  obtain ⟨kown,kimm⟩:=k4 b k2
  have hbl:b < w.heap.size:=(hw.own b m kown).1
  have hkk:=(hkey (k,v) List.mem_cons_self).1
  have hks:∀ x,x∈es.toList→MapKept.IsKey d x.key:=fun y hy=>by
   obtain ⟨p,hp,h1,_⟩:=k7.fwd y hy
   rw [h1]
   exact (hkey p (List.mem_cons_of_mem _ hp)).1
  have hne:∀ x,x∈es.toList→x.key≠qEx k:=fun y hy hh=>by
   obtain ⟨p,hp,h1,_⟩:=k7.fwd y hy
   rw [h1] at hh
   exact hnew p hp (flatV_inj (hkey p (List.mem_cons_of_mem _ hp)).2 hkf hh)
  have hfind:Instr.findNow d (qEx k) es.toList 0=some none:=by
   rcases MapKept.findNow_spec hkk es.toList 0 hks with ⟨h1,_⟩ | ⟨j,e',_,h2,h3⟩
   ·exact h1
   ·exact absurd h3 (hne e' (List.mem_of_getElem? h2))
  refine ⟨{ w with heap:=w.heap.setIfInBounds b (.map (es.push { key:=qEx k,val:=qEx v,born:=clock }) (clock+1)) },G,?_,.refl G,
   hw.setOpq hi hlb kown kimm hbl _ rfl rfl rfl rfl (fun f hf=>⟨rfl,_,_,hf,MapKept.stamped_push k7.st hne,fun y hy=>?_,fun p hp=>?_⟩) (fun b f g=>mapR_loc f g)⟩
  ·unfold execOp
   simp [ho,hxv,hkv,hvv,Instr.mapUpdate,run_underlying ht,MapKept.run_getObj_map k6,MapKept.run_checkKey hd hkk,MapKept.run_findKey hd hfind,MapKept.run_setObj_map _ k6,Result.andThen]
  ·simp only [Array.toList_push,List.mem_append,List.mem_singleton] at hy
   rcases hy with hy | rfl
   ·obtain ⟨p,hp,h1,h2⟩:=k7.fwd y hy
    exact ⟨p,List.mem_cons_of_mem _ hp,h1,h2⟩
   ·exact ⟨(k,v),List.mem_cons_self,rfl,rfl⟩
  ·rcases List.mem_cons.1 hp with rfl | hp
   ·exact ⟨{ key:=qEx k,val:=qEx v,born:=clock },by simp,rfl,rfl⟩
   ·obtain ⟨y,hy,h1,h2⟩:=k7.bwd p hp
    exact ⟨y,by simp [hy],h1,h2⟩
theorem vFj {t kt et m it:Nat} {x:Operand} {A:List (Dat×Dat)} (ho:o.op=.range t x) (ht:P.underlying t=some (.map kt et)) (hx:ρ x=.mp m) (hi:h[m]?=some (.opq (qTh A))) (hroom:h[it]?=some .room) :
  OpR P E o ρ h (fun u k=>∃ y:Nat×Array MapEntry×Nat,MapIs A y.2.1 y.2.2∧u=.ptr it 0∧k=(h.set m (.opq (vFt y.1 y.2.1 y.2.2))).set it (.opq (qRa y.1 y.2.2 #[] y.2.2))):=by
 intro G a w hw hr
 have hx':RepA G (ρ x) (a.eval x):=hr x (by simp [ho,Op.operands])
 rw [hx] at hx'
 obtain ⟨b,hxv,hlb⟩:=hx'.mp_inv
 obtain ⟨b',S,k1,k2,k3,k4,⟨k5,es,clock,k6,k7⟩,_⟩:=hw.obj m _ hi
 rw [hlb] at k1
 cases k1
 have k6:w.heap[b]?=some (.map es clock):=k6
 subst k5
 have hne:m≠it:=fun hh=>by rw [hh,hroom] at hi;cases hi
 have hw1:WRel E G (h.set m (.opq (vFt b es clock))) w:=hw.reObj hi fun hob=>by
  exact ⟨b,[b],hlb,List.mem_singleton.2 rfl,k3,k4,⟨rfl,rfl,k6⟩,fun f g=>mapC_loc f g⟩
 have hroom':(h.set m (.opq (vFt b es clock)))[it]?=some .room:=by rw [List.getElem?_set_ne hne];exact hroom
 have hn:=hw1.newOpqAt hroom' (.mapIter (some b) clock #[] clock) (qRa b clock #[] clock) (w.alloc (.mapIter (some b) clock #[] clock)) rfl rfl rfl rfl (fun f hf=>⟨rfl,hf⟩) (fun b f g=>iterC_loc f g)
 have hrun:=run_range_map (P:=P) w t kt et b es clock ht k6
 have hex:(execOp a.eval o).run P w=.ok (.value (.pointer (some ⟨w.heap.size,0,none⟩))) (w.alloc (.mapIter (some b) clock #[] clock)):=by
  unfold execOp
  simp [ho,hxv,hrun]
 unfold Oper.wp
 rw [hex]
 exact ⟨_,qEe G it w.heap.size,.ptr it 0,_,⟨(b,es,clock),k7,rfl,rfl⟩,rfl,hn.1,hn.2,.ptr 0 (by show (if it=it then _ else _)=_;simp)⟩
end
end Tdoc
namespace Tdoc
open Go
section
variable {P:Program} {E:Env} {N:Nat} {ops:Array Oper} {M:Array Bool→AObj} {m L:Nat} {rd wr:Nat→List Nat}
def Closed (ops:Array Oper) (listed:Array Bool):Prop:=∀ i o,ops[i]?=some o→listed.getD i false=true→∀ e∈o.after,Region.binds .any e=true→listed.getD e.on false=true
theorem Closed.set {listed:Array Bool} {i:Nat} (h:Closed ops listed) (hi:i∈Region.ready .any ops listed):Closed ops (listed.setIfInBounds i true):=by
 intro j o ho hj e he hb
 by_cases hji:i=j
 ·subst hji
  obtain ⟨_,o',ho',hall⟩:=mem_ready.1 hi
  rw [ho] at ho';cases ho'
  exact getD_set_true (hall e he hb)
 ·rw [getD_set_ne false hji] at hj
  exact getD_set_true (h j o ho hj e he hb)
theorem qKs {listed:Array Bool} {i:Nat} (h:listed.getD i true=false):listed.getD i false=false:=by
 rcases Nat.lt_or_ge i listed.size with h' | h'
 ·simp [h'] at h ⊢;exact h
 ·simp [Array.getElem?_eq_none h'] at h
def SM (P:Program) (E:Env) (N:Nat) (ops:Array Oper) (M:Array Bool→AObj) (m:Nat) (rd wr:Nat→List Nat) (i:Nat) (o:Oper) (τ:Nat→AV) (h:List AObj) (v:AV) (os:List AObj):Prop :=
 ∀ (listed:Array Bool) (k:List AObj),Closed ops listed→i∈Region.ready .any ops listed→k.length=h.length→(∀ j,j∈rd i→k[j]?=h[j]?) →
  StepR P E N ops o τ (k.set m (M listed)) (fun a b=>a=v∧b=(qGb k (wr i) os).set m (M (listed.setIfInBounds i true)))
theorem SM.congr {i:Nat} {o:Oper} {τ τ':Nat→AV} {h h' os:List AObj} {v:AV} (hc:∀ d,d∈o.looksAt ops→τ' d=τ d) (hl:h'.length=h.length) (hh:∀ j,j∈rd i→h'[j]?=h[j]?)
  (H:SM P E N ops M m rd wr i o τ h v os):SM P E N ops M m rd wr i o τ' h' v os :=
 fun listed k h0 h1 h2 h3=>qOi hc (H listed k h0 h1 (h2.trans hl) fun j hj=>(h3 j hj).trans (hh j hj))
def vLs (P:Program) (E:Env) (N:Nat) (ops:Array Oper) (M:Array Bool→AObj) (m L:Nat) (Q:(Nat→AV)→List AObj→Prop) (listed:Array Bool) (τ:Nat→AV) (h:List AObj):Prop :=
 Region.ready .any ops listed=[L]∧Region.ready .any ops (listed.setIfInBounds L true)=[]∧∃ o R,ops[L]?=some o∧StepR P E N ops o τ (h.set m (M listed)) R∧∀ v h',R v h'→Q (qKo τ o.dst v) h'
def vLc (P:Program) (E:Env) (N:Nat) (ops:Array Oper) (M:Array Bool→AObj) (m L:Nat) (rd wr:Nat→List Nat) (Q:(Nat→AV)→List AObj→Prop):Nat→Array Bool→(Nat→AV)→List AObj→Prop
 | 0,listed,τ,h=>vLs P E N ops M m L Q listed τ h
 | fuel+1,listed,τ,h=>Region.ready .any ops listed≠[]∧∀ i,i∈Region.ready .any ops listed→i≠L∧∃ o v os,ops[i]?=some o∧SM P E N ops M m rd wr i o τ h v os ∧
   vLc P E N ops M m L rd wr Q fuel (listed.setIfInBounds i true) (qKo τ o.dst v) (qGb h (wr i) os)
theorem anyM_sound {Q:Exit→(Nat→AV)→List AObj→Prop}:∀ (fuel:Nat) (listed:Array Bool) (τ:Nat→AV) (h:List AObj) (a:Act) (w:World),Closed ops listed→vLc P E N ops M m L rd wr (Q .normal) fuel listed τ h→Rel E N τ (h.set m (M listed)) a w →
  wpAny P .any ops (fun ex a' w'=>∃ τ' h',Q ex τ' h'∧Rel E N τ' h' a' w') (fuel+1) listed a w
 | 0,listed,τ,h,a,w,hc,⟨h1,h2,o,R,ho,hs,hk⟩,hr=>by
  refine ⟨fun h0=>(by rw [h1] at h0;cases h0),fun i hi=>?_⟩
  rw [h1,List.mem_singleton] at hi
  subst hi
  exact qGd ho hs hr fun v h' a' w' hR hrel=>⟨h2,_,h',hk v h' hR,hrel⟩
 | fuel+1,listed,τ,h,a,w,hc,⟨h1,h2⟩,hr=>by
  refine ⟨fun h0=>absurd h0 h1,fun i hi=>?_⟩
  obtain ⟨_,o,v,os,ho,hsm,hk⟩:=h2 i hi
  exact qGd ho (hsm listed h hc hi rfl fun _ _=>rfl) hr fun v' h'' a' w' ⟨e1,e2⟩ hrel=>by
   subst e1;subst e2
   exact anyM_sound fuel _ _ _ a' w' (hc.set hi) hk hrel
theorem anyM_first {Q:(Nat→AV)→List AObj→Prop} {i:Nat} {oi:Oper} {v:AV} {osi:List AObj} (hi:ops[i]?=some oi) (hiL:i≠L) (hL:∀ listed,Closed ops listed→L∈Region.ready .any ops listed→listed.getD i false=true) :
  ∀ (fuel:Nat) (listed:Array Bool) (τ:Nat→AV) (h:List AObj),Closed ops listed →
  (∀ j oj,ops[j]?=some oj→j≠i→listed.getD j true=false→(∀ e∈oj.after,Region.binds .any e=true→e.on≠i)→oi.apart ops oj=true∧conf rd wr i j=false) →
  i∈Region.ready .any ops listed→SM P E N ops M m rd wr i oi τ h v osi→vLc P E N ops M m L rd wr Q fuel (listed.setIfInBounds i true) (qKo τ oi.dst v) (qGb h (wr i) osi)→vLc P E N ops M m L rd wr Q (fuel+1) listed τ h:=by
 have noL:∀ (listed:Array Bool) (j:Nat),Closed ops listed→i∈Region.ready .any ops listed→j∈Region.ready .any ops listed→j≠L:=fun listed j hc hr hj hjL=>by
  subst hjL
  have h1:=hL listed hc hj
  rw [qKs (mem_ready.1 hr).1] at h1
  cases h1
 intro fuel
 induction fuel with
 | zero =>
  intro listed τ h hcl _ hr hy H
  refine ⟨fun h0=>(by rw [h0] at hr;cases hr),fun j hj=>⟨noL listed j hcl hr hj,?_⟩⟩
  by_cases hji:j=i
  ·subst hji;exact ⟨oi,v,osi,hi,hy,H⟩
  ·have h1:=ready_mono hj hji
   rw [H.1,List.mem_singleton] at h1
   exact absurd h1 (noL listed j hcl hr hj)
 | succ fuel ih =>
  intro listed τ h hcl hfree hr hy H
  refine ⟨fun h0=>(by rw [h0] at hr;cases hr),fun j hj=>⟨noL listed j hcl hr hj,?_⟩⟩
  by_cases hji:j=i
  ·subst hji;exact ⟨oi,v,osi,hi,hy,H⟩
  ·obtain ⟨_,oj,vj,osj,hoj,hsj,hk⟩:=H.2 j (ready_mono hj hji)
   obtain ⟨hjun,oj',hoj',hall⟩:=mem_ready.1 hj
   rw [hoj] at hoj';cases hoj'
   have hnot:∀ e∈oj.after,Region.binds .any e=true→e.on≠i:=fun e he hb heq=>by
    have h1:=hall e he hb
    rw [heq,qKs (mem_ready.1 hr).1] at h1
    cases h1
   obtain ⟨hap,hcf⟩:=hfree j oj hoj hji hjun hnot
   obtain ⟨a1,a2,a3⟩:=Oper.apart_spec hap
   simp only [conf,Bool.or_eq_false_iff] at hcf
   obtain ⟨⟨f1,f2⟩,f3⟩:=hcf
   have f1:=qEg f1
   have f2:=qEg f2
   have f3:=qEg f3
   have cj:∀ d,d∈oj.looksAt ops→τ d=qKo τ oi.dst v d:=fun d hd=>(putA_other fun e he hh=>a1 e he (hh▸hd)).symm
   have ci:∀ u d,d∈oi.looksAt ops→qKo τ oj.dst u d=τ d:=fun u d hd=>putA_other fun e he hh=>a3 e he (hh▸hd)
   have hfree':∀ k ok,ops[k]?=some ok→k≠i→(listed.setIfInBounds j true).getD k true=false→(∀ e∈ok.after,Region.binds .any e=true→e.on≠i)→oi.apart ops ok=true∧conf rd wr i k=false:=fun k ok hk' hki hun hno=>by
    refine hfree k ok hk' hki ?_ hno
    by_cases hjk:j=k
    ·subst hjk;exact hjun
    ·rw [getD_set_ne true hjk] at hun;exact hun
   refine ⟨oj,vj,osj,hoj,hsj.congr cj (by rw [updH_length]) (fun x hx=>(updH_other _ _ _ _ (fun hw=>f1 x hw hx)).symm),ih _ _ _ (hcl.set hj) hfree' (ready_mono hr (Ne.symm hji)) (hy.congr (ci vj) (by rw [updH_length]) (fun x hx=>updH_other _ _ _ _ (fun hw=>f3 x hw hx))) ?_⟩
   rw [Array.setIfInBounds_comm _ _ hji,← putA_comm a2,← updH_comm _ _ _ _ _ f2]
   exact hk
def AWdM (P:Program) (E:Env) (N:Nat) (ops:List Oper) (M:Array Bool→AObj) (m L:Nat) (rd wr:Nat→List Nat) (Q:(Nat→AV)→List AObj→Prop):List Oper→Nat→(Nat→AV)→List AObj→Prop
 | [],_,τ,h=>∃ o R,ops[L]?=some o∧(∀ listed,(∀ i,i < L→listed.getD i false=true)→StepR P E N ops.toArray o τ (h.set m (M listed)) R)∧∀ v h',R v h'→Q (qKo τ o.dst v) h'
 | o::rest,i,τ,h=>∃ v os,SM P E N ops.toArray M m rd wr i o τ h v os∧AWdM P E N ops M m L rd wr Q rest (i+1) (qKo τ o.dst v) (qGb h (wr i) os)
def vKp (ops:Array Oper) (rd wr:Nat→List Nat) (L:Nat):Nat→Nat→Array Bool→Bool
 | 0,_,listed=>(Region.ready .any ops listed == [L])&&(Region.ready .any ops (listed.setIfInBounds L true)).isEmpty&&(List.range L).all fun i=>listed.getD i false
 | fuel+1,k,listed=>(Region.ready .any ops listed).contains k&&vGc ops rd wr listed k&&!Nat.beq k L&&vKp ops rd wr L fuel (k+1) (listed.setIfInBounds k true)
def qYa (ops:Array Oper) (L L':Nat):Bool:=match ops[L]?,ops[L']? with
 | some o,some o'=>o.after.any (fun e=>Region.binds .any e&&Nat.beq e.on L')&&(List.range ops.size).all fun k=>Nat.beq k L||Nat.beq k L'||o'.after.any fun e=>Region.binds .any e&&Nat.beq e.on k
 | _,_=>false
theorem lastOk_spec {L':Nat} (h:qYa ops L L'=true) {i:Nat} {oi:Oper} (hi:ops[i]?=some oi) (hiL:i≠L) (listed:Array Bool) (hc:Closed ops listed) (hr:L∈Region.ready .any ops listed):listed.getD i false=true:=by
 unfold qYa at h
 split at h
 ·rename_i o o' ho ho'
  simp only [Bool.and_eq_true,List.all_eq_true,List.mem_range] at h
  obtain ⟨h1,h2⟩:=h
  obtain ⟨e,he,hb⟩:=Array.any_eq_true'.1 h1
  simp only [Bool.and_eq_true] at hb
  obtain ⟨_,o2,ho2,hall⟩:=mem_ready.1 hr
  rw [ho] at ho2;cases ho2
  have hl:=hall e he hb.1
  rw [Nat.eq_of_beq_eq_true hb.2] at hl
  have h3:=h2 i (Array.getElem?_eq_some_iff.1 hi).1
  simp only [Bool.or_eq_true] at h3
  rcases h3 with (h3 | h3) | h3
  ·exact absurd (Nat.eq_of_beq_eq_true h3) hiL
  ·rw [Nat.eq_of_beq_eq_true h3];exact hl
  ·obtain ⟨e2,he2,hb2⟩:=Array.any_eq_true'.1 h3
   simp only [Bool.and_eq_true] at hb2
   have:=hc L' o' ho' hl e2 he2 hb2.1
   rw [Nat.eq_of_beq_eq_true hb2.2] at this
   exact this
 ·cases h
theorem qYs {ops:List Oper} {Q:(Nat→AV)→List AObj→Prop} {L':Nat} (hlast:qYa ops.toArray L L'=true):∀ (l:List Oper) (k:Nat) (listed:Array Bool) (τ:Nat→AV) (h:List AObj),(∀ j,j < l.length→l[j]?=ops[k+j]?)→Closed ops.toArray listed →
  vKp ops.toArray rd wr L l.length k listed=true→AWdM P E N ops M m L rd wr Q l k τ h→vLc P E N ops.toArray M m L rd wr Q l.length listed τ h
 | [],_,listed,τ,h,_,_,hB,⟨o,R,ho,hs,hk⟩=>by
  simp only [List.length_nil,vKp,Bool.and_eq_true,List.all_eq_true,List.mem_range,beq_iff_eq] at hB
  exact ⟨hB.1.1,by simpa using hB.1.2,o,R,by simpa using ho,hs listed hB.2,hk⟩
 | o::l,k,listed,τ,h,hl,hc,hB,H=>by
  have h0:ops.toArray[k]?=some o:=by simpa using (hl 0 (by simp)).symm
  simp only [List.length_cons,vKp,Bool.and_eq_true,Bool.not_eq_true'] at hB
  obtain ⟨⟨⟨hr,hf⟩,hkL⟩,hB'⟩:=hB
  have hr':k∈Region.ready .any ops.toArray listed:=by simpa using hr
  have hkL':k≠L:=fun hh=>by rw [hh] at hkL;simp at hkL
  obtain ⟨v,os,hs,hk⟩:=H
  exact anyM_first h0 hkL' (fun listed hcl hrL=>lastOk_spec hlast h0 hkL' listed hcl hrL) l.length listed τ h hc (freeD_spec h0 hf) hr' hs
   (qYs hlast l (k+1) _ _ _ (fun j hj=>by have:=hl (j+1) (by simp only [List.length_cons];omega);simpa [Nat.add_assoc,Nat.add_comm 1 j] using this) (hc.set hr') hB' hk)
theorem vHg {id:Nat} (M:Array Bool→AObj) (m L L':Nat) (rd wr:Nat→List Nat) {ops:List Oper} {Q:Exit→(Nat→AV)→List AObj→Prop} {τ:Nat→AV} {h:List AObj} (hm:P.follows .mixedOrders=true) (hlen:ops.length=L+1)
  (hB:vKp ops.toArray rd wr L L 0 (Array.replicate ops.length false)=true) (hlast:qYa ops.toArray L L'=true) (h0:h.set m (M (Array.replicate ops.length false))=h) (H:AWdM P E N ops M m L rd wr (Q .normal) (ops.take L) 0 τ h) :
  AW P E N (.region id ops.toArray true) Q τ h:=by
 intro a w hr
 refine wp_region_any hm ?_
 have hll:(ops.take L).length=L:=by simp [hlen]
 have h1:=qYs (P:=P) (E:=E) (N:=N) (M:=M) (m:=m) (rd:=rd) (wr:=wr) hlast (ops.take L) 0 (Array.replicate ops.length false) τ h (fun j hj=>by rw [hll] at hj;simp [List.getElem?_take,hj]) (fun i o _ hi=>by
  rcases Nat.lt_or_ge i ops.length with h' | h'
  ·simp [h'] at hi
  ·simp [Array.getElem?_eq_none (show (Array.replicate ops.length false).size≤i by simpa using h')] at hi) (by rw [hll];exact hB) H
 have h2:=anyM_sound (Q:=Q) _ _ _ _ a _ (fun i o _ hi=>by
  rcases Nat.lt_or_ge i ops.length with h' | h'
  ·simp [h'] at hi
  ·simp [Array.getElem?_eq_none (show (Array.replicate ops.length false).size≤i by simpa using h')] at hi) h1 (by rw [h0];exact hr.drew)
 rw [hll] at h2
 simpa [hlen] using h2
theorem qDn {ops:List Oper} {Q:(Nat→AV)→List AObj→Prop} {o:Oper} {rest:List Oper} {i:Nat} {τ:Nat→AV} {h:List AObj} (hr:m∉rd i) (hw:m∉wr i) (hM:∀ listed:Array Bool,M (listed.setIfInBounds i true)=M listed)
  (H:AWd P E N ops rd wr (fun τ' h'=>AWdM P E N ops M m L rd wr Q rest (i+1) τ' h') [o] i τ h):AWdM P E N ops M m L rd wr Q (o::rest) i τ h:=by
 obtain ⟨v,os,hs,hk⟩:=H
 refine ⟨v,os,fun listed k hc hi hl hh=>?_,hk⟩
 have h1:=hs (k.set m (M listed)) (by simpa using hl) (fun j hj=>by rw [List.getElem?_set_ne (fun hh=>hr (by rw [hh];exact hj))];exact hh j hj)
 have e:qGb (k.set m (M listed)) (wr i) os=(qGb k (wr i) os).set m (M listed):=updH_comm [m] (wr i) [M listed] os k (fun x hx=>by rw [List.mem_singleton] at hx;subst hx;exact hw)
 rw [e] at h1
 rw [hM listed]
 exact h1
def qPk (ins:List (Nat×Dat×Dat)) (listed:Array Bool):List (Dat×Dat):=(ins.filter fun x=>listed.getD x.1 false).map Prod.snd
def mapM (i0:Nat) (ins:List (Nat×Dat×Dat)) (listed:Array Bool):AObj:=bif listed.getD i0 false then .opq (qTh (qPk ins listed)) else .room
theorem mapM_other {i0:Nat} {ins:List (Nat×Dat×Dat)} {i:Nat} (h:(!Nat.beq i i0&&ins.all fun x=>!Nat.beq x.1 i)=true) (listed:Array Bool):mapM i0 ins (listed.setIfInBounds i true)=mapM i0 ins listed:=by
 simp only [Bool.and_eq_true,Bool.not_eq_true',List.all_eq_true] at h
 have e1:qPk ins (listed.setIfInBounds i true)=qPk ins listed:=by
  unfold qPk
  congr 1
  refine List.filter_congr fun x hx=>?_
  have:=h.2 x hx
  exact getD_set_ne false (fun hh=>by rw [hh] at this;simp at this)
 unfold mapM
 rw [e1,getD_set_ne false (fun hh=>by rw [hh] at h;simp at h)]
theorem MapIs.congr {A B:List (Dat×Dat)} {es:Array MapEntry} {c:Nat} (h:∀ p,p∈A↔p∈B) (H:MapIs A es c):MapIs B es c :=
 ⟨H.st,fun e he=>by obtain ⟨p,hp,k⟩:=H.fwd e he;exact ⟨p,(h p).1 hp,k⟩,fun p hp=>H.bwd p ((h p).2 hp)⟩
theorem mapR_congr {A B:List (Dat×Dat)} (h:∀ p,p∈A↔p∈B):qTh A=qTh B:=by
 funext f b S
 refine propext ⟨fun ⟨h1,es,c,h2,h3⟩=>⟨h1,es,c,h2,h3.congr h⟩,fun ⟨h1,es,c,h2,h3⟩=>⟨h1,es,c,h2,h3.congr fun p=>(h p).symm⟩⟩
theorem qQg {dst:Option Tmp} {op:Op} {ty:TypeId} {pos:String} {after:Array Edge} {τ:Nat→AV} {h:List AObj} {v:AV} {h':List AObj} (hd:qTs N ⟨dst,op,ty,pos,after,none⟩=true) (hs:OpS P E ⟨dst,op,ty,pos,after,none⟩ (ev τ) h v h') :
  StepR P E N ops ⟨dst,op,ty,pos,after,none⟩ τ h (fun a b=>a=v∧b=h'):=⟨hd,qDl hs⟩
def vHt (ops:Array Oper) (i0:Nat) (ins:List (Nat×Dat×Dat)):Bool:=ins.all fun x=>match ops[x.1]? with
 | some o=>o.after.any fun e=>Region.binds .any e&&Nat.beq e.on i0
 | none=>false
theorem vHd {T:Tr} (hT:TOk P T) {ops:List Oper} {Q:(Nat→AV)→List AObj→Prop} {rest:List Oper} {i d t:Nat} {ty:TypeId} {pos:String} {after:Array Edge} {ins:List (Nat×Dat×Dat)} {l:List (Nat×AV)} {h:List AObj} (hd:Nat.blt d N=true)
  (hdep:vHt ops.toArray i ins=true) (hlt:i < ops.length) (hm:m < h.length) (hw:wr i=[])
  (H:AWdM P E N ops (mapM i ins) m L rd wr Q rest (i+1) (look ((d,.mp m)::l)) h):AWdM P E N ops (mapM i ins) m L rd wr Q (⟨some d,.makeMap t none,ty,pos,after,none⟩::rest) i (look l) h:=by
 refine ⟨.mp m,[],fun listed k hc hi hl hh=>?_,by rw [hw,updH_nil];exact H⟩
 have hun:=qKs (mem_ready.1 hi).1
 have hsz:i < listed.size:=by
  rcases Nat.lt_or_ge i listed.size with h' | h'
  ·exact h'
  ·have:=(mem_ready.1 hi).1;simp [Array.getElem?_eq_none h'] at this
 have e0:mapM i ins listed=.room:=by unfold mapM;rw [hun];rfl
 have e1:mapM i ins (listed.setIfInBounds i true)=.opq (qTh []):=by
  have hs:qPk ins (listed.setIfInBounds i true)=[]:=by
   unfold qPk
   rw [List.map_eq_nil_iff,List.filter_eq_nil_iff]
   intro x hx hlx
   unfold vHt at hdep
   rw [List.all_eq_true] at hdep
   have h1:=hdep x hx
   split at h1
   ·rename_i o ho
    obtain ⟨e,he,hb⟩:=Array.any_eq_true'.1 h1
    simp only [Bool.and_eq_true] at hb
    have hxi:x.1≠i∨x.1=i:=by omega
    rcases hxi with hxi | hxi
    ·rw [getD_set_ne false (Ne.symm hxi)] at hlx
     have h2:=hc x.1 o ho hlx e he hb.1
     rw [Nat.eq_of_beq_eq_true hb.2,hun] at h2
     cases h2
    ·obtain ⟨_,o2,ho2,hall⟩:=mem_ready.1 hi
     rw [hxi] at ho
     rw [ho] at ho2;cases ho2
     have h2:=hall e he hb.1
     rw [Nat.eq_of_beq_eq_true hb.2,hun] at h2
     cases h2
   ·cases h1
  unfold mapM
  rw [hs]
  simp [hsz]
 rw [e0,e1,hw,updH_nil]
 have hroom:(k.set m .room)[m]?=some .room:=by simp [hl,hm]
 have:=makeMap_ok (P:=P) (E:=E) (o:=⟨some d,.makeMap t none,ty,pos,after,none⟩) (ρ:=ev (look l)) (h:=k.set m .room) (t:=t) (m:=m) rfl hroom
 rw [List.set_set] at this
 exact qQg hd this
theorem vAz {T:Tr} (hT:TOk P T) {ops:List Oper} {Q:(Nat→AV)→List AObj→Prop} {rest:List Oper} {i i0 t kt et:Nat} {x kx vx:Operand} {ty:TypeId} {pos:String} {after:Array Edge} {ins:List (Nat×Dat×Dat)} {l:List (Nat×AV)} {h:List AObj} {kk:IntKind} {n:Int} {s:List UInt8}
  (ht:P.underlying t=some (.map kt et)) (hkt:P.underlying kt=some (.int kk)) (hx:ev (look l) x=.mp m) (hk:ev (look l) kx=.d (.int kk n)) (hv:ev (look l) vx=.d (.str s)) (hin:(i,.int kk n,.str s)∈ins)
  (hall:∀ x∈ins,(∃ z u,x.2=(.int kk z,.str u))∧(x.1≠i→x.2.1≠.int kk n)) (hsame:∀ x∈ins,x.1=i→x.2=(.int kk n,.str s)) (hm:m < h.length) (hw:wr i=[]) (hni:i≠i0) (haft:after.any (fun e=>Region.binds .any e&&Nat.beq e.on i0)=true) (hop:ops[i]?=some ⟨none,.insert t x kx vx,ty,pos,after,none⟩)
  (H:AWdM P E N ops (mapM i0 ins) m L rd wr Q rest (i+1) (look l) h):AWdM P E N ops (mapM i0 ins) m L rd wr Q (⟨none,.insert t x kx vx,ty,pos,after,none⟩::rest) i (look l) h:=by
 refine ⟨.any,[],fun listed k hc hi hl hh=>?_,by rw [hw,updH_nil];exact H⟩
 obtain ⟨hun0,o2,ho2,hrdy⟩:=mem_ready.1 hi
 have hun:=qKs hun0
 have hsz:i < listed.size:=by
  rcases Nat.lt_or_ge i listed.size with h' | h'
  ·exact h'
  ·simp [Array.getElem?_eq_none h'] at hun0
 have ho2':o2=⟨none,.insert t x kx vx,ty,pos,after,none⟩:=by
  have:ops.toArray[i]?=ops[i]?:=by simp
  rw [this,hop] at ho2
  exact (Option.some.inj ho2).symm
 subst ho2'
 obtain ⟨e,he,hb⟩:=Array.any_eq_true'.1 haft
 simp only [Bool.and_eq_true] at hb
 have hl0:=hrdy e he hb.1
 rw [Nat.eq_of_beq_eq_true hb.2] at hl0
 have e0:mapM i0 ins listed=.opq (qTh (qPk ins listed)):=by unfold mapM;rw [hl0];rfl
 have hmem:∀ p,p∈(Dat.int kk n,Dat.str s)::qPk ins listed↔p∈qPk ins (listed.setIfInBounds i true):=fun p=>by
  unfold qPk
  simp only [List.mem_cons,List.mem_map,List.mem_filter]
  constructor
  ·rintro (rfl | ⟨y,⟨hy,hly⟩,rfl⟩)
   ·exact ⟨_,⟨hin,by simp [hsz]⟩,rfl⟩
   ·exact ⟨y,⟨hy,getD_set_true hly⟩,rfl⟩
  ·rintro ⟨y,⟨hy,hly⟩,rfl⟩
   by_cases hyi:y.1=i
   ·exact .inl (hsame y hy hyi)
   ·rw [getD_set_ne false (Ne.symm hyi)] at hly
    exact .inr ⟨y,⟨hy,hly⟩,rfl⟩
 have e1:mapM i0 ins (listed.setIfInBounds i true)=.opq (qTh ((.int kk n,.str s)::qPk ins listed)):=by
  unfold mapM
  rw [getD_set_ne false hni,hl0,mapR_congr hmem];rfl
 rw [e0,e1,hw,updH_nil]
 have hi':(k.set m (.opq (qTh (qPk ins listed))))[m]?=some (.opq (qTh (qPk ins listed))):=by simp [hl,hm]
 have hkey:∀ p,p∈(Dat.int kk n,Dat.str s)::qPk ins listed→MapKept.IsKey (.int kk) (qEx p.1)∧qFr p.1=true:=fun p hp=>by
  rcases List.mem_cons.1 hp with rfl | hp
  ·exact ⟨rfl,rfl⟩
  ·unfold qPk at hp
   obtain ⟨y,hy,rfl⟩:=List.mem_map.1 hp
   obtain ⟨z,u,hz⟩:=(hall y (List.mem_filter.1 hy).1).1
   rw [hz]
   exact ⟨rfl,rfl⟩
 have hnew:∀ p,p∈qPk ins listed→p.1≠Dat.int kk n:=fun p hp=>by
  unfold qPk at hp
  obtain ⟨y,hy,rfl⟩:=List.mem_map.1 hp
  obtain ⟨hy1,hy2⟩:=List.mem_filter.1 hy
  refine (hall y hy1).2 fun hh=>?_
  rw [hh,hun] at hy2
  cases hy2
 have:=vCq (P:=P) (E:=E) (o:=⟨none,.insert t x kx vx,ty,pos,after,none⟩) (ρ:=ev (look l)) (h:=k.set m (.opq (qTh (qPk ins listed)))) rfl ht hkt hx hk hv hi' rfl rfl hkey hnew
 rw [List.set_set] at this
 exact qQg rfl this
end
end Tdoc
namespace Tdoc
open Go
section
variable {P:Program} {T:Tr} {E:Env} {o:Oper} {ρ:Operand→AV} {h h':List AObj}
end
end Tdoc
namespace Tdoc
open Go
section
variable {P:Program} {T:Tr} {E:Env} {o:Oper} {ρ:Operand→AV} {h:List AObj} {v:AV}
open Classical in
theorem bufApp0G_ok (hT:TOk P T) {t t2 sz by_ i m:Nat} {s x:Operand} {cs2:List AV} (ho:o.op=.call { callee:=.builtin .append,args:=#[s,x],argTypes:=#[t,t2] })
  (ht:qRw T t=some (sz,by_)) (ht2:qVj T t2=true) (hs:ρ s=.sl sz [] .full∨ρ s=.nils) (hsx:s≠x) (hi:h[i]?=some .room) (hl2:cs2.length=m*sz)
  (hsrc:∀ (G:Gh) (xv:Value) (w:World),WRel E G (h.set i (.buf sz 0 [])) w→RepA G (ρ x) xv→∃ news,Src P w xv m sz news∧news.length=m*sz∧(∀ (k:Nat) (u:Value),news[k]?=some u→qJd u=true)∧∀ (j:Nat) (c:AV),cs2[j]?=some c→∃ u,news[j]?=some u∧RepA G c u) (hb:m*(by_+1)≤140737488355328) :
  OpS P E o ρ h (.bm i m) (h.set i (.buf sz m cs2)):=by
 intro G a w hw hr
 have hs':RepA G (ρ s) (a.eval s):=hr s (by simp [ho,Op.operands,Call.operands])
 obtain ⟨p,hv',hsp⟩:∃ p:Option Addr,a.eval s=.slice p 0 0∧∀ q,p=some q→q.spot=none:=by
  rcases hs with ht | ht
  ·rw [ht] at hs'
   generalize a.eval s=u at hs'
   cases hs' with
   | sl r k =>
    obtain ⟨p,rfl⟩:=k
    obtain ⟨a',cap',h5,h6,h7⟩:=r.slice_inv
    cases h5
    exact ⟨p,rfl,fun q hq=>(h7 q hq).1⟩
  ·rw [ht] at hs'
   generalize a.eval s=u at hs'
   cases hs';exact ⟨none,rfl,fun q hq=>by cases hq⟩
 have hrm:=hw.obj i _ hi
 have hilt:i < h.length:=(List.getElem?_eq_some_iff.1 hi).1
 have hle:=rtSet_le (G:=G) (i:=i) (n:=0) (x:=(p,0)) (hrm.2 0)
 have hw1:WRel E (qNf G i 0 (p,0)) (h.set i (.buf sz 0 [])) w:=by
  refine ⟨hw.le.trans hle,hw.imm,hw.immNew,hw.keep,hw.size,hw.os,hw.tape,hw.output,hw.own,fun j hj=>?_,fun j o hj=>?_⟩
  ·simp only [List.length_set] at hj
   have:=hw.fresh j hj
   exact ⟨this.1,fun n=>by rw [rtSet_ne (by omega)];exact this.2 n⟩
  ·rw [List.getElem?_set] at hj
   by_cases hij:i=j
   ·subst hij
    simp only [if_true,hilt] at hj
    cases hj
    exact ⟨p,0,rtSet_at _ _ _ _,fun n' hn'=>by rw [rtSet_ne (by omega)];exact hrm.2 n',by simp,Nat.le_refl _,⟨fun _=>rfl,hsp⟩,fun _ _ hc=>by omega⟩
   ·rw [if_neg hij] at hj
    exact (hw.obj j o hj).keep hle (fun b hb=>⟨rfl,fun _ _=>rfl⟩) (fun n hn=>by rw [rtSet_ne (fun hc=>hij hc.1.symm)];exact hn) (fun hn=>hn)
 have hstep:=bufAppG_ok (P:=P) (E:=E) (T:=T) (o:=o) (ρ:=fun y=>if y=s then .bm i 0 else ρ y) (h:=h.set i (.buf sz 0 [])) (i:=i) (n:=0) (cells:=[]) hT ho ht ht2 (if_pos rfl) (by simp [hilt])
  hl2 (by show ∀ G xv w,_→RepA G (if x=s then _ else ρ x) xv→_;rw [if_neg (fun hh=>hsx hh.symm)];exact hsrc) (by simpa using hb)
 have:=hstep (qNf G i 0 (p,0)) a w hw1 (fun y hy=>by
  show RepA _ (if y=s then _ else ρ y) _
  split
  ·rename_i e;subst e;rw [hv'];exact .bm _ _ (rtSet_at _ _ _ _) (fun _=>rfl)
  ·exact (hr y hy).mono hle)
 refine qFg ?_ this
 rintro a' w' ⟨u,G',k1,k2,k3,k4⟩
 refine ⟨u,G',k1,hle.trans k2,?_,by simpa using k4⟩
 rw [List.set_set] at k3
 simpa using k3
end
end Tdoc
namespace Tdoc
open Go
section
variable {P:Program} {E:Env} {T:Tr} {o:Oper} {ρ:Operand→AV} {h h':List AObj} {v:AV}
theorem vBx {G:Gh} {xv:Value} {w:World} {h:List AObj} {i2 m cap2 sz:Nat} {cs2:List AV} (hw:WRel E G h w) (hr:RepA G (.row i2 0 m cap2) xv) (hi2:h[i2]?=some (.row cs2)) (hl2:cs2.length=m*sz) :
  ∃ news,Src P w xv m sz news∧news.length=m*sz∧(∀ (k:Nat) (u:Value),news[k]?=some u→qJd u=true)∧∀ (j:Nat) (c:AV),cs2[j]?=some c→∃ u,news[j]?=some u∧RepA G c u:=by
 obtain ⟨b,hv,hl⟩:=hr.row_inv
 obtain ⟨b',hl',_,hrow,_⟩:=hw.obj i2 _ hi2
 rw [hl] at hl';cases hl'
 have o2:=vIf (P:=P) (i:=i2) (off:=0) (n:=m) (cap:=cap2) (sz:=sz) hrow (by omega)
 have k2:=vKl (k:=m*sz) hrow (off:=0) (by omega)
 rw [List.drop_zero,← hl2,List.take_length] at k2
 rw [hl2] at k2
 generalize hnews:((List.range (m*sz)).map fun j=>(w.cell? ⟨b,0+j,none⟩).getD undef)=news at o2 k2
 have hnl:news.length=cs2.length:=by rw [← hnews,hl2];simp
 subst hv
 refine ⟨news,o2,by omega,fun k u hu=>?_,fun j c hj=>?_⟩
 ·have hk:k < cs2.length:=by have:=(List.getElem?_eq_some_iff.1 hu).1;omega
  exact (k2 k cs2[k] u (by simp [hk]) hu).2
 ·have hk:j < news.length:=by have:=(List.getElem?_eq_some_iff.1 hj).1;omega
  exact ⟨news[j],by simp [hk],(k2 j c news[j] hj (by simp [hk])).1⟩
theorem bufAppRow_ok (hT:TOk P T) {t t2 sz by_ i n i2 m cap2:Nat} {s x:Operand} {cells cs2:List AV} (ho:o.op=.call { callee:=.builtin .append,args:=#[s,x],argTypes:=#[t,t2] })
  (ht:qRw T t=some (sz,by_)) (ht2:qVj T t2=true) (hs:ρ s=.bm i n) (hi:h[i]?=some (.buf sz n cells)) (hx:ρ x=.row i2 0 m cap2) (hi2:h[i2]?=some (.row cs2)) (hl2:cs2.length=m*sz)
  (hb:(n+m)*(by_+1)≤140737488355328):OpS P E o ρ h (.bm i (n+m)) (h.set i (.buf sz (n+m) (cells++cs2))) :=
 bufAppG_ok hT ho ht ht2 hs hi hl2 (fun G xv w hw hr=>vBx hw (by rw [← hx];exact hr) hi2 hl2) hb
theorem bufAppRow0_ok (hT:TOk P T) {t t2 sz by_ i i2 m cap2:Nat} {s x:Operand} {cs2:List AV} (ho:o.op=.call { callee:=.builtin .append,args:=#[s,x],argTypes:=#[t,t2] })
  (ht:qRw T t=some (sz,by_)) (ht2:qVj T t2=true) (hs:ρ s=.sl sz [] .full∨ρ s=.nils) (hsx:s≠x) (hi:h[i]?=some .room) (hx:ρ x=.row i2 0 m cap2) (hi2:h[i2]?=some (.row cs2)) (hl2:cs2.length=m*sz)
  (hb:m*(by_+1)≤140737488355328):OpS P E o ρ h (.bm i m) (h.set i (.buf sz m cs2)) :=
 bufApp0G_ok hT ho ht ht2 hs hsx hi hl2 (fun G xv w hw hr=>vBx hw (by rw [← hx];exact hr) (by rw [List.getElem?_set_ne (fun hh=>by rw [hh,hi2] at hi;cases hi)];exact hi2) hl2) hb
theorem copyStr_ok (hT:TOk P T) {t t2 by_ i off n cap:Nat} {d s:Operand} {cells:List AV} {b:List UInt8} (ho:o.op=.call { callee:=.builtin .copy,args:=#[d,s],argTypes:=#[t,t2] })
  (ht:qRw T t=some (1,by_)) (hd:ρ d=.row i off n cap) (hs:ρ s=.d (.str b)) (hi:h[i]?=some (.row cells)) (hle:off+n≤cells.length) :
  OpS P E o ρ h (.d (.int .i64 (Nat.min b.length n:Nat))) (h.set i (.row (qCg cells off (qAn (b.take n))))) :=
 qBg fun G e w hw hr=>by
  have hd':RepA G (ρ d) (e d):=hr d (by simp [ho,Op.operands,Call.operands])
  have hs':RepA G (ρ s) (e s):=hr s (by simp [ho,Op.operands,Call.operands])
  rw [hd] at hd';rw [hs] at hs'
  obtain ⟨bl,hdv,hl⟩:=hd'.row_inv
  have hsv:=hs'.str_inv
  obtain ⟨et,ie,h1,h2,hsz,rfl,hzl⟩:=appT_ok hT ht
  obtain ⟨b',hl',_,hrow,_⟩:=hw.obj i _ hi
  rw [hl] at hl';cases hl'
  have hbs:(⟨b.toArray⟩:ByteArray).size=b.length:=by simp [ByteArray.size]
  obtain ⟨w',q1,q2,q3,q4,q5,q6,q7⟩:=qEr (P:=P) ((b.take n).map fun c=>Value.int .u8 (c.toNat:Int)) (qAn (b.take n)) cells off 0 w hrow (by simp;omega) (by simp [qAn]) (fun j c u hc hu=>by
   simp only [qAn,List.getElem?_map,Option.map_eq_some_iff] at hc hu
   obtain ⟨x,hx,rfl⟩:=hc
   obtain ⟨y,hy,rfl⟩:=hu
   rw [hx] at hy;cases hy
   exact ⟨.d (.int _ _),rfl⟩)
  have hq:List.take (b.length.min n) (b.map fun c=>Value.int .u8 (c.toNat:Int))=(b.take n).map fun c=>Value.int .u8 (c.toNat:Int):=by
   rw [← List.map_take]
   congr 1
   rcases Nat.le_total b.length n with hc | hc
   ·rw [show b.length.min n=b.length from Nat.min_eq_left hc,List.take_length,List.take_of_length_le hc]
   ·rw [show b.length.min n=n from Nat.min_eq_right hc]
  refine ⟨_,w',G,?_,.refl G,hw.setObj hi hl (by simpa using q2) q3 q4 q5 q6 q7,.d (.int _ _)⟩
  unfold execOp
  simp only [ho,resolve,invoke,builtin]
  simp [hdv,hsv,Builtin.copy_,run_underlying h1,Builtin.lenOf,Builtin.firstCells,h2.run_size,hbs,goInt]
  rw [hq,q1]
  rfl
end
end Tdoc
namespace Tdoc
open Go
theorem qVl {P:Program} (w:World) (ty:TypeId) (r bm since c0:Nat) (seen:Array Nat) (es:Array MapEntry) (clock:Nat) (hr:w.heap[r]?=some (.mapIter (some bm) since seen c0)) (hb:w.heap[bm]?=some (.map es clock)) (hold:∀ x∈es.toList,x.born < since) (hsc:since≤c0) :
  ((leftOf es seen).size=0∧(Instr.next (.pointer (some ⟨r,0,none⟩)) false ty).run P w=.ok (.tuple #[.bool false]) w) ∨
  ∃ e∈(leftOf es seen).toList,∃ w1:World,(w1=w∨w1=w.drew)∧(Instr.next (.pointer (some ⟨r,0,none⟩)) false ty).run P w=.ok (.tuple #[.bool true,e.key,e.val]) { w1 with heap:=w1.heap.setIfInBounds r (.mapIter (some bm) since (seen.push e.born) clock) }:=by
 simp only [Instr.next,getObj,Sem.run_bind,Sem.run,hr,hb,Result.andThen,next_test_false seen es since c0 hold hsc,Bool.false_eq_true,if_false]
 unfold leftOf
 have hmem:∀ x∈(Array.filter (fun e=>!seen.contains e.born) es).toList,x.born < since:=fun x hx=>hold x (by simp at hx ⊢;exact hx.1)
 generalize Array.filter (fun e=>!seen.contains e.born) es=L at hmem ⊢
 have e1:L.filter (fun x=>decide (x.born < since))=L:=Array.filter_eq_self.2 (fun x hx=>by simpa using hmem x (by simpa using hx))
 have e2:L.filter (fun x=>decide (x.born≥since)) = #[]:=by
  rw [Array.filter_eq_empty_iff]
  intro x hx
  have:=hmem x (by simpa using hx)
  simp
  omega
 simp only [e1,e2,Array.append_empty]
 by_cases h0:L.size=0
 ·left
  have:L = #[]:=Array.eq_empty_of_size_eq_zero h0
  subst this
  refine ⟨rfl,?_⟩
  simp [choose,Sem.run,Question.forced]
 ·right
  have hne:L.isEmpty=false:=by simp [Array.isEmpty,h0]
  simp only [hne,Bool.false_eq_true,if_false,Array.empty_append,Array.size_map]
  have hch:∃ (j:Nat) (w1:World),j < L.size∧(w1=w∨w1=w.drew)∧(choose (Question.mapNext L.size)).run P w=.ok j w1:=by
   by_cases hf:L.size≤1
   ·exact ⟨0,w,by omega,.inl rfl,by simp [choose,Sem.run,Question.forced,hf]⟩
   ·exact ⟨_,w.drew,Nat.mod_lt _ (by omega),.inr rfl,by
     simp only [choose,Sem.run,Question.forced,decide_eq_true_eq,hf,if_false,Question.cut]
     rfl⟩
  obtain ⟨j,w1,hj,hal,hrun⟩:=hch
  refine ⟨L[j],by simp,w1,hal,?_⟩
  have hr1:w1.heap[r]?=some (.mapIter (some bm) since seen c0):=by rcases hal with rfl | rfl <;> exact hr
  simp only [hrun,Array.getElem?_map,Array.getElem?_eq_getElem hj,Option.map_some,Sem.run_bind,Result.andThen]
  simp only [setObj,Sem.run,hr1]
  rfl
theorem qSw {P:Program} (w:World) (r bm since:Nat) (seen:Array Nat) (es:Array MapEntry) (clock:Nat) (e:MapEntry) (hr:w.heap[r]?=some (.mapIter (some bm) since (seen.push e.born) clock)) (hb:w.heap[bm]?=some (.map es clock)) (he:e∈es.toList) (hn:(es.toList.map (·.born)).Nodup) :
  (Instr.entry (.pointer (some ⟨r,0,none⟩))).run P w=.ok (.tuple #[e.key,e.val]) w:=by
 have hf:es.find? (·.born == e.born)=some e:=by rw [← Array.find?_toList];exact find_born e es.toList hn he
 simp only [Instr.entry,getObj,Sem.run_bind,Sem.run,hr,hb,Result.andThen,Array.back?_push,bne_self_eq_false,Bool.false_eq_true,if_false,hf]
 rfl
section
variable {P:Program} {E:Env} {T:Tr} {o:Oper} {ρ:Operand→AV} {h h':List AObj} {v:AV}
theorem WRel.drew {G:Gh} {w:World} (hw:WRel E G h w):WRel E G h w.drew :=
 ⟨hw.le,hw.imm,hw.immNew,hw.keep,hw.size,hw.os,hw.tape,hw.output,hw.own,hw.fresh,fun i ob hi=>(hw.obj i ob hi).keep (.refl G) (fun b _=>⟨rfl,fun _ _=>rfl⟩) (fun _ hn=>hn) (fun hn=>hn)⟩
theorem vIp {m it bm clock:Nat} {x:Operand} {A:List (Dat×Dat)} {es:Array MapEntry} {seen:Array Nat} (hA:MapIs A es clock) (hk:∀ p,p∈A→qFr p.1=true∧qFr p.2=true) (ho:o.op=.next x false) (hx:ρ x=.ptr it 0) (hm:h[m]?=some (.opq (vFt bm es clock))) (hi:h[it]?=some (.opq (qRa bm clock seen clock))) :
  OpR P E o ρ h (fun u k=>((leftOf es seen).size=0∧u=.tup [.d (.bool false)]∧k=h) ∨
   ∃ e p,e∈(leftOf es seen).toList∧p∈A∧e.key=qEx p.1∧e.val=qEx p.2∧u=.tup [.d (.bool true),.d p.1,.d p.2]∧k=h.set it (.opq (qRa bm clock (seen.push e.born) clock))):=by
 intro G a w hw hr
 have hx':RepA G (ρ x) (a.eval x):=hr x (by simp [ho,Op.operands])
 rw [hx] at hx'
 obtain ⟨b,hxv,hlb⟩:=hx'.ptr_inv0
 obtain ⟨b1,S1,k1,k2,k3,k4,⟨k5,k6,k7⟩,_⟩:=hw.obj m _ hm
 obtain ⟨b2,S2,j1,j2,j3,j4,⟨j5,j6⟩,_⟩:=hw.obj it _ hi
 rw [hlb] at j1
 cases j1
 have k7:w.heap[b1]?=some (.map es clock):=k7
 have j6:w.heap[b]?=some (.mapIter (some bm) clock seen clock):=j6
 subst k6
 obtain ⟨jown,jimm⟩:=j4 b j2
 have hbl:b < w.heap.size:=(hw.own b it jown).1
 rcases qVl (P:=P) w o.type b b1 clock clock seen es clock j6 k7 hA.st.1 (Nat.le_refl _) with ⟨h0,hrun⟩ | ⟨e,he,w1,hw1,hrun⟩
 ·have hex:(execOp a.eval o).run P w=.ok (.value (.tuple #[.bool false])) w:=by
   unfold execOp
   simp [ho,hxv,hrun]
  unfold Oper.wp
  rw [hex]
  exact ⟨_,G,_,_,.inl ⟨h0,rfl,rfl⟩,rfl,.refl G,hw,.tup _ rfl (fun j y u hj hu=>by
   match j,hj,hu with
   | 0,hj,hu=>simp at hj hu;subst hj;subst hu;exact .d (.bool false)
   | j+1,hj,hu=>simp at hj)⟩
 ·obtain ⟨p,hp,e1,e2⟩:=hA.fwd e (mem_left he).1
  have hex:(execOp a.eval o).run P w=.ok (.value (.tuple #[.bool true,e.key,e.val])) { w1 with heap:=w1.heap.setIfInBounds b (.mapIter (some b1) clock (seen.push e.born) clock) }:=by
   unfold execOp
   simp [ho,hxv,hrun]
  unfold Oper.wp
  rw [hex]
  have hwr:WRel E G h w1:=by rcases hw1 with rfl | rfl;exact hw;exact hw.drew
  have hbl1:b < w1.heap.size:=by rcases hw1 with rfl | rfl <;> exact hbl
  refine ⟨_,G,_,_,.inr ⟨e,p,he,hp,e1,e2,rfl,rfl⟩,rfl,.refl G,hwr.setOpq hi hlb jown jimm hbl1 _ rfl rfl rfl rfl (fun f hf=>⟨rfl,hf⟩) (fun b f g=>iterC_loc f g),.tup _ rfl (fun j y u hj hu=>?_)⟩
  match j,hj,hu with
  | 0,hj,hu=>simp at hj hu;subst hj;subst hu;exact .d (.bool true)
  | 1,hj,hu=>simp at hj hu;subst hj;subst hu;rw [e1];exact .d (qMr (hk p hp).1)
  | 2,hj,hu=>simp at hj hu;subst hj;subst hu;rw [e2];exact .d (qMr (hk p hp).2)
  | j+3,hj,hu=>simp at hj
theorem vGf {m it bm clock:Nat} {x:Operand} {A:List (Dat×Dat)} {es:Array MapEntry} {seen:Array Nat} {e:MapEntry} {p:Dat×Dat} (hA:MapIs A es clock) (hk:qFr p.1=true∧qFr p.2=true) (ho:o.op=.entry x) (hx:ρ x=.ptr it 0) (hm:h[m]?=some (.opq (vFt bm es clock)))
  (hi:h[it]?=some (.opq (qRa bm clock (seen.push e.born) clock))) (he:e∈es.toList) (e1:e.key=qEx p.1) (e2:e.val=qEx p.2):OpS P E o ρ h (.tup [.d p.1,.d p.2]) h :=
 qBg fun G ev w hw hr=>by
  have hx':RepA G (ρ x) (ev x):=hr x (by simp [ho,Op.operands])
  rw [hx] at hx'
  obtain ⟨b,hxv,hlb⟩:=hx'.ptr_inv0
  obtain ⟨b1,S1,k1,k2,k3,k4,⟨k5,k6,k7⟩,_⟩:=hw.obj m _ hm
  obtain ⟨b2,S2,j1,j2,j3,j4,⟨j5,j6⟩,_⟩:=hw.obj it _ hi
  rw [hlb] at j1
  cases j1
  have k7:w.heap[b1]?=some (.map es clock):=k7
  have j6:w.heap[b]?=some (.mapIter (some bm) clock (seen.push e.born) clock):=j6
  subst k6
  have hrun:=qSw (P:=P) w b b1 clock seen es clock e j6 k7 he hA.st.2.1
  refine ⟨.tuple #[e.key,e.val],w,G,?_,.refl G,hw,.tup _ rfl (fun j y u hj hu=>?_)⟩
  ·unfold execOp
   simp [ho,hxv,hrun]
  ·match j,hj,hu with
   | 0,hj,hu=>simp at hj hu;subst hj;subst hu;rw [e1];exact .d (qMr hk.1)
   | 1,hj,hu=>simp at hj hu;subst hj;subst hu;rw [e2];exact .d (qMr hk.2)
   | j+2,hj,hu=>simp at hj
end
end Tdoc
namespace Tdoc
open Go
section
variable {P:Program} {E:Env} {T:Tr} {o:Oper} {ρ:Operand→AV} {h h':List AObj} {v:AV}
theorem RepA.rx_inv {G:Gh} {v:Value} {i off n:Nat} (h:RepA G (.rx i off n) v):∃ off' cap,n≤cap∧(0 < n→off'=off)∧RepA G (.row i off' n cap) v:=by
 cases h with | rx off' cap hl h1 h2=>exact ⟨off',cap,h1,h2,.row _ _ _ hl⟩
theorem RepA.row_rx {G:Gh} {v:Value} {i off n cap:Nat} (h:RepA G (.row i off n cap) v) (hn:n≤cap):RepA G (.rx i off n) v:=by
 cases h with | row _ _ _ hl=>exact .rx _ _ hl hn (fun _=>rfl)
open Classical in
theorem vEb {x:Operand} {i off n:Nat} (hx:ρ x=.rx i off n) (hn:0 < n) (hxo:x∈o.op.operands.toList) (H:∀ (cap:Nat) (ρ':Operand→AV),n≤cap→ρ' x=.row i off n cap→(∀ y,y≠x→ρ' y=ρ y)→OpS P E o ρ' h v h'):OpS P E o ρ h v h':=by
 intro G a w hw hr
 have hx':=hr x hxo
 rw [hx] at hx'
 obtain ⟨off',cap,h1,h2,h3⟩:=hx'.rx_inv
 rw [h2 hn] at h3
 exact H cap (fun y=>if y=x then .row i off n cap else ρ y) h1 (if_pos rfl) (fun y hy=>if_neg hy) G a w hw (fun y hy=>by
  show RepA G (if y=x then _ else _) _
  split
  ·rename_i e;subst e;exact h3
  ·exact hr y hy)
theorem strRx_ok (hT:TOk P T) {t t2 i0:Nat} {x:Operand} {s:List UInt8} (ho:o.op=.convert t t2 x) (hb:(qFq T t&&qCn T t2)=true) (hx:ρ x=.d (.str s)) (hroom:h[i0]?=some .room) :
  OpS P E o ρ h (.rx i0 0 s.length) (h.set i0 (.row (qAn s))):=by
 intro G a w hw hr
 refine qFg ?_ (strRow_ok hT ho hb hx hroom G a w hw hr)
 rintro a' w' ⟨u,G',v,h',⟨cap,k1,rfl,rfl⟩,k2,k3,k4,k5⟩
 exact ⟨u,G',k2,k3,k4,k5.row_rx k1⟩
theorem copyRx_ok (hT:TOk P T) {t t2 by_ i off n:Nat} {d s:Operand} {cells:List AV} {b:List UInt8} (ho:o.op=.call { callee:=.builtin .copy,args:=#[d,s],argTypes:=#[t,t2] })
  (ht:qRw T t=some (1,by_)) (hd:ρ d=.rx i off n) (hn:0 < n) (hs:ρ s=.d (.str b)) (hi:h[i]?=some (.row cells)) (hle:off+n≤cells.length) :
  OpS P E o ρ h (.d (.int .i64 (Nat.min b.length n:Nat))) (h.set i (.row (qCg cells off (qAn (b.take n))))) :=
 vEb hd hn (by simp [ho,Op.operands,Call.operands]) fun cap ρ' hc h1 h2=>copyStr_ok hT ho ht h1 ((h2 s (fun hh=>by rw [hh,hd] at hs;cases hs)).trans hs) hi hle
theorem rxStr_ok (hT:TOk P T) {t t2 i off n:Nat} {x:Operand} {cells:List AV} {s:List UInt8} (ho:o.op=.convert t t2 x) (hb:(qCn T t&&qFq T t2)=true) (hx:ρ x=.rx i off n) (hn:0 < n) (hi:h[i]?=some (.row cells))
  (hs:s.length=n) (hc:∀ (j:Nat) (c:UInt8),s[j]?=some c→cells[off+j]?=some (.d (.int .u8 (c.toNat:Int)))):OpS P E o ρ h (.d (.str s)) h :=
 vEb hx hn (by simp [ho,Op.operands]) fun cap ρ' h0 h1 h2=>rowStr_ok hT ho hb h1 hi hs hc
theorem rxCut_ok (hT:TOk P T) {t sz i off n:Nat} {x:Operand} {lo hi:Option Operand} {l r:Nat} (ho:o.op=.slice t x lo hi none) (hs:qCk T t sz=true) (hx:ρ x=.rx i off n) (hn:0 < n)
  (hlo:match lo with | none=>l=0 | some y=>∃ k,ρ y=.d (.int k (l:Int))) (hhi:match hi with | none=>r=n | some y=>∃ k,ρ y=.d (.int k (r:Int))) (hle:l≤r) (hc:r≤n):OpS P E o ρ h (.rx i (off+l*sz) (r-l)) h :=
 vEb hx hn (by simp [ho,Op.operands]) fun cap ρ' h0 h1 h2=>by
  have hne:∀ y k (z:Int),ρ y=.d (.int k z)→ρ' y=.d (.int k z):=fun y k z hy=>(h2 y (fun hh=>by rw [hh,hx] at hy;cases hy)).trans hy
  have:=rowCut_ok (P:=P) (T:=T) (o:=o) (ρ:=ρ') (l:=l) (r:=r) hT ho hs h1 (by cases lo with | none=>exact hlo | some y=>obtain ⟨k,hk⟩:=hlo;exact ⟨k,hne y k _ hk⟩) (by cases hi with | none=>exact hhi | some y=>obtain ⟨k,hk⟩:=hhi;exact ⟨k,hne y k _ hk⟩) hle (by omega)
  refine qAc (fun G e w k1 k2=>?_)
  obtain ⟨u,q1,q2⟩:=this G e w k1 k2
  refine ⟨u,q1,?_⟩
  obtain ⟨b,rfl,hl⟩:=q2.row_inv
  refine .rx _ _ hl (by omega) (fun hp=>?_)
  rw [if_neg (by omega)]
theorem vBw (hT:TOk P T) {t sz i off n:Nat} {x:Operand} {lo hi:Option Operand} {l r:Nat} (ho:o.op=.slice t x lo hi none) (hs:qCk T t sz=true) (hx:ρ x=.rx i off n) (hn:0 < n)
  (hlo:match lo with | none=>l=0 | some y=>∃ k,ρ y=.d (.int k (l:Int))) (hhi:match hi with | none=>r=n | some y=>∃ k,ρ y=.d (.int k (r:Int))) (hle:l≤r) (hc:r≤n) (hv:AV.rx i (off+l*sz) (r-l)=v):OpS P E o ρ h v h :=
 hv▸rxCut_ok hT ho hs hx hn hlo hhi hle hc
theorem vDd (hT:TOk P T) {t t2 by_ i off n:Nat} {d s:Operand} {cells cells':List AV} {b:List UInt8} (ho:o.op=.call { callee:=.builtin .copy,args:=#[d,s],argTypes:=#[t,t2] })
  (ht:qRw T t=some (1,by_)) (hd:ρ d=.rx i off n) (hn:0 < n) (hs:ρ s=.d (.str b)) (hi:h[i]?=some (.row cells)) (hle:off+n≤cells.length) (hv:AV.d (.int .i64 (Nat.min b.length n:Nat))=v) (hc:qCg cells off (qAn (b.take n))=cells') :
  OpS P E o ρ h v (h.set i (.row cells')):=by
 subst hv;subst hc
 exact copyRx_ok hT ho ht hd hn hs hi hle
end
end Tdoc
namespace Tdoc
open Go
def vIw (l:List (Nat×Int×List UInt8)):List (Nat×Dat×Dat):=l.map fun x=>(x.1,.int .i64 x.2.1,.str x.2.2)
def qZn (l:List (Nat×Int×List UInt8)):Bool:=(List.range l.length).all fun a=>(List.range l.length).all fun b=>Nat.beq a b||(match l[a]?,l[b]? with
 | some x,some y=>!Nat.beq x.1 y.1&&!(x.2.1 == y.2.1)
 | _,_=>true)
theorem okIns_spec {l:List (Nat×Int×List UInt8)} (h:qZn l=true) {a b:Nat} {x y:Nat×Int×List UInt8} (ha:l[a]?=some x) (hb:l[b]?=some y) (hne:a≠b):x.1≠y.1∧x.2.1≠y.2.1:=by
 unfold qZn at h
 rw [List.all_eq_true] at h
 have h1:=h a (List.mem_range.2 (List.getElem?_eq_some_iff.1 ha).1)
 rw [List.all_eq_true] at h1
 have h2:=h1 b (List.mem_range.2 (List.getElem?_eq_some_iff.1 hb).1)
 simp only [ha,hb,Bool.or_eq_true,Bool.and_eq_true,Bool.not_eq_true'] at h2
 rcases h2 with h2 | ⟨h2,h3⟩
 ·exact absurd (Nat.eq_of_beq_eq_true h2) hne
 ·exact ⟨fun hh=>by rw [hh] at h2;simp at h2,fun hh=>by rw [hh] at h3;simp at h3⟩
section
variable {P:Program} {E:Env} {N:Nat} {m L:Nat} {rd wr:Nat→List Nat}
theorem qGa {T:Tr} (hT:TOk P T) {ops:List Oper} {Q:(Nat→AV)→List AObj→Prop} {rest:List Oper} {i i0 t kt et:Nat} {x kx vx:Operand} {ty:TypeId} {pos:String} {after:Array Edge} {q:List (Nat×Int×List UInt8)} {l:List (Nat×AV)} {h:List AObj} {n:Int} {s:List UInt8} (hok:qZn q=true) (j:Nat) (hj:q[j]?=some (i,n,s))
  (ht:P.underlying t=some (.map kt et)) (hkt:P.underlying kt=some (.int .i64)) (hx:ev (look l) x=.mp m) (hk:ev (look l) kx=.d (.int .i64 n)) (hv:ev (look l) vx=.d (.str s)) (hm:Nat.blt m h.length=true) (hw:wr i=[]) (hni:Nat.beq i i0=false) (haft:after.any (fun e=>Region.binds .any e&&Nat.beq e.on i0)=true) (hop:ops[i]?=some ⟨none,.insert t x kx vx,ty,pos,after,none⟩)
  (H:AWdM P E N ops (mapM i0 (vIw q)) m L rd wr Q rest (i+1) (look l) h):AWdM P E N ops (mapM i0 (vIw q)) m L rd wr Q (⟨none,.insert t x kx vx,ty,pos,after,none⟩::rest) i (look l) h:=by
 refine vAz hT ht hkt hx hk hv (List.mem_map.2 ⟨_,List.mem_of_getElem? hj,rfl⟩) (fun y hy=>?_) (fun y hy hyi=>?_) (qCa hm) hw (fun hh=>by rw [hh] at hni;simp at hni) haft hop H
 ·obtain ⟨z,hz,rfl⟩:=List.mem_map.1 hy
  refine ⟨⟨_,_,rfl⟩,fun hzi hzn=>?_⟩
  obtain ⟨b,hb⟩:=List.mem_iff_getElem?.1 hz
  by_cases hbj:b=j
  ·subst hbj;rw [hj] at hb;cases hb;exact hzi rfl
  ·exact (okIns_spec hok hb hj hbj).2 (by simpa using hzn)
 ·obtain ⟨z,hz,rfl⟩:=List.mem_map.1 hy
  obtain ⟨b,hb⟩:=List.mem_iff_getElem?.1 hz
  by_cases hbj:b=j
  ·subst hbj;rw [hj] at hb;cases hb;rfl
  ·exact absurd hyi (okIns_spec hok hb hj hbj).1
theorem vEj {ops:List Oper} {Q:(Nat→AV)→List AObj→Prop} {i i0 it d t kt et:Nat} {x:Operand} {ty:TypeId} {pos:String} {after:Array Edge} {q:List (Nat×Int×List UInt8)} {l:List (Nat×AV)} {h:List AObj}
  (hop:ops[L]?=some ⟨some d,.range t x,ty,pos,after,none⟩) (ht:P.underlying t=some (.map kt et)) (hx:ev (look l) x=.mp m) (hm:Nat.blt m h.length=true) (hi:h[it]?=some .room) (hne:Nat.beq m it=false) (hd:Nat.blt d N=true) (h0:Nat.blt i0 L=true) (hq:q.all (fun x=>Nat.blt x.1 L)=true)
  (H:∀ (bm:Nat) (es:Array MapEntry) (clock:Nat),MapIs (q.map fun x=>(Dat.int .i64 x.2.1,Dat.str x.2.2)) es clock→Q (look ((d,.ptr it 0)::l)) ((h.set m (.opq (vFt bm es clock))).set it (.opq (qRa bm clock #[] clock)))) :
  AWdM P E N ops (mapM i0 (vIw q)) m L rd wr Q [] i (look l) h:=by
 refine ⟨⟨some d,.range t x,ty,pos,after,none⟩,_,hop,fun listed hl=>?_,fun v h' hR=>hR⟩
 have e1:qPk (vIw q) listed=q.map fun x=>(Dat.int .i64 x.2.1,Dat.str x.2.2):=by
  unfold qPk vIw
  rw [List.filter_eq_self.2 (fun y hy=>?_),List.map_map]
  ·rfl
  ·obtain ⟨z,hz,rfl⟩:=List.mem_map.1 hy
   rw [List.all_eq_true] at hq
   exact hl z.1 (qCa (hq z hz))
 have e0:mapM i0 (vIw q) listed=.opq (qTh (q.map fun x=>(Dat.int .i64 x.2.1,Dat.str x.2.2))):=by
  unfold mapM
  rw [hl i0 (qCa h0),e1];rfl
 rw [e0]
 have hne':m≠it:=fun hh=>by rw [hh] at hne;simp at hne
 refine ⟨hd,OpR.mono (vFj (A:=q.map fun x=>(Dat.int .i64 x.2.1,Dat.str x.2.2)) rfl ht hx (by simp [qCa hm]) (by rw [List.getElem?_set_ne hne'];exact hi)) ?_⟩
 rintro v k ⟨⟨bm,es,clock⟩,hA,rfl,rfl⟩
 have:=H bm es clock hA
 simp only [List.set_set]
 exact this
end
end Tdoc
namespace Tdoc
open Go
theorem vAy {P:Program} {E:Env} {N:Nat} {g:Operand} {p:Tmp} {assign body:Code} {Q:Exit→(Nat→AV)→List AObj→Prop} {τ:Nat→AV} {h:List AObj} {gf:FuncId} {cap:List AV} {ok:List AObj→Prop} {xs:List AV}
  (Hs:Nat→List AObj) (hg:ev τ g=.fn (.func gf) [] cap) (hseq:SeqOk P gf cap ok xs) (h0:Hs 0=h) (hok:∀ k,ok (Hs k)) (hp:Nat.blt p N=true) (hlen:∀ k,(Hs k).length=h.length) (hlow:∀ k,qEb h.length (Hs k)=true)
  (T1:AV→Nat→AV) (hassign:∀ (k:Nat) (x:AV),xs[k]?=some x→∀ (E':Env) (l:Nat),AWF (Fence.wide.inRound l) P E' N assign (fun e τ' h'=>e=.normal∧τ'=T1 x∧h'=Hs k) (qKo τ (some p) x) (Hs k))
  (hround:∀ (k:Nat) (x:AV),xs[k]?=some x→∀ (E':Env) (l:Nat),E'.below h.length→AWF (Fence.wide.inRound l) P E' N body (fun e τ' h'=>e=.normal∧∃ junk,HLe h' (Hs (k+1)++junk)) (T1 x) (Hs k))
  (hpost:Q .normal τ (Hs xs.length)):AWx P E N (.rangeFunc g #[p] assign body) Q τ h:=by
 intro a w r
 obtain ⟨r1,r2,G,hw,ht⟩:=r
 have hgv:=qIs (E.tab.1.mono hw.le.imm) ht g
 rw [hg] at hgv
 generalize hge:a.eval g=gv at hgv
 cases hgv with
 | fn _ fvs cvs g1 g2 g3 g4 =>
 obtain rfl:fvs = #[]:=Array.eq_empty_of_size_eq_zero g1
 obtain ⟨fn0,k1,k2,k3⟩:=hseq.1
 have k2':¬ fn0.name = "runtime.NumGoroutine" := by simpa using k2
 have k3':¬ fn0.body=none:=by intro hh;rw [hh] at k3;cases k3
 refine (wpIn_wide (n:=0)).1 (wpIn_rangeFunc ?_)
 intro fn hfn
 obtain ⟨rec0,hrec⟩:∃ rec0:Loop,rec0={ state:=.ready,pending:=none,fn,tmps:=a.tmps,params:=#[p],assign,body,defers:=w.heap.size }:=⟨_,rfl⟩
 obtain ⟨w1,hW1⟩:∃ w1,(w.alloc (.deferred (some []))).alloc (.loop rec0)=w1:=⟨_,rfl⟩
 have hl:w1.heap[w.heap.size+1]?=some (.loop rec0):=by
  rw [← hW1];have:=World.alloc_heap_new (w.alloc (.deferred (some []))) (.loop rec0);rwa [World.size_alloc] at this
 have hD:w1.heap[w.heap.size]?=some (.deferred (some [])):=by
  rw [← hW1];show ((w.heap.push _).push _)[w.heap.size]?=_;simp [Array.getElem?_push]
 have hsz1:w1.heap.size=w.heap.size+2:=by rw [← hW1];simp
 have hw1:WRel E G h w1:=by
  rw [← hW1]
  exact qLm (qLm hw (qOp w _)) (qOp _ _)
 have hown:∀ b,w.heap.size≤b→G.own b=none:=fun b hb=>by
  cases ho:G.own b with
  | none=>rfl
  | some i=>have:=(hw.own b i ho).1;omega
 have hEl:∀ b,w.heap.size≤b→¬ E.K b:=fun b hb hk=>by have h1:=hk.1;have h2:=hw.size;omega
 have hne:∀ (b:Nat),w.heap.size≤b→∀ g p,qFw g=some p→g≠b:=fun b hb g p hgp hgb=>by
  obtain ⟨_,o,h2,_⟩:=E.tab.2 g p hgp
  have:=(Array.getElem?_eq_some_iff.1 h2).1
  have:=hw.size
  omega
 have htab1:TabOk w1 G:=hw1.tabOk
 obtain ⟨E1,hE1⟩:∃ E1:Env,E1=⟨w1,G,htab1,[]⟩:=⟨_,rfl⟩
 have hw1':WRel E1 G h w1:=by rw [hE1];exact hw1.restart htab1 []
 have hK1:∀ b,w.heap.size≤b→b < w1.heap.size→E1.K b:=fun b hb hlt=>by rw [hE1];exact ⟨hlt,hown b hb⟩
 have hY:∀ (k:Nat) (x:AV),xs[k]?=some x→YieldOk P E1 (w.heap.size+1) x (Hs k) (Hs (k+1)):=by
  intro k x hx Gk0 wk0 v hwk0 hv
  have hkl:=hK1 (w.heap.size+1) (by omega) (by omega)
  have hlk0:wk0.heap[w.heap.size+1]?=some (.loop rec0):=by
   have:=hwk0.keep _ hkl
   rw [this,hE1];exact hl
  have hy:=run_yield (P:=P) (args:=#[v]) hlk0 (by rw [hrec];rfl)
  rw [hrec] at hy
  have hGG0:G.le Gk0:=by have:=hwk0.le;rw [hE1] at this;exact this
  refine ⟨fn,_,assign,body,hy,roundIn_of_wpIn True.intro (wpIn_mono (hassign k x hx ⟨wk0,Gk0,hwk0.tabOk,[]⟩ (w.heap.size+1) _ wk0 ⟨by simp [r1],rfl,Gk0,hwk0.restart _ _,fun t=>?_⟩) ?_)⟩
  ·have:=qJt (dst:=some p) (N:=N) (τ:=τ) r1 (fun d hd=>by cases hd;exact Nat.le_of_ble_eq_true hp) (fun t=>(ht t).mono hGG0) hv [] t
   simpa [Act.put] using this
  rintro e1 a1 wk ⟨τ1,h1,⟨rfl,rfl,rfl⟩,s1,s2,Gk,hwk1,ht1⟩
  have hwk:WRel E1 Gk (Hs k) wk:=hwk0.after hwk1
  have hG01:Gk0.le Gk:=hwk1.le
  clear hwk1
  have hlk:wk.heap[w.heap.size+1]?=some (.loop rec0):=by
   have:=hwk.keep _ hkl
   rw [this,hE1];exact hl
  have hownk:Gk.own (w.heap.size+1)=none:=by
   cases ho:Gk.own (w.heap.size+1) with
   | none=>rfl
   | some i=>exact absurd hkl (hwk.own _ i ho).2
  refine ⟨_,run_beginRound hlk (by rw [hrec]),?_⟩
  generalize hbz:({ rec0 with state:=.busy }:Loop)=busy
  have htab2:TabOk (wk.putObj (w.heap.size+1) (.loop busy)) Gk:=hwk.tabPoke _ (hne _ (by omega))
  have hw2:=hwk.pokeAt (.loop busy) hlk rfl hownk htab2 []
  have hbel:(⟨wk.putObj (w.heap.size+1) (.loop busy),Gk,htab2,[]⟩:Env).below h.length:=fun i hi=>hwk.fresh i (by rw [hlen];exact hi)
  refine wpIn_mono (hround k x hx _ (w.heap.size+1) hbel _ _ ⟨s1,s2,Gk,hw2,ht1⟩) ?_
  ·rintro e a3 w3 ⟨τ',h',⟨rfl,junk,hj⟩,hr3⟩
   have hr4:=vDy (h':=Hs (k+1)) (l:=[]) (junk:=junk) (by rw [hlen];exact hbel) True.intro rfl hj (by rw [hlen];exact hlow _) a3 w3 hr3
   obtain ⟨_,_,G',hw3,_⟩:=hr4
   have hk2:(⟨wk.putObj (w.heap.size+1) (.loop busy),Gk,htab2,[]⟩:Env).K (w.heap.size+1):=⟨by rw [World.putObj_size];exact (Array.getElem?_eq_some_iff.1 hlk).1,hownk⟩
   have hl3:w3.heap[w.heap.size+1]?=some (.loop busy):=(hw3.keep _ hk2).trans (World.putObj_heap_same (Array.getElem?_eq_some_iff.1 hlk).1)
   have hend:=run_endRound (P:=P) none hl3
   have hback:({ busy with state:=if (none:Option Code).isNone then .ready else .done,pending:=none }:Loop)=rec0:=by rw [← hbz,hrec];rfl
   rw [hback] at hend
   refine ⟨_,_,hend,rfl,G',hG01.trans hw3.le,?_⟩
   have hEK:∀ b,E1.K b→(⟨wk.putObj (w.heap.size+1) (.loop busy),Gk,htab2,[]⟩:Env).K b:=fun b hk=>⟨by rw [World.putObj_size];exact Nat.lt_of_lt_of_le hk.1 hwk.size,by
    show Gk.own b=none
    cases ho:Gk.own b with
    | none=>rfl
    | some i=>exact absurd hk (hwk.own b i ho).2⟩
   have hownl:G'.own (w.heap.size+1)=none:=by
    cases ho:G'.own (w.heap.size+1) with
    | none=>rfl
    | some i=>exact absurd hk2 (hw3.own _ i ho).2
   obtain ⟨p1,p2⟩:=hw3.poke (.loop rec0) hl3 rfl hownl
   refine ⟨hwk.le.trans hw3.le,p1,fun b v hb=>?_,fun b hb=>?_,?_,hw3.os.trans hwk.os,hw3.tape.trans hwk.tape,hw3.output.trans hwk.output,fun b i hb=>⟨by rw [World.putObj_size];exact (hw3.own b i hb).1,fun hk=>(hw3.own b i hb).2 (hEK b hk)⟩,hw3.fresh,p2⟩
   ·rcases hw3.immNew b v hb with h1 | h1
    ·exact hwk.immNew b v h1
    ·exact .inr fun hk=>h1 (hEK _ hk)
   ·by_cases hbl:b=w.heap.size+1
    ·subst hbl
     rw [World.putObj_heap_same (Array.getElem?_eq_some_iff.1 hl3).1,hE1];exact hl.symm
    ·rw [World.putObj_heap_other hbl]
     exact (hw3.keep b (hEK b hb)).trans ((World.putObj_heap_other hbl).trans (hwk.keep b hb))
   ·rw [World.putObj_size]
    refine Nat.le_trans hwk.size ?_
    have:=hw3.size
    rwa [World.putObj_size] at this
 have hcall:=hseq.2 E1 (w.heap.size+1) Hs (by rw [hE1]) hok hY (by rw [h0,hE1];exact hw1.restart htab1 []) cvs g2 (fun j x v hx hv=>by rw [hE1];exact g4 j x v hx hv)
 have hE1w:E1.w0=w1:=by rw [hE1]
 rw [hE1w] at hcall
 refine ⟨w.heap.size+1,[{ target:=.collected w.heap.size,args:=#[] }],w1,{ target:=.fn (.func gf) cvs,args:=#[.func (.yield (w.heap.size+1)) #[] #[]] },w1,gf,#[.func (.yield (w.heap.size+1)) #[] #[]]++cvs,w1,?_,?_,fun _ _=>True.intro,?_,fun hh=>?_,?_⟩
 ·rw [← hW1,hrec];exact run_enterLoop_outer _ _ _ _ _
 ·simp [resolve,hge,Deferred.ofValue]
  rfl
 ·simp [invoke,callFunc,k1,k2',k3']
 ·exact absurd hh (by decide)
 ·show CallsIn Fence.wide 0 P gf _ w1 _
  refine hcall.mono ?_
  rintro e w3 ⟨⟨v,rfl⟩,G3,hw3⟩
  have hkl:=hK1 (w.heap.size+1) (by omega) (by omega)
  have hkD:=hK1 w.heap.size (Nat.le_refl _) (by omega)
  have hl3:w3.heap[w.heap.size+1]?=some (.loop rec0):=by rw [hw3.keep _ hkl,hE1];exact hl
  have hD3:w3.heap[w.heap.size]?=some (.deferred (some [])):=by rw [hw3.keep _ hkD,hE1];exact hD
  have hownl:∀ b,E1.K b→G3.own b=none:=fun b hk=>by
   cases ho:G3.own b with
   | none=>rfl
   | some i=>exact absurd hk (hw3.own b i ho).2
  have hG3:G.le G3:=by have:=hw3.le;rw [hE1] at this;exact this
  have hw3E:WRel E G3 (Hs xs.length) w3:=by
   subst hE1
   exact hw1.after hw3
  have hend:=run_endLoop (P:=P) hl3 (by rw [hrec];simp)
  have hw4E:=hw3E.pokeIn (.loop { rec0 with state:=.exhausted }) hl3 rfl (hownl _ hkl) (hEl _ (by omega))
  generalize hw4:w3.putObj (w.heap.size+1) (.loop { rec0 with state:=.exhausted })=w4 at hw4E hend
  have hpend:rec0.pending=none:=by rw [hrec]
  rw [hpend] at hend
  refine ⟨none,w4,hend,?_⟩
  have hD4:w4.heap[w.heap.size]?=some (.deferred (some [])):=by rw [← hw4,World.putObj_heap_other (by omega)];exact hD3
  have hle:ELe E ⟨w4,G3,hw4E.tabOk,marks [w.heap.size]++E.ds⟩:=by
   refine ⟨fun G h w hw=>hw4E.after hw,fun b hk=>⟨Nat.lt_of_lt_of_le hk.1 hw4E.size,?_⟩,fun b hk=>hw4E.keep b hk,[w.heap.size],rfl,(List.nodup_cons.2 ⟨by simp,List.nodup_nil⟩),fun D hDm=>?_⟩
   ·show G3.own b=none
    cases ho:G3.own b with
    | none=>rfl
    | some i=>exact absurd hk (hw4E.own b i ho).2
   ·obtain rfl:D=w.heap.size:=by simpa using hDm
    exact ⟨hD4,⟨(Array.getElem?_eq_some_iff.1 hD4).1,hownl _ hkD⟩,hEl _ (Nat.le_refl _)⟩
  refine ⟨_,hle,τ,Hs xs.length,hpost,r1,?_,G3,hw4E.restart _ _,fun t=>(ht t).mono hG3⟩
  show [_]++a.defers=_
  rw [r2];rfl
theorem vHc {P:Program} {E:Env} {N:Nat} {x y:Code} {Qx Q:Exit→(Nat→AV)→List AObj→Prop} {τ:Nat→AV} {h:List AObj} (hx:AWx P E N x Qx τ h) (hn:∀ E2,ELe E E2→∀ τ' h',Qx .normal τ' h'→AWx P E2 N y Q τ' h')
  (he:∀ e τ' h',e≠.normal→Qx e τ' h'→Q e τ' h'):AWx P E N (.seq x y) Q τ h :=
 fun a w r=>wp_seq (wp_mono (hx a w r) fun e a' w' ⟨E2,hE,τ',h',q,r'⟩=>by
  cases e with
  | normal =>
   refine wp_mono (hn E2 hE τ' h' q a' w' r') fun e3 a3 w3 ⟨E3,hE3,τ3,h3,q3,r3⟩=>⟨E3,hE.trans hE3,τ3,h3,q3,r3⟩
  | _=>exact ⟨E2,hE,τ',h',he _ _ _ (by simp) q,r'⟩)
theorem qYp {P:Program} {E:Env} {N:Nat} {c:Code} {Q:Exit→(Nat→AV)→List AObj→Prop} {τ:Nat→AV} {h:List AObj} {l:List (Nat×AV)} {h':List AObj} (hs:SubL τ l) (hh:HLe h h') (hc:AWx P E N c Q (look l) h'):AWx P E N c Q τ h:=vJs (qHc hs hh) hc
end Tdoc
namespace Tdoc
open Go
end Tdoc
namespace Tdoc
open Go
variable {P:Program} {E:Env} {T:Tr} {o:Oper} {ρ:Operand→AV} {h:List AObj}
end Tdoc
namespace Tdoc
open Go
def wI (x:BitVec 32):Int:=(x.toNat:Int)
theorem wrap32 (n:Int):IntKind.u32.wrap n=n % 4294967296:=by
 simp only [IntKind.wrap,IntKind.signed,IntKind.bits]
 simp
theorem ofInt_wI (x:BitVec 32):BitVec.ofInt IntKind.u32.bits (wI x)=x:=by
 show BitVec.ofInt 32 (wI x)=x
 apply BitVec.eq_of_toNat_eq
 rw [BitVec.toNat_ofInt]
 have:=x.isLt
 unfold wI
 omega
theorem qMo (x:BitVec 32):IntKind.u32.wrap (x.toNat:Int)=wI x:=by rw [wrap32];have:=x.isLt;unfold wI;omega
theorem wI_add (x y:BitVec 32):IntKind.u32.wrap (wI x+wI y)=wI (x+y):=by
 rw [wrap32];unfold wI;rw [BitVec.toNat_add];omega
theorem wI_and (x y:BitVec 32):IntKind.u32.wrap ((BitVec.ofInt IntKind.u32.bits (wI x) &&& BitVec.ofInt IntKind.u32.bits (wI y)).toNat:Int)=wI (x &&& y):=by rw [ofInt_wI,ofInt_wI];exact qMo (x &&& y)
theorem wI_or (x y:BitVec 32):IntKind.u32.wrap ((BitVec.ofInt IntKind.u32.bits (wI x) ||| BitVec.ofInt IntKind.u32.bits (wI y)).toNat:Int)=wI (x ||| y):=by rw [ofInt_wI,ofInt_wI];exact qMo (x ||| y)
theorem wI_xor (x y:BitVec 32):IntKind.u32.wrap ((BitVec.ofInt IntKind.u32.bits (wI x) ^^^ BitVec.ofInt IntKind.u32.bits (wI y)).toNat:Int)=wI (x ^^^ y):=by rw [ofInt_wI,ofInt_wI];exact qMo (x ^^^ y)
theorem wI_not (x:BitVec 32):IntKind.u32.wrap ((BitVec.ofInt IntKind.u32.bits (if IntKind.u32.signed then -1 else IntKind.u32.max) ^^^ BitVec.ofInt IntKind.u32.bits (wI x)).toNat:Int)=wI (~~~ x):=by
 show IntKind.u32.wrap ((BitVec.ofInt 32 4294967295 ^^^ BitVec.ofInt 32 (wI x)).toNat:Int)=wI (~~~ x)
 have h1:BitVec.ofInt 32 4294967295=BitVec.allOnes 32:=by decide
 have h3:BitVec.ofInt 32 (wI x)=x:=ofInt_wI x
 have h2:BitVec.allOnes 32 ^^^ x = ~~~ x:=by rw [BitVec.xor_comm,BitVec.xor_allOnes]
 rw [h1,h3,h2]
 exact qMo (~~~ x)
theorem wI_shl (x:BitVec 32) (k:Nat):IntKind.u32.wrap (wI x*2 ^ k)=wI (x <<< k):=by
 rw [wrap32];unfold wI
 rw [BitVec.toNat_shiftLeft,Nat.shiftLeft_eq]
 have h:((x.toNat:Int)*2 ^ k)=((x.toNat*2 ^ k:Nat):Int):=by push_cast;rfl
 rw [h]
 omega
theorem wI_shr (x:BitVec 32) (k:Nat):Int.fdiv (wI x) (2 ^ k)=wI (x >>> k):=by
 unfold wI
 rw [BitVec.toNat_ushiftRight,Nat.shiftRight_eq_div_pow]
 have h:(2:Int) ^ k=((2 ^ k:Nat):Int):=by push_cast;rfl
 rw [h,Int.fdiv_eq_ediv_of_nonneg _ (Int.natCast_nonneg _)]
 exact (Int.natCast_ediv _ _).symm
def wB (c:UInt8):BitVec 32:=BitVec.ofNat 32 c.toNat
theorem wI_byte (c:UInt8):IntKind.u32.wrap (c.toNat:Int)=wI (wB c):=by
 have:=UInt8.toNat_lt c
 rw [wrap32];unfold wI wB
 rw [BitVec.toNat_ofNat]
 omega
def bW (x:BitVec 32):UInt8:=UInt8.ofNat (x.toNat % 256)
theorem bW_wrap (x:BitVec 32):IntKind.u8.wrap (wI x)=((bW x).toNat:Int):=by
 rw [qCj];unfold wI bW
 rw [show (UInt8.ofNat (x.toNat % 256)).toNat=x.toNat % 256 by simp]
 omega
def qKl (x:BitVec 32) (n:Nat):BitVec 32:=x >>> n ||| x <<< (32-n)
theorem rotW_comm (x:BitVec 32) (n:Nat):x <<< (32-n) ||| x >>> n=qKl x n:=BitVec.or_comm _ _
def sg0 (x:BitVec 32):BitVec 32:=qKl x 7 ^^^ qKl x 18 ^^^ x >>> 3
def sg1 (y:BitVec 32):BitVec 32:=qKl y 17 ^^^ qKl y 19 ^^^ y >>> 10
def bs0 (a:BitVec 32):BitVec 32:=qKl a 2 ^^^ qKl a 13 ^^^ qKl a 22
def bs1 (e:BitVec 32):BitVec 32:=qKl e 6 ^^^ qKl e 11 ^^^ qKl e 25
def qSl (b:List UInt8) (i:Nat):BitVec 32:=wB (b.getD i 0) <<< 24 ||| wB (b.getD (i+1) 0) <<< 16 ||| wB (b.getD (i+2) 0) <<< 8 ||| wB (b.getD (i+3) 0)
def vIq (w:List (BitVec 32)) (t:Nat):BitVec 32:=sg1 (w.getD (t-2) 0)+w.getD (t-7) 0+sg0 (w.getD (t-15) 0)+w.getD (t-16) 0
def qJs (b:List UInt8):Nat→List (BitVec 32)
 | 0=>[]
 | n+1=>qJs b n++[if n < 16 then qSl b (4*n) else vIq (qJs b n) n]
theorem schW_length (b:List UInt8):∀ n,(qJs b n).length=n
 | 0=>rfl
 | n+1=>by rw [qJs,List.length_append,schW_length b n];rfl
def kW:List (BitVec 32):=[0x428a2f98,0x71374491,0xb5c0fbcf,0xe9b5dba5,0x3956c25b,0x59f111f1,0x923f82a4,0xab1c5ed5,
 0xd807aa98,0x12835b01,0x243185be,0x550c7dc3,0x72be5d74,0x80deb1fe,0x9bdc06a7,0xc19bf174,
 0xe49b69c1,0xefbe4786,0x0fc19dc6,0x240ca1cc,0x2de92c6f,0x4a7484aa,0x5cb0a9dc,0x76f988da,
 0x983e5152,0xa831c66d,0xb00327c8,0xbf597fc7,0xc6e00bf3,0xd5a79147,0x06ca6351,0x14292967,
 0x27b70a85,0x2e1b2138,0x4d2c6dfc,0x53380d13,0x650a7354,0x766a0abb,0x81c2c92e,0x92722c85,
 0xa2bfe8a1,0xa81a664b,0xc24b8b70,0xc76c51a3,0xd192e819,0xd6990624,0xf40e3585,0x106aa070,
 0x19a4c116,0x1e376c08,0x2748774c,0x34b0bcb5,0x391c0cb3,0x4ed8aa4a,0x5b9cca4f,0x682e6ff3,
 0x748f82ee,0x78a5636f,0x84c87814,0x8cc70208,0x90befffa,0xa4506ceb,0xbef9a3f7,0xc67178f2]
structure Vw where
 a:BitVec 32
 b:BitVec 32
 c:BitVec 32
 d:BitVec 32
 e:BitVec 32
 f:BitVec 32
 g:BitVec 32
 h:BitVec 32
def vFe (v:Vw) (k w:BitVec 32):Vw :=
 let t1:=v.h+bs1 v.e+((v.e &&& v.f) ^^^ (~~~ v.e &&& v.g))+k+w
 let t2:=bs0 v.a+((v.a &&& v.b) ^^^ (v.a &&& v.c) ^^^ (v.b &&& v.c))
 ⟨t1+t2,v.a,v.b,v.c,v.d+t1,v.e,v.f,v.g⟩
def qGe (v:Vw) (w:List (BitVec 32)):Nat→Vw
 | 0=>v
 | n+1=>vFe (qGe v w n) (kW.getD n 0) (w.getD n 0)
def qPj:Vw:=⟨0x6a09e667,0xbb67ae85,0x3c6ef372,0xa54ff53a,0x510e527f,0x9b05688c,0x1f83d9ab,0x5be0cd19⟩
def qTu (v:Vw) (b:List UInt8):Vw :=
 let r:=qGe v (qJs b 64) 64
 ⟨v.a+r.a,v.b+r.b,v.c+r.c,v.d+r.d,v.e+r.e,v.f+r.f,v.g+r.g,v.h+r.h⟩
def qEk (x:BitVec 32):List UInt8:=[bW (x >>> 24),bW (x >>> 16),bW (x >>> 8),bW x]
def vJz (v:Vw):List UInt8:=qEk v.a++qEk v.b++qEk v.c++qEk v.d++qEk v.e++qEk v.f++qEk v.g++qEk v.h
def qVd:Nat→Nat→List UInt8
 | 0,_=>[]
 | m+1,n=>qVd m (n / 256)++[UInt8.ofNat (n % 256)]
def qVx (b:List UInt8):List UInt8:=b++[128]++List.replicate ((119-b.length % 64) % 64) 0++qVd 8 (8*b.length)
theorem lenW_length:∀ (m n:Nat),(qVd m n).length=m
 | 0,_=>rfl
 | m+1,n=>by rw [qVd,List.length_append,lenW_length m];rfl
theorem padW_length (b:List UInt8):(qVx b).length % 64=0∧(qVx b).length≤b.length+73:=by
 unfold qVx
 simp only [List.length_append,List.length_replicate,List.length_singleton,lenW_length]
 omega
def vFd:Nat→Vw→List UInt8→Vw
 | 0,v,_=>v
 | n+1,v,b=>vFd n (qTu v (b.take 64)) (b.drop 64)
def qJi (b:List UInt8):List UInt8:=vJz (vFd ((qVx b).length / 64) qPj (qVx b))
theorem sumW_length (b:List UInt8):(qJi b).length=32:=rfl
end Tdoc
namespace Tdoc
open Go
def uV (x:BitVec 32):AV:=.d (.int .u32 (wI x))
def cellsW (b:List UInt8) (t:Nat):List AV:=(qJs b t).map uV++List.replicate (64-t) (uV 0)
def qPi (b:List UInt8) (t:Nat):BitVec 32:=if t < 16 then qSl b (4*t) else vIq (qJs b t) t
theorem schW_succ (b:List UInt8) (n:Nat):qJs b (n+1)=qJs b n++[qPi b n]:=rfl
theorem cellsW_length (b:List UInt8) {t:Nat} (h:t≤64):(cellsW b t).length=64:=by
 unfold cellsW
 rw [List.length_append,List.length_map,schW_length,List.length_replicate];omega
theorem cellsW_at (b:List UInt8) {i t:Nat} (h:i < t):(cellsW b t)[i]?=some (uV ((qJs b t).getD i 0)):=by
 have hl:=schW_length b t
 unfold cellsW
 rw [List.getElem?_append_left (by rw [List.length_map];omega),List.getElem?_map]
 simp [show i < (qJs b t).length by omega]
theorem cellsW_set (b:List UInt8) {t:Nat} (h:t < 64):(cellsW b t).set t (uV (qPi b t))=cellsW b (t+1):=by
 have hl:=schW_length b t
 unfold cellsW
 rw [schW_succ,List.map_append,List.set_append_right _ _ (by rw [List.length_map];omega),List.length_map,hl,Nat.sub_self,show 64-t=(64-(t+1))+1 by omega,List.replicate_succ,List.set_cons_zero,List.append_assoc]
 rfl
theorem schW_next (b:List UInt8) {t:Nat} (h:16≤t):qPi b t=sg1 ((qJs b t).getD (t-2) 0)+(qJs b t).getD (t-7) 0+sg0 ((qJs b t).getD (t-15) 0)+(qJs b t).getD (t-16) 0:=by
 unfold qPi vIq;rw [if_neg (by omega)]
theorem schW_word (b:List UInt8) {t:Nat} (h:t < 16):qPi b t=qSl b (4*t):=by unfold qPi;rw [if_pos h]
theorem cells64 (b:List UInt8) {t:Nat} (h:t < 64):(cellsW b 64)[t]?=some (uV ((qJs b 64).getD t 0)):=cellsW_at b h
def qPn (n:Nat):Nat:=(119-n % 64) % 64
theorem padZ_iff {n j:Nat} (h:j≤qPn n):(n+1+j) % 64=56↔j=qPn n:=by unfold qPn at h ⊢;omega
theorem padZ_lt (n:Nat):qPn n < 64:=by unfold qPn;omega
theorem padW_eq (b:List UInt8):qVx b=b++[128]++List.replicate (qPn b.length) 0++qVd 8 (8*b.length):=rfl
def qOw (b:List UInt8):Nat→Vw
 | 0=>qPj
 | n+1=>qTu (qOw b n) (((qVx b).drop (64*n)).take 64)
theorem sumGo_to (b:List UInt8):∀ (m n:Nat),vFd m (qOw b n) ((qVx b).drop (64*n))=qOw b (n+m)
 | 0,n=>rfl
 | m+1,n=>by
  rw [vFd,List.drop_drop,show 64*n+64=64*(n+1) by omega]
  exact (sumGo_to b m (n+1)).trans (by rw [show n+1+m=n+(m+1) by omega])
theorem sumW_to (b:List UInt8):qJi b=vJz (qOw b ((qVx b).length / 64)):=by
 have:=sumGo_to b ((qVx b).length / 64) 0
 rw [Nat.zero_add] at this
 unfold qJi
 exact congrArg vJz this
def vwL (v:Vw):List (BitVec 32):=[v.a,v.b,v.c,v.d,v.e,v.f,v.g,v.h]
def qEz (v:Vw):List (List Dat):=(vwL v).map fun x=>[.int .u32 (wI x)]
theorem outW_eq (v:Vw):vJz v=((vwL v).map qEk).flatten:=by simp [vJz,vwL]
theorem len8 (n:Nat) (h:n < 18446744073709551616):qVd 8 n=qEk (BitVec.ofNat 32 (n / 4294967296))++qEk (BitVec.ofNat 32 n):=by
 have hb:∀ (x:BitVec 32) (k:Nat),bW (x >>> k)=UInt8.ofNat (x.toNat / 2 ^ k % 256):=fun x k=>by unfold bW;rw [BitVec.toNat_ushiftRight,Nat.shiftRight_eq_div_pow]
 have h0:∀ x:BitVec 32,bW x=UInt8.ofNat (x.toNat % 256):=fun x=>rfl
 unfold qEk
 simp only [hb,h0,BitVec.toNat_ofNat]
 simp only [qVd,List.nil_append,List.cons_append]
 have e:∀ a c:Nat,a=c→UInt8.ofNat a=UInt8.ofNat c:=fun a c h=>by rw [h]
 congr 1
 ·exact e _ _ (by omega)
 congr 1
 ·exact e _ _ (by omega)
 congr 1
 ·exact e _ _ (by omega)
 congr 1
 ·exact e _ _ (by omega)
 congr 1
 ·exact e _ _ (by omega)
 congr 1
 ·exact e _ _ (by omega)
 congr 1
 ·exact e _ _ (by omega)
 congr 1
 exact e _ _ (by omega)
end Tdoc
namespace Tdoc
open Go
section
variable {P:Program} {E:Env} {T:Tr} {o:Oper} {ρ:Operand→AV} {h:List AObj}
theorem qXy {G:Gh} {sz:Nat} {es:List (List Dat)} {news:List Value} (hlen:∀ e,e∈es→e.length=sz) (hn:∀ (i:Nat) (e:List Dat) (j:Nat) (d:Dat),es[i]?=some e→e[j]?=some d→∃ u,news[i*sz+j]?=some u∧RepD G.imm d u) :
  ∀ (j:Nat) (c:AV) (u:Value),(qFf es)[j]?=some c→news[j]?=some u→RepA G c u∧qJd u=true:=by
 intro j c u hc hu
 simp only [qFf,List.getElem?_map,Option.map_eq_some_iff] at hc
 obtain ⟨d,hd,rfl⟩:=hc
 obtain ⟨i,j',e,he,hd',hjj⟩:=qGk hlen hd
 obtain ⟨u',hu',hru⟩:=hn i e j' d he hd'
 rw [← hjj,hu] at hu'
 cases hu'
 exact ⟨.d hru,hru.one⟩
theorem appRowD_ok (hT:TOk P T) {t t2 sz by_ i n cap:Nat} {s x:Operand} {cells:List AV} {es2:List (List Dat)} (ho:o.op=.call { callee:=.builtin .append,args:=#[s,x],argTypes:=#[t,t2] })
  (ht:qRw T t=some (sz,by_)) (ht2:qVj T t2=true) (hs:ρ s=.row i 0 n cap) (hx:qLl sz (ρ x)=some es2) (hi:h[i]?=some (.row cells)) (hfit:n+es2.length≤cap) (hc1:(n+es2.length)*sz≤cells.length) :
  OpS P E o ρ h (.row i 0 (n+es2.length) cap) (h.set i (.row (qCg cells (n*sz) (qFf es2)))) :=
 qBg fun G e w hw hr=>by
  have hs':RepA G (ρ s) (e s):=hr s (by simp [ho,Op.operands,Call.operands])
  have hx':RepA G (ρ x) (e x):=hr x (by simp [ho,Op.operands,Call.operands])
  obtain ⟨et,ie,h1,h2,rfl,rfl,hzl⟩:=appT_ok hT ht
  obtain ⟨d2,h3,h4⟩:=srcT_ok hT ht2
  obtain ⟨hlen2,news,n1,n2,n3,n4⟩:=asNew_src (P:=P) hw.imm hx' hx
  rw [hs] at hs'
  obtain ⟨b,hv,hl⟩:=hs'.row_inv
  obtain ⟨b',hl',hown,hrow,himm⟩:=hw.obj i _ hi
  rw [hl] at hl';cases hl'
  have hfl:=flatAV_length hlen2
  rw [Nat.add_mul] at hc1
  obtain ⟨w',q1,q2,q3,q4,q5,q6,q7⟩:=qEr (P:=P) news (qFf es2) cells (n*ie.size) 0 w hrow (by rw [n2];omega) (by rw [n2,hfl]) (qXy hlen2 n4)
  have hrun:=qCu (ty:=o.type) h1 h3 h4 h2 (w':=w') (a:=some ⟨b,0,none⟩) (n:=n) (cap:=cap) n1 hfit (by simp only [qDd,Nat.zero_add];exact q1)
  refine ⟨.slice (some ⟨b,0,none⟩) (n+es2.length) cap,w',G,?_,.refl G,hw.setObj hi hl (by simpa using q2) q3 q4 q5 q6 q7,.row _ _ _ hl⟩
  unfold execOp
  simp [ho,resolve,invoke,builtin,hv,hrun]
end
end Tdoc
