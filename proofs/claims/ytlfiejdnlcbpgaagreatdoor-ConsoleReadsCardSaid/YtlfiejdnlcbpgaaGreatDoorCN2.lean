/- Part 2 of the proof: the texts A6 A7 A8 A9 B1. -/
import Derived.Test.YtlfiejdnlcbpgaaGreatDoorCN1
set_option linter.unusedSimpArgs false
set_option linter.unusedVariables false
namespace Tdoc
open Go
def CellsRep (G:Gh) (cells:List AV) (vs:Array Value):Prop :=
 vs.size=cells.length∧∀ (j:Nat) (c:AV) (u:Value),cells[j]?=some c→vs[j]?=some u→RepA G c u∧qHy u=true
theorem qVv {G:Gh} (off:Nat):∀ (new:List AV) (us:List Value) (k:Nat) (cells:List AV) (vs:Array Value),CellsRep G cells vs→us.length=new.length →
  (∀ (j:Nat) (c:AV) (u:Value),new[j]?=some c→us[j]?=some u→RepA G c u∧qHy u=true) →
  CellsRep G (qCw cells (off+k) new) ((us.zipIdx k).foldl (fun cs x=>cs.setIfInBounds (off+x.2) x.1) vs)
 | [],us,k,cells,vs,hr,hl,hv=>by
  have:us=[]:=by simpa using hl
  subst this;simpa [qCw] using hr
 | c::new,[],k,cells,vs,hr,hl,hv=>by simp at hl
 | c::new,u::us,k,cells,vs,hr,hl,hv=>by
  simp only [List.zipIdx_cons,List.foldl_cons,qCw]
  have h0:=hv 0 c u (by simp) (by simp)
  have:=qVv off new us (k+1) (cells.set (off+k) c) (vs.setIfInBounds (off+k) u) ⟨by simp [hr.1],fun j d y hd hy=>by
   rw [List.getElem?_set] at hd
   rw [Array.getElem?_setIfInBounds] at hy
   split at hd
   ·rename_i e;subst e
    split at hd
    ·cases hd
     simp only [if_true] at hy
     split at hy
     ·cases hy;exact h0
     ·cases hy
    ·cases hd
   ·rename_i e
    rw [if_neg e] at hy
    exact hr.2 j d y hd hy⟩ (by simpa using hl) (fun j d y hd hy=>hv (j+1) d y (by simpa using hd) (by simpa using hy))
  simpa [Nat.add_assoc] using this
def qNw (place:Nat→Option (Nat×Nat)) (cells:List AV):List (Nat×AV)→Option (List AV)
 | []=>some cells
 | (i,v)::rest=>match place i with
  | none=>none
  | some (off,size)=>match cellsA v with
   | none=>none
   | some cs=>match Nat.beq cs.length size&&Nat.ble (off+size) cells.length with
    | true=>qNw place (qCw cells off cs) rest
    | false=>none
theorem fillA_ok {G:Gh} {place:Nat→Option (Nat×Nat)} {ρ:Operand→AV} {e:Operand→Value}:∀ (parts:List (Nat×Operand)) (cells cells':List AV) (vs:Array Value),CellsRep G cells vs →
  (∀ x,x∈parts→RepA G (ρ x.2) (e x.2))→qNw place cells (parts.map fun x=>(x.1,ρ x.2))=some cells' →
  ∃ vs',Instr.fill place vs (parts.map fun x=>(x.1,e x.2))=some vs'∧CellsRep G cells' vs'
 | [],cells,cells',vs,hr,hp,h=>by simp [qNw] at h;subst h;exact ⟨vs,by simp [Instr.fill],hr⟩
 | (i,x)::parts,cells,cells',vs,hr,hp,h=>by
  simp only [List.map_cons,qNw] at h
  split at h
  ·cases h
  ·rename_i off size hpl
   split at h
   ·cases h
   ·rename_i cs hcs
    split at h
    ·rename_i hb
     simp only [Bool.and_eq_true] at hb
     have hlen:=Nat.eq_of_beq_eq_true hb.1
     have hle:=Nat.le_of_ble_eq_true hb.2
     obtain ⟨c1,c2⟩:=cellsA_ok (hp (i,x) (by simp)) hcs
     have hnew:=qVv (G:=G) off cs (e x).cells.toList 0 cells vs hr (by simp [c1]) (fun j d u hd hu=>c2 j d u hd (by simpa using hu))
     obtain ⟨vs',h1,h2⟩:=fillA_ok parts _ _ _ hnew (fun y hy=>hp y (by simp [hy])) h
     refine ⟨vs',?_,h2⟩
     simp only [List.map_cons,Instr.fill,hpl]
     have hn:¬ ((e x).cells.size≠size∨off+(e x).cells.size > vs.size):=by
      rw [c1,hlen,hr.1];omega
     have hb2:((decide ((e x).cells.size≠size)||decide (off+(e x).cells.size > vs.size))=true)↔((e x).cells.size≠size∨off+(e x).cells.size > vs.size):=by simp
     rw [if_neg (by rw [hb2];exact hn)]
     rw [← Array.foldl_toList,Array.toList_zipIdx]
     simpa using h1
    ·cases h
def qQj (T:Tr) (t:Nat) (parts:List (Nat×AV)):Option AV:=match T.find t with
 | some i=>match i.kind with
  | .struct fs=>match qNw (fun k=>(fs[k]?).map fun (x:Nat×Nat×Bool)=>(x.1,x.2.1)) i.zero parts with
   | some cs=>some (.agg cs)
   | none=>none
  | .array _ el=>match T.find el with
   | some ie=>match qNw (fun k=>some (k*ie.size,ie.size)) i.zero parts with
    | some cs=>some (.agg cs)
    | none=>none
   | none=>none
  | _=>none
 | none=>none
section
variable {P:Program} {E:Env} {T:Tr} {o:Oper} {ρ:Operand→AV} {h h':List AObj} {v:AV}
theorem qPk:∀ {fields:List Field} {fs:List (Nat×Nat×Bool)},fieldsOf P fields fs=true →
  fields.mapM (fun f=>(P.info? f.type).map fun i=>(f.offset,i.size))=some (fs.map fun (x:Nat×Nat×Bool)=>(x.1,x.2.1))
 | [],[],_=>by simp
 | f::r,(off,s,g)::l,h=>by
  simp only [fieldsOf,Bool.and_eq_true] at h
  obtain ⟨⟨⟨h1,h2⟩,h3⟩,h4⟩:=h
  have ih:=qPk h4
  have h1:=Nat.eq_of_beq_eq_true h1
  cases hi:P.info? f.type with
  | none=>simp [hi] at h2
  | some i =>
   simp only [hi] at h2
   have h2:=Nat.eq_of_beq_eq_true h2
   simp [List.mapM_cons,hi,ih,h1,h2]
 | [],_::_,h=>by simp [fieldsOf] at h
 | _::_,[],h=>by simp [fieldsOf] at h
theorem qOc (hT:TOk P T) {t:Nat} {parts:Array (Nat×Operand)} (ho:o.op=.build t parts) (h:qQj T t (parts.toList.map fun x=>(x.1,ρ x.2))=some v):OpP P o ρ v:=by
 intro G e w hi hr
 have hp:∀ x,x∈parts.toList→RepA G (ρ x.2) (e x.2):=fun x hx=>hr x.2 (by
  simp only [ho,Op.operands]
  exact List.mem_map_of_mem hx)
 unfold qQj at h
 split at h
 ·rename_i i hf
  have hti:=hT.at hf
  obtain ⟨info,hinfo,hsz,hby,z,hz,hzc⟩:=hti.info
  obtain ⟨d,hd,hkd⟩:=hti.und
  obtain ⟨zl,zr⟩:=zrepL_ok hzc
  have hrep:CellsRep G i.zero z.cells:=⟨by simp [zl],fun j c u hc hu=>zr G j c u hc (by simpa using hu)⟩
  split at h
  ·rename_i fs hk
   rw [hk] at hkd
   cases d <;> simp [qCx] at hkd
   rename_i fields
   split at h
   ·rename_i cs hfill
    cases h
    obtain ⟨vs',h1,h2⟩:=fillA_ok (e:=e) parts.toList _ _ _ hrep hp hfill
    refine ⟨.agg vs',?_,.agg vs' h2.1 (fun j x u hx hu=>(h2.2 j x u hx hu).1) (fun j u hu=>?_)⟩
    ·unfold execOp
     simp only [ho,Sem.run_bind]
     rw [run_build w t (parts.map fun x=>(x.1,e x.2)) vs' ?_]
     ·rfl
     ·simp only [Program.built,hinfo,hd,hz,qPk hkd]
      have:(fun k:Nat=>(List.map (fun x:Nat×Nat×Bool=>(x.1,x.2.1)) fs).toArray[k]?)=fun k=>(fs[k]?).map fun (x:Nat×Nat×Bool)=>(x.1,x.2.1):=by funext k;simp
      simp only [this,Array.toList_map]
      exact h1
    ·have hj:j < cs.length:=by rw [← h2.1];exact (Array.getElem?_eq_some_iff.1 hu).1
     exact (h2.2 j cs[j] u (by simp [hj]) hu).2
   ·cases h
  ·rename_i n el hk
   rw [hk] at hkd
   cases d <;> simp [qCx] at hkd
   obtain ⟨rfl,rfl⟩:=hkd
   split at h
   ·rename_i ie hfe
    obtain ⟨einfo,heinfo,hesz,_⟩:=(hT.at hfe).info
    split at h
    ·rename_i cs hfill
     cases h
     obtain ⟨vs',h1,h2⟩:=fillA_ok (e:=e) parts.toList _ _ _ hrep hp hfill
     refine ⟨.agg vs',?_,.agg vs' h2.1 (fun j x u hx hu=>(h2.2 j x u hx hu).1) (fun j u hu=>?_)⟩
     ·unfold execOp
      simp only [ho,Sem.run_bind]
      rw [run_build w t (parts.map fun x=>(x.1,e x.2)) vs' ?_]
      ·rfl
      ·simp only [Program.built,hinfo,hd,hz,heinfo,hesz,Array.toList_map]
       exact h1
     ·have hj:j < cs.length:=by rw [← h2.1];exact (Array.getElem?_eq_some_iff.1 hu).1
      exact (h2.2 j cs[j] u (by simp [hj]) hu).2
    ·cases h
   ·cases h
  ·cases h
 ·cases h
def qPl:List AV→Option (List Dat)
 | []=>some []
 | x::l=>match qPa x with
  | some d=>match qPl l with
   | some r=>some (d::r)
   | none=>none
  | none=>none
theorem mapDat_at:∀ {cs:List AV} {ds:List Dat},qPl cs=some ds→ds.length=cs.length∧∀ (j:Nat) (d:Dat),ds[j]?=some d→∃ c,cs[j]?=some c∧qPa c=some d
 | [],ds,h=>by simp [qPl] at h;subst h;exact ⟨rfl,fun j d h=>by simp at h⟩
 | x::l,ds,h=>by
  unfold qPl at h
  split at h
  ·rename_i d hd
   split at h
   ·rename_i r hr
    cases h
    obtain ⟨h1,h2⟩:=mapDat_at hr
    refine ⟨by simp [h1],fun j y hy=>?_⟩
    cases j with
    | zero=>simp at hy;subst hy;exact ⟨x,by simp,hd⟩
    | succ j=>simp at hy;obtain ⟨c,hc,hc2⟩:=h2 j y hy;exact ⟨c,by simpa using hc,hc2⟩
   ·cases h
  ·cases h
def qJk (sz:Nat):Nat→List (Nat×AV)→Option (List (List Dat))
 | _,[]=>some []
 | k,(i,x)::r=>match Nat.beq i k with
  | true=>match cellsA x with
   | some cs=>match Nat.beq cs.length sz with
    | true=>match qPl cs with
     | some ds=>match qJk sz (k+1) r with
      | some l=>some (ds::l)
      | none=>none
     | none=>none
    | false=>none
   | none=>none
  | false=>none
theorem denseA_len {sz:Nat}:∀ {parts:List (Nat×AV)} {k:Nat} {es:List (List Dat)},qJk sz k parts=some es→es.length=parts.length∧∀ e,e∈es→e.length=sz
 | [],k,es,h=>by simp [qJk] at h;subst h;exact ⟨rfl,fun e he=>by cases he⟩
 | (i,x)::r,k,es,h=>by
  unfold qJk at h
  split at h
  ·split at h
   ·rename_i cs hcs
    split at h
    ·rename_i hb
     split at h
     ·rename_i ds hds
      split at h
      ·rename_i l hl
       cases h
       obtain ⟨h1,h2⟩:=denseA_len hl
       refine ⟨by simp [h1],fun e he=>?_⟩
       cases he with
       | head=>rw [(mapDat_at hds).1];exact Nat.eq_of_beq_eq_true hb
       | tail _ he=>exact h2 e he
      ·cases h
     ·cases h
    ·cases h
   ·cases h
  ·cases h
theorem setRun_at:∀ (new cs:List AV) (off j:Nat),off+new.length≤cs.length→(qCw cs off new)[j]?=if off≤j∧j < off+new.length then new[j-off]? else cs[j]?
 | [],cs,off,j,_=>by simp [qCw];intro h1 h2;omega
 | c::r,cs,off,j,h=>by
  simp only [List.length_cons] at h
  rw [qCw,setRun_at r _ _ j (by simp;omega)]
  simp only [List.length_cons,List.getElem?_set]
  by_cases h1:off+1≤j∧j < off+1+r.length
  ·rw [if_pos h1,if_pos (by omega)]
   rw [show j-off=(j-(off+1))+1 by omega];simp
  ·rw [if_neg h1]
   by_cases h2:off=j
   ·subst h2
    rw [if_pos rfl,if_pos (by omega),if_pos (by omega)];simp
   ·rw [if_neg h2,if_neg (by omega)]
theorem qNa {sz:Nat}:∀ (parts:List (Nat×AV)) (k:Nat) (cells:List AV) (es:List (List Dat)),qJk sz k parts=some es→(k+parts.length)*sz≤cells.length →
  ∃ cells',qNw (fun i=>some (i*sz,sz)) cells parts=some cells'∧(∀ j,j < k*sz→cells'[j]?=cells[j]?) ∧
   ∀ (i:Nat) (e:List Dat) (j:Nat) (d:Dat),es[i]?=some e→e[j]?=some d→∃ c,cells'[(k+i)*sz+j]?=some c∧qPa c=some d
 | [],k,cells,es,h,hl=>by simp [qJk] at h;subst h;exact ⟨cells,rfl,fun _ _=>rfl,fun i e j d h=>by simp at h⟩
 | (i0,x)::r,k,cells,es,h,hl=>by
  simp only [List.length_cons] at hl
  unfold qJk at h
  split at h
  ·rename_i hik
   obtain rfl:=Nat.eq_of_beq_eq_true hik
   split at h
   ·rename_i cs hcs
    split at h
    ·rename_i hb
     have hcl:=Nat.eq_of_beq_eq_true hb
     split at h
     ·rename_i ds hds
      split at h
      ·rename_i l hl2
       cases h
       have e1:(i0+1)*sz=i0*sz+sz:=by rw [Nat.add_mul,Nat.one_mul]
       have e2:(i0+(r.length+1))*sz=(i0+1+r.length)*sz:=by congr 1;omega
       have e3:(i0+1)*sz≤(i0+1+r.length)*sz:=Nat.mul_le_mul_right _ (by omega)
       have hfit:i0*sz+cs.length≤cells.length:=by omega
       obtain ⟨cells',h1,h2,h3⟩:=qNa r (i0+1) (qCw cells (i0*sz) cs) l hl2 (by rw [setRun_length];omega)
       refine ⟨cells',?_,fun j hj=>?_,fun i e j d he hd=>?_⟩
       ·simp only [qNw,hcs]
        have:(Nat.beq cs.length sz&&Nat.ble (i0*sz+sz) cells.length)=true:=by
         simp only [Bool.and_eq_true];exact ⟨hb,by rw [Nat.ble_eq];omega⟩
        rw [this];exact h1
       ·rw [h2 j (by omega),setRun_at _ _ _ _ hfit,if_neg (by omega)]
       ·cases i with
        | zero =>
         simp only [List.getElem?_cons_zero,Option.some.injEq] at he
         subst he
         obtain ⟨m1,m2⟩:=mapDat_at hds
         have hj:j < sz:=by have:=(List.getElem?_eq_some_iff.1 hd).1;omega
         obtain ⟨c,hc,hcd⟩:=m2 j d hd
         refine ⟨c,?_,hcd⟩
         rw [Nat.add_zero,h2 _ (by omega),setRun_at _ _ _ _ hfit,if_pos (by omega)]
         rw [show i0*sz+j-i0*sz=j by omega];exact hc
        | succ i =>
         simp only [List.getElem?_cons_succ] at he
         obtain ⟨c,hc,hcd⟩:=h3 i e j d he hd
         exact ⟨c,by rw [show i0+(i+1)=i0+1+i by omega];exact hc,hcd⟩
      ·cases h
     ·cases h
    ·cases h
   ·cases h
  ·cases h
def qKk (T:Tr) (t len:Nat) (parts:List (Nat×AV)):Option AV:=match T.find t with
 | some i=>match i.kind with
  | .slice el=>match T.find el with
   | some ie=>match qJk ie.size 0 parts with
    | some es=>match Nat.beq es.length len&&Nat.ble (len*ie.size) 16777216&&Nat.beq ie.zero.length ie.size with
     | true=>some (.sl ie.size es .full)
     | false=>none
    | none=>none
   | none=>none
  | _=>none
 | none=>none
theorem newImm_rep {G:Gh} {b n sz:Nat} {cs:Array Value} {es:List (List Dat)} (he:∀ e,e∈es→e.length=sz) (hn:es.length*sz≤n) (cap:Nat) (hcap:es.length≤cap)
  (hc:∀ (i:Nat) (e:List Dat) (j:Nat) (d:Dat),es[i]?=some e→e[j]?=some d→∃ u,cs[i*sz+j]?=some u∧RepD (qLh G b n cs).imm d u) :
  RepD (qLh G b n cs).imm (.sl sz es) (.slice (some ⟨b,0,none⟩) es.length cap):=by
 refine .sl sz es _ cap (fun k=>cs.getD k undef) (fun _=>rfl) hcap he (fun i e j d h1 h2=>?_) (fun i e j d h1 h2=>?_)
 ·obtain ⟨u,hu,_⟩:=hc i e j d h1 h2
  have hj:j < sz:=by rw [← he e (List.mem_of_getElem? h1)];exact (List.getElem?_eq_some_iff.1 h2).1
  have hi:i < es.length:=(List.getElem?_eq_some_iff.1 h1).1
  have hlt:i*sz+j < n:=by
   have:(i+1)*sz≤es.length*sz:=Nat.mul_le_mul_right _ hi
   rw [Nat.add_mul,Nat.one_mul] at this;omega
  rw [qCr]
  show (if b=b then (if (none:Option Nat)=none∧0+(i*sz+j) < n then cs[0+(i*sz+j)]? else none) else _)=_
  simp [hlt,hu]
 ·obtain ⟨u,hu,hr⟩:=hc i e j d h1 h2
  simp only [Array.getD_eq_getD_getElem?,hu,Option.getD_some];exact hr
theorem buildSl_run (hT:TOk P T) {t len:Nat} {parts:Array (Nat×Operand)} (ho:o.op=.buildSlice t len parts) (hv:qKk T t len (parts.toList.map fun x=>(x.1,ρ x.2))=some v)
  (G:Gh) (e:Operand→Value) (w:World) (hw:WRel E G h w) (hr:∀ x,x∈o.op.operands.toList→RepA G (ρ x) (e x)) :
  ∃ el vs' G',P.underlying t=some (.slice el)∧G'.own=G.own∧(execOp e o).run P w=.ok (.value (.slice (some ⟨w.heap.size,0,none⟩) len len)) (w.alloc (.cells vs' el))∧G.le G'∧WRel E G' h (w.alloc (.cells vs' el))∧RepA G' v (.slice (some ⟨w.heap.size,0,none⟩) len len):=by
  have hp:∀ x,x∈parts.toList→RepA G (ρ x.2) (e x.2):=fun x hx=>hr x.2 (by
   simp only [ho,Op.operands]
   exact List.mem_map_of_mem hx)
  unfold qKk at hv
  split at hv
  ·rename_i i hf
   split at hv
   ·rename_i el hk
    obtain ⟨d,hd,hkd⟩:=(hT.at hf).und
    rw [hk] at hkd
    cases d <;> simp [qCx] at hkd
    subst hkd
    split at hv
    ·rename_i ie hfe
     obtain ⟨einfo,heinfo,hesz,heb,z,hz,hzc⟩:=(hT.at hfe).info
     split at hv
     ·rename_i es hes
      split at hv
      ·rename_i hb
       simp only [Bool.and_eq_true] at hb
       have hlen:=Nat.eq_of_beq_eq_true hb.1.1
       have hsmall:=Nat.le_of_ble_eq_true hb.1.2
       have hzlen:=Nat.eq_of_beq_eq_true hb.2
       cases hv
       obtain ⟨zl,zr⟩:=zrepL_ok hzc
       simp only [Array.length_toList] at zl
       obtain ⟨d1,d2⟩:=denseA_len hes
       have hplen:parts.toList.length=len:=by rw [← hlen,d1];simp
       let base:List AV:=(List.range (len*ie.size)).map fun k=>(ie.zero[k % ie.size]?).getD .any
       let basev:Array Value:=(Array.range (len*ie.size)).map (z.cells[· % z.cells.size]!)
       obtain ⟨cells',f1,_,f3⟩:=qNa (sz:=ie.size) (parts.toList.map fun x=>(x.1,ρ x.2)) 0 base es hes (by simp [base];rw [← hplen];simp)
       have hzero:len*ie.size=0∨0 < ie.size:=by
        rcases Nat.eq_zero_or_pos ie.size with h0 | h0
        ·left;simp [h0]
        ·right;exact h0
       have hbase:CellsRep G base basev:=by
        refine ⟨by simp [base,basev],fun j c u hc hu=>?_⟩
        have hj:j < len*ie.size:=by have:=(List.getElem?_eq_some_iff.1 hc).1;simpa [base] using this
        have hpos:0 < ie.size:=by rcases hzero with h0 | h0;(· omega);exact h0
        have hm:j % ie.size < ie.size:=Nat.mod_lt _ hpos
        have hm2:j % ie.size < z.cells.size:=by omega
        simp [base,hj] at hc
        simp [basev,hj] at hu
        subst hc;subst hu
        rw [← zl,hzlen]
        have h1:ie.zero[j % ie.size]?=some ie.zero[j % ie.size]:=by simp [hzlen,hm]
        rw [h1]
        simp only [Option.getD_some]
        have h2:z.cells[j % ie.size]! = z.cells[j % ie.size]:=by simp [hm2]
        rw [h2]
        exact zr G _ _ _ h1 (by simp [hm2])
       obtain ⟨vs',v1,v2⟩:=fillA_ok (e:=e) parts.toList _ _ _ hbase hp f1
       have hle:=immExt_le hw (es.length*ie.size) vs'
       have hnew:=hw.newImm (es.length*ie.size) vs' el (w.alloc (.cells vs' el)) rfl rfl rfl rfl
       refine ⟨el,vs',qLh G w.heap.size (es.length*ie.size) vs',hd,rfl,?_,hle,hnew,.sl ?_ ?_⟩
       ·unfold execOp
        by_cases h0:len*ie.size=0
        ·have hr0:Array.range 0 = #[]:=rfl
         have hb0:basev = #[]:=by simp [basev,h0,hr0]
         rw [hb0] at v1
         simp [ho,Instr.buildSlice,run_underlying hd,Go.sizeOf,typeInfo,heinfo,hesz,h0,hr0,v1,newRow]
        ·simp only [ho,Sem.run_bind]
         rw [run_buildSlice w t el len _ vs' einfo z hd heinfo hz (by rw [hesz];omega) (by rw [hesz];exact h0) (by rw [hesz];simpa using v1)]
         rfl
       ·rw [← hlen]
        refine newImm_rep d2 (Nat.le_refl _) _ (Nat.le_refl _) (fun i e' j d h1 h2=>?_)
        obtain ⟨c,hc,hcd⟩:=f3 i e' j d h1 h2
        rw [Nat.zero_add] at hc
        have hlt:i*ie.size+j < vs'.size:=by rw [v2.1];exact (List.getElem?_eq_some_iff.1 hc).1
        have hu:vs'[i*ie.size+j]?=some vs'[i*ie.size+j]:=by simp [hlt]
        exact ⟨_,hu,(toDat_ok (v2.2 _ _ _ hc hu).1 hcd).mono hle.imm⟩
       ·exact ⟨some ⟨w.heap.size,0,none⟩,by rw [hlen],fun p hp=>by cases hp;rfl⟩
      ·cases hv
     ·cases hv
    ·cases hv
   ·cases hv
  ·cases hv
theorem buildSl_ok (hT:TOk P T) {t len:Nat} {parts:Array (Nat×Operand)} (ho:o.op=.buildSlice t len parts) (hv:qKk T t len (parts.toList.map fun x=>(x.1,ρ x.2))=some v):OpS P E o ρ h v h :=
 qBv fun G e w hw hr=>by
  obtain ⟨el,vs',G',_,_,h1,h2,h3,h4⟩:=buildSl_run hT ho hv G e w hw hr
  exact ⟨_,_,G',h1,h2,h3,h4⟩
end
section
variable {P:Program} {E:Env} {T:Tr} {o:Oper} {ρ:Operand→AV} {h h':List AObj} {v:AV}
def Src (P:Program) (w:World) (xv:Value) (m sz:Nat) (news:List Value):Prop :=
 ∀ w':World,w'.heap=w.heap→(Builtin.lenOf xv).run P w'=.ok m w'∧(Builtin.firstCells sz m xv).run P w'=.ok news.toArray w'
theorem cell?_heap {w w':World} (h:w'.heap=w.heap) (a:Addr):w'.cell? a=w.cell? a:=by simp [World.cell?,h]
theorem qEx {G:Gh} {w:World} {sz:Nat} {es:List (List Dat)} {xv:Value} (hi:∀ a x,G.imm a=some x→w.cell? a=some x) (hr:RepD G.imm (.sl sz es) xv) :
  ∃ news,Src P w xv es.length sz news∧news.length=es.length*sz∧(∀ (k:Nat) (u:Value),news[k]?=some u→qHy u=true) ∧
   ∀ (i:Nat) (e:List Dat) (j:Nat) (d:Dat),es[i]?=some e→e[j]?=some d→∃ u,news[i*sz+j]?=some u∧RepD G.imm d u:=by
 cases hr with
 | nil=>exact ⟨[],fun w' hw'=>⟨rfl,by simp [Builtin.firstCells]⟩,by simp,fun k u h=>by simp at h,fun i e j d h=>by simp at h⟩
 | sl _ _ a cap vs h1 h2 h3 h4 h5 =>
  have at_:∀ k,k < es.length*sz→∃ i e j d,es[i]?=some e∧e[j]?=some d∧k=i*sz+j:=by
   intro k hk
   have hs:0 < sz:=by rcases Nat.eq_zero_or_pos sz with h0 | h0;(· subst h0;simp at hk);exact h0
   have hil:k / sz < es.length:=Nat.div_lt_of_lt_mul (by rw [Nat.mul_comm];exact hk)
   have he:es[k / sz]?=some es[k / sz]:=by simp [hil]
   have hel:=h3 _ (List.mem_of_getElem? he)
   have hjl:k % sz < es[k / sz].length:=by rw [hel];exact Nat.mod_lt _ hs
   refine ⟨k / sz,es[k / sz],k % sz,es[k / sz][k % sz],he,by simp [hjl],?_⟩
   rw [Nat.mul_comm];exact (Nat.div_add_mod k sz).symm
  have hlt:∀ (i:Nat) (e:List Dat) (j:Nat) (d:Dat),es[i]?=some e→e[j]?=some d→i*sz+j < es.length*sz:=by
   intro i e j d he hd
   have hj:j < sz:=by rw [← h3 e (List.mem_of_getElem? he)];exact (List.getElem?_eq_some_iff.1 hd).1
   have hil:i < es.length:=(List.getElem?_eq_some_iff.1 he).1
   have:(i+1)*sz≤es.length*sz:=Nat.mul_le_mul_right _ hil
   rw [Nat.add_mul,Nat.one_mul] at this;omega
  refine ⟨(List.range (es.length*sz)).map vs,fun w' hw'=>⟨rfl,?_⟩,by simp,fun k u hk=>?_,fun i e j d he hd=>?_⟩
  ·simp only [Builtin.firstCells]
   exact run_loadCells (P:=P) w' a _ vs (fun k hk=>by
    obtain ⟨i,e,j,d,he,hd,rfl⟩:=at_ k hk
    rw [cell?_heap hw'];exact hi _ _ (h4 i e j d he hd))
  ·by_cases hkl:k < es.length*sz
   ·simp [hkl] at hk
    subst hk
    obtain ⟨i,e,j,d,he,hd,rfl⟩:=at_ k hkl
    exact (h5 i e j d he hd).one
   ·simp [hkl] at hk
  ·have hk:=hlt i e j d he hd
   exact ⟨vs (i*sz+j),by simp [hk],h5 i e j d he hd⟩
theorem vBp {w:World} {sz:Nat}:Src P w (.slice none 0 0) 0 sz []:=fun w' _=>⟨rfl,by simp [Builtin.firstCells]⟩
def qLg:TypeDesc→Bool
 | .int _=>true
 | _=>false
theorem qCu {t t2 ty e:TypeId} {ie:TI} {d2:TypeDesc} (ht:P.underlying t=some (.slice e)) (h2:P.underlying t2=some d2) (hd2:qLg d2=false)
  (hie:TypeAt P e ie) {w w':World} {xv:Value} {a:Option Addr} {n cap m:Nat} {news:List Value} (hsrc:Src P w xv m ie.size news) (hfit:n+m≤cap)
  (hst:match (generalizing:=false) a with | some p=>(storeCells (p.add (n*ie.size)) news).run P w=.ok () w' | none=>w'=w) :
  (Builtin.append_ #[t,t2] ty #[.slice a n cap,xv]).run P w=.ok (.slice a (n+m) cap) w':=by
 have hl:=(hsrc w rfl).1
 have hc:=(hsrc w rfl).2
 unfold Builtin.append_
 simp only [List.getElem?_toArray,List.getElem?_cons_zero,List.getElem?_cons_succ,Sem.run_bind,run_underlying ht,Result.andThen_ok,hie.run_size,run_underlying h2]
 cases d2 <;> simp [qLg] at hd2 <;> simp only [Sem.run_bind,Sem.run_pure,Result.andThen_ok,Bool.false_eq_true,if_false,hl,hfit,if_true,Bool.not_false,hc]
 all_goals
  cases a with
  | none=>simp at hst;subst hst;simp
  | some p=>simp at hst;simp [hst]
theorem qEt {t t2 ty e:TypeId} {ie:TI} {d2:TypeDesc} (ht:P.underlying t=some (.slice e)) (h2:P.underlying t2=some d2) (hd2:qLg d2=false)
  (hie:TypeAt P e ie) {w:World} {sv xv:Value} {a:Option Addr} {n cap m:Nat} {olds news:List Value} (hsv:sv=.slice a n cap) (hold:Src P w sv n ie.size olds) (hsrc:Src P w xv m ie.size news) (hfit:cap < n+m)
  (hb:(n+m)*(ie.bytes+1)≤140737488355328) :
  ∃ newCap rest w',n+m≤newCap∧(Builtin.append_ #[t,t2] ty #[sv,xv]).run P w=.ok (.slice (some ⟨w.heap.size,0,none⟩) (n+m) newCap) w'∧w'.heap=w.heap.push (.cells (olds.toArray++news.toArray++rest) e) ∧
   rest.size=(newCap-(n+m))*ie.zero.length∧w'.os=w.os∧w'.tape=w.tape∧w'.output=w.output:=by
 subst hsv
 have hl:=(hsrc w rfl).1
 have hc:=(hsrc w.drew rfl).2
 have ho:=(hold w.drew rfl).2
 obtain ⟨info,hinfo,hisz,hib,z,hz,hzc⟩:=hie.info
 have hzl:z.cells.size=ie.zero.length:=by have:=(zrepL_ok hzc).1;simpa using this.symm
 have hb1:(n+m)*ie.bytes≤140737488355328:=Nat.le_trans (Nat.mul_le_mul_left _ (by omega)) hb
 have hb2:n+m≤140737488355328:=Nat.le_trans (by rw [Nat.mul_add];omega) hb
 have h48:¬ (Builtin.nextslicecap (n+m) cap*info.bytes > 2 ^ 48):=by
  have:=growslice_fits (bytes:=ie.bytes) hfit hb1
  rw [hib];omega
 have h63:¬ (((n+m:Nat):Int) > IntKind.i64.max):=by simp [IntKind.max,IntKind.signed,IntKind.bits];omega
 have hnle:¬ (n+m≤cap):=by omega
 have hcap:n+m≤(Question.appendCap (n+m) cap e).cut (w.tape w.drawn (.appendCap (n+m) cap e)):=by simp [Question.cut]
 refine ⟨(Question.appendCap (n+m) cap e).cut (w.tape w.drawn (.appendCap (n+m) cap e)),Builtin.zeroCells z.cells ((Question.appendCap (n+m) cap e).cut (w.tape w.drawn (.appendCap (n+m) cap e))-(n+m)),
  w.drew.alloc (.cells (olds.toArray++news.toArray++Builtin.zeroCells z.cells ((Question.appendCap (n+m) cap e).cut (w.tape w.drawn (.appendCap (n+m) cap e))-(n+m))) e),hcap,?_,rfl,?_,rfl,rfl,rfl⟩
 ·have hq:(Question.appendCap (n+m) cap e).forced=false:=rfl
  unfold Builtin.append_
  simp only [List.getElem?_toArray,List.getElem?_cons_zero,List.getElem?_cons_succ,Sem.run_bind,run_underlying ht,Result.andThen_ok,hie.run_size,run_underlying h2]
  cases d2 <;> simp [qLg] at hd2 <;> simp only [Sem.run_bind,Sem.run_pure,Result.andThen_ok,Bool.false_eq_true,if_false,hl,hnle,Bool.not_false,hc,Sem.run_ite,h63,false_and,if_false,typeInfo,run_program,hinfo,h48,run_choose,hq,World.drew_eq,run_askRoom,ho,zeroValue,hz,newRow,run_newObj,World.alloc_eq,Bool.not_true,if_true]
  all_goals rfl
 ·simp only [Builtin.zeroCells,Array.size_map,Array.size_range,hzl]
def qYk (T:Tr) (t:Nat):Bool:=match T.find t with
 | some i=>match i.kind with
  | .slice _=>true
  | .str=>true
  | _=>false
 | none=>false
theorem srcT_ok (hT:TOk P T) {t:Nat} (h:qYk T t=true):∃ d,P.underlying t=some d∧qLg d=false:=by
 unfold qYk at h
 split at h
 ·rename_i i hf
  obtain ⟨d,hd,hk⟩:=(hT.at hf).und
  refine ⟨d,hd,?_⟩
  split at h
  ·rename_i e he;rw [he] at hk;cases d <;> simp_all [qCx,qLg]
  ·rename_i he;rw [he] at hk;cases d <;> simp_all [qCx,qLg]
  ·cases h
 ·cases h
def vAg (T:Tr) (t:Nat):Option (Nat×Nat):=match T.find t with
 | some i=>match i.kind with
  | .slice e=>match T.find e with
   | some ie=>match Nat.beq ie.zero.length ie.size with
    | true=>some (ie.size,ie.bytes)
    | false=>none
   | none=>none
  | _=>none
 | none=>none
theorem appT_ok (hT:TOk P T) {t sz by_:Nat} (h:vAg T t=some (sz,by_)):∃ e ie,P.underlying t=some (.slice e)∧TypeAt P e ie∧ie.size=sz∧ie.bytes=by_∧ie.zero.length=ie.size:=by
 unfold vAg at h
 split at h
 ·rename_i i hf
  split at h
  ·rename_i e hk
   split at h
   ·rename_i ie hfe
    split at h
    case h_2=>cases h
    rename_i hzb
    cases h
    obtain ⟨d,hd,hkd⟩:=(hT.at hf).und
    rw [hk] at hkd
    cases d <;> simp [qCx] at hkd
    subst hkd
    exact ⟨e,ie,hd,hT.at hfe,rfl,rfl,Nat.eq_of_beq_eq_true hzb⟩
   ·cases h
  ·cases h
 ·cases h
def qKb (sz:Nat) (x:AV):Option (List (List Dat)):=match x with
 | .nils=>some []
 | .d (.str s)=>match Nat.beq sz 1 with
  | true=>some (s.map fun b=>[.int .u8 (b.toNat:Int)])
  | false=>none
 | x=>match vDc x with
  | some (sz',es)=>match Nat.beq sz' sz with
   | true=>some es
   | false=>none
  | none=>none
theorem asNew_src {G:Gh} {w:World} {sz:Nat} {x:AV} {xv:Value} {es:List (List Dat)} (hi:∀ a x,G.imm a=some x→w.cell? a=some x) (hr:RepA G x xv) (h:qKb sz x=some es) :
  (∀ e,e∈es→e.length=sz)∧∃ news,Src P w xv es.length sz news∧news.length=es.length*sz∧(∀ (k:Nat) (u:Value),news[k]?=some u→qHy u=true) ∧
   ∀ (i:Nat) (e:List Dat) (j:Nat) (d:Dat),es[i]?=some e→e[j]?=some d→∃ u,news[i*sz+j]?=some u∧RepD G.imm d u:=by
 unfold qKb at h
 split at h
 ·cases h
  generalize xv=u at hr
  cases hr
  exact ⟨fun e he=>(by cases he),[],vBp,by simp,fun k u h=>(by simp at h),fun i e j d h=>(by simp at h)⟩
 ·rename_i s
  split at h
  ·rename_i hb
   obtain rfl:=Nat.eq_of_beq_eq_true hb
   cases h
   rw [hr.str_inv]
   refine ⟨fun e he=>?_,s.map (fun b=>.int .u8 (b.toNat:Int)),fun w' hw'=>⟨?_,?_⟩,by simp,fun k u hk=>?_,fun i e j d he hd=>?_⟩
   ·obtain ⟨b,_,rfl⟩:=List.mem_map.1 he;rfl
   ·simp [Builtin.lenOf,qFq]
   ·simp only [Builtin.firstCells,List.length_map]
    have:(⟨s.toArray⟩:ByteArray).extract 0 s.length=⟨s.toArray⟩:=by
     apply ByteArray.ext;simp [ByteArray.data_extract]
    rw [this]
    simp
   ·simp only [List.getElem?_map,Option.map_eq_some_iff] at hk
    obtain ⟨b,_,rfl⟩:=hk;rfl
   ·simp only [List.getElem?_map,Option.map_eq_some_iff] at he
    obtain ⟨b,hb,rfl⟩:=he
    cases j with
    | zero=>simp at hd;subst hd;exact ⟨.int .u8 b.toNat,by simp [hb],.int _ _⟩
    | succ j=>simp at hd
  ·cases h
 ·split at h
  ·rename_i sz' es' hes
   split at h
   ·rename_i hb
    obtain rfl:=Nat.eq_of_beq_eq_true hb
    cases h
    have hrd:=asEs_ok hr hes
    refine ⟨?_,qEx hi hrd⟩
    obtain ⟨a,cap,_,hn,hp⟩:=hrd.slice_inv
    cases a with
    | none=>rw [(hn rfl).1];exact fun e he=>by cases he
    | some p=>exact (hp p rfl).2.2.1
   ·cases h
  ·cases h
theorem qOz {G:Gh} {es es2:List (List Dat)} {sz:Nat} {olds news:List Value} (ho:olds.length=es.length*sz)
  (h1:∀ (i:Nat) (e:List Dat) (j:Nat) (d:Dat),es[i]?=some e→e[j]?=some d→∃ u,olds[i*sz+j]?=some u∧RepD G.imm d u)
  (h2:∀ (i:Nat) (e:List Dat) (j:Nat) (d:Dat),es2[i]?=some e→e[j]?=some d→∃ u,news[i*sz+j]?=some u∧RepD G.imm d u) :
  ∀ (i:Nat) (e:List Dat) (j:Nat) (d:Dat),(es++es2)[i]?=some e→e[j]?=some d→∃ u,(olds++news)[i*sz+j]?=some u∧RepD G.imm d u:=by
 intro i e j d he hd
 by_cases hi:i < es.length
 ·rw [List.getElem?_append_left hi] at he
  obtain ⟨u,hu,hr⟩:=h1 i e j d he hd
  refine ⟨u,?_,hr⟩
  rw [List.getElem?_append_left (List.getElem?_eq_some_iff.1 hu).1];exact hu
 ·rw [List.getElem?_append_right (by omega)] at he
  obtain ⟨u,hu,hr⟩:=h2 _ e j d he hd
  refine ⟨u,?_,hr⟩
  have hge:es.length*sz≤i*sz:=Nat.mul_le_mul_right _ (by omega)
  rw [List.getElem?_append_right (by omega),ho]
  rw [show i*sz+j-es.length*sz=(i-es.length)*sz+j by rw [Nat.sub_mul];omega]
  exact hu
theorem qCp (hT:TOk P T) {t t2 sz by_:Nat} {s x:Operand} {es es2:List (List Dat)} (ho:o.op=.call { callee:=.builtin .append,args:=#[s,x],argTypes:=#[t,t2] })
  (ht:vAg T t=some (sz,by_)) (ht2:qYk T t2=true) (hs:ρ s=.sl sz es .full∨(ρ s=.nils∧es=[])) (hx:qKb sz (ρ x)=some es2) (hb:(es.length+es2.length)*(by_+1)≤140737488355328) :
  OpS P E o ρ h (.d (.sl sz (es++es2))) h :=
 qBv fun G e w hw hr=>by
  have hs':RepA G (ρ s) (e s):=hr s (by simp [ho,Op.operands,Call.operands])
  have hx':RepA G (ρ x) (e x):=hr x (by simp [ho,Op.operands,Call.operands])
  obtain ⟨et,ie,h1,h2,rfl,rfl,hzl⟩:=appT_ok hT ht
  obtain ⟨d2,h3,h4⟩:=srcT_ok hT ht2
  obtain ⟨hlen2,news,n1,n2,n3,n4⟩:=asNew_src (P:=P) hw.imm hx' hx
  obtain ⟨a,hsv,hrd⟩:∃ a,e s=.slice a es.length es.length∧RepD G.imm (.sl ie.size es) (e s):=by
   rcases hs with hs | ⟨hs,rfl⟩
   ·rw [hs] at hs'
    generalize e s=u at hs'
    cases hs' with
    | sl r k=>obtain ⟨a,rfl,_⟩:=k;exact ⟨a,rfl,r⟩
   ·rw [hs] at hs'
    generalize e s=u at hs'
    cases hs'
    exact ⟨none,rfl,.nil _⟩
  obtain ⟨olds,o1,o2,o3,o4⟩:=qEx (P:=P) hw.imm hrd
  have hex:(execOp e o).run P w=((Builtin.append_ #[t,t2] o.type #[e s,e x]).run P w).andThen fun u w'=>.ok (.value u) w':=by
   unfold execOp
   simp [ho,resolve,invoke,builtin]
  by_cases hz:es2=[]
  ·subst hz
   have hn:news=[]:=by simpa using n2
   subst hn
   have hrun:=qCu (ty:=o.type) h1 h3 h4 h2 (w':=w) (a:=a) (n:=es.length) (cap:=es.length) n1 (by simp) (by cases a <;> simp [storeCells])
   refine ⟨e s,w,G,?_,.refl G,hw,.d (by simpa using hrd)⟩
   rw [hex,hsv,hrun];simp
  ·have hpos:0 < es2.length:=List.length_pos_iff.2 hz
   obtain ⟨newCap,rest,w',c1,c2,c3,c4,c5,c6,c7⟩:=qEt (ty:=o.type) h1 h3 h4 h2 hsv o1 n1 (by omega) hb
   have hle:=immExt_le hw ((es++es2).length*ie.size) (olds.toArray++news.toArray++rest)
   have hnew:=hw.newImm ((es++es2).length*ie.size) _ et w' c3 c5 c6 c7
   have hlen1:∀ el,el∈es→el.length=ie.size:=by
    obtain ⟨a',cap',_,hn,hp⟩:=hrd.slice_inv
    cases a' with
    | none=>rw [(hn rfl).1];exact fun e he=>by cases he
    | some p=>exact (hp p rfl).2.2.1
   refine ⟨_,w',_,by rw [hex,c2];rfl,hle,hnew,.d ?_⟩
   rw [show es.length+es2.length=(es++es2).length by simp]
   refine newImm_rep (fun el hel=>by
    rcases List.mem_append.1 hel with hel | hel
    ·exact hlen1 el hel
    ·exact hlen2 el hel) (Nat.le_refl _) _ (by simpa using c1) (fun i el j d he hd=>?_)
   obtain ⟨u,hu,hru⟩:=qOz o2 o4 n4 i el j d he hd
   refine ⟨u,?_,hru.mono hle.imm⟩
   rw [Array.getElem?_append_left]
   ·simpa using hu
   ·have:=(List.getElem?_eq_some_iff.1 hu).1;simpa using this
end
section
variable {P:Program} {E:Env} {T:Tr} {o:Oper} {ρ:Operand→AV} {h h':List AObj} {v:AV}
theorem qFj {p:Addr} (hp:p.spot=none):∀ (news:List Value) (i0:Nat) (w:World),(∀ (k:Nat) (u:Value),news[k]?=some u→qHy u=true) →
  (∀ k,k < news.length→(∃ v,w.cell? (p.add (i0+k))=some v)∧w.frozen? (p.add (i0+k))=false) →
  ∃ w',(storeCells p news i0).run P w=.ok () w'∧(∀ (k:Nat) (u:Value),news[k]?=some u→w'.cell? (p.add (i0+k))=some u) ∧
   (∀ a:Addr,(∀ k,k < news.length→a≠p.add (i0+k))→w'.cell? a=w.cell? a)∧(∀ a,w'.frozen? a=w.frozen? a)∧(∀ b,b≠p.block→w'.heap[b]?=w.heap[b]?) ∧
   w'.heap.size=w.heap.size∧w'.os=w.os∧w'.tape=w.tape∧w'.output=w.output
 | [],i0,w,_,_=>⟨w,by simp [storeCells],fun k u h=>by simp at h,fun _ _=>rfl,fun _=>rfl,fun _ _=>rfl,rfl,rfl,rfl,rfl⟩
 | u::news,i0,w,hone,hc=>by
  obtain ⟨⟨v0,h1⟩,h2⟩:=hc 0 (by simp)
  have hu:=hone 0 u (by simp)
  rw [Nat.add_zero] at h1 h2
  have hne:∀ x y:Nat,x≠y→p.add x≠p.add y:=by
   intro x y hxy hh
   rw [qCq p hp,qCq p hp] at hh
   injection hh with _ h3 _
   omega
  obtain ⟨w',q1,q2,q3,q4,q5,q6,q7,q8,q9⟩:=qFj hp news (i0+1) (w.setCell (p.add i0) u) (fun k y hy=>hone (k+1) y (by simpa using hy)) (fun k hk=>by
   obtain ⟨⟨v1,k1⟩,k2⟩:=hc (k+1) (by simp;omega)
   rw [show i0+(k+1)=i0+1+k by omega] at k1 k2
   exact ⟨⟨v1,by rw [World.cell?_setCell_other _ _ _ _ (hne _ _ (by omega))];exact k1⟩,by rw [World.frozen?_setCell];exact k2⟩)
  refine ⟨w',?_,fun k y hy=>?_,fun a ha=>?_,fun a=>by rw [q4,World.frozen?_setCell],fun b hb=>?_,by rw [q6];simp,q7,q8,q9⟩
  ·simp only [storeCells,Sem.run_bind]
   rw [run_store P w _ u .plain (oneC_oneCell' hu),h1]
   simp only [h2,Bool.false_eq_true,if_false,Result.andThen_ok]
   exact q1
  ·cases k with
   | zero =>
    simp at hy;subst hy
    rw [Nat.add_zero,q3 _ (fun k hk=>hne _ _ (by omega))]
    exact World.cell?_setCell_same _ _ _ h1
   | succ k =>
    simp at hy
    have:=q2 k y hy
    rwa [show i0+1+k=i0+(k+1) by omega] at this
  ·rw [q3 a (fun k hk=>by
    have:=ha (k+1) (by simp;omega)
    rwa [show i0+(k+1)=i0+1+k by omega] at this)]
   exact World.cell?_setCell_other _ _ _ _ (fun hh=>ha 0 (by simp) (by rw [Nat.add_zero];exact hh.symm))
  ·rw [q5 b hb]
   simp only [World.setCell,Array.getElem?_modify,qCs]
   rw [if_neg (by omega)]
def inPlace (G:Gh) (p:Addr) (i from_:Nat) (news:List Value) (n' cap:Nat):Gh :=
 { G with
  imm:=fun a=>if a.block=p.block∧a.spot=none∧p.off+from_≤a.off∧a.off < p.off+from_+news.length then news[a.off-(p.off+from_)]? else G.imm a
  rt:=fun j m=>if j=i∧m=n' then some (some p,cap) else G.rt j m }
def vBt (G:Gh) (b n:Nat) (cs:Array Value) (i n' cap:Nat):Gh :=
 { qLh G b n cs with
  rt:=fun j m=>if j=i∧m=n' then some (some ⟨b,0,none⟩,cap) else G.rt j m
  own:=fun c=>if c=b then some i else G.own c }
theorem qOh (hT:TOk P T) {t t2 sz by_ i:Nat} {s x:Operand} {es es2:List (List Dat)} (ho:o.op=.call { callee:=.builtin .append,args:=#[s,x],argTypes:=#[t,t2] })
  (ht:vAg T t=some (sz,by_)) (ht2:qYk T t2=true) (hs:ρ s=.sl sz es (.right i)) (hi:h[i]?=some (.right sz es.length)) (hx:qKb sz (ρ x)=some es2)
  (hb:(es.length+es2.length)*(by_+1)≤140737488355328) (G:Gh) (e:Operand→Value) (w:World) (hw:WRel E G h w) (hr:∀ x,x∈o.op.operands.toList→RepA G (ρ x) (e x)) :
  ∃ u w' G',(execOp e o).run P w=.ok (.value u) w'∧G.le G'∧WRel E G' (h.set i (.right sz (es.length+es2.length))) w'∧RepA G' (.sl sz (es++es2) (.right i)) u:=by
  have hs':RepA G (ρ s) (e s):=hr s (by simp [ho,Op.operands,Call.operands])
  have hx':RepA G (ρ x) (e x):=hr x (by simp [ho,Op.operands,Call.operands])
  obtain ⟨et,ie,h1,h2,rfl,rfl,hzl⟩:=appT_ok hT ht
  obtain ⟨d2,h3,h4⟩:=srcT_ok hT ht2
  obtain ⟨hlen2,news,n1,n2,n3,n4⟩:=asNew_src (P:=P) hw.imm hx' hx
  obtain ⟨a,cap,hsv,hrt,hrd⟩:∃ a cap,e s=.slice a es.length cap∧G.rt i es.length=some (a,cap)∧RepD G.imm (.sl ie.size es) (e s):=by
   rw [hs] at hs'
   generalize e s=u at hs'
   cases hs' with
   | sl r k=>obtain ⟨a,cap,rfl,hk⟩:=k;exact ⟨a,cap,rfl,hk,r⟩
  obtain ⟨a',cap',hrt',hcap,hlater,hspare⟩:=hw.obj i _ hi
  rw [hrt] at hrt';cases hrt'
  obtain ⟨olds,o1,o2,o3,o4⟩:=qEx (P:=P) hw.imm hrd
  have hlen1:∀ el,el∈es→el.length=ie.size:=by
   obtain ⟨a',cap',_,hn,hp⟩:=hrd.slice_inv
   cases a' with
   | none=>rw [(hn rfl).1];exact fun e he=>by cases he
   | some p=>exact (hp p rfl).2.2.1
  have hex:(execOp e o).run P w=((Builtin.append_ #[t,t2] o.type #[e s,e x]).run P w).andThen fun u w'=>.ok (.value u) w':=by
   unfold execOp
   simp [ho,resolve,invoke,builtin]
  by_cases hz:es2=[]
  ·subst hz
   have hn:news=[]:=by simpa using n2
   subst hn
   have hrun:=qCu (ty:=o.type) h1 h3 h4 h2 (w':=w) (a:=a) (n:=es.length) (cap:=cap) n1 (by simpa using hcap) (by cases a <;> simp [storeCells])
   have hset:h.set i (.right ie.size (es.length+([]:List (List Dat)).length))=h:=by
    apply List.ext_getElem?
    intro j
    rw [List.getElem?_set]
    split
    ·rename_i e;subst e
     have:=(List.getElem?_eq_some_iff.1 hi).1
     rw [if_pos this,hi];simp
    ·rfl
   refine ⟨e s,w,G,?_,.refl G,by rw [hset];exact hw,.sl (by simpa using hrd) ⟨a,cap,by simpa using hsv,by simpa using hrt⟩⟩
   rw [hex,hsv,hrun];simp
  ·have hpos:0 < es2.length:=List.length_pos_iff.2 hz
   have hrtn:G.rt i (es.length+es2.length)=none:=hlater _ (by omega)
   by_cases hfit:es.length+es2.length≤cap
   ·-- in place
    obtain ⟨p,rfl,p1,p2,p3⟩:=hspare (by omega)
    have hm1:(es.length+es2.length)*ie.size≤cap*ie.size:=Nat.mul_le_mul_right _ hfit
    rw [Nat.add_mul] at hm1
    have hspot:(p.add (es.length*ie.size)).spot=none:=qFr p p1 _
    obtain ⟨w',q1,q2,q3,q4,q5,q6,q7,q8,q9⟩:=qFj (P:=P) hspot news 0 w n3 (fun k hk=>by
     rw [Nat.zero_add,qDw p p1]
     obtain ⟨c1,c2,_⟩:=p3 (es.length*ie.size+k) (by omega) (by omega)
     exact ⟨c1,c2⟩)
    have hrun:=qCu (ty:=o.type) h1 h3 h4 h2 (w':=w') (a:=some p) (n:=es.length) (cap:=cap) n1 hfit (by simpa using q1)
    have himm0:∀ a:Addr,a.block=p.block→a.spot=none→p.off+es.length*ie.size≤a.off→a.off < p.off+es.length*ie.size+news.length→G.imm a=none:=by
     intro a ha1 ha2 ha3 ha4
     have:a=p.add (a.off-p.off):=by
      rw [qCq p p1]
      obtain ⟨ab,ao,as⟩:=a
      simp only at ha1 ha2 ha3 ha4 ⊢
      subst ha1;subst ha2
      congr 1;omega
     rw [this]
     exact (p3 (a.off-p.off) (by omega) (by omega)).2.2
    let G':=inPlace G p i (es.length*ie.size) news (es.length+es2.length) cap
    have hle:G.le G':=by
     refine ⟨fun a v ha=>?_,fun _ _ x=>x,fun j m x hx=>?_,fun _ _ x=>x⟩
     ·show (if _ then _ else G.imm a)=some v
      split
      ·rename_i hc;rw [himm0 a hc.1 hc.2.1 hc.2.2.1 hc.2.2.2] at ha;cases ha
      ·exact ha
     ·show (if j=i∧m=es.length+es2.length then _ else G.rt j m)=some x
      split
      ·rename_i hc;rw [hc.1,hc.2,hrtn] at hx;cases hx
      ·exact hx
    have hKb:=(hw.own _ i p2).2
    have hilt:i < h.length:=(List.getElem?_eq_some_iff.1 hi).1
    have hnew:WRel E G' (h.set i (.right ie.size (es.length+es2.length))) w':=by
     refine ⟨hw.le.trans hle,fun a v ha=>?_,fun a v ha=>?_,fun b hb'=>?_,by rw [q6];exact hw.size,q7.trans hw.os,q8.trans hw.tape,q9.trans hw.output,fun b j hb'=>by rw [q6];exact hw.own b j hb',fun j hj=>?_,fun j ob hj=>?_⟩
     ·have ha':(if a.block=p.block∧a.spot=none∧p.off+es.length*ie.size≤a.off∧a.off < p.off+es.length*ie.size+news.length then news[a.off-(p.off+es.length*ie.size)]? else G.imm a)=some v:=ha
      split at ha'
      ·rename_i hc
       have:=q2 _ v ha'
       rw [Nat.zero_add,qDw p p1,qCq p p1] at this
       obtain ⟨ab,ao,as⟩:=a
       simp only at hc this ⊢
       rw [← hc.1,show p.off+(es.length*ie.size+(ao-(p.off+es.length*ie.size)))=ao by omega,← hc.2.1] at this
       exact this
      ·rename_i hc
       rw [q3 a (fun k hk hh=>hc (by
        rw [Nat.zero_add,qDw p p1,qCq p p1] at hh
        subst hh
        exact ⟨rfl,rfl,by simp,by simp;omega⟩))]
       exact hw.imm a v ha'
     ·have ha':(if a.block=p.block∧a.spot=none∧p.off+es.length*ie.size≤a.off∧a.off < p.off+es.length*ie.size+news.length then news[a.off-(p.off+es.length*ie.size)]? else G.imm a)=some v:=ha
      split at ha'
      ·rename_i hc;right;rw [hc.1];exact hKb
      ·exact hw.immNew a v ha'
     ·have:b≠p.block:=fun hh=>hKb (hh▸hb')
      rw [q5 b (by rw [qCs];exact this)];exact hw.keep b hb'
     ·simp only [List.length_set] at hj
      have:=hw.fresh j hj
      refine ⟨this.1,fun m=>?_⟩
      show (if j=i∧m=es.length+es2.length then _ else G.rt j m)=none
      rw [if_neg (by omega)];exact this.2 m
     ·rw [List.getElem?_set] at hj
      split at hj
      ·rename_i hij;subst hij
       cases hj
       refine ⟨some p,cap,?_,hfit,fun n' hn'=>?_,fun hlt=>⟨p,rfl,p1,p2,fun k hk1 hk2=>?_⟩⟩
       ·show (if i=i∧es.length+es2.length=es.length+es2.length then _ else _)=_;simp
       ·show (if i=i∧n'=es.length+es2.length then _ else G.rt i n')=none
        rw [if_neg (by omega)];exact hlater n' (by omega)
       ·rw [Nat.add_mul] at hk1
        obtain ⟨⟨v,c1⟩,c2,c3⟩:=p3 k (by omega) hk2
        refine ⟨⟨v,?_⟩,by rw [q4];exact c2,?_⟩
        ·rw [q3 _ (fun k' hk' hh=>by
          rw [Nat.zero_add,qDw p p1,qCq p p1,qCq p p1] at hh
          injection hh with _ h5 _
          omega)]
         exact c1
        ·show (if (p.add k).block=p.block∧_∧p.off+es.length*ie.size≤(p.add k).off∧(p.add k).off < p.off+es.length*ie.size+news.length then _ else G.imm _)=none
         rw [if_neg (by rw [qCq p p1];simp;omega)];exact c3
      ·rename_i hij
       refine (hw.obj j ob hj).keep hle (fun b hb'=>?_) (fun m hm=>?_) (fun hn=>hn)
       ·have hne:b≠p.block:=fun hh=>by subst hh;rw [p2] at hb';cases hb';exact hij rfl
        refine ⟨q5 b (by rw [qCs];exact hne),fun a ha=>?_⟩
        show (if _ then _ else G.imm a)=G.imm a
        rw [if_neg (by rintro ⟨hc,_⟩;exact hne (ha▸hc))]
       ·show (if j=i∧m=_ then _ else G.rt j m)=none
        rw [if_neg (by rintro ⟨hc,_⟩;exact hij hc.symm)];exact hm
    refine ⟨.slice (some p) (es.length+es2.length) cap,w',G',by rw [hex,hsv,hrun];rfl,hle,hnew,.sl ?_ ⟨some p,cap,by simp,?_⟩⟩
    ·obtain ⟨a0,cap0,hv0,_,hp0⟩:=hrd.slice_inv
     rw [hsv] at hv0
     cases hv0
     obtain ⟨r1,r2,r3,vs,r4,r5⟩:=hp0 p rfl
     rw [show es.length+es2.length=(es++es2).length by simp]
     refine .sl _ _ p cap (fun k=>if k < es.length*ie.size then vs k else news.getD (k-es.length*ie.size) undef) r1 (by simpa using hfit) (fun el hel=>?_) (fun i' el j d he hd=>?_) (fun i' el j d he hd=>?_)
     ·rcases List.mem_append.1 hel with hel | hel
      ·exact hlen1 el hel
      ·exact hlen2 el hel
     ·by_cases hi':i' < es.length
      ·rw [List.getElem?_append_left hi'] at he
       have hjl:j < ie.size:=by rw [← hlen1 el (List.mem_of_getElem? he)];exact (List.getElem?_eq_some_iff.1 hd).1
       have hmul:(i'+1)*ie.size≤es.length*ie.size:=Nat.mul_le_mul_right _ hi'
       rw [Nat.add_mul,Nat.one_mul] at hmul
       rw [if_pos (by omega)]
       exact hle.imm _ _ (r4 i' el j d he hd)
      ·rw [List.getElem?_append_right (by omega)] at he
       obtain ⟨u,hu,hru⟩:=n4 _ el j d he hd
       have hge:es.length*ie.size≤i'*ie.size:=Nat.mul_le_mul_right _ (by omega)
       rw [if_neg (by omega),qCq p p1]
       have hidx:i'*ie.size+j-es.length*ie.size=(i'-es.length)*ie.size+j:=by rw [Nat.sub_mul];omega
       have hlt:=(List.getElem?_eq_some_iff.1 hu).1
       show (if _ then _ else _)=_
       rw [if_pos ⟨rfl,rfl,by simp;omega,by simp;omega⟩]
       rw [show p.off+(i'*ie.size+j)-(p.off+es.length*ie.size)=(i'-es.length)*ie.size+j by omega,hidx,hu]
       simp [List.getD,hu]
     ·by_cases hi':i' < es.length
      ·rw [List.getElem?_append_left hi'] at he
       have hjl:j < ie.size:=by rw [← hlen1 el (List.mem_of_getElem? he)];exact (List.getElem?_eq_some_iff.1 hd).1
       have hmul:(i'+1)*ie.size≤es.length*ie.size:=Nat.mul_le_mul_right _ hi'
       rw [Nat.add_mul,Nat.one_mul] at hmul
       rw [if_pos (by omega)]
       exact (r5 i' el j d he hd).mono hle.imm
      ·rw [List.getElem?_append_right (by omega)] at he
       obtain ⟨u,hu,hru⟩:=n4 _ el j d he hd
       have hge:es.length*ie.size≤i'*ie.size:=Nat.mul_le_mul_right _ (by omega)
       have hidx:i'*ie.size+j-es.length*ie.size=(i'-es.length)*ie.size+j:=by rw [Nat.sub_mul];omega
       rw [if_neg (by omega),hidx]
       simp only [List.getD,hu,Option.getD_some]
       exact hru.mono hle.imm
    ·show (if i=i∧(es++es2).length=es.length+es2.length then _ else _)=_;simp
   ·-- a new row
    obtain ⟨newCap,rest,w',c1,c2,c3,c4,c5,c6,c7⟩:=qEt (ty:=o.type) h1 h3 h4 h2 hsv o1 n1 (by omega) hb
    let cs:=olds.toArray++news.toArray++rest
    let nn:=(es++es2).length*ie.size
    let G':=vBt G w.heap.size nn cs i (es.length+es2.length) newCap
    have hnnl:olds.length+news.length=nn:=by simp [nn,o2,n2,Nat.add_mul]
    have hown:G.own w.heap.size=none:=by
     cases ho:G.own w.heap.size with
     | none=>rfl
     | some j=>have:=(hw.own _ _ ho).1;omega
    have hK:¬ E.K w.heap.size:=fun hk=>by have:=hw.size;have:=hk.1;omega
    have hilt:i < h.length:=(List.getElem?_eq_some_iff.1 hi).1
    have hle0:=immExt_le hw nn cs
    have hle:G.le G':=by
     refine ⟨hle0.imm,fun _ _ x=>x,fun j m x hx=>?_,fun b j hb'=>?_⟩
     ·show (if j=i∧m=es.length+es2.length then _ else G.rt j m)=some x
      split
      ·rename_i hc;rw [hc.1,hc.2,hrtn] at hx;cases hx
      ·exact hx
     ·show (if b=w.heap.size then some i else G.own b)=some j
      split
      ·rename_i hc;subst hc;rw [hown] at hb';cases hb'
      ·exact hb'
    have hnew0:=hw.newImm nn cs et w' c3 c5 c6 c7
    have hcs:cs.size=olds.length+news.length+rest.size:=by simp [cs];omega
    have hnew:WRel E G' (h.set i (.right ie.size (es.length+es2.length))) w':=by
     refine ⟨hw.le.trans hle,hnew0.imm,hnew0.immNew,hnew0.keep,hnew0.size,hnew0.os,hnew0.tape,hnew0.output,fun b j hb'=>?_,fun j hj=>?_,fun j ob hj=>?_⟩
     ·have hb2:(if b=w.heap.size then some i else G.own b)=some j:=hb'
      split at hb2
      ·rename_i hc;subst hc;exact ⟨by rw [c3];simp,hK⟩
      ·exact hnew0.own b j hb2
     ·simp only [List.length_set] at hj
      have:=hw.fresh j hj
      refine ⟨this.1,fun m=>?_⟩
      show (if j=i∧m=es.length+es2.length then _ else G.rt j m)=none
      rw [if_neg (by omega)];exact this.2 m
     ·rw [List.getElem?_set] at hj
      split at hj
      ·rename_i hij;subst hij
       cases hj
       refine ⟨some ⟨w.heap.size,0,none⟩,newCap,?_,c1,fun n' hn'=>?_,fun hlt=>⟨⟨w.heap.size,0,none⟩,rfl,rfl,?_,fun k hk1 hk2=>?_⟩⟩
       ·show (if i=i∧es.length+es2.length=es.length+es2.length then _ else _)=_;simp
       ·show (if i=i∧n'=es.length+es2.length then _ else G.rt i n')=none
        rw [if_neg (by omega)];exact hlater n' (by omega)
       ·show (if w.heap.size=w.heap.size then _ else _)=_;simp
       ·have hkl:k < cs.size:=by
         have hsum:(es.length+es2.length)*ie.size+(newCap-(es.length+es2.length))*ie.size=newCap*ie.size:=by
          rw [← Nat.add_mul];congr 1;omega
         rw [hcs,c4,hzl,o2,n2,← Nat.add_mul,hsum];exact hk2
        refine ⟨⟨cs[k],?_⟩,?_,?_⟩
        ·have hcell:w'.heap[w.heap.size]?=some (.cells cs et):=by rw [c3];exact Array.getElem?_push_size
         have hget:cs[k]?=some cs[k]:=by simp [hkl]
         rw [qCr,Nat.zero_add]
         simp only [World.cell?,hcell]
         exact hget
        ·rw [qCr];simp [World.frozen?,c3]
        ·rw [qCr]
         show (if w.heap.size=w.heap.size then (if (none:Option Nat)=none∧0+k < nn then _ else none) else _)=none
         have hnk:¬ (0+k < nn):=by simp only [nn,List.length_append];omega
         rw [if_pos rfl,if_neg (fun hh=>hnk hh.2)]
      ·rename_i hij
       refine (hw.obj j ob hj).keep hle (fun b hb'=>?_) (fun m hm=>?_) (fun hn=>hn)
       ·have hlt:=(hw.own b j hb').1
        refine ⟨by rw [c3];exact qBi _ _ _ hlt,fun a ha=>?_⟩
        show (if a.block=w.heap.size then _ else G.imm a)=G.imm a
        rw [if_neg (by omega)]
       ·show (if j=i∧m=_ then _ else G.rt j m)=none
        rw [if_neg (by rintro ⟨hc,_⟩;exact hij hc.symm)];exact hm
    refine ⟨_,w',G',by rw [hex,c2];rfl,hle,hnew,.sl ?_ ⟨some ⟨w.heap.size,0,none⟩,newCap,by simp,?_⟩⟩
    ·rw [show es.length+es2.length=(es++es2).length by simp]
     refine newImm_rep (n:=nn) (cs:=cs) (G:=G) (b:=w.heap.size) (fun el hel=>by
      rcases List.mem_append.1 hel with hel | hel
      ·exact hlen1 el hel
      ·exact hlen2 el hel) (Nat.le_refl _) _ (by simpa using c1) (fun i el j d he hd=>?_)
     obtain ⟨u,hu,hru⟩:=qOz o2 o4 n4 i el j d he hd
     refine ⟨u,?_,hru.mono hle0.imm⟩
     simp only [cs]
     rw [Array.getElem?_append_left]
     ·simpa using hu
     ·have:=(List.getElem?_eq_some_iff.1 hu).1;simpa using this
    ·show (if i=i∧(es++es2).length=es.length+es2.length then _ else _)=_;simp
theorem qEp (hT:TOk P T) {t t2 sz by_ i:Nat} {s x:Operand} {es es2:List (List Dat)} (ho:o.op=.call { callee:=.builtin .append,args:=#[s,x],argTypes:=#[t,t2] })
  (ht:vAg T t=some (sz,by_)) (ht2:qYk T t2=true) (hs:ρ s=.sl sz es (.right i)) (hi:h[i]?=some (.right sz es.length)) (hx:qKb sz (ρ x)=some es2)
  (hb:(es.length+es2.length)*(by_+1)≤140737488355328) :
  OpS P E o ρ h (.sl sz (es++es2) (.right i)) (h.set i (.right sz (es.length+es2.length))):=qBv (qOh hT ho ht ht2 hs hi hx hb)
end
def qEo {α β:Type}:List α→(List α→β)→β
 | [],k=>k []
 | a::l,k=>qEo l fun r=>k (a::r)
theorem forceS_eq {α β:Type}:∀ (l:List α) (k:List α→β),qEo l k=k l
 | [],k=>rfl
 | a::l,k=>by simp [qEo,forceS_eq l]
def qGz {β:Type} (v:AV) (k:AV→β):β:=match v with
 | .d x=>k (.d x)
 | .sl a b c=>k (.sl a b c)
 | .nils=>k .nils
 | .ptr i off=>k (.ptr i off)
 | .iptr cs=>k (.iptr cs)
 | .nilp=>k .nilp
 | .row a b c d=>k (.row a b c d)
 | .bm a b=>k (.bm a b)
 | .bp a b c=>k (.bp a b c)
 | .fn f a b=>k (.fn f a b)
 | .nilf=>k .nilf
 | .mp i=>k (.mp i)
 | .pv i b=>k (.pv i b)
 | .pb b=>k (.pb b)
 | .rx a b c=>k (.rx a b c)
 | .ifc b=>k (.ifc b)
 | .ifa t v=>k (.ifa t v)
 | .agg cs=>qEo cs fun c=>k (.agg c)
 | .tup vs=>k (.tup vs)
 | .gd b v=>k (.gd b v)
 | .any=>k .any
theorem forceV_eq {β:Type} (v:AV) (k:AV→β):qGz v k=k v:=by cases v <;> simp [qGz,forceS_eq]
def qPt {β:Type}:List AV→(List AV→β)→β
 | [],k=>k []
 | a::l,k=>qGz a fun a=>qPt l fun r=>k (a::r)
theorem forceL_eq {β:Type}:∀ (l:List AV) (k:List AV→β),qPt l k=k l
 | [],k=>rfl
 | a::l,k=>by simp [qPt,forceV_eq,forceL_eq l]
def qVu {β:Type}:List (Nat×AV)→(List (Nat×AV)→β)→β
 | [],k=>k []
 | (i,v)::l,k=>qGz v fun v=>qVu l fun r=>k ((i,v)::r)
theorem forceP_eq {β:Type}:∀ (l:List (Nat×AV)) (k:List (Nat×AV)→β),qVu l k=k l
 | [],k=>rfl
 | (i,v)::l,k=>by simp [qVu,forceV_eq,forceP_eq l]
def qKo (x:Option AV):Option (AV×Prop):=match x with
 | some v=>some (v,True)
 | none=>none
def vEy (T:Tr) (t:Nat) (v:AV):Option AV:=match T.find t with
 | some i=>match i.kind with
  | .ptr=>some (.ifa t v)
  | _=>none
 | none=>none
def vJd (T:Tr) (t:Nat) (ok:Bool) (v:AV):Option AV:=match v with
 | .ifa s x=>match T.find t with
  | some i=>match i.kind with
   | .ptr=>match Nat.beq s t with
    | true=>bif ok then some (.tup [x,.d (.bool true)]) else some x
    | false=>bif ok then some (.tup [.any,.d (.bool false)]) else none
   | _=>none
  | none=>none
 | _=>none
def vJe (T:Tr) (op:Op) (ρ:Operand→AV):Option (AV×Prop) :=
 match op with
 | .move x=>some (ρ x,True)
 | .assign x=>some (ρ x,True)
 | .pick c a b=>match b with
  | .const (.bool false)=>qSe (ρ c) (ρ a)
  | b=>match a with
   | .const (.bool true)=>qYx (ρ c) (ρ b)
   | _=>none
 | .build t parts=>qVu (parts.toList.map fun x=>(x.1,ρ x.2)) fun l=>qKo (qQj T t l)
 | .nilCheck x=>match vEv (ρ x) with
  | true=>some (ρ x,True)
  | false=>none
 | .binOp op t x y _=>vJc T op t (ρ x) (ρ y)
 | .unOp op _ x=>qKo (unA op (ρ x))
 | .convert s t x=>vFy T s t (ρ x)
 | .makeFunc f first cap=>qPt (first.toList.map ρ) fun a=>qPt (cap.toList.map ρ) fun b=>some (.fn f a b,True)
 | .fieldAddr t x f=>qKo (faddr T t f (ρ x))
 | .field t x f=>qKo (vEo T t f (ρ x))
 | .index t x ix=>qNu T t (ρ x) (ρ ix)
 | .slice t x lo hi mx=>match mx with
  | none=>match qMv ρ lo,qMv ρ hi with
   | some l,some h=>qYl T t (ρ x) l h
   | _,_=>none
  | some _=>none
 | .extract x n=>qKo (qNz n (ρ x))
 | .makeInterface t x=>qKo (vEy T t (ρ x))
 | .typeAssert x _ t ok=>qKo (vJd T t ok (ρ x))
 | .load t x=>match ρ x with
  | .iptr cs=>qKo (qZd T t cs)
  | _=>none
 | .call c=>match c with
  | ⟨.builtin .len,⟨[x]⟩,⟨[t]⟩⟩=>qKo (vIx T t (ρ x))
  | _=>none
 | _=>none
def vJf (T:Tr) (op:Op) (ρ:Operand→AV) (h:List AObj):Option (AV×List AObj) :=
 match op with
 | .alloc t=>match T.find t with
  | some i=>some (.ptr h.length 0,h++[.row i.zero])
  | none=>none
 | .box _ x=>qGz (ρ x) fun x=>match cellsA x with
  | some cs=>qEo cs fun cs=>some (.ptr h.length 0,h++[.row cs])
  | none=>none
 | .load t x=>match ρ x with
  | .ptr i off=>match h[i]? with
   | some (.row cells)=>match qEv T t cells off with
    | some v=>some (v,h)
    | none=>none
   | _=>none
  | _=>none
 | .store t x y=>match ρ x with
  | .ptr i off=>match h[i]? with
   | some (.row cells)=>qGz (ρ y) fun y=>match qDz T t cells off y with
    | some cells'=>qEo cells' fun cells'=>some (.any,h.set i (.row cells'))
    | none=>none
   | _=>none
  | _=>none
 | .buildSlice t len parts=>match qKk T t len (parts.toList.map fun x=>(x.1,ρ x.2)) with
  | some v=>some (v,h)
  | none=>none
 | _=>none
section
variable {P:Program} {E:Env} {T:Tr} {o:Oper} {ρ:Operand→AV} {h h':List AObj} {v:AV}
theorem wrapP_some {x:Option AV} {C:Prop} (h:qKo x=some (v,C)):x=some v:=by
 unfold qKo at h;split at h
 ·cases h;rfl
 ·cases h
theorem mkIfA_ok (hT:TOk P T) {t:Nat} {x:Operand} (ho:o.op=.makeInterface t x) (h:vEy T t (ρ x)=some v):OpP P o ρ v:=by
 intro G e w hi hr
 have hx:RepA G (ρ x) (e x):=hr x (by simp [ho,Op.operands])
 unfold vEy at h
 split at h
 ·rename_i i hf
  split at h
  ·rename_i hk
   cases h
   obtain ⟨d,hd,hkd⟩:=(hT.at hf).und
   rw [hk] at hkd
   cases d <;> simp [qCx] at hkd
   refine ⟨.iface t (e x),?_,.ifa hx⟩
   unfold execOp
   simp [ho,Instr.makeInterface,run_underlying hd]
  ·cases h
 ·cases h
theorem assA_ok (hT:TOk P T) {t xt:Nat} {ok:Bool} {x:Operand} (ho:o.op=.typeAssert x xt t ok) (h:vJd T t ok (ρ x)=some v):OpP P o ρ v:=by
 intro G e w hi hr
 have hx:RepA G (ρ x) (e x):=hr x (by simp [ho,Op.operands])
 unfold vJd at h
 split at h
 ·rename_i s y hxe
  rw [hxe] at hx
  obtain ⟨u,hu,hy⟩:∃ u,e x=.iface s u∧RepA G y u:=by
   generalize e x=u at hx
   cases hx with
   | ifa r=>exact ⟨_,rfl,r⟩
  split at h
  ·rename_i i hf
   split at h
   ·rename_i hk
    obtain ⟨d,hd,hkd⟩:=(hT.at hf).und
    rw [hk] at hkd
    cases d <;> simp [qCx] at hkd
    split at h
    ·rename_i hst
     obtain rfl:=Nat.eq_of_beq_eq_true hst
     cases ok with
     | true =>
      cases h
      refine ⟨.tuple #[u,.bool true],?_,.tup _ rfl (fun j a b ha hb=>?_)⟩
      ·unfold execOp
       simp [ho,Instr.typeAssert,run_underlying hd,hu]
      ·match j,ha,hb with
       | 0,ha,hb=>simp at ha hb;subst ha;subst hb;exact hy
       | 1,ha,hb=>simp at ha hb;subst ha;subst hb;exact .d (.bool true)
       | j+2,ha,hb=>simp at ha
     | false =>
      cases h
      refine ⟨u,?_,hy⟩
      unfold execOp
      simp [ho,Instr.typeAssert,run_underlying hd,hu]
    ·rename_i hst
     have hne:¬ s=t:=fun hh=>by subst hh;simp at hst
     cases ok with
     | true =>
      cases h
      obtain ⟨z,hz,-⟩:=(hT.at hf).run_zero (w:=w)
      refine ⟨.tuple #[z,.bool false],?_,.tup _ rfl (fun j a b ha hb=>?_)⟩
      ·unfold execOp
       simp [ho,Instr.typeAssert,run_underlying hd,hu,hne,hz]
      ·match j,ha,hb with
       | 0,ha,hb=>simp at ha hb;subst ha;subst hb;exact .any _
       | 1,ha,hb=>simp at ha hb;subst ha;subst hb;exact .d (.bool false)
       | j+2,ha,hb=>simp at ha
     | false=>cases h
   ·cases h
  ·cases h
 ·cases h
theorem aopP_ok (hT:TOk P T) (hρ:∀ z,ρ (.const z)=qJx z) {C:Prop} (h:vJe T o.op ρ=some (v,C)) (hC:C):OpP P o ρ v:=by
 obtain ⟨dst,op,ty,pos,after,guard⟩:=o
 simp only at h
 unfold vJe at h
 split at h
 ·cases h;exact qZa (.inl rfl)
 ·cases h;exact qZa (.inr rfl)
 ·split at h
  ·exact pickAnd_ok hρ rfl h hC
  ·split at h
   ·exact pickOr_ok hρ rfl h hC
   ·cases h
 ·rw [forceP_eq] at h;exact qOc hT rfl (wrapP_some h)
 ·split at h
  ·rename_i hn;cases h;exact nilCheck_ok rfl hn
  ·cases h
 ·exact binA_ok hT rfl h hC
 ·exact unA_ok rfl (wrapP_some h)
 ·exact convA_ok hT rfl h hC
 ·rw [forceL_eq,forceL_eq] at h;cases h;exact makeFunc_ok rfl
 ·exact fieldAddr_ok hT rfl (wrapP_some h)
 ·exact vCr hT rfl (wrapP_some h)
 ·exact indexStr_ok hT rfl h hC
 ·split at h
  ·split at h
   ·rename_i l r hl hr;exact sliceA_ok hT rfl hl hr h hC
   ·cases h
  ·cases h
 ·exact extractA_ok rfl (wrapP_some h)
 ·exact mkIfA_ok hT rfl (wrapP_some h)
 ·exact assA_ok hT rfl (wrapP_some h)
 ·split at h
  ·rename_i hx;exact loadI_ok hT rfl hx (wrapP_some h)
  ·cases h
 ·split at h
  ·exact lenA_ok hT rfl (wrapP_some h)
  ·cases h
 ·cases h
theorem aopH_ok (hT:TOk P T) (hh:vJf T o.op ρ h=some (v,h')):OpS P E o ρ h v h':=by
 obtain ⟨dst,op,ty,pos,after,guard⟩:=o
 simp only at hh
 unfold vJf at hh
 split at hh
 ·split at hh
  ·rename_i hf;cases hh;exact vDf hT rfl hf
  ·cases hh
 ·rw [forceV_eq] at hh
  split at hh
  ·rename_i hx;rw [forceS_eq] at hh;cases hh;exact vIl rfl hx
  ·cases hh
 ·split at hh
  ·rename_i hx
   split at hh
   ·rename_i hi
    split at hh
    ·rename_i hv;cases hh;exact qAo hT rfl hx hi hv
    ·cases hh
   ·cases hh
  ·cases hh
 ·split at hh
  ·rename_i hx
   split at hh
   ·rename_i hi
    rw [forceV_eq] at hh
    split at hh
    ·rename_i hv;rw [forceS_eq] at hh;cases hh;exact qAp hT rfl hx hi hv
    ·cases hh
   ·cases hh
  ·cases hh
 ·split at hh
  ·rename_i hv;cases hh;exact buildSl_ok hT rfl hv
  ·cases hh
 ·cases hh
end
def qMh (τ:Nat→AV) (dst:Option Tmp) (v:AV):Nat→AV:=match dst with
 | some d=>fun t=>bif Nat.beq t d then v else τ t
 | none=>τ
def look:List (Nat×AV)→Nat→AV
 | [],_=>.any
 | (d,v)::r,t=>bif Nat.beq t d then v else look r t
def qSy (N:Nat) (o:Oper):Bool:=match o.dst with
 | some d=>Nat.blt d N
 | none=>true
def OpR (P:Program) (E:Env) (o:Oper) (ρ:Operand→AV) (h:List AObj) (R:AV→List AObj→Prop):Prop :=
 ∀ (G:Gh) (a:Act) (w:World),WRel E G h w→(∀ x,x∈o.op.operands.toList→RepA G (ρ x) (a.eval x)) →
  o.wp P a w (fun a' w'=>∃ u G' v h',R v h'∧a'=a.put o.dst u∧G.le G'∧WRel E G' h' w'∧RepA G' v u) (fun _ _ _=>False)
theorem qFi {P:Program} {o:Oper} {a:Act} {w:World} {K K':Act→World→Prop} {Q:Exit→Act→World→Prop} (h:∀ a w,K a w→K' a w) (hh:o.wp P a w K (fun _ _ _=>False)):o.wp P a w K' Q:=by
 unfold Oper.wp at *
 generalize (execOp a.eval o).run P w=r at *
 cases r with
 | ok n w' =>
  cases n <;> simp only [Oper.upon] at hh ⊢ <;>
   first
    | exact h _ _ hh
    | exact Calls.mono hh (fun e w'' he=>by cases e <;> first | exact h _ _ he | exact he.elim | (obtain ⟨_,_,hf⟩:=he;exact hf.elim))
    | exact Rows.mono hh (fun _ _ he=>h _ _ he)
 | halt x w'=>cases x <;> simp only [Oper.upon] at hh ⊢ <;> exact hh.elim
theorem qDg {P:Program} {E:Env} {o:Oper} {ρ:Operand→AV} {h h':List AObj} {v:AV} (H:OpS P E o ρ h v h'):OpR P E o ρ h (fun a b=>a=v∧b=h'):=by
 intro G a w hw hr
 exact qFi (fun a' w' ⟨u,G',h1,h2,h3,h4⟩=>⟨u,G',v,h',⟨rfl,rfl⟩,h1,h2,h3,h4⟩) (H G a w hw hr)
def StepR (P:Program) (E:Env) (N:Nat) (ops:Array Oper) (o:Oper) (τ:Nat→AV) (h:List AObj) (R:AV→List AObj→Prop):Prop :=
 qSy N o=true∧match o.guard with
 | none=>OpR P E o (ev τ) h R
 | some (j,want)=>∃ d ex,(ops[j]?).bind (·.dst)=some d∧Nat.blt d N=true∧(∀ G v,RepA G (τ d) v→(v=.bool want↔ex=true))∧(ex=true→OpR P E o (ev τ) h R)∧(ex=false→∃ v,R v h∧∀ G,RepA G v undef)
theorem qIi {G:Gh} {τ:Nat→AV} {a:Act} (htab:TabI G.imm) (ht:∀ t,RepA G (τ t) (a.tmps.getD t undef)) (x:Operand):RepA G (ev τ x) (a.eval x):=by
 cases x with
 | tmp t=>exact ht t
 | const v=>exact ofVal_ok G v
 | global g=>exact qVt htab g
 | func f=>exact .fn _ #[] #[] rfl rfl (fun j x v h=>by simp at h) (fun j x v h=>by simp at h)
theorem qKw {G:Gh} {τ:Nat→AV} {tmps:Array Value} {dst:Option Tmp} {v:AV} {u:Value} {N:Nat} (hs:tmps.size=N) (hd:∀ d,dst=some d→d < N) (ht:∀ t,RepA G (τ t) (tmps.getD t undef)) (hv:RepA G v u)
  (ds:List Deferred):∀ t,RepA G (qMh τ dst v t) ((Act.put ⟨tmps,ds⟩ dst u).tmps.getD t undef):=by
 intro t
 cases dst with
 | none=>exact ht t
 | some d =>
  have hdn:=hd d rfl
  show RepA G (bif Nat.beq t d then v else τ t) ((tmps.setIfInBounds d u).getD t undef)
  cases hb:Nat.beq t d with
  | true =>
   obtain rfl:=Nat.eq_of_beq_eq_true hb
   simp [hs,hdn];exact hv
  | false =>
   have hne:d≠t:=fun hh=>by subst hh;rw [Nat.beq_refl] at hb;cases hb
   have:=ht t
   simpa [Array.getElem?_setIfInBounds_ne hne] using this
theorem dstOk_lt {N:Nat} {o:Oper} (h:qSy N o=true):∀ d,o.dst=some d→d < N:=by
 intro d hd
 unfold qSy at h
 rw [hd] at h
 exact Nat.le_of_ble_eq_true h
theorem qKh (a:Act) (dst:Option Tmp) (u:Value):(a.put dst u).tmps.size=a.tmps.size:=by cases dst <;> simp [Act.put]
theorem qGo (a:Act) (dst:Option Tmp) (u:Value):(a.put dst u).defers=a.defers:=by cases dst <;> rfl
theorem qMr {P:Program} {E:Env} {N:Nat} {ops:Array Oper} {Q:Exit→Act→World→Prop} {i:Nat} {o:Oper} (ho:ops[i]?=some o) {τ:Nat→AV} {h:List AObj} {R:AV→List AObj→Prop} {K:Act→World→Prop} {a:Act} {w:World}
  (hs:StepR P E N ops o τ h R) (hr:Rel E N τ h a w) (hk:∀ v h' a' w',R v h'→Rel E N (qMh τ o.dst v) h' a' w'→K a' w'):wpOp P ops Q i K a w:=by
 obtain ⟨hd,hg⟩:=hs
 obtain ⟨r1,r2,G,hw,ht⟩:=hr
 have hdl:=dstOk_lt hd
 have go:OpR P E o (ev τ) h R→o.wp P a w K Q:=fun H=>by
  refine qFi ?_ (H G a w hw (fun x _=>qIi (E.tab.1.mono hw.le.imm) ht x))
  rintro a' w' ⟨u,G',v,h',hR,rfl,hle,hw',hv⟩
  refine hk v h' _ w' hR ⟨by rw [qKh];exact r1,by rw [qGo];exact r2,G',hw',?_⟩
  obtain ⟨tmps,ds⟩:=a
  exact qKw r1 hdl (fun t=>(ht t).mono hle) hv ds
 unfold wpOp
 simp only [ho]
 cases hgd:o.guard with
 | none =>
  rw [hgd] at hg
  have:Region.wanted o (yielded ops a.tmps)=true:=by simp [Region.wanted,hgd]
  rw [if_pos this]
  exact .inl (go hg)
 | some g =>
  obtain ⟨j,want⟩:=g
  rw [hgd] at hg
  obtain ⟨d,ex,h1,h2,h3,h4,h5⟩:=hg
  have hv:=h3 G _ (ht d)
  have hdn:d < a.tmps.size:=by rw [r1];exact Nat.le_of_ble_eq_true h2
  have hget:a.tmps[d]?=some (a.tmps.getD d undef):=by
   rw [Array.getD_eq_getD_getElem?]
   have h6:a.tmps[d]?=some a.tmps[d]:=by simp [hdn]
   rw [h6];rfl
  have hwd:Region.wanted o (yielded ops a.tmps)=ex:=by
   unfold Region.wanted yielded
   rw [hgd]
   simp only [h1,Option.bind_some,hget]
   generalize a.tmps.getD d undef=u at hv
   cases ex with
   | true =>
    rw [hv.2 rfl];simp
   | false =>
    have hne:u≠.bool want:=fun hh=>by have:=hv.1 hh;cases this
    cases u <;> simp
    rename_i b
    intro hh;exact hne (by rw [hh])
  rw [hwd]
  cases ex with
  | true=>rw [if_pos rfl];exact .inl (go (h4 rfl))
  | false =>
   rw [if_neg (by simp)]
   obtain ⟨v,hR,hv0⟩:=h5 rfl
   refine hk v h _ w hR ⟨by rw [qKh];exact r1,by rw [qGo];exact r2,G,hw,?_⟩
   obtain ⟨tmps,ds⟩:=a
   exact qKw r1 hdl ht (hv0 G) ds
def AWk (P:Program) (E:Env) (N:Nat) (ops:List Oper) (Q:(Nat→AV)→List AObj→Prop):List Oper→(Nat→AV)→List AObj→Prop
 | [],τ,h=>Q τ h
 | o::rest,τ,h=>∃ R,StepR P E N ops.toArray o τ h R∧∀ v h',R v h'→AWk P E N ops Q rest (qMh τ o.dst v) h'
theorem qRl {P:Program} {E:Env} {N:Nat} {ops:List Oper} {Q:Exit→(Nat→AV)→List AObj→Prop}:∀ (rest:List Oper) (k:Nat) (τ:Nat→AV) (h:List AObj) (a:Act) (w:World),(∀ j,rest[j]?=ops[k+j]?) →
  AWk P E N ops (Q .normal) rest τ h→Rel E N τ h a w →
  wpOps P ops.toArray (fun ex a' w'=>∃ τ' h',Q ex τ' h'∧Rel E N τ' h' a' w') (List.range' k rest.length) a w
 | [],k,τ,h,a,w,_,hk,hr=>⟨τ,h,hk,hr⟩
 | o::rest,k,τ,h,a,w,hj,hk,hr=>by
  obtain ⟨R,hs,hnext⟩:=hk
  have ho:ops.toArray[k]?=some o:=by simpa using (hj 0).symm
  simp only [List.length_cons,List.range'_succ]
  rw [wpOps_cons]
  exact qMr ho hs hr fun v h' a' w' hR hrel =>
   qRl rest (k+1) _ _ a' w' (fun j=>by have:=hj (j+1);simpa [Nat.add_assoc,Nat.add_comm 1 j] using this) (hnext v h' hR) hrel
theorem qAc {P:Program} {E:Env} {N:Nat} {id:Nat} {ops:List Oper} {Q:Exit→(Nat→AV)→List AObj→Prop} {τ:Nat→AV} {h:List AObj} (hk:AWk P E N ops (Q .normal) ops τ h):AW P E N (.region id ops.toArray false) Q τ h:=by
 intro a w hr
 refine wp_region ?_
 have:=qRl ops 0 τ h a w (fun j=>by simp) hk hr
 simpa [List.range_eq_range'] using this
theorem qHm {P:Program} {E:Env} {N:Nat} {ops:List Oper} {Q:(Nat→AV)→List AObj→Prop} {τ:Nat→AV} {h:List AObj} (hq:Q τ h):AWk P E N ops Q [] τ h:=hq
def astep (T:Tr) (op:Op) (ρ:Operand→AV) (h:List AObj):Option (AV×List AObj×Prop) :=
 match vJe T op ρ with
 | some (v,C)=>qGz v fun v=>some (v,h,C)
 | none=>match vJf T op ρ h with
  | some (v,h')=>qGz v fun v=>qEo h' fun h'=>some (v,h',True)
  | none=>none
theorem qKm {P:Program} {E:Env} {T:Tr} (hT:TOk P T) {o:Oper} {τ:Nat→AV} {h h':List AObj} {v:AV} {C:Prop} (hs:astep T o.op (ev τ) h=some (v,h',C)) (hC:C):OpS P E o (ev τ) h v h':=by
 unfold astep at hs
 split at hs
 ·rename_i hp;rw [forceV_eq] at hs;cases hs;exact qAe (aopP_ok hT (fun _=>rfl) hp hC)
 ·split at hs
  ·rename_i hh;rw [forceV_eq,forceS_eq] at hs;cases hs;exact aopH_ok hT hh
  ·cases hs
def vIv (l:List (Nat×AV)) (dst:Option Tmp) (v:AV):List (Nat×AV):=match dst with
 | some d=>(d,v)::l
 | none=>l
theorem qPm (l:List (Nat×AV)) (dst:Option Tmp) (v:AV):look (vIv l dst v)=qMh (look l) dst v:=by
 cases dst <;> rfl
theorem qOt {P:Program} {E:Env} {N:Nat} {T:Tr} (hT:TOk P T) {ops:List Oper} {Q:(Nat→AV)→List AObj→Prop} {d:Nat} {op:Op} {ty:TypeId} {pos:String} {after:Array Edge} {rest:List Oper}
  {l:List (Nat×AV)} {h h':List AObj} {v:AV} {C:Prop} (hs:astep T op (ev (look l)) h=some (v,h',C)) (hd:Nat.blt d N=true) (hC:C) (hk:AWk P E N ops Q rest (look ((d,v)::l)) h') :
  AWk P E N ops Q (⟨some d,op,ty,pos,after,none⟩::rest) (look l) h :=
 ⟨_,⟨hd,qDg (qKm hT hs hC)⟩,fun v' h'' ⟨h1,h2⟩=>by subst h1;subst h2;exact hk⟩
theorem vAu {P:Program} {E:Env} {N:Nat} {T:Tr} (hT:TOk P T) {ops:List Oper} {Q:(Nat→AV)→List AObj→Prop} {op:Op} {ty:TypeId} {pos:String} {after:Array Edge} {rest:List Oper}
  {l:List (Nat×AV)} {h h':List AObj} {v:AV} {C:Prop} (hs:astep T op (ev (look l)) h=some (v,h',C)) (hC:C) (hk:AWk P E N ops Q rest (look l) h') :
  AWk P E N ops Q (⟨none,op,ty,pos,after,none⟩::rest) (look l) h :=
 ⟨_,⟨rfl,qDg (qKm hT hs hC)⟩,fun v' h'' ⟨h1,h2⟩=>by subst h1;subst h2;exact hk⟩
theorem qAd {P:Program} {E:Env} {N:Nat} {ops:List Oper} {Q:(Nat→AV)→List AObj→Prop} {d:Nat} {op:Op} {ty:TypeId} {pos:String} {after:Array Edge} {rest:List Oper}
  {l:List (Nat×AV)} {h h':List AObj} {v:AV} (hs:OpS P E ⟨some d,op,ty,pos,after,none⟩ (ev (look l)) h v h') (hd:Nat.blt d N=true) (hk:AWk P E N ops Q rest (look ((d,v)::l)) h') :
  AWk P E N ops Q (⟨some d,op,ty,pos,after,none⟩::rest) (look l) h :=
 ⟨_,⟨hd,qDg hs⟩,fun v' h'' ⟨h1,h2⟩=>by subst h1;subst h2;exact hk⟩
theorem qDx {P:Program} {E:Env} {N:Nat} {ops:List Oper} {Q:(Nat→AV)→List AObj→Prop} {d:Nat} {op:Op} {ty:TypeId} {pos:String} {after:Array Edge} {rest:List Oper}
  {l:List (Nat×AV)} {h:List AObj} {R:AV→List AObj→Prop} (hs:OpR P E ⟨some d,op,ty,pos,after,none⟩ (ev (look l)) h R) (hd:Nat.blt d N=true) (hk:∀ v h',R v h'→AWk P E N ops Q rest (look ((d,v)::l)) h') :
  AWk P E N ops Q (⟨some d,op,ty,pos,after,none⟩::rest) (look l) h :=
 ⟨_,⟨hd,hs⟩,hk⟩
def ung:AV→AV
 | .gd _ v=>v
 | v=>v
def qSu (τ:Nat→AV):List Operand→Prop
 | []=>True
 | x::l=>match ev τ x with
  | .gd b _=>b=true∧qSu τ l
  | _=>qSu τ l
def evU (τ:Nat→AV) (x:Operand):AV:=ung (ev τ x)
def evG (τ:Nat→AV) (op:Op) (x:Operand):AV:=match op with
 | .pick c _ _=>match c,x with
  | .tmp i,.tmp j=>bif Nat.beq i j then evU τ x else ev τ x
  | _,_=>ev τ x
 | _=>evU τ x
def qXb (op:Op):List Operand:=match op with
 | .pick c _ _=>[c]
 | op=>op.operands.toList
theorem qYg (z:Value):ung (qJx z)=qJx z:=by
 unfold qJx;split <;> rfl
theorem gAll_at {τ:Nat→AV}:∀ {l:List Operand},qSu τ l→∀ x,x∈l→∀ b v,ev τ x=.gd b v→b=true
 | [],_,x,hx,_,_,_=>by cases hx
 | y::l,h,x,hx,b,v,he=>by
  unfold qSu at h
  split at h
  ·rename_i b' v' hy
   cases hx with
   | head=>rw [he] at hy;cases hy;exact h.1
   | tail _ hx=>exact gAll_at h.2 x hx b v he
  ·rename_i hn
   cases hx with
   | head=>exact absurd he (hn _ _)
   | tail _ hx=>exact gAll_at h x hx b v he
theorem evU_rep {G:Gh} {τ:Nat→AV} {x:Operand} {v:Value} (hr:RepA G (ev τ x) v) (hg:∀ b u,ev τ x=.gd b u→b=true):RepA G (evU τ x) v:=by
 unfold evU
 cases hv:ev τ x <;> rw [hv] at hr <;> try exact hr
 exact hr.gd_inv (hg _ _ hv)
theorem evG_rep {G:Gh} {τ:Nat→AV} {op:Op} (hg:qSu τ (qXb op)) {x:Operand} {v:Value} (hx:x∈op.operands.toList) (hr:RepA G (ev τ x) v):RepA G (evG τ op x) v:=by
 unfold evG
 split
 ·rename_i c a b
  split
  ·rename_i i j
   cases hb:Nat.beq i j with
   | true =>
    obtain rfl:=Nat.eq_of_beq_eq_true hb
    exact evU_rep hr (gAll_at hg _ (by simp [qXb]))
   | false=>exact hr
  ·exact hr
 ·rename_i hne
  refine evU_rep hr (gAll_at hg x ?_)
  unfold qXb
  split
  ·rename_i c a b;exact absurd rfl (hne c a b)
  ·exact hx
theorem vGm {P:Program} {E:Env} {o:Oper} {τ:Nat→AV} {h:List AObj} {R:AV→List AObj→Prop} (hg:qSu τ (qXb o.op)) (H:OpR P E o (evG τ o.op) h R):OpR P E o (ev τ) h R :=
 fun G a w hw hr=>H G a w hw fun x hx=>evG_rep hg hx (hr x hx)
theorem evG_const (τ:Nat→AV) (op:Op) (z:Value):evG τ op (.const z)=qJx z:=by
 unfold evG
 split
 ·rename_i c a b;cases c <;> rfl
 ·exact qYg z
theorem astepU_ok {P:Program} {E:Env} {T:Tr} (hT:TOk P T) {o:Oper} {τ:Nat→AV} {h h':List AObj} {v:AV} {C:Prop} (hs:astep T o.op (evG τ o.op) h=some (v,h',C)) (hC:C):OpS P E o (evG τ o.op) h v h':=by
 unfold astep at hs
 split at hs
 ·rename_i hp;rw [forceV_eq] at hs;cases hs;exact qAe (aopP_ok hT (fun z=>evG_const τ _ z) hp hC)
 ·split at hs
  ·rename_i hh;rw [forceV_eq,forceS_eq] at hs;cases hs;exact aopH_ok hT hh
  ·cases hs
theorem vDj {P:Program} {E:Env} {o:Oper} {ρ:Operand→AV} {h:List AObj} {R R':AV→List AObj→Prop} (H:OpR P E o ρ h R) (hR:∀ v h',R v h'→∃ v',R' v' h'∧∀ G x,RepA G v x→RepA G v' x):OpR P E o ρ h R':=by
 intro G a w hw hr
 refine qFi ?_ (H G a w hw hr)
 rintro a' w' ⟨u,G',v,h',h0,h1,h2,h3,h4⟩
 obtain ⟨v',k1,k2⟩:=hR v h' h0
 exact ⟨u,G',v',h',k1,h1,h2,h3,k2 _ _ h4⟩
def gval (b want:Bool):Bool:=match want with
 | true=>b
 | false=>!b
theorem qZq {b want:Bool}:gval b want=true↔b=want:=by cases b <;> cases want <;> simp [gval]
def gslot (ops:List Oper) (l:List (Nat×AV)) (j:Nat) (want:Bool):Option (Nat×Bool):=match ops[j]? with
 | some o=>match o.dst with
  | some d=>match look l d with
   | .d (.bool b)=>some (d,gval b want)
   | .gd g (.d (.bool b))=>some (d,g&&gval b want)
   | _=>none
  | none=>none
 | none=>none
theorem vCp {ops:List Oper} {l:List (Nat×AV)} {j d:Nat} {want ex:Bool} (h:gslot ops l j want=some (d,ex)):(ops.toArray[j]?).bind (·.dst)=some d∧∀ G v,RepA G (look l d) v→(v=.bool want↔ex=true):=by
 unfold gslot at h
 split at h
 ·rename_i o ho
  split at h
  ·rename_i d' hd
   split at h
   ·rename_i b' hl
    cases h
    refine ⟨by simp [ho,hd],fun G v hr=>?_⟩
    rw [hl] at hr
    rw [hr.bool_inv,qZq];simp
   ·rename_i g b' hl
    cases h
    refine ⟨by simp [ho,hd],fun G v hr=>?_⟩
    rw [hl] at hr
    cases g with
    | true=>rw [(hr.gd_inv rfl).bool_inv,Bool.true_and,qZq];simp
    | false=>rw [hr.gd_undef rfl];simp [undef]
   ·cases h
  ·cases h
 ·cases h
theorem qGs {P:Program} {E:Env} {N:Nat} {ops:List Oper} {o:Oper} {l:List (Nat×AV)} {h:List AObj} {v:AV} {j gd:Nat} {want ex:Bool} (hgd':o.guard=some (j,want)) (hg:gslot ops l j want=some (gd,ex)) (hd:qSy N o=true) (hgd:Nat.blt gd N=true)
  (H:ex=true→qSu (look l) (qXb o.op)∧OpS P E o (evG (look l) o.op) h v h):StepR P E N ops.toArray o (look l) h (fun a b=>a=.gd ex v∧b=h):=by
 obtain ⟨g1,g2⟩:=vCp hg
 refine ⟨hd,?_⟩
 rw [hgd']
 refine ⟨gd,ex,g1,hgd,g2,fun hb=>?_,fun hb=>⟨_,⟨rfl,rfl⟩,fun G=>.gd (fun hh=>by rw [hb] at hh;cases hh) (fun _=>rfl)⟩⟩
 have hc:=H hb
 refine vGm hc.1 (vDj (qDg hc.2) ?_)
 rintro v' h' ⟨rfl,rfl⟩
 exact ⟨_,⟨rfl,rfl⟩,fun G x hx=>.gd (fun _=>hx) (fun hh=>by rw [hb] at hh;cases hh)⟩
theorem vAv {P:Program} {E:Env} {N:Nat} {T:Tr} (hT:TOk P T) {ops:List Oper} {Q:(Nat→AV)→List AObj→Prop} {d:Nat} {op:Op} {ty:TypeId} {pos:String} {after:Array Edge} {j:Nat} {want:Bool} {rest:List Oper}
  {l:List (Nat×AV)} {h:List AObj} {v:AV} {C:Prop} {gd:Nat} {ex:Bool} (hg:gslot ops l j want=some (gd,ex)) (hs:astep T op (evG (look l) op) h=some (v,h,C)) (hd:Nat.blt d N=true) (hgd:Nat.blt gd N=true)
  (hC:ex=true→qSu (look l) (qXb op)∧C) (hk:AWk P E N ops Q rest (look ((d,.gd ex v)::l)) h) :
  AWk P E N ops Q (⟨some d,op,ty,pos,after,some (j,want)⟩::rest) (look l) h :=
 ⟨_,qGs rfl hg hd hgd (fun hb=>⟨(hC hb).1,astepU_ok (o:=⟨some d,op,ty,pos,after,some (j,want)⟩) hT hs (hC hb).2⟩),fun v' h'' ⟨h1,h2⟩=>by subst h1;subst h2;exact hk⟩
theorem qCd {P:Program} {E:Env} {N:Nat} {ops:List Oper} {Q:(Nat→AV)→List AObj→Prop} {d:Nat} {op:Op} {ty:TypeId} {pos:String} {after:Array Edge} {j:Nat} {want:Bool} {rest:List Oper}
  {l:List (Nat×AV)} {h:List AObj} {v:AV} {gd:Nat} {ex:Bool} (hg:gslot ops l j want=some (gd,ex)) (hd:Nat.blt d N=true) (hgd:Nat.blt gd N=true)
  (hC:ex=true→qSu (look l) (qXb op)∧OpS P E ⟨some d,op,ty,pos,after,some (j,want)⟩ (evG (look l) op) h v h) (hk:AWk P E N ops Q rest (look ((d,.gd ex v)::l)) h) :
  AWk P E N ops Q (⟨some d,op,ty,pos,after,some (j,want)⟩::rest) (look l) h :=
 ⟨_,qGs rfl hg hd hgd hC,fun v' h'' ⟨h1,h2⟩=>by subst h1;subst h2;exact hk⟩
def qFz (h:List AObj):List Nat→List AObj→List AObj
 | j::fs,o::os=>qFz (h.set j o) fs os
 | _,_=>h
theorem updH_length:∀ (fs:List Nat) (os h:List AObj),(qFz h fs os).length=h.length
 | [],os,h=>by cases os <;> rfl
 | j::fs,[],h=>rfl
 | j::fs,o::os,h=>by simp [qFz,updH_length fs os]
theorem updH_other:∀ (fs:List Nat) (os h:List AObj) (j:Nat),j∉fs→(qFz h fs os)[j]?=h[j]?
 | [],os,h,j,_=>by cases os <;> rfl
 | a::fs,[],h,j,_=>rfl
 | a::fs,o::os,h,j,hn=>by
  simp only [List.mem_cons,not_or] at hn
  rw [qFz,updH_other fs os _ j hn.2,List.getElem?_set_ne (by omega)]
theorem updH_comm:∀ (fs gs:List Nat) (os qs h:List AObj),(∀ x,x∈fs→x∉gs)→qFz (qFz h fs os) gs qs=qFz (qFz h gs qs) fs os
 | [],gs,os,qs,h,_=>by cases os <;> rfl
 | a::fs,gs,[],qs,h,_=>rfl
 | a::fs,gs,o::os,qs,h,hd=>by
  rw [qFz,qFz,updH_comm fs gs os qs _ (fun x hx=>hd x (List.mem_cons_of_mem _ hx))]
  congr 1
  have ha:a∉gs:=hd a List.mem_cons_self
  have one:∀ (gs:List Nat) (qs h:List AObj),a∉gs→qFz (h.set a o) gs qs=(qFz h gs qs).set a o:=by
   intro gs
   induction gs with
   | nil=>intro qs h _;cases qs <;> rfl
   | cons b gs ih =>
    intro qs h hn
    simp only [List.mem_cons,not_or] at hn
    cases qs with
    | nil=>rfl
    | cons q qs =>
     rw [qFz,qFz,List.set_comm _ _ hn.1]
     exact ih qs _ hn.2
  exact one gs qs h ha
section
variable {P:Program} {E:Env} {N:Nat} {ops:Array Oper}
theorem qQy {o:Oper} {ρ ρ':Operand→AV} {h:List AObj} {R:AV→List AObj→Prop} (hc:∀ x,x∈o.op.operands.toList→ρ' x=ρ x) (H:OpR P E o ρ h R):OpR P E o ρ' h R :=
 fun G a w hw hr=>H G a w hw fun x hx=>by rw [← hc x hx];exact hr x hx
def SI (P:Program) (E:Env) (N:Nat) (ops:Array Oper) (rd wr:Nat→List Nat) (i:Nat) (o:Oper) (τ:Nat→AV) (h:List AObj) (v:AV) (os:List AObj):Prop :=
 ∀ k:List AObj,k.length=h.length→(∀ j,j∈rd i→k[j]?=h[j]?)→StepR P E N ops o τ k (fun a b=>a=v∧b=qFz k (wr i) os)
theorem qTi {o:Oper} {τ τ':Nat→AV} {h:List AObj} {R:AV→List AObj→Prop} (hc:∀ d,d∈o.looksAt ops→τ' d=τ d) (H:StepR P E N ops o τ h R):StepR P E N ops o τ' h R:=by
 obtain ⟨h1,h2⟩:=H
 have hop:∀ x,x∈o.op.operands.toList→ev τ' x=ev τ x:=by
  intro x hx
  cases x with
  | tmp t =>
   refine hc t ?_
   unfold Oper.looksAt
   exact List.mem_append.2 (.inl (List.mem_filterMap.2 ⟨.tmp t,hx,rfl⟩))
  | _=>rfl
 refine ⟨h1,?_⟩
 cases hg:o.guard with
 | none=>rw [hg] at h2;exact qQy hop h2
 | some g =>
  obtain ⟨j,want⟩:=g
  rw [hg] at h2
  obtain ⟨d,ex,k1,k2,k3,k4,k5⟩:=h2
  have hd:τ' d=τ d:=hc d (by
   unfold Oper.looksAt
   rw [hg]
   exact List.mem_append.2 (.inr (by simp [k1])))
  exact ⟨d,ex,k1,k2,by rw [hd];exact k3,fun hb=>qQy hop (k4 hb),k5⟩
theorem SI.congr {rd wr:Nat→List Nat} {i:Nat} {o:Oper} {τ τ':Nat→AV} {h h' os:List AObj} {v:AV} (hc:∀ d,d∈o.looksAt ops→τ' d=τ d) (hl:h'.length=h.length) (hh:∀ j,j∈rd i→h'[j]?=h[j]?)
  (H:SI P E N ops rd wr i o τ h v os):SI P E N ops rd wr i o τ' h' v os :=
 fun k h1 h2=>qTi hc (H k (h1.trans hl) fun j hj=>(h2 j hj).trans (hh j hj))
theorem putA_other {τ:Nat→AV} {dst:Option Tmp} {v:AV} {d:Nat} (h:∀ e,dst=some e→e≠d):qMh τ dst v d=τ d:=by
 cases dst with
 | none=>rfl
 | some e =>
  have:=h e rfl
  show (bif Nat.beq d e then v else τ d)=τ d
  have hb:Nat.beq d e=false:=by
   cases hb:Nat.beq d e with
   | false=>rfl
   | true=>exact absurd (Nat.eq_of_beq_eq_true hb).symm this
  rw [hb];rfl
theorem putA_comm {τ:Nat→AV} {x y:Option Tmp} {v u:AV} (h:∀ d,x=some d→y≠some d):qMh (qMh τ x v) y u=qMh (qMh τ y u) x v:=by
 funext t
 cases x with
 | none=>rfl
 | some a =>
  cases y with
  | none=>rfl
  | some b =>
   have hab:a≠b:=fun hh=>h a rfl (by rw [hh])
   show (bif Nat.beq t b then u else (bif Nat.beq t a then v else τ t))=(bif Nat.beq t a then v else (bif Nat.beq t b then u else τ t))
   cases hb:Nat.beq t b with
   | false=>rfl
   | true =>
    cases ha:Nat.beq t a with
    | false=>rfl
    | true=>exact absurd ((Nat.eq_of_beq_eq_true ha).symm.trans (Nat.eq_of_beq_eq_true hb)) hab
def qNi (P:Program) (E:Env) (N:Nat) (ops:Array Oper) (rd wr:Nat→List Nat) (i:Nat) (K:(Nat→AV)→List AObj→Prop) (τ:Nat→AV) (h:List AObj):Prop :=
 match ops[i]? with
 | none=>K τ h
 | some o=>∃ v os,SI P E N ops rd wr i o τ h v os∧K (qMh τ o.dst v) (qFz h (wr i) os)
def vDe (P:Program) (E:Env) (N:Nat) (ops:Array Oper) (rd wr:Nat→List Nat) (Q:(Nat→AV)→List AObj→Prop):Nat→Array Bool→(Nat→AV)→List AObj→Prop
 | 0,listed,τ,h=>Region.ready .any ops listed=[]∧Q τ h
 | fuel+1,listed,τ,h=>(Region.ready .any ops listed=[]→Q τ h)∧∀ i,i∈Region.ready .any ops listed→qNi P E N ops rd wr i (vDe P E N ops rd wr Q fuel (listed.setIfInBounds i true)) τ h
theorem anyA_sound {rd wr:Nat→List Nat} {Q:Exit→(Nat→AV)→List AObj→Prop}:∀ (fuel:Nat) (listed:Array Bool) (τ:Nat→AV) (h:List AObj) (a:Act) (w:World),vDe P E N ops rd wr (Q .normal) fuel listed τ h→Rel E N τ h a w →
  wpAny P .any ops (fun ex a' w'=>∃ τ' h',Q ex τ' h'∧Rel E N τ' h' a' w') fuel listed a w
 | 0,_,τ,h,_,_,H,hr=>⟨H.1,τ,h,H.2,hr⟩
 | fuel+1,listed,τ,h,a,w,H,hr=>by
  refine ⟨fun h0=>⟨τ,h,H.1 h0,hr⟩,fun i hi=>?_⟩
  have hs:=H.2 i hi
  unfold qNi at hs
  split at hs
  ·rename_i ho
   unfold wpOp
   simp only [ho]
   exact anyA_sound fuel _ τ h a w hs hr
  ·rename_i o ho
   obtain ⟨v,os,hsi,hk⟩:=hs
   exact qMr ho (hsi h rfl fun _ _=>rfl) hr fun v' h'' a' w' ⟨h1,h2⟩ hrel=>by
    subst h1;subst h2
    exact anyA_sound fuel _ _ _ a' w' hk hrel
def meets (a b:List Nat):Bool:=a.any fun x=>b.contains x
def conf (rd wr:Nat→List Nat) (i j:Nat):Bool:=meets (wr i) (rd j)||meets (wr i) (wr j)||meets (wr j) (rd i)
theorem qFa {a b:List Nat} (h:meets a b=false):∀ x,x∈a→x∉b:=by
 intro x hx hb
 unfold meets at h
 rw [List.any_eq_false] at h
 exact h x hx (by simpa using hb)
theorem anyA_first {rd wr:Nat→List Nat} {Q:(Nat→AV)→List AObj→Prop} {i:Nat} {oi:Oper} {v:AV} {osi:List AObj} (hi:ops[i]?=some oi):∀ (fuel:Nat) (listed:Array Bool) (τ:Nat→AV) (h:List AObj),
  (∀ j oj,ops[j]?=some oj→j≠i→listed.getD j true=false→(∀ e∈oj.after,Region.binds .any e=true→e.on≠i)→oi.apart ops oj=true∧conf rd wr i j=false) →
  i∈Region.ready .any ops listed→SI P E N ops rd wr i oi τ h v osi→vDe P E N ops rd wr Q fuel (listed.setIfInBounds i true) (qMh τ oi.dst v) (qFz h (wr i) osi)→vDe P E N ops rd wr Q (fuel+1) listed τ h:=by
 intro fuel
 have own:∀ (listed:Array Bool) (τ:Nat→AV) (h:List AObj) (K:(Nat→AV)→List AObj→Prop),SI P E N ops rd wr i oi τ h v osi→K (qMh τ oi.dst v) (qFz h (wr i) osi)→qNi P E N ops rd wr i K τ h:=by
  intro listed τ h K hs hk
  unfold qNi
  simp only [hi]
  exact ⟨v,osi,hs,hk⟩
 induction fuel with
 | zero =>
  intro listed τ h _ hr hy H
  refine ⟨fun h0=>(by rw [h0] at hr;cases hr),fun j hj=>?_⟩
  by_cases hji:j=i
  ·subst hji;exact own listed τ h _ hy H
  ·have:=ready_mono hj hji
   rw [H.1] at this
   cases this
 | succ fuel ih =>
  intro listed τ h hfree hr hy H
  refine ⟨fun h0=>(by rw [h0] at hr;cases hr),fun j hj=>?_⟩
  by_cases hji:j=i
  ·subst hji;exact own listed τ h _ hy H
  ·have hs:=H.2 j (ready_mono hj hji)
   obtain ⟨hjun,oj,hoj,hall⟩:=mem_ready.1 hj
   have hnot:∀ e∈oj.after,Region.binds .any e=true→e.on≠i:=fun e he hb heq=>by
    have h1:=hall e he hb
    have h0:=(mem_ready.1 hr).1
    rw [heq] at h1
    rcases Nat.lt_or_ge i listed.size with h' | h'
    ·simp [h'] at h0 h1;rw [h0] at h1;cases h1
    ·simp [Array.getElem?_eq_none h'] at h1
   obtain ⟨hap,hcf⟩:=hfree j oj hoj hji hjun hnot
   obtain ⟨a1,a2,a3⟩:=Oper.apart_spec hap
   simp only [conf,Bool.or_eq_false_iff] at hcf
   obtain ⟨⟨f1,f2⟩,f3⟩:=hcf
   have f1:=qFa f1
   have f2:=qFa f2
   have f3:=qFa f3
   unfold qNi at hs ⊢
   simp only [hoj] at hs ⊢
   obtain ⟨vj,osj,hsj,hk⟩:=hs
   have cj:∀ d,d∈oj.looksAt ops→τ d=qMh τ oi.dst v d:=fun d hd=>(putA_other fun e he hh=>a1 e he (hh▸hd)).symm
   have ci:∀ u d,d∈oi.looksAt ops→qMh τ oj.dst u d=τ d:=fun u d hd=>putA_other fun e he hh=>a3 e he (hh▸hd)
   have hfree':∀ k ok,ops[k]?=some ok→k≠i→(listed.setIfInBounds j true).getD k true=false→(∀ e∈ok.after,Region.binds .any e=true→e.on≠i)→oi.apart ops ok=true∧conf rd wr i k=false:=fun k ok hk' hki hun hno=>by
    refine hfree k ok hk' hki ?_ hno
    by_cases hjk:j=k
    ·subst hjk;exact hjun
    ·rw [getD_set_ne true hjk] at hun;exact hun
   refine ⟨vj,osj,hsj.congr cj (by rw [updH_length]) (fun x hx=>(updH_other _ _ _ _ (fun hw=>f1 x hw hx)).symm),ih _ _ _ hfree' (ready_mono hr (Ne.symm hji)) (hy.congr (ci vj) (by rw [updH_length]) (fun x hx=>updH_other _ _ _ _ (fun hw=>f3 x hw hx))) ?_⟩
   rw [Array.setIfInBounds_comm _ _ hji,← putA_comm a2,← updH_comm _ _ _ _ _ f2]
   exact hk
def AWd (P:Program) (E:Env) (N:Nat) (ops:List Oper) (rd wr:Nat→List Nat) (Q:(Nat→AV)→List AObj→Prop):List Oper→Nat→(Nat→AV)→List AObj→Prop
 | [],_,τ,h=>Q τ h
 | o::rest,i,τ,h=>∃ v os,SI P E N ops.toArray rd wr i o τ h v os∧AWd P E N ops rd wr Q rest (i+1) (qMh τ o.dst v) (qFz h (wr i) os)
def vFo (ops:Array Oper) (rd wr:Nat→List Nat) (listed:Array Bool) (i:Nat):Bool :=
 match ops[i]? with
 | none=>false
 | some oi=>(List.range ops.size).all fun j=>j == i||listed.getD j true||match ops[j]? with
   | some oj=>oj.after.any (fun e=>Region.binds .any e&&e.on == i)||(oi.apart ops oj&&!conf rd wr i j)
   | none=>true
theorem freeD_spec {rd wr:Nat→List Nat} {i:Nat} {oi:Oper} {listed:Array Bool} (hi:ops[i]?=some oi) (h:vFo ops rd wr listed i=true) (j:Nat) (oj:Oper)
  (hj:ops[j]?=some oj) (hne:j≠i) (hun:listed.getD j true=false) (hno:∀ e∈oj.after,Region.binds .any e=true→e.on≠i):oi.apart ops oj=true∧conf rd wr i j=false:=by
 simp only [vFo,hi,List.all_eq_true,List.mem_range] at h
 have h1:=h j (Array.getElem?_eq_some_iff.1 hj).1
 simp only [hj,Bool.or_eq_true,beq_iff_eq,hne,false_or,hun,Bool.false_eq_true] at h1
 rcases h1 with h1 | h1
 ·obtain ⟨e,he,hb⟩:=Array.any_eq_true'.1 h1
  simp only [Bool.and_eq_true,beq_iff_eq] at hb
  exact absurd hb.2 (hno e he hb.1)
 ·simpa using h1
def vDw (ops:Array Oper) (rd wr:Nat→List Nat):Nat→Nat→Array Bool→Bool
 | 0,_,listed=>(Region.ready .any ops listed).isEmpty
 | fuel+1,k,listed=>(Region.ready .any ops listed).contains k&&vFo ops rd wr listed k&&vDw ops rd wr fuel (k+1) (listed.setIfInBounds k true)
theorem qUx {rd wr:Nat→List Nat} {ops:List Oper} {Q:(Nat→AV)→List AObj→Prop}:∀ (l:List Oper) (k:Nat) (listed:Array Bool) (τ:Nat→AV) (h:List AObj),(∀ j,l[j]?=ops[k+j]?) →
  vDw ops.toArray rd wr l.length k listed=true→AWd P E N ops rd wr Q l k τ h→vDe P E N ops.toArray rd wr Q l.length listed τ h
 | [],_,_,_,_,_,hB,H=>⟨by simpa [vDw] using hB,H⟩
 | o::l,k,listed,τ,h,hl,hB,H=>by
  have h0:ops.toArray[k]?=some o:=by simpa using (hl 0).symm
  simp only [List.length_cons,vDw,Bool.and_eq_true] at hB
  obtain ⟨⟨hr,hf⟩,hB'⟩:=hB
  obtain ⟨v,os,hs,hk⟩:=H
  exact anyA_first h0 l.length listed τ h (freeD_spec h0 hf) (by simpa using hr) hs
   (qUx l (k+1) _ _ _ (fun j=>by have:=hl (j+1);simpa [Nat.add_assoc,Nat.add_comm 1 j] using this) hB' hk)
theorem Rel.drew {τ:Nat→AV} {h:List AObj} {a:Act} {w:World} (hr:Rel E N τ h a w):Rel E N τ h a { w with drawn:=w.drawn+1 }:=by
 obtain ⟨h1,h2,G,hw,h3⟩:=hr
 refine ⟨h1,h2,G,⟨hw.le,hw.imm,hw.immNew,hw.keep,hw.size,hw.os,hw.tape,hw.output,hw.own,hw.fresh,fun i ob hi=>?_⟩,h3⟩
 exact (hw.obj i ob hi).keep (.refl G) (fun b _=>⟨rfl,fun _ _=>rfl⟩) (fun _ hn=>hn) (fun hn=>hn)
theorem qBu {id:Nat} (rd wr:Nat→List Nat) {ops:List Oper} {Q:Exit→(Nat→AV)→List AObj→Prop} {τ:Nat→AV} {h:List AObj} (hm:P.follows .mixedOrders=true)
  (hB:vDw ops.toArray rd wr ops.length 0 (Array.replicate ops.length false)=true) (H:AWd P E N ops rd wr (Q .normal) ops 0 τ h):AW P E N (.region id ops.toArray true) Q τ h:=by
 intro a w hr
 refine wp_region_any hm ?_
 have:=qUx (P:=P) (E:=E) (N:=N) ops 0 _ τ h (fun j=>by simp) hB H
 have:=anyA_sound (Q:=Q) _ _ _ _ a _ this hr.drew
 simpa using this
theorem vGq {id:Nat} {ops:List Oper} {Q:Exit→(Nat→AV)→List AObj→Prop} {τ:Nat→AV} {h:List AObj} (hm:P.follows .mixedOrders=true)
  (hB:vDw ops.toArray (fun _=>List.range h.length) (fun _=>[]) ops.length 0 (Array.replicate ops.length false)=true) (H:AWd P E N ops (fun _=>List.range h.length) (fun _=>[]) (Q .normal) ops 0 τ h):AW P E N (.region id ops.toArray true) Q τ h :=
 qBu _ _ hm hB H
theorem qMb {rd wr:Nat→List Nat} {ops:List Oper} {Q:(Nat→AV)→List AObj→Prop} {i:Nat} {τ:Nat→AV} {h:List AObj} (hq:Q τ h):AWd P E N ops rd wr Q [] i τ h:=hq
theorem qHs {h k:List AObj} (hl:k.length=h.length) (hh:∀ j,j∈List.range h.length→k[j]?=h[j]?):k=h:=by
 apply List.ext_getElem?
 intro j
 by_cases hj:j < h.length
 ·exact hh j (List.mem_range.2 hj)
 ·rw [List.getElem?_eq_none (by omega),List.getElem?_eq_none (by omega)]
theorem updH_nil (k os:List AObj):qFz k [] os=k:=by cases os <;> rfl
theorem vDo {T:Tr} (hT:TOk P T) {n:Nat} {ops:List Oper} {Q:(Nat→AV)→List AObj→Prop} {i d:Nat} {op:Op} {ty:TypeId} {pos:String} {after:Array Edge} {rest:List Oper}
  {l:List (Nat×AV)} {h:List AObj} {v:AV} {C:Prop} (hs:astep T op (ev (look l)) h=some (v,h,C)) (hd:Nat.blt d N=true) (hn:h.length=n) (hC:C) (hk:AWd P E N ops (fun _=>List.range n) (fun _=>[]) Q rest (i+1) (look ((d,v)::l)) h) :
  AWd P E N ops (fun _=>List.range n) (fun _=>[]) Q (⟨some d,op,ty,pos,after,none⟩::rest) i (look l) h:=by
 subst hn
 refine ⟨v,[],fun k h1 h2=>?_,hk⟩
 have:k=h:=qHs h1 h2
 subst this
 exact ⟨hd,qDg (qKm hT hs hC)⟩
theorem vAx {T:Tr} (hT:TOk P T) {n:Nat} {ops:List Oper} {Q:(Nat→AV)→List AObj→Prop} {i d:Nat} {op:Op} {ty:TypeId} {pos:String} {after:Array Edge} {j:Nat} {want:Bool} {rest:List Oper}
  {l:List (Nat×AV)} {h:List AObj} {v:AV} {C:Prop} {gd:Nat} {ex:Bool} (hg:gslot ops l j want=some (gd,ex)) (hs:astep T op (evG (look l) op) h=some (v,h,C)) (hd:Nat.blt d N=true) (hgd:Nat.blt gd N=true) (hn:h.length=n)
  (hC:ex=true→qSu (look l) (qXb op)∧C) (hk:AWd P E N ops (fun _=>List.range n) (fun _=>[]) Q rest (i+1) (look ((d,.gd ex v)::l)) h) :
  AWd P E N ops (fun _=>List.range n) (fun _=>[]) Q (⟨some d,op,ty,pos,after,some (j,want)⟩::rest) i (look l) h:=by
 subst hn
 refine ⟨_,[],fun k h1 h2=>?_,hk⟩
 have:k=h:=qHs h1 h2
 subst this
 exact qGs rfl hg hd hgd (fun hb=>⟨(hC hb).1,astepU_ok (o:=⟨some d,op,ty,pos,after,some (j,want)⟩) hT hs (hC hb).2⟩)
theorem qCb {n:Nat} {ops:List Oper} {Q:(Nat→AV)→List AObj→Prop} {i d:Nat} {op:Op} {ty:TypeId} {pos:String} {after:Array Edge} {rest:List Oper}
  {l:List (Nat×AV)} {h:List AObj} {v:AV} (hs:OpS P E ⟨some d,op,ty,pos,after,none⟩ (ev (look l)) h v h) (hd:Nat.blt d N=true) (hn:h.length=n)
  (hk:AWd P E N ops (fun _=>List.range n) (fun _=>[]) Q rest (i+1) (look ((d,v)::l)) h):AWd P E N ops (fun _=>List.range n) (fun _=>[]) Q (⟨some d,op,ty,pos,after,none⟩::rest) i (look l) h:=by
 subst hn
 refine ⟨v,[],fun k h1 h2=>?_,hk⟩
 have:k=h:=qHs h1 h2
 subst this
 exact ⟨hd,qDg hs⟩
theorem qCa {n:Nat} {ops:List Oper} {Q:(Nat→AV)→List AObj→Prop} {i d:Nat} {op:Op} {ty:TypeId} {pos:String} {after:Array Edge} {j:Nat} {want:Bool} {rest:List Oper}
  {l:List (Nat×AV)} {h:List AObj} {v:AV} {gd:Nat} {ex:Bool} (hg:gslot ops l j want=some (gd,ex)) (hd:Nat.blt d N=true) (hgd:Nat.blt gd N=true) (hn:h.length=n)
  (hC:ex=true→qSu (look l) (qXb op)∧OpS P E ⟨some d,op,ty,pos,after,some (j,want)⟩ (evG (look l) op) h v h) (hk:AWd P E N ops (fun _=>List.range n) (fun _=>[]) Q rest (i+1) (look ((d,.gd ex v)::l)) h) :
  AWd P E N ops (fun _=>List.range n) (fun _=>[]) Q (⟨some d,op,ty,pos,after,some (j,want)⟩::rest) i (look l) h:=by
 subst hn
 refine ⟨_,[],fun k h1 h2=>?_,hk⟩
 have:k=h:=qHs h1 h2
 subst this
 exact qGs rfl hg hd hgd hC
theorem vDm {T:Tr} (hT:TOk P T) {rd wr:Nat→List Nat} {ops:List Oper} {Q:(Nat→AV)→List AObj→Prop} {i:Nat} {dst:Option Tmp} {op:Op} {ty:TypeId} {pos:String} {after:Array Edge} {rest:List Oper}
  {l:List (Nat×AV)} {h:List AObj} {v:AV} {C:Prop} (hs:∀ k,astep T op (ev (look l)) k=some (v,k,C)) (hd:qSy N ⟨dst,op,ty,pos,after,none⟩=true) (hw:wr i=[]) (hC:C) (hk:AWd P E N ops rd wr Q rest (i+1) (look (vIv l dst v)) h) :
  AWd P E N ops rd wr Q (⟨dst,op,ty,pos,after,none⟩::rest) i (look l) h:=by
 refine ⟨v,[],fun k h1 h2=>?_,by rw [hw,updH_nil,← qPm];exact hk⟩
 rw [hw]
 simp only [updH_nil]
 exact ⟨hd,qDg (qKm hT (hs k) hC)⟩
def qYj (T:Tr) (t:Nat) (cells:List AV) (off:Nat) (x:AV):Option (List AV):=qGz x fun x=>match qDz T t cells off x with
 | some c=>qEo c some
 | none=>none
theorem storeF_eq (T:Tr) (t:Nat) (cells:List AV) (off:Nat) (x:AV):qYj T t cells off x=qDz T t cells off x:=by
 unfold qYj;rw [forceV_eq];split
 ·rename_i h;rw [forceS_eq,h]
 ·rename_i h;rw [h]
def vCd (T:Tr) (t:Nat) (cells:List AV) (off:Nat):Option AV:=match qEv T t cells off with
 | some v=>qGz v some
 | none=>none
theorem loadF_eq (T:Tr) (t:Nat) (cells:List AV) (off:Nat):vCd T t cells off=qEv T t cells off:=by
 unfold vCd;split
 ·rename_i h;rw [forceV_eq,h]
 ·rename_i h;rw [h]
theorem vDn {T:Tr} (hT:TOk P T) {rd wr:Nat→List Nat} {ops:List Oper} {Q:(Nat→AV)→List AObj→Prop} {i d t j off:Nat} {x:Operand} {ty:TypeId} {pos:String} {after:Array Edge} {rest:List Oper} {cells:List AV}
  {l:List (Nat×AV)} {h:List AObj} {v:AV} (hx:ev (look l) x=.ptr j off) (hj:h[j]?=some (.row cells)) (hv:vCd T t cells off=some v) (hd:Nat.blt d N=true) (hr:j∈rd i) (hw:wr i=[])
  (hk:AWd P E N ops rd wr Q rest (i+1) (look ((d,v)::l)) h):AWd P E N ops rd wr Q (⟨some d,.load t x,ty,pos,after,none⟩::rest) i (look l) h:=by
 refine ⟨v,[],fun k h1 h2=>?_,by rw [hw,updH_nil];exact hk⟩
 rw [hw]
 simp only [updH_nil]
 rw [loadF_eq] at hv
 exact ⟨hd,qDg (qAo hT rfl hx ((h2 j hr).trans hj) hv)⟩
theorem vAw {T:Tr} (hT:TOk P T) {rd wr:Nat→List Nat} {ops:List Oper} {Q:(Nat→AV)→List AObj→Prop} {i t j off:Nat} {x y:Operand} {ty:TypeId} {pos:String} {after:Array Edge} {rest:List Oper} {cells cells':List AV}
  {l:List (Nat×AV)} {h:List AObj} (hx:ev (look l) x=.ptr j off) (hj:h[j]?=some (.row cells)) (hv:qYj T t cells off (ev (look l) y)=some cells') (hr:j∈rd i) (hw:wr i=[j])
  (hk:AWd P E N ops rd wr Q rest (i+1) (look l) (h.set j (.row cells'))):AWd P E N ops rd wr Q (⟨none,.store t x y,ty,pos,after,none⟩::rest) i (look l) h:=by
 refine ⟨.any,[.row cells'],fun k h1 h2=>?_,by rw [hw];exact hk⟩
 rw [hw]
 rw [storeF_eq] at hv
 exact ⟨rfl,qDg (qAp hT rfl hx ((h2 j hr).trans hj) hv)⟩
theorem qAm {rd wr:Nat→List Nat} {ops:List Oper} {Q:(Nat→AV)→List AObj→Prop} {i:Nat} {dst:Option Tmp} {op:Op} {ty:TypeId} {pos:String} {after:Array Edge} {rest:List Oper}
  {l:List (Nat×AV)} {h os:List AObj} {v:AV} (hs:∀ k:List AObj,k.length=h.length→(∀ j,j∈rd i→k[j]?=h[j]?)→OpS P E ⟨dst,op,ty,pos,after,none⟩ (ev (look l)) k v (qFz k (wr i) os)) (hd:qSy N ⟨dst,op,ty,pos,after,none⟩=true)
  (hk:AWd P E N ops rd wr Q rest (i+1) (look (vIv l dst v)) (qFz h (wr i) os)):AWd P E N ops rd wr Q (⟨dst,op,ty,pos,after,none⟩::rest) i (look l) h :=
 ⟨v,os,fun k h1 h2=>⟨hd,qDg (hs k h1 h2)⟩,by rw [← qPm];exact hk⟩
end
end Tdoc
