/- Part 6 of the proof: the texts R36 R37 R34 R38 R40 R32 R41 R42 R39. -/
import Derived.Test.YtelocejblpajcaaGreatDoorBG5
set_option linter.unusedSimpArgs false
set_option linter.unusedVariables false
namespace Tdoc
open Go
section
variable {P:Program} {T:Tr} {o:Oper} {ρ:Operand→AV}
theorem sliceArr_ok (hT:TOk P T) {t n sz:Nat} {g:Bool} {x:Operand} {es:List (List Dat)} (ho:o.op=.sliceToArrayPointer t x) (ht:vKc T t=some (n,sz,g)) (hx:ρ x=.d (.sl sz es)) (hn:0 < n∧n≤es.length) :
  OpP P o ρ (.iptr es.flatten):=by
 intro G e w hi hr
 have hx':RepA G (ρ x) (e x):=hr x (by simp [ho,Op.operands])
 rw [hx] at hx'
 obtain ⟨et,ie,h1,h2,h3,h4⟩:=arrT_ok hT ht
 have hd:RepD G.imm (.sl sz es) (e x):=by generalize e x=u at hx';cases hx' with | d r=>exact r
 obtain ⟨a,cap,hv,hnn,hp⟩:=hd.slice_inv
 cases a with
 | none=>have:=(hnn rfl).1;subst this;simp at hn;omega
 | some p =>
  obtain ⟨p1,p2,p3,vs,p4,p5⟩:=hp p rfl
  refine ⟨.pointer (some p),?_,.iptr p vs p1 (fun j d hd=>?_) (fun j d hd=>?_)⟩
  ·unfold execOp
   simp only [ho,Sem.run_bind]
   rw [hv]
   simp [Instr.arrayAt,run_underlying h1,show ¬ es.length < n by omega]
  ·obtain ⟨i,j',e',he,hd',rfl⟩:=qGk p3 hd
   exact p4 _ _ _ _ he hd'
  ·obtain ⟨i,j',e',he,hd',rfl⟩:=qGk p3 hd
   exact p5 _ _ _ _ he hd'
end
end Tdoc
namespace Tdoc
open Go
section
variable {P:Program} {E:Env} {T:Tr} {o:Oper} {ρ:Operand→AV} {h:List AObj}
theorem growMake_ok (hT:TOk P T) {t t2 sz by_ i0 n:Nat} {z:List AV} {k k':IntKind} {s x:Operand} (ho:o.op=.call { callee:=.builtin .append,args:=#[s,x],argTypes:=#[t,t2] })
  (ht:vAc T t=some (sz,by_,z)) (ht2:qIq T t2=some k) (hs:ρ s=.sl sz [] .full∨ρ s=.nils) (hx:ρ x=.d (.int k' (n:Int))) (hn:0 < n∧0 < sz) (hb:n*(by_+1)≤140737488355328) (hroom:h[i0]?=some .room) :
  OpR P E o ρ h (fun u k=>∃ cap:Nat,n≤cap∧u=.row i0 0 n cap∧k=h.set i0 (.row (List.replicate n z).flatten)):=by
 intro G a w hw hr
 have hs':RepA G (ρ s) (a.eval s):=hr s (by simp [ho,Op.operands,Call.operands])
 have hx':RepA G (ρ x) (a.eval x):=hr x (by simp [ho,Op.operands,Call.operands])
 rw [hx] at hx'
 obtain ⟨et,ie,h1,h2,h3,h4,h5,h6⟩:=elemT_ok hT ht
 have hk2:=qIm hT ht2
 obtain ⟨info,g1,g2,g3,zv,g4,g5⟩:=h2.info
 obtain ⟨hl,hc⟩:=zrepL_ok g5
 have hzs:zv.cells.size=sz:=by
  have:zv.cells.toList.length=ie.zero.length:=hl.symm▸rfl
  simp only [Array.length_toList] at this
  rw [this,h5,h6]
 obtain ⟨p,hsv⟩:∃ p,a.eval s=.slice p 0 0:=by
  rcases hs with hs | hs
  ·rw [hs] at hs'
   generalize a.eval s=u at hs'
   cases hs' with
   | sl r k=>obtain ⟨p,rfl⟩:=k;exact ⟨p,rfl⟩
  ·rw [hs] at hs'
   generalize a.eval s=u at hs'
   cases hs'
   exact ⟨none,rfl⟩
 have hrd:RepD G.imm (.sl ie.size []) (a.eval s):=by
  rcases hs with hs | hs
  ·rw [hs] at hs'
   generalize a.eval s=u at hs'
   cases hs' with
   | sl r k=>rw [h3];exact r
  ·rw [hs] at hs'
   generalize a.eval s=u at hs'
   cases hs'
   exact .nil _
 obtain ⟨olds,o1,o2,o3,o4⟩:=qIn (P:=P) hw.imm hrd
 have ho0:olds=[]:=by simpa using o2
 subst ho0
 rw [hsv] at o1
 have hfc:=(o1 w.drew rfl).2
 have hb1:n*ie.bytes≤140737488355328:=Nat.le_trans (Nat.mul_le_mul_left _ (by omega)) hb
 have hb2:n≤140737488355328:=Nat.le_trans (by rw [Nat.mul_add];omega) hb
 have h48:¬ (Builtin.nextslicecap n 0*info.bytes > 2 ^ 48):=by
  have:=growslice_fits (bytes:=ie.bytes) (need:=n) (old:=0) hn.1 hb1
  rw [g3];omega
 have h63:¬ ((n:Int) > IntKind.i64.max):=by simp [IntKind.max,IntKind.signed,IntKind.bits];omega
 have hw63:IntKind.i64.wrap (n:Int)=(n:Int):=qAf (by omega)
 have hbb:¬ ((n:Int)*(info.bytes:Int) > 2 ^ 48):=by
  have h9:((n*info.bytes:Nat):Int)≤140737488355328:=by rw [g3];omega
  rw [Int.natCast_mul] at h9
  omega
 have hsz0:¬ (n*ie.size=0):=by
  have:=Nat.mul_pos hn.1 (show 0 < ie.size by rw [h3];exact hn.2)
  omega
 have hnle:¬ (n≤0):=by omega
 generalize hcapv:(Question.appendCap n 0 et).cut (w.tape w.drawn (.appendCap n 0 et))=newCap
 have hcap:n≤newCap:=by rw [← hcapv];simp [Question.cut]
 have hrun:(Builtin.append_ #[t,t2] o.type #[.slice p 0 0,.int k' (n:Int)]).run P w=.ok (.slice (some ⟨w.heap.size,0,none⟩) n newCap)
   (w.drew.alloc (.cells (#[]++Builtin.zeroCells zv.cells n++Builtin.zeroCells zv.cells (newCap-n)) et)):=by
  have hq:(Question.appendCap n 0 et).forced=false:=rfl
  unfold Builtin.append_
  simp only [List.getElem?_toArray,List.getElem?_cons_zero,List.getElem?_cons_succ,Sem.run_bind,run_underlying h1,Result.andThen_ok,h2.run_size,run_underlying hk2]
  simp only [Sem.run_bind,Sem.run_pure,Result.andThen_ok,if_true,asInt,asIntOf,hw63,Sem.run_ite,typeInfo,run_program,g1,hbb,if_false,Int.toNat_natCast,Nat.zero_add,hnle,hw63,h63,false_and,h48,run_choose,hq,World.drew_eq,run_askRoom,hsz0,zeroValue,g4,newRow,run_newObj,World.alloc_eq,Bool.not_true,Bool.false_eq_true,show ¬ ((n:Int) < 0) by omega]
  have hfc':Sem.run P (Builtin.firstCells ie.size 0 (Value.slice p 0 0)) w.drew=Result.ok #[] w.drew:=hfc
  simp [hfc',hcapv]
  done
 have hn':=hw.newRowAtW hroom (#[]++Builtin.zeroCells zv.cells n++Builtin.zeroCells zv.cells (newCap-n)) et (List.replicate n z).flatten ?_ (fun j c u h7 h8=>?_) (w.drew.alloc (.cells (#[]++Builtin.zeroCells zv.cells n++Builtin.zeroCells zv.cells (newCap-n)) et)) rfl rfl rfl rfl
 ·have hex:(execOp a.eval o).run P w=.ok (.value (.slice (some ⟨w.heap.size,0,none⟩) n newCap)) (w.drew.alloc (.cells (#[]++Builtin.zeroCells zv.cells n++Builtin.zeroCells zv.cells (newCap-n)) et)):=by
   unfold execOp
   simp [ho,resolve,invoke,builtin,hsv,hx'.int_inv,hrun]
  unfold Oper.wp
  rw [hex]
  exact ⟨_,qEe G i0 w.heap.size,.row i0 0 n newCap,h.set i0 (.row (List.replicate n z).flatten),⟨newCap,hcap,rfl,rfl⟩,rfl,hn'.1,hn'.2,.row 0 _ _ (by show (if i0=i0 then _ else _)=_;simp)⟩
 ·simp [Builtin.zeroCells,List.length_flatten,hzs,h6]
 ·rw [qNw,h6] at h7
  split at h7
  ·rename_i hj
   have hlt:j % sz < zv.cells.size:=by rw [hzs];exact Nat.mod_lt _ hn.2
   rw [Array.getElem?_append_left (by simp [Builtin.zeroCells,hzs];exact hj)] at h8
   simp only [Array.empty_append,Builtin.zeroCells,Array.getElem?_map,Option.map_eq_some_iff] at h8
   obtain ⟨q,hq,rfl⟩:=h8
   have hjq:q=j:=by
    rw [Array.getElem?_eq_some_iff] at hq
    obtain ⟨_,hh⟩:=hq
    simpa using hh.symm
   subst hjq
   rw [hzs,getElem!_pos zv.cells (q % sz) hlt]
   exact hc G _ c _ (by rw [h5];exact h7) (by simp [hlt])
  ·cases h7
theorem capNil_ok (hT:TOk P T) {t sz:Nat} {x:Operand} (ho:o.op=.call { callee:=.builtin .cap,args:=#[x],argTypes:=#[t] }) (ht:qCk T t sz=true) (hx:ρ x=.nils):OpP P o ρ (.d (.int .i64 0)):=by
 intro G e w hi hr
 have hx':RepA G (ρ x) (e x):=hr x (by simp [ho,Op.operands,Call.operands])
 rw [hx] at hx'
 obtain ⟨et,ie,g1,g2,g3⟩:=sliceElem_ok hT ht
 have hv:e x=.slice none 0 0:=by generalize e x=u at hx';cases hx';rfl
 refine ⟨.int .i64 0,?_,.d (.int _ _)⟩
 unfold execOp
 simp [ho,resolve,invoke,builtin,Builtin.cap_,hv,run_underlying g1,goInt]
theorem nilCut_ok (hT:TOk P T) {t sz:Nat} {x hi:Operand} {k:IntKind} (ho:o.op=.slice t x none (some hi) none) (hs:qCk T t sz=true) (hx:ρ x=.nils) (hh:ρ hi=.d (.int k 0)):OpP P o ρ .nils:=by
 intro G e w hi' hr
 have hx':RepA G (ρ x) (e x):=hr x (by simp [ho,Op.operands])
 have h2:RepA G (ρ hi) (e hi):=hr hi (by simp [ho,Op.operands])
 rw [hx] at hx';rw [hh] at h2
 obtain ⟨et,ie,g1,g2,g3⟩:=sliceElem_ok hT hs
 have hv:e x=.slice none 0 0:=by generalize e x=u at hx';cases hx';rfl
 refine ⟨.slice none 0 0,?_,.nils⟩
 unfold execOp
 simp only [ho,Sem.run_bind,Instr.sliceAt,Instr.slice,hv,h2.int_inv]
 simp [h2.int_inv,run_underlying g1,Instr.sliceBounds,g2.run_size,g3,qAy _ _ _ _ (show 0≤(0:Int)∧(0:Int)≤((0:Nat):Int) by omega)]
theorem vGi {v:AV} (hT:TOk P T) {t:Nat} {x hi mx:Operand} {sz:Nat} {es:List (List Dat)} {r:Nat} {k2 k3:IntKind} (ho:o.op=.slice t x none (some hi) (some mx)) (hs:qCk T t sz=true) (hx:ρ x=.d (.sl sz es))
  (hr':ρ hi=.d (.int k2 (r:Int))) (hm:ρ mx=.d (.int k3 (r:Int))) (hb:r≤es.length) (hv:AV.d (.sl sz (es.take r))=v):OpP P o ρ v:=by
 intro G e w hi' hr
 subst hv
 have hx':RepA G (ρ x) (e x):=hr x (by simp [ho,Op.operands])
 have h2:RepA G (ρ hi) (e hi):=hr hi (by simp [ho,Op.operands])
 have h3:RepA G (ρ mx) (e mx):=hr mx (by simp [ho,Op.operands])
 rw [hx] at hx';rw [hr'] at h2;rw [hm] at h3
 have hxd:RepD G.imm (.sl sz es) (e x):=by cases hx' with | d r=>exact r
 obtain ⟨a,cap,hev,hnil,hsome⟩:=hxd.slice_inv
 have hcap:es.length≤cap:=by
  cases a with
  | none=>have:=hnil rfl;rw [this.1];exact Nat.zero_le _
  | some p=>exact (hsome p rfl).2.1
 rw [hev] at hxd
 have hcut:=hxd.cutC (l:=0) (r:=r) (Nat.zero_le _) hb
 rw [List.drop_zero,Nat.sub_zero] at hcut
 obtain ⟨et,ie,g1,g2,g3⟩:=sliceElem_ok hT hs
 refine ⟨_,?_,.d hcut⟩
 unfold execOp
 simp only [ho,Sem.run_bind,Instr.sliceAt,Instr.slice,hev,h2.int_inv,h3.int_inv]
 simp [h2.int_inv,h3.int_inv,run_underlying g1,Instr.sliceBounds,g2.run_size,g3,qAy _ _ _ _ (show 0≤(r:Int)∧(r:Int)≤(cap:Int) by omega),qAy _ _ _ _ (show 0≤(r:Int)∧(r:Int)≤((r:Nat):Int) by omega)]
end
end Tdoc
namespace Tdoc
open Go
variable {P:Program} {E:Env} {N:Nat} {ops:Array Oper}
theorem anyA_firstT {rd wr:Nat→List Nat} {Q:(Nat→AV)→List AObj→Prop} {i:Nat} {oi:Oper} {v:AV} {osi:List AObj} (U:Nat→Bool) (hi:ops[i]?=some oi)
  (hdep:∀ j oj,U j=true→ops[j]?=some oj→∃ e,e∈oj.after∧Region.binds .any e=true∧(e.on=i∨U e.on=true)):∀ (fuel:Nat) (listed:Array Bool) (τ:Nat→AV) (h:List AObj),
  (∀ j,U j=true→listed.getD j true=false) →
  (∀ j oj,ops[j]?=some oj→j≠i→U j=false→listed.getD j true=false→oi.apart ops oj=true∧conf rd wr i j=false) →
  i∈Region.ready .any ops listed→SI P E N ops rd wr i oi τ h v osi→vGr P E N ops rd wr Q fuel (listed.setIfInBounds i true) (qKo τ oi.dst v) (qGb h (wr i) osi)→vGr P E N ops rd wr Q (fuel+1) listed τ h:=by
 intro fuel
 have own:∀ (listed:Array Bool) (τ:Nat→AV) (h:List AObj) (K:(Nat→AV)→List AObj→Prop),SI P E N ops rd wr i oi τ h v osi→K (qKo τ oi.dst v) (qGb h (wr i) osi)→qQq P E N ops rd wr i K τ h:=by
  intro listed τ h K hs hk
  unfold qQq
  simp only [hi]
  exact ⟨v,osi,hs,hk⟩
 induction fuel with
 | zero =>
  intro listed τ h _ _ hr hy H
  refine ⟨fun h0=>(by rw [h0] at hr;cases hr),fun j hj=>?_⟩
  by_cases hji:j=i
  ·subst hji;exact own listed τ h _ hy H
  ·have:=ready_mono hj hji
   rw [H.1] at this
   cases this
 | succ fuel ih =>
  intro listed τ h hU hfree hr hy H
  refine ⟨fun h0=>(by rw [h0] at hr;cases hr),fun j hj=>?_⟩
  by_cases hji:j=i
  ·subst hji;exact own listed τ h _ hy H
  ·have hs:=H.2 j (ready_mono hj hji)
   obtain ⟨hjun,oj,hoj,hall⟩:=mem_ready.1 hj
   have hin:listed.getD i true=false:=(mem_ready.1 hr).1
   have hcon:∀ k,listed.getD k true=false→listed.getD k false=true→False:=fun k h0 h1=>by
    rcases Nat.lt_or_ge k listed.size with h' | h'
    ·simp [h'] at h0 h1;rw [h0] at h1;cases h1
    ·simp [Array.getElem?_eq_none h'] at h1
   have hUj:U j=false:=by
    cases hu:U j with
    | false=>rfl
    | true =>
     obtain ⟨e,he,hb,hor⟩:=hdep j oj hu hoj
     have h1:=hall e he hb
     rcases hor with rfl | hu2
     ·exact (hcon _ hin h1).elim
     ·exact (hcon _ (hU _ hu2) h1).elim
   obtain ⟨hap,hcf⟩:=hfree j oj hoj hji hUj hjun
   obtain ⟨a1,a2,a3⟩:=Oper.apart_spec hap
   simp only [conf,Bool.or_eq_false_iff] at hcf
   obtain ⟨⟨f1,f2⟩,f3⟩:=hcf
   have f1:=qEg f1
   have f2:=qEg f2
   have f3:=qEg f3
   unfold qQq at hs ⊢
   simp only [hoj] at hs ⊢
   obtain ⟨vj,osj,hsj,hk⟩:=hs
   have cj:∀ d,d∈oj.looksAt ops→τ d=qKo τ oi.dst v d:=fun d hd=>(putA_other fun e he hh=>a1 e he (hh▸hd)).symm
   have ci:∀ u d,d∈oi.looksAt ops→qKo τ oj.dst u d=τ d:=fun u d hd=>putA_other fun e he hh=>a3 e he (hh▸hd)
   have hU':∀ k,U k=true→(listed.setIfInBounds j true).getD k true=false:=fun k hk=>by
    rw [getD_set_ne true (fun hh=>by subst hh;rw [hUj] at hk;cases hk)]
    exact hU k hk
   have hfree':∀ k ok,ops[k]?=some ok→k≠i→U k=false→(listed.setIfInBounds j true).getD k true=false→oi.apart ops ok=true∧conf rd wr i k=false:=fun k ok hk' hki hku hun=>by
    refine hfree k ok hk' hki hku ?_
    by_cases hjk:j=k
    ·subst hjk;exact hjun
    ·rw [getD_set_ne true hjk] at hun;exact hun
   refine ⟨vj,osj,hsj.congr cj (by rw [updH_length]) (fun x hx=>(updH_other _ _ _ _ (fun hw=>f1 x hw hx)).symm),ih _ _ _ hU' hfree' (ready_mono hr (Ne.symm hji)) (hy.congr (ci vj) (by rw [updH_length]) (fun x hx=>updH_other _ _ _ _ (fun hw=>f3 x hw hx))) ?_⟩
   rw [Array.setIfInBounds_comm _ _ hji,← putA_comm a2,← updH_comm _ _ _ _ _ f2]
   exact hk
def waits (ops:Array Oper) (i:Nat):Array Bool :=
 (List.range ops.size).foldl (fun u j=>u.setIfInBounds j (match ops[j]? with
  | some oj=>oj.after.any fun e=>Region.binds .any e&&(e.on == i||u.getD e.on false)
  | none=>false)) (Array.replicate ops.size false)
def vJa (ops:Array Oper) (rd wr:Nat→List Nat) (listed:Array Bool) (i:Nat) (U:Array Bool):Bool :=
 match ops[i]? with
 | none=>false
 | some oi=>Nat.beq U.size ops.size&&(List.range ops.size).all fun j=>match ops[j]? with
   | some oj=>match U.getD j false with
    | true=>!listed.getD j true&&oj.after.any fun e=>Region.binds .any e&&(e.on == i||U.getD e.on false)
    | false=>j == i||listed.getD j true||(oi.apart ops oj&&!conf rd wr i j)
   | none=>true
theorem freeT_spec {rd wr:Nat→List Nat} {listed U:Array Bool} {i:Nat} {oi:Oper} (hi:ops[i]?=some oi) (h:vJa ops rd wr listed i U=true) :
  (∀ j oj,U.getD j false=true→ops[j]?=some oj→∃ e,e∈oj.after∧Region.binds .any e=true∧(e.on=i∨U.getD e.on false=true))∧(∀ j,U.getD j false=true→listed.getD j true=false) ∧
  (∀ j oj,ops[j]?=some oj→j≠i→U.getD j false=false→listed.getD j true=false→oi.apart ops oj=true∧conf rd wr i j=false):=by
 simp only [vJa,hi,Bool.and_eq_true,List.all_eq_true,List.mem_range] at h
 obtain ⟨hsz,h⟩:=h
 have hsz:=Nat.eq_of_beq_eq_true hsz
 refine ⟨fun j oj hu hj=>?_,fun j hu=>?_,fun j oj hj hne hu hun=>?_⟩
 ·have h1:=h j (Array.getElem?_eq_some_iff.1 hj).1
  simp only [hj,hu,Bool.and_eq_true] at h1
  obtain ⟨e,he,hb⟩:=Array.any_eq_true'.1 h1.2
  simp only [Bool.and_eq_true,Bool.or_eq_true,beq_iff_eq] at hb
  exact ⟨e,he,hb.1,hb.2⟩
 ·have hlt:j < U.size:=by
   rcases Nat.lt_or_ge j U.size with h' | h'
   ·exact h'
   ·simp [Array.getElem?_eq_none h'] at hu
  have h1:=h j (by omega)
  have hj:ops[j]?=some ops[j]:=by simp [show j < ops.size by omega]
  simp only [hj,hu,Bool.and_eq_true] at h1
  simpa using h1.1
 ·have h1:=h j (Array.getElem?_eq_some_iff.1 hj).1
  simp only [hj,hu,Bool.or_eq_true,beq_iff_eq,hne,false_or,hun,Bool.false_eq_true] at h1
  simpa using h1
def vKo (ops:Array Oper) (rd wr:Nat→List Nat):Nat→Nat→Array Bool→Bool
 | 0,_,listed=>(Region.ready .any ops listed).isEmpty
 | fuel+1,k,listed=>(Region.ready .any ops listed).contains k&&vJa ops rd wr listed k (waits ops k)&&vKo ops rd wr fuel (k+1) (listed.setIfInBounds k true)
theorem qYr {rd wr:Nat→List Nat} {ops:List Oper} {Q:(Nat→AV)→List AObj→Prop}:∀ (l:List Oper) (k:Nat) (listed:Array Bool) (τ:Nat→AV) (h:List AObj),(∀ j,l[j]?=ops[k+j]?) →
  vKo ops.toArray rd wr l.length k listed=true→AWd P E N ops rd wr Q l k τ h→vGr P E N ops.toArray rd wr Q l.length listed τ h
 | [],_,_,_,_,_,hB,H=>⟨by simpa [vKo] using hB,H⟩
 | o::l,k,listed,τ,h,hl,hB,H=>by
  have h0:ops.toArray[k]?=some o:=by simpa using (hl 0).symm
  simp only [List.length_cons,vKo,Bool.and_eq_true] at hB
  obtain ⟨⟨hr,hf⟩,hB'⟩:=hB
  obtain ⟨v,os,hs,hk⟩:=H
  obtain ⟨f1,f2,f3⟩:=freeT_spec h0 hf
  exact anyA_firstT (fun j=>(waits ops.toArray k).getD j false) h0 f1 l.length listed τ h f2 f3 (by simpa using hr) hs
   (qYr l (k+1) _ _ _ (fun j=>by have:=hl (j+1);simpa [Nat.add_assoc,Nat.add_comm 1 j] using this) hB' hk)
theorem qAw {id:Nat} (rd wr:Nat→List Nat) {ops:List Oper} {Q:Exit→(Nat→AV)→List AObj→Prop} {τ:Nat→AV} {h:List AObj} (hm:P.follows .mixedOrders=true)
  (hB:vKo ops.toArray rd wr ops.length 0 (Array.replicate ops.length false)=true) (H:AWd P E N ops rd wr (Q .normal) ops 0 τ h):AW P E N (.region id ops.toArray true) Q τ h:=by
 intro a w hr
 refine wp_region_any hm ?_
 have:=qYr (P:=P) (E:=E) (N:=N) ops 0 _ τ h (fun j=>by simp) hB H
 have:=anyA_sound (Q:=Q) _ _ _ _ a _ this hr.drew
 simpa using this
end Tdoc
namespace Tdoc
open Go
theorem qWv {E:Env} {N:Nat} {l:List (Nat×AV)} {h:List AObj} {t i off n sz:Nat} {cells:List AV} {es:List (List Dat)} (ht:look l t=.row i off n n) (hi:h[i]?=some (.row cells)) (hn:es.length=n) (hd:RowDat cells off sz es) :
  ∀ a w,Rel E N (look l) h a w→Rel E N (look ((t,.sl sz es .full)::l)) (h.set i .dead) a w:=by
 intro a w ⟨h1,h2,G,hw,hr⟩
 have hx:=hr t
 rw [ht] at hx
 obtain ⟨b,hv,hl⟩:=hx.row_inv
 obtain ⟨hle,hw',hc⟩:=hw.freeze hi hl
 refine ⟨h1,h2,_,hw',fun s=>?_⟩
 show RepA _ (bif Nat.beq s t then _ else look l s) _
 cases hb:Nat.beq s t with
 | false=>exact (hr s).mono hle
 | true =>
  obtain rfl:=Nat.eq_of_beq_eq_true hb
  rw [hv]
  subst hn
  have hex:∀ (k:Nat),∃ u:Value,∀ (i:Nat) (e:List Dat) (j:Nat) (d:Dat),es[i]?=some e→e[j]?=some d→i*sz+j=k →
    ({ G with imm:=fun a=>if a.block=b∧a.spot=none∧a.off < cells.length then w.cell? a else G.imm a }:Gh).imm ⟨b,off+k,none⟩=some u:=by
   intro k
   rcases hh:({ G with imm:=fun a=>if a.block=b∧a.spot=none∧a.off < cells.length then w.cell? a else G.imm a }:Gh).imm ⟨b,off+k,none⟩ with _ | u
   ·refine ⟨undef,fun i e j d he hj hk=>?_⟩
    obtain ⟨c,g1,g2⟩:=hd.2 i e j d he hj
    obtain ⟨u,g3,_⟩:=hc _ d c g1 g2
    rw [hk] at g3
    rw [hh] at g3;cases g3
   ·exact ⟨u,fun _ _ _ _ _ _ _=>rfl⟩
  refine .sl (.sl sz es ⟨b,off,none⟩ es.length (fun k=>Classical.choose (hex k)) rfl (Nat.le_refl _) hd.1 (fun i e j d he hj=>?_) (fun i e j d he hj=>?_)) ⟨_,rfl⟩
  ·rw [qDd]
   exact Classical.choose_spec (hex (i*sz+j)) i e j d he hj rfl
  ·have:=Classical.choose_spec (hex (i*sz+j)) i e j d he hj rfl
   obtain ⟨c,g1,g2⟩:=hd.2 i e j d he hj
   obtain ⟨u,g3,g4⟩:=hc _ d c g1 g2
   have hu:=Option.some.inj (g3.symm.trans this)
   exact hu▸g4
theorem vBa {P:Program} {E:Env} {N:Nat} {Q:Exit→(Nat→AV)→List AObj→Prop} {c:Code} {l:List (Nat×AV)} {h:List AObj} (t i sz:Nat) {off n:Nat} {cells:List AV} (es:List (List Dat)) (ht:look l t=.row i off n n) (hi:h[i]?=some (.row cells))
  (hn:es.length=n) (hd:RowDat cells off sz es) (hc:AW P E N c Q (look ((t,.sl sz es .full)::l)) (h.set i .dead)):AW P E N c Q (look l) h :=
 qMd (qWv ht hi hn hd) hc
end Tdoc
namespace Tdoc
open Go
theorem vGx {P:Program} {E:Env} {o:Oper} {ρ ρ':Operand→AV} {h h':List AObj} {v:AV} (hle:∀ x,AV.le (ρ x) (ρ' x)) (H:OpS P E o ρ' h v h'):OpS P E o ρ h v h' :=
 fun G a w hw hr=>H G a w hw fun x hx=>hle x G _ (hr x hx)
def vFv:AV→AV
 | .sl sz es _=>.d (.sl sz es)
 | y=>y
theorem lessS_le (x:AV):AV.le x (vFv x):=by
 cases x with
 | sl sz es t=>exact .dat
 | _=>exact .refl _
theorem vJi {P:Program} {E:Env} {o:Oper} {ρ:Operand→AV} {H:List AObj} {f:Operand} {as:List Operand} {ats:Array TypeId} {g:FuncId} {first cap:List AV} (ho:o.op=.call ⟨.value f,as.toArray,ats⟩) (hf:ρ f=.fn (.func g) first cap)
  {args:List AV} {r0:AV} (S:Spec P g args [] (fun r h'=>r=r0∧h'=[])) (hargs:first++(as.map (fun x=>vFv (ρ x))++cap)=args) (hla:qCw 0 args=true) (hr0:low 0 r0=true):OpS P E o ρ H r0 H :=
 vGx (ρ':=fun x=>vFv (ρ x)) (fun x=>lessS_le _) (qBn ho (by show vFv (ρ f)=_;rw [hf];rfl) S hargs hla hr0)
end Tdoc
namespace Tdoc
open Go
section
variable {P:Program} {E:Env} {T:Tr} {o:Oper} {ρ:Operand→AV} {h:List AObj}
theorem makeDat_ok (hT:TOk P T) {t by_:Nat} {z:Dat} {x y:Operand} {k k':IntKind} {n:Nat} (ho:o.op=.makeSlice t x y) (he:vAc T t=some (1,by_,[.d z])) (hx:ρ x=.d (.int k (n:Int))) (hy:ρ y=.d (.int k' (n:Int)))
  (hb:by_*n≤281474976710656) (h63:n≤9223372036854775807) :
  OpS P E o ρ h (.d (.sl 1 (List.replicate n [z]))) h :=
 qBg fun G e w hw hr=>by
  have hx':RepA G (ρ x) (e x):=hr x (by simp [ho,Op.operands])
  have hy':RepA G (ρ y) (e y):=hr y (by simp [ho,Op.operands])
  rw [hx] at hx';rw [hy] at hy'
  obtain ⟨et,ie,h1,h2,h3,h4,h5,h6⟩:=elemT_ok hT he
  obtain ⟨info,g1,g2,g3,zv,g4,g5⟩:=h2.info
  obtain ⟨hl,hc⟩:=zrepL_ok g5
  have hzs:zv.cells.size=1:=by
   have:zv.cells.toList.length=ie.zero.length:=hl.symm▸rfl
   simp only [Array.length_toList] at this
   rw [this,h5,h6]
  have hbb:(info.bytes:Int)*(n:Int)≤281474976710656:=by
   have:info.bytes*n≤281474976710656:=by rw [g3,h4];exact hb
   have h9:((info.bytes*n:Nat):Int)≤281474976710656:=by omega
   rwa [Int.natCast_mul] at h9
  have hrun:=run_make (P:=P) w t et info zv h1 g1 g4 k k' (n:Int) (n:Int) (by omega) (Int.le_refl _) hbb (by omega)
  simp only [Int.toNat_natCast] at hrun
  have hinfo:info.size=1:=by rw [g2,h3]
  have hz0:RepD G.imm z (zv.cells[0]'(by omega)):=by
   have:=(hc G 0 (.d z) (zv.cells[0]'(by omega)) (by rw [h5];rfl) (by simp [hzs])).1
   cases this with
   | d r=>exact r
  have hle:=immExt_le hw n (madeCells zv.cells (n*info.size))
  have hnew:=hw.newImm n (madeCells zv.cells (n*info.size)) et { w with heap:=w.heap.push (.cells (madeCells zv.cells (n*info.size)) et) } rfl rfl rfl rfl
  refine ⟨.slice (some ⟨w.heap.size,0,none⟩) n n,_,_,?_,hle,hnew,.d ?_⟩
  ·unfold execOp
   simp only [ho,hx'.int_inv,hy'.int_inv,Sem.run_bind,hrun,Result.andThen_ok]
   rfl
  ·have hlen:(List.replicate n [z]).length=n:=by simp
   conv=>rhs;rw [← hlen]
   refine newImm_rep (n:=n) (fun el hel=>?_) (by simp) _ (Nat.le_refl _) (fun i el j d he hd=>?_)
   ·rw [List.eq_of_mem_replicate hel];rfl
   ·have hi:=(List.getElem?_eq_some_iff.1 he).1
    rw [List.length_replicate] at hi
    rw [List.getElem?_replicate,if_pos hi] at he
    cases he
    cases j with
    | succ j=>simp at hd
    | zero =>
     simp at hd
     subst hd
     refine ⟨zv.cells[0]'(by omega),?_,hz0.mono hle.imm⟩
     simp only [madeCells,hinfo,hzs,Nat.mul_one,Nat.add_zero,Nat.mod_one,Array.getElem?_map]
     simp [hi]
     rw [getElem!_pos zv.cells 0 (by omega)]
end
end Tdoc
namespace Tdoc
open Go
section
variable {P:Program} {E:Env} {T:Tr} {o:Oper} {ρ:Operand→AV} {h:List AObj}
theorem copyDat_ok (hT:TOk P T) {t t2 by_ i off n cap:Nat} {d s:Operand} {cells:List AV} {es:List (List Dat)} (ho:o.op=.call { callee:=.builtin .copy,args:=#[d,s],argTypes:=#[t,t2] })
  (ht:qRw T t=some (1,by_)) (hd:ρ d=.row i off n cap) (hs:ρ s=.d (.sl 1 es)) (hi:h[i]?=some (.row cells)) (hle:off+n≤cells.length) :
  OpS P E o ρ h (.d (.int .i64 (Nat.min es.length n:Nat))) (h.set i (.row (qCg cells off (qFf (es.take n))))) :=
 qBg fun G e w hw hr=>by
  have hd':RepA G (ρ d) (e d):=hr d (by simp [ho,Op.operands,Call.operands])
  have hs':RepA G (ρ s) (e s):=hr s (by simp [ho,Op.operands,Call.operands])
  rw [hd] at hd';rw [hs] at hs'
  obtain ⟨bl,hdv,hl⟩:=hd'.row_inv
  have hsd:RepD G.imm (.sl 1 es) (e s):=by cases hs' with | d r=>exact r
  obtain ⟨a,cp,hsv,hn0,hp⟩:=hsd.slice_inv
  obtain ⟨et,ie,h1,h2,hsz,rfl,hzl⟩:=appT_ok hT ht
  obtain ⟨b',hl',_,hrow,_⟩:=hw.obj i _ hi
  rw [hl] at hl';cases hl'
  cases a with
  | none =>
   obtain ⟨rfl,rfl⟩:=hn0 rfl
   obtain ⟨w',q1,q2,q3,q4,q5,q6,q7⟩:=qEr (P:=P) [] [] cells off 0 w hrow (by simp;omega) rfl (by simp)
   refine ⟨_,w',G,?_,.refl G,hw.setObj hi hl (by simpa [qFf] using q2) q3 q4 q5 q6 q7,.d (.int _ _)⟩
   unfold execOp
   simp only [ho,resolve,invoke,builtin]
   simp [hdv,hsv,Builtin.copy_,run_underlying h1,Builtin.lenOf,Builtin.firstCells,h2.run_size,goInt]
   rw [q1]
   rfl
  | some p =>
   obtain ⟨p1,p2,p3,vs,p4,p5⟩:=hp p rfl
   have hlen:∀ x,x∈es.take n→x.length=1:=fun x hx=>p3 x (List.mem_of_mem_take hx)
   have hfl:=flatAV_length hlen
   have hk:(es.take n).length=Nat.min es.length n:=by rw [List.length_take];exact Nat.min_comm _ _
   have hel:∀ j,j < Nat.min es.length n→∃ x,es[j]?=some [x]:=fun j hj=>by
    have hj':j < es.length:=Nat.lt_of_lt_of_le hj (Nat.min_le_left _ _)
    have h3:=p3 es[j] (List.getElem_mem hj')
    match hx:es[j],h3 with
    | [x],_=>exact ⟨x,by rw [List.getElem?_eq_getElem hj',hx]⟩
   have hlc:(loadCells p (Nat.min es.length n)).run P w=.ok ((List.range (Nat.min es.length n)).map vs).toArray w:=by
    refine run_loadCells (P:=P) w p (Nat.min es.length n) vs (fun j hj=>?_)
    obtain ⟨x,hx⟩:=hel j hj
    have:=hw.imm _ _ (p4 j [x] 0 x hx rfl)
    simpa using this
   obtain ⟨w',q1,q2,q3,q4,q5,q6,q7⟩:=qEr (P:=P) ((List.range (Nat.min es.length n)).map vs) (qFf (es.take n)) cells off 0 w hrow
    (by rw [List.length_map,List.length_range];have:Nat.min es.length n≤n:=Nat.min_le_right _ _;omega) (by rw [hfl,hk,List.length_map,List.length_range];omega)
    (qXy hlen (fun j x i2 y hx hy=>by
     have hj:j < Nat.min es.length n:=by rw [← hk];exact (List.getElem?_eq_some_iff.1 hx).1
     have hx':es[j]?=some x:=by
      rw [List.getElem?_take] at hx
      split at hx
      ·exact hx
      ·cases hx
     have hl1:=p3 x (List.mem_of_getElem? hx')
     have hi2:i2=0:=by have:=(List.getElem?_eq_some_iff.1 hy).1;omega
     subst hi2
     have:=p5 j x 0 y hx' hy
     exact ⟨vs (j*1+0),by simp [hj],this⟩))
   refine ⟨_,w',G,?_,.refl G,hw.setObj hi hl (by simpa using q2) q3 q4 q5 q6 q7,.d (.int _ _)⟩
   unfold execOp
   simp only [ho,resolve,invoke,builtin]
   simp [hdv,hsv,Builtin.copy_,run_underlying h1,Builtin.lenOf,Builtin.firstCells,h2.run_size,goInt,hsz,hlc]
   rw [q1]
   rfl
end
end Tdoc
namespace Tdoc
open Go
section
variable {P:Program} {E:Env} {T:Tr} {o:Oper} {ρ:Operand→AV} {h:List AObj}
theorem appendNone_ok (hT:TOk P T) {t t2 sz by_:Nat} {s x:Operand} {es:List (List Dat)} (ho:o.op=.call { callee:=.builtin .append,args:=#[s,x],argTypes:=#[t,t2] })
  (ht:qRw T t=some (sz,by_)) (ht2:qVj T t2=true) (hs:ρ s=.d (.sl sz es)) (hx:qLl sz (ρ x)=some []):OpS P E o ρ h (.d (.sl sz es)) h :=
 qBg fun G e w hw hr=>by
  have hs':RepA G (ρ s) (e s):=hr s (by simp [ho,Op.operands,Call.operands])
  have hx':RepA G (ρ x) (e x):=hr x (by simp [ho,Op.operands,Call.operands])
  obtain ⟨et,ie,h1,h2,rfl,rfl,hzl⟩:=appT_ok hT ht
  obtain ⟨d2,h3,h4⟩:=srcT_ok hT ht2
  obtain ⟨hlen2,news,n1,n2,n3,n4⟩:=asNew_src (P:=P) hw.imm hx' hx
  have hnews:news=[]:=List.length_eq_zero_iff.1 (by rw [n2];simp)
  rw [hs] at hs'
  have hsd:RepD G.imm (.sl ie.size es) (e s):=by cases hs' with | d r=>exact r
  obtain ⟨a,cp,hsv,hn0,hp⟩:=hsd.slice_inv
  have hfit:es.length+([]:List (List Dat)).length≤cp:=by
   cases a with
   | none=>obtain ⟨q1,q2⟩:=hn0 rfl;rw [q1,q2];simp
   | some p=>have:=(hp p rfl).2.1;simpa using this
  have hrun:=qCu (ty:=o.type) h1 h3 h4 h2 (w':=w) (a:=a) (n:=es.length) (cap:=cp) n1 hfit (by subst hnews;cases a <;> simp [storeCells])
  refine ⟨.slice a (es.length+([]:List (List Dat)).length) cp,w,G,?_,.refl G,hw,?_⟩
  ·unfold execOp
   simp [ho,resolve,invoke,builtin,hsv]
   have h5:(Builtin.append_ #[t,t2] o.type #[.slice a es.length cp,e x]).run P w=.ok (.slice a es.length cp) w:=by simpa using hrun
   rw [h5]
   rfl
  ·have:es.length+([]:List (List Dat)).length=es.length:=by simp
   rw [this,← hsv]
   exact .d hsd
end
end Tdoc
namespace Tdoc
open Go
def vCf (P:Program) (l:List Field) (ks1 ks2:List (Option IntKind)):Bool :=
 match l.reverse with
 | g::r=>fOk P r.reverse 0 ks1&&((g.name != "_")&&(Nat.beq g.offset ks1.length&&((match P.underlying g.type with | some (.struct _)=>true | _=>false)&&(!P.stoodInHeld g.type&&(fOk P (P.fieldsOf g.type).toList 0 ks2&&(match P.info? g.type with | some i=>Nat.beq i.size ks2.length | none=>false))))))
 | []=>false
theorem vDw {m:Addr→Option Value} {d:Dat} {k:Option IntKind} (h:qDw d=some k) {u v:Value} (hu:RepD m d u) (hv:RepD m d v):u=v:=by
 match d,h,hu,hv with
 | .int _ _,_,hu,hv=>cases hu;cases hv;rfl
 | .str _,_,hu,hv=>cases hu;cases hv;rfl
theorem eqSelf_flat {m:Addr→Option Value} {P:Program} {w:World} {n:Nat} {xs:Array Value} (tl:List Field):∀ (fs:List Field) (ks:List (Option IntKind)) (off:Nat) (ds:List Dat),fOk P fs off ks=true→ds.map qDw=ks.map some →
  (∀ (j:Nat) (d:Dat),ds[j]?=some d→∃ v,xs[off+j]?=some v∧RepD m d v) →
  (Op.eqFields (n+1) xs xs (fs++tl)).run P w=(Op.eqFields (n+1) xs xs tl).run P w
 | [],[],off,ds,_,h1,hx=>rfl
 | [],_::_,_,_,h,_,_=>by simp [fOk] at h
 | _::_,[],_,_,h,_,_=>by simp [fOk] at h
 | f::fs,k::ks,off,ds,h,h1,hx=>by
  match ds,h1 with
  | [],h1=>simp at h1
  | d::ds,h1 =>
   simp only [List.map_cons,List.cons.injEq] at h1
   simp only [fOk,Bool.and_eq_true,bne_iff_ne,ne_eq] at h
   obtain ⟨g1,g2,g3,g4⟩:=h
   have ih:=eqSelf_flat (n:=n) (w:=w) (xs:=xs) (m:=m) tl fs ks (off+1) ds g4 h1.2 (fun j d hj=>by have:=hx (j+1) d (by simpa using hj);rwa [show off+(j+1)=off+1+j by omega] at this)
   obtain ⟨u,hu,ru⟩:=hx 0 d rfl
   rw [Nat.add_zero] at hu
   have ho:f.offset=off:=Nat.eq_of_beq_eq_true g2
   rw [← ho] at hu
   rw [List.cons_append]
   generalize (Op.eqFields (n+1) xs xs tl).run P w=R at ih ⊢
   unfold Op.eqFields
   rw [if_pos g1]
   have fin:(Op.equalIn (n+1) f.type u u).run P w=.ok true w→(∃ t,P.underlying f.type=some t∧∀ w:World,(isAgg f.type).run P w=.ok false w) →
     (do let a ← part f.type xs f.offset;let b ← part f.type xs f.offset;let r ← Op.equalIn (n+1) f.type a b;if (!r)=true then pure false else Op.eqFields (n+1) xs xs (fs++tl):Sem Bool).run P w=R:=by
    rintro hb ⟨t,ht,ha⟩
    simp only [Sem.run_bind,qQu ht ha hu,Result.andThen_ok,hb]
    simpa using ih
   refine fin ?_ ?_
   ·cases hund:P.underlying f.type with
    | none=>rw [hund] at g3;cases g3
    | some td =>
     rw [hund] at g3
     cases td
     case int k' =>
      cases k with
      | none=>cases g3
      | some k =>
       match d,h1.1,ru with
       | .int _ x,h1,ru =>
        simp only [qDw,Option.some.injEq] at h1
        subst h1
        cases ru
        rw [run_equalIn_int w n f.type _ k' x x hund]
        simp
       | .bool _,h1,_=>simp [qDw] at h1
       | .str _,h1,_=>simp [qDw] at h1
       | .sl _ _,h1,_=>simp [qDw] at h1
     case string =>
      cases k with
      | some k=>cases g3
      | none =>
       match d,h1.1,ru with
       | .str a,h1,ru =>
        cases ru
        rw [run_equalIn_string w n f.type _ _ hund]
        simp
       | .bool _,h1,_=>simp [qDw] at h1
       | .int _ _,h1,_=>simp [qDw] at h1
       | .sl _ _,h1,_=>simp [qDw] at h1
     all_goals cases g3
   ·cases hund:P.underlying f.type with
    | none=>rw [hund] at g3;cases g3
    | some td =>
     rw [hund] at g3
     cases td
     case int k'=>exact ⟨_,rfl,fun w=>by simp [isAgg,run_underlying hund]⟩
     case string=>exact ⟨_,rfl,fun w=>by simp [isAgg,run_underlying hund]⟩
     all_goals cases g3
theorem eqSelf_nest {m:Addr→Option Value} {P:Program} {w:World} {n:Nat} {xs:Array Value} {l:List Field} {ks1 ks2:List (Option IntKind)} {ds:List Dat} (hn:vCf P l ks1 ks2=true) (h1:ds.map qDw=(ks1++ks2).map some) (hs:xs.size=ds.length)
  (hx:∀ (j:Nat) (d:Dat),ds[j]?=some d→∃ v,xs[0+j]?=some v∧RepD m d v):(Op.eqFields (n+2) xs xs l).run P w=.ok true w:=by
 unfold vCf at hn
 generalize hr:l.reverse=r at hn
 match r,hr,hn with
 | [],_,hn=>cases hn
 | g::r,hr,hn =>
  simp only [Bool.and_eq_true,bne_iff_ne,ne_eq,Bool.not_eq_true'] at hn
  obtain ⟨f1,g1,g2,g3,g4,g5,g6⟩:=hn
  have g2:=Nat.eq_of_beq_eq_true g2
  have hl:l=r.reverse++[g]:=by rw [← List.reverse_reverse l,hr,List.reverse_cons]
  have hdl:ds.length=ks1.length+ks2.length:=by simpa using congrArg List.length h1
  have e1:(ds.take ks1.length).map qDw=ks1.map some:=by
   rw [List.map_take,h1,List.map_append,List.take_append_of_le_length (by simp),List.take_of_length_le (by simp)]
  have e2:(ds.drop ks1.length).map qDw=ks2.map some:=by
   rw [List.map_drop,h1,List.map_append,List.drop_append_of_le_length (by simp),List.drop_of_length_le (by simp),List.nil_append]
  rw [hl,eqSelf_flat (n:=n+1) (m:=m) [g] r.reverse ks1 0 (ds.take ks1.length) f1 e1 (fun j d hj=>hx j d (by rw [List.getElem?_take] at hj;split at hj <;> simp_all))]
  unfold Op.eqFields
  rw [if_pos g1]
  have hu:P.underlying g.type=some (.struct (P.fieldsOf g.type)):=by
   unfold Program.fieldsOf
   cases hund:P.underlying g.type with
   | none=>rw [hund] at g3;cases g3
   | some td =>
    rw [hund] at g3
    cases td
    case struct fs=>rfl
    all_goals cases g3
  obtain ⟨i,hi,g6⟩:∃ i,P.info? g.type=some i∧i.size=ks2.length:=by
   cases hh:P.info? g.type with
   | none=>rw [hh] at g6;cases g6
   | some i=>rw [hh] at g6;exact ⟨i,rfl,Nat.eq_of_beq_eq_true g6⟩
  have hp:(part g.type xs g.offset).run P w=.ok (.agg (xs.extract g.offset (g.offset+i.size))) w:=by
   simp [part,isAgg,run_underlying hu,Go.sizeOf,typeInfo,hi]
  have hq:(Op.equalIn (n+2) g.type (.agg (xs.extract g.offset (g.offset+i.size))) (.agg (xs.extract g.offset (g.offset+i.size)))).run P w=.ok true w:=by
   rw [run_equalIn_agg w (n+1) g.type _ _ hu g4]
   have:=eqSelf_flat (P:=P) (w:=w) (n:=n) (m:=m) (xs:=xs.extract g.offset (g.offset+i.size)) [] (P.fieldsOf g.type).toList ks2 0 (ds.drop ks1.length) g5 e2 (fun j d hj=>by
    rw [List.getElem?_drop] at hj
    obtain ⟨v,hv,hd⟩:=hx _ d hj
    refine ⟨v,?_,hd⟩
    have hlt:=(List.getElem?_eq_some_iff.1 hj).1
    rw [Array.getElem?_extract,if_pos (by rw [hs];omega),← hv]
    congr 1
    omega)
   rw [List.append_nil] at this
   rw [this]
   rfl
  simp only [Sem.run_bind,hp,hq,Result.andThen_ok]
  rfl
section
variable {P:Program} {o:Oper} {ρ:Operand→AV}
theorem structSelf_ok {t yt:Nat} {x y:Operand} {ds:List Dat} (ks1 ks2:List (Option IntKind)) (ho:o.op=.binOp .neq t x y yt) (hu:P.underlying t=some (.struct (P.fieldsOf t))) (hp:P.stoodInHeld t=false) (hg:P.eqGuardType P.depth t=false)
  (hn:vCf P (P.fieldsOf t).toList ks1 ks2=true) (hx:ρ x=.agg (ds.map .d)) (hy:ρ y=.agg (ds.map .d)) (h1:ds.map qDw=(ks1++ks2).map some):OpP P o ρ (.d (.bool false)):=by
 intro G e w hi hr
 have hx':RepA G (ρ x) (e x):=hr x (by simp [ho,Op.operands])
 have hy':RepA G (ρ y) (e y):=hr y (by simp [ho,Op.operands])
 rw [hx] at hx';rw [hy] at hy'
 have cells:∀ {v:Value},RepA G (.agg (ds.map .d)) v→∃ vs,v=.agg vs∧vs.size=ds.length∧∀ (j:Nat) (d:Dat),ds[j]?=some d→∃ v,vs[0+j]?=some v∧RepD G.imm d v:=by
  intro v h
  generalize hc:ds.map AV.d=cs at h
  cases h with
  | agg vs hs hv ho =>
   subst hc
   refine ⟨vs,rfl,by rw [hs,List.length_map],fun j d hj=>?_⟩
   have hjl:=(List.getElem?_eq_some_iff.1 hj).1
   have hl:j < vs.size:=by rw [hs];simpa using hjl
   have:=hv j (.d d) vs[j] (by simp [hj]) (by simp [hl])
   refine ⟨vs[j],by simp [hl],?_⟩
   cases this with
   | d r=>exact r
 obtain ⟨xs,hxe,hxs,hxc⟩:=cells hx'
 obtain ⟨ys,hye,hys,hyc⟩:=cells hy'
 have hxy:ys=xs:=by
  refine Array.ext (by rw [hxs,hys]) fun j hj1 hj2=>?_
  have hjd:j < ds.length:=by rw [← hys];exact hj1
  have hk:qDw ds[j]=some ((ks1++ks2)[j]'(by have:=congrArg List.length h1;simp only [List.length_map] at this;omega)):=by
   have:=congrArg (fun l=>l[j]?) h1
   simp only [List.getElem?_map] at this
   rw [List.getElem?_eq_getElem hjd,List.getElem?_eq_getElem (by have:=congrArg List.length h1;simp only [List.length_map] at this;omega)] at this
   simpa using this
  obtain ⟨u,hu1,ru⟩:=hxc j ds[j] (by simp [hjd])
  obtain ⟨v,hv1,rv⟩:=hyc j ds[j] (by simp [hjd])
  rw [Nat.zero_add] at hu1 hv1
  rw [Array.getElem?_eq_getElem hj2] at hu1
  rw [Array.getElem?_eq_getElem hj1] at hv1
  simp only [Option.some.injEq] at hu1 hv1
  rw [hu1,hv1]
  exact vDw hk rv ru
 subst hxy
 refine ⟨.bool false,?_,.d (.bool _)⟩
 have heq:(Op.equalIn 10000 t (.agg ys) (.agg ys)).run P w=.ok true w:=by
  rw [show (10000:Nat)=9999+1 from rfl,run_equalIn_agg w 9999 t ys ys hu hp]
  exact eqSelf_nest (n:=9997) hn h1 hxs hxc
 unfold execOp
 simp only [ho,Sem.run_bind]
 rw [hxe,hye,run_eqGuard_agg w .neq t x y ys ys hg]
 simp only [Result.andThen_ok,Sem.run_bind]
 rw [run_neq_struct,heq]
 rfl
end
end Tdoc
