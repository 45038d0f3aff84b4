/- Part 4 of the proof: the texts R4 R5 R6 R7 R8 T1 TA TB TC TD TE TF UR D1 N1 TG I2 R35. -/
import Derived.Test.YtglbincdccmhfaaGreatDoorCL3
import Derived.Lib.SlBytesConst
import Derived.Lib.AtoiAll
import Derived.Lib.ItoaNum
import Derived.Lib.Join
import Derived.WalkKit
import Derived.ProofKit
import Derived.OpenShut
import Derived.JoinedCond
import Derived.Deep.Slices
import Derived.Deep.Strs
import Derived.Deep.Fields
import Derived.Lib.SmallJoins
import Derived.SizedLaws
set_option linter.unusedSimpArgs false
set_option linter.unusedVariables false
set_option maxRecDepth 100000
namespace Tdoc
open Go
theorem RepA.bm_inv {G:Gh} {v:Value} {i n:Nat} (h:RepA G (.bm i n) v):∃ a cap,v=.slice a n cap∧G.rt i n=some (a,cap):=by cases h with | bm a cap r _=>exact ⟨a,cap,rfl,r⟩
theorem RepA.bm_inv2 {G:Gh} {v:Value} {i n:Nat} (h:RepA G (.bm i n) v):∃ a cap,v=.slice a n cap∧G.rt i n=some (a,cap)∧(a=none→n=0):=by cases h with | bm a cap r hz=>exact ⟨a,cap,rfl,r,hz⟩
theorem RepA.bp_inv {G:Gh} {v:Value} {i n k:Nat} (h:RepA G (.bp i n k) v):∃ p cap,v=.pointer (some (p.add k))∧G.rt i n=some (some p,cap):=by cases h with | bp p cap _ r=>exact ⟨p,cap,rfl,r⟩
theorem WRel.bufAt {E:Env} {G G':Gh} {h:List AObj} {w w':World} {i bl:Nat} {ob ob':AObj} (hw:WRel E G h w) (hi:h[i]?=some ob) (hle:G.le G') (himm:∀ a,G'.imm a=G.imm a) (hown:∀ b,G'.own b=G.own b) (hloc:∀ j,G'.loc j=G.loc j)
  (hrt:∀ j n,j≠i→G'.rt j n=G.rt j n) (hbl:G.own bl=some i) (hcell:∀ a v,G.imm a=some v→w'.cell? a=some v) (hheap:∀ k,k≠bl→w'.heap[k]?=w.heap[k]?) (hs:w'.heap.size=w.heap.size)
  (ho:w'.os=w.os) (ht:w'.tape=w.tape) (hout:w'.output=w.output) (hob:ObjRel G' w' i ob'):WRel E G' (h.set i ob') w':=by
 have hKb:=(hw.own _ i hbl).2
 have hilt:i < h.length:=(List.getElem?_eq_some_iff.1 hi).1
 refine ⟨hw.le.trans hle,fun a v ha=>hcell a v (by rw [himm] at ha;exact ha),fun a v ha=>hw.immNew a v (by rw [himm] at ha;exact ha),fun b hb=>?_,by rw [hs];exact hw.size,ho.trans hw.os,ht.trans hw.tape,hout.trans hw.output,
  fun b j hb=>by rw [hs];rw [hown] at hb;exact hw.own b j hb,fun j hj=>?_,fun j o hj=>?_⟩
 ·rw [hheap b (fun hh=>hKb (hh▸hb))];exact hw.keep b hb
 ·simp only [List.length_set] at hj
  have:=hw.fresh j hj
  exact ⟨by rw [hloc];exact this.1,fun n=>by rw [hrt j n (by omega)];exact this.2 n⟩
 ·rw [List.getElem?_set] at hj
  by_cases hij:i=j
  ·subst hij
   simp only [if_true,hilt] at hj
   cases hj
   exact hob
  ·rw [if_neg hij] at hj
   refine (hw.obj j o hj).keep hle (fun b hb=>⟨hheap b (fun hh=>?_),fun a ha=>himm a⟩) (fun n hn=>by rw [hrt j n (fun e=>hij e.symm)];exact hn) (fun hn=>by rw [hloc];exact hn)
   subst hh
   rw [hbl] at hb;cases hb;exact hij rfl
def qMg (G:Gh) (i n:Nat) (x:Option Addr×Nat):Gh:={ G with rt:=fun j m=>if j=i∧m=n then some x else G.rt j m }
theorem rtSet_le {G:Gh} {i n:Nat} {x:Option Addr×Nat} (h:G.rt i n=none):G.le (qMg G i n x):=by
 refine ⟨fun _ _ h=>h,fun _ _ h=>h,fun j m y hy=>?_,fun _ _ h=>h⟩
 show (if j=i∧m=n then _ else G.rt j m)=some y
 split
 ·rename_i hc;rw [hc.1,hc.2,h] at hy;cases hy
 ·exact hy
theorem rtSet_at (G:Gh) (i n:Nat) (x:Option Addr×Nat):(qMg G i n x).rt i n=some x:=by show (if i=i∧n=n then _ else _)=_;simp
theorem rtSet_ne {G:Gh} {i n j m:Nat} {x:Option Addr×Nat} (h:¬ (j=i∧m=n)):(qMg G i n x).rt j m=G.rt j m:=by show (if j=i∧m=n then _ else _)=_;rw [if_neg h]
section
variable {P:Program} {E:Env} {T:Tr} {o:Oper} {ρ:Operand→AV} {h h':List AObj} {v:AV}
theorem bufAddr_ok (hT:TOk P T) {t sz i n:Nat} {x ix:Operand} {k:IntKind} {j:Int} (ho:o.op=.indexAddr t x ix) (hs:qCa T t sz=true)
  (hx:ρ x=.bm i n) (hix:ρ ix=.d (.int k j)) (h0:0≤j∧j < (n:Int)):OpP P o ρ (.bp i n (j.toNat*sz)):=by
 intro G e w hi hr
 have hx':RepA G (ρ x) (e x):=hr x (by simp [ho,Op.operands])
 have hix':RepA G (ρ ix) (e ix):=hr ix (by simp [ho,Op.operands])
 rw [hx] at hx';rw [hix] at hix'
 obtain ⟨et,ie,h1,h2,h3⟩:=sliceElem_ok hT hs
 obtain ⟨a,cap,hv,hl,hz⟩:=hx'.bm_inv2
 cases a with
 | none=>have:=hz rfl;omega
 | some p =>
  refine ⟨.pointer (some (p.add (j.toNat*sz))),?_,.bp p cap _ hl⟩
  unfold execOp
  simp only [ho,Sem.run_bind]
  rw [hv,hix'.int_inv]
  simp [Instr.indexAt,asIntOf,run_underlying h1,h0.1,h0.2,h2.run_size,h3]
theorem bufLoad_ok (hT:TOk P T) {t i n off sz:Nat} {ti:TI} {x:Operand} {cells:List AV} (ho:o.op=.load t x) (hx:ρ x=.bp i n off) (hi:h[i]?=some (.buf sz n cells)) (hf:T.find t=some ti) (ha:ti.agg=false)
  (hv:cells[off]?=some v):OpS P E o ρ h v h :=
 qBo fun G e w hw hr=>by
  have hx':RepA G (ρ x) (e x):=hr x (by simp [ho,Op.operands])
  rw [hx] at hx'
  obtain ⟨p,cap,hp,hl⟩:=hx'.bp_inv
  obtain ⟨a',cap',hl',_,hb1,hb2,hb3,hb4⟩:=hw.obj i _ hi
  rw [hl] at hl';cases hl'
  have hlt:=(List.getElem?_eq_some_iff.1 hv).1
  have hcap:0 < cap:=by
   rcases Nat.eq_zero_or_pos cap with h0 | h0
   ·have:n=0:=by omega
    subst this;simp at hb1;rw [hb1] at hlt;simp at hlt
   ·exact h0
  obtain ⟨q1,q2,q3,q4⟩:=hb4 p rfl hcap
  obtain ⟨u,u1,u2,u3⟩:=q3 off v hv
  have hti:=hT.at hf
  refine ⟨u,w,G,?_,.refl G,hw,u3⟩
  unfold execOp
  simp [ho,Instr.loadAt,hp,Instr.sureAddr,loadVar,hti.run_agg,ha,u1]
theorem bufStore_ok (hT:TOk P T) {t i n off sz:Nat} {ti:TI} {x y:Operand} {cells:List AV} (ho:o.op=.store t x y) (hx:ρ x=.bp i n off) (hi:h[i]?=some (.buf sz n cells)) (hf:T.find t=some ti) (hsz:Nat.beq ti.size 1=true)
  (hs:qCs (ρ y)=true) (hlt:off < cells.length):OpS P E o ρ h .any (h.set i (.buf sz n (cells.set off (ρ y)))) :=
 qLo fun G e w hw hr=>by
  have hx':RepA G (ρ x) (e x):=hr x (by simp [ho,Op.operands])
  have hy':RepA G (ρ y) (e y):=hr y (by simp [ho,Op.operands])
  rw [hx] at hx'
  obtain ⟨p,cap,hp,hl⟩:=hx'.bp_inv
  obtain ⟨a',cap',hl',hlater,hb1,hb2,hb3,hb4⟩:=hw.obj i _ hi
  rw [hl] at hl';cases hl'
  have hcap:0 < cap:=by
   rcases Nat.eq_zero_or_pos cap with h0 | h0
   ·have:n=0:=by omega
    subst this;simp at hb1;rw [hb1] at hlt;simp at hlt
   ·exact h0
  obtain ⟨q1,q2,q3,q4⟩:=hb4 p rfl hcap
  have hcs:n*sz≤cap*sz:=Nat.mul_le_mul_right _ hb2
  have hone:=qMr hy' hs
  have hti:=hT.at hf
  have h1:=Nat.eq_of_beq_eq_true hsz
  have hspot:(p.add off).spot=none:=qFf p q1 _
  obtain ⟨w',r1,r2,r3,r4,r5,r6,r7,r8,r9⟩:=qEv (P:=P) hspot [e y] 0 w (fun k u hk=>by
    cases k with
    | zero=>simp at hk;subst hk;exact hone
    | succ k=>simp at hk) (fun k hk=>by
    simp at hk;subst hk
    obtain ⟨c1,c2,_⟩:=q4 off (by omega)
    rw [Nat.zero_add,show (p.add off).add 0=p.add off by simp [Addr.add]]
    exact ⟨c1,c2⟩)
  have hadd0:(p.add off).add 0=p.add off:=by simp [Addr.add]
  have hother:∀ j,j≠off→w'.cell? (p.add j)=w.cell? (p.add j):=fun j hj=>r3 _ (fun k hk hh=>by
   simp at hk;subst hk
   rw [Nat.zero_add,hadd0,qCf p q1,qCf p q1] at hh
   injection hh with _ h5 _
   omega)
  refine ⟨w',G,?_,.refl G,hw.bufAt (bl:=p.block) hi (.refl G) (fun _=>rfl) (fun _=>rfl) (fun _=>rfl) (fun _ _ _=>rfl) q2 (fun a u hu=>?_) (fun k hk=>r5 k (by rw [qCh];exact hk)) r6 r7 r8 r9 ?_⟩
  ·unfold execOp
   have hsz':(e y).cells.size=ti.size:=by rw [qKx hone,h1];rfl
   simp [ho,Instr.storeAt,hp,Instr.sureAddr,storeVar,hti.run_size,h1,qKx hone,r1]
  ·rw [r3 a (fun k hk hh=>?_)]
   ·exact hw.imm a u hu
   ·simp at hk;subst hk
    rw [Nat.zero_add,hadd0] at hh
    have:=(q4 off (by omega)).2.2
    rw [← hh,hu] at this;cases this
  ·refine ⟨some p,cap,hl,hlater,by simpa using hb1,hb2,hb3,fun p' hp' _=>?_⟩
   cases hp'
   refine ⟨q1,q2,fun j c hj=>?_,fun j hj=>?_⟩
   ·rw [List.getElem?_set] at hj
    by_cases hjo:off=j
    ·subst hjo
     simp only [if_true,hlt] at hj
     cases hj
     refine ⟨e y,?_,hone,hy'⟩
     have:=r2 0 (e y) (by simp)
     rwa [Nat.zero_add,hadd0] at this
    ·rw [if_neg hjo] at hj
     obtain ⟨u,u1,u2,u3⟩:=q3 j c hj
     exact ⟨u,by rw [hother j (fun e=>hjo e.symm)];exact u1,u2,u3⟩
   ·obtain ⟨⟨u,c1⟩,c2,c3⟩:=q4 j hj
    refine ⟨?_,by rw [r4];exact c2,c3⟩
    by_cases hjo:j=off
    ·subst hjo
     refine ⟨e y,?_⟩
     have:=r2 0 (e y) (by simp)
     rwa [Nat.zero_add,hadd0] at this
    ·exact ⟨u,by rw [hother j hjo];exact c1⟩
def qDy (es:List (List Dat)):List AV:=es.flatten.map .d
theorem flatAV_length {sz:Nat}:∀ {es:List (List Dat)},(∀ e,e∈es→e.length=sz)→(qDy es).length=es.length*sz
 | [],_=>by simp [qDy]
 | a::l,h=>by
  have:=flatAV_length (es:=l) (fun e he=>h e (by simp [he]))
  simp only [qDy,List.length_map] at this ⊢
  rw [List.flatten_cons,List.length_append,this,h a (by simp),List.length_cons,Nat.succ_mul];omega
theorem qEo {sz:Nat}:∀ {es:List (List Dat)} {k:Nat} {d:Dat},(∀ e,e∈es→e.length=sz)→es.flatten[k]?=some d→∃ (i j:Nat) (e:List Dat),es[i]?=some e∧e[j]?=some d∧k=i*sz+j
 | [],k,d,_,h=>by simp at h
 | a::l,k,d,hl,h=>by
  rw [List.flatten_cons] at h
  have ha:=hl a (by simp)
  by_cases hk:k < a.length
  ·rw [List.getElem?_append_left hk] at h
   exact ⟨0,k,a,by simp,h,by simp⟩
  ·rw [List.getElem?_append_right (by omega)] at h
   obtain ⟨i,j,e,h1,h2,h3⟩:=qEo (fun e he=>hl e (by simp [he])) h
   exact ⟨i+1,j,e,by simpa using h1,h2,by rw [Nat.succ_mul];omega⟩
theorem bufAppG_ok (hT:TOk P T) {t t2 sz by_ i n m:Nat} {s x:Operand} {cells cs2:List AV} (ho:o.op=.call { callee:=.builtin .append,args:=#[s,x],argTypes:=#[t,t2] })
  (ht:qZy T t=some (sz,by_)) (ht2:qYb T t2=true) (hs:ρ s=.bm i n) (hi:h[i]?=some (.buf sz n cells)) (hl2:cs2.length=m*sz)
  (hsrc:∀ (G:Gh) (xv:Value) (w:World),WRel E G h w→RepA G (ρ x) xv→∃ news,Src P w xv m sz news∧news.length=m*sz∧(∀ (k:Nat) (u:Value),news[k]?=some u→qHp u=true)∧∀ (j:Nat) (c:AV),cs2[j]?=some c→∃ u,news[j]?=some u∧RepA G c u)
  (hb:(n+m)*(by_+1)≤140737488355328) :
  OpS P E o ρ h (.bm i (n+m)) (h.set i (.buf sz (n+m) (cells++cs2))) :=
 qBo fun G e w hw hr=>by
  have hs':RepA G (ρ s) (e s):=hr s (by simp [ho,Op.operands,Call.operands])
  have hx':RepA G (ρ x) (e x):=hr x (by simp [ho,Op.operands,Call.operands])
  rw [hs] at hs'
  obtain ⟨et,ie,h1,h2,rfl,rfl,hzl⟩:=appT_ok hT ht
  obtain ⟨d2,h3,h4⟩:=srcT_ok hT ht2
  obtain ⟨news,n1,n2,n3,n4⟩:=hsrc G _ w hw hx'
  obtain ⟨a,cap,hsv,hrt⟩:=hs'.bm_inv
  obtain ⟨a',cap',hrt',hlater,hb1,hcap,hb3,hb4⟩:=hw.obj i _ hi
  rw [hrt] at hrt';cases hrt'
  have hfl:=hl2
  have hex:(execOp e o).run P w=((Builtin.append_ #[t,t2] o.type #[e s,e x]).run P w).andThen fun u w'=>.ok (.value u) w':=by
   unfold execOp
   simp [ho,resolve,invoke,builtin]
  have hilt:i < h.length:=(List.getElem?_eq_some_iff.1 hi).1
  have hnewc:∀ (G':Gh),G.le G'→∀ (j:Nat) (c:AV),(cs2)[j]?=some c→∃ u,news[j]?=some u∧qHp u=true∧RepA G' c u:=by
   intro G' hle j c hj
   obtain ⟨u,hu,hru⟩:=n4 j c hj
   exact ⟨u,hu,n3 _ u hu,hru.mono hle⟩
  by_cases hz:m=0
  ·subst hz
   have hn:news=[]:=by simpa using n2
   have hc:cs2=[]:=by simpa using hl2
   subst hn
   subst hc
   have hrun:=qCi (ty:=o.type) h1 h3 h4 h2 (w':=w) (a:=a) (n:=n) (cap:=cap) n1 (by simpa using hcap) (by cases a <;> simp [storeCells])
   have hset:h.set i (.buf ie.size (n+0) (cells++[]))=h:=by
    apply List.ext_getElem?
    intro j
    rw [List.getElem?_set]
    split
    ·rename_i e;subst e
     rw [hi];simp [hilt]
    ·rfl
   refine ⟨e s,w,G,?_,.refl G,by rw [hset];exact hw,by rw [hsv];exact .bm a cap hrt (by obtain ⟨a2,c2,e2,_,hz2⟩:=hs'.bm_inv2;rw [hsv] at e2;cases e2;exact hz2)⟩
   rw [hex,hsv,hrun];simp
  ·have hpos:0 < m:=Nat.pos_of_ne_zero hz
   have hrtn:G.rt i (n+m)=none:=hlater _ (by omega)
   by_cases hfit:n+m≤cap
   ·cases a with
    | none=>have:=hb3.1 rfl;omega
    | some p =>
     obtain ⟨p1,p2,p3,p4⟩:=hb4 p rfl (by omega)
     have hm1:(n+m)*ie.size≤cap*ie.size:=Nat.mul_le_mul_right _ hfit
     rw [Nat.add_mul] at hm1
     have hspot:(p.add (n*ie.size)).spot=none:=qFf p p1 _
     obtain ⟨w',q1,q2,q3,q4,q5,q6,q7,q8,q9⟩:=qEv (P:=P) hspot news 0 w n3 (fun k hk=>by
      rw [Nat.zero_add,qDc p p1]
      obtain ⟨c1,c2,_⟩:=p4 (n*ie.size+k) (by omega)
      exact ⟨c1,c2⟩)
     have hrun:=qCi (ty:=o.type) h1 h3 h4 h2 (w':=w') (a:=some p) (n:=n) (cap:=cap) n1 hfit (by simpa using q1)
     have hold:∀ j,¬ (n*ie.size≤j∧j < n*ie.size+news.length)→w'.cell? (p.add j)=w.cell? (p.add j):=fun j hj=>q3 _ (fun k hk hh=>by
      rw [Nat.zero_add,qDc p p1,qCf p p1,qCf p p1] at hh
      injection hh with _ h5 _
      omega)
     have hnw:∀ (k:Nat) (u:Value),news[k]?=some u→w'.cell? (p.add (n*ie.size+k))=some u:=fun k u hu=>by
      have:=q2 k u hu
      rwa [Nat.zero_add,qDc p p1] at this
     have hle:=rtSet_le (x:=(some p,cap)) hrtn
     refine ⟨.slice (some p) (n+m) cap,w',qMg G i (n+m) (some p,cap),by rw [hex,hsv,hrun];rfl,hle,?_,.bm _ _ (rtSet_at _ _ _ _) (fun h=>by cases h)⟩
     refine hw.bufAt (bl:=p.block) hi hle (fun _=>rfl) (fun _=>rfl) (fun _=>rfl) (fun j m hj=>rtSet_ne (fun hc=>hj hc.1)) p2 (fun a u hu=>?_) (fun k hk=>q5 k (by rw [qCh];exact hk)) q6 q7 q8 q9 ?_
     ·rw [q3 a (fun k hk hh=>?_)]
      ·exact hw.imm a u hu
      ·rw [Nat.zero_add,qDc p p1] at hh
       have:=(p4 (n*ie.size+k) (by omega)).2.2
       rw [← hh,hu] at this;cases this
     ·refine ⟨some p,cap,rtSet_at _ _ _ _,fun n' hn'=>by rw [rtSet_ne (by omega)];exact hlater n' (by omega),by rw [List.length_append,hb1,hfl,Nat.add_mul],hfit,hb3,fun p' hp' _=>?_⟩
      cases hp'
      refine ⟨p1,p2,fun j c hj=>?_,fun j hj=>?_⟩
      ·by_cases hjl:j < cells.length
       ·rw [List.getElem?_append_left hjl] at hj
        obtain ⟨u,u1,u2,u3⟩:=p3 j c hj
        exact ⟨u,by rw [hold j (by omega)];exact u1,u2,u3.mono hle⟩
       ·rw [List.getElem?_append_right (by omega)] at hj
        obtain ⟨u,u1,u2,u3⟩:=hnewc _ hle _ c hj
        refine ⟨u,?_,u2,u3⟩
        have:=hnw _ u u1
        rwa [show n*ie.size+(j-cells.length)=j by omega] at this
      ·obtain ⟨⟨u,c1⟩,c2,c3⟩:=p4 j hj
       refine ⟨?_,by rw [q4];exact c2,c3⟩
       by_cases hjn:n*ie.size≤j∧j < n*ie.size+news.length
       ·have hk:j-n*ie.size < news.length:=by omega
        have:=hnw (j-n*ie.size) news[j-n*ie.size] (by simp [hk])
        exact ⟨_,by rwa [show n*ie.size+(j-n*ie.size)=j by omega] at this⟩
       ·exact ⟨u,by rw [hold j hjn];exact c1⟩
   ·-- a new row
    have hsrc:∃ olds:List Value,Src P w (e s) n ie.size olds∧olds.length=n*ie.size∧∀ (j:Nat) (c:AV),cells[j]?=some c→∃ u,olds[j]?=some u∧qHp u=true∧RepA G c u:=by
     by_cases hc0:0 < cap
     ·cases a with
      | none=>have:=hb3.1 rfl;omega
      | some p =>
       obtain ⟨p1,p2,p3,p4⟩:=hb4 p rfl hc0
       let f:Nat→Value:=fun j=>(w.cell? (p.add j)).getD undef
       have hm:n*ie.size≤cap*ie.size:=Nat.mul_le_mul_right _ hcap
       refine ⟨(List.range (n*ie.size)).map f,fun w'' hh=>?_,by simp,fun j c hj=>?_⟩
       ·have hld:(loadCells p (n*ie.size)).run P w''=.ok ((List.range (n*ie.size)).map f).toArray w'':=by
         refine run_loadCells (P:=P) w'' p (n*ie.size) f (fun j hj=>?_)
         obtain ⟨⟨u,c1⟩,_⟩:=p4 j (by omega)
         rw [cell?_heap hh];simp [f,c1]
        rw [hsv]
        refine ⟨rfl,?_⟩
        simp [Builtin.firstCells,hld]
       ·have hjl:j < n*ie.size:=by rw [← hb1];exact (List.getElem?_eq_some_iff.1 hj).1
        obtain ⟨u,u1,u2,u3⟩:=p3 j c hj
        exact ⟨u,by simp [hjl,f,u1],u2,u3⟩
     ·have hn0:n=0:=by omega
      subst hn0
      refine ⟨[],fun w'' hh=>?_,by simp,fun j c hj=>?_⟩
      ·rw [hsv]
       refine ⟨rfl,?_⟩
       cases a with
       | none=>simp [Builtin.firstCells]
       | some p =>
        have:=run_loadCells (P:=P) w'' p 0 (fun _=>undef) (fun j hj=>by omega)
        simp only [Builtin.firstCells,Nat.zero_mul]
        simpa using this
      ·have:=(List.getElem?_eq_some_iff.1 hj).1
       rw [hb1] at this;simp at this
    obtain ⟨olds,o1,o2,o3⟩:=hsrc
    obtain ⟨newCap,rest,w',c1,c2,c3,c4,c5,c6,c7⟩:=qEi (ty:=o.type) h1 h3 h4 h2 hsv o1 n1 (by omega) hb
    let cs:=olds.toArray++news.toArray++rest
    have hown:G.own w.heap.size=none:=by
     cases ho:G.own w.heap.size with
     | none=>rfl
     | some j=>have:=(hw.own _ _ ho).1;omega
    have hK:¬ E.K w.heap.size:=fun hk=>by have:=hw.size;have:=hk.1;omega
    let G':Gh:={ qMg G i (n+m) (some ⟨w.heap.size,0,none⟩,newCap) with own:=fun b=>if b=w.heap.size then some i else G.own b }
    have hle:G.le G':=by
     refine ⟨fun _ _ x=>x,fun _ _ x=>x,(rtSet_le hrtn).rt,fun b j hb'=>?_⟩
     show (if b=w.heap.size then some i else G.own b)=some j
     split
     ·rename_i hc;subst hc;rw [hown] at hb';cases hb'
     ·exact hb'
    have hsum:(n+m)*ie.size+(newCap-(n+m))*ie.size=newCap*ie.size:=by
     rw [← Nat.add_mul];congr 1;omega
    have hcs:cs.size=newCap*ie.size:=by
     have:cs.size=olds.length+news.length+rest.size:=by simp [cs];omega
     rw [this,c4,hzl,o2,n2,← Nat.add_mul,hsum]
    have hcell:w'.heap[w.heap.size]?=some (.cells cs et):=by rw [c3];exact Array.getElem?_push_size
    have hcj:∀ j,w'.cell? ((⟨w.heap.size,0,none⟩:Addr).add j)=cs[j]?:=fun j=>by
     rw [qCg,Nat.zero_add];simp [World.cell?,hcell]
    refine ⟨_,w',G',by rw [hex,c2];rfl,hle,?_,.bm _ _ (rtSet_at _ _ _ _) (fun h=>by cases h)⟩
    refine ⟨hw.le.trans hle,fun a u hu=>?_,hw.immNew,fun b hb'=>?_,by rw [c3];simp;have:=hw.size;omega,c5.trans hw.os,c6.trans hw.tape,c7.trans hw.output,fun b j hb'=>?_,fun j hj=>?_,fun j ob hj=>?_⟩
    ·have hcc:=hw.imm a u hu
     rw [World.cell?_of_block (w:=w) (by rw [c3];exact qBd _ _ _ (World.block_lt_of_cell? _ _ hcc))]
     exact hcc
    ·rw [c3,qBd _ _ _ (Nat.lt_of_lt_of_le hb'.1 hw.size)];exact hw.keep b hb'
    ·have hb2:(if b=w.heap.size then some i else G.own b)=some j:=hb'
     split at hb2
     ·rename_i hc;subst hc;exact ⟨by rw [c3];simp,hK⟩
     ·have:=hw.own b j hb2;exact ⟨by rw [c3];simp;omega,this.2⟩
    ·simp only [List.length_set] at hj
     have:=hw.fresh j hj
     exact ⟨this.1,fun m=>by show (qMg G i _ _).rt j m=none;rw [rtSet_ne (by omega)];exact this.2 m⟩
    ·rw [List.getElem?_set] at hj
     by_cases hij:i=j
     ·subst hij
      simp only [if_true,hilt] at hj
      cases hj
      refine ⟨some ⟨w.heap.size,0,none⟩,newCap,rtSet_at _ _ _ _,fun n' hn'=>by show (qMg G i _ _).rt i n'=none;rw [rtSet_ne (by omega)];exact hlater n' (by omega),by rw [List.length_append,hb1,hfl,Nat.add_mul],c1,⟨fun h=>(by cases h),fun p' hp'=>(by cases hp';rfl)⟩,fun p' hp' _=>?_⟩
      cases hp'
      refine ⟨rfl,by show (if w.heap.size=w.heap.size then _ else _)=_;simp,fun k c hk=>?_,fun k hk=>⟨?_,?_,?_⟩⟩
      ·rw [hcj]
       by_cases hkl:k < cells.length
       ·rw [List.getElem?_append_left hkl] at hk
        obtain ⟨u,u1,u2,u3⟩:=o3 k c hk
        refine ⟨u,?_,u2,u3.mono hle⟩
        have hko:k < olds.length:=(List.getElem?_eq_some_iff.1 u1).1
        simp only [cs]
        rw [Array.getElem?_append_left (by simp;omega),Array.getElem?_append_left (by simpa using hko)]
        simpa using u1
       ·rw [List.getElem?_append_right (by omega)] at hk
        obtain ⟨u,u1,u2,u3⟩:=hnewc _ hle _ c hk
        refine ⟨u,?_,u2,u3⟩
        have hkn:=(List.getElem?_eq_some_iff.1 u1).1
        simp only [cs]
        rw [Array.getElem?_append_left (by simp;omega),Array.getElem?_append_right (by simp;omega)]
        simp only [List.size_toArray,List.getElem?_toArray]
        rw [o2,← hb1];exact u1
      ·rw [hcj];exact ⟨cs[k]'(by rw [hcs];exact hk),by simp [hcs,hk]⟩
      ·rw [qCg];simp [World.frozen?,c3]
      ·cases hg:G.imm ((⟨w.heap.size,0,none⟩:Addr).add k) with
       | none=>exact hg
       | some u=>have:=World.block_lt_of_cell? _ _ (hw.imm _ u hg);rw [qCh] at this;simp at this
     ·rw [if_neg hij] at hj
      refine (hw.obj j ob hj).keep hle (fun b hb'=>⟨by rw [c3];exact qBd _ _ _ (hw.own b j hb').1,fun a ha=>rfl⟩) (fun m hm=>by show (qMg G i _ _).rt j m=none;rw [rtSet_ne (fun hc=>hij hc.1.symm)];exact hm) (fun hn=>hn)
theorem bufApp_ok (hT:TOk P T) {t t2 sz by_ i n:Nat} {s x:Operand} {cells:List AV} {es2:List (List Dat)} (ho:o.op=.call { callee:=.builtin .append,args:=#[s,x],argTypes:=#[t,t2] })
  (ht:qZy T t=some (sz,by_)) (ht2:qYb T t2=true) (hs:ρ s=.bm i n) (hi:h[i]?=some (.buf sz n cells)) (hx:qJx sz (ρ x)=some es2)
  (hb:(n+es2.length)*(by_+1)≤140737488355328) :
  OpS P E o ρ h (.bm i (n+es2.length)) (h.set i (.buf sz (n+es2.length) (cells++qDy es2))):=by
 have hlen2:∀ G xv w,WRel E G h w→RepA G (ρ x) xv→∀ e,e∈es2→e.length=sz:=fun G xv w hw hr=>(asNew_src (P:=P) hw.imm hr hx).1
 intro G e w hw hr
 have hx':=hr x (by simp [ho,Op.operands,Call.operands])
 have hl:=hlen2 G _ w hw hx'
 refine bufAppG_ok (m:=es2.length) (cs2:=qDy es2) hT ho ht ht2 hs hi (flatAV_length hl) (fun G xv w hw hx=>?_) hb G e w hw hr
 obtain ⟨_,news,n1,n2,n3,n4⟩:=asNew_src (P:=P) hw.imm hx ‹qJx sz (ρ x)=some es2›
 refine ⟨news,n1,n2,n3,fun j c hj=>?_⟩
 simp only [qDy,List.getElem?_map,Option.map_eq_some_iff] at hj
 obtain ⟨d,hd,rfl⟩:=hj
 obtain ⟨i',j',el,e1,e2,rfl⟩:=qEo hl hd
 obtain ⟨u,hu,hru⟩:=n4 i' el j' d e1 e2
 exact ⟨u,hu,.d hru⟩
end
theorem vAe {E:Env} {N:Nat} {l:List (Nat×AV)} {h:List AObj} {t sz i:Nat} (ht:look l t=.sl sz [] .full∨look l t=.nils) (hi:h[i]?=some .room) :
  ∀ a w,Rel E N (look l) h a w→Rel E N (look ((t,.bm i 0)::l)) (h.set i (.buf sz 0 [])) a w:=by
 intro a w ⟨h1,h2,G,hw,hr⟩
 have hx:=hr t
 obtain ⟨p,hv,hsp⟩:∃ p:Option Addr,a.tmps.getD t undef=.slice p 0 0∧∀ q,p=some q→q.spot=none:=by
  rcases ht with ht | ht
  ·rw [ht] at hx
   generalize a.tmps.getD t undef=u at hx
   cases hx with
   | sl r k =>
    obtain ⟨p,rfl,hk⟩:=k
    exact ⟨p,rfl,hk⟩
  ·rw [ht] at hx
   generalize a.tmps.getD t undef=u at hx
   cases hx;exact ⟨none,rfl,fun q hq=>by cases hq⟩
 have hrm:=hw.obj i _ hi
 have hilt:i < h.length:=(List.getElem?_eq_some_iff.1 hi).1
 have hle:=rtSet_le (G:=G) (i:=i) (n:=0) (x:=(p,0)) (hrm.2 0)
 refine ⟨h1,h2,qMg G i 0 (p,0),⟨hw.le.trans hle,hw.imm,hw.immNew,hw.keep,hw.size,hw.os,hw.tape,hw.output,hw.own,fun j hj=>?_,fun j o hj=>?_⟩,fun s=>?_⟩
 ·simp only [List.length_set] at hj
  have:=hw.fresh j hj
  exact ⟨this.1,fun n=>by rw [rtSet_ne (by omega)];exact this.2 n⟩
 ·rw [List.getElem?_set] at hj
  by_cases hij:i=j
  ·subst hij
   simp only [if_true,hilt] at hj
   cases hj
   exact ⟨p,0,rtSet_at _ _ _ _,fun n' hn'=>by rw [rtSet_ne (by omega)];exact hrm.2 n',by simp,Nat.le_refl _,⟨fun _=>rfl,hsp⟩,fun _ _ hc=>by omega⟩
  ·rw [if_neg hij] at hj
   exact (hw.obj j o hj).keep hle (fun b hb=>⟨rfl,fun _ _=>rfl⟩) (fun n hn=>by rw [rtSet_ne (fun hc=>hij hc.1.symm)];exact hn) (fun hn=>hn)
 ·show RepA _ (bif Nat.beq s t then _ else look l s) _
  cases hb:Nat.beq s t with
  | false=>exact (hr s).mono hle
  | true =>
   obtain rfl:=Nat.eq_of_beq_eq_true hb
   rw [hv]
   exact .bm _ _ (rtSet_at _ _ _ _) (fun _=>rfl)
theorem qOi {E:Env} {N:Nat} {l:List (Nat×AV)} {h:List AObj} {t i n sz:Nat} {cells:List AV} {es:List (List Dat)} (ht:look l t=.bm i n) (hi:h[i]?=some (.buf sz n cells)) (hn:es.length=n) (hd:RowDat cells 0 sz es) :
  ∀ a w,Rel E N (look l) h a w→Rel E N (look ((t,.sl sz es (.right i))::l)) (h.set i (.right sz n)) a w:=by
 intro a w ⟨h1,h2,G,hw,hr⟩
 have hx:=hr t
 rw [ht] at hx
 obtain ⟨p,cap,hv,hl⟩:=hx.bm_inv
 obtain ⟨p',cap',hl',hlater,hb1,hb2,hb3,hb4⟩:=hw.obj i _ hi
 rw [hl] at hl';cases hl'
 have hilt:i < h.length:=(List.getElem?_eq_some_iff.1 hi).1
 cases p with
 | none =>
  have hc0:=hb3.1 rfl
  have hn0:n=0:=by omega
  have hes:es=[]:=List.length_eq_zero_iff.1 (by omega)
  subst hn0;subst hes;subst hc0
  refine ⟨h1,h2,G,⟨hw.le,hw.imm,hw.immNew,hw.keep,hw.size,hw.os,hw.tape,hw.output,hw.own,fun j hj=>hw.fresh j (by simpa using hj),fun j o hj=>?_⟩,fun s=>?_⟩
  ·rw [List.getElem?_set] at hj
   by_cases hij:i=j
   ·subst hij
    simp only [if_true,hilt] at hj
    cases hj
    exact ⟨none,0,hl,Nat.le_refl _,hlater,fun hlt=>by omega⟩
   ·rw [if_neg hij] at hj;exact hw.obj j o hj
  ·show RepA _ (bif Nat.beq s t then _ else look l s) _
   cases hb:Nat.beq s t with
   | false=>exact hr s
   | true =>
    obtain rfl:=Nat.eq_of_beq_eq_true hb
    rw [hv]
    exact .sl (.nil sz) ⟨none,0,rfl,hl⟩
 | some p =>
  have hsp:=hb3.2 p rfl
  by_cases hcap0:0 < cap
  ·obtain ⟨q1,q2,q3,q4⟩:=hb4 p rfl hcap0
   have hns:n*sz≤cap*sz:=Nat.mul_le_mul_right _ hb2
   let inn:Addr→Prop:=fun a=>a.block=p.block∧a.spot=none∧p.off≤a.off∧a.off < p.off+n*sz
   let G':Gh:={ G with imm:=fun a=>if a.block=p.block∧a.spot=none∧p.off≤a.off∧a.off < p.off+n*sz then w.cell? a else G.imm a }
   have hle:G.le G':=by
    refine ⟨fun x u hu=>?_,fun _ _ h=>h,fun _ _ _ h=>h,fun _ _ h=>h⟩
    have hne:¬ (x.block=p.block∧x.spot=none∧p.off≤x.off∧x.off < p.off+n*sz):=fun hh=>by
     have:=(q4 (x.off-p.off) (by omega)).2.2
     rw [qCf p q1,← hh.1,show p.off+(x.off-p.off)=x.off by omega,← hh.2.1] at this
     rw [show (⟨x.block,x.off,x.spot⟩:Addr)=x from rfl,hu] at this
     cases this
    show (if _ then _ else _)=_
    rw [if_neg hne];exact hu
   have hKb:=(hw.own _ i q2).2
   have hat:∀ k,k < n*sz→G'.imm (p.add k)=w.cell? (p.add k):=fun k hk=>by
    show (if _ then _ else _)=_
    rw [if_pos (by rw [qCf p q1];exact ⟨rfl,rfl,by simp,by simp;omega⟩)]
   refine ⟨h1,h2,G',⟨hw.le.trans hle,fun x u hu=>?_,fun x u hu=>?_,hw.keep,hw.size,hw.os,hw.tape,hw.output,hw.own,fun j hj=>hw.fresh j (by simpa using hj),fun j o hj=>?_⟩,fun s=>?_⟩
   ·simp only [G'] at hu
    split at hu
    ·exact hu
    ·exact hw.imm x u hu
   ·simp only [G'] at hu
    split at hu
    ·rename_i hh;right;rw [hh.1];exact hKb
    ·exact hw.immNew x u hu
   ·rw [List.getElem?_set] at hj
    by_cases hij:i=j
    ·subst hij
     simp only [if_true,hilt] at hj
     cases hj
     refine ⟨some p,cap,hl,hb2,hlater,fun hlt=>⟨p,rfl,q1,q2,fun k hk1 hk2=>?_⟩⟩
     obtain ⟨c1,c2,c3⟩:=q4 k hk2
     refine ⟨c1,c2,?_⟩
     show (if _ then _ else _)=_
     rw [if_neg (by rw [qCf p q1];simp;omega)];exact c3
    ·rw [if_neg hij] at hj
     refine (hw.obj j o hj).keep hle (fun b hb=>⟨rfl,fun x hx=>?_⟩) (fun _ h=>h) (fun h=>h)
     have hne:b≠p.block:=fun hh=>by subst hh;rw [q2] at hb;cases hb;exact hij rfl
     show (if _ then _ else _)=_
     rw [if_neg (fun hh=>hne (hx.symm.trans hh.1))]
   ·show RepA _ (bif Nat.beq s t then _ else look l s) _
    cases hb:Nat.beq s t with
    | false=>exact (hr s).mono hle
    | true =>
     obtain rfl:=Nat.eq_of_beq_eq_true hb
     rw [hv]
     have hcell:∀ (i':Nat) (e:List Dat) (j:Nat) (d:Dat),es[i']?=some e→e[j]?=some d→G'.imm (p.add (i'*sz+j))=some ((w.cell? (p.add (i'*sz+j))).getD undef)∧RepD G'.imm d ((w.cell? (p.add (i'*sz+j))).getD undef):=by
      intro i' e j d he hj
      obtain ⟨c,g1,g2⟩:=hd.2 i' e j d he hj
      rw [Nat.zero_add] at g1
      have hlt:=(List.getElem?_eq_some_iff.1 g1).1
      obtain ⟨u,u1,u2,u3⟩:=q3 _ c g1
      rw [hat _ (by omega),u1]
      exact ⟨rfl,(toDat_ok u3 g2).mono hle.imm⟩
     refine .sl ?_ ⟨some p,cap,by rw [hn],by rw [hn];exact hl⟩
     rw [← hn]
     exact .sl sz es p cap (fun k=>(w.cell? (p.add k)).getD undef) (fun _=>q1) (by omega) hd.1 (fun i' e j d he hj=>(hcell i' e j d he hj).1) (fun i' e j d he hj=>(hcell i' e j d he hj).2)
  ·have hc0:cap=0:=by omega
   have hn0:n=0:=by omega
   have hes:es=[]:=List.length_eq_zero_iff.1 (by omega)
   subst hn0;subst hes;subst hc0
   refine ⟨h1,h2,G,⟨hw.le,hw.imm,hw.immNew,hw.keep,hw.size,hw.os,hw.tape,hw.output,hw.own,fun j hj=>hw.fresh j (by simpa using hj),fun j o hj=>?_⟩,fun s=>?_⟩
   ·rw [List.getElem?_set] at hj
    by_cases hij:i=j
    ·subst hij
     simp only [if_true,hilt] at hj
     cases hj
     exact ⟨some p,0,hl,Nat.le_refl _,hlater,fun hlt=>by omega⟩
    ·rw [if_neg hij] at hj;exact hw.obj j o hj
   ·show RepA _ (bif Nat.beq s t then _ else look l s) _
    cases hb:Nat.beq s t with
    | false=>exact hr s
    | true =>
     obtain rfl:=Nat.eq_of_beq_eq_true hb
     rw [hv]
     exact .sl (RepD.sl sz [] p 0 (fun _=>undef) (fun _=>hsp) (Nat.le_refl _) (fun e he=>by cases he) (fun i e j d he=>by simp at he) (fun i e j d he=>by simp at he)) ⟨some p,0,rfl,hl⟩
theorem vDg {P:Program} {E:Env} {N:Nat} {Q:Exit→(Nat→AV)→List AObj→Prop} {c:Code} {l:List (Nat×AV)} {h h':List AObj} (t sz i:Nat) (ht:look l t=.sl sz [] .full∨look l t=.nils) (hi:h[i]?=some .room)
  (hh:qEd (h.set i (.buf sz 0 [])) some=some h') (hc:AW P E N c Q (look ((t,.bm i 0)::l)) h'):AW P E N c Q (look l) h:=by
 rw [forceS_eq] at hh;cases hh
 exact qJp (vAe ht hi) hc
theorem qJq {P:Program} {E:Env} {N:Nat} {Q:Exit→(Nat→AV)→List AObj→Prop} {c:Code} {l:List (Nat×AV)} {h h':List AObj} (t i sz:Nat) {n:Nat} {cells:List AV} (es:List (List Dat)) (ht:look l t=.bm i n) (hi:h[i]?=some (.buf sz n cells)) (hn:es.length=n)
  (hd:RowDat cells 0 sz es) (hh:qEd (h.set i (.right sz n)) some=some h') (hc:AW P E N c Q (look ((t,.sl sz es (.right i))::l)) h'):AW P E N c Q (look l) h:=by
 rw [forceS_eq] at hh;cases hh
 exact qJp (qOi ht hi hn hd) hc
def vIm (T:Tr) (t:Nat):Option (Nat×Nat×Bool):=match T.find t with
 | some i=>match i.kind with
  | .array n e=>match T.find e with
   | some ie=>some (n,ie.size,ie.agg)
   | none=>none
  | _=>none
 | none=>none
theorem arrT_ok {P:Program} {T:Tr} (hT:TOk P T) {t n sz:Nat} {g:Bool} (h:vIm T t=some (n,sz,g)):∃ e ie,P.underlying t=some (.array n e)∧TypeAt P e ie∧ie.size=sz∧ie.agg=g:=by
 unfold vIm at h
 split at h
 ·rename_i i hi
  split at h
  ·rename_i n' e hk
   split at h
   ·rename_i ie hie
    cases h
    obtain ⟨d,hd,hkd⟩:=(hT.at hi).und
    rw [hk] at hkd
    cases d <;> simp [qCl] at hkd
    obtain ⟨rfl,rfl⟩:=hkd
    exact ⟨_,ie,hd,hT.at hie,rfl,rfl⟩
   ·cases h
  ·cases h
 ·cases h
section
variable {P:Program} {E:Env} {T:Tr} {o:Oper} {ρ:Operand→AV} {h h':List AObj} {v:AV}
theorem arrAddr_ok (hT:TOk P T) {t n sz:Nat} {g:Bool} {x ix:Operand} {k:IntKind} {j:Int} {cs:List Dat} (ho:o.op=.indexAddr t x ix) (ht:vIm T t=some (n,sz,g)) (hx:ρ x=.iptr cs) (hix:ρ ix=.d (.int k j)) (h0:0≤j∧j < (n:Int)) :
  OpP P o ρ (.iptr (cs.drop (j.toNat*sz))):=by
 intro G e w hi hr
 have hx':RepA G (ρ x) (e x):=hr x (by simp [ho,Op.operands])
 have hix':RepA G (ρ ix) (e ix):=hr ix (by simp [ho,Op.operands])
 rw [hx] at hx';rw [hix] at hix'
 obtain ⟨et,ie,h1,h2,h3,h4⟩:=arrT_ok hT ht
 obtain ⟨a,hv,hd⟩:=qPp hx' (j.toNat*sz)
 refine ⟨_,?_,hd⟩
 unfold execOp
 simp only [ho,Sem.run_bind]
 rw [hv,hix'.int_inv]
 simp [Instr.indexAt,asIntOf,run_underlying h1,Instr.sureAddr,h0.1,h0.2,h2.run_size,h3]
theorem qAs (hT:TOk P T) {t t2 sz by_ i:Nat} {s x:Operand} {es es2:List (List Dat)} (ho:o.op=.call { callee:=.builtin .append,args:=#[s,x],argTypes:=#[t,t2] })
  (ht:qZy T t=some (sz,by_)) (ht2:qYb T t2=true) (hs:ρ s=.sl sz es (.right i)) (hi:h[i]?=some (.right sz es.length)) (hx:qJx sz (ρ x)=some es2)
  (hb:(es.length+es2.length)*(by_+1)≤140737488355328) :
  OpS P E o ρ h (.sl sz (es++es2) (.right i)) (h.set i (.right sz (es++es2).length)):=by
 rw [List.length_append]
 exact qEe hT ho ht ht2 hs hi hx hb
theorem qQj (hT:TOk P T) {t i n off sz:Nat} {ti:TI} {x y:Operand} {cells:List AV} {vy:AV} (ho:o.op=.store t x y) (hx:ρ x=.bp i n off) (hyv:ρ y=vy) (hi:h[i]?=some (.buf sz n cells)) (hf:T.find t=some ti) (hsz:Nat.beq ti.size 1=true)
  (hs:qCs vy=true) (hlt:off < cells.length) (hh:h.set i (.buf sz n (cells.set off vy))=h'):OpS P E o ρ h .any h':=by
 subst hyv;subst hh
 exact bufStore_ok hT ho hx hi hf hsz hs hlt
end
theorem Spec.args {P:Program} {f:FuncId} {args args':List AV} {h:List AObj} {Q:AV→List AObj→Prop} (hl:AllLe args args') (S:Spec P f args' h Q):Spec P f args h Q:=by
 obtain ⟨h1,h2⟩:=qFi hl
 refine ⟨S.1,fun G w vals hs hv ht hw=>S.2 G w vals (hs.trans h1) (fun j y v hy hj=>?_) ht hw⟩
 obtain ⟨x,hx,hle⟩:=h2 j y hy
 exact hle _ _ (hv j x v hx hj)
theorem qSy {P:Program} {E:Env} {o:Oper} {ρ:Operand→AV} {H:List AObj} {f:Operand} {as:List Operand} {ats:Array TypeId} {g:FuncId} {first cap:List AV} (ho:o.op=.call ⟨.value f,as.toArray,ats⟩) (hf:ρ f=.fn (.func g) first cap)
  {args args':List AV} {r0:AV} (S:Spec P g args' [] (fun r h'=>r=r0∧h'=[])) (hargs:first++(as.map ρ++cap)=args) (hle:AllLe args args') (hla:qBe 0 args=true) (hr0:low 0 r0=true):OpS P E o ρ H r0 H :=
 qBu ho hf (Spec.args hle S) hargs hla hr0
theorem qId {w:World} {a:Addr} {v:Value} (h:w.cell? a=some v):a.block < w.heap.size:=by
 by_cases hb:a.block < w.heap.size
 ·exact hb
 ·exfalso
  unfold World.cell? at h
  rw [Array.getElem?_eq_none (by omega)] at h
  simp at h
theorem vAa {E:Env} {G:Gh} {h:List AObj} {w w':World} (hw:WRel E G h w) (hb:∀ b,b < w.heap.size→w'.heap[b]?=w.heap[b]?) (hs:w.heap.size≤w'.heap.size) (ho:w'.os=w.os) (ht:w'.tape=w.tape) (hu:w'.output=w.output):WRel E G h w':=by
 refine ⟨hw.le,fun a v ha=>?_,hw.immNew,fun b hk=>?_,Nat.le_trans hw.size hs,ho.trans hw.os,ht.trans hw.tape,hu.trans hw.output,fun b i hb'=>⟨Nat.lt_of_lt_of_le (hw.own b i hb').1 hs,(hw.own b i hb').2⟩,hw.fresh,fun i o hi=>?_⟩
 ·have h1:=hw.imm a v ha
  rw [World.cell?_of_block (w:=w) (hb _ (qId h1))];exact h1
 ·rw [hb b (Nat.lt_of_lt_of_le hk.1 hw.size)];exact hw.keep b hk
 ·exact (hw.obj i o hi).keep (.refl G) (fun b hb'=>⟨hb b (hw.own b i hb').1,fun a _=>rfl⟩) (fun n hn=>hn) (fun hn=>hn)
section
variable {P:Program} {T:Tr} {E:Env} {o:Oper} {ρ:Operand→AV} {h:List AObj}
end
theorem qTc {E:Env} {G:Gh} {h:List AObj} {w:World} {C:Array Value} {el:TypeId} {f:Nat×Nat} (hE:E.w0.heap.size≤w.heap.size) (hown:G.own w.heap.size=none) (hw:WRel E G h (w.alloc (.cells C el))):WRel E G h (w.alloc (.cells C el f)):=by
 have hne:∀ b,b≠w.heap.size→(w.alloc (.cells C el f)).heap[b]?=(w.alloc (.cells C el)).heap[b]?:=fun b hb=>by
  show (w.heap.push _)[b]?=(w.heap.push _)[b]?
  rw [Array.getElem?_push,Array.getElem?_push,if_neg hb,if_neg hb]
 have hcell:∀ a,(w.alloc (.cells C el f)).cell? a=(w.alloc (.cells C el)).cell? a:=fun a=>by
  by_cases hb:a.block=w.heap.size
  ·have h1:(w.alloc (.cells C el f)).heap[a.block]?=some (.cells C el f):=by rw [hb];exact Array.getElem?_push_size
   have h2:(w.alloc (.cells C el)).heap[a.block]?=some (.cells C el):=by rw [hb];exact Array.getElem?_push_size
   simp only [World.cell?,h1,h2]
  ·exact World.cell?_of_block (hne _ hb)
 have hsz:(w.alloc (.cells C el f)).heap.size=(w.alloc (.cells C el)).heap.size:=by show (w.heap.push _).size=(w.heap.push _).size;simp
 refine ⟨hw.le,fun a v ha=>by rw [hcell];exact hw.imm a v ha,hw.immNew,fun b hk=>?_,by rw [hsz];exact hw.size,hw.os,hw.tape,hw.output,fun b i hb=>by rw [hsz];exact hw.own b i hb,hw.fresh,fun i o hi=>?_⟩
 ·rw [hne b (by have:=hk.1;omega)];exact hw.keep b hk
 ·exact (hw.obj i o hi).keep (.refl G) (fun b hb'=>⟨hne b (fun hh=>by rw [hh,hown] at hb';cases hb'),fun a _=>rfl⟩) (fun n hn=>hn) (fun hn=>hn)
theorem OpR.mono {P:Program} {E:Env} {o:Oper} {ρ:Operand→AV} {h:List AObj} {R R':AV→List AObj→Prop} (hs:OpR P E o ρ h R) (hr:∀ v k,R v k→R' v k):OpR P E o ρ h R':=by
 intro G a w hw hρ
 refine qEu ?_ (hs G a w hw hρ)
 rintro a' w' ⟨u,G',v',h',k,r⟩
 exact ⟨u,G',v',h',hr _ _ k,r⟩
theorem vIh {P:Program} {E:Env} {o:Oper} {ρ:Operand→AV} {H:List AObj} {f:Operand} {as:List Operand} {ats:Array TypeId} {g:FuncId} {first cap:List AV} (ho:o.op=.call ⟨.value f,as.toArray,ats⟩) (hf:ρ f=.fn (.func g) first cap)
  {args:List AV} {hc:List AObj} {ι:Type} {p:ι→Prop} {rf:ι→AV} {hf':ι→List AObj} (S:Spec P g args hc (fun r h'=>∃ x,p x∧r=rf x∧h'=hf' x)) (fs:List Nat) (hnd:fs.Nodup)
  (hobj:fs.map (fun j=>H[j]?)=hc.map some) (hargs:first++(as.map ρ++cap)=qHl (fsf fs) args) (hla:qBe fs.length args=true) (hlow:qCd 0 hc=true) (hlow':∀ x,qCd 0 (hf' x)=true) (hr0:∀ x,ren (fsf fs) (rf x)=rf x)
  {H':ι→List AObj} (hH:∀ x,qFo H fs (hf' x)=H' x):OpR P E o ρ H (fun v k=>∃ x,p x∧v=rf x∧k=H' x):=by
 refine OpR.mono (vFx ho hf S fs hnd (by rw [hobj];have:=renH_low (fsf fs) hc hlow;rw [show hc.map (fun o=>some (qJd (fsf fs) o))=(hc.map (qJd (fsf fs))).map some by simp,this]) (lowH_mono (Nat.zero_le _) hc hlow) hargs hla) ?_
 rintro v k ⟨r,h',⟨x,hp,rfl,rfl⟩,hl,rfl,rfl⟩
 exact ⟨x,hp,hr0 x,by rw [renH_low (fsf fs) _ (hlow' x)];exact hH x⟩
theorem qSx {P:Program} {E:Env} {o:Oper} {ρ:Operand→AV} {H:List AObj} {f:Operand} {as:List Operand} {ats:Array TypeId} {g:FuncId} {first cap:List AV} (ho:o.op=.call ⟨.value f,as.toArray,ats⟩) (hf:ρ f=.fn (.func g) first cap)
  {args:List AV} {hc h0:List AObj} {r0:AV} (S:Spec P g args hc (fun r h'=>r=r0∧h'=h0)) (fs:List Nat) (hnd:fs.Nodup)
  (hobj:fs.map (fun j=>H[j]?)=hc.map some) (hargs:first++(as.map ρ++cap)=qHl (fsf fs) args) (hla:qBe fs.length args=true) (hlow:qCd 0 hc=true) (hlow':qCd 0 h0=true) {v:AV} (hr0:ren (fsf fs) r0=v)
  {H':List AObj} (hH:qFo H fs h0=H'):OpS P E o ρ H v H' :=
 qEp ho hf S fs hnd (by rw [hobj];have:=renH_low (fsf fs) hc hlow;rw [show hc.map (fun o=>some (qJd (fsf fs) o))=(hc.map (qJd (fsf fs))).map some by simp,this]) (lowH_mono (Nat.zero_le _) hc hlow) hargs hla hr0
  (by rw [renH_low (fsf fs) h0 hlow'];exact hH)
theorem qUh {P:Program} {E:Env} {N:Nat} {ops:List Oper} {Q:(Nat→AV)→List AObj→Prop} {d:Nat} {op:Op} {ty:TypeId} {pos:String} {after:Array Edge} {rest:List Oper}
  {l:List (Nat×AV)} {h:List AObj} {ι:Type} {p:ι→Prop} {v:ι→AV} {h':ι→List AObj} (hs:OpR P E ⟨some d,op,ty,pos,after,none⟩ (ev (look l)) h (fun u k=>∃ x,p x∧u=v x∧k=h' x)) (hd:Nat.blt d N=true)
  (hk:∀ x,p x→AWk P E N ops Q rest (look ((d,v x)::l)) (h' x)):AWk P E N ops Q (⟨some d,op,ty,pos,after,none⟩::rest) (look l) h :=
 qDp hs hd fun u k ⟨x,hp,hu,hk'⟩=>by subst hu;subst hk';exact hk x hp
theorem vHb {T:Tr} {rs:List ResultVar} {k:Nat} {Q:AV→List AObj→Prop} {τ:Nat→AV} {h h':List AObj} {v r:AV} (h7:Q r h') (h1:qWg T τ h rs=some v) (h2:AV.le v r) (h3:h'=h.take k) (h4:h'.length=k) (h5:low k r=true) (h6:qCd k h'=true) :
  vBk T rs k Q .ret τ h:=⟨v,r,h',h1,h2,h3,h4,h5,h6,h7⟩
theorem AllLe.of_eq {l r:List AV} (h:l=r):AllLe l r:=h▸AllLe.refl l
theorem ObLe.row {l r:List AV} (h:l=r):ObLe (.row l) (.row r):=AllLe.of_eq h
theorem AV.le.int {k:IntKind} {a b:Int} (h:a=b):AV.le (.d (.int k a)) (.d (.int k b)):=.eq (congrArg (fun z=>AV.d (.int k z)) h)
theorem AV.le.bool {a b:Bool} (h:a=b):AV.le (.d (.bool a)) (.d (.bool b)):=.eq (congrArg (fun z=>AV.d (.bool z)) h)
theorem AV.le.sl {sz:Nat} {a b:List (List Dat)} (h:a=b):AV.le (.d (.sl sz a)) (.d (.sl sz b)):=.eq (congrArg (fun z=>AV.d (.sl sz z)) h)
theorem AV.le.slt {sz:Nat} {a b:List (List Dat)} {t:Tok} (h:a=b):AV.le (.sl sz a t) (.sl sz b t):=.eq (congrArg (fun z=>AV.sl sz z t) h)
theorem AV.le.dat' {sz:Nat} {a b:List (List Dat)} {t:Tok} (h:a=b):AV.le (.sl sz a t) (.d (.sl sz b)):=.trans .dat (.sl h)
def spl (c:UInt8):List UInt8→List (List UInt8)
 | []=>[[]]
 | x::r=>if x=c then []::spl c r else match spl c r with
  | []=>[[x]]
  | w::l=>(x::w)::l
theorem vGw (c:UInt8) (r:List UInt8):spl c (c::r)=[]::spl c r:=by rw [spl,if_pos rfl]
theorem qUo {c x:UInt8} (h:x≠c) {r:List UInt8} {w:List UInt8} {l:List (List UInt8)} (hs:spl c r=w::l):spl c (x::r)=(x::w)::l:=by rw [spl,if_neg h,hs]
theorem qFq (c:UInt8) (s:List UInt8):spl c s≠[]:=by
 cases s with
 | nil=>simp [spl]
 | cons x r =>
  unfold spl
  split
  ·simp
  ·split <;> simp
def joi (c:UInt8):List (List UInt8)→List UInt8
 | []=>[]
 | [w]=>w
 | w::v::l=>w++c::joi c (v::l)
theorem qDf (c:UInt8) (w:List UInt8) {l:List (List UInt8)} (h:l≠[]):joi c (w::l)=w++c::joi c l:=by
 cases l with
 | nil=>exact absurd rfl h
 | cons v l=>rfl
theorem qNj {c:UInt8} {w:List UInt8} (h:c∉w):spl c w=[w]:=by
 induction w with
 | nil=>rfl
 | cons x r ih =>
  have h1:x≠c:=fun hh=>h (by rw [hh];exact List.mem_cons_self)
  unfold spl
  rw [if_neg h1,ih (fun hh=>h (List.mem_cons_of_mem _ hh))]
theorem qDb {c:UInt8} {w:List UInt8} (h:c∉w) (s:List UInt8):spl c (w++c::s)=w::spl c s:=by
 induction w with
 | nil=>exact vGw c s
 | cons x r ih =>
  have h1:x≠c:=fun hh=>h (by rw [hh];exact List.mem_cons_self)
  exact qUo h1 (ih (fun hh=>h (List.mem_cons_of_mem _ hh)))
theorem qKm {c:UInt8}:∀ {l:List (List UInt8)},l≠[]→(∀ w,w∈l→c∉w)→spl c (joi c l)=l
 | [],h,_=>absurd rfl h
 | [w],_,h=>by show spl c w=[w];exact qNj (h w List.mem_cons_self)
 | w::v::l,_,h=>by
  show spl c (w++c::joi c (v::l))=_
  rw [qDb (h w List.mem_cons_self),qKm (by simp) (fun u hu=>h u (List.mem_cons_of_mem _ hu))]
theorem qGx (c:UInt8):∀ (s:List UInt8),joi c (spl c s)=s
 | []=>rfl
 | x::r=>by
  have ih:=qGx c r
  have hne:=qFq c r
  unfold spl
  split
  ·rename_i hx
   rw [qDf c [] hne,ih,hx];rfl
  ·cases hs:spl c r with
   | nil=>exact absurd hs hne
   | cons w l =>
    rw [hs] at ih
    simp only
    cases l with
    | nil=>show x::w=_;rw [← ih];rfl
    | cons v l=>show x::(w++c::joi c (v::l))=_;rw [← ih];rfl
theorem qIk (c:UInt8):∀ (s:List UInt8),(spl c s).length=s.count c+1
 | []=>rfl
 | x::r=>by
  have ih:=qIk c r
  unfold spl
  split
  ·rename_i hx
   subst hx
   simp [ih]
  ·rename_i hx
   cases hs:spl c r with
   | nil=>exact absurd hs (qFq c r)
   | cons w l =>
    rw [hs] at ih
    simp only [List.length_cons] at ih ⊢
    rw [List.count_cons,if_neg (by simpa using hx)]
    omega
end Tdoc
namespace Tdoc
open Go
structure Flp where
 ap:Int
 byt:Int
 bit:Int
deriving DecidableEq
structure Akt where
 kind:Int
 a:Int
 b:Int
 n:Int
 state:List UInt8
 text:List UInt8
 number:List UInt8
 sur:List UInt8
 giv:List UInt8
 nat:List UInt8
 bir:List UInt8
 sex:List UInt8
 exp:Int
 prots:List Int
 basic:Bool
 pts:Nat
 tday:Int
 faults:List Int
 cuts:List Int
 flips:List Flp
deriving DecidableEq
def akt0:Akt:=⟨0,0,0,0,[],[],[],[],[],[],[],[],0,[],false,0,0,[],[],[]⟩
inductive Fld where
 | num (n:Int)
 | txt (s:List UInt8)
 | rst (s:List UInt8)
 | flg (b:Bool)
 | nums (l:List Int)
 | flps (l:List Flp)
inductive Shp where
 | num | txt | rst | flg | nums | flps
def qBc (k:Int):List UInt8 :=
 if k=1 then [100,97,121] else if k=2 then [102,111,117,110,100] else if k=3 then [114,111,108,108,111,118,101,114] else if k=4 then [105,115,115,117,101]
 else if k=5 then [101,120,99,104,97,110,103,101] else if k=6 then [109,97,115,116,101,114] else if k=7 then [114,101,118,111,107,101] else if k=8 then [100,101,118,105,97,116,101]
 else if k=9 then [99,111,112,121] else if k=10 then [105,110,115,112,101,99,116] else [112,111,115,116]
def qBy:List (List UInt8):=[qBc 1,qBc 2,qBc 3,qBc 4,qBc 5,qBc 6,qBc 7,qBc 8,qBc 9,qBc 10,qBc 11]
def qCb (w:List UInt8):Int :=
 if w=qBc 1 then 1 else if w=qBc 2 then 2 else if w=qBc 3 then 3 else if w=qBc 4 then 4 else if w=qBc 5 then 5 else if w=qBc 6 then 6 else if w=qBc 7 then 7 else if w=qBc 8 then 8
 else if w=qBc 9 then 9 else if w=qBc 10 then 10 else if w=qBc 11 then 11 else 0
theorem qLb {k:Int} (h:1≤k∧k≤11):qCb (qBc k)=k:=by
 rcases (by omega:k=1∨k=2∨k=3∨k=4∨k=5∨k=6∨k=7∨k=8∨k=9∨k=10∨k=11) with h | h | h | h | h | h | h | h | h | h | h <;> subst h <;> decide
theorem qIo {k:Int} (h:1≤k∧k≤11):(32:UInt8)∉qBc k:=by
 rcases (by omega:k=1∨k=2∨k=3∨k=4∨k=5∨k=6∨k=7∨k=8∨k=9∨k=10∨k=11) with h | h | h | h | h | h | h | h | h | h | h <;> subst h <;> decide
def qAo (x:Akt):List Fld :=
 if x.kind=1 then [.num x.n]
 else if x.kind=2 then [.txt x.state,.txt x.text]
 else if x.kind=3 then [.num x.a]
 else if x.kind=4 then [.num x.a,.txt x.number,.txt x.sur,.txt x.giv,.txt x.nat,.txt x.bir,.txt x.sex,.num x.exp,.flg x.basic,.nums x.prots,.nums x.faults]
 else if x.kind=7 then [.num x.a,.num x.b,.num x.n]
 else if x.kind=9 then [.num x.a,.txt x.text]
 else if x.kind=10 then [.num x.a,.num x.b,.nums x.cuts,.flps x.flips]
 else if x.kind=11 then [.txt x.state,.rst x.text]
 else [.num x.a,.num x.b]
def qCr (k:Int):List Shp :=
 if k=1 then [.num]
 else if k=2 then [.txt,.txt]
 else if k=3 then [.num]
 else if k=4 then [.num,.txt,.txt,.txt,.txt,.txt,.txt,.num,.flg,.nums,.nums]
 else if k=7 then [.num,.num,.num]
 else if k=9 then [.num,.txt]
 else if k=10 then [.num,.num,.nums,.flps]
 else if k=11 then [.txt,.rst]
 else [.num,.num]
def qDj:Fld→Shp
 | .num _=>.num
 | .txt _=>.txt
 | .rst _=>.rst
 | .flg _=>.flg
 | .nums _=>.nums
 | .flps _=>.flps
theorem qBz (x:Akt):(qAo x).map qDj=qCr x.kind:=by
 unfold qAo qCr
 repeat' split
 all_goals rfl
def qOu (k:Int) (l:List Fld):Akt :=
 match l with
 | [.num n]=>if k=1 then { akt0 with kind:=k,n:=n } else { akt0 with kind:=k,a:=n }
 | [.txt s,.txt t]=>{ akt0 with kind:=k,state:=s,text:=t }
 | [.txt s,.rst t]=>{ akt0 with kind:=k,state:=s,text:=t }
 | [.num a,.txt nu,.txt su,.txt gi,.txt na,.txt bi,.txt se,.num ex,.flg ba,.nums pr,.nums fa]=>{ akt0 with kind:=k,a:=a,number:=nu,sur:=su,giv:=gi,nat:=na,bir:=bi,sex:=se,exp:=ex,basic:=ba,prots:=pr,faults:=fa }
 | [.num a,.num b,.num n]=>{ akt0 with kind:=k,a:=a,b:=b,n:=n }
 | [.num a,.txt t]=>{ akt0 with kind:=k,a:=a,text:=t }
 | [.num a,.num b,.nums c,.flps f]=>{ akt0 with kind:=k,a:=a,b:=b,cuts:=c,flips:=f }
 | [.num a,.num b]=>{ akt0 with kind:=k,a:=a,b:=b }
 | _=>akt0
def qBk (x:Akt):Akt:=qOu x.kind (qAo x)
def qUk (s:List UInt8):List UInt8:=if s=[] then [95] else s.map fun c=>if c=32 then 95 else c
def qIi (w:List UInt8):List UInt8:=if w=[95] then [] else w.map fun c=>if c=95 then 32 else c
def qEb (l:List (List UInt8)):List UInt8:=if l=[] then [45] else joi 44 l
def qCn (w:List UInt8):List (List UInt8):=if w=[45] then [] else spl 44 w
def qBr (f:Flp):List UInt8:=Lib.itoa f.ap++58::(Lib.itoa f.byt++58::Lib.itoa f.bit)
def wrF:Fld→List UInt8
 | .num n=>Lib.itoa n
 | .txt s=>qUk s
 | .rst s=>s
 | .flg b=>if b then [121,101,115] else [110,111]
 | .nums l=>qEb (l.map Lib.itoa)
 | .flps l=>qEb (l.map qBr)
def vAx (w:List UInt8):Option Int:=match Lib.atoiAll w with
 | .ok v=>some v
 | _=>none
def qWt (w:List UInt8):Option Flp:=match spl 58 w with
 | [x,y,z]=>match vAx x,vAx y,vAx z with
  | some a,some b,some c=>some ⟨a,b,c⟩
  | _,_,_=>none
 | _=>none
def qZz {α:Type} (f:List UInt8→Option α):List (List UInt8)→Option (List α)
 | []=>some []
 | w::l=>match f w,qZz f l with
  | some a,some r=>some (a::r)
  | _,_=>none
def rdF (s:Shp) (w:List UInt8):Option Fld:=match s with
 | .num=>(vAx w).map .num
 | .txt=>some (.txt (qIi w))
 | .rst=>some (.rst w)
 | .flg=>some (.flg (decide (w=[121,101,115])))
 | .nums=>(qZz vAx (qCn w)).map .nums
 | .flps=>(qZz qWt (qCn w)).map .flps
def qHm:List Shp→List (List UInt8)→Option (List Fld)
 | [],[]=>some []
 | s::ss,w::ws=>match rdF s w,qHm ss ws with
  | some f,some r=>some (f::r)
  | _,_=>none
 | _,_=>none
def qGl (c:UInt8):Nat→List UInt8→List (List UInt8)
 | 0,s=>[s]
 | k+1,s=>match spl c s with
  | []=>[s]
  | [w]=>[w]
  | w::l=>w::qGl c k (joi c l)
def qHh (s:List UInt8):Option Akt:=match spl 32 s with
 | []=>none
 | w::ws=>if qCb w=0 then none else
  (qHm (qCr (qCb w)) (if qCb w=11 then (qGl 32 2 s).drop 1 else ws)).map (qOu (qCb w))
def qAv (n:Int):Prop:=-1073741824≤n∧n≤1073741824
def qRl (s:List UInt8):Prop:=s.length≤40∧s≠[32]∧∀ c,c∈s→32≤c.toNat∧c.toNat≤126∧c≠95
def qRv (s:List UInt8):Prop:=s≠[]∧s.length≤1000∧s.head?≠some 32∧∀ c,c∈s→32≤c.toNat∧c.toNat≤126
def okF:Fld→Prop
 | .num n=>qAv n
 | .txt s=>qRl s
 | .rst s=>qRv s
 | .flg _=>True
 | .nums l=>∀ n,n∈l→qAv n
 | .flps l=>∀ f,f∈l→qAv f.ap∧qAv f.byt∧qAv f.bit
def qBp (x:Akt):List (List UInt8):=qBc x.kind::(qAo x).map wrF
def LineOk (x:Akt):Prop:=(1≤x.kind∧x.kind≤11)∧x=qBk x∧∀ f,f∈qAo x→okF f
open Classical in
noncomputable def lineK (x:Akt):List UInt8:=if LineOk x then joi 32 (qBp x) else []
end Tdoc
namespace Tdoc
open Go
theorem qYn {c:UInt8} (hc:48≤c.toNat∧c.toNat≤57):∀ (l:List UInt8) (acc v:Nat),Lib.parseUint10 acc l=.ok v→v < 1000000000000000→Lib.parseUint10 acc (l++[c])=.ok (v*10+(c.toNat-48))
 | [],acc,v,h,hv=>by
  simp only [Lib.parseUint10] at h
  injection h with h
  subst h
  simp only [List.nil_append,Lib.parseUint10]
  rw [if_pos hc,if_neg (by omega),if_neg (by omega)]
 | x::r,acc,v,h,hv=>by
  simp only [Lib.parseUint10] at h
  simp only [List.cons_append,Lib.parseUint10]
  split at h
  ·rename_i h1
   rw [if_pos h1]
   split at h
   ·cases h
   ·rename_i h2
    rw [if_neg h2]
    split at h
    ·cases h
    ·rename_i h3
     rw [if_neg h3]
     exact qYn hc r _ v h hv
  ·cases h
theorem qDz {k:Nat} (h:k < 10):(UInt8.ofNat (48+k)).toNat=48+k:=by rw [UInt8.toNat_ofNat'];omega
theorem qIb:∀ (u:Nat),∀ c,c∈Lib.decDigits u→48≤c.toNat∧c.toNat≤57:=by
 intro u
 induction u using Nat.strongRecOn with
 | _ u ih =>
  intro c hc
  rw [Lib.decDigits] at hc
  split at hc
  ·rename_i h
   rw [List.mem_singleton] at hc
   rw [hc,qDz h];omega
  ·rename_i h
   rcases List.mem_append.1 hc with hc | hc
   ·exact ih (u / 10) (by omega) c hc
   ·rw [List.mem_singleton] at hc
    rw [hc,qDz (by omega)];omega
theorem qVn (u:Nat):Lib.decDigits u≠[]:=by
 rw [Lib.decDigits]
 split <;> simp
theorem vHc:∀ (u:Nat),u < 1000000000000000→Lib.parseUint10 0 (Lib.decDigits u)=.ok u:=by
 intro u
 induction u using Nat.strongRecOn with
 | _ u ih =>
  intro hu
  rw [Lib.decDigits]
  split
  ·rename_i h
   simp only [Lib.parseUint10]
   rw [qDz h,if_pos (by omega),if_neg (by omega),if_neg (by omega)]
   congr 1;omega
  ·rename_i h
   have h1:=ih (u / 10) (by omega) (by omega)
   have h2:=qYn (c:=UInt8.ofNat (48+u % 10)) (by rw [qDz (by omega)];omega) _ _ _ h1 (by omega)
   rw [h2,qDz (by omega)]
   congr 1;omega
theorem qYs {u:Nat} (h:u < 1000000000000000):Lib.parseMag (Lib.decDigits u)=.ok u:=by
 unfold Lib.parseMag
 rw [if_neg (qVn u),vHc u h]
theorem qZx {n:Int} (h:qAv n):Lib.atoiAll (Lib.itoa n)=.ok n:=by
 have hn:=h
 unfold qAv at hn
 unfold Lib.itoa
 split
 ·rename_i h0
  rw [Lib.atoiAll,if_pos (by decide),qYs (by omega)]
  simp only
  rw [if_neg (by simp),if_neg (by omega),if_pos (by decide)]
  congr 1;omega
 ·rename_i h0
  cases hd:Lib.decDigits n.toNat with
  | nil=>exact absurd hd (qVn _)
  | cons c r =>
   have hc:=qIb n.toNat c (by rw [hd];exact List.mem_cons_self)
   have hm:=qYs (u:=n.toNat) (by omega)
   rw [hd] at hm
   rw [Lib.atoiAll,if_neg (by omega),hm]
   simp only
   rw [if_neg (by omega),if_neg (by omega),if_neg (by omega)]
   congr 1;omega
theorem numW_itoa {n:Int} (h:qAv n):vAx (Lib.itoa n)=some n:=by unfold vAx;rw [qZx h]
theorem qWp {n:Int}:∀ c,c∈Lib.itoa n→c=45∨(48≤c.toNat∧c.toNat≤57):=by
 intro c hc
 unfold Lib.itoa at hc
 split at hc
 ·rcases List.mem_cons.1 hc with h | h
  ·exact .inl h
  ·exact .inr (qIb _ c h)
 ·exact .inr (qIb _ c hc)
theorem qSl (n:Int):Lib.itoa n≠[]:=by
 unfold Lib.itoa
 split
 ·simp
 ·exact qVn _
theorem qDs {n:Int} {x:UInt8} (h:x≠45∧¬ (48≤x.toNat∧x.toNat≤57)):x∉Lib.itoa n:=fun hm=>by
 rcases qWp x hm with h1 | h1
 ·exact h.1 h1
 ·exact h.2 h1
theorem qHv {n:Int}:Lib.itoa n≠[45]:=fun h=>by
 unfold Lib.itoa at h
 split at h
 ·simp at h
  exact qVn _ h
 ·have:=qIb n.toNat 45 (by rw [h];exact List.mem_cons_self)
  simp at this
theorem flipB_ne (f:Flp):qBr f≠[]:=by unfold qBr;simp
theorem flipB_not {f:Flp} {x:UInt8} (h:x≠45∧x≠58∧¬ (48≤x.toNat∧x.toNat≤57)):x∉qBr f:=fun hm=>by
 unfold qBr at hm
 rcases List.mem_append.1 hm with hm | hm
 ·exact qDs ⟨h.1,h.2.2⟩ hm
 rcases List.mem_cons.1 hm with hm | hm
 ·exact h.2.1 hm
 rcases List.mem_append.1 hm with hm | hm
 ·exact qDs ⟨h.1,h.2.2⟩ hm
 rcases List.mem_cons.1 hm with hm | hm
 ·exact h.2.1 hm
 ·exact qDs ⟨h.1,h.2.2⟩ hm
theorem flipB_dash (f:Flp):qBr f≠[45]:=fun h=>by
 have:(58:UInt8)∈qBr f:=by unfold qBr;simp
 rw [h] at this
 simp at this
theorem flipW_back {f:Flp} (h:qAv f.ap∧qAv f.byt∧qAv f.bit):qWt (qBr f)=some f:=by
 have n58:∀ n:Int,(58:UInt8)∉Lib.itoa n:=fun n=>qDs ⟨by decide,by decide⟩
 have hs:spl 58 (qBr f)=[Lib.itoa f.ap,Lib.itoa f.byt,Lib.itoa f.bit]:=by
  unfold qBr
  rw [qDb (n58 _),qDb (n58 _),qNj (n58 _)]
 unfold qWt
 rw [hs]
 simp only [numW_itoa h.1,numW_itoa h.2.1,numW_itoa h.2.2]
theorem allW_back {α:Type} {f:List UInt8→Option α} {g:α→List UInt8}:∀ {l:List α},(∀ a,a∈l→f (g a)=some a)→qZz f (l.map g)=some l
 | [],_=>rfl
 | a::l,h=>by
  simp only [List.map_cons,qZz,h a List.mem_cons_self,allW_back (l:=l) fun b hb=>h b (List.mem_cons_of_mem _ hb)]
theorem qGd {l:List (List UInt8)} (hd:∀ w,w∈l→w≠[45]∧w≠[]∧(44:UInt8)∉w):qCn (qEb l)=l:=by
 unfold qEb
 split
 ·rename_i h;subst h;rfl
 ·rename_i h
  unfold qCn
  split
  ·rename_i hj
   exfalso
   cases l with
   | nil=>exact h rfl
   | cons w l =>
    cases l with
    | nil=>exact (hd w List.mem_cons_self).1 hj
    | cons v l =>
     have:(44:UInt8)∈joi 44 (w::v::l):=by show (44:UInt8)∈w++44::joi 44 (v::l);simp
     rw [hj] at this
     simp at this
  ·exact qKm h fun w hw=>(hd w hw).2.2
theorem qKk {s:List UInt8} (h:qRl s):qIi (qUk s)=s:=by
 obtain ⟨h1,h2,h3⟩:=h
 unfold qUk
 split
 ·rename_i hs;subst hs;rfl
 ·rename_i hs
  unfold qIi
  split
  ·rename_i hm
   exfalso
   cases s with
   | nil=>exact hs rfl
   | cons c r =>
    cases r with
    | nil =>
     simp only [List.map_cons,List.map_nil,List.cons.injEq,and_true] at hm
     split at hm
     ·rename_i hc;subst hc;exact h2 rfl
     ·exact (h3 c List.mem_cons_self).2.2 hm
    | cons d r=>simp at hm
  ·rw [List.map_map]
   refine (List.map_congr_left fun c hc=>?_).trans (List.map_id _)
   show (if (if c=32 then (95:UInt8) else c)=95 then 32 else if c=32 then 95 else c)=c
   have:=(h3 c hc).2.2
   by_cases h5:c=32
   ·subst h5;rfl
   ·simp only [if_neg h5]
    rw [if_neg this]
theorem qKt {f:Fld} (h:okF f):rdF (qDj f) (wrF f)=some f:=by
 cases f with
 | num n=>simp only [qDj,wrF,rdF,numW_itoa h,Option.map_some]
 | txt s=>simp only [qDj,wrF,rdF,qKk h]
 | rst s=>rfl
 | flg b=>cases b <;> rfl
 | nums l =>
  have hp:=qGd (l:=l.map Lib.itoa) fun w hw=>by
   obtain ⟨n,_,rfl⟩:=List.mem_map.1 hw
   exact ⟨qHv,qSl n,qDs ⟨by decide,by decide⟩⟩
  simp only [qDj,wrF,rdF,hp,allW_back fun n hn=>numW_itoa (h n hn),Option.map_some]
 | flps l =>
  have hp:=qGd (l:=l.map qBr) fun w hw=>by
   obtain ⟨n,_,rfl⟩:=List.mem_map.1 hw
   exact ⟨flipB_dash n,flipB_ne n,flipB_not ⟨by decide,by decide,by decide⟩⟩
  simp only [qDj,wrF,rdF,hp,allW_back fun n hn=>flipW_back (h n hn),Option.map_some]
theorem rdAll_back:∀ {l:List Fld},(∀ f,f∈l→okF f)→qHm (l.map qDj) (l.map wrF)=some l
 | [],_=>rfl
 | f::l,h=>by
  simp only [List.map_cons,qHm,qKt (h f List.mem_cons_self),rdAll_back fun g hg=>h g (List.mem_cons_of_mem _ hg)]
theorem qPo {x c:UInt8} (hx:x≠c):∀ {l:List (List UInt8)},(∀ w,w∈l→x∉w)→x∉joi c l
 | [],_=>by simp [joi]
 | [w],h=>h w List.mem_cons_self
 | w::v::l,h=>fun hm=>by
  rcases List.mem_append.1 (show x∈w++c::joi c (v::l) from hm) with hm | hm
  ·exact h w List.mem_cons_self hm
  rcases List.mem_cons.1 hm with hm | hm
  ·exact hx hm
  ·exact qPo hx (l:=v::l) (fun u hu=>h u (List.mem_cons_of_mem _ hu)) hm
theorem qMx {l:List (List UInt8)} {x:UInt8} (h1:x≠44∧x≠45) (h:∀ w,w∈l→x∉w):x∉qEb l:=by
 unfold qEb
 split
 ·simpa using h1.2
 ·exact qPo h1.1 h
theorem qFz {f:Fld} (hr:qDj f≠.rst):(32:UInt8)∉wrF f:=by
 cases f with
 | num n=>exact qDs ⟨by decide,by decide⟩
 | txt s =>
  show (32:UInt8)∉qUk s
  unfold qUk
  split
  ·simp
  ·intro hm
   obtain ⟨c,_,hc⟩:=List.mem_map.1 hm
   split at hc
   ·simp at hc
   ·rename_i h;exact h hc
 | rst s=>exact absurd rfl hr
 | flg b=>cases b <;> simp [wrF]
 | nums l =>
  refine qMx ⟨by decide,by decide⟩ fun w hw=>?_
  obtain ⟨n,_,rfl⟩:=List.mem_map.1 hw
  exact qDs ⟨by decide,by decide⟩
 | flps l =>
  refine qMx ⟨by decide,by decide⟩ fun w hw=>?_
  obtain ⟨n,_,rfl⟩:=List.mem_map.1 hw
  exact flipB_not ⟨by decide,by decide,by decide⟩
theorem qYh {x:Akt} (h:LineOk x):qHh (joi 32 (qBp x))=some x:=by
 obtain ⟨h1,h2,h3⟩:=h
 have hk:=qLb h1
 have hn:=qIo h1
 have hr:=rdAll_back h3
 rw [qBz] at hr
 have hset:qOu x.kind (qAo x)=x:=h2.symm
 have hne:(qAo x).map wrF≠[]:=by
  unfold qAo
  repeat' split
  all_goals simp
 have hsp:spl 32 (joi 32 (qBp x))=qBc x.kind::spl 32 (joi 32 ((qAo x).map wrF)):=by
  unfold qBp
  rw [qDf 32 _ hne,qDb hn]
 unfold qHh
 rw [hsp]
 simp only [hk]
 rw [if_neg (by omega)]
 by_cases h11:x.kind=11
 ·rw [if_pos h11]
  have hf:qAo x=[.txt x.state,.rst x.text]:=by unfold qAo;simp [h11]
  have hs:(32:UInt8)∉wrF (.txt x.state):=qFz (by simp [qDj])
  have hw:qGl 32 2 (joi 32 (qBp x))=[qBc x.kind,wrF (.txt x.state),x.text]:=by
   have e1:joi 32 (qBp x)=qBc x.kind++32::(wrF (.txt x.state)++32::x.text):=by unfold qBp;rw [hf];rfl
   have e2:spl 32 (wrF (.txt x.state)++32::x.text)=wrF (.txt x.state)::spl 32 x.text:=qDb hs _
   obtain ⟨v,l,hv⟩:∃ v l,spl 32 x.text=v::l:=by
    cases h:spl 32 x.text with
    | nil=>exact absurd h (qFq _ _)
    | cons v l=>exact ⟨v,l,rfl⟩
   have e3:joi 32 (v::l)=x.text:=by rw [← hv];exact qGx 32 x.text
   rw [e1]
   show (match spl 32 (qBc x.kind++32::(wrF (.txt x.state)++32::x.text)) with
    | []=>_
    | [w]=>[w]
    | w::l=>w::qGl 32 1 (joi 32 l))=_
   rw [qDb hn,e2,hv]
   simp only
   have e4:joi 32 (wrF (.txt x.state)::v::l)=wrF (.txt x.state)++32::x.text:=by rw [qDf 32 _ (by simp),e3]
   rw [e4]
   show qBc x.kind::(match spl 32 (wrF (.txt x.state)++32::x.text) with
    | []=>_
    | [w]=>[w]
    | w::l=>w::qGl 32 0 (joi 32 l))=_
   rw [e2,hv]
   simp only
   rw [e3]
   rfl
  rw [hw]
  have e5:([qBc x.kind,wrF (.txt x.state),x.text]).drop 1=(qAo x).map wrF:=by rw [hf];rfl
  rw [e5,hr,Option.map_some,hset]
 ·rw [if_neg h11]
  have hsf:spl 32 (joi 32 ((qAo x).map wrF))=(qAo x).map wrF:=by
   refine qKm hne fun w hw=>?_
   obtain ⟨f,hf,rfl⟩:=List.mem_map.1 hw
   refine qFz fun hh=>?_
   have:Shp.rst∈(qAo x).map qDj:=by rw [← hh];exact List.mem_map_of_mem hf
   rw [qBz] at this
   revert this
   unfold qCr
   repeat' split
   all_goals first | (intro hh2;simp at hh2;done) | (rename_i h;exact absurd h h11)
  rw [hsf,hr,Option.map_some,hset]
def vDs (n:Int) (l:List UInt8):Int:=l.foldl (fun n c=>if 48≤c.toNat∧c.toNat≤57 then n*10+((c.toNat:Int)-48) else n) n
def vEk (w:List UInt8):Int:=if w.head?=some 45 then -(vDs 0 ((w.drop 1).take 11)) else vDs 0 (w.take 12)
def vFi (w:List UInt8):Flp:=⟨vEk ((spl 58 w++[[],[]]).getD 0 []),vEk ((spl 58 w++[[],[]]).getD 1 []),vEk ((spl 58 w++[[],[]]).getD 2 [])⟩
def rdR (s:Shp) (w:List UInt8):Fld:=match s with
 | .num=>.num (vEk w)
 | .txt=>.txt (qIi w)
 | .rst=>.rst w
 | .flg=>.flg (decide (w=[121,101,115]))
 | .nums=>.nums ((qCn w).map vEk)
 | .flps=>.flps ((qCn w).map vFi)
def qUw:List Shp→List (List UInt8)→List Fld
 | [],_=>[]
 | s::ss,ws=>rdR s (ws.headD [])::qUw ss (ws.drop 1)
def rstW (ws:List (List UInt8)):List (List UInt8):=match ws with
 | []=>[]
 | [w]=>[w]
 | w::l=>[w,joi 32 l]
def qMh (s:List UInt8):Akt:=match spl 32 s with
 | []=>akt0
 | w::ws=>if qCb w=0 then akt0 else qOu (qCb w) (qUw (qCr (qCb w)) (if qCb w=11 then rstW ws else ws))
theorem digF_app (n:Int) (a b:List UInt8):vDs n (a++b)=vDs (vDs n a) b:=by unfold vDs;rw [List.foldl_append]
theorem digF_dec:∀ (u:Nat),vDs 0 (Lib.decDigits u)=(u:Int):=by
 intro u
 induction u using Nat.strongRecOn with
 | _ u ih =>
  rw [Lib.decDigits]
  split
  ·rename_i h
   show (if 48≤(UInt8.ofNat (48+u)).toNat∧(UInt8.ofNat (48+u)).toNat≤57 then 0*10+(((UInt8.ofNat (48+u)).toNat:Int)-48) else 0)=_
   rw [qDz h,if_pos (by omega)];omega
  ·rename_i h
   rw [digF_app,ih (u / 10) (by omega)]
   show (if 48≤(UInt8.ofNat (48+u % 10)).toNat∧(UInt8.ofNat (48+u % 10)).toNat≤57 then ((u / 10:Nat):Int)*10+(((UInt8.ofNat (48+u % 10)).toNat:Int)-48) else _)=_
   rw [qDz (by omega),if_pos (by omega)];omega
theorem qZq:∀ (k u:Nat),u < 10 ^ (k+1)→(Lib.decDigits u).length≤k+1:=by
 intro k
 induction k with
 | zero=>intro u h;rw [Lib.decDigits,dif_pos (by omega)];simp
 | succ k ih =>
  intro u h
  rw [Lib.decDigits]
  split
  ·simp
  ·have:=ih (u / 10) (by rw [Nat.pow_succ] at h;omega)
   rw [List.length_append,List.length_singleton];omega
theorem numR_itoa {n:Int} (h:qAv n):vEk (Lib.itoa n)=n:=by
 unfold qAv at h
 unfold vEk Lib.itoa
 split
 ·rename_i h0
  rw [if_pos (show (45::Lib.decDigits n.natAbs).head?=some 45 from rfl)]
  have hl:=qZq 9 n.natAbs (by omega)
  show -(vDs 0 (List.take 11 (Lib.decDigits n.natAbs)))=n
  rw [List.take_of_length_le (by omega),digF_dec];omega
 ·rename_i h0
  have hh:(Lib.decDigits n.toNat).head?≠some 45:=by
   cases hd:Lib.decDigits n.toNat with
   | nil=>simp
   | cons c r =>
    have hc:=qIb n.toNat c (by rw [hd];exact List.mem_cons_self)
    intro hh
    simp at hh
    subst hh
    simp at hc
  rw [if_neg hh]
  have hl:=qZq 9 n.toNat (by omega)
  rw [List.take_of_length_le (by omega),digF_dec];omega
theorem flipR_back {f:Flp} (h:qAv f.ap∧qAv f.byt∧qAv f.bit):vFi (qBr f)=f:=by
 have n58:∀ n:Int,(58:UInt8)∉Lib.itoa n:=fun n=>qDs ⟨by decide,by decide⟩
 have hs:spl 58 (qBr f)=[Lib.itoa f.ap,Lib.itoa f.byt,Lib.itoa f.bit]:=by
  unfold qBr
  rw [qDb (n58 _),qDb (n58 _),qNj (n58 _)]
 unfold vFi
 rw [hs]
 simp [numR_itoa h.1,numR_itoa h.2.1,numR_itoa h.2.2]
theorem qVb {α:Type} {f:List UInt8→α} {g:α→List UInt8} {l:List α} (h:∀ a,a∈l→f (g a)=a):(l.map g).map f=l:=by
 rw [List.map_map]
 exact (List.map_congr_left fun a ha=>h a ha).trans (List.map_id _)
theorem rdR_back {f:Fld} (h:okF f):rdR (qDj f) (wrF f)=f:=by
 cases f with
 | num n=>simp only [qDj,wrF,rdR,numR_itoa h]
 | txt s=>simp only [qDj,wrF,rdR,qKk h]
 | rst s=>rfl
 | flg b=>cases b <;> rfl
 | nums l =>
  have hp:=qGd (l:=l.map Lib.itoa) fun w hw=>by
   obtain ⟨n,_,rfl⟩:=List.mem_map.1 hw
   exact ⟨qHv,qSl n,qDs ⟨by decide,by decide⟩⟩
  simp only [qDj,wrF,rdR,hp]
  rw [qVb fun n hn=>numR_itoa (h n hn)]
 | flps l =>
  have hp:=qGd (l:=l.map qBr) fun w hw=>by
   obtain ⟨n,_,rfl⟩:=List.mem_map.1 hw
   exact ⟨flipB_dash n,flipB_ne n,flipB_not ⟨by decide,by decide,by decide⟩⟩
  simp only [qDj,wrF,rdR,hp]
  rw [qVb fun n hn=>flipR_back (h n hn)]
theorem rdAllR_back:∀ {l:List Fld},(∀ f,f∈l→okF f)→qUw (l.map qDj) (l.map wrF)=l
 | [],_=>rfl
 | f::l,h=>by
  show rdR (qDj f) (wrF f)::qUw (l.map qDj) (l.map wrF)=_
  rw [rdR_back (h f List.mem_cons_self),rdAllR_back fun g hg=>h g (List.mem_cons_of_mem _ hg)]
theorem qPh {x:Akt} (h:LineOk x):qMh (joi 32 (qBp x))=x:=by
 obtain ⟨h1,h2,h3⟩:=h
 have hk:=qLb h1
 have hn:=qIo h1
 have hr:=rdAllR_back h3
 rw [qBz] at hr
 have hset:qOu x.kind (qAo x)=x:=h2.symm
 have hne:(qAo x).map wrF≠[]:=by
  unfold qAo
  repeat' split
  all_goals simp
 have hsp:spl 32 (joi 32 (qBp x))=qBc x.kind::spl 32 (joi 32 ((qAo x).map wrF)):=by
  unfold qBp
  rw [qDf 32 _ hne,qDb hn]
 unfold qMh
 rw [hsp]
 simp only [hk]
 rw [if_neg (by omega)]
 by_cases h11:x.kind=11
 ·rw [if_pos h11]
  have hf:qAo x=[.txt x.state,.rst x.text]:=by unfold qAo;simp [h11]
  have hs:(32:UInt8)∉wrF (.txt x.state):=qFz (by simp [qDj])
  have e2:spl 32 (joi 32 ((qAo x).map wrF))=wrF (.txt x.state)::spl 32 x.text:=by
   rw [hf]
   exact qDb hs _
  have e3:rstW (spl 32 (joi 32 ((qAo x).map wrF)))=(qAo x).map wrF:=by
   rw [e2]
   cases hv:spl 32 x.text with
   | nil=>exact absurd hv (qFq _ _)
   | cons v l =>
    have e4:joi 32 (v::l)=x.text:=by rw [← hv];exact qGx 32 x.text
    show [wrF (.txt x.state),joi 32 (v::l)]=_
    rw [e4,hf];rfl
  rw [e3,hr,hset]
 ·rw [if_neg h11]
  have hsf:spl 32 (joi 32 ((qAo x).map wrF))=(qAo x).map wrF:=by
   refine qKm hne fun w hw=>?_
   obtain ⟨f,hf,rfl⟩:=List.mem_map.1 hw
   refine qFz fun hh=>?_
   have:Shp.rst∈(qAo x).map qDj:=by rw [← hh];exact List.mem_map_of_mem hf
   rw [qBz] at this
   revert this
   unfold qCr
   repeat' split
   all_goals first | (intro hh2;simp at hh2;done) | (rename_i h;exact absurd h h11)
  rw [hsf,hr,hset]
theorem qEx (s:List UInt8) (x:Akt) (hs:s≠[]):(qHh s=some x∧lineK x=s)↔(qMh s=x∧lineK x=s):=by
 constructor
 ·rintro ⟨h1,h2⟩
  refine ⟨?_,h2⟩
  unfold lineK at h2
  split at h2
  ·rename_i hl
   rw [← h2];exact qPh hl
  ·exact absurd h2.symm hs
 ·rintro ⟨h1,h2⟩
  refine ⟨?_,h2⟩
  unfold lineK at h2
  split at h2
  ·rename_i hl
   rw [← h2];exact qYh hl
  ·exact absurd h2.symm hs
def qGp (s:List UInt8):Prop:=s.length≤40∧∀ c,c∈s→32≤c.toNat∧c.toNat≤126∧c≠95
theorem wordP_iff (s:List UInt8):qRl s↔qGp s∧s≠[32]:=by
 unfold qRl qGp
 constructor
 ·rintro ⟨h1,h2,h3⟩;exact ⟨⟨h1,h3⟩,h2⟩
 ·rintro ⟨⟨h1,h3⟩,h2⟩;exact ⟨h1,h2,h3⟩
def qSe (s:List UInt8):List UInt8:=if s=[32] then [] else s
def qSf:Fld→Fld
 | .txt s=>.txt (qSe s)
 | f=>f
def okQ:Fld→Prop
 | .num n=>qAv n
 | .txt s=>qGp s
 | .rst s=>True
 | .flg _=>True
 | .nums l=>∀ n,n∈l→qAv n
 | .flps l=>∀ f,f∈l→qAv f.ap∧qAv f.byt∧qAv f.bit
theorem qXx {s:List UInt8} (h:qGp s):qIi (qUk s)=qSe s:=by
 unfold qSe
 split
 ·rename_i hs;subst hs;rfl
 ·rename_i hs;exact qKk ((wordP_iff s).2 ⟨h,hs⟩)
theorem vEf {f:Fld} (h:okQ f):rdF (qDj f) (wrF f)=some (qSf f):=by
 cases f with
 | num n=>exact qKt (f:=.num n) h
 | txt s=>simp only [qDj,wrF,rdF,qXx h,qSf]
 | rst s=>rfl
 | flg b=>exact qKt (f:=.flg b) h
 | nums l=>exact qKt (f:=.nums l) h
 | flps l=>exact qKt (f:=.flps l) h
theorem rdAll_norm:∀ {l:List Fld},(∀ f,f∈l→okQ f)→qHm (l.map qDj) (l.map wrF)=some (l.map qSf)
 | [],_=>rfl
 | f::l,h=>by
  simp only [List.map_cons,qHm,vEf (h f List.mem_cons_self),rdAll_norm fun g hg=>h g (List.mem_cons_of_mem _ hg)]
theorem qZl (x:Akt):(qAo x).map wrF≠[]:=by
 unfold qAo
 repeat' split
 all_goals simp
def qGv (x:Akt):Akt:=qOu x.kind ((qAo x).map qSf)
theorem qYg {x:Akt} (h1:1≤x.kind∧x.kind≤11) (h3:∀ f,f∈qAo x→okQ f):qHh (joi 32 (qBp x))=some (qGv x):=by
 have hk:=qLb h1
 have hn:=qIo h1
 have hr:=rdAll_norm h3
 rw [qBz] at hr
 have hne:=qZl x
 have hsp:spl 32 (joi 32 (qBp x))=qBc x.kind::spl 32 (joi 32 ((qAo x).map wrF)):=by
  unfold qBp
  rw [qDf 32 _ hne,qDb hn]
 unfold qHh
 rw [hsp]
 simp only [hk]
 rw [if_neg (by omega)]
 by_cases h11:x.kind=11
 ·rw [if_pos h11]
  have hf:qAo x=[.txt x.state,.rst x.text]:=by unfold qAo;simp [h11]
  have hs:(32:UInt8)∉wrF (.txt x.state):=qFz (by simp [qDj])
  have hw:qGl 32 2 (joi 32 (qBp x))=[qBc x.kind,wrF (.txt x.state),x.text]:=by
   have e1:joi 32 (qBp x)=qBc x.kind++32::(wrF (.txt x.state)++32::x.text):=by unfold qBp;rw [hf];rfl
   have e2:spl 32 (wrF (.txt x.state)++32::x.text)=wrF (.txt x.state)::spl 32 x.text:=qDb hs _
   obtain ⟨v,l,hv⟩:∃ v l,spl 32 x.text=v::l:=by
    cases h:spl 32 x.text with
    | nil=>exact absurd h (qFq _ _)
    | cons v l=>exact ⟨v,l,rfl⟩
   have e3:joi 32 (v::l)=x.text:=by rw [← hv];exact qGx 32 x.text
   rw [e1]
   show (match spl 32 (qBc x.kind++32::(wrF (.txt x.state)++32::x.text)) with
    | []=>_
    | [w]=>[w]
    | w::l=>w::qGl 32 1 (joi 32 l))=_
   rw [qDb hn,e2,hv]
   simp only
   have e4:joi 32 (wrF (.txt x.state)::v::l)=wrF (.txt x.state)++32::x.text:=by rw [qDf 32 _ (by simp),e3]
   rw [e4]
   show qBc x.kind::(match spl 32 (wrF (.txt x.state)++32::x.text) with
    | []=>_
    | [w]=>[w]
    | w::l=>w::qGl 32 0 (joi 32 l))=_
   rw [e2,hv]
   simp only
   rw [e3]
   rfl
  rw [hw]
  have e5:([qBc x.kind,wrF (.txt x.state),x.text]).drop 1=(qAo x).map wrF:=by rw [hf];rfl
  rw [e5,hr,Option.map_some];rfl
 ·rw [if_neg h11]
  have hsf:spl 32 (joi 32 ((qAo x).map wrF))=(qAo x).map wrF:=by
   refine qKm hne fun w hw=>?_
   obtain ⟨f,hf,rfl⟩:=List.mem_map.1 hw
   refine qFz fun hh=>?_
   have:Shp.rst∈(qAo x).map qDj:=by rw [← hh];exact List.mem_map_of_mem hf
   rw [qBz] at this
   revert this
   unfold qCr
   repeat' split
   all_goals first | (intro hh2;simp at hh2;done) | (rename_i h;exact absurd h h11)
  rw [hsf,hr,Option.map_some];rfl
def qHf (x:Akt):Prop:=qAv x.a∧qAv x.b∧qAv x.n∧qAv x.exp∧(∀ n,n∈x.prots→qAv n)∧(∀ n,n∈x.faults→qAv n)∧(∀ n,n∈x.cuts→qAv n)∧∀ f,f∈x.flips→qAv f.ap∧qAv f.byt∧qAv f.bit
def qJe (x:Akt):Prop:=qGp x.state∧qGp x.number∧qGp x.sur∧qGp x.giv∧qGp x.nat∧qGp x.bir∧qGp x.sex∧if x.kind=11 then qRv x.text else qGp x.text
theorem small0:qAv 0:=by unfold qAv;omega
theorem word0:qGp []:=⟨by simp,fun c h=>by cases h⟩
theorem normS_eq {s:List UInt8} (h:qSe s=s):s≠[32]:=fun hh=>by subst hh;simp [qSe] at h
theorem normS_of {s:List UInt8} (h:s≠[32]):qSe s=s:=if_neg h
theorem okQ_of {x:Akt} (hs:qHf x) (hp:qJe x):∀ f,f∈qAo x→okQ f:=by
 obtain ⟨s1,s2,s3,s4,s5,s6,s7,s8⟩:=hs
 obtain ⟨p1,p2,p3,p4,p5,p6,p7,p8⟩:=hp
 intro f hf
 unfold qAo at hf
 repeat' split at hf
 all_goals simp only [List.mem_cons,List.not_mem_nil,or_false] at hf
 ·subst hf;exact s3
 ·rename_i h1 h2
  rw [if_neg (by omega)] at p8
  rcases hf with rfl | rfl
  ·exact p1
  ·exact p8
 ·subst hf;exact s1
 ·rcases hf with rfl | rfl | rfl | rfl | rfl | rfl | rfl | rfl | rfl | rfl | rfl
  ·exact s1
  ·exact p2
  ·exact p3
  ·exact p4
  ·exact p5
  ·exact p6
  ·exact p7
  ·exact s4
  ·trivial
  ·exact s5
  ·exact s6
 ·rcases hf with rfl | rfl | rfl
  ·exact s1
  ·exact s2
  ·exact s3
 ·rename_i h1 h2 h3 h4 h5 h6
  rw [if_neg (by omega)] at p8
  rcases hf with rfl | rfl
  ·exact s1
  ·exact p8
 ·rcases hf with rfl | rfl | rfl | rfl
  ·exact s1
  ·exact s2
  ·exact s7
  ·exact s8
 ·rcases hf with rfl | rfl
  ·exact p1
  ·trivial
 ·rcases hf with rfl | rfl
  ·exact s1
  ·exact s2
set_option maxHeartbeats 4000000 in
theorem qWn {x:Akt} (h:LineOk x):qHf x∧qJe x∧x=qGv x:=by
 obtain ⟨h1,h2,h3⟩:=h
 obtain ⟨k,a,b,n,st,tx,nu,su,gi,na,bi,se,ex,pr,ba,pt,td,fa,cu,fl⟩:=x
 simp only at h1
 have w0:=word0
 have z0:=small0
 rcases (by omega:k=1∨k=2∨k=3∨k=4∨k=5∨k=6∨k=7∨k=8∨k=9∨k=10∨k=11) with h | h | h | h | h | h | h | h | h | h | h <;> subst h <;>
  simp [qBk,qAo,qOu,akt0] at h2 <;> simp [qAo,okF,wordP_iff] at h3 <;>
  simp [qHf,qJe,qGv,qAo,qSf,qOu,akt0,h2,w0,z0,h3,normS_of]
 ·exact h3.2.2.2.2.2.2.2.2
 ·exact h3.2.2
theorem qVm (s:List UInt8):(s=qSe s)↔¬ s=[32]:=⟨fun h=>normS_eq h.symm,fun h=>(normS_of h).symm⟩
set_option maxHeartbeats 4000000 in
theorem qYv {x:Akt} (hk:1≤x.kind∧x.kind≤11) (hs:qHf x) (hp:qJe x) (hn:x=qGv x):LineOk x:=by
 have hq:=okQ_of hs hp
 refine ⟨hk,?_,?_⟩
 ·obtain ⟨k,a,b,n,st,tx,nu,su,gi,na,bi,se,ex,pr,ba,pt,td,fa,cu,fl⟩:=x
  simp only at hk
  clear hq hs hp
  rcases (by omega:k=1∨k=2∨k=3∨k=4∨k=5∨k=6∨k=7∨k=8∨k=9∨k=10∨k=11) with h | h | h | h | h | h | h | h | h | h | h <;> subst h <;>
   simp [qGv,qAo,qSf,qOu,akt0,qVm] at hn <;> simp [qBk,qAo,qOu,akt0,hn]
 ·obtain ⟨k,a,b,n,st,tx,nu,su,gi,na,bi,se,ex,pr,ba,pt,td,fa,cu,fl⟩:=x
  simp only at hk
  obtain ⟨-,-,-,-,-,-,-,p8⟩:=hp
  clear hs
  rcases (by omega:k=1∨k=2∨k=3∨k=4∨k=5∨k=6∨k=7∨k=8∨k=9∨k=10∨k=11) with h | h | h | h | h | h | h | h | h | h | h <;> subst h <;>
   simp [qGv,qAo,qSf,qOu,akt0,qVm] at hn <;> simp [qAo,okQ] at hq p8 <;> simp [qAo,okF,wordP_iff,hq,p8,hn]
  ·exact hq.2.2.2.2.2.2.2.2
  ·exact hq.2.2
theorem vBy (x:Akt):LineOk x↔(1≤x.kind∧x.kind≤11)∧qHf x∧qJe x∧x=qGv x :=
 ⟨fun h=>⟨h.1,qWn h⟩,fun ⟨h1,h2,h3,h4⟩=>qYv h1 h2 h3 h4⟩
theorem lineK_no {x:Akt} (h:¬ LineOk x):lineK x=[]:=by unfold lineK;rw [if_neg h]
def smB (n:Int):Bool:=decide (n≥-1073741824)&&decide (n≤1073741824)
theorem smB_iff (n:Int):smB n=true↔qAv n:=by unfold smB qAv;simp
def wcB (s:List UInt8):Bool:=s.all fun c=>decide (32≤c.toNat)&&decide (c.toNat≤126)&&(c != 95)
theorem wcB_iff (s:List UInt8):wcB s=true↔∀ c,c∈s→32≤c.toNat∧c.toNat≤126∧c≠95:=by
 unfold wcB
 rw [List.all_eq_true]
 exact ⟨fun h c hc=>by simpa [and_assoc] using h c hc,fun h c hc=>by simpa [and_assoc] using h c hc⟩
def qRj (s:List UInt8):List UInt8×Bool:=if s=[] then ([95],true) else if wcB s then (qUk s,decide ((s.length:Int)≤40)&&(s != [32])) else ([],false)
theorem wrdR_ok (s:List UInt8):((qRj s).2=true↔qRl s)∧((qRj s).2=true→(qRj s).1=qUk s):=by
 unfold qRj qRl
 by_cases h:s=[]
 ·subst h;rw [if_pos rfl]
  exact ⟨⟨fun _=>⟨by simp,by simp,fun c hc=>by cases hc⟩,fun _=>rfl⟩,fun _=>rfl⟩
 rw [if_neg h]
 by_cases hc:wcB s=true
 ·rw [if_pos hc]
  have h2:=(wcB_iff s).1 hc
  refine ⟨⟨fun h3=>?_,fun h3=>?_⟩,fun _=>rfl⟩
  ·simp at h3
   exact ⟨by omega,h3.2,h2⟩
  ·have h4:=h3.1
   simp [h3.2.1]
   omega
 ·rw [if_neg hc]
  exact ⟨⟨fun h=>(by cases h),fun h3=>absurd ((wcB_iff s).2 h3.2.2) hc⟩,fun h=>by cases h⟩
def qNr (l:List Int):List UInt8×Bool:=if l.all smB then (qEb (l.map Lib.itoa),true) else ([],false)
def flB (f:Flp):Bool:=smB f.ap&&smB f.byt&&smB f.bit
def qOv (l:List Flp):List UInt8×Bool:=if l.all flB then (qEb (l.map qBr),true) else ([],false)
theorem lstR_ok (l:List Int):((qNr l).2=true↔∀ n,n∈l→qAv n)∧((qNr l).2=true→(qNr l).1=qEb (l.map Lib.itoa)):=by
 unfold qNr
 by_cases h:l.all smB=true
 ·rw [if_pos h]
  refine ⟨⟨fun _ n hn=>(smB_iff n).1 (List.all_eq_true.1 h n hn),fun _=>rfl⟩,fun _=>rfl⟩
 ·rw [if_neg h]
  refine ⟨⟨fun hh=>(by cases hh),fun hh=>absurd (List.all_eq_true.2 fun n hn=>(smB_iff n).2 (hh n hn)) h⟩,fun hh=>by cases hh⟩
theorem flB_iff (f:Flp):flB f=true↔qAv f.ap∧qAv f.byt∧qAv f.bit:=by
 unfold flB
 rw [Bool.and_eq_true,Bool.and_eq_true,smB_iff,smB_iff,smB_iff,and_assoc]
theorem flsR_ok (l:List Flp):((qOv l).2=true↔∀ f,f∈l→qAv f.ap∧qAv f.byt∧qAv f.bit)∧((qOv l).2=true→(qOv l).1=qEb (l.map qBr)):=by
 unfold qOv
 by_cases h:l.all flB=true
 ·rw [if_pos h]
  refine ⟨⟨fun _ n hn=>(flB_iff n).1 (List.all_eq_true.1 h n hn),fun _=>rfl⟩,fun _=>rfl⟩
 ·rw [if_neg h]
  refine ⟨⟨fun hh=>(by cases hh),fun hh=>absurd (List.all_eq_true.2 fun n hn=>(flB_iff n).2 (hh n hn)) h⟩,fun hh=>by cases hh⟩
def pcB (s:List UInt8):Bool:=s.all fun c=>decide (32≤c.toNat)&&decide (c.toNat≤126)
def vAv (s:List UInt8):Bool:=pcB s&&decide ((s.length:Int)≥1)&&decide ((s.length:Int)≤1000)&&!decide (s.head?=some 32)
theorem rstB_iff (s:List UInt8):vAv s=true↔qRv s:=by
 unfold vAv qRv pcB
 rw [Bool.and_eq_true,Bool.and_eq_true,Bool.and_eq_true,List.all_eq_true]
 constructor
 ·rintro ⟨⟨⟨h1,h2⟩,h3⟩,h4⟩
  simp at h2 h3 h4
  refine ⟨fun hh=>by subst hh;simp at h2,by omega,h4,fun c hc=>by simpa using h1 c hc⟩
 ·rintro ⟨h1,h2,h3,h4⟩
  have:0 < s.length:=List.length_pos_iff.2 h1
  refine ⟨⟨⟨fun c hc=>by simpa using h4 c hc,by simp;omega⟩,by simp;omega⟩,by simpa using h3⟩
def qKi (p w:List UInt8×Bool):List UInt8×Bool:=(p.1++32::w.1,p.2&&w.2)
def vBr (p:List UInt8×Bool) (n:Int):List UInt8×Bool:=if smB n then qKi p (Lib.itoa n,true) else (p.1,false)
def lnF (p:List UInt8×Bool):Fld→List UInt8×Bool
 | .num n=>vBr p n
 | .txt s=>qKi p (qRj s)
 | .rst s=>qKi p (s,vAv s)
 | .flg b=>qKi p (if b then [121,101,115] else [110,111],true)
 | .nums l=>qKi p (qNr l)
 | .flps l=>qKi p (qOv l)
theorem addR_ok (p w:List UInt8×Bool) {k:Prop} {v:List UInt8} (h:(w.2=true↔k)∧(w.2=true→w.1=v)):((qKi p w).2=true↔p.2=true∧k)∧((qKi p w).2=true→(qKi p w).1=p.1++32::v):=by
 unfold qKi
 simp only [Bool.and_eq_true]
 exact ⟨⟨fun hh=>⟨hh.1,h.1.1 hh.2⟩,fun hh=>⟨hh.1,h.1.2 hh.2⟩⟩,fun hh=>by rw [h.2 hh.2]⟩
theorem lnF_ok (p:List UInt8×Bool) (f:Fld):((lnF p f).2=true↔p.2=true∧okF f)∧((lnF p f).2=true→(lnF p f).1=p.1++32::wrF f):=by
 cases f with
 | num n =>
  show ((vBr p n).2=true↔p.2=true∧qAv n)∧((vBr p n).2=true→(vBr p n).1=p.1++32::Lib.itoa n)
  unfold vBr
  by_cases h:smB n=true
  ·rw [if_pos h]
   exact addR_ok p (Lib.itoa n,true) ⟨⟨fun _=>(smB_iff n).1 h,fun _=>rfl⟩,fun _=>rfl⟩
  ·rw [if_neg h]
   exact ⟨⟨fun hh=>(by cases hh),fun hh=>absurd ((smB_iff n).2 hh.2) h⟩,fun hh=>by cases hh⟩
 | txt s=>exact addR_ok p (qRj s) (wrdR_ok s)
 | rst s=>exact addR_ok p (s,vAv s) ⟨rstB_iff s,fun _=>rfl⟩
 | flg b=>exact addR_ok p (if b then [121,101,115] else [110,111],true) ⟨⟨fun _=>trivial,fun _=>rfl⟩,fun _=>rfl⟩
 | nums l=>exact addR_ok p (qNr l) (lstR_ok l)
 | flps l=>exact addR_ok p (qOv l) (flsR_ok l)
theorem vFe (c:UInt8) (a b:List UInt8):∀ l:List (List UInt8),joi c (a::b::l)=joi c ((a++c::b)::l)
 | []=>rfl
 | v::l=>by
  show a++c::(b++c::joi c (v::l))=(a++c::b)++c::joi c (v::l)
  simp
theorem vDm:∀ (l:List Fld) (p:List UInt8×Bool),((l.foldl lnF p).2=true↔p.2=true∧∀ f,f∈l→okF f)∧((l.foldl lnF p).2=true→(l.foldl lnF p).1=joi 32 (p.1::l.map wrF))
 | [],p=>⟨⟨fun h=>⟨h,fun f hf=>by cases hf⟩,fun h=>h.1⟩,fun _=>rfl⟩
 | f::l,p=>by
  obtain ⟨h1,h2⟩:=vDm l (lnF p f)
  obtain ⟨h3,h4⟩:=lnF_ok p f
  rw [List.foldl_cons]
  refine ⟨⟨fun h=>?_,fun h=>?_⟩,fun h=>?_⟩
  ·obtain ⟨h5,h6⟩:=h1.1 h
   obtain ⟨h7,h8⟩:=h3.1 h5
   exact ⟨h7,fun g hg=>by rcases List.mem_cons.1 hg with rfl | hg;exact h8;exact h6 g hg⟩
  ·exact h1.2 ⟨h3.2 ⟨h.1,h.2 f List.mem_cons_self⟩,fun g hg=>h.2 g (List.mem_cons_of_mem _ hg)⟩
  ·rw [h2 h,h4 (h1.1 h).1,List.map_cons,vFe]
def qGk (x:Akt):List UInt8×Bool:=(qAo x).foldl lnF (qBc x.kind,true)
theorem lineK_R {x:Akt} (hk:1≤x.kind∧x.kind≤11) (hx:x=qBk x):lineK x=if (qGk x).2 then (qGk x).1 else []:=by
 obtain ⟨h1,h2⟩:=vDm (qAo x) (qBc x.kind,true)
 unfold lineK LineOk
 by_cases h:(qGk x).2=true
 ·rw [if_pos h,if_pos ⟨hk,hx,(h1.1 h).2⟩]
  exact (h2 h).symm
 ·rw [if_neg h,if_neg fun hh=>h (h1.2 ⟨rfl,hh.2.2⟩)]
end Tdoc
namespace Tdoc
open Go Go.ChangeShapes Go.WideShapes Go.ChangeAt Go.RowKit
def GW (W:World):Gh:=⟨fun a=>W.cell? a,fun _=>none,fun _ _=>none,fun _=>none⟩
theorem qXb (W:World) (ht:TabOk W (GW W)):WRel ⟨W,GW W,ht,[]⟩ (GW W) [] W where
 le:=.refl _
 imm:=fun _ _ h=>h
 immNew:=fun _ _ h=>.inl h
 keep:=fun _ _=>rfl
 size:=Nat.le_refl _
 os:=rfl
 tape:=rfl
 output:=rfl
 own:=fun b i h=>by cases h
 fresh:=fun i _=>⟨rfl,fun _=>rfl⟩
 obj:=fun i o h=>by simp at h
theorem qYy {P:Program} {f:FuncId} {avs:List AV} {W:World} {vals:Array Value} (ht:TabOk W (GW W)) (hs:Spec P f avs [] (fun r h'=>r=.d (.bool true)∧h'=[])) (hlen:vals.size=avs.length)
  (hrep:∀ (j:Nat) (x:AV) (v:Value),avs[j]?=some x→vals[j]?=some v→RepA (GW W) x v) :
  Calls P f vals W (fun e W'=>e=.returned (.bool true)∧Below W.heap.size W W') :=
 (hs.2 (GW W) W vals hlen hrep ht (qXb W ht)).mono fun e W' ⟨v,r,h',G',he,⟨hr,hh⟩,_,_,_,hrp,hw⟩=>by
  subst hr
  rw [hrp.bool_inv] at he
  exact ⟨he,hw.os,hw.tape,hw.output,hw.size,fun k hk=>hw.keep k ⟨hk,rfl⟩⟩
section
variable {H:Type} {enc:TypeId×Value→H} {P:Program}
theorem trodAll_below (hl:laidOutB P=true) {W W':World} (hb:Below W.heap.size W W') {sp:Nat→Bool} :
  ∀ {ts:List TypeId} {vs:List Value} {ds:List (DataW H)} {ps:List MemPlace},ts.all (fun t=>P.readableRec t&&decide (t < P.types.size))=true →
   DataW.TrodAll enc P W 0 (fun _=>true) true ts vs ds ps→(∀ p∈ps,p.block < W.heap.size)→(∀ p∈ps,sp p.block=true)→DataW.TrodAll enc P W' 0 sp true ts vs ds ps
 | [],_,_,_,_,h,_,_=>by
  obtain ⟨rfl,rfl,rfl⟩:=trodAll_nil h
  exact trodAll_mk0
 | t::ts,_,_,_,hr,h,hlt,hsp=>by
  obtain ⟨v,vs1,d,ds1,a,b,rfl,rfl,rfl,h1,h2⟩:=trodAll_cons h
  simp only [List.all_cons,Bool.and_eq_true,decide_eq_true_eq] at hr
  exact trodAll_cons_mk (WideElems.Trod_stays hl hr.1.1 hr.1.2 h1 (fun x hx=>hb.same (hlt x (by simp [hx]))) (fun x hx=>hsp x (by simp [hx])))
   (trodAll_below hl hb (by simpa using hr.2) h2 (fun x hx=>hlt x (by simp [hx])) (fun x hx=>hsp x (by simp [hx])))
theorem vCa {f:Func} {s:ChangeSpec} {again:Bool} {W W':World} {args:Array Value} {ds gs:List (DataW H)} {before:List MemPlace} {tb:TypeId} (hl:laidOutB P=true)
  (hr:f.params.toList.all (fun t=>P.readableRec t&&decide (t < P.types.size))=true) (hres:f.resultTypes = #[tb]) (htb:P.underlying tb=some .bool) (hvars:s.vars=[])
  (hW:DataW.Whole enc P f.params.toList s.vars false W args.toList ds gs before) (hfn:s.fn H (ds++gs)={ results:=[.lit (.bool true)],args:=ds }) (hb:Below W.heap.size W W') :
  s.post enc P f false true false again W args (.bool true) W':=by
 have hW0:=hW
 have hlt:=hW.lt
 obtain ⟨p,q,hA,hV,rfl,hfz,hnd⟩:=hW
 rw [hvars] at hV
 obtain ⟨rfl,rfl⟩:=trodVars_none hV
 have hargs:∀ sp:Nat→Bool,(∀ x∈p++[],sp x.block=true)→DataW.TrodAll enc P W' 0 sp true f.params.toList args.toList (s.fn H (ds++[])).args p:=by
  intro sp hsp
  rw [hfn]
  exact trodAll_below hl hb hr hA (fun x hx=>hlt x (by simp [hx])) (fun x hx=>hsp x (by simp [hx]))
 have hv:∀ sp:Nat→Bool,DataW.TrodVars enc P W' sp s.vars (s.fn H (ds++[])).vars []:=by
  intro sp;rw [hfn,hvars];rfl
 have hrs:∀ (b:Nat) (sp:Nat→Bool) (hd:Bool),DataW.TrodAll enc P W' b sp hd f.resultTypes.toList ((Value.bool true).resultList f.resultTypes.size) (s.fn H (ds++[])).results []:=by
  intro b sp hd
  rw [hfn,hres]
  exact trodAll_cons_mk (shut_bool htb _) trodAll_mk0
 refine ⟨ds,[],p++[],[],p,[],hW0,hrs _ _ _,hargs _ (fun x hx=>by simpa using hlt x hx),hv _,World.keptBut_mono (fun p hp=>⟨hp,?_⟩) (hb.frame (· ∈ p++[])),fun _=>?_⟩
 ·exact Or.inr (Or.inl (by simpa using hp))
 ·refine ⟨ok_one hres rfl (okWide_bool_mk htb _),_,_,([]++p)++[],⟨[]++p,[],trodAll_append (hargs _ (fun _ _=>rfl)) (hrs _ _ _),hv _,rfl,?_,fun h=>by cases h⟩,?_⟩
  ·intro b off hp
   rw [hb.frozen (p:=⟨b,off,none⟩) (hlt (.cell b off) (by simpa using hp))]
   exact hfz b off (by simpa using hp)
  ·intro x hx _
   simpa using hx
theorem vIr {r:Reach} {b0:Nat} {W:World} {t:TypeId} {v:Value} {d:DataW H} {ps:List MemPlace} (ht:P.underlying t=some .string) (hval:Value.okWide P W r b0 t v)
  (hd:DataW.Trod enc P W 0 (fun _=>true) true t v d ps):∃ s:List UInt8,s.length≤maxLen∧RepA (GW W) (.d (.str s)) v:=by
 obtain ⟨s,rfl,_,_,h⟩:=Go.ChangeMaps.open_string ht hval hd
 obtain ⟨⟨l⟩⟩:=s
 exact ⟨l,by simpa [ByteArray.size] using h,.d (.str l)⟩
end
end Tdoc
namespace Tdoc
open Go
theorem wrapu8 {n:Int} (h:0≤n∧n≤255):IntKind.u8.wrap n=n:=by
 simp only [IntKind.wrap,IntKind.signed,IntKind.bits]
 simp
 omega
theorem qDv (n:Int):IntKind.u8.wrap n=n % 256:=by
 simp only [IntKind.wrap,IntKind.signed,IntKind.bits]
 simp
theorem ofInt_nat (n:Nat):BitVec.ofInt 64 (n:Int)=BitVec.ofNat 64 n:=by
 apply BitVec.eq_of_toNat_eq
 simp [BitVec.toNat_ofInt]
theorem qTb {a b:Nat} (ha:a < 9223372036854775808) (hb:b < 9223372036854775808) :
  IntKind.i64.wrap ((BitVec.ofInt IntKind.i64.bits (a:Int) &&& BitVec.ofInt IntKind.i64.bits (b:Int)).toNat:Int)=((a &&& b:Nat):Int):=by
 have h:(BitVec.ofInt IntKind.i64.bits (a:Int) &&& BitVec.ofInt IntKind.i64.bits (b:Int)).toNat=a &&& b:=by
  show (BitVec.ofInt 64 (a:Int) &&& BitVec.ofInt 64 (b:Int)).toNat=a &&& b
  rw [ofInt_nat,ofInt_nat,BitVec.toNat_and,BitVec.toNat_ofNat,BitVec.toNat_ofNat,Nat.mod_eq_of_lt (by omega),Nat.mod_eq_of_lt (by omega)]
 rw [h]
 have:=Nat.and_le_left (n:=a) (m:=b)
 exact qAf (by omega)
theorem vHe {a b:Nat} (ha:a < 9223372036854775808) (hb:b < 9223372036854775808) :
  IntKind.i64.wrap ((BitVec.ofInt IntKind.i64.bits (a:Int) ||| BitVec.ofInt IntKind.i64.bits (b:Int)).toNat:Int)=((a ||| b:Nat):Int):=by
 have h:(BitVec.ofInt IntKind.i64.bits (a:Int) ||| BitVec.ofInt IntKind.i64.bits (b:Int)).toNat=a ||| b:=by
  show (BitVec.ofInt 64 (a:Int) ||| BitVec.ofInt 64 (b:Int)).toNat=a ||| b
  rw [ofInt_nat,ofInt_nat,BitVec.toNat_or,BitVec.toNat_ofNat,BitVec.toNat_ofNat,Nat.mod_eq_of_lt (by omega),Nat.mod_eq_of_lt (by omega)]
 rw [h]
 have:a ||| b < 2 ^ 63:=Nat.or_lt_two_pow (by omega) (by omega)
 exact qAf (by omega)
theorem vEh {a b:Nat} (ha:a < 256) (hb:b < 256) :
  IntKind.u8.wrap ((BitVec.ofInt IntKind.u8.bits (a:Int) ||| BitVec.ofInt IntKind.u8.bits (b:Int)).toNat:Int)=((a ||| b:Nat):Int):=by
 have h8:∀ n:Nat,BitVec.ofInt 8 (n:Int)=BitVec.ofNat 8 n:=fun n=>by
  apply BitVec.eq_of_toNat_eq
  simp [BitVec.toNat_ofInt]
 have h:(BitVec.ofInt IntKind.u8.bits (a:Int) ||| BitVec.ofInt IntKind.u8.bits (b:Int)).toNat=a ||| b:=by
  show (BitVec.ofInt 8 (a:Int) ||| BitVec.ofInt 8 (b:Int)).toNat=a ||| b
  rw [h8,h8,BitVec.toNat_or,BitVec.toNat_ofNat,BitVec.toNat_ofNat,Nat.mod_eq_of_lt (by omega),Nat.mod_eq_of_lt (by omega)]
 rw [h]
 have:a ||| b < 2 ^ 8:=Nat.or_lt_two_pow (by omega) (by omega)
 exact wrapu8 (by omega)
theorem qVa (a k:Nat):a &&& (2 ^ k-1)=a % 2 ^ k:=Nat.and_two_pow_sub_one_eq_mod a k
theorem vGb (a k:Nat):a &&& 2 ^ k=2 ^ k*(a / 2 ^ k % 2):=by
 apply Nat.eq_of_testBit_eq
 intro i
 rw [Nat.testBit_and,Nat.testBit_two_pow,Nat.mul_comm,Nat.testBit_mul_two_pow]
 by_cases h:k=i
 ·subst h
  simp only [decide_true,Bool.and_true,Nat.le_refl,Nat.sub_self,Bool.true_and]
  rw [Nat.testBit_eq_decide_div_mod_eq,Nat.testBit_eq_decide_div_mod_eq]
  congr 1
  simp
 ·simp only [h,decide_false,Bool.and_false]
  by_cases hk:k≤i
  ·have h2:i-k≠0:=by omega
   simp only [hk,decide_true,Bool.true_and]
   rw [Nat.testBit_eq_decide_div_mod_eq]
   have h3:a / 2 ^ k % 2 / 2 ^ (i-k)=0:=by
    apply Nat.div_eq_of_lt
    have h4:a / 2 ^ k % 2 < 2:=Nat.mod_lt _ (by omega)
    have h5:2 ^ 1≤2 ^ (i-k):=Nat.pow_le_pow_right (by omega) (by omega)
    omega
   rw [h3];simp
  ·simp [hk]
theorem vDk (a b k:Nat) (h:b < 2 ^ k):a*2 ^ k ||| b=a*2 ^ k+b:=by
 rw [Nat.mul_comm,← Nat.two_pow_add_eq_or_of_lt h]
theorem qDm (a k:Nat):Int.fdiv (a:Int) ((2:Int) ^ k)=((a / 2 ^ k:Nat):Int):=by
 rw [Int.fdiv_eq_ediv_of_nonneg _ (by exact Int.le_of_lt (Int.pow_pos (by omega)))]
 simp
end Tdoc
namespace Tdoc
open Go Go.Proofs Go.ChangeShapes Go.WideShapes Go.Deep Go.Joins
section
variable {H:Type} {enc:TypeId×Value→H} {P:Program} {W:World}
def OpnW (enc:TypeId×Value→H) (P:Program) (W:World) (t:TypeId) (m:Nat) (F:List Dat→Prop):Prop :=
 ∀ (fuel:Nat) (cs:List Value) (y:DataW H×List MemPlace),DataW.trod enc P W 0 (fun _=>true) true fuel t cs=some y→(∀ n,n∈y.1.weights P t→n≤reachBytes) →
  cs.length=m∧∃ ds:List Dat,ds.length=m∧F ds∧∀ (j:Nat) (d:Dat) (v:Value),ds[j]?=some d→cs[j]?=some v→RepD (GW W).imm d v
theorem OpnW.weak {t:TypeId} {m:Nat} {F F':List Dat→Prop} (h:OpnW enc P W t m F) (hf:∀ ds,F ds→F' ds):OpnW enc P W t m F':=fun fuel cs y hd hz=>by
 obtain ⟨h1,ds,h2,h3,h4⟩:=h fuel cs y hd hz
 exact ⟨h1,ds,h2,hf _ h3,h4⟩
theorem qHn {d:Dat} {v:Value} (h:RepD (GW W).imm d v):∀ (j:Nat) (d':Dat) (v':Value),[d][j]?=some d'→[v][j]?=some v'→RepD (GW W).imm d' v':=fun j d' v' hd hv=>by
 match j,hd,hv with
 | 0,hd,hv=>simp at hd hv;subst hd;subst hv;exact h
 | j+1,hd,hv=>simp at hd
theorem vCy {t:TypeId} {k:IntKind} (ht:P.underlying t=some (.int k)):OpnW enc P W t 1 (fun ds=>∃ n,ds=[.int k n]∧(Lit.int k n).wf=true):=fun fuel cs y hd hz=>by
 obtain ⟨n,rfl,-,w⟩:=DataW.trod_int ht hd
 exact ⟨rfl,[.int k n],rfl,⟨n,rfl,w⟩,qHn (.int k n)⟩
theorem vAf {t:TypeId} (ht:P.underlying t=some .bool):OpnW enc P W t 1 (fun ds=>∃ b,ds=[.bool b]):=fun fuel cs y hd hz=>by
 obtain ⟨b,rfl,-⟩:=DataW.trod_bool ht hd
 exact ⟨rfl,[.bool b],rfl,⟨b,rfl⟩,qHn (.bool b)⟩
theorem vCx {t:TypeId} (ht:P.underlying t=some .string):OpnW enc P W t 1 (fun ds=>∃ s:List UInt8,ds=[.str s]∧s.length≤reachBytes):=fun fuel cs y hd hz=>by
 obtain ⟨⟨⟨l⟩⟩,rfl,hy,w⟩:=DataW.trod_string ht hd
 refine ⟨rfl,[.str l],rfl,⟨l,rfl,?_⟩,qHn (.str l)⟩
 rw [hy] at hz
 exact hz l.length (by simp [DataW.weights])
theorem qGq {e:TypeId}:∀ {l:List (DataW H)} {d:DataW H},d∈l→∀ n,n∈d.weights P e→n∈DataW.weightsAll P e l
 | d0::l,d,hd,n,hn=>by
  simp only [DataW.weightsAll,List.mem_append]
  rcases List.mem_cons.1 hd with rfl | hd
  ·exact .inl hn
  ·exact .inr (qGq hd n hn)
theorem qIx {t e:TypeId} {m:Nat} {F:List Dat→Prop} (ht:P.underlying t=some (.slice e)) (ce:P.cellsOf e=m) (hm:0 < m) (he:OpnW enc P W e m F) :
  OpnW enc P W t 1 (fun ds=>∃ es:List (List Dat),ds=[.sl m es]∧(∀ x,x∈es→F x)∧es.length*P.bytesOf e≤reachBytes):=fun fuel cs y hd hz=>by
 rcases open_slice ht hd with ⟨rfl,-⟩ | ⟨a,len,cap,m',n,D,Pl,rfl,-,hlc,hcm,hm',hy,hx⟩
 ·exact ⟨rfl,[.sl m []],rfl,⟨[],rfl,(fun x hx=>by cases hx),by simp⟩,qHn (.nil m)⟩
 ·simp only [if_true] at hm'
  subst hm'
  rw [ce] at hx
  rw [hy] at hz
  have hw:∀ i,i < m'→∀ n,n∈(D i).weights P e→n≤reachBytes:=fun i hi n hn=>by
   refine hz n ?_
   simp only [DataW.weights,ht,List.mem_cons,List.mem_append]
   by_cases hl:i < len
   ·exact .inr (.inl (qGq (List.mem_map.2 ⟨i,by simpa using hl,rfl⟩) n hn))
   ·exact .inr (.inr (qGq (List.mem_map.2 ⟨i-len,by simp;omega,by simp only [show len+(i-len)=i by omega]⟩) n hn))
  have hlen:len*P.bytesOf e≤reachBytes:=by
   have:=hz ((len+(m'-len))*P.bytesOf e) (by simp [DataW.weights,ht])
   exact Nat.le_trans (Nat.mul_le_mul_right _ (by omega)) this
  have hsp:0 < m'→a.spot=none:=fun h0=>by
   obtain ⟨cs',h1,-⟩:=hx 0 h0
   obtain ⟨-,hl,hc⟩:=World.cells?_some h1
   have h2:=hc 0 hm
   rw [List.getElem?_eq_getElem (by omega)] at h2
   simp only [Nat.zero_mul] at h2
   have h3:(a.add 0).add 0=a:=by simp [Addr.add]
   rw [h3] at h2
   unfold World.cell? at h2
   split at h2
   ·split at h2
    ·cases h2
    ·rename_i hn
     cases hs:a.spot with
     | none=>rfl
     | some _=>rw [hs] at hn;simp at hn
   ·cases h2
  have each:∀ i,∃ q:List Value×List Dat,i < m'→(∀ j,j < m→W.cell? (a.add (i*m+j))=q.1[j]?)∧q.1.length=m∧q.2.length=m∧F q.2∧∀ (j:Nat) (d:Dat) (v:Value),q.2[j]?=some d→q.1[j]?=some v→RepD (GW W).imm d v:=fun i=>by
   by_cases hi:i < m'
   ·obtain ⟨cs',h1,h2⟩:=hx i hi
    obtain ⟨h3,ds,h4,h5,h6⟩:=he _ _ _ h2 (hw i hi)
    obtain ⟨-,hl,hc⟩:=World.cells?_some h1
    refine ⟨(cs',ds),fun _=>⟨fun j hj=>?_,hl,h4,h5,h6⟩⟩
    have:=hc j hj
    rwa [qDc a (hsp (by omega))] at this
   ·exact ⟨([],[]),fun hh=>absurd hh hi⟩
  let es:List (List Dat):=(List.range len).map fun i=>((each i).choose).2
  have hel:es.length=len:=by simp [es]
  have hat:∀ (i:Nat) (x:List Dat),es[i]?=some x→i < len∧x=((each i).choose).2:=fun i x hx=>by
   have hi:i < len:=by rw [← hel];exact (List.getElem?_eq_some_iff.1 hx).1
   simp [es,hi] at hx
   exact ⟨hi,hx.symm⟩
  have hrep:RepD (GW W).imm (.sl m es) (.slice (some a) es.length m'):=by
   refine .sl m es a m' (fun k=>(((each (k / m)).choose).1).getD (k % m) undef) hsp (by omega) (fun x hx=>?_) (fun i x j d hx hd=>?_) (fun i x j d hx hd=>?_)
   ·obtain ⟨i,hi,rfl⟩:=List.getElem_of_mem hx
    obtain ⟨h1,h2⟩:=hat i _ (List.getElem?_eq_getElem hi)
    rw [h2]
    exact ((each i).choose_spec (by omega)).2.2.1
   ·obtain ⟨h1,rfl⟩:=hat i x hx
    obtain ⟨g1,g2,g3,g4,g5⟩:=(each i).choose_spec (by omega)
    have hj:j < m:=by rw [← g3];exact (List.getElem?_eq_some_iff.1 hd).1
    have e1:(i*m+j) / m=i:=by rw [Nat.mul_comm,Nat.mul_add_div hm,Nat.div_eq_of_lt hj];omega
    have e2:(i*m+j) % m=j:=by rw [Nat.mul_comm,Nat.mul_add_mod];exact Nat.mod_eq_of_lt hj
    simp only [e1,e2]
    show W.cell? _=_
    rw [g1 j hj,List.getD_eq_getElem?_getD,List.getElem?_eq_getElem (by omega)]
    rfl
   ·obtain ⟨h1,rfl⟩:=hat i x hx
    obtain ⟨g1,g2,g3,g4,g5⟩:=(each i).choose_spec (by omega)
    have hj:j < m:=by rw [← g3];exact (List.getElem?_eq_some_iff.1 hd).1
    have e1:(i*m+j) / m=i:=by rw [Nat.mul_comm,Nat.mul_add_div hm,Nat.div_eq_of_lt hj];omega
    have e2:(i*m+j) % m=j:=by rw [Nat.mul_comm,Nat.mul_add_mod];exact Nat.mod_eq_of_lt hj
    simp only [e1,e2]
    refine g5 j d _ hd ?_
    rw [List.getD_eq_getElem?_getD,List.getElem?_eq_getElem (by omega)]
    rfl
  refine ⟨rfl,[.sl m es],rfl,⟨es,rfl,fun x hx=>?_,by rw [hel];exact hlen⟩,qHn (by rw [hel] at hrep;exact hrep)⟩
  obtain ⟨i,hi,rfl⟩:=List.getElem_of_mem hx
  obtain ⟨h1,h2⟩:=hat i _ (List.getElem?_eq_getElem hi)
  rw [h2]
  exact ((each i).choose_spec (by omega)).2.2.2.1
def FldAllW:List (List Dat→Prop)→List Dat→Prop
 | [],ds=>ds=[]
 | F::Fs,ds=>∃ p q,ds=p++q∧F p∧FldAllW Fs q
def FldOkW (enc:TypeId×Value→H) (P:Program) (W:World):Nat→List Field→List (List Dat→Prop)→Nat→Prop
 | o,[],[],m=>o=m
 | o,f::fs,F::Fs,m=>f.offset=o∧∃ k,P.cellsOf f.type=k∧OpnW enc P W f.type k F∧FldOkW enc P W (o+k) fs Fs m
 | _,_,_,_=>False
theorem fieldsW_open {n:Nat} {cs:List Value} {m:Nat} (hl:cs.length=m):∀ (fs:List Field) (Fs:List (List Dat→Prop)) (o:Nat),FldOkW enc P W o fs Fs m →
  (∀ f,f∈fs→∃ y,DataW.trod enc P W 0 (fun _=>true) true n f.type ((cs.drop f.offset).take (P.cellsOf f.type))=some y∧∀ z,z∈y.1.weights P f.type→z≤reachBytes) →
  o≤m∧∃ ds:List Dat,o+ds.length=m∧FldAllW Fs ds∧∀ (j:Nat) (d:Dat) (v:Value),ds[j]?=some d→cs[o+j]?=some v→RepD (GW W).imm d v
 | [],[],o,h,_=>by
  have ho:o=m:=h
  exact ⟨by omega,[],by simpa using ho,rfl,fun j d v hd=>by simp at hd⟩
 | f::fs,F::Fs,o,h,hr=>by
  obtain ⟨h1,k,h2,h3,h4⟩:=h
  obtain ⟨g1,q,g2,g3,g4⟩:=fieldsW_open hl fs Fs (o+k) h4 (fun f hf=>hr f (List.mem_cons_of_mem _ hf))
  obtain ⟨y,hy,hyz⟩:=hr f List.mem_cons_self
  rw [h1,h2] at hy
  obtain ⟨-,p,p1,p2,p3⟩:=h3 _ _ _ hy hyz
  refine ⟨by omega,p++q,by rw [List.length_append];omega,⟨p,q,rfl,p2,g3⟩,fun j d v hd hv=>?_⟩
  by_cases hj:j < p.length
  ·rw [List.getElem?_append_left hj] at hd
   refine p3 j d v hd ?_
   rw [List.getElem?_take,if_pos (by omega),List.getElem?_drop]
   exact hv
  ·rw [List.getElem?_append_right (by omega)] at hd
   refine g4 (j-p.length) d v hd ?_
   rw [show o+k+(j-p.length)=o+j by omega]
   exact hv
 | [],_::_,_,h,_=>by exact absurd h (by simp [FldOkW])
 | _::_,[],_,h,_=>by exact absurd h (by simp [FldOkW])
theorem qDd {t:TypeId} {fs:Array Field} {m:Nat} {Fs:List (List Dat→Prop)} (ht:P.underlying t=some (.struct fs)) (hc:P.cellsOf t=m) (h:FldOkW enc P W 0 fs.toList Fs m):OpnW enc P W t m (FldAllW Fs):=fun fuel cs y hd hz=>by
 obtain ⟨xs,n,rfl,hy,hl,hxl,hf⟩:=DataW.trod_struct ht hd
 rw [hy] at hz
 rw [hc] at hl
 obtain ⟨-,ds,h1,h2,h3⟩:=fieldsW_open (n:=n) hl fs.toList Fs 0 h (fun f hf'=>by
  obtain ⟨i,hi,rfl⟩:=List.getElem_of_mem hf'
  have hi':i < fs.size:=by simpa using hi
  have:=hf i (fs.toList[i]) (by simp [hi'])
  rw [List.getElem?_eq_getElem (by omega)] at this
  refine ⟨_,this,fun z hzz=>hz z ?_⟩
  simp only [DataW.weights,ht]
  exact DataW.weights_mem_each (j:=i) (by simp [hi']) (by simp [show i < xs.length by omega]) z hzz)
 exact ⟨hl,ds,by omega,h2,fun j d v hd hv=>h3 j d v hd (by rw [Nat.zero_add];exact hv)⟩
theorem openW_flat {r:Reach} {b0:Nat} {t:TypeId} {v:Value} {d:DataW H} {ps:List MemPlace} {fs:Array Field} {m:Nat} {F:List Dat→Prop} (ht:P.underlying t=some (.struct fs)) (ho:OpnW enc P W t m F)
  (hval:Value.okWide P W r b0 t v) (hd:DataW.Trod enc P W 0 (fun _=>true) true t v d ps) (hz:∀ n,n∈d.weights P t→n≤reachBytes):∃ ds:List Dat,F ds∧RepA (GW W) (.agg (ds.map .d)) v:=by
 obtain ⟨fuel,hd⟩:=hd
 simp only [Value.okWide,ht] at hval
 obtain ⟨cs,rfl,-,-⟩:=hval
 obtain ⟨h1,ds,h2,h3,h4⟩:=ho _ _ _ hd hz
 have h1':cs.size=m:=by simpa [Value.cells] using h1
 refine ⟨ds,h3,.agg _ (by simp;omega) (fun j x v hx hv=>?_) (fun j v hv=>?_)⟩
 ·rw [List.getElem?_map,Option.map_eq_some_iff] at hx
  obtain ⟨d,hd,rfl⟩:=hx
  exact .d (h4 j d v hd (by simpa [Value.cells] using hv))
 ·have hj:j < ds.length:=by
   have:j < cs.size:=by
    have:=(Array.getElem?_eq_some_iff.1 hv).1
    exact this
   omega
  exact (h4 j ds[j] v (List.getElem?_eq_getElem hj) (by simpa [Value.cells] using hv)).one
end
end Tdoc
namespace Tdoc
open Go
section
variable {P:Program} {E:Env} {T:Tr} {o:Oper} {ρ:Operand→AV} {h h':List AObj} {v:AV}
theorem arrPtr_ok (hT:TOk P T) {t n sz i off:Nat} {g:Bool} {x ix:Operand} {k:IntKind} {j:Int} (ho:o.op=.indexAddr t x ix) (ht:vIm T t=some (n,sz,g)) (hx:ρ x=.ptr i off) (hix:ρ ix=.d (.int k j)) (h0:0≤j∧j < (n:Int)) :
  OpP P o ρ (.ptr i (off+j.toNat*sz)):=by
 intro G e w hi hr
 have hx':RepA G (ρ x) (e x):=hr x (by simp [ho,Op.operands])
 have hix':RepA G (ρ ix) (e ix):=hr ix (by simp [ho,Op.operands])
 rw [hx] at hx';rw [hix] at hix'
 obtain ⟨et,ie,h1,h2,h3,h4⟩:=arrT_ok hT ht
 obtain ⟨b,hv,hl⟩:=hx'.ptr_inv
 refine ⟨.pointer (some ⟨b,off+j.toNat*sz,none⟩),?_,.ptr _ hl⟩
 unfold execOp
 simp only [ho,Sem.run_bind]
 rw [hv,hix'.int_inv]
 simp [Instr.indexAt,asIntOf,run_underlying h1,Instr.sureAddr,h0.1,h0.2,h2.run_size,h3,qCg]
theorem qYk (hT:TOk P T) {t sz i off n cap:Nat} {x:Operand} {lo hi:Option Operand} {l r:Nat} (ho:o.op=.slice t x lo hi none) (hs:qCa T t sz=true) (hx:ρ x=.row i off n cap)
  (hlo:match lo with | none=>l=0 | some y=>∃ k,ρ y=.d (.int k (l:Int))) (hhi:match hi with | none=>r=n | some y=>∃ k,ρ y=.d (.int k (r:Int))) (hle:l≤r) (hc:r≤cap)
  (hv:AV.row i (if cap=l then off else off+l*sz) (r-l) (cap-l)=v):OpP P o ρ v:=hv▸rowCut_ok hT ho hs hx hlo hhi hle hc
theorem qFw (hT:TOk P T) {t t2 sz by_ i:Nat} {s x:Operand} {es2:List (List Dat)} (ho:o.op=.call { callee:=.builtin .append,args:=#[s,x],argTypes:=#[t,t2] })
  (ht:qZy T t=some (sz,by_)) (ht2:qYb T t2=true) (hs:ρ s=.sl sz [] .full∨ρ s=.nils) (hsx:s≠x) (hi:h[i]?=some .room) (hx:qJx sz (ρ x)=some es2) (hb:es2.length*(by_+1)≤140737488355328) :
  OpS P E o ρ h (.sl sz es2 (.right i)) (h.set i (.right sz es2.length)):=by
 have:=qLl (E:=E) (es:=[]) hT ho ht ht2 (hs.imp (fun h=>h) fun h=>⟨h,rfl⟩) hsx hi hx (by simpa using hb)
 simpa using this
end
section
variable {P:Program} {E:Env} {T:Tr} {o:Oper} {ρ:Operand→AV} {h:List AObj}
theorem vBu {G:Gh} {sz:Nat} {es:List (List Dat)} {news:List Value} (hlen:∀ e,e∈es→e.length=sz) (hn:∀ (i:Nat) (e:List Dat) (j:Nat) (d:Dat),es[i]?=some e→e[j]?=some d→∃ u,news[i*sz+j]?=some u∧RepD G.imm d u) :
  ∀ (j:Nat) (c:AV) (u:Value),(qDy es)[j]?=some c→news[j]?=some u→RepA G c u∧qHp u=true:=by
 intro j c u hc hu
 simp only [qDy,List.getElem?_map,Option.map_eq_some_iff] at hc
 obtain ⟨d,hd,rfl⟩:=hc
 obtain ⟨i,j',e,he,hd',hjj⟩:=qEo hlen hd
 obtain ⟨u',hu',hru⟩:=hn i e j' d he hd'
 rw [← hjj,hu] at hu'
 cases hu'
 exact ⟨.d hru,hru.one⟩
theorem appRowD_ok (hT:TOk P T) {t t2 sz by_ i n cap:Nat} {s x:Operand} {cells:List AV} {es2:List (List Dat)} (ho:o.op=.call { callee:=.builtin .append,args:=#[s,x],argTypes:=#[t,t2] })
  (ht:qZy T t=some (sz,by_)) (ht2:qYb T t2=true) (hs:ρ s=.row i 0 n cap) (hx:qJx sz (ρ x)=some es2) (hi:h[i]?=some (.row cells)) (hfit:n+es2.length≤cap) (hc1:(n+es2.length)*sz≤cells.length) :
  OpS P E o ρ h (.row i 0 (n+es2.length) cap) (h.set i (.row (qCk cells (n*sz) (qDy es2)))) :=
 qBo fun G e w hw hr=>by
  have hs':RepA G (ρ s) (e s):=hr s (by simp [ho,Op.operands,Call.operands])
  have hx':RepA G (ρ x) (e x):=hr x (by simp [ho,Op.operands,Call.operands])
  obtain ⟨et,ie,h1,h2,rfl,rfl,hzl⟩:=appT_ok hT ht
  obtain ⟨d2,h3,h4⟩:=srcT_ok hT ht2
  obtain ⟨hlen2,news,n1,n2,n3,n4⟩:=asNew_src (P:=P) hw.imm hx' hx
  rw [hs] at hs'
  obtain ⟨b,hv,hl⟩:=hs'.row_inv
  obtain ⟨b',hl',hown,hrow,himm⟩:=hw.obj i _ hi
  rw [hl] at hl';cases hl'
  have hfl:=flatAV_length hlen2
  rw [Nat.add_mul] at hc1
  obtain ⟨w',q1,q2,q3,q4,q5,q6,q7⟩:=qGr (P:=P) news (qDy es2) cells (n*ie.size) 0 w hrow (by rw [n2];omega) (by rw [n2,hfl]) (vBu hlen2 n4)
  have hrun:=qCi (ty:=o.type) h1 h3 h4 h2 (w':=w') (a:=some ⟨b,0,none⟩) (n:=n) (cap:=cap) n1 hfit (by simp only [qCg,Nat.zero_add];exact q1)
  refine ⟨.slice (some ⟨b,0,none⟩) (n+es2.length) cap,w',G,?_,.refl G,hw.setObj hi hl (by simpa using q2) q3 q4 q5 q6 q7,.row _ _ _ hl⟩
  unfold execOp
  simp [ho,resolve,invoke,builtin,hv,hrun]
end
end Tdoc
