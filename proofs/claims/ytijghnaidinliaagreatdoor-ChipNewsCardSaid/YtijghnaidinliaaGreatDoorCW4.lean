/- Part 4 of the proof: the texts R4 R5 R6 R7 R8 T1 D1 N1 I2 R12 R9 R14 N2 N3 R35 R36 R13 R15 R16 R17 I1. -/
import Derived.Test.YtijghnaidinliaaGreatDoorCW3
import Derived.Lib.SlBytesConst
import Derived.WalkKit
import Derived.ProofKit
import Derived.OpenShut
import Derived.JoinedCond
import Derived.Lib.ConvBytes
import Derived.Laws.StructEq
import Derived.RangeFuncRecord
import Derived.RangeFuncCalls
import Derived.OrdersIn
import Derived.Below
import Derived.Sort.Grow
import Derived.Deep.Draws
set_option linter.unusedSimpArgs false
set_option linter.unusedVariables false
namespace Tdoc
open Go
theorem RepA.bm_inv {G:Gh} {v:Value} {i n:Nat} (h:RepA G (.bm i n) v):∃ a cap,v=.slice a n cap∧G.rt i n=some (a,cap):=by cases h with | bm a cap r _=>exact ⟨a,cap,rfl,r⟩
theorem RepA.bm_inv2 {G:Gh} {v:Value} {i n:Nat} (h:RepA G (.bm i n) v):∃ a cap,v=.slice a n cap∧G.rt i n=some (a,cap)∧(a=none→n=0):=by cases h with | bm a cap r hz=>exact ⟨a,cap,rfl,r,hz⟩
theorem RepA.bp_inv {G:Gh} {v:Value} {i n k:Nat} (h:RepA G (.bp i n k) v):∃ p cap,v=.pointer (some (p.add k))∧G.rt i n=some (some p,cap):=by cases h with | bp p cap _ r=>exact ⟨p,cap,rfl,r⟩
theorem WRel.bufAt {E:Env} {G G':Gh} {h:List AObj} {w w':World} {i bl:Nat} {ob ob':AObj} (hw:WRel E G h w) (hi:h[i]?=some ob) (hle:G.le G') (himm:∀ a,G'.imm a=G.imm a) (hown:∀ b,G'.own b=G.own b) (hloc:∀ j,G'.loc j=G.loc j)
  (hrt:∀ j n,j≠i→G'.rt j n=G.rt j n) (hbl:G.own bl=some i) (hcell:∀ a v,G.imm a=some v→w'.cell? a=some v) (hheap:∀ k,k≠bl→w'.heap[k]?=w.heap[k]?) (hs:w'.heap.size=w.heap.size)
  (ho:w'.os=w.os) (ht:w'.tape=w.tape) (hout:w'.output=w.output) (hob:ObjRel G' w' i ob'):WRel E G' (h.set i ob') w':=by
 have hKb:=(hw.own _ i hbl).2
 have hilt:i < h.length:=(List.getElem?_eq_some_iff.1 hi).1
 refine ⟨hw.le.trans hle,fun a v ha=>hcell a v (by rw [himm] at ha;exact ha),fun a v ha=>hw.immNew a v (by rw [himm] at ha;exact ha),fun b hb=>?_,by rw [hs];exact hw.size,ho.trans hw.os,ht.trans hw.tape,hout.trans hw.output,
  fun b j hb=>by rw [hs];rw [hown] at hb;exact hw.own b j hb,fun j hj=>?_,fun j o hj=>?_⟩
 ·rw [hheap b (fun hh=>hKb (hh▸hb))];exact hw.keep b hb
 ·simp only [List.length_set] at hj
  have:=hw.fresh j hj
  exact ⟨by rw [hloc];exact this.1,fun n=>by rw [hrt j n (by omega)];exact this.2 n⟩
 ·rw [List.getElem?_set] at hj
  by_cases hij:i=j
  ·subst hij
   simp only [if_true,hilt] at hj
   cases hj
   exact hob
  ·rw [if_neg hij] at hj
   refine (hw.obj j o hj).keep hle (fun b hb=>⟨hheap b (fun hh=>?_),fun a ha=>himm a⟩) (fun n hn=>by rw [hrt j n (fun e=>hij e.symm)];exact hn) (fun hn=>by rw [hloc];exact hn)
   subst hh
   rw [hbl] at hb;cases hb;exact hij rfl
def qJi (G:Gh) (i n:Nat) (x:Option Addr×Nat):Gh:={ G with rt:=fun j m=>if j=i∧m=n then some x else G.rt j m }
theorem rtSet_le {G:Gh} {i n:Nat} {x:Option Addr×Nat} (h:G.rt i n=none):G.le (qJi G i n x):=by
 refine ⟨fun _ _ h=>h,fun _ _ h=>h,fun j m y hy=>?_,fun _ _ h=>h⟩
 show (if j=i∧m=n then _ else G.rt j m)=some y
 split
 ·rename_i hc;rw [hc.1,hc.2,h] at hy;cases hy
 ·exact hy
theorem rtSet_at (G:Gh) (i n:Nat) (x:Option Addr×Nat):(qJi G i n x).rt i n=some x:=by show (if i=i∧n=n then _ else _)=_;simp
theorem rtSet_ne {G:Gh} {i n j m:Nat} {x:Option Addr×Nat} (h:¬ (j=i∧m=n)):(qJi G i n x).rt j m=G.rt j m:=by show (if j=i∧m=n then _ else _)=_;rw [if_neg h]
section
variable {P:Program} {E:Env} {T:Tr} {o:Oper} {ρ:Operand→AV} {h h':List AObj} {v:AV}
theorem bufAddr_ok (hT:TOk P T) {t sz i n:Nat} {x ix:Operand} {k:IntKind} {j:Int} (ho:o.op=.indexAddr t x ix) (hs:qBy T t sz=true)
  (hx:ρ x=.bm i n) (hix:ρ ix=.d (.int k j)) (h0:0≤j∧j < (n:Int)):OpP P o ρ (.bp i n (j.toNat*sz)):=by
 intro G e w hi hr
 have hx':RepA G (ρ x) (e x):=hr x (by simp [ho,Op.operands])
 have hix':RepA G (ρ ix) (e ix):=hr ix (by simp [ho,Op.operands])
 rw [hx] at hx';rw [hix] at hix'
 obtain ⟨et,ie,h1,h2,h3⟩:=sliceElem_ok hT hs
 obtain ⟨a,cap,hv,hl,hz⟩:=hx'.bm_inv2
 cases a with
 | none=>have:=hz rfl;omega
 | some p =>
  refine ⟨.pointer (some (p.add (j.toNat*sz))),?_,.bp p cap _ hl⟩
  unfold execOp
  simp only [ho,Sem.run_bind]
  rw [hv,hix'.int_inv]
  simp [Instr.indexAt,asIntOf,run_underlying h1,h0.1,h0.2,h2.run_size,h3]
theorem bufStore_ok (hT:TOk P T) {t i n off sz:Nat} {ti:TI} {x y:Operand} {cells:List AV} (ho:o.op=.store t x y) (hx:ρ x=.bp i n off) (hi:h[i]?=some (.buf sz n cells)) (hf:T.find t=some ti) (hsz:Nat.beq ti.size 1=true)
  (hs:qDx (ρ y)=true) (hlt:off < cells.length):OpS P E o ρ h .any (h.set i (.buf sz n (cells.set off (ρ y)))) :=
 qEr fun G e w hw hr=>by
  have hx':RepA G (ρ x) (e x):=hr x (by simp [ho,Op.operands])
  have hy':RepA G (ρ y) (e y):=hr y (by simp [ho,Op.operands])
  rw [hx] at hx'
  obtain ⟨p,cap,hp,hl⟩:=hx'.bp_inv
  obtain ⟨a',cap',hl',hlater,hb1,hb2,hb3,hb4⟩:=hw.obj i _ hi
  rw [hl] at hl';cases hl'
  have hcap:0 < cap:=by
   rcases Nat.eq_zero_or_pos cap with h0 | h0
   ·have:n=0:=by omega
    subst this;simp at hb1;rw [hb1] at hlt;simp at hlt
   ·exact h0
  obtain ⟨q1,q2,q3,q4⟩:=hb4 p rfl hcap
  have hcs:n*sz≤cap*sz:=Nat.mul_le_mul_right _ hb2
  have hone:=qJs hy' hs
  have hti:=hT.at hf
  have h1:=Nat.eq_of_beq_eq_true hsz
  have hspot:(p.add off).spot=none:=qDt p q1 _
  obtain ⟨w',r1,r2,r3,r4,r5,r6,r7,r8,r9⟩:=qDj (P:=P) hspot [e y] 0 w (fun k u hk=>by
    cases k with
    | zero=>simp at hk;subst hk;exact hone
    | succ k=>simp at hk) (fun k hk=>by
    simp at hk;subst hk
    obtain ⟨c1,c2,_⟩:=q4 off (by omega)
    rw [Nat.zero_add,show (p.add off).add 0=p.add off by simp [Addr.add]]
    exact ⟨c1,c2⟩)
  have hadd0:(p.add off).add 0=p.add off:=by simp [Addr.add]
  have hother:∀ j,j≠off→w'.cell? (p.add j)=w.cell? (p.add j):=fun j hj=>r3 _ (fun k hk hh=>by
   simp at hk;subst hk
   rw [Nat.zero_add,hadd0,qBu p q1,qBu p q1] at hh
   injection hh with _ h5 _
   omega)
  refine ⟨w',G,?_,.refl G,hw.bufAt (bl:=p.block) hi (.refl G) (fun _=>rfl) (fun _=>rfl) (fun _=>rfl) (fun _ _ _=>rfl) q2 (fun a u hu=>?_) (fun k hk=>r5 k (by rw [qCa];exact hk)) r6 r7 r8 r9 ?_⟩
  ·unfold execOp
   have hsz':(e y).cells.size=ti.size:=by rw [qIk hone,h1];rfl
   simp [ho,Instr.storeAt,hp,Instr.sureAddr,storeVar,hti.run_size,h1,qIk hone,r1]
  ·rw [r3 a (fun k hk hh=>?_)]
   ·exact hw.imm a u hu
   ·simp at hk;subst hk
    rw [Nat.zero_add,hadd0] at hh
    have:=(q4 off (by omega)).2.2
    rw [← hh,hu] at this;cases this
  ·refine ⟨some p,cap,hl,hlater,by simpa using hb1,hb2,hb3,fun p' hp' _=>?_⟩
   cases hp'
   refine ⟨q1,q2,fun j c hj=>?_,fun j hj=>?_⟩
   ·rw [List.getElem?_set] at hj
    by_cases hjo:off=j
    ·subst hjo
     simp only [if_true,hlt] at hj
     cases hj
     refine ⟨e y,?_,hone,hy'⟩
     have:=r2 0 (e y) (by simp)
     rwa [Nat.zero_add,hadd0] at this
    ·rw [if_neg hjo] at hj
     obtain ⟨u,u1,u2,u3⟩:=q3 j c hj
     exact ⟨u,by rw [hother j (fun e=>hjo e.symm)];exact u1,u2,u3⟩
   ·obtain ⟨⟨u,c1⟩,c2,c3⟩:=q4 j hj
    refine ⟨?_,by rw [r4];exact c2,c3⟩
    by_cases hjo:j=off
    ·subst hjo
     refine ⟨e y,?_⟩
     have:=r2 0 (e y) (by simp)
     rwa [Nat.zero_add,hadd0] at this
    ·exact ⟨u,by rw [hother j hjo];exact c1⟩
def qAu (es:List (List Dat)):List AV:=es.flatten.map .d
theorem flatAV_length {sz:Nat}:∀ {es:List (List Dat)},(∀ e,e∈es→e.length=sz)→(qAu es).length=es.length*sz
 | [],_=>by simp [qAu]
 | a::l,h=>by
  have:=flatAV_length (es:=l) (fun e he=>h e (by simp [he]))
  simp only [qAu,List.length_map] at this ⊢
  rw [List.flatten_cons,List.length_append,this,h a (by simp),List.length_cons,Nat.succ_mul];omega
theorem qDi {sz:Nat}:∀ {es:List (List Dat)} {k:Nat} {d:Dat},(∀ e,e∈es→e.length=sz)→es.flatten[k]?=some d→∃ (i j:Nat) (e:List Dat),es[i]?=some e∧e[j]?=some d∧k=i*sz+j
 | [],k,d,_,h=>by simp at h
 | a::l,k,d,hl,h=>by
  rw [List.flatten_cons] at h
  have ha:=hl a (by simp)
  by_cases hk:k < a.length
  ·rw [List.getElem?_append_left hk] at h
   exact ⟨0,k,a,by simp,h,by simp⟩
  ·rw [List.getElem?_append_right (by omega)] at h
   obtain ⟨i,j,e,h1,h2,h3⟩:=qDi (fun e he=>hl e (by simp [he])) h
   exact ⟨i+1,j,e,by simpa using h1,h2,by rw [Nat.succ_mul];omega⟩
theorem bufAppG_ok (hT:TOk P T) {t t2 sz by_ i n m:Nat} {s x:Operand} {cells cs2:List AV} (ho:o.op=.call { callee:=.builtin .append,args:=#[s,x],argTypes:=#[t,t2] })
  (ht:qPe T t=some (sz,by_)) (ht2:qPr T t2=true) (hs:ρ s=.bm i n) (hi:h[i]?=some (.buf sz n cells)) (hl2:cs2.length=m*sz)
  (hsrc:∀ (G:Gh) (xv:Value) (w:World),WRel E G h w→RepA G (ρ x) xv→∃ news,Src P w xv m sz news∧news.length=m*sz∧(∀ (k:Nat) (u:Value),news[k]?=some u→qFv u=true)∧∀ (j:Nat) (c:AV),cs2[j]?=some c→∃ u,news[j]?=some u∧RepA G c u)
  (hb:(n+m)*(by_+1)≤140737488355328) :
  OpS P E o ρ h (.bm i (n+m)) (h.set i (.buf sz (n+m) (cells++cs2))) :=
 qBd fun G e w hw hr=>by
  have hs':RepA G (ρ s) (e s):=hr s (by simp [ho,Op.operands,Call.operands])
  have hx':RepA G (ρ x) (e x):=hr x (by simp [ho,Op.operands,Call.operands])
  rw [hs] at hs'
  obtain ⟨et,ie,h1,h2,rfl,rfl,hzl⟩:=appT_ok hT ht
  obtain ⟨d2,h3,h4⟩:=srcT_ok hT ht2
  obtain ⟨news,n1,n2,n3,n4⟩:=hsrc G _ w hw hx'
  obtain ⟨a,cap,hsv,hrt⟩:=hs'.bm_inv
  obtain ⟨a',cap',hrt',hlater,hb1,hcap,hb3,hb4⟩:=hw.obj i _ hi
  rw [hrt] at hrt';cases hrt'
  have hfl:=hl2
  have hex:(execOp e o).run P w=((Builtin.append_ #[t,t2] o.type #[e s,e x]).run P w).andThen fun u w'=>.ok (.value u) w':=by
   unfold execOp
   simp [ho,resolve,invoke,builtin]
  have hilt:i < h.length:=(List.getElem?_eq_some_iff.1 hi).1
  have hnewc:∀ (G':Gh),G.le G'→∀ (j:Nat) (c:AV),(cs2)[j]?=some c→∃ u,news[j]?=some u∧qFv u=true∧RepA G' c u:=by
   intro G' hle j c hj
   obtain ⟨u,hu,hru⟩:=n4 j c hj
   exact ⟨u,hu,n3 _ u hu,hru.mono hle⟩
  by_cases hz:m=0
  ·subst hz
   have hn:news=[]:=by simpa using n2
   have hc:cs2=[]:=by simpa using hl2
   subst hn
   subst hc
   have hrun:=qCc (ty:=o.type) h1 h3 h4 h2 (w':=w) (a:=a) (n:=n) (cap:=cap) n1 (by simpa using hcap) (by cases a <;> simp [storeCells])
   have hset:h.set i (.buf ie.size (n+0) (cells++[]))=h:=by
    apply List.ext_getElem?
    intro j
    rw [List.getElem?_set]
    split
    ·rename_i e;subst e
     rw [hi];simp [hilt]
    ·rfl
   refine ⟨e s,w,G,?_,.refl G,by rw [hset];exact hw,by rw [hsv];exact .bm a cap hrt (by obtain ⟨a2,c2,e2,_,hz2⟩:=hs'.bm_inv2;rw [hsv] at e2;cases e2;exact hz2)⟩
   rw [hex,hsv,hrun];simp
  ·have hpos:0 < m:=Nat.pos_of_ne_zero hz
   have hrtn:G.rt i (n+m)=none:=hlater _ (by omega)
   by_cases hfit:n+m≤cap
   ·cases a with
    | none=>have:=hb3.1 rfl;omega
    | some p =>
     obtain ⟨p1,p2,p3,p4⟩:=hb4 p rfl (by omega)
     have hm1:(n+m)*ie.size≤cap*ie.size:=Nat.mul_le_mul_right _ hfit
     rw [Nat.add_mul] at hm1
     have hspot:(p.add (n*ie.size)).spot=none:=qDt p p1 _
     obtain ⟨w',q1,q2,q3,q4,q5,q6,q7,q8,q9⟩:=qDj (P:=P) hspot news 0 w n3 (fun k hk=>by
      rw [Nat.zero_add,qCe p p1]
      obtain ⟨c1,c2,_⟩:=p4 (n*ie.size+k) (by omega)
      exact ⟨c1,c2⟩)
     have hrun:=qCc (ty:=o.type) h1 h3 h4 h2 (w':=w') (a:=some p) (n:=n) (cap:=cap) n1 hfit (by simpa using q1)
     have hold:∀ j,¬ (n*ie.size≤j∧j < n*ie.size+news.length)→w'.cell? (p.add j)=w.cell? (p.add j):=fun j hj=>q3 _ (fun k hk hh=>by
      rw [Nat.zero_add,qCe p p1,qBu p p1,qBu p p1] at hh
      injection hh with _ h5 _
      omega)
     have hnw:∀ (k:Nat) (u:Value),news[k]?=some u→w'.cell? (p.add (n*ie.size+k))=some u:=fun k u hu=>by
      have:=q2 k u hu
      rwa [Nat.zero_add,qCe p p1] at this
     have hle:=rtSet_le (x:=(some p,cap)) hrtn
     refine ⟨.slice (some p) (n+m) cap,w',qJi G i (n+m) (some p,cap),by rw [hex,hsv,hrun];rfl,hle,?_,.bm _ _ (rtSet_at _ _ _ _) (fun h=>by cases h)⟩
     refine hw.bufAt (bl:=p.block) hi hle (fun _=>rfl) (fun _=>rfl) (fun _=>rfl) (fun j m hj=>rtSet_ne (fun hc=>hj hc.1)) p2 (fun a u hu=>?_) (fun k hk=>q5 k (by rw [qCa];exact hk)) q6 q7 q8 q9 ?_
     ·rw [q3 a (fun k hk hh=>?_)]
      ·exact hw.imm a u hu
      ·rw [Nat.zero_add,qCe p p1] at hh
       have:=(p4 (n*ie.size+k) (by omega)).2.2
       rw [← hh,hu] at this;cases this
     ·refine ⟨some p,cap,rtSet_at _ _ _ _,fun n' hn'=>by rw [rtSet_ne (by omega)];exact hlater n' (by omega),by rw [List.length_append,hb1,hfl,Nat.add_mul],hfit,hb3,fun p' hp' _=>?_⟩
      cases hp'
      refine ⟨p1,p2,fun j c hj=>?_,fun j hj=>?_⟩
      ·by_cases hjl:j < cells.length
       ·rw [List.getElem?_append_left hjl] at hj
        obtain ⟨u,u1,u2,u3⟩:=p3 j c hj
        exact ⟨u,by rw [hold j (by omega)];exact u1,u2,u3.mono hle⟩
       ·rw [List.getElem?_append_right (by omega)] at hj
        obtain ⟨u,u1,u2,u3⟩:=hnewc _ hle _ c hj
        refine ⟨u,?_,u2,u3⟩
        have:=hnw _ u u1
        rwa [show n*ie.size+(j-cells.length)=j by omega] at this
      ·obtain ⟨⟨u,c1⟩,c2,c3⟩:=p4 j hj
       refine ⟨?_,by rw [q4];exact c2,c3⟩
       by_cases hjn:n*ie.size≤j∧j < n*ie.size+news.length
       ·have hk:j-n*ie.size < news.length:=by omega
        have:=hnw (j-n*ie.size) news[j-n*ie.size] (by simp [hk])
        exact ⟨_,by rwa [show n*ie.size+(j-n*ie.size)=j by omega] at this⟩
       ·exact ⟨u,by rw [hold j hjn];exact c1⟩
   ·-- a new row
    have hsrc:∃ olds:List Value,Src P w (e s) n ie.size olds∧olds.length=n*ie.size∧∀ (j:Nat) (c:AV),cells[j]?=some c→∃ u,olds[j]?=some u∧qFv u=true∧RepA G c u:=by
     by_cases hc0:0 < cap
     ·cases a with
      | none=>have:=hb3.1 rfl;omega
      | some p =>
       obtain ⟨p1,p2,p3,p4⟩:=hb4 p rfl hc0
       let f:Nat→Value:=fun j=>(w.cell? (p.add j)).getD undef
       have hm:n*ie.size≤cap*ie.size:=Nat.mul_le_mul_right _ hcap
       refine ⟨(List.range (n*ie.size)).map f,fun w'' hh=>?_,by simp,fun j c hj=>?_⟩
       ·have hld:(loadCells p (n*ie.size)).run P w''=.ok ((List.range (n*ie.size)).map f).toArray w'':=by
         refine run_loadCells (P:=P) w'' p (n*ie.size) f (fun j hj=>?_)
         obtain ⟨⟨u,c1⟩,_⟩:=p4 j (by omega)
         rw [cell?_heap hh];simp [f,c1]
        rw [hsv]
        refine ⟨rfl,?_⟩
        simp [Builtin.firstCells,hld]
       ·have hjl:j < n*ie.size:=by rw [← hb1];exact (List.getElem?_eq_some_iff.1 hj).1
        obtain ⟨u,u1,u2,u3⟩:=p3 j c hj
        exact ⟨u,by simp [hjl,f,u1],u2,u3⟩
     ·have hn0:n=0:=by omega
      subst hn0
      refine ⟨[],fun w'' hh=>?_,by simp,fun j c hj=>?_⟩
      ·rw [hsv]
       refine ⟨rfl,?_⟩
       cases a with
       | none=>simp [Builtin.firstCells]
       | some p =>
        have:=run_loadCells (P:=P) w'' p 0 (fun _=>undef) (fun j hj=>by omega)
        simp only [Builtin.firstCells,Nat.zero_mul]
        simpa using this
      ·have:=(List.getElem?_eq_some_iff.1 hj).1
       rw [hb1] at this;simp at this
    obtain ⟨olds,o1,o2,o3⟩:=hsrc
    obtain ⟨newCap,rest,w',c1,c2,c3,c4,c5,c6,c7⟩:=qDz (ty:=o.type) h1 h3 h4 h2 hsv o1 n1 (by omega) hb
    let cs:=olds.toArray++news.toArray++rest
    have hown:G.own w.heap.size=none:=by
     cases ho:G.own w.heap.size with
     | none=>rfl
     | some j=>have:=(hw.own _ _ ho).1;omega
    have hK:¬ E.K w.heap.size:=fun hk=>by have:=hw.size;have:=hk.1;omega
    let G':Gh:={ qJi G i (n+m) (some ⟨w.heap.size,0,none⟩,newCap) with own:=fun b=>if b=w.heap.size then some i else G.own b }
    have hle:G.le G':=by
     refine ⟨fun _ _ x=>x,fun _ _ x=>x,(rtSet_le hrtn).rt,fun b j hb'=>?_⟩
     show (if b=w.heap.size then some i else G.own b)=some j
     split
     ·rename_i hc;subst hc;rw [hown] at hb';cases hb'
     ·exact hb'
    have hsum:(n+m)*ie.size+(newCap-(n+m))*ie.size=newCap*ie.size:=by
     rw [← Nat.add_mul];congr 1;omega
    have hcs:cs.size=newCap*ie.size:=by
     have:cs.size=olds.length+news.length+rest.size:=by simp [cs];omega
     rw [this,c4,hzl,o2,n2,← Nat.add_mul,hsum]
    have hcell:w'.heap[w.heap.size]?=some (.cells cs et):=by rw [c3];exact Array.getElem?_push_size
    have hcj:∀ j,w'.cell? ((⟨w.heap.size,0,none⟩:Addr).add j)=cs[j]?:=fun j=>by
     rw [qCd,Nat.zero_add];simp [World.cell?,hcell]
    refine ⟨_,w',G',by rw [hex,c2];rfl,hle,?_,.bm _ _ (rtSet_at _ _ _ _) (fun h=>by cases h)⟩
    refine ⟨hw.le.trans hle,fun a u hu=>?_,hw.immNew,fun b hb'=>?_,by rw [c3];simp;have:=hw.size;omega,c5.trans hw.os,c6.trans hw.tape,c7.trans hw.output,fun b j hb'=>?_,fun j hj=>?_,fun j ob hj=>?_⟩
    ·have hcc:=hw.imm a u hu
     rw [World.cell?_of_block (w:=w) (by rw [c3];exact qBa _ _ _ (World.block_lt_of_cell? _ _ hcc))]
     exact hcc
    ·rw [c3,qBa _ _ _ (Nat.lt_of_lt_of_le hb'.1 hw.size)];exact hw.keep b hb'
    ·have hb2:(if b=w.heap.size then some i else G.own b)=some j:=hb'
     split at hb2
     ·rename_i hc;subst hc;exact ⟨by rw [c3];simp,hK⟩
     ·have:=hw.own b j hb2;exact ⟨by rw [c3];simp;omega,this.2⟩
    ·simp only [List.length_set] at hj
     have:=hw.fresh j hj
     exact ⟨this.1,fun m=>by show (qJi G i _ _).rt j m=none;rw [rtSet_ne (by omega)];exact this.2 m⟩
    ·rw [List.getElem?_set] at hj
     by_cases hij:i=j
     ·subst hij
      simp only [if_true,hilt] at hj
      cases hj
      refine ⟨some ⟨w.heap.size,0,none⟩,newCap,rtSet_at _ _ _ _,fun n' hn'=>by show (qJi G i _ _).rt i n'=none;rw [rtSet_ne (by omega)];exact hlater n' (by omega),by rw [List.length_append,hb1,hfl,Nat.add_mul],c1,⟨fun h=>(by cases h),fun p' hp'=>(by cases hp';rfl)⟩,fun p' hp' _=>?_⟩
      cases hp'
      refine ⟨rfl,by show (if w.heap.size=w.heap.size then _ else _)=_;simp,fun k c hk=>?_,fun k hk=>⟨?_,?_,?_⟩⟩
      ·rw [hcj]
       by_cases hkl:k < cells.length
       ·rw [List.getElem?_append_left hkl] at hk
        obtain ⟨u,u1,u2,u3⟩:=o3 k c hk
        refine ⟨u,?_,u2,u3.mono hle⟩
        have hko:k < olds.length:=(List.getElem?_eq_some_iff.1 u1).1
        simp only [cs]
        rw [Array.getElem?_append_left (by simp;omega),Array.getElem?_append_left (by simpa using hko)]
        simpa using u1
       ·rw [List.getElem?_append_right (by omega)] at hk
        obtain ⟨u,u1,u2,u3⟩:=hnewc _ hle _ c hk
        refine ⟨u,?_,u2,u3⟩
        have hkn:=(List.getElem?_eq_some_iff.1 u1).1
        simp only [cs]
        rw [Array.getElem?_append_left (by simp;omega),Array.getElem?_append_right (by simp;omega)]
        simp only [List.size_toArray,List.getElem?_toArray]
        rw [o2,← hb1];exact u1
      ·rw [hcj];exact ⟨cs[k]'(by rw [hcs];exact hk),by simp [hcs,hk]⟩
      ·rw [qCd];simp [World.frozen?,c3]
      ·cases hg:G.imm ((⟨w.heap.size,0,none⟩:Addr).add k) with
       | none=>exact hg
       | some u=>have:=World.block_lt_of_cell? _ _ (hw.imm _ u hg);rw [qCa] at this;simp at this
     ·rw [if_neg hij] at hj
      refine (hw.obj j ob hj).keep hle (fun b hb'=>⟨by rw [c3];exact qBa _ _ _ (hw.own b j hb').1,fun a ha=>rfl⟩) (fun m hm=>by show (qJi G i _ _).rt j m=none;rw [rtSet_ne (fun hc=>hij hc.1.symm)];exact hm) (fun hn=>hn)
theorem bufApp_ok (hT:TOk P T) {t t2 sz by_ i n:Nat} {s x:Operand} {cells:List AV} {es2:List (List Dat)} (ho:o.op=.call { callee:=.builtin .append,args:=#[s,x],argTypes:=#[t,t2] })
  (ht:qPe T t=some (sz,by_)) (ht2:qPr T t2=true) (hs:ρ s=.bm i n) (hi:h[i]?=some (.buf sz n cells)) (hx:qGh sz (ρ x)=some es2)
  (hb:(n+es2.length)*(by_+1)≤140737488355328) :
  OpS P E o ρ h (.bm i (n+es2.length)) (h.set i (.buf sz (n+es2.length) (cells++qAu es2))):=by
 have hlen2:∀ G xv w,WRel E G h w→RepA G (ρ x) xv→∀ e,e∈es2→e.length=sz:=fun G xv w hw hr=>(asNew_src (P:=P) hw.imm hr hx).1
 intro G e w hw hr
 have hx':=hr x (by simp [ho,Op.operands,Call.operands])
 have hl:=hlen2 G _ w hw hx'
 refine bufAppG_ok (m:=es2.length) (cs2:=qAu es2) hT ho ht ht2 hs hi (flatAV_length hl) (fun G xv w hw hx=>?_) hb G e w hw hr
 obtain ⟨_,news,n1,n2,n3,n4⟩:=asNew_src (P:=P) hw.imm hx ‹qGh sz (ρ x)=some es2›
 refine ⟨news,n1,n2,n3,fun j c hj=>?_⟩
 simp only [qAu,List.getElem?_map,Option.map_eq_some_iff] at hj
 obtain ⟨d,hd,rfl⟩:=hj
 obtain ⟨i',j',el,e1,e2,rfl⟩:=qDi hl hd
 obtain ⟨u,hu,hru⟩:=n4 i' el j' d e1 e2
 exact ⟨u,hu,.d hru⟩
end
theorem qKy {E:Env} {N:Nat} {l:List (Nat×AV)} {h:List AObj} {t i n sz:Nat} {cells:List AV} {es:List (List Dat)} (ht:look l t=.bm i n) (hi:h[i]?=some (.buf sz n cells)) (hn:es.length=n) (hd:RowDat cells 0 sz es) :
  ∀ a w,Rel E N (look l) h a w→Rel E N (look ((t,.sl sz es (.right i))::l)) (h.set i (.right sz n)) a w:=by
 intro a w ⟨h1,h2,G,hw,hr⟩
 have hx:=hr t
 rw [ht] at hx
 obtain ⟨p,cap,hv,hl⟩:=hx.bm_inv
 obtain ⟨p',cap',hl',hlater,hb1,hb2,hb3,hb4⟩:=hw.obj i _ hi
 rw [hl] at hl';cases hl'
 have hilt:i < h.length:=(List.getElem?_eq_some_iff.1 hi).1
 cases p with
 | none =>
  have hc0:=hb3.1 rfl
  have hn0:n=0:=by omega
  have hes:es=[]:=List.length_eq_zero_iff.1 (by omega)
  subst hn0;subst hes;subst hc0
  refine ⟨h1,h2,G,⟨hw.le,hw.imm,hw.immNew,hw.keep,hw.size,hw.os,hw.tape,hw.output,hw.own,fun j hj=>hw.fresh j (by simpa using hj),fun j o hj=>?_⟩,fun s=>?_⟩
  ·rw [List.getElem?_set] at hj
   by_cases hij:i=j
   ·subst hij
    simp only [if_true,hilt] at hj
    cases hj
    exact ⟨none,0,hl,Nat.le_refl _,hlater,fun hlt=>by omega⟩
   ·rw [if_neg hij] at hj;exact hw.obj j o hj
  ·show RepA _ (bif Nat.beq s t then _ else look l s) _
   cases hb:Nat.beq s t with
   | false=>exact hr s
   | true =>
    obtain rfl:=Nat.eq_of_beq_eq_true hb
    rw [hv]
    exact .sl (.nil sz) ⟨none,0,rfl,hl⟩
 | some p =>
  have hsp:=hb3.2 p rfl
  by_cases hcap0:0 < cap
  ·obtain ⟨q1,q2,q3,q4⟩:=hb4 p rfl hcap0
   have hns:n*sz≤cap*sz:=Nat.mul_le_mul_right _ hb2
   let inn:Addr→Prop:=fun a=>a.block=p.block∧a.spot=none∧p.off≤a.off∧a.off < p.off+n*sz
   let G':Gh:={ G with imm:=fun a=>if a.block=p.block∧a.spot=none∧p.off≤a.off∧a.off < p.off+n*sz then w.cell? a else G.imm a }
   have hle:G.le G':=by
    refine ⟨fun x u hu=>?_,fun _ _ h=>h,fun _ _ _ h=>h,fun _ _ h=>h⟩
    have hne:¬ (x.block=p.block∧x.spot=none∧p.off≤x.off∧x.off < p.off+n*sz):=fun hh=>by
     have:=(q4 (x.off-p.off) (by omega)).2.2
     rw [qBu p q1,← hh.1,show p.off+(x.off-p.off)=x.off by omega,← hh.2.1] at this
     rw [show (⟨x.block,x.off,x.spot⟩:Addr)=x from rfl,hu] at this
     cases this
    show (if _ then _ else _)=_
    rw [if_neg hne];exact hu
   have hKb:=(hw.own _ i q2).2
   have hat:∀ k,k < n*sz→G'.imm (p.add k)=w.cell? (p.add k):=fun k hk=>by
    show (if _ then _ else _)=_
    rw [if_pos (by rw [qBu p q1];exact ⟨rfl,rfl,by simp,by simp;omega⟩)]
   refine ⟨h1,h2,G',⟨hw.le.trans hle,fun x u hu=>?_,fun x u hu=>?_,hw.keep,hw.size,hw.os,hw.tape,hw.output,hw.own,fun j hj=>hw.fresh j (by simpa using hj),fun j o hj=>?_⟩,fun s=>?_⟩
   ·simp only [G'] at hu
    split at hu
    ·exact hu
    ·exact hw.imm x u hu
   ·simp only [G'] at hu
    split at hu
    ·rename_i hh;right;rw [hh.1];exact hKb
    ·exact hw.immNew x u hu
   ·rw [List.getElem?_set] at hj
    by_cases hij:i=j
    ·subst hij
     simp only [if_true,hilt] at hj
     cases hj
     refine ⟨some p,cap,hl,hb2,hlater,fun hlt=>⟨p,rfl,q1,q2,fun k hk1 hk2=>?_⟩⟩
     obtain ⟨c1,c2,c3⟩:=q4 k hk2
     refine ⟨c1,c2,?_⟩
     show (if _ then _ else _)=_
     rw [if_neg (by rw [qBu p q1];simp;omega)];exact c3
    ·rw [if_neg hij] at hj
     refine (hw.obj j o hj).keep hle (fun b hb=>⟨rfl,fun x hx=>?_⟩) (fun _ h=>h) (fun h=>h)
     have hne:b≠p.block:=fun hh=>by subst hh;rw [q2] at hb;cases hb;exact hij rfl
     show (if _ then _ else _)=_
     rw [if_neg (fun hh=>hne (hx.symm.trans hh.1))]
   ·show RepA _ (bif Nat.beq s t then _ else look l s) _
    cases hb:Nat.beq s t with
    | false=>exact (hr s).mono hle
    | true =>
     obtain rfl:=Nat.eq_of_beq_eq_true hb
     rw [hv]
     have hcell:∀ (i':Nat) (e:List Dat) (j:Nat) (d:Dat),es[i']?=some e→e[j]?=some d→G'.imm (p.add (i'*sz+j))=some ((w.cell? (p.add (i'*sz+j))).getD undef)∧RepD G'.imm d ((w.cell? (p.add (i'*sz+j))).getD undef):=by
      intro i' e j d he hj
      obtain ⟨c,g1,g2⟩:=hd.2 i' e j d he hj
      rw [Nat.zero_add] at g1
      have hlt:=(List.getElem?_eq_some_iff.1 g1).1
      obtain ⟨u,u1,u2,u3⟩:=q3 _ c g1
      rw [hat _ (by omega),u1]
      exact ⟨rfl,(toDat_ok u3 g2).mono hle.imm⟩
     refine .sl ?_ ⟨some p,cap,by rw [hn],by rw [hn];exact hl⟩
     rw [← hn]
     exact .sl sz es p cap (fun k=>(w.cell? (p.add k)).getD undef) (fun _=>q1) (by omega) hd.1 (fun i' e j d he hj=>(hcell i' e j d he hj).1) (fun i' e j d he hj=>(hcell i' e j d he hj).2)
  ·have hc0:cap=0:=by omega
   have hn0:n=0:=by omega
   have hes:es=[]:=List.length_eq_zero_iff.1 (by omega)
   subst hn0;subst hes;subst hc0
   refine ⟨h1,h2,G,⟨hw.le,hw.imm,hw.immNew,hw.keep,hw.size,hw.os,hw.tape,hw.output,hw.own,fun j hj=>hw.fresh j (by simpa using hj),fun j o hj=>?_⟩,fun s=>?_⟩
   ·rw [List.getElem?_set] at hj
    by_cases hij:i=j
    ·subst hij
     simp only [if_true,hilt] at hj
     cases hj
     exact ⟨some p,0,hl,Nat.le_refl _,hlater,fun hlt=>by omega⟩
    ·rw [if_neg hij] at hj;exact hw.obj j o hj
   ·show RepA _ (bif Nat.beq s t then _ else look l s) _
    cases hb:Nat.beq s t with
    | false=>exact hr s
    | true =>
     obtain rfl:=Nat.eq_of_beq_eq_true hb
     rw [hv]
     exact .sl (RepD.sl sz [] p 0 (fun _=>undef) (fun _=>hsp) (Nat.le_refl _) (fun e he=>by cases he) (fun i e j d he=>by simp at he) (fun i e j d he=>by simp at he)) ⟨some p,0,rfl,hl⟩
theorem qCb {P:Program} {E:Env} {N:Nat} {Q:Exit→(Nat→AV)→List AObj→Prop} {c:Code} {l:List (Nat×AV)} {h h':List AObj} (t i sz:Nat) {n:Nat} {cells:List AV} (es:List (List Dat)) (ht:look l t=.bm i n) (hi:h[i]?=some (.buf sz n cells)) (hn:es.length=n)
  (hd:RowDat cells 0 sz es) (hh:qEh (h.set i (.right sz n)) some=some h') (hc:AW P E N c Q (look ((t,.sl sz es (.right i))::l)) h'):AW P E N c Q (look l) h:=by
 rw [forceS_eq] at hh;cases hh
 exact qHk (qKy ht hi hn hd) hc
def qXk (T:Tr) (t:Nat):Option (Nat×Nat×Bool):=match T.find t with
 | some i=>match i.kind with
  | .array n e=>match T.find e with
   | some ie=>some (n,ie.size,ie.agg)
   | none=>none
  | _=>none
 | none=>none
theorem arrT_ok {P:Program} {T:Tr} (hT:TOk P T) {t n sz:Nat} {g:Bool} (h:qXk T t=some (n,sz,g)):∃ e ie,P.underlying t=some (.array n e)∧TypeAt P e ie∧ie.size=sz∧ie.agg=g:=by
 unfold qXk at h
 split at h
 ·rename_i i hi
  split at h
  ·rename_i n' e hk
   split at h
   ·rename_i ie hie
    cases h
    obtain ⟨d,hd,hkd⟩:=(hT.at hi).und
    rw [hk] at hkd
    cases d <;> simp [qCl] at hkd
    obtain ⟨rfl,rfl⟩:=hkd
    exact ⟨_,ie,hd,hT.at hie,rfl,rfl⟩
   ·cases h
  ·cases h
 ·cases h
section
variable {P:Program} {E:Env} {T:Tr} {o:Oper} {ρ:Operand→AV} {h h':List AObj} {v:AV}
theorem arrAddr_ok (hT:TOk P T) {t n sz:Nat} {g:Bool} {x ix:Operand} {k:IntKind} {j:Int} {cs:List Dat} (ho:o.op=.indexAddr t x ix) (ht:qXk T t=some (n,sz,g)) (hx:ρ x=.iptr cs) (hix:ρ ix=.d (.int k j)) (h0:0≤j∧j < (n:Int)) :
  OpP P o ρ (.iptr (cs.drop (j.toNat*sz))):=by
 intro G e w hi hr
 have hx':RepA G (ρ x) (e x):=hr x (by simp [ho,Op.operands])
 have hix':RepA G (ρ ix) (e ix):=hr ix (by simp [ho,Op.operands])
 rw [hx] at hx';rw [hix] at hix'
 obtain ⟨et,ie,h1,h2,h3,h4⟩:=arrT_ok hT ht
 obtain ⟨a,hv,hd⟩:=qMf hx' (j.toNat*sz)
 refine ⟨_,?_,hd⟩
 unfold execOp
 simp only [ho,Sem.run_bind]
 rw [hv,hix'.int_inv]
 simp [Instr.indexAt,asIntOf,run_underlying h1,Instr.sureAddr,h0.1,h0.2,h2.run_size,h3]
theorem qAn (hT:TOk P T) {t t2 sz by_ i:Nat} {s x:Operand} {es es2:List (List Dat)} (ho:o.op=.call { callee:=.builtin .append,args:=#[s,x],argTypes:=#[t,t2] })
  (ht:qPe T t=some (sz,by_)) (ht2:qPr T t2=true) (hs:ρ s=.sl sz es (.right i)) (hi:h[i]?=some (.right sz es.length)) (hx:qGh sz (ρ x)=some es2)
  (hb:(es.length+es2.length)*(by_+1)≤140737488355328) :
  OpS P E o ρ h (.sl sz (es++es2) (.right i)) (h.set i (.right sz (es++es2).length)):=by
 rw [List.length_append]
 exact qHh hT ho ht ht2 hs hi hx hb
theorem qDa (hT:TOk P T) {t i n off sz:Nat} {ti:TI} {x y:Operand} {cells:List AV} {vy:AV} (ho:o.op=.store t x y) (hx:ρ x=.bp i n off) (hyv:ρ y=vy) (hi:h[i]?=some (.buf sz n cells)) (hf:T.find t=some ti) (hsz:Nat.beq ti.size 1=true)
  (hs:qDx vy=true) (hlt:off < cells.length) (hh:h.set i (.buf sz n (cells.set off vy))=h'):OpS P E o ρ h .any h':=by
 subst hyv;subst hh
 exact bufStore_ok hT ho hx hi hf hsz hs hlt
theorem arrIdx_ok (hT:TOk P T) {t n:Nat} {x ix:Operand} {k:IntKind} {j:Int} {cs:List AV} (ho:o.op=.index t x ix) (ht:qXk T t=some (n,1,false)) (hx:ρ x=.agg cs) (hix:ρ ix=.d (.int k j)) (h0:0≤j∧j < (n:Int))
  (hv:cs[j.toNat]?=some v):OpP P o ρ v:=by
 intro G e w hi hr
 have hx':RepA G (ρ x) (e x):=hr x (by simp [ho,Op.operands])
 have hix':RepA G (ρ ix) (e ix):=hr ix (by simp [ho,Op.operands])
 rw [hx] at hx';rw [hix] at hix'
 obtain ⟨et,ie,h1,h2,h3,h4⟩:=arrT_ok hT ht
 generalize hu:e x=u at hx'
 cases hx' with
 | agg us h5 h6 h7 =>
 have hlt:j.toNat < us.size:=by rw [h5];exact (List.getElem?_eq_some_iff.1 hv).1
 have hg:us[j.toNat]?=some us[j.toNat]:=by simp [hlt]
 refine ⟨us[j.toNat],?_,h6 _ v _ hv hg⟩
 unfold execOp
 simp only [ho,Sem.run_bind]
 rw [hu,hix'.int_inv]
 simp [Instr.index,asIntOf,run_underlying h1,h0.1,h0.2,h2.run_size,h3,Go.part,h2.run_agg,h4,hg]
end
theorem Spec.args {P:Program} {f:FuncId} {args args':List AV} {h:List AObj} {Q:AV→List AObj→Prop} (hl:AllLe args args') (S:Spec P f args' h Q):Spec P f args h Q:=by
 obtain ⟨h1,h2⟩:=qEv hl
 refine ⟨S.1,fun G w vals hs hv ht hw=>S.2 G w vals (hs.trans h1) (fun j y v hy hj=>?_) ht hw⟩
 obtain ⟨x,hx,hle⟩:=h2 j y hy
 exact hle _ _ (hv j x v hx hj)
theorem qKt {P:Program} {E:Env} {o:Oper} {ρ:Operand→AV} {H:List AObj} {f:Operand} {as:List Operand} {ats:Array TypeId} {g:FuncId} {first cap:List AV} (ho:o.op=.call ⟨.value f,as.toArray,ats⟩) (hf:ρ f=.fn (.func g) first cap)
  {args args':List AV} {r0:AV} (S:Spec P g args' [] (fun r h'=>r=r0∧h'=[])) (hargs:first++(as.map ρ++cap)=args) (hle:AllLe args args') (hla:qCk 0 args=true) (hr0:low 0 r0=true):OpS P E o ρ H r0 H :=
 qFt ho hf (Spec.args hle S) hargs hla hr0
theorem qKs {w:World} {a:Addr} {v:Value} (h:w.cell? a=some v):a.block < w.heap.size:=by
 by_cases hb:a.block < w.heap.size
 ·exact hb
 ·exfalso
  unfold World.cell? at h
  rw [Array.getElem?_eq_none (by omega)] at h
  simp at h
theorem qTe {E:Env} {G:Gh} {h:List AObj} {w w':World} (hw:WRel E G h w) (hb:∀ b,b < w.heap.size→w'.heap[b]?=w.heap[b]?) (hs:w.heap.size≤w'.heap.size) (ho:w'.os=w.os) (ht:w'.tape=w.tape) (hu:w'.output=w.output):WRel E G h w':=by
 refine ⟨hw.le,fun a v ha=>?_,hw.immNew,fun b hk=>?_,Nat.le_trans hw.size hs,ho.trans hw.os,ht.trans hw.tape,hu.trans hw.output,fun b i hb'=>⟨Nat.lt_of_lt_of_le (hw.own b i hb').1 hs,(hw.own b i hb').2⟩,hw.fresh,fun i o hi=>?_⟩
 ·have h1:=hw.imm a v ha
  rw [World.cell?_of_block (w:=w) (hb _ (qKs h1))];exact h1
 ·rw [hb b (Nat.lt_of_lt_of_le hk.1 hw.size)];exact hw.keep b hk
 ·exact (hw.obj i o hi).keep (.refl G) (fun b hb'=>⟨hb b (hw.own b i hb').1,fun a _=>rfl⟩) (fun n hn=>hn) (fun hn=>hn)
section
variable {P:Program} {T:Tr} {E:Env} {o:Oper} {ρ:Operand→AV} {h:List AObj}
end
theorem OpR.mono {P:Program} {E:Env} {o:Oper} {ρ:Operand→AV} {h:List AObj} {R R':AV→List AObj→Prop} (hs:OpR P E o ρ h R) (hr:∀ v k,R v k→R' v k):OpR P E o ρ h R':=by
 intro G a w hw hρ
 refine qDq ?_ (hs G a w hw hρ)
 rintro a' w' ⟨u,G',v',h',k,r⟩
 exact ⟨u,G',v',h',hr _ _ k,r⟩
theorem qVa {P:Program} {E:Env} {o:Oper} {ρ:Operand→AV} {H:List AObj} {f:Operand} {as:List Operand} {ats:Array TypeId} {g:FuncId} {first cap:List AV} (ho:o.op=.call ⟨.value f,as.toArray,ats⟩) (hf:ρ f=.fn (.func g) first cap)
  {args:List AV} {hc:List AObj} {ι:Type} {p:ι→Prop} {rf:ι→AV} {hf':ι→List AObj} (S:Spec P g args hc (fun r h'=>∃ x,p x∧r=rf x∧h'=hf' x)) (fs:List Nat) (hnd:fs.Nodup)
  (hobj:fs.map (fun j=>H[j]?)=hc.map some) (hargs:first++(as.map ρ++cap)=qHl (fsf fs) args) (hla:qCk fs.length args=true) (hlow:qDl 0 hc=true) (hlow':∀ x,qDl 0 (hf' x)=true) (hr0:∀ x,ren (fsf fs) (rf x)=rf x)
  {H':ι→List AObj} (hH:∀ x,qFc H fs (hf' x)=H' x):OpR P E o ρ H (fun v k=>∃ x,p x∧v=rf x∧k=H' x):=by
 refine OpR.mono (qWw ho hf S fs hnd (by rw [hobj];have:=renH_low (fsf fs) hc hlow;rw [show hc.map (fun o=>some (qGz (fsf fs) o))=(hc.map (qGz (fsf fs))).map some by simp,this]) (lowH_mono (Nat.zero_le _) hc hlow) hargs hla) ?_
 rintro v k ⟨r,h',⟨x,hp,rfl,rfl⟩,hl,rfl,rfl⟩
 exact ⟨x,hp,hr0 x,by rw [renH_low (fsf fs) _ (hlow' x)];exact hH x⟩
theorem qBn {P:Program} {E:Env} {o:Oper} {ρ:Operand→AV} {H:List AObj} {f:Operand} {as:List Operand} {ats:Array TypeId} {g:FuncId} {first cap:List AV} (ho:o.op=.call ⟨.value f,as.toArray,ats⟩) (hf:ρ f=.fn (.func g) first cap)
  {args:List AV} {hc h0:List AObj} {r0:AV} (S:Spec P g args hc (fun r h'=>r=r0∧h'=h0)) (fs:List Nat) (hnd:fs.Nodup)
  (hobj:fs.map (fun j=>H[j]?)=hc.map some) (hargs:first++(as.map ρ++cap)=qHl (fsf fs) args) (hla:qCk fs.length args=true) (hlow:qDl 0 hc=true) (hlow':qDl 0 h0=true) {v:AV} (hr0:ren (fsf fs) r0=v)
  {H':List AObj} (hH:qFc H fs h0=H'):OpS P E o ρ H v H' :=
 qWv ho hf S fs hnd (by rw [hobj];have:=renH_low (fsf fs) hc hlow;rw [show hc.map (fun o=>some (qGz (fsf fs) o))=(hc.map (qGz (fsf fs))).map some by simp,this]) (lowH_mono (Nat.zero_le _) hc hlow) hargs hla hr0
  (by rw [renH_low (fsf fs) h0 hlow'];exact hH)
theorem qJa {P:Program} {E:Env} {N:Nat} {ops:List Oper} {Q:(Nat→AV)→List AObj→Prop} {d:Nat} {op:Op} {ty:TypeId} {pos:String} {after:Array Edge} {rest:List Oper}
  {l:List (Nat×AV)} {h:List AObj} {ι:Type} {p:ι→Prop} {v:ι→AV} {h':ι→List AObj} (hs:OpR P E ⟨some d,op,ty,pos,after,none⟩ (ev (look l)) h (fun u k=>∃ x,p x∧u=v x∧k=h' x)) (hd:Nat.blt d N=true)
  (hk:∀ x,p x→AWk P E N ops Q rest (look ((d,v x)::l)) (h' x)):AWk P E N ops Q (⟨some d,op,ty,pos,after,none⟩::rest) (look l) h :=
 qCv hs hd fun u k ⟨x,hp,hu,hk'⟩=>by subst hu;subst hk';exact hk x hp
theorem qCy {T:Tr} {rs:List ResultVar} {k:Nat} {Q:AV→List AObj→Prop} {τ:Nat→AV} {h h':List AObj} {v r:AV} (h7:Q r h') (h1:qRj T τ h rs=some v) (h2:AV.le v r) (h3:h'=h.take k) (h4:h'.length=k) (h5:low k r=true) (h6:qDl k h'=true) :
  qVp T rs k Q .ret τ h:=⟨v,r,h',h1,h2,h3,h4,h5,h6,h7⟩
theorem AllLe.of_eq {l r:List AV} (h:l=r):AllLe l r:=h▸AllLe.refl l
theorem ObLe.row {l r:List AV} (h:l=r):ObLe (.row l) (.row r):=AllLe.of_eq h
theorem AV.le.int {k:IntKind} {a b:Int} (h:a=b):AV.le (.d (.int k a)) (.d (.int k b)):=.eq (congrArg (fun z=>AV.d (.int k z)) h)
theorem AV.le.bool {a b:Bool} (h:a=b):AV.le (.d (.bool a)) (.d (.bool b)):=.eq (congrArg (fun z=>AV.d (.bool z)) h)
theorem AV.le.sl {sz:Nat} {a b:List (List Dat)} (h:a=b):AV.le (.d (.sl sz a)) (.d (.sl sz b)):=.eq (congrArg (fun z=>AV.d (.sl sz z)) h)
theorem AV.le.slt {sz:Nat} {a b:List (List Dat)} {t:Tok} (h:a=b):AV.le (.sl sz a t) (.sl sz b t):=.eq (congrArg (fun z=>AV.sl sz z t) h)
theorem AV.le.dat' {sz:Nat} {a b:List (List Dat)} {t:Tok} (h:a=b):AV.le (.sl sz a t) (.d (.sl sz b)):=.trans .dat (.sl h)
end Tdoc
namespace Tdoc
open Go Go.ChangeShapes Go.WideShapes Go.ChangeAt Go.RowKit
def GW (W:World):Gh:=⟨fun a=>W.cell? a,fun _=>none,fun _ _=>none,fun _=>none⟩
theorem qQp (W:World) (ht:TabOk W (GW W)):WRel ⟨W,GW W,ht,[]⟩ (GW W) [] W where
 le:=.refl _
 imm:=fun _ _ h=>h
 immNew:=fun _ _ h=>.inl h
 keep:=fun _ _=>rfl
 size:=Nat.le_refl _
 os:=rfl
 tape:=rfl
 output:=rfl
 own:=fun b i h=>by cases h
 fresh:=fun i _=>⟨rfl,fun _=>rfl⟩
 obj:=fun i o h=>by simp at h
theorem qSd {P:Program} {f:FuncId} {avs:List AV} {W:World} {vals:Array Value} (ht:TabOk W (GW W)) (hs:Spec P f avs [] (fun r h'=>r=.d (.bool true)∧h'=[])) (hlen:vals.size=avs.length)
  (hrep:∀ (j:Nat) (x:AV) (v:Value),avs[j]?=some x→vals[j]?=some v→RepA (GW W) x v) :
  Calls P f vals W (fun e W'=>e=.returned (.bool true)∧Below W.heap.size W W') :=
 (hs.2 (GW W) W vals hlen hrep ht (qQp W ht)).mono fun e W' ⟨v,r,h',G',he,⟨hr,hh⟩,_,_,_,hrp,hw⟩=>by
  subst hr
  rw [hrp.bool_inv] at he
  exact ⟨he,hw.os,hw.tape,hw.output,hw.size,fun k hk=>hw.keep k ⟨hk,rfl⟩⟩
section
variable {H:Type} {enc:TypeId×Value→H} {P:Program}
theorem trodAll_below (hl:laidOutB P=true) {W W':World} (hb:Below W.heap.size W W') {sp:Nat→Bool} :
  ∀ {ts:List TypeId} {vs:List Value} {ds:List (DataW H)} {ps:List MemPlace},ts.all (fun t=>P.readableRec t&&decide (t < P.types.size))=true →
   DataW.TrodAll enc P W 0 (fun _=>true) true ts vs ds ps→(∀ p∈ps,p.block < W.heap.size)→(∀ p∈ps,sp p.block=true)→DataW.TrodAll enc P W' 0 sp true ts vs ds ps
 | [],_,_,_,_,h,_,_=>by
  obtain ⟨rfl,rfl,rfl⟩:=trodAll_nil h
  exact trodAll_mk0
 | t::ts,_,_,_,hr,h,hlt,hsp=>by
  obtain ⟨v,vs1,d,ds1,a,b,rfl,rfl,rfl,h1,h2⟩:=trodAll_cons h
  simp only [List.all_cons,Bool.and_eq_true,decide_eq_true_eq] at hr
  exact trodAll_cons_mk (WideElems.Trod_stays hl hr.1.1 hr.1.2 h1 (fun x hx=>hb.same (hlt x (by simp [hx]))) (fun x hx=>hsp x (by simp [hx])))
   (trodAll_below hl hb (by simpa using hr.2) h2 (fun x hx=>hlt x (by simp [hx])) (fun x hx=>hsp x (by simp [hx])))
theorem qUp {f:Func} {s:ChangeSpec} {again:Bool} {W W':World} {args:Array Value} {ds gs:List (DataW H)} {before:List MemPlace} {tb:TypeId} (hl:laidOutB P=true)
  (hr:f.params.toList.all (fun t=>P.readableRec t&&decide (t < P.types.size))=true) (hres:f.resultTypes = #[tb]) (htb:P.underlying tb=some .bool) (hvars:s.vars=[])
  (hW:DataW.Whole enc P f.params.toList s.vars false W args.toList ds gs before) (hfn:s.fn H (ds++gs)={ results:=[.lit (.bool true)],args:=ds }) (hb:Below W.heap.size W W') :
  s.post enc P f false true false again W args (.bool true) W':=by
 have hW0:=hW
 have hlt:=hW.lt
 obtain ⟨p,q,hA,hV,rfl,hfz,hnd⟩:=hW
 rw [hvars] at hV
 obtain ⟨rfl,rfl⟩:=trodVars_none hV
 have hargs:∀ sp:Nat→Bool,(∀ x∈p++[],sp x.block=true)→DataW.TrodAll enc P W' 0 sp true f.params.toList args.toList (s.fn H (ds++[])).args p:=by
  intro sp hsp
  rw [hfn]
  exact trodAll_below hl hb hr hA (fun x hx=>hlt x (by simp [hx])) (fun x hx=>hsp x (by simp [hx]))
 have hv:∀ sp:Nat→Bool,DataW.TrodVars enc P W' sp s.vars (s.fn H (ds++[])).vars []:=by
  intro sp;rw [hfn,hvars];rfl
 have hrs:∀ (b:Nat) (sp:Nat→Bool) (hd:Bool),DataW.TrodAll enc P W' b sp hd f.resultTypes.toList ((Value.bool true).resultList f.resultTypes.size) (s.fn H (ds++[])).results []:=by
  intro b sp hd
  rw [hfn,hres]
  exact trodAll_cons_mk (shut_bool htb _) trodAll_mk0
 refine ⟨ds,[],p++[],[],p,[],hW0,hrs _ _ _,hargs _ (fun x hx=>by simpa using hlt x hx),hv _,World.keptBut_mono (fun p hp=>⟨hp,?_⟩) (hb.frame (· ∈ p++[])),fun _=>?_⟩
 ·exact Or.inr (Or.inl (by simpa using hp))
 ·refine ⟨ok_one hres rfl (okWide_bool_mk htb _),_,_,([]++p)++[],⟨[]++p,[],trodAll_append (hargs _ (fun _ _=>rfl)) (hrs _ _ _),hv _,rfl,?_,fun h=>by cases h⟩,?_⟩
  ·intro b off hp
   rw [hb.frozen (p:=⟨b,off,none⟩) (hlt (.cell b off) (by simpa using hp))]
   exact hfz b off (by simpa using hp)
  ·intro x hx _
   simpa using hx
def qLx (k:IntKind) (zs:List Int):List (List Dat):=zs.map fun n=>[.int k n]
theorem qTg {W:World} {k:IntKind} {a:Addr} {len cap:Nat} {zs:List Int} (hs:0 < cap→a.spot=none) (hlc:len≤cap) (hl:len≤zs.length) (hcell:∀ i,i < zs.length→W.cell? (a.add i)=some (.int k (zs.getD i 0))) :
  RepD (GW W).imm (.sl 1 (qLx k (zs.take len))) (.slice (some a) len cap):=by
 have hz:(qLx k (zs.take len)).length=len:=by simp [qLx];omega
 have h:=RepD.sl (m:=(GW W).imm) 1 (qLx k (zs.take len)) a cap (fun j=>.int k (zs.getD j 0)) hs (by omega) (fun e he=>?_) (fun i e j d he hd=>?_) (fun i e j d he hd=>?_)
 ·rw [hz] at h;exact h
 ·simp only [qLx,List.mem_map] at he
  obtain ⟨n,_,rfl⟩:=he;rfl
 ·have hi:i < len:=by rw [← hz];exact (List.getElem?_eq_some_iff.1 he).1
  simp only [qLx,List.getElem?_map,Option.map_eq_some_iff] at he
  obtain ⟨n,hn,rfl⟩:=he
  cases j with
  | zero=>simpa [GW] using hcell i (by omega)
  | succ j=>simp at hd
 ·have hi:i < len:=by rw [← hz];exact (List.getElem?_eq_some_iff.1 he).1
  simp only [qLx,List.getElem?_map,Option.map_eq_some_iff] at he
  obtain ⟨n,hn,rfl⟩:=he
  cases j with
  | zero =>
   simp only [List.getElem?_cons_zero,Option.some.injEq] at hd
   subst hd
   rw [List.getElem?_take] at hn
   simp only [hi,if_true] at hn
   have:zs.getD (i*1+0) 0=n:=by simp [List.getD,hn]
   simp only [this]
   exact .int k n
  | succ j=>simp at hd
theorem qRz {r:Reach} {b0:Nat} {W:World} {t e:TypeId} {k:IntKind} {v:Value} {d:DataW H} {ps:List MemPlace} (ht:P.underlying t=some (.slice e)) (he:P.underlying e=some (.int k))
  (hc:P.cellsOf e=1) (hval:Value.okWide P W r b0 t v)
  (hd:DataW.Trod enc P W 0 (fun _=>true) true t v d ps):∃ zs:List Int,(∀ n,n∈zs→(Lit.int k n).wf=true)∧zs.length≤maxLen∧RepA (GW W) (.d (.sl 1 (qLx k zs))) v:=by
 obtain ⟨a0,len0,cap0,rfl⟩:=okWide_slice ht hval
 obtain ⟨fuel,hf⟩:=hd
 rcases open_ints ht he hc hf with ⟨h1,h2⟩ | ⟨a,len,cap,zs,h1,h2,h3,h4,h5,h6,h7,h8⟩
 ·simp [Value.cells] at h1
  obtain ⟨rfl,rfl,rfl⟩:=h1
  exact ⟨[],by simp,by simp,.d (.nil 1)⟩
 ·simp [Value.cells] at h1
  obtain ⟨rfl,rfl,rfl⟩:=h1
  simp only [if_true] at h5
  have hsp:a.spot=none:=by
   simp only [Value.okWide,ht,Cell.okWide,Cell.ok] at hval
   exact hval.2.2.2.1
  exact ⟨zs.take len0,fun n hn=>h8 n (List.mem_of_mem_take hn),by simp;omega,.d (qTg (fun _=>hsp) h3 (by omega) h7)⟩
end
end Tdoc
namespace Tdoc
open Go
theorem wrapu8 {n:Int} (h:0≤n∧n≤255):IntKind.u8.wrap n=n:=by
 simp only [IntKind.wrap,IntKind.signed,IntKind.bits]
 simp
 omega
theorem qEe (n:Int):IntKind.u8.wrap n=n % 256:=by
 simp only [IntKind.wrap,IntKind.signed,IntKind.bits]
 simp
theorem ofInt_nat (n:Nat):BitVec.ofInt 64 (n:Int)=BitVec.ofNat 64 n:=by
 apply BitVec.eq_of_toNat_eq
 simp [BitVec.toNat_ofInt]
theorem qWx {a b:Nat} (ha:a < 9223372036854775808) (hb:b < 9223372036854775808) :
  IntKind.i64.wrap ((BitVec.ofInt IntKind.i64.bits (a:Int) &&& BitVec.ofInt IntKind.i64.bits (b:Int)).toNat:Int)=((a &&& b:Nat):Int):=by
 have h:(BitVec.ofInt IntKind.i64.bits (a:Int) &&& BitVec.ofInt IntKind.i64.bits (b:Int)).toNat=a &&& b:=by
  show (BitVec.ofInt 64 (a:Int) &&& BitVec.ofInt 64 (b:Int)).toNat=a &&& b
  rw [ofInt_nat,ofInt_nat,BitVec.toNat_and,BitVec.toNat_ofNat,BitVec.toNat_ofNat,Nat.mod_eq_of_lt (by omega),Nat.mod_eq_of_lt (by omega)]
 rw [h]
 have:=Nat.and_le_left (n:=a) (m:=b)
 exact qAj (by omega)
theorem qXq {a b:Nat} (ha:a < 9223372036854775808) (hb:b < 9223372036854775808) :
  IntKind.i64.wrap ((BitVec.ofInt IntKind.i64.bits (a:Int) ||| BitVec.ofInt IntKind.i64.bits (b:Int)).toNat:Int)=((a ||| b:Nat):Int):=by
 have h:(BitVec.ofInt IntKind.i64.bits (a:Int) ||| BitVec.ofInt IntKind.i64.bits (b:Int)).toNat=a ||| b:=by
  show (BitVec.ofInt 64 (a:Int) ||| BitVec.ofInt 64 (b:Int)).toNat=a ||| b
  rw [ofInt_nat,ofInt_nat,BitVec.toNat_or,BitVec.toNat_ofNat,BitVec.toNat_ofNat,Nat.mod_eq_of_lt (by omega),Nat.mod_eq_of_lt (by omega)]
 rw [h]
 have:a ||| b < 2 ^ 63:=Nat.or_lt_two_pow (by omega) (by omega)
 exact qAj (by omega)
theorem qXp (a b k:Nat) (h:b < 2 ^ k):a*2 ^ k ||| b=a*2 ^ k+b:=by
 rw [Nat.mul_comm,← Nat.two_pow_add_eq_or_of_lt h]
theorem qIe (a k:Nat):Int.fdiv (a:Int) ((2:Int) ^ k)=((a / 2 ^ k:Nat):Int):=by
 rw [Int.fdiv_eq_ediv_of_nonneg _ (by exact Int.le_of_lt (Int.pow_pos (by omega)))]
 simp
section
variable {P:Program} {E:Env} {T:Tr} {o:Oper} {ρ:Operand→AV} {h h':List AObj} {v:AV}
theorem arrPtr_ok (hT:TOk P T) {t n sz i off:Nat} {g:Bool} {x ix:Operand} {k:IntKind} {j:Int} (ho:o.op=.indexAddr t x ix) (ht:qXk T t=some (n,sz,g)) (hx:ρ x=.ptr i off) (hix:ρ ix=.d (.int k j)) (h0:0≤j∧j < (n:Int)) :
  OpP P o ρ (.ptr i (off+j.toNat*sz)):=by
 intro G e w hi hr
 have hx':RepA G (ρ x) (e x):=hr x (by simp [ho,Op.operands])
 have hix':RepA G (ρ ix) (e ix):=hr ix (by simp [ho,Op.operands])
 rw [hx] at hx';rw [hix] at hix'
 obtain ⟨et,ie,h1,h2,h3,h4⟩:=arrT_ok hT ht
 obtain ⟨b,hv,hl⟩:=hx'.ptr_inv
 refine ⟨.pointer (some ⟨b,off+j.toNat*sz,none⟩),?_,.ptr _ hl⟩
 unfold execOp
 simp only [ho,Sem.run_bind]
 rw [hv,hix'.int_inv]
 simp [Instr.indexAt,asIntOf,run_underlying h1,Instr.sureAddr,h0.1,h0.2,h2.run_size,h3,qCd]
theorem qWd (hT:TOk P T) {t sz i off n cap:Nat} {x:Operand} {lo hi:Option Operand} {l r:Nat} (ho:o.op=.slice t x lo hi none) (hs:qBy T t sz=true) (hx:ρ x=.row i off n cap)
  (hlo:match lo with | none=>l=0 | some y=>∃ k,ρ y=.d (.int k (l:Int))) (hhi:match hi with | none=>r=n | some y=>∃ k,ρ y=.d (.int k (r:Int))) (hle:l≤r) (hc:r≤cap)
  (hv:AV.row i (if cap=l then off else off+l*sz) (r-l) (cap-l)=v):OpP P o ρ v:=hv▸rowCut_ok hT ho hs hx hlo hhi hle hc
theorem qHg (hT:TOk P T) {t t2 sz by_ i:Nat} {s x:Operand} {es2:List (List Dat)} (ho:o.op=.call { callee:=.builtin .append,args:=#[s,x],argTypes:=#[t,t2] })
  (ht:qPe T t=some (sz,by_)) (ht2:qPr T t2=true) (hs:ρ s=.sl sz [] .full∨ρ s=.nils) (hsx:s≠x) (hi:h[i]?=some .room) (hx:qGh sz (ρ x)=some es2) (hb:es2.length*(by_+1)≤140737488355328) :
  OpS P E o ρ h (.sl sz es2 (.right i)) (h.set i (.right sz es2.length)):=by
 have:=qBx (E:=E) (es:=[]) hT ho ht ht2 (hs.imp (fun h=>h) fun h=>⟨h,rfl⟩) hsx hi hx (by simpa using hb)
 simpa using this
end
section
variable {P:Program} {E:Env} {T:Tr} {o:Oper} {ρ:Operand→AV} {h h':List AObj} {v:AV}
end
section
variable {P:Program} {T:Tr} {E:Env} {o:Oper} {ρ:Operand→AV} {h h':List AObj}
theorem qTa (hT:TOk P T) {t i n off sz:Nat} {ti:TI} {x y:Operand} {cells cs:List AV} {vy:AV} (ho:o.op=.store t x y) (hx:ρ x=.bp i n off) (hyv:ρ y=vy) (hcs:qDm vy=some cs) (hi:h[i]?=some (.buf sz n cells)) (hf:T.find t=some ti)
  (hlen:Nat.beq cs.length ti.size=true) (hpos:0 < cs.length) (hlt:off+cs.length≤cells.length) (hh:h.set i (.buf sz n (qBz cells off cs))=h'):OpS P E o ρ h .any h':=by
 subst hyv;subst hh
 exact qEr fun G e w hw hr=>by
  have hx':RepA G (ρ x) (e x):=hr x (by simp [ho,Op.operands])
  have hy':RepA G (ρ y) (e y):=hr y (by simp [ho,Op.operands])
  rw [hx] at hx'
  obtain ⟨p,cap,hp,hl⟩:=hx'.bp_inv
  obtain ⟨a',cap',hl',hlater,hb1,hb2,hb3,hb4⟩:=hw.obj i _ hi
  rw [hl] at hl';cases hl'
  have hcap:0 < cap:=by
   rcases Nat.eq_zero_or_pos cap with h0 | h0
   ·have:n=0:=by omega
    subst this;rw [Nat.zero_mul] at hb1;omega
   ·exact h0
  obtain ⟨q1,q2,q3,q4⟩:=hb4 p rfl hcap
  have hcs':n*sz≤cap*sz:=Nat.mul_le_mul_right _ hb2
  obtain ⟨c1,c2⟩:=cellsA_ok hy' hcs
  have hti:=hT.at hf
  have hl2:=Nat.eq_of_beq_eq_true hlen
  have hspot:(p.add off).spot=none:=qDt p q1 _
  have hadd:∀ k,(p.add off).add (0+k)=p.add (off+k):=fun k=>by rw [Nat.zero_add,qCe p q1]
  have hnl:(e y).cells.toList.length=cs.length:=by simp [c1]
  obtain ⟨w',r1,r2,r3,r4,r5,r6,r7,r8,r9⟩:=qDj (P:=P) hspot (e y).cells.toList 0 w (fun k u hk=>by
    have hkl:k < cs.length:=by rw [← hnl];exact (List.getElem?_eq_some_iff.1 hk).1
    exact (c2 k _ u (List.getElem?_eq_getElem hkl) (by simpa using hk)).2) (fun k hk=>by
    obtain ⟨d1,d2,_⟩:=q4 (off+k) (by omega)
    rw [hadd]
    exact ⟨d1,d2⟩)
  have hne:∀ j,(∀ k,k < cs.length→j≠off+k)→w'.cell? (p.add j)=w.cell? (p.add j):=fun j hj=>r3 _ (fun k hk hh=>by
   rw [hadd,qBu p q1,qBu p q1] at hh
   injection hh with _ h5 _
   exact hj k (by omega) (by omega))
  refine ⟨w',G,?_,.refl G,hw.bufAt (bl:=p.block) hi (.refl G) (fun _=>rfl) (fun _=>rfl) (fun _=>rfl) (fun _ _ _=>rfl) q2 (fun a u hu=>?_) (fun k hk=>r5 k (by rw [qCa];exact hk)) r6 r7 r8 r9 ?_⟩
  ·unfold execOp
   have hsz':(e y).cells.size=ti.size:=by rw [c1,hl2]
   simp [ho,Instr.storeAt,hp,Instr.sureAddr,storeVar,hti.run_size,hsz',r1]
  ·rw [r3 a (fun k hk hh=>?_)]
   ·exact hw.imm a u hu
   ·rw [hadd] at hh
    have:=(q4 (off+k) (by omega)).2.2
    rw [← hh,hu] at this;cases this
  ·refine ⟨some p,cap,hl,hlater,by rw [setRun_length];exact hb1,hb2,hb3,fun p' hp' _=>?_⟩
   cases hp'
   refine ⟨q1,q2,fun j c hj=>?_,fun j hj=>?_⟩
   ·rw [setRun_at _ _ _ _ hlt] at hj
    by_cases hjo:off≤j∧j < off+cs.length
    ·rw [if_pos hjo] at hj
     have hkl:j-off < (e y).cells.toList.length:=by omega
     have hg:=List.getElem?_eq_getElem hkl
     have:=r2 (j-off) _ hg
     rw [hadd,show off+(j-off)=j by omega] at this
     have hc:=c2 (j-off) c _ hj (by rw [← Array.getElem?_toList];exact hg)
     exact ⟨_,this,hc.2,hc.1⟩
    ·rw [if_neg hjo] at hj
     obtain ⟨u,u1,u2,u3⟩:=q3 j c hj
     exact ⟨u,by rw [hne j (fun k hk=>by omega)];exact u1,u2,u3⟩
   ·obtain ⟨⟨u,d1⟩,d2,d3⟩:=q4 j hj
    refine ⟨?_,by rw [r4];exact d2,d3⟩
    by_cases hjo:off≤j∧j < off+cs.length
    ·have hkl:j-off < (e y).cells.toList.length:=by omega
     have:=r2 (j-off) _ (List.getElem?_eq_getElem hkl)
     rw [hadd,show off+(j-off)=j by omega] at this
     exact ⟨_,this⟩
    ·exact ⟨u,by rw [hne j (fun k hk=>by omega)];exact d1⟩
end
variable {P:Program} {E:Env} {T:Tr} {o:Oper} {ρ:Operand→AV} {h:List AObj}
theorem qKv (hT:TOk P T) {t i n off sz:Nat} {ti:TI} {x:Operand} {cells cs:List AV} (ho:o.op=.load t x) (hx:ρ x=.bp i n off) (hi:h[i]?=some (.buf sz n cells)) (hf:T.find t=some ti) (ha:ti.agg=true)
  (hpos:0 < ti.size) (hle:off+ti.size≤cells.length) (hcs:(cells.drop off).take ti.size=cs):OpS P E o ρ h (.agg cs) h:=by
 subst hcs
 exact qBd fun G e w hw hr=>by
  have hx':RepA G (ρ x) (e x):=hr x (by simp [ho,Op.operands])
  rw [hx] at hx'
  obtain ⟨p,cap,hp,hl⟩:=hx'.bp_inv
  obtain ⟨a',cap',hl',_,hb1,hb2,hb3,hb4⟩:=hw.obj i _ hi
  rw [hl] at hl';cases hl'
  have hcap:0 < cap:=by
   rcases Nat.eq_zero_or_pos cap with h0 | h0
   ·have:n=0:=by omega
    subst this;simp at hb1;rw [hb1] at hle;simp at hle;omega
   ·exact h0
  obtain ⟨q1,q2,q3,q4⟩:=hb4 p rfl hcap
  have hti:=hT.at hf
  have hcell:∀ j,j < ti.size→∃ u,w.cell? (p.add (off+j))=some u∧qFv u=true∧RepA G (cells[off+j]?.getD .any) u:=by
   intro j hj
   have hc:cells[off+j]?=some cells[off+j]:=by simp [show off+j < cells.length by omega]
   obtain ⟨u,h1,h2,h3⟩:=q3 _ _ hc
   exact ⟨u,h1,h2,by rw [hc];exact h3⟩
  let f:Nat→Value:=fun j=>(w.cell? (p.add (off+j))).getD undef
  have hld:(loadCells (p.add off) ti.size).run P w=.ok ((List.range ti.size).map f).toArray w:=by
   refine run_loadCells (P:=P) w _ _ f (fun j hj=>?_)
   obtain ⟨u,h1,_⟩:=hcell j hj
   rw [qCe p q1];simp [f,h1]
  refine ⟨.agg ((List.range ti.size).map f).toArray,w,G,?_,.refl G,hw,.agg _ (by simp;omega) (fun j c y hc hy=>?_) (fun j y hy=>?_)⟩
  ·unfold execOp
   simp [ho,Instr.loadAt,hp,Instr.sureAddr,loadVar,hti.run_agg,ha,hti.run_size,hld]
  ·simp only [List.getElem?_take,List.getElem?_drop] at hc
   split at hc
   ·rename_i hj
    obtain ⟨u,h1,h2,h3⟩:=hcell j hj
    simp [hj,f,h1] at hy
    subst hy
    rw [hc] at h3;exact h3
   ·cases hc
  ·by_cases hj:j < ti.size
   ·obtain ⟨u,h1,h2,h3⟩:=hcell j hj
    simp [hj,f,h1] at hy
    subst hy;exact h2
   ·simp [hj] at hy
end Tdoc
namespace Tdoc
open Go
def wI (x:BitVec 32):Int:=(x.toNat:Int)
theorem wrap32 (n:Int):IntKind.u32.wrap n=n % 4294967296:=by
 simp only [IntKind.wrap,IntKind.signed,IntKind.bits]
 simp
theorem ofInt_wI (x:BitVec 32):BitVec.ofInt IntKind.u32.bits (wI x)=x:=by
 show BitVec.ofInt 32 (wI x)=x
 apply BitVec.eq_of_toNat_eq
 rw [BitVec.toNat_ofInt]
 have:=x.isLt
 unfold wI
 omega
theorem qHr (x:BitVec 32):IntKind.u32.wrap (x.toNat:Int)=wI x:=by rw [wrap32];have:=x.isLt;unfold wI;omega
theorem wI_add (x y:BitVec 32):IntKind.u32.wrap (wI x+wI y)=wI (x+y):=by
 rw [wrap32];unfold wI;rw [BitVec.toNat_add];omega
theorem wI_and (x y:BitVec 32):IntKind.u32.wrap ((BitVec.ofInt IntKind.u32.bits (wI x) &&& BitVec.ofInt IntKind.u32.bits (wI y)).toNat:Int)=wI (x &&& y):=by rw [ofInt_wI,ofInt_wI];exact qHr (x &&& y)
theorem wI_or (x y:BitVec 32):IntKind.u32.wrap ((BitVec.ofInt IntKind.u32.bits (wI x) ||| BitVec.ofInt IntKind.u32.bits (wI y)).toNat:Int)=wI (x ||| y):=by rw [ofInt_wI,ofInt_wI];exact qHr (x ||| y)
theorem wI_xor (x y:BitVec 32):IntKind.u32.wrap ((BitVec.ofInt IntKind.u32.bits (wI x) ^^^ BitVec.ofInt IntKind.u32.bits (wI y)).toNat:Int)=wI (x ^^^ y):=by rw [ofInt_wI,ofInt_wI];exact qHr (x ^^^ y)
theorem wI_not (x:BitVec 32):IntKind.u32.wrap ((BitVec.ofInt IntKind.u32.bits (if IntKind.u32.signed then -1 else IntKind.u32.max) ^^^ BitVec.ofInt IntKind.u32.bits (wI x)).toNat:Int)=wI (~~~ x):=by
 show IntKind.u32.wrap ((BitVec.ofInt 32 4294967295 ^^^ BitVec.ofInt 32 (wI x)).toNat:Int)=wI (~~~ x)
 have h1:BitVec.ofInt 32 4294967295=BitVec.allOnes 32:=by decide
 have h3:BitVec.ofInt 32 (wI x)=x:=ofInt_wI x
 have h2:BitVec.allOnes 32 ^^^ x = ~~~ x:=by rw [BitVec.xor_comm,BitVec.xor_allOnes]
 rw [h1,h3,h2]
 exact qHr (~~~ x)
theorem wI_shl (x:BitVec 32) (k:Nat):IntKind.u32.wrap (wI x*2 ^ k)=wI (x <<< k):=by
 rw [wrap32];unfold wI
 rw [BitVec.toNat_shiftLeft,Nat.shiftLeft_eq]
 have h:((x.toNat:Int)*2 ^ k)=((x.toNat*2 ^ k:Nat):Int):=by push_cast;rfl
 rw [h]
 omega
theorem wI_shr (x:BitVec 32) (k:Nat):Int.fdiv (wI x) (2 ^ k)=wI (x >>> k):=by
 unfold wI
 rw [BitVec.toNat_ushiftRight,Nat.shiftRight_eq_div_pow]
 have h:(2:Int) ^ k=((2 ^ k:Nat):Int):=by push_cast;rfl
 rw [h,Int.fdiv_eq_ediv_of_nonneg _ (Int.natCast_nonneg _)]
 exact (Int.natCast_ediv _ _).symm
def wB (c:UInt8):BitVec 32:=BitVec.ofNat 32 c.toNat
theorem wI_byte (c:UInt8):IntKind.u32.wrap (c.toNat:Int)=wI (wB c):=by
 have:=UInt8.toNat_lt c
 rw [wrap32];unfold wI wB
 rw [BitVec.toNat_ofNat]
 omega
def bW (x:BitVec 32):UInt8:=UInt8.ofNat (x.toNat % 256)
theorem bW_wrap (x:BitVec 32):IntKind.u8.wrap (wI x)=((bW x).toNat:Int):=by
 rw [qEe];unfold wI bW
 rw [show (UInt8.ofNat (x.toNat % 256)).toNat=x.toNat % 256 by simp]
 omega
def qGc (x:BitVec 32) (n:Nat):BitVec 32:=x >>> n ||| x <<< (32-n)
theorem rotW_comm (x:BitVec 32) (n:Nat):x <<< (32-n) ||| x >>> n=qGc x n:=BitVec.or_comm _ _
def sg0 (x:BitVec 32):BitVec 32:=qGc x 7 ^^^ qGc x 18 ^^^ x >>> 3
def sg1 (y:BitVec 32):BitVec 32:=qGc y 17 ^^^ qGc y 19 ^^^ y >>> 10
def bs0 (a:BitVec 32):BitVec 32:=qGc a 2 ^^^ qGc a 13 ^^^ qGc a 22
def bs1 (e:BitVec 32):BitVec 32:=qGc e 6 ^^^ qGc e 11 ^^^ qGc e 25
def qNg (b:List UInt8) (i:Nat):BitVec 32:=wB (b.getD i 0) <<< 24 ||| wB (b.getD (i+1) 0) <<< 16 ||| wB (b.getD (i+2) 0) <<< 8 ||| wB (b.getD (i+3) 0)
def qWi (w:List (BitVec 32)) (t:Nat):BitVec 32:=sg1 (w.getD (t-2) 0)+w.getD (t-7) 0+sg0 (w.getD (t-15) 0)+w.getD (t-16) 0
def qHt (b:List UInt8):Nat→List (BitVec 32)
 | 0=>[]
 | n+1=>qHt b n++[if n < 16 then qNg b (4*n) else qWi (qHt b n) n]
theorem schW_length (b:List UInt8):∀ n,(qHt b n).length=n
 | 0=>rfl
 | n+1=>by rw [qHt,List.length_append,schW_length b n];rfl
def kW:List (BitVec 32):=[0x428a2f98,0x71374491,0xb5c0fbcf,0xe9b5dba5,0x3956c25b,0x59f111f1,0x923f82a4,0xab1c5ed5,
 0xd807aa98,0x12835b01,0x243185be,0x550c7dc3,0x72be5d74,0x80deb1fe,0x9bdc06a7,0xc19bf174,
 0xe49b69c1,0xefbe4786,0x0fc19dc6,0x240ca1cc,0x2de92c6f,0x4a7484aa,0x5cb0a9dc,0x76f988da,
 0x983e5152,0xa831c66d,0xb00327c8,0xbf597fc7,0xc6e00bf3,0xd5a79147,0x06ca6351,0x14292967,
 0x27b70a85,0x2e1b2138,0x4d2c6dfc,0x53380d13,0x650a7354,0x766a0abb,0x81c2c92e,0x92722c85,
 0xa2bfe8a1,0xa81a664b,0xc24b8b70,0xc76c51a3,0xd192e819,0xd6990624,0xf40e3585,0x106aa070,
 0x19a4c116,0x1e376c08,0x2748774c,0x34b0bcb5,0x391c0cb3,0x4ed8aa4a,0x5b9cca4f,0x682e6ff3,
 0x748f82ee,0x78a5636f,0x84c87814,0x8cc70208,0x90befffa,0xa4506ceb,0xbef9a3f7,0xc67178f2]
structure Vw where
 a:BitVec 32
 b:BitVec 32
 c:BitVec 32
 d:BitVec 32
 e:BitVec 32
 f:BitVec 32
 g:BitVec 32
 h:BitVec 32
def qWb (v:Vw) (k w:BitVec 32):Vw :=
 let t1:=v.h+bs1 v.e+((v.e &&& v.f) ^^^ (~~~ v.e &&& v.g))+k+w
 let t2:=bs0 v.a+((v.a &&& v.b) ^^^ (v.a &&& v.c) ^^^ (v.b &&& v.c))
 ⟨t1+t2,v.a,v.b,v.c,v.d+t1,v.e,v.f,v.g⟩
def qFq (v:Vw) (w:List (BitVec 32)):Nat→Vw
 | 0=>v
 | n+1=>qWb (qFq v w n) (kW.getD n 0) (w.getD n 0)
def qOm:Vw:=⟨0x6a09e667,0xbb67ae85,0x3c6ef372,0xa54ff53a,0x510e527f,0x9b05688c,0x1f83d9ab,0x5be0cd19⟩
def qQl (v:Vw) (b:List UInt8):Vw :=
 let r:=qFq v (qHt b 64) 64
 ⟨v.a+r.a,v.b+r.b,v.c+r.c,v.d+r.d,v.e+r.e,v.f+r.f,v.g+r.g,v.h+r.h⟩
def qDn (x:BitVec 32):List UInt8:=[bW (x >>> 24),bW (x >>> 16),bW (x >>> 8),bW x]
def qXh (v:Vw):List UInt8:=qDn v.a++qDn v.b++qDn v.c++qDn v.d++qDn v.e++qDn v.f++qDn v.g++qDn v.h
def qWm:Nat→Nat→List UInt8
 | 0,_=>[]
 | m+1,n=>qWm m (n / 256)++[UInt8.ofNat (n % 256)]
def qPw (b:List UInt8):List UInt8:=b++[128]++List.replicate ((119-b.length % 64) % 64) 0++qWm 8 (8*b.length)
theorem lenW_length:∀ (m n:Nat),(qWm m n).length=m
 | 0,_=>rfl
 | m+1,n=>by rw [qWm,List.length_append,lenW_length m];rfl
theorem padW_length (b:List UInt8):(qPw b).length % 64=0∧(qPw b).length≤b.length+73:=by
 unfold qPw
 simp only [List.length_append,List.length_replicate,List.length_singleton,lenW_length]
 omega
def qUe:Nat→Vw→List UInt8→Vw
 | 0,v,_=>v
 | n+1,v,b=>qUe n (qQl v (b.take 64)) (b.drop 64)
def qPo (b:List UInt8):List UInt8:=qXh (qUe ((qPw b).length / 64) qOm (qPw b))
theorem sumW_length (b:List UInt8):(qPo b).length=32:=rfl
def uV (x:BitVec 32):AV:=.d (.int .u32 (wI x))
def cellsW (b:List UInt8) (t:Nat):List AV:=(qHt b t).map uV++List.replicate (64-t) (uV 0)
def qJq (b:List UInt8) (t:Nat):BitVec 32:=if t < 16 then qNg b (4*t) else qWi (qHt b t) t
theorem schW_succ (b:List UInt8) (n:Nat):qHt b (n+1)=qHt b n++[qJq b n]:=rfl
theorem cellsW_length (b:List UInt8) {t:Nat} (h:t≤64):(cellsW b t).length=64:=by
 unfold cellsW
 rw [List.length_append,List.length_map,schW_length,List.length_replicate];omega
theorem cellsW_at (b:List UInt8) {i t:Nat} (h:i < t):(cellsW b t)[i]?=some (uV ((qHt b t).getD i 0)):=by
 have hl:=schW_length b t
 unfold cellsW
 rw [List.getElem?_append_left (by rw [List.length_map];omega),List.getElem?_map]
 simp [show i < (qHt b t).length by omega]
theorem cellsW_set (b:List UInt8) {t:Nat} (h:t < 64):(cellsW b t).set t (uV (qJq b t))=cellsW b (t+1):=by
 have hl:=schW_length b t
 unfold cellsW
 rw [schW_succ,List.map_append,List.set_append_right _ _ (by rw [List.length_map];omega),List.length_map,hl,Nat.sub_self,show 64-t=(64-(t+1))+1 by omega,List.replicate_succ,List.set_cons_zero,List.append_assoc]
 rfl
theorem schW_next (b:List UInt8) {t:Nat} (h:16≤t):qJq b t=sg1 ((qHt b t).getD (t-2) 0)+(qHt b t).getD (t-7) 0+sg0 ((qHt b t).getD (t-15) 0)+(qHt b t).getD (t-16) 0:=by
 unfold qJq qWi;rw [if_neg (by omega)]
theorem schW_word (b:List UInt8) {t:Nat} (h:t < 16):qJq b t=qNg b (4*t):=by unfold qJq;rw [if_pos h]
theorem cells64 (b:List UInt8) {t:Nat} (h:t < 64):(cellsW b 64)[t]?=some (uV ((qHt b 64).getD t 0)):=cellsW_at b h
def qOs (n:Nat):Nat:=(119-n % 64) % 64
theorem padZ_iff {n j:Nat} (h:j≤qOs n):(n+1+j) % 64=56↔j=qOs n:=by unfold qOs at h ⊢;omega
theorem padZ_lt (n:Nat):qOs n < 64:=by unfold qOs;omega
theorem padW_eq (b:List UInt8):qPw b=b++[128]++List.replicate (qOs b.length) 0++qWm 8 (8*b.length):=rfl
def qLp (b:List UInt8):Nat→Vw
 | 0=>qOm
 | n+1=>qQl (qLp b n) (((qPw b).drop (64*n)).take 64)
theorem sumGo_to (b:List UInt8):∀ (m n:Nat),qUe m (qLp b n) ((qPw b).drop (64*n))=qLp b (n+m)
 | 0,n=>rfl
 | m+1,n=>by
  rw [qUe,List.drop_drop,show 64*n+64=64*(n+1) by omega]
  exact (sumGo_to b m (n+1)).trans (by rw [show n+1+m=n+(m+1) by omega])
theorem sumW_to (b:List UInt8):qPo b=qXh (qLp b ((qPw b).length / 64)):=by
 have:=sumGo_to b ((qPw b).length / 64) 0
 rw [Nat.zero_add] at this
 unfold qPo
 exact congrArg qXh this
def vwL (v:Vw):List (BitVec 32):=[v.a,v.b,v.c,v.d,v.e,v.f,v.g,v.h]
def qJh (v:Vw):List (List Dat):=(vwL v).map fun x=>[.int .u32 (wI x)]
theorem outW_eq (v:Vw):qXh v=((vwL v).map qDn).flatten:=by simp [qXh,vwL]
theorem len8 (n:Nat) (h:n < 18446744073709551616):qWm 8 n=qDn (BitVec.ofNat 32 (n / 4294967296))++qDn (BitVec.ofNat 32 n):=by
 have hb:∀ (x:BitVec 32) (k:Nat),bW (x >>> k)=UInt8.ofNat (x.toNat / 2 ^ k % 256):=fun x k=>by unfold bW;rw [BitVec.toNat_ushiftRight,Nat.shiftRight_eq_div_pow]
 have h0:∀ x:BitVec 32,bW x=UInt8.ofNat (x.toNat % 256):=fun x=>rfl
 unfold qDn
 simp only [hb,h0,BitVec.toNat_ofNat]
 simp only [qWm,List.nil_append,List.cons_append]
 have e:∀ a c:Nat,a=c→UInt8.ofNat a=UInt8.ofNat c:=fun a c h=>by rw [h]
 congr 1
 ·exact e _ _ (by omega)
 congr 1
 ·exact e _ _ (by omega)
 congr 1
 ·exact e _ _ (by omega)
 congr 1
 ·exact e _ _ (by omega)
 congr 1
 ·exact e _ _ (by omega)
 congr 1
 ·exact e _ _ (by omega)
 congr 1
 ·exact e _ _ (by omega)
 congr 1
 exact e _ _ (by omega)
section
variable {P:Program} {E:Env} {T:Tr} {o:Oper} {ρ:Operand→AV} {h:List AObj}
theorem qOt {G:Gh} {sz:Nat} {es:List (List Dat)} {news:List Value} (hlen:∀ e,e∈es→e.length=sz) (hn:∀ (i:Nat) (e:List Dat) (j:Nat) (d:Dat),es[i]?=some e→e[j]?=some d→∃ u,news[i*sz+j]?=some u∧RepD G.imm d u) :
  ∀ (j:Nat) (c:AV) (u:Value),(qAu es)[j]?=some c→news[j]?=some u→RepA G c u∧qFv u=true:=by
 intro j c u hc hu
 simp only [qAu,List.getElem?_map,Option.map_eq_some_iff] at hc
 obtain ⟨d,hd,rfl⟩:=hc
 obtain ⟨i,j',e,he,hd',hjj⟩:=qDi hlen hd
 obtain ⟨u',hu',hru⟩:=hn i e j' d he hd'
 rw [← hjj,hu] at hu'
 cases hu'
 exact ⟨.d hru,hru.one⟩
theorem appRowD_ok (hT:TOk P T) {t t2 sz by_ i n cap:Nat} {s x:Operand} {cells:List AV} {es2:List (List Dat)} (ho:o.op=.call { callee:=.builtin .append,args:=#[s,x],argTypes:=#[t,t2] })
  (ht:qPe T t=some (sz,by_)) (ht2:qPr T t2=true) (hs:ρ s=.row i 0 n cap) (hx:qGh sz (ρ x)=some es2) (hi:h[i]?=some (.row cells)) (hfit:n+es2.length≤cap) (hc1:(n+es2.length)*sz≤cells.length) :
  OpS P E o ρ h (.row i 0 (n+es2.length) cap) (h.set i (.row (qBz cells (n*sz) (qAu es2)))) :=
 qBd fun G e w hw hr=>by
  have hs':RepA G (ρ s) (e s):=hr s (by simp [ho,Op.operands,Call.operands])
  have hx':RepA G (ρ x) (e x):=hr x (by simp [ho,Op.operands,Call.operands])
  obtain ⟨et,ie,h1,h2,rfl,rfl,hzl⟩:=appT_ok hT ht
  obtain ⟨d2,h3,h4⟩:=srcT_ok hT ht2
  obtain ⟨hlen2,news,n1,n2,n3,n4⟩:=asNew_src (P:=P) hw.imm hx' hx
  rw [hs] at hs'
  obtain ⟨b,hv,hl⟩:=hs'.row_inv
  obtain ⟨b',hl',hown,hrow,himm⟩:=hw.obj i _ hi
  rw [hl] at hl';cases hl'
  have hfl:=flatAV_length hlen2
  rw [Nat.add_mul] at hc1
  obtain ⟨w',q1,q2,q3,q4,q5,q6,q7⟩:=qDk (P:=P) news (qAu es2) cells (n*ie.size) 0 w hrow (by rw [n2];omega) (by rw [n2,hfl]) (qOt hlen2 n4)
  have hrun:=qCc (ty:=o.type) h1 h3 h4 h2 (w':=w') (a:=some ⟨b,0,none⟩) (n:=n) (cap:=cap) n1 hfit (by simp only [qCd,Nat.zero_add];exact q1)
  refine ⟨.slice (some ⟨b,0,none⟩) (n+es2.length) cap,w',G,?_,.refl G,hw.setObj hi hl (by simpa using q2) q3 q4 q5 q6 q7,.row _ _ _ hl⟩
  unfold execOp
  simp [ho,resolve,invoke,builtin,hv,hrun]
end
section
variable {P:Program} {T:Tr} {o:Oper} {ρ:Operand→AV}
theorem sliceArr_ok (hT:TOk P T) {t n sz:Nat} {g:Bool} {x:Operand} {es:List (List Dat)} (ho:o.op=.sliceToArrayPointer t x) (ht:qXk T t=some (n,sz,g)) (hx:ρ x=.d (.sl sz es)) (hn:0 < n∧n≤es.length) :
  OpP P o ρ (.iptr es.flatten):=by
 intro G e w hi hr
 have hx':RepA G (ρ x) (e x):=hr x (by simp [ho,Op.operands])
 rw [hx] at hx'
 obtain ⟨et,ie,h1,h2,h3,h4⟩:=arrT_ok hT ht
 have hd:RepD G.imm (.sl sz es) (e x):=by generalize e x=u at hx';cases hx' with | d r=>exact r
 obtain ⟨a,cap,hv,hnn,hp⟩:=hd.slice_inv
 cases a with
 | none=>have:=(hnn rfl).1;subst this;simp at hn;omega
 | some p =>
  obtain ⟨p1,p2,p3,vs,p4,p5⟩:=hp p rfl
  have p1:=p1 (by omega)
  refine ⟨.pointer (some p),?_,.iptr p vs p1 (fun j d hd=>?_) (fun j d hd=>?_)⟩
  ·unfold execOp
   simp only [ho,Sem.run_bind]
   rw [hv]
   simp [Instr.arrayAt,run_underlying h1,show ¬ es.length < n by omega]
  ·obtain ⟨i,j',e',he,hd',rfl⟩:=qDi p3 hd
   exact p4 _ _ _ _ he hd'
  ·obtain ⟨i,j',e',he,hd',rfl⟩:=qDi p3 hd
   exact p5 _ _ _ _ he hd'
end
variable {P:Program} {E:Env} {N:Nat}
theorem qEd {rd wr:Nat→List Nat} {ops:List Oper} {Q:(Nat→AV)→List AObj→Prop} {i d:Nat} {op:Op} {ty:TypeId} {pos:String} {after:Array Edge} {rest:List Oper}
  {l:List (Nat×AV)} {h:List AObj} {v:AV} (hs:OpP P ⟨some d,op,ty,pos,after,none⟩ (ev (look l)) v) (hd:Nat.blt d N=true) (hw:wr i=[]) (hk:AWd P E N ops rd wr Q rest (i+1) (look ((d,v)::l)) h) :
  AWd P E N ops rd wr Q (⟨some d,op,ty,pos,after,none⟩::rest) i (look l) h :=
 ⟨v,[],fun k h1 h2=>by rw [hw];simp only [updH_nil];exact ⟨hd,qCh (qAd hs)⟩,by rw [hw,updH_nil];exact hk⟩
end Tdoc
namespace Tdoc
open Go
def qRw:Dat→Dat→Bool
 | .int _ x,.int _ y=>x == y
 | .str a,.str b=>a == b
 | _,_=>false
def qLq:List Dat→List Dat→Bool
 | [],[]=>true
 | d::ds,e::es=>qRw d e&&qLq ds es
 | _,_=>false
def qFh:Dat→Option (Option IntKind)
 | .int k _=>some (some k)
 | .str _=>some none
 | _=>none
def fOk (P:Program):List Field→Nat→List (Option IntKind)→Bool
 | [],_,[]=>true
 | f::fs,off,k::ks=>(f.name != "_")&&(Nat.beq f.offset off&&((match P.underlying f.type with
  | some (.int _)=>k.isSome
  | some .string=>k.isNone
  | _=>false)&&fOk P fs (off+1) ks))
 | _,_,_=>false
theorem qKi {P:Program} {w:World} {t:TypeId} {cs:Array Value} {off:Nat} {v:Value} {u:TypeDesc} (hu:P.underlying t=some u) (ha:∀ w:World,(isAgg t).run P w=.ok false w) (hv:cs[off]?=some v):(part t cs off).run P w=.ok v w:=by
 unfold part
 simp only [Sem.run_bind,ha,Result.andThen_ok,Bool.false_eq_true,if_false,hv,Sem.run_pure]
theorem eqFields_flat {m:Addr→Option Value} {P:Program} {w:World} {n:Nat} {xs ys:Array Value}:∀ (fs:List Field) (ks:List (Option IntKind)) (off:Nat) (ds es:List Dat),fOk P fs off ks=true→ds.map qFh=ks.map some→es.map qFh=ks.map some →
  (∀ (j:Nat) (d:Dat),ds[j]?=some d→∃ v,xs[off+j]?=some v∧RepD m d v)→(∀ (j:Nat) (d:Dat),es[j]?=some d→∃ v,ys[off+j]?=some v∧RepD m d v) →
  (Op.eqFields (n+1) xs ys fs).run P w=.ok (qLq ds es) w
 | [],[],off,ds,es,_,h1,h2,_,_=>by
  obtain rfl:ds=[]:=by simpa using h1
  obtain rfl:es=[]:=by simpa using h2
  rfl
 | [],_::_,_,_,_,h,_,_,_,_=>by simp [fOk] at h
 | _::_,[],_,_,_,h,_,_,_,_=>by simp [fOk] at h
 | f::fs,k::ks,off,ds,es,h,h1,h2,hx,hy=>by
  match ds,es,h1,h2 with
  | [],_,h1,_=>simp at h1
  | _::_,[],_,h2=>simp at h2
  | d::ds,e::es,h1,h2 =>
   simp only [List.map_cons,List.cons.injEq] at h1 h2
   simp only [fOk,Bool.and_eq_true,bne_iff_ne,ne_eq] at h
   obtain ⟨g1,g2,g3,g4⟩:=h
   have ih:=eqFields_flat (n:=n) (w:=w) (xs:=xs) (ys:=ys) (m:=m) fs ks (off+1) ds es g4 h1.2 h2.2 (fun j d hj=>by have:=hx (j+1) d (by simpa using hj);rwa [show off+(j+1)=off+1+j by omega] at this) (fun j d hj=>by have:=hy (j+1) d (by simpa using hj);rwa [show off+(j+1)=off+1+j by omega] at this)
   obtain ⟨u,hu,ru⟩:=hx 0 d rfl
   obtain ⟨v,hv,rv⟩:=hy 0 e rfl
   rw [Nat.add_zero] at hu hv
   have ho:f.offset=off:=Nat.eq_of_beq_eq_true g2
   rw [← ho] at hu hv
   unfold Op.eqFields
   rw [if_pos g1]
   have fin:∀ b:Bool,(Op.equalIn (n+1) f.type u v).run P w=.ok b w→(∃ t,P.underlying f.type=some t∧∀ w:World,(isAgg f.type).run P w=.ok false w)→b=qRw d e →
     (do let a ← part f.type xs f.offset;let b ← part f.type ys f.offset;let r ← Op.equalIn (n+1) f.type a b;if (!r)=true then pure false else Op.eqFields (n+1) xs ys fs:Sem Bool).run P w=.ok (qLq (d::ds) (e::es)) w:=by
    rintro b hb ⟨t,ht,ha⟩ rfl
    simp only [Sem.run_bind,qKi ht ha hu,qKi ht ha hv,Result.andThen_ok,hb]
    rw [qLq]
    cases qRw d e
    ·simp
    ·simp [ih]
   cases hund:P.underlying f.type with
   | none=>rw [hund] at g3;cases g3
   | some td =>
    rw [hund] at g3
    cases td
    case int k' =>
     cases k with
     | none=>cases g3
     | some k =>
      match d,h1.1,ru with
      | .int _ x,h1,ru =>
       match e,h2.1,rv with
       | .int _ y,h2,rv =>
        simp only [qFh,Option.some.injEq] at h1 h2
        subst h1;subst h2
        cases ru;cases rv
        exact fin (x == y) (run_equalIn_int w n f.type _ k' x y hund) ⟨_,hund,fun w=>by simp [isAgg,run_underlying hund]⟩ rfl
       | .bool _,h2,_=>simp [qFh] at h2
       | .str _,h2,_=>simp [qFh] at h2
       | .sl _ _,h2,_=>simp [qFh] at h2
      | .bool _,h1,_=>simp [qFh] at h1
      | .str _,h1,_=>simp [qFh] at h1
      | .sl _ _,h1,_=>simp [qFh] at h1
    case string =>
     cases k with
     | some k=>cases g3
     | none =>
      match d,h1.1,ru with
      | .str a,h1,ru =>
       match e,h2.1,rv with
       | .str b,h2,rv =>
        cases ru;cases rv
        refine fin _ (run_equalIn_string w n f.type _ _ hund) ⟨_,hund,fun w=>by simp [isAgg,run_underlying hund]⟩ ?_
        simp [qRw,ByteArray.toList_mk]
       | .bool _,h2,_=>simp [qFh] at h2
       | .int _ _,h2,_=>simp [qFh] at h2
       | .sl _ _,h2,_=>simp [qFh] at h2
      | .bool _,h1,_=>simp [qFh] at h1
      | .int _ _,h1,_=>simp [qFh] at h1
      | .sl _ _,h1,_=>simp [qFh] at h1
    all_goals cases g3
section
variable {P:Program} {o:Oper} {ρ:Operand→AV}
theorem structNe_ok {t yt:Nat} {x y:Operand} {ds es:List Dat} {ks:List (Option IntKind)} (ho:o.op=.binOp .neq t x y yt) (hu:P.underlying t=some (.struct (P.fieldsOf t))) (hp:P.stoodInHeld t=false) (hg:P.eqGuardType P.depth t=false)
  (hf:fOk P (P.fieldsOf t).toList 0 ks=true) (hx:ρ x=.agg (ds.map .d)) (hy:ρ y=.agg (es.map .d)) (h1:ds.map qFh=ks.map some) (h2:es.map qFh=ks.map some):OpP P o ρ (.d (.bool (!qLq ds es))):=by
 intro G e w hi hr
 have hx':RepA G (ρ x) (e x):=hr x (by simp [ho,Op.operands])
 have hy':RepA G (ρ y) (e y):=hr y (by simp [ho,Op.operands])
 rw [hx] at hx';rw [hy] at hy'
 have cells:∀ {ds:List Dat} {v:Value},RepA G (.agg (ds.map .d)) v→∃ vs,v=.agg vs∧∀ (j:Nat) (d:Dat),ds[j]?=some d→∃ v,vs[0+j]?=some v∧RepD G.imm d v:=by
  intro ds v h
  generalize hc:ds.map AV.d=cs at h
  cases h with
  | agg vs hs hv ho =>
   subst hc
   refine ⟨vs,rfl,fun j d hj=>?_⟩
   have hjl:=(List.getElem?_eq_some_iff.1 hj).1
   have hl:j < vs.size:=by rw [hs];simpa using hjl
   have:=hv j (.d d) vs[j] (by simp [hj]) (by simp [hl])
   refine ⟨vs[j],by simp [hl],?_⟩
   cases this with
   | d r=>exact r
 obtain ⟨xs,hxe,hxc⟩:=cells hx'
 obtain ⟨ys,hye,hyc⟩:=cells hy'
 refine ⟨.bool (!qLq ds es),?_,.d (.bool _)⟩
 have heq:(Op.equalIn 10000 t (.agg xs) (.agg ys)).run P w=.ok (qLq ds es) w:=by
  rw [show (10000:Nat)=9999+1 from rfl,run_equalIn_agg w 9999 t xs ys hu hp]
  exact eqFields_flat (n:=9998) _ ks 0 ds es hf h1 h2 hxc hyc
 unfold execOp
 simp only [ho,Sem.run_bind]
 rw [hxe,hye,run_eqGuard_agg w .neq t x y xs ys hg]
 simp only [Result.andThen_ok,Sem.run_bind]
 rw [run_neq_struct,heq]
 rfl
end
def FOk (F:Fence):Prop:=F=Fence.wide∨∃ l,F=Fence.wide.inRound l
theorem FOk.fn {F:Fence} (h:FOk F) (f:FuncId):F.fn f:=by rcases h with rfl | ⟨l,rfl⟩ <;> exact True.intro
theorem FOk.depth {F:Fence} (h:FOk F):F.depth=none:=by rcases h with rfl | ⟨l,rfl⟩ <;> rfl
theorem FOk.calls {F:Fence} (hF:FOk F) {P:Program} {f:FuncId} {args:Array Value} {w:World} {R:Ending→World→Prop} (h:Calls P f args w R) (n:Nat):CallsIn F n P f args w R:=by
 rcases hF with rfl | ⟨l,rfl⟩
 ·exact callsIn_wide.2 h
 ·exact CallsIn.inRound l (callsIn_wide.2 h)
theorem FOk.rows {F:Fence} (hF:FOk F) {P:Program} {row:String} {args:Array Value} {w:World} {R:Value→World→Prop} (h:Rows P row args w R) (n:Nat):RowsIn F n P row args w R:=by
 have hw:RowsIn Fence.wide n P row args w R:=fun c cs _=>let ⟨v,w',r,s⟩:=h c cs;⟨v,w',r,stepsIn_wide.2 s⟩
 rcases hF with rfl | ⟨l,rfl⟩
 ·exact hw
 ·exact hw
def qFf:Op→Bool
 | .defer _=>false
 | _=>true
theorem opIn_of_wp {F:Fence} (hF:FOk F) {P:Program} {o:Oper} (hd:qFf o.op=true) {a:Act} {w:World} {next:Act→World→Prop} (h:o.wp P a w next (fun _ _ _=>False)) (n:Nat) (Q:Exit→Act→World→Prop):o.wpIn F n P a w next Q:=by
 refine ⟨fun f _=>hF.fn f,?_⟩
 rw [Oper.semAt_eq _ _ _ (fun c hc=>by rw [hc] at hd;cases hd)]
 unfold Oper.wp at h
 generalize (execOp a.eval o).run P w=r at h
 cases r with
 | ok x w' =>
  cases x <;> simp only [Oper.upon,Oper.uponIn] at h ⊢ <;>
   first
    | exact h
    | exact ⟨fun hh=>(by rw [hF.depth] at hh;cases hh),hF.calls (h.mono fun e w'' he=>by cases e <;> first | exact he | exact he.elim | (obtain ⟨_,_,hf⟩:=he;exact hf.elim)) _⟩
    | exact ⟨fun hh=>(by rw [hF.depth] at hh;cases hh),hF.rows h _⟩
    | exact h.elim
 | halt x w'=>cases x <;> simp only [Oper.upon,Oper.uponIn] at h ⊢ <;> exact h.elim
def OpRF (F:Fence) (P:Program) (E:Env) (o:Oper) (ρ:Operand→AV) (h:List AObj) (R:AV→List AObj→Prop):Prop :=
 ∀ (G:Gh) (a:Act) (w:World),WRel E G h w→(∀ x,x∈o.op.operands.toList→RepA G (ρ x) (a.eval x))→∀ Q:Exit→Act→World→Prop,
  o.wpIn F 0 P a w (fun a' w'=>∃ u G' v h',R v h'∧a'=a.put o.dst u∧G.le G'∧WRel E G' h' w'∧RepA G' v u) Q
theorem qTk {F:Fence} (hF:FOk F) {P:Program} {E:Env} {o:Oper} (hd:qFf o.op=true) {ρ:Operand→AV} {h:List AObj} {R:AV→List AObj→Prop} (H:OpR P E o ρ h R):OpRF F P E o ρ h R :=
 fun G a w hw hr Q=>opIn_of_wp hF hd (H G a w hw hr) 0 Q
def StepRF (F:Fence) (P:Program) (E:Env) (N:Nat) (ops:Array Oper) (o:Oper) (τ:Nat→AV) (h:List AObj) (R:AV→List AObj→Prop):Prop :=
 qNy N o=true∧match o.guard with
 | none=>OpRF F P E o (ev τ) h R
 | some (j,want)=>∃ d ex,(ops[j]?).bind (·.dst)=some d∧Nat.blt d N=true∧(∀ G v,RepA G (τ d) v→(v=.bool want↔ex=true))∧(ex=true→OpRF F P E o (ev τ) h R)∧(ex=false→∃ v,R v h∧∀ G,RepA G v undef)
theorem qMs {F:Fence} (hF:FOk F) {P:Program} {E:Env} {N:Nat} {ops:Array Oper} {o:Oper} (hd:qFf o.op=true) {τ:Nat→AV} {h:List AObj} {R:AV→List AObj→Prop} (H:StepR P E N ops o τ h R):StepRF F P E N ops o τ h R:=by
 refine ⟨H.1,?_⟩
 have h2:=H.2
 cases hg:o.guard with
 | none=>rw [hg] at h2;exact qTk hF hd h2
 | some g =>
  obtain ⟨j,want⟩:=g
  rw [hg] at h2
  obtain ⟨d,ex,k1,k2,k3,k4,k5⟩:=h2
  exact ⟨d,ex,k1,k2,k3,fun hb=>qTk hF hd (k4 hb),k5⟩
theorem qId {F:Fence} (hF:FOk F) {P:Program} {E:Env} {N:Nat} {ops:Array Oper} {Q:Exit→Act→World→Prop} {i:Nat} {o:Oper} (ho:ops[i]?=some o) {τ:Nat→AV} {h:List AObj} {R:AV→List AObj→Prop} {K:Act→World→Prop} {a:Act} {w:World}
  (hs:StepRF F P E N ops o τ h R) (hr:Rel E N τ h a w) (hk:∀ v h' a' w',R v h'→Rel E N (qJf τ o.dst v) h' a' w'→K a' w'):wpOpIn F 0 P ops Q i K a w:=by
 obtain ⟨hd,hg⟩:=hs
 obtain ⟨r1,r2,G,hw,ht⟩:=hr
 have hdl:=dstOk_lt hd
 have go:OpRF F P E o (ev τ) h R→o.wpIn F 0 P a w K Q:=fun H=>by
  refine Oper.wpIn_mono ?_ (H G a w hw (fun x _=>qGg (E.tab.1.mono hw.le.imm) ht x) Q)
  rintro a' w' ⟨u,G',v,h',hR,rfl,hle,hw',hv⟩
  refine hk v h' _ w' hR ⟨by rw [qHu];exact r1,by rw [qFm];exact r2,G',hw',?_⟩
  obtain ⟨tmps,ds⟩:=a
  exact qIh r1 hdl (fun t=>(ht t).mono hle) hv ds
 unfold wpOpIn
 simp only [ho]
 cases hgd:o.guard with
 | none =>
  rw [hgd] at hg
  have:Region.wanted o (yielded ops a.tmps)=true:=by simp [Region.wanted,hgd]
  rw [if_pos this]
  exact go hg
 | some g =>
  obtain ⟨j,want⟩:=g
  rw [hgd] at hg
  obtain ⟨d,ex,h1,h2,h3,h4,h5⟩:=hg
  have hv:=h3 G _ (ht d)
  have hdn:d < a.tmps.size:=by rw [r1];exact Nat.le_of_ble_eq_true h2
  have hget:a.tmps[d]?=some (a.tmps.getD d undef):=by
   rw [Array.getD_eq_getD_getElem?]
   have h6:a.tmps[d]?=some a.tmps[d]:=by simp [hdn]
   rw [h6];rfl
  have hwd:Region.wanted o (yielded ops a.tmps)=ex:=by
   unfold Region.wanted yielded
   rw [hgd]
   simp only [h1,Option.bind_some,hget]
   generalize a.tmps.getD d undef=u at hv
   cases ex with
   | true =>
    rw [hv.2 rfl];simp
   | false =>
    have hne:u≠.bool want:=fun hh=>by have:=hv.1 hh;cases this
    cases u <;> simp
    rename_i b
    intro hh;exact hne (by rw [hh])
  rw [hwd]
  cases ex with
  | true=>rw [if_pos rfl];exact go (h4 rfl)
  | false =>
   rw [if_neg (by simp)]
   obtain ⟨v,hR,hv0⟩:=h5 rfl
   refine ⟨fun f _=>hF.fn f,hk v h _ w hR ⟨by rw [qHu];exact r1,by rw [qFm];exact r2,G,hw,?_⟩⟩
   obtain ⟨tmps,ds⟩:=a
   exact qIh r1 hdl ht (hv0 G) ds
def AWF (F:Fence) (P:Program) (E:Env) (N:Nat) (c:Code) (Q:Exit→(Nat→AV)→List AObj→Prop) (τ:Nat→AV) (h:List AObj):Prop :=
 ∀ a w,Rel E N τ h a w→c.wpIn F 0 P (fun ex a' w'=>∃ τ' h',Q ex τ' h'∧Rel E N τ' h' a' w') a w
section rules
variable {F:Fence} {P:Program} {E:Env} {N:Nat} {Q:Exit→(Nat→AV)→List AObj→Prop} {τ:Nat→AV} {h:List AObj}
theorem qPl (hq:Q .normal τ h):AWF F P E N .skip Q τ h:=fun _ _ r=>wpIn_skip ⟨τ,h,hq,r⟩
theorem qVn {id:Nat} (hq:Q (.exit id) τ h):AWF F P E N (.exit id) Q τ h:=fun _ _ r=>wpIn_exit ⟨τ,h,hq,r⟩
theorem qGw {x y:Code} (hx:AWF F P E N x (qLo (fun τ h=>AWF F P E N y Q τ h) Q) τ h):AWF F P E N (.seq x y) Q τ h :=
 fun a w r=>wpIn_seq (wpIn_mono (hx a w r) fun e a' w' ⟨τ',h',q,r'⟩=>by
  cases e with
  | normal=>exact q a' w' r'
  | _=>exact ⟨τ',h',q,r'⟩)
theorem qJe {id:Nat} {c:Code} (hc:AWF F P E N c (qFn id Q) τ h):AWF F P E N (.block id c) Q τ h :=
 fun a w r=>wpIn_block (wpIn_mono (hc a w r) fun e a' w' ⟨τ',h',q,r'⟩=>by
  cases e with
  | exit id' =>
   simp only [qFn] at q
   by_cases hid:id'=id
   ·subst hid;simp only [Exit.inBlock,if_true]
    have hb:Nat.beq id' id'=true:=Nat.beq_refl id'
    rw [hb] at q;exact ⟨τ',h',q,r'⟩
   ·simp only [Exit.inBlock,hid,if_false]
    have hb:Nat.beq id' id=false:=by
     cases hb:Nat.beq id' id with
     | false=>rfl
     | true=>exact absurd (Nat.eq_of_beq_eq_true hb) hid
    rw [hb] at q;exact ⟨τ',h',q,r'⟩
  | _=>exact ⟨τ',h',q,r'⟩)
theorem qNd {c:Operand} {x y:Code} {b:Bool} (hc:ev τ c=.d (.bool b)) (ht:b=true→AWF F P E N x Q τ h) (hf:b=false→AWF F P E N y Q τ h):AWF F P E N (.cond c x y) Q τ h:=by
 intro a w r
 have hv:a.eval c=.bool b:=by
  obtain ⟨h1,h2,G,hw,ht'⟩:=r
  have:=qGg (E.tab.1.mono hw.le.imm) ht' c
  rw [hc] at this
  exact this.bool_inv
 exact wpIn_cond_split hv (fun e=>ht e a w r) (fun e=>hf e a w r)
theorem qXf {c:Code} {τ':Nat→AV} {h':List AObj} (hs:∀ a w,Rel E N τ h a w→Rel E N τ' h' a w) (hc:AWF F P E N c Q τ' h'):AWF F P E N c Q τ h:=fun a w r=>hc a w (hs a w r)
theorem qTw {c:Code} {ι:Type} (S:ι→List (Nat×AV)) (H:ι→List AObj) (inv:ι→Prop) (μ:ι→Nat) (x0:ι) (h0:inv x0) (hs:SubL τ (S x0)) (hh:HLe h (H x0))
  (round:∀ x,inv x→AWF F P E N c (qLo (fun τ' h'=>∃ y,inv y∧μ y < μ x∧SubL τ' (S y)∧HLe h' (H y)) Q) (look (S x)) (H x)):AWF F P E N (.loop c) Q τ h:=by
 intro a w r b k cs hro hb hroom
 have key:∀ n x a w,μ x=n→inv x→Rel E N (look (S x)) (H x) a w →
   ∃ e a' w',(∃ τ' h',Q e τ' h'∧Rel E N τ' h' a' w')∧ArrivesIn (Machine.fenced P F) P (lone (b.atR a (.code c::.inLoop c::k)) cs w) b k cs e a' w':=by
  intro n
  induction n using Nat.strongRecOn with
  | _ n ih =>
   intro x a w hn hI hr
   obtain ⟨e,a₁,w₁,⟨τ',h',hq,hr'⟩,harr⟩:=round x hI a w hr b (.inLoop c::k) cs hro hb hroom
   cases e with
   | normal =>
    obtain ⟨y,hy,hlt,hs',hh'⟩:=hq
    obtain ⟨e₂,a₂,w₂,hq₂,harr₂⟩:=ih (μ y) (hn▸hlt) y a₁ w₁ rfl hy (qEq hs' hh' a₁ w₁ hr')
    exact ⟨e₂,a₂,w₂,hq₂,.of_steps (StepsIn.trans harr (.one (fenced_calm hb hroom rfl) stepR_inLoop)) harr₂⟩
   | exit id=>exact ⟨_,a₁,w₁,⟨τ',h',hq,hr'⟩,.pass (x:=.inLoop c) rfl (fun _ _=>.inl (by simp)) harr⟩
   | goto l=>exact ⟨_,a₁,w₁,⟨τ',h',hq,hr'⟩,.pass (x:=.inLoop c) rfl (fun _ _=>.inl (by simp)) harr⟩
   | ret=>exact ⟨_,a₁,w₁,⟨τ',h',hq,hr'⟩,.pass (x:=.inLoop c) rfl (fun _ _=>.inl (by simp)) harr⟩
   | panic ch=>exact ⟨_,a₁,w₁,⟨τ',h',hq,hr'⟩,.pass (x:=.inLoop c) rfl (fun _ _=>.inl (by simp)) harr⟩
   | outgrown=>exact ⟨_,a₁,w₁,⟨τ',h',hq,hr'⟩,.pass (x:=.inLoop c) rfl (fun _ _=>.inl (by simp)) harr⟩
 obtain ⟨e,a',w',hq,harr⟩:=key _ x0 a w rfl h0 (qEq hs hh a w r)
 exact ⟨e,a',w',hq,.of_steps (.one (fenced_calm hb hroom rfl) stepR_loop) harr⟩
theorem qPk {c:Code} {l:List (Nat×AV)} {h':List AObj} (hs:SubL τ l) (hh:HLe h h') (hc:AWF F P E N c Q (look l) h'):AWF F P E N c Q τ h:=qXf (qEq hs hh) hc
end rules
def AWkF (F:Fence) (P:Program) (E:Env) (N:Nat) (ops:List Oper) (Q:(Nat→AV)→List AObj→Prop):List Oper→(Nat→AV)→List AObj→Prop
 | [],τ,h=>Q τ h
 | o::rest,τ,h=>∃ R,StepRF F P E N ops.toArray o τ h R∧∀ v h',R v h'→AWkF F P E N ops Q rest (qJf τ o.dst v) h'
section
variable {F:Fence} {P:Program} {E:Env} {N:Nat} {ops:List Oper}
theorem qLf (hF:FOk F) {Q:(Nat→AV)→List AObj→Prop} {post:List Oper}:∀ (pre:List Oper) (τ:Nat→AV) (h:List AObj),(pre.all fun o=>qFf o.op)=true →
  AWk P E N ops (fun τ h=>AWkF F P E N ops Q post τ h) pre τ h→AWkF F P E N ops Q (pre++post) τ h
 | [],τ,h,_,hk=>hk
 | o::pre,τ,h,hd,hk=>by
  rw [List.all_cons,Bool.and_eq_true] at hd
  obtain ⟨R,hs,hn⟩:=hk
  exact ⟨R,qMs hF hd.1 hs,fun v h' hR=>qLf hF pre _ _ hd.2 (hn v h' hR)⟩
theorem qPh (hF:FOk F) {Q:(Nat→AV)→List AObj→Prop} (l:List Oper) (τ:Nat→AV) (h:List AObj) (hd:(l.all fun o=>qFf o.op)=true) (hk:AWk P E N ops Q l τ h):AWkF F P E N ops Q l τ h:=by
 have:=qLf hF (Q:=Q) (ops:=ops) (post:=[]) l τ h hd hk
 rwa [List.append_nil] at this
theorem qXc {Q:(Nat→AV)→List AObj→Prop} {d:Nat} {op:Op} {ty:TypeId} {pos:String} {after:Array Edge} {rest:List Oper}
  {l:List (Nat×AV)} {h h':List AObj} {v:AV} (hs:OpRF F P E ⟨some d,op,ty,pos,after,none⟩ (ev (look l)) h (fun a b=>a=v∧b=h')) (hd:Nat.blt d N=true) (hk:AWkF F P E N ops Q rest (look ((d,v)::l)) h') :
  AWkF F P E N ops Q (⟨some d,op,ty,pos,after,none⟩::rest) (look l) h :=
 ⟨_,⟨hd,hs⟩,fun a b hab=>by obtain ⟨rfl,rfl⟩:=hab;exact hk⟩
theorem qKa (hF:FOk F) {Q:Exit→(Nat→AV)→List AObj→Prop}:∀ (rest:List Oper) (k:Nat) (τ:Nat→AV) (h:List AObj) (a:Act) (w:World),(∀ j,rest[j]?=ops[k+j]?) →
  AWkF F P E N ops (Q .normal) rest τ h→Rel E N τ h a w →
  wpOpsIn F 0 P ops.toArray (fun ex a' w'=>∃ τ' h',Q ex τ' h'∧Rel E N τ' h' a' w') (List.range' k rest.length) a w
 | [],k,τ,h,a,w,_,hk,hr=>⟨τ,h,hk,hr⟩
 | o::rest,k,τ,h,a,w,hj,hk,hr=>by
  obtain ⟨R,hs,hnext⟩:=hk
  have ho:ops.toArray[k]?=some o:=by simpa using (hj 0).symm
  simp only [List.length_cons,List.range'_succ]
  rw [wpOpsIn_cons]
  exact qId hF ho hs hr fun v h' a' w' hR hrel =>
   qKa hF rest (k+1) _ _ a' w' (fun j=>by have:=hj (j+1);simpa [Nat.add_assoc,Nat.add_comm 1 j] using this) (hnext v h' hR) hrel
theorem qJd (hF:FOk F) {id:Nat} {Q:Exit→(Nat→AV)→List AObj→Prop} {τ:Nat→AV} {h:List AObj} (hk:AWkF F P E N ops (Q .normal) ops τ h):AWF F P E N (.region id ops.toArray false) Q τ h:=by
 intro a w hr
 refine wpIn_region ?_
 have:=qKa hF ops 0 τ h a w (fun j=>by simp) hk hr
 simpa [List.range_eq_range'] using this
theorem qEk (hF:FOk F) {id:Nat} {Q:Exit→(Nat→AV)→List AObj→Prop} {τ:Nat→AV} {h:List AObj} (hd:(ops.all fun o=>qFf o.op)=true) (hk:AWk P E N ops (Q .normal) ops τ h):AWF F P E N (.region id ops.toArray false) Q τ h :=
 qJd hF (qPh hF ops τ h hd hk)
theorem anyA_soundF (hF:FOk F) {ops:Array Oper} (hd:∀ (i:Nat) (o:Oper),ops[i]?=some o→qFf o.op=true) {rd wr:Nat→List Nat} {Q:Exit→(Nat→AV)→List AObj→Prop}:∀ (fuel:Nat) (listed:Array Bool) (τ:Nat→AV) (h:List AObj) (a:Act) (w:World),qVd P E N ops rd wr (Q .normal) fuel listed τ h→Rel E N τ h a w →
  wpAnyIn F 0 P .any ops (fun ex a' w'=>∃ τ' h',Q ex τ' h'∧Rel E N τ' h' a' w') fuel listed a w
 | 0,_,τ,h,_,_,H,hr=>⟨H.1,τ,h,H.2,hr⟩
 | fuel+1,listed,τ,h,a,w,H,hr=>by
  refine ⟨fun h0=>⟨τ,h,H.1 h0,hr⟩,fun i hi=>?_⟩
  have hs:=H.2 i hi
  unfold qKd at hs
  split at hs
  ·rename_i ho
   unfold wpOpIn
   simp only [ho]
   exact anyA_soundF hF hd fuel _ τ h a w hs hr
  ·rename_i o ho
   obtain ⟨v,os,hsi,hk⟩:=hs
   exact qId hF ho (qMs hF (hd _ _ ho) (hsi h rfl fun _ _=>rfl)) hr fun v' h'' a' w' ⟨h1,h2⟩ hrel=>by
    subst h1;subst h2
    exact anyA_soundF hF hd fuel _ _ _ a' w' hk hrel
theorem qTx (hF:FOk F) {id:Nat} (rd wr:Nat→List Nat) {Q:Exit→(Nat→AV)→List AObj→Prop} {τ:Nat→AV} {h:List AObj} (hm:P.follows .mixedOrders=true) (hd:(ops.all fun o=>qFf o.op)=true)
  (hB:qVs ops.toArray rd wr ops.length 0 (Array.replicate ops.length false)=true) (H:AWd P E N ops rd wr (Q .normal) ops 0 τ h):AWF F P E N (.region id ops.toArray true) Q τ h:=by
 intro a w hr
 refine wpIn_region_any hm ?_
 have h1:=qOj (P:=P) (E:=E) (N:=N) (rd:=rd) (wr:=wr) (ops:=ops) (Q:=Q .normal) ops 0 (Array.replicate ops.length false) τ h (fun j=>by simp) hB H
 have:=anyA_soundF hF (ops:=ops.toArray) (fun i o ho=>List.all_eq_true.1 hd o (List.mem_of_getElem? (by simpa using ho))) (Q:=Q) _ _ _ _ a _ h1 hr.drew
 simpa using this
end
theorem WRel.tabOk {E:Env} {G:Gh} {h:List AObj} {w:World} (hw:WRel E G h w):TabOk w G:=⟨E.tab.1.mono hw.le.imm,hw.tabB fun _ hb=>hb⟩
theorem WRel.restart {E:Env} {G:Gh} {h:List AObj} {w:World} (hw:WRel E G h w) (htab:TabOk w G) (ds:List Deferred):WRel ⟨w,G,htab,ds⟩ G h w :=
 ⟨.refl _,hw.imm,fun a v ha=>.inl ha,fun _ _=>rfl,Nat.le_refl _,rfl,rfl,rfl,fun b i hb=>⟨(hw.own b i hb).1,fun hk=>by
  have hk2:G.own b=none:=hk.2
  rw [hb] at hk2;cases hk2⟩,hw.fresh,hw.obj⟩
theorem WRel.after {E:Env} {G G2:Gh} {h h2:List AObj} {w w2:World} {htab:TabOk w G} {ds:List Deferred} (hw:WRel E G h w) (hw2:WRel ⟨w,G,htab,ds⟩ G2 h2 w2):WRel E G2 h2 w2:=by
 have hEK:∀ b,E.K b→(⟨w,G,htab,ds⟩:Env).K b:=fun b hk=>⟨Nat.lt_of_lt_of_le hk.1 hw.size,by
  show G.own b=none
  cases ho:G.own b with
  | none=>rfl
  | some i=>exact absurd hk (hw.own b i ho).2⟩
 refine ⟨hw.le.trans hw2.le,hw2.imm,fun a v ha=>?_,fun b hb=>(hw2.keep b (hEK b hb)).trans (hw.keep b hb),Nat.le_trans hw.size hw2.size,hw2.os.trans hw.os,hw2.tape.trans hw.tape,hw2.output.trans hw.output,
  fun b i hb=>⟨(hw2.own b i hb).1,fun hk=>(hw2.own b i hb).2 (hEK b hk)⟩,hw2.fresh,hw2.obj⟩
 rcases hw2.immNew a v ha with h1 | h1
 ·exact hw.immNew a v h1
 ·exact .inr fun hk=>h1 (hEK _ hk)
theorem qUz {w:World} {a:Addr} {o:Obj} (h:w.heap[a.block]?=some o) (ho:o.isCells=false):w.cell? a=none:=by
 unfold World.cell?
 rw [h]
 cases o <;> simp_all [Obj.isCells]
theorem WRel.poke {E:Env} {G:Gh} {h:List AObj} {w:World} {l:Nat} {o:Obj} (o':Obj) (hw:WRel E G h w) (hl:w.heap[l]?=some o) (ho:o.isCells=false) (hown:G.own l=none) :
  (∀ a v,G.imm a=some v→(w.putObj l o').cell? a=some v)∧∀ i ob,h[i]?=some ob→ObjRel G (w.putObj l o') i ob:=by
 refine ⟨fun a v ha=>?_,fun i ob hi=>?_⟩
 ·have h1:=hw.imm a v ha
  have hne:a.block≠l:=fun e=>by rw [qUz (by rw [e];exact hl) ho] at h1;cases h1
  rw [World.cell?_of_block (w:=w) (World.putObj_heap_other hne)];exact h1
 ·refine (hw.obj i ob hi).keep (.refl G) (fun b hb=>⟨World.putObj_heap_other fun e=>?_,fun a _=>rfl⟩) (fun _ hn=>hn) (fun hn=>hn)
  subst e;rw [hown] at hb;cases hb
theorem WRel.pokeIn {E:Env} {G:Gh} {h:List AObj} {w:World} {l:Nat} {o:Obj} (o':Obj) (hw:WRel E G h w) (hl:w.heap[l]?=some o) (ho:o.isCells=false) (hown:G.own l=none) (hk:¬ E.K l):WRel E G h (w.putObj l o'):=by
 obtain ⟨h1,h2⟩:=hw.poke o' hl ho hown
 refine ⟨hw.le,h1,hw.immNew,fun b hb=>?_,by rw [World.putObj_size];exact hw.size,hw.os,hw.tape,hw.output,fun b i hb=>by rw [World.putObj_size];exact hw.own b i hb,hw.fresh,h2⟩
 have hne:b≠l:=fun e=>hk (by rw [← e];exact hb)
 rw [World.putObj_heap_other hne];exact hw.keep b hb
theorem WRel.pokeAt {E:Env} {G:Gh} {h:List AObj} {w:World} {l:Nat} {o:Obj} (o':Obj) (hw:WRel E G h w) (hl:w.heap[l]?=some o) (ho:o.isCells=false) (hown:G.own l=none) (htab:TabOk (w.putObj l o') G) (ds:List Deferred) :
  WRel ⟨w.putObj l o',G,htab,ds⟩ G h (w.putObj l o'):=by
 obtain ⟨h1,h2⟩:=hw.poke o' hl ho hown
 exact ⟨.refl _,h1,fun a v ha=>.inl ha,fun _ _=>rfl,Nat.le_refl _,rfl,rfl,rfl,fun b i hb=>⟨by rw [World.putObj_size];exact (hw.own b i hb).1,fun hk=>by
  have hk2:G.own b=none:=hk.2
  rw [hb] at hk2;cases hk2⟩,hw.fresh,h2⟩
theorem WRel.tabPoke {E:Env} {G:Gh} {h:List AObj} {w:World} {l:Nat} (o':Obj) (hw:WRel E G h w) (hl:∀ g p,qKg g=some p→g≠l):TabOk (w.putObj l o') G:=by
 obtain ⟨h1,h2⟩:=hw.tabOk
 refine ⟨h1,fun g p hg=>?_⟩
 obtain ⟨k1,o,k2,k3⟩:=h2 g p hg
 exact ⟨k1,o,by rw [World.putObj_heap_other (hl g p hg)];exact k2,k3⟩
def YieldOk (P:Program) (E:Env) (l:Nat) (x:AV) (h h':List AObj):Prop :=
 ∀ (G:Gh) (w:World) (v:Value),WRel E G h w→RepA G x v→∃ fn tmps assign body,(Instr.yield l #[v]).run P w=.ok (.round l fn tmps assign body) w ∧
  RoundIn Fence.wide 0 P l fn tmps assign body w fun e w'=>e=.returned (.bool true)∧∃ G',G.le G'∧WRel E G' h' w'
theorem qUb {P:Program} {E:Env} {o:Oper} {ρ:Operand→AV} {h h':List AObj} {f x:Operand} {ats:Array TypeId} {l:Nat} {xv:AV} (ho:o.op=.call ⟨.value f,#[x],ats⟩) (hf:ρ f=.fn (.yield l) [] []) (hx:ρ x=xv) (Y:YieldOk P E l xv h h') :
  OpRF Fence.wide P E o ρ h (fun a b=>a=.d (.bool true)∧b=h'):=by
 intro G a w hw hr Q
 have hx':RepA G (ρ x) (a.eval x):=hr x (by simp [ho,Op.operands,Call.operands])
 have hf':RepA G (ρ f) (a.eval f):=hr f (by simp [ho,Op.operands,Call.operands])
 rw [hx] at hx'
 rw [hf] at hf'
 obtain ⟨fn,tmps,assign,body,hy,hR⟩:=Y G w _ hw hx'
 generalize hfv:a.eval f=fv at hf'
 cases hf' with
 | fn _ fvs cvs h1 h2 h3 h4 =>
 refine ⟨fun _ _=>True.intro,?_⟩
 rw [Oper.semAt_eq _ _ _ (fun c hc=>by rw [ho] at hc;cases hc)]
 have e1:fvs = #[]:=Array.eq_empty_of_size_eq_zero h1
 have hrun:(execOp a.eval o).run P w=.ok (.round l fn tmps assign body) w:=by
  unfold execOp
  simp [ho,resolve,hfv,Deferred.ofValue,invoke,e1,hy]
 rw [hrun,Oper.uponIn_round]
 exact ⟨fun hh=>(by cases hh),hR.mono fun e w' ⟨he,G',k1,k2⟩=>by subst he;exact ⟨_,G',_,_,⟨rfl,rfl⟩,rfl,k1,k2,.d (.bool true)⟩⟩
def SeqOk (P:Program) (gf:FuncId) (cap:List AV) (ok:List AObj→Prop) (xs:List AV):Prop :=
 (∃ fn,P.funcs[gf]?=some fn∧(fn.name == "runtime.NumGoroutine")=false∧fn.body.isNone=false) ∧
 ∀ (E:Env) (l:Nat) (Hs:Nat→List AObj),E.ds=[]→(∀ k,ok (Hs k))→(∀ (k:Nat) (x:AV),xs[k]?=some x→YieldOk P E l x (Hs k) (Hs (k+1))) →
  WRel E E.G0 (Hs 0) E.w0→∀ cs:Array Value,cs.size=cap.length→(∀ (j:Nat) (x:AV) (v:Value),cap[j]?=some x→cs[j]?=some v→RepA E.G0 x v) →
   CallsIn Fence.wide 0 P gf (#[.func (.yield l) #[] #[]]++cs) E.w0 fun e w'=>(∃ v,e=.returned v)∧∃ G',WRel E G' (Hs xs.length) w'
theorem qOr {G:Gh} {args:List AV} {vals:Array Value} {n:Nat} (hvs:vals.size=args.length) (hargs:∀ (j:Nat) (x:AV) (v:Value),args[j]?=some x→vals[j]?=some v→RepA G x v) (t:Nat) :
  RepA G (look (pars args 0) t) ((vals++Array.replicate n undef).getD t undef):=by
 rw [qIn]
 by_cases ht:0≤t∧t < 0+args.length
 ·rw [if_pos ht]
  have ht2:t < args.length:=by omega
  have h1:args[t]?=some args[t]:=by simp [ht2]
  have h2:vals[t]?=some vals[t]:=by simp [hvs,ht2]
  have:=hargs t _ _ h1 h2
  simp only [Nat.sub_zero,h1,Option.getD_some]
  have hget:(vals++Array.replicate n undef).getD t undef=vals[t]:=by
   rw [Array.getD_eq_getD_getElem?,Array.getElem?_append_left (by omega),h2];rfl
  rw [hget];exact this
 ·rw [if_neg ht];exact .any _
theorem qOd {P:Program} {gf:FuncId} {fn:Func} {c:Code} {cap:List AV} {ok:List AObj→Prop} {xs:List AV} (hf:P.funcs[gf]?=some fn) (hb:fn.body=some c) (hname:(fn.name == "runtime.NumGoroutine")=false)
  (hrs:fn.results = #[]) (hn:Nat.ble (cap.length+1) fn.ntmps=true)
  (H:∀ (E:Env) (l:Nat) (Hs:Nat→List AObj),(∀ k,ok (Hs k))→(∀ (k:Nat) (x:AV),xs[k]?=some x→YieldOk P E l x (Hs k) (Hs (k+1))) →
   AWF Fence.wide P E fn.ntmps c (fun e τ h=>(e=.normal∨e=.ret)∧h=Hs xs.length) (look (pars (.fn (.yield l) [] []::cap) 0)) (Hs 0)):SeqOk P gf cap ok xs:=by
 refine ⟨⟨fn,hf,hname,by rw [hb];rfl⟩,fun E l Hs hds hok hy hw cs hcs hcap=>?_⟩
 have hle:=Nat.le_of_ble_eq_true hn
 have hsz:(#[Value.func (.yield l) #[] #[]]++cs).size=(AV.fn (.yield l) [] []::cap).length:=by simp [hcs,Nat.add_comm]
 refine callsIn_of_wp hf hb True.intro (wpIn_mono (H E l Hs hok hy _ E.w0 ⟨?_,hds.symm,E.G0,hw,fun t=>qOr hsz (fun j x v hx hv=>?_) t⟩) ?_)
 ·simp only [Array.size_append,Array.size_replicate]
  rw [Array.size_append] at hsz
  simp only [List.length_cons] at hsz
  omega
 ·cases j with
  | zero =>
   have hv':(#[Value.func (.yield l) #[] #[]]++cs)[0]?=some (.func (.yield l) #[] #[]):=by rw [Array.getElem?_append_left (by simp)];rfl
   rw [hv'] at hv
   simp at hx hv
   subst hx;subst hv
   exact .fn _ #[] #[] rfl rfl (fun j x v h=>by simp at h) (fun j x v h=>by simp at h)
  | succ j =>
   have hv':cs[j]?=some v:=by
    rw [Array.getElem?_append_right (by simp)] at hv
    simpa using hv
   exact hcap j x v (by simpa using hx) hv'
 ·rintro e a' w' ⟨τ',h',⟨he,rfl⟩,r1,r2,G',hw',ht⟩
  have fin:a'.defers=[]∧∃ v,(results fn a'.tmps).run P w'=.ok v w'∧((∃ u,Ending.returned v=.returned u)∧∃ G',WRel E G' (Hs xs.length) w'):=by
   obtain ⟨u,hu,_⟩:=resA_run (T:=.lf) (P:=P) ⟨rfl⟩ hw' ht (l:=[]) hrs rfl
   exact ⟨r2.trans hds,u,hu,⟨u,rfl⟩,G',hw'⟩
  rcases he with rfl | rfl
  ·exact fin
  ·exact fin
def marks (Ds:List Nat):List Deferred:=Ds.map fun D=>{ target:=.collected D,args:=#[] }
structure ELe (E E2:Env):Prop where
 conv:∀ G h w,WRel E2 G h w→WRel E G h w
 kle:∀ b,E.K b→E2.K b
 kheap:∀ b,E.K b→E2.w0.heap[b]?=E.w0.heap[b]?
 defs:∃ Ds:List Nat,E2.ds=marks Ds++E.ds∧Ds.Nodup∧∀ D,D∈Ds→E2.w0.heap[D]?=some (.deferred (some []))∧E2.K D∧¬ E.K D
theorem ELe.refl (E:Env):ELe E E:=⟨fun _ _ _ h=>h,fun _ h=>h,fun _ _=>rfl,[],rfl,List.nodup_nil,fun _ h=>by cases h⟩
theorem ELe.trans {A B C:Env} (h:ELe A B) (k:ELe B C):ELe A C:=by
 refine ⟨fun G l w hw=>h.conv _ _ _ (k.conv _ _ _ hw),fun b hb=>k.kle b (h.kle b hb),fun b hb=>(k.kheap b (h.kle b hb)).trans (h.kheap b hb),?_⟩
 obtain ⟨D1,a1,a2,a3⟩:=h.defs
 obtain ⟨D2,b1,b2,b3⟩:=k.defs
 refine ⟨D2++D1,by rw [b1,a1];simp [marks],List.nodup_append.2 ⟨b2,a2,fun x hx y hy e=>?_⟩,fun D hD=>?_⟩
 ·subst e;exact (b3 x hx).2.2 (a3 x hy).2.1
 ·rcases List.mem_append.1 hD with hD | hD
  ·exact ⟨(b3 D hD).1,(b3 D hD).2.1,fun hk=>(b3 D hD).2.2 (h.kle D hk)⟩
  ·obtain ⟨c1,c2,c3⟩:=a3 D hD
   exact ⟨(k.kheap D c2).trans c1,k.kle D c2,c3⟩
def AWx (P:Program) (E:Env) (N:Nat) (c:Code) (Q:Exit→(Nat→AV)→List AObj→Prop) (τ:Nat→AV) (h:List AObj):Prop :=
 ∀ a w,Rel E N τ h a w→c.wp P (fun ex a' w'=>∃ E2,ELe E E2∧∃ τ' h',Q ex τ' h'∧Rel E2 N τ' h' a' w') a w
theorem qYf {P:Program} {E:Env} {N:Nat} {c:Code} {Q:Exit→(Nat→AV)→List AObj→Prop} {τ:Nat→AV} {h:List AObj} (hc:AW P E N c Q τ h):AWx P E N c Q τ h :=
 fun a w r=>wp_mono (hc a w r) fun _ _ _ ⟨τ',h',q,r'⟩=>⟨E,ELe.refl E,τ',h',q,r'⟩
theorem qOi {P:Program} {E:Env} {N:Nat} {x y:Code} {Q:Exit→(Nat→AV)→List AObj→Prop} {τ:Nat→AV} {h:List AObj} (hx:AW P E N x (qLo (fun τ h=>AWx P E N y Q τ h) Q) τ h):AWx P E N (.seq x y) Q τ h :=
 fun a w r=>wp_seq (wp_mono (hx a w r) fun e a' w' ⟨τ',h',q,r'⟩=>by
  cases e with
  | normal=>exact q a' w' r'
  | _=>exact ⟨E,ELe.refl E,τ',h',q,r'⟩)
theorem qXb {P:Program} {E:Env} {N:Nat} {c:Code} {Q:Exit→(Nat→AV)→List AObj→Prop} {τ τ':Nat→AV} {h h':List AObj} (hs:∀ a w,Rel E N τ h a w→Rel E N τ' h' a w) (hc:AWx P E N c Q τ' h'):AWx P E N c Q τ h:=fun a w r=>hc a w (hs a w r)
theorem qTq {P:Program} {E:Env} {N:Nat} {id:Nat} {c:Code} {Q:Exit→(Nat→AV)→List AObj→Prop} {τ:Nat→AV} {h:List AObj} (hc:AWx P E N c (qFn id Q) τ h):AWx P E N (.block id c) Q τ h :=
 fun a w r=>wp_block (wp_mono (hc a w r) fun e a' w' ⟨E2,hE,τ',h',q,r'⟩=>by
  cases e with
  | exit id' =>
   simp only [qFn] at q
   by_cases hid:id'=id
   ·subst hid;simp only [Exit.inBlock,if_true]
    have hb:Nat.beq id' id'=true:=Nat.beq_refl id'
    rw [hb] at q;exact ⟨E2,hE,τ',h',q,r'⟩
   ·simp only [Exit.inBlock,hid,if_false]
    have hb:Nat.beq id' id=false:=by
     cases hb:Nat.beq id' id with
     | false=>rfl
     | true=>exact absurd (Nat.eq_of_beq_eq_true hb) hid
    rw [hb] at q;exact ⟨E2,hE,τ',h',q,r'⟩
  | _=>exact ⟨E2,hE,τ',h',q,r'⟩)
end Tdoc
namespace Tdoc
open Go Go.RowKit Go.Sort
theorem qJz {E:Env} {G:Gh} {h:List AObj} {w w':World} (hw:WRel E G h w) (hb:Below w.heap.size w w'):WRel E G h w':=qTe hw hb.block hb.size hb.os hb.tape hb.output
theorem qRg (w:World) (k:Nat) (os:Array Obj):Below w.heap.size w (grow (w.drewN k) os) :=
 ⟨rfl,rfl,rfl,by show w.heap.size≤(w.heap++os).size;simp,fun b hb=>by show (w.heap++os)[b]?=w.heap[b]?;rw [Array.getElem?_append_left hb]⟩
theorem qIz (w:World) (o:Obj):Below w.heap.size w (w.alloc o):=by rw [alloc_eq_grow];exact qRg w 0 #[o]
section
variable {P:Program} {f:FuncId} {args:List AV}
end
end Tdoc
