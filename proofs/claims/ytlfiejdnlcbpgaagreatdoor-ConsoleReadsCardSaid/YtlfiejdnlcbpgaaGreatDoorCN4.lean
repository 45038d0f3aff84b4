/- Part 4 of the proof: the texts R4 R5 R6 R7 R8 T1 TA TB TC TD TE TF UR D1 N1 TG I2 R35 R15. -/
import Derived.Test.YtlfiejdnlcbpgaaGreatDoorCN3
import Derived.Lib.SlBytesConst
import Derived.Lib.AtoiAll
import Derived.Lib.ItoaNum
import Derived.Lib.Join
import Derived.WalkKit
import Derived.ProofKit
import Derived.OpenShut
import Derived.JoinedCond
import Derived.Deep.Slices
import Derived.Deep.Strs
import Derived.Deep.Fields
import Derived.Lib.SmallJoins
import Derived.SizedLaws
import Derived.Laws.StructEq
set_option linter.unusedSimpArgs false
set_option linter.unusedVariables false
set_option maxRecDepth 100000
namespace Tdoc
open Go
theorem RepA.bm_inv {G:Gh} {v:Value} {i n:Nat} (h:RepA G (.bm i n) v):∃ a cap,v=.slice a n cap∧G.rt i n=some (a,cap):=by cases h with | bm a cap r _=>exact ⟨a,cap,rfl,r⟩
theorem RepA.bm_inv2 {G:Gh} {v:Value} {i n:Nat} (h:RepA G (.bm i n) v):∃ a cap,v=.slice a n cap∧G.rt i n=some (a,cap)∧(a=none→n=0):=by cases h with | bm a cap r hz=>exact ⟨a,cap,rfl,r,hz⟩
theorem RepA.bp_inv {G:Gh} {v:Value} {i n k:Nat} (h:RepA G (.bp i n k) v):∃ p cap,v=.pointer (some (p.add k))∧G.rt i n=some (some p,cap):=by cases h with | bp p cap _ r=>exact ⟨p,cap,rfl,r⟩
theorem WRel.bufAt {E:Env} {G G':Gh} {h:List AObj} {w w':World} {i bl:Nat} {ob ob':AObj} (hw:WRel E G h w) (hi:h[i]?=some ob) (hle:G.le G') (himm:∀ a,G'.imm a=G.imm a) (hown:∀ b,G'.own b=G.own b) (hloc:∀ j,G'.loc j=G.loc j)
  (hrt:∀ j n,j≠i→G'.rt j n=G.rt j n) (hbl:G.own bl=some i) (hcell:∀ a v,G.imm a=some v→w'.cell? a=some v) (hheap:∀ k,k≠bl→w'.heap[k]?=w.heap[k]?) (hs:w'.heap.size=w.heap.size)
  (ho:w'.os=w.os) (ht:w'.tape=w.tape) (hout:w'.output=w.output) (hob:ObjRel G' w' i ob'):WRel E G' (h.set i ob') w':=by
 have hKb:=(hw.own _ i hbl).2
 have hilt:i < h.length:=(List.getElem?_eq_some_iff.1 hi).1
 refine ⟨hw.le.trans hle,fun a v ha=>hcell a v (by rw [himm] at ha;exact ha),fun a v ha=>hw.immNew a v (by rw [himm] at ha;exact ha),fun b hb=>?_,by rw [hs];exact hw.size,ho.trans hw.os,ht.trans hw.tape,hout.trans hw.output,
  fun b j hb=>by rw [hs];rw [hown] at hb;exact hw.own b j hb,fun j hj=>?_,fun j o hj=>?_⟩
 ·rw [hheap b (fun hh=>hKb (hh▸hb))];exact hw.keep b hb
 ·simp only [List.length_set] at hj
  have:=hw.fresh j hj
  exact ⟨by rw [hloc];exact this.1,fun n=>by rw [hrt j n (by omega)];exact this.2 n⟩
 ·rw [List.getElem?_set] at hj
  by_cases hij:i=j
  ·subst hij
   simp only [if_true,hilt] at hj
   cases hj
   exact hob
  ·rw [if_neg hij] at hj
   refine (hw.obj j o hj).keep hle (fun b hb=>⟨hheap b (fun hh=>?_),fun a ha=>himm a⟩) (fun n hn=>by rw [hrt j n (fun e=>hij e.symm)];exact hn) (fun hn=>by rw [hloc];exact hn)
   subst hh
   rw [hbl] at hb;cases hb;exact hij rfl
def qMj (G:Gh) (i n:Nat) (x:Option Addr×Nat):Gh:={ G with rt:=fun j m=>if j=i∧m=n then some x else G.rt j m }
theorem rtSet_le {G:Gh} {i n:Nat} {x:Option Addr×Nat} (h:G.rt i n=none):G.le (qMj G i n x):=by
 refine ⟨fun _ _ h=>h,fun _ _ h=>h,fun j m y hy=>?_,fun _ _ h=>h⟩
 show (if j=i∧m=n then _ else G.rt j m)=some y
 split
 ·rename_i hc;rw [hc.1,hc.2,h] at hy;cases hy
 ·exact hy
theorem rtSet_at (G:Gh) (i n:Nat) (x:Option Addr×Nat):(qMj G i n x).rt i n=some x:=by show (if i=i∧n=n then _ else _)=_;simp
theorem rtSet_ne {G:Gh} {i n j m:Nat} {x:Option Addr×Nat} (h:¬ (j=i∧m=n)):(qMj G i n x).rt j m=G.rt j m:=by show (if j=i∧m=n then _ else _)=_;rw [if_neg h]
section
variable {P:Program} {E:Env} {T:Tr} {o:Oper} {ρ:Operand→AV} {h h':List AObj} {v:AV}
theorem bufAddr_ok (hT:TOk P T) {t sz i n:Nat} {x ix:Operand} {k:IntKind} {j:Int} (ho:o.op=.indexAddr t x ix) (hs:qCk T t sz=true)
  (hx:ρ x=.bm i n) (hix:ρ ix=.d (.int k j)) (h0:0≤j∧j < (n:Int)):OpP P o ρ (.bp i n (j.toNat*sz)):=by
 intro G e w hi hr
 have hx':RepA G (ρ x) (e x):=hr x (by simp [ho,Op.operands])
 have hix':RepA G (ρ ix) (e ix):=hr ix (by simp [ho,Op.operands])
 rw [hx] at hx';rw [hix] at hix'
 obtain ⟨et,ie,h1,h2,h3⟩:=sliceElem_ok hT hs
 obtain ⟨a,cap,hv,hl,hz⟩:=hx'.bm_inv2
 cases a with
 | none=>have:=hz rfl;omega
 | some p =>
  refine ⟨.pointer (some (p.add (j.toNat*sz))),?_,.bp p cap _ hl⟩
  unfold execOp
  simp only [ho,Sem.run_bind]
  rw [hv,hix'.int_inv]
  simp [Instr.indexAt,asIntOf,run_underlying h1,h0.1,h0.2,h2.run_size,h3]
theorem bufLoad_ok (hT:TOk P T) {t i n off sz:Nat} {ti:TI} {x:Operand} {cells:List AV} (ho:o.op=.load t x) (hx:ρ x=.bp i n off) (hi:h[i]?=some (.buf sz n cells)) (hf:T.find t=some ti) (ha:ti.agg=false)
  (hv:cells[off]?=some v):OpS P E o ρ h v h :=
 qBv fun G e w hw hr=>by
  have hx':RepA G (ρ x) (e x):=hr x (by simp [ho,Op.operands])
  rw [hx] at hx'
  obtain ⟨p,cap,hp,hl⟩:=hx'.bp_inv
  obtain ⟨a',cap',hl',_,hb1,hb2,hb3,hb4⟩:=hw.obj i _ hi
  rw [hl] at hl';cases hl'
  have hlt:=(List.getElem?_eq_some_iff.1 hv).1
  have hcap:0 < cap:=by
   rcases Nat.eq_zero_or_pos cap with h0 | h0
   ·have:n=0:=by omega
    subst this;simp at hb1;rw [hb1] at hlt;simp at hlt
   ·exact h0
  obtain ⟨q1,q2,q3,q4⟩:=hb4 p rfl hcap
  obtain ⟨u,u1,u2,u3⟩:=q3 off v hv
  have hti:=hT.at hf
  refine ⟨u,w,G,?_,.refl G,hw,u3⟩
  unfold execOp
  simp [ho,Instr.loadAt,hp,Instr.sureAddr,loadVar,hti.run_agg,ha,u1]
theorem bufStore_ok (hT:TOk P T) {t i n off sz:Nat} {ti:TI} {x y:Operand} {cells:List AV} (ho:o.op=.store t x y) (hx:ρ x=.bp i n off) (hi:h[i]?=some (.buf sz n cells)) (hf:T.find t=some ti) (hsz:Nat.beq ti.size 1=true)
  (hs:qDd (ρ y)=true) (hlt:off < cells.length):OpS P E o ρ h .any (h.set i (.buf sz n (cells.set off (ρ y)))) :=
 qLs fun G e w hw hr=>by
  have hx':RepA G (ρ x) (e x):=hr x (by simp [ho,Op.operands])
  have hy':RepA G (ρ y) (e y):=hr y (by simp [ho,Op.operands])
  rw [hx] at hx'
  obtain ⟨p,cap,hp,hl⟩:=hx'.bp_inv
  obtain ⟨a',cap',hl',hlater,hb1,hb2,hb3,hb4⟩:=hw.obj i _ hi
  rw [hl] at hl';cases hl'
  have hcap:0 < cap:=by
   rcases Nat.eq_zero_or_pos cap with h0 | h0
   ·have:n=0:=by omega
    subst this;simp at hb1;rw [hb1] at hlt;simp at hlt
   ·exact h0
  obtain ⟨q1,q2,q3,q4⟩:=hb4 p rfl hcap
  have hcs:n*sz≤cap*sz:=Nat.mul_le_mul_right _ hb2
  have hone:=qMs hy' hs
  have hti:=hT.at hf
  have h1:=Nat.eq_of_beq_eq_true hsz
  have hspot:(p.add off).spot=none:=qFr p q1 _
  obtain ⟨w',r1,r2,r3,r4,r5,r6,r7,r8,r9⟩:=qFj (P:=P) hspot [e y] 0 w (fun k u hk=>by
    cases k with
    | zero=>simp at hk;subst hk;exact hone
    | succ k=>simp at hk) (fun k hk=>by
    simp at hk;subst hk
    obtain ⟨c1,c2,_⟩:=q4 off (by omega)
    rw [Nat.zero_add,show (p.add off).add 0=p.add off by simp [Addr.add]]
    exact ⟨c1,c2⟩)
  have hadd0:(p.add off).add 0=p.add off:=by simp [Addr.add]
  have hother:∀ j,j≠off→w'.cell? (p.add j)=w.cell? (p.add j):=fun j hj=>r3 _ (fun k hk hh=>by
   simp at hk;subst hk
   rw [Nat.zero_add,hadd0,qCq p q1,qCq p q1] at hh
   injection hh with _ h5 _
   omega)
  refine ⟨w',G,?_,.refl G,hw.bufAt (bl:=p.block) hi (.refl G) (fun _=>rfl) (fun _=>rfl) (fun _=>rfl) (fun _ _ _=>rfl) q2 (fun a u hu=>?_) (fun k hk=>r5 k (by rw [qCs];exact hk)) r6 r7 r8 r9 ?_⟩
  ·unfold execOp
   have hsz':(e y).cells.size=ti.size:=by rw [qLc hone,h1];rfl
   simp [ho,Instr.storeAt,hp,Instr.sureAddr,storeVar,hti.run_size,h1,qLc hone,r1]
  ·rw [r3 a (fun k hk hh=>?_)]
   ·exact hw.imm a u hu
   ·simp at hk;subst hk
    rw [Nat.zero_add,hadd0] at hh
    have:=(q4 off (by omega)).2.2
    rw [← hh,hu] at this;cases this
  ·refine ⟨some p,cap,hl,hlater,by simpa using hb1,hb2,hb3,fun p' hp' _=>?_⟩
   cases hp'
   refine ⟨q1,q2,fun j c hj=>?_,fun j hj=>?_⟩
   ·rw [List.getElem?_set] at hj
    by_cases hjo:off=j
    ·subst hjo
     simp only [if_true,hlt] at hj
     cases hj
     refine ⟨e y,?_,hone,hy'⟩
     have:=r2 0 (e y) (by simp)
     rwa [Nat.zero_add,hadd0] at this
    ·rw [if_neg hjo] at hj
     obtain ⟨u,u1,u2,u3⟩:=q3 j c hj
     exact ⟨u,by rw [hother j (fun e=>hjo e.symm)];exact u1,u2,u3⟩
   ·obtain ⟨⟨u,c1⟩,c2,c3⟩:=q4 j hj
    refine ⟨?_,by rw [r4];exact c2,c3⟩
    by_cases hjo:j=off
    ·subst hjo
     refine ⟨e y,?_⟩
     have:=r2 0 (e y) (by simp)
     rwa [Nat.zero_add,hadd0] at this
    ·exact ⟨u,by rw [hother j hjo];exact c1⟩
def qEi (es:List (List Dat)):List AV:=es.flatten.map .d
theorem flatAV_length {sz:Nat}:∀ {es:List (List Dat)},(∀ e,e∈es→e.length=sz)→(qEi es).length=es.length*sz
 | [],_=>by simp [qEi]
 | a::l,h=>by
  have:=flatAV_length (es:=l) (fun e he=>h e (by simp [he]))
  simp only [qEi,List.length_map] at this ⊢
  rw [List.flatten_cons,List.length_append,this,h a (by simp),List.length_cons,Nat.succ_mul];omega
theorem qFc {sz:Nat}:∀ {es:List (List Dat)} {k:Nat} {d:Dat},(∀ e,e∈es→e.length=sz)→es.flatten[k]?=some d→∃ (i j:Nat) (e:List Dat),es[i]?=some e∧e[j]?=some d∧k=i*sz+j
 | [],k,d,_,h=>by simp at h
 | a::l,k,d,hl,h=>by
  rw [List.flatten_cons] at h
  have ha:=hl a (by simp)
  by_cases hk:k < a.length
  ·rw [List.getElem?_append_left hk] at h
   exact ⟨0,k,a,by simp,h,by simp⟩
  ·rw [List.getElem?_append_right (by omega)] at h
   obtain ⟨i,j,e,h1,h2,h3⟩:=qFc (fun e he=>hl e (by simp [he])) h
   exact ⟨i+1,j,e,by simpa using h1,h2,by rw [Nat.succ_mul];omega⟩
theorem bufAppG_ok (hT:TOk P T) {t t2 sz by_ i n m:Nat} {s x:Operand} {cells cs2:List AV} (ho:o.op=.call { callee:=.builtin .append,args:=#[s,x],argTypes:=#[t,t2] })
  (ht:vAg T t=some (sz,by_)) (ht2:qYk T t2=true) (hs:ρ s=.bm i n) (hi:h[i]?=some (.buf sz n cells)) (hl2:cs2.length=m*sz)
  (hsrc:∀ (G:Gh) (xv:Value) (w:World),WRel E G h w→RepA G (ρ x) xv→∃ news,Src P w xv m sz news∧news.length=m*sz∧(∀ (k:Nat) (u:Value),news[k]?=some u→qHy u=true)∧∀ (j:Nat) (c:AV),cs2[j]?=some c→∃ u,news[j]?=some u∧RepA G c u)
  (hb:(n+m)*(by_+1)≤140737488355328) :
  OpS P E o ρ h (.bm i (n+m)) (h.set i (.buf sz (n+m) (cells++cs2))) :=
 qBv fun G e w hw hr=>by
  have hs':RepA G (ρ s) (e s):=hr s (by simp [ho,Op.operands,Call.operands])
  have hx':RepA G (ρ x) (e x):=hr x (by simp [ho,Op.operands,Call.operands])
  rw [hs] at hs'
  obtain ⟨et,ie,h1,h2,rfl,rfl,hzl⟩:=appT_ok hT ht
  obtain ⟨d2,h3,h4⟩:=srcT_ok hT ht2
  obtain ⟨news,n1,n2,n3,n4⟩:=hsrc G _ w hw hx'
  obtain ⟨a,cap,hsv,hrt⟩:=hs'.bm_inv
  obtain ⟨a',cap',hrt',hlater,hb1,hcap,hb3,hb4⟩:=hw.obj i _ hi
  rw [hrt] at hrt';cases hrt'
  have hfl:=hl2
  have hex:(execOp e o).run P w=((Builtin.append_ #[t,t2] o.type #[e s,e x]).run P w).andThen fun u w'=>.ok (.value u) w':=by
   unfold execOp
   simp [ho,resolve,invoke,builtin]
  have hilt:i < h.length:=(List.getElem?_eq_some_iff.1 hi).1
  have hnewc:∀ (G':Gh),G.le G'→∀ (j:Nat) (c:AV),(cs2)[j]?=some c→∃ u,news[j]?=some u∧qHy u=true∧RepA G' c u:=by
   intro G' hle j c hj
   obtain ⟨u,hu,hru⟩:=n4 j c hj
   exact ⟨u,hu,n3 _ u hu,hru.mono hle⟩
  by_cases hz:m=0
  ·subst hz
   have hn:news=[]:=by simpa using n2
   have hc:cs2=[]:=by simpa using hl2
   subst hn
   subst hc
   have hrun:=qCu (ty:=o.type) h1 h3 h4 h2 (w':=w) (a:=a) (n:=n) (cap:=cap) n1 (by simpa using hcap) (by cases a <;> simp [storeCells])
   have hset:h.set i (.buf ie.size (n+0) (cells++[]))=h:=by
    apply List.ext_getElem?
    intro j
    rw [List.getElem?_set]
    split
    ·rename_i e;subst e
     rw [hi];simp [hilt]
    ·rfl
   refine ⟨e s,w,G,?_,.refl G,by rw [hset];exact hw,by rw [hsv];exact .bm a cap hrt (by obtain ⟨a2,c2,e2,_,hz2⟩:=hs'.bm_inv2;rw [hsv] at e2;cases e2;exact hz2)⟩
   rw [hex,hsv,hrun];simp
  ·have hpos:0 < m:=Nat.pos_of_ne_zero hz
   have hrtn:G.rt i (n+m)=none:=hlater _ (by omega)
   by_cases hfit:n+m≤cap
   ·cases a with
    | none=>have:=hb3.1 rfl;omega
    | some p =>
     obtain ⟨p1,p2,p3,p4⟩:=hb4 p rfl (by omega)
     have hm1:(n+m)*ie.size≤cap*ie.size:=Nat.mul_le_mul_right _ hfit
     rw [Nat.add_mul] at hm1
     have hspot:(p.add (n*ie.size)).spot=none:=qFr p p1 _
     obtain ⟨w',q1,q2,q3,q4,q5,q6,q7,q8,q9⟩:=qFj (P:=P) hspot news 0 w n3 (fun k hk=>by
      rw [Nat.zero_add,qDw p p1]
      obtain ⟨c1,c2,_⟩:=p4 (n*ie.size+k) (by omega)
      exact ⟨c1,c2⟩)
     have hrun:=qCu (ty:=o.type) h1 h3 h4 h2 (w':=w') (a:=some p) (n:=n) (cap:=cap) n1 hfit (by simpa using q1)
     have hold:∀ j,¬ (n*ie.size≤j∧j < n*ie.size+news.length)→w'.cell? (p.add j)=w.cell? (p.add j):=fun j hj=>q3 _ (fun k hk hh=>by
      rw [Nat.zero_add,qDw p p1,qCq p p1,qCq p p1] at hh
      injection hh with _ h5 _
      omega)
     have hnw:∀ (k:Nat) (u:Value),news[k]?=some u→w'.cell? (p.add (n*ie.size+k))=some u:=fun k u hu=>by
      have:=q2 k u hu
      rwa [Nat.zero_add,qDw p p1] at this
     have hle:=rtSet_le (x:=(some p,cap)) hrtn
     refine ⟨.slice (some p) (n+m) cap,w',qMj G i (n+m) (some p,cap),by rw [hex,hsv,hrun];rfl,hle,?_,.bm _ _ (rtSet_at _ _ _ _) (fun h=>by cases h)⟩
     refine hw.bufAt (bl:=p.block) hi hle (fun _=>rfl) (fun _=>rfl) (fun _=>rfl) (fun j m hj=>rtSet_ne (fun hc=>hj hc.1)) p2 (fun a u hu=>?_) (fun k hk=>q5 k (by rw [qCs];exact hk)) q6 q7 q8 q9 ?_
     ·rw [q3 a (fun k hk hh=>?_)]
      ·exact hw.imm a u hu
      ·rw [Nat.zero_add,qDw p p1] at hh
       have:=(p4 (n*ie.size+k) (by omega)).2.2
       rw [← hh,hu] at this;cases this
     ·refine ⟨some p,cap,rtSet_at _ _ _ _,fun n' hn'=>by rw [rtSet_ne (by omega)];exact hlater n' (by omega),by rw [List.length_append,hb1,hfl,Nat.add_mul],hfit,hb3,fun p' hp' _=>?_⟩
      cases hp'
      refine ⟨p1,p2,fun j c hj=>?_,fun j hj=>?_⟩
      ·by_cases hjl:j < cells.length
       ·rw [List.getElem?_append_left hjl] at hj
        obtain ⟨u,u1,u2,u3⟩:=p3 j c hj
        exact ⟨u,by rw [hold j (by omega)];exact u1,u2,u3.mono hle⟩
       ·rw [List.getElem?_append_right (by omega)] at hj
        obtain ⟨u,u1,u2,u3⟩:=hnewc _ hle _ c hj
        refine ⟨u,?_,u2,u3⟩
        have:=hnw _ u u1
        rwa [show n*ie.size+(j-cells.length)=j by omega] at this
      ·obtain ⟨⟨u,c1⟩,c2,c3⟩:=p4 j hj
       refine ⟨?_,by rw [q4];exact c2,c3⟩
       by_cases hjn:n*ie.size≤j∧j < n*ie.size+news.length
       ·have hk:j-n*ie.size < news.length:=by omega
        have:=hnw (j-n*ie.size) news[j-n*ie.size] (by simp [hk])
        exact ⟨_,by rwa [show n*ie.size+(j-n*ie.size)=j by omega] at this⟩
       ·exact ⟨u,by rw [hold j hjn];exact c1⟩
   ·-- a new row
    have hsrc:∃ olds:List Value,Src P w (e s) n ie.size olds∧olds.length=n*ie.size∧∀ (j:Nat) (c:AV),cells[j]?=some c→∃ u,olds[j]?=some u∧qHy u=true∧RepA G c u:=by
     by_cases hc0:0 < cap
     ·cases a with
      | none=>have:=hb3.1 rfl;omega
      | some p =>
       obtain ⟨p1,p2,p3,p4⟩:=hb4 p rfl hc0
       let f:Nat→Value:=fun j=>(w.cell? (p.add j)).getD undef
       have hm:n*ie.size≤cap*ie.size:=Nat.mul_le_mul_right _ hcap
       refine ⟨(List.range (n*ie.size)).map f,fun w'' hh=>?_,by simp,fun j c hj=>?_⟩
       ·have hld:(loadCells p (n*ie.size)).run P w''=.ok ((List.range (n*ie.size)).map f).toArray w'':=by
         refine run_loadCells (P:=P) w'' p (n*ie.size) f (fun j hj=>?_)
         obtain ⟨⟨u,c1⟩,_⟩:=p4 j (by omega)
         rw [cell?_heap hh];simp [f,c1]
        rw [hsv]
        refine ⟨rfl,?_⟩
        simp [Builtin.firstCells,hld]
       ·have hjl:j < n*ie.size:=by rw [← hb1];exact (List.getElem?_eq_some_iff.1 hj).1
        obtain ⟨u,u1,u2,u3⟩:=p3 j c hj
        exact ⟨u,by simp [hjl,f,u1],u2,u3⟩
     ·have hn0:n=0:=by omega
      subst hn0
      refine ⟨[],fun w'' hh=>?_,by simp,fun j c hj=>?_⟩
      ·rw [hsv]
       refine ⟨rfl,?_⟩
       cases a with
       | none=>simp [Builtin.firstCells]
       | some p =>
        have:=run_loadCells (P:=P) w'' p 0 (fun _=>undef) (fun j hj=>by omega)
        simp only [Builtin.firstCells,Nat.zero_mul]
        simpa using this
      ·have:=(List.getElem?_eq_some_iff.1 hj).1
       rw [hb1] at this;simp at this
    obtain ⟨olds,o1,o2,o3⟩:=hsrc
    obtain ⟨newCap,rest,w',c1,c2,c3,c4,c5,c6,c7⟩:=qEt (ty:=o.type) h1 h3 h4 h2 hsv o1 n1 (by omega) hb
    let cs:=olds.toArray++news.toArray++rest
    have hown:G.own w.heap.size=none:=by
     cases ho:G.own w.heap.size with
     | none=>rfl
     | some j=>have:=(hw.own _ _ ho).1;omega
    have hK:¬ E.K w.heap.size:=fun hk=>by have:=hw.size;have:=hk.1;omega
    let G':Gh:={ qMj G i (n+m) (some ⟨w.heap.size,0,none⟩,newCap) with own:=fun b=>if b=w.heap.size then some i else G.own b }
    have hle:G.le G':=by
     refine ⟨fun _ _ x=>x,fun _ _ x=>x,(rtSet_le hrtn).rt,fun b j hb'=>?_⟩
     show (if b=w.heap.size then some i else G.own b)=some j
     split
     ·rename_i hc;subst hc;rw [hown] at hb';cases hb'
     ·exact hb'
    have hsum:(n+m)*ie.size+(newCap-(n+m))*ie.size=newCap*ie.size:=by
     rw [← Nat.add_mul];congr 1;omega
    have hcs:cs.size=newCap*ie.size:=by
     have:cs.size=olds.length+news.length+rest.size:=by simp [cs];omega
     rw [this,c4,hzl,o2,n2,← Nat.add_mul,hsum]
    have hcell:w'.heap[w.heap.size]?=some (.cells cs et):=by rw [c3];exact Array.getElem?_push_size
    have hcj:∀ j,w'.cell? ((⟨w.heap.size,0,none⟩:Addr).add j)=cs[j]?:=fun j=>by
     rw [qCr,Nat.zero_add];simp [World.cell?,hcell]
    refine ⟨_,w',G',by rw [hex,c2];rfl,hle,?_,.bm _ _ (rtSet_at _ _ _ _) (fun h=>by cases h)⟩
    refine ⟨hw.le.trans hle,fun a u hu=>?_,hw.immNew,fun b hb'=>?_,by rw [c3];simp;have:=hw.size;omega,c5.trans hw.os,c6.trans hw.tape,c7.trans hw.output,fun b j hb'=>?_,fun j hj=>?_,fun j ob hj=>?_⟩
    ·have hcc:=hw.imm a u hu
     rw [World.cell?_of_block (w:=w) (by rw [c3];exact qBi _ _ _ (World.block_lt_of_cell? _ _ hcc))]
     exact hcc
    ·rw [c3,qBi _ _ _ (Nat.lt_of_lt_of_le hb'.1 hw.size)];exact hw.keep b hb'
    ·have hb2:(if b=w.heap.size then some i else G.own b)=some j:=hb'
     split at hb2
     ·rename_i hc;subst hc;exact ⟨by rw [c3];simp,hK⟩
     ·have:=hw.own b j hb2;exact ⟨by rw [c3];simp;omega,this.2⟩
    ·simp only [List.length_set] at hj
     have:=hw.fresh j hj
     exact ⟨this.1,fun m=>by show (qMj G i _ _).rt j m=none;rw [rtSet_ne (by omega)];exact this.2 m⟩
    ·rw [List.getElem?_set] at hj
     by_cases hij:i=j
     ·subst hij
      simp only [if_true,hilt] at hj
      cases hj
      refine ⟨some ⟨w.heap.size,0,none⟩,newCap,rtSet_at _ _ _ _,fun n' hn'=>by show (qMj G i _ _).rt i n'=none;rw [rtSet_ne (by omega)];exact hlater n' (by omega),by rw [List.length_append,hb1,hfl,Nat.add_mul],c1,⟨fun h=>(by cases h),fun p' hp'=>(by cases hp';rfl)⟩,fun p' hp' _=>?_⟩
      cases hp'
      refine ⟨rfl,by show (if w.heap.size=w.heap.size then _ else _)=_;simp,fun k c hk=>?_,fun k hk=>⟨?_,?_,?_⟩⟩
      ·rw [hcj]
       by_cases hkl:k < cells.length
       ·rw [List.getElem?_append_left hkl] at hk
        obtain ⟨u,u1,u2,u3⟩:=o3 k c hk
        refine ⟨u,?_,u2,u3.mono hle⟩
        have hko:k < olds.length:=(List.getElem?_eq_some_iff.1 u1).1
        simp only [cs]
        rw [Array.getElem?_append_left (by simp;omega),Array.getElem?_append_left (by simpa using hko)]
        simpa using u1
       ·rw [List.getElem?_append_right (by omega)] at hk
        obtain ⟨u,u1,u2,u3⟩:=hnewc _ hle _ c hk
        refine ⟨u,?_,u2,u3⟩
        have hkn:=(List.getElem?_eq_some_iff.1 u1).1
        simp only [cs]
        rw [Array.getElem?_append_left (by simp;omega),Array.getElem?_append_right (by simp;omega)]
        simp only [List.size_toArray,List.getElem?_toArray]
        rw [o2,← hb1];exact u1
      ·rw [hcj];exact ⟨cs[k]'(by rw [hcs];exact hk),by simp [hcs,hk]⟩
      ·rw [qCr];simp [World.frozen?,c3]
      ·cases hg:G.imm ((⟨w.heap.size,0,none⟩:Addr).add k) with
       | none=>exact hg
       | some u=>have:=World.block_lt_of_cell? _ _ (hw.imm _ u hg);rw [qCs] at this;simp at this
     ·rw [if_neg hij] at hj
      refine (hw.obj j ob hj).keep hle (fun b hb'=>⟨by rw [c3];exact qBi _ _ _ (hw.own b j hb').1,fun a ha=>rfl⟩) (fun m hm=>by show (qMj G i _ _).rt j m=none;rw [rtSet_ne (fun hc=>hij hc.1.symm)];exact hm) (fun hn=>hn)
theorem bufApp_ok (hT:TOk P T) {t t2 sz by_ i n:Nat} {s x:Operand} {cells:List AV} {es2:List (List Dat)} (ho:o.op=.call { callee:=.builtin .append,args:=#[s,x],argTypes:=#[t,t2] })
  (ht:vAg T t=some (sz,by_)) (ht2:qYk T t2=true) (hs:ρ s=.bm i n) (hi:h[i]?=some (.buf sz n cells)) (hx:qKb sz (ρ x)=some es2)
  (hb:(n+es2.length)*(by_+1)≤140737488355328) :
  OpS P E o ρ h (.bm i (n+es2.length)) (h.set i (.buf sz (n+es2.length) (cells++qEi es2))):=by
 have hlen2:∀ G xv w,WRel E G h w→RepA G (ρ x) xv→∀ e,e∈es2→e.length=sz:=fun G xv w hw hr=>(asNew_src (P:=P) hw.imm hr hx).1
 intro G e w hw hr
 have hx':=hr x (by simp [ho,Op.operands,Call.operands])
 have hl:=hlen2 G _ w hw hx'
 refine bufAppG_ok (m:=es2.length) (cs2:=qEi es2) hT ho ht ht2 hs hi (flatAV_length hl) (fun G xv w hw hx=>?_) hb G e w hw hr
 obtain ⟨_,news,n1,n2,n3,n4⟩:=asNew_src (P:=P) hw.imm hx ‹qKb sz (ρ x)=some es2›
 refine ⟨news,n1,n2,n3,fun j c hj=>?_⟩
 simp only [qEi,List.getElem?_map,Option.map_eq_some_iff] at hj
 obtain ⟨d,hd,rfl⟩:=hj
 obtain ⟨i',j',el,e1,e2,rfl⟩:=qFc hl hd
 obtain ⟨u,hu,hru⟩:=n4 i' el j' d e1 e2
 exact ⟨u,hu,.d hru⟩
end
theorem vAm {E:Env} {N:Nat} {l:List (Nat×AV)} {h:List AObj} {t sz i:Nat} (ht:look l t=.sl sz [] .full∨look l t=.nils) (hi:h[i]?=some .room) :
  ∀ a w,Rel E N (look l) h a w→Rel E N (look ((t,.bm i 0)::l)) (h.set i (.buf sz 0 [])) a w:=by
 intro a w ⟨h1,h2,G,hw,hr⟩
 have hx:=hr t
 obtain ⟨p,hv,hsp⟩:∃ p:Option Addr,a.tmps.getD t undef=.slice p 0 0∧∀ q,p=some q→q.spot=none:=by
  rcases ht with ht | ht
  ·rw [ht] at hx
   generalize a.tmps.getD t undef=u at hx
   cases hx with
   | sl r k =>
    obtain ⟨p,rfl,hk⟩:=k
    exact ⟨p,rfl,hk⟩
  ·rw [ht] at hx
   generalize a.tmps.getD t undef=u at hx
   cases hx;exact ⟨none,rfl,fun q hq=>by cases hq⟩
 have hrm:=hw.obj i _ hi
 have hilt:i < h.length:=(List.getElem?_eq_some_iff.1 hi).1
 have hle:=rtSet_le (G:=G) (i:=i) (n:=0) (x:=(p,0)) (hrm.2 0)
 refine ⟨h1,h2,qMj G i 0 (p,0),⟨hw.le.trans hle,hw.imm,hw.immNew,hw.keep,hw.size,hw.os,hw.tape,hw.output,hw.own,fun j hj=>?_,fun j o hj=>?_⟩,fun s=>?_⟩
 ·simp only [List.length_set] at hj
  have:=hw.fresh j hj
  exact ⟨this.1,fun n=>by rw [rtSet_ne (by omega)];exact this.2 n⟩
 ·rw [List.getElem?_set] at hj
  by_cases hij:i=j
  ·subst hij
   simp only [if_true,hilt] at hj
   cases hj
   exact ⟨p,0,rtSet_at _ _ _ _,fun n' hn'=>by rw [rtSet_ne (by omega)];exact hrm.2 n',by simp,Nat.le_refl _,⟨fun _=>rfl,hsp⟩,fun _ _ hc=>by omega⟩
  ·rw [if_neg hij] at hj
   exact (hw.obj j o hj).keep hle (fun b hb=>⟨rfl,fun _ _=>rfl⟩) (fun n hn=>by rw [rtSet_ne (fun hc=>hij hc.1.symm)];exact hn) (fun hn=>hn)
 ·show RepA _ (bif Nat.beq s t then _ else look l s) _
  cases hb:Nat.beq s t with
  | false=>exact (hr s).mono hle
  | true =>
   obtain rfl:=Nat.eq_of_beq_eq_true hb
   rw [hv]
   exact .bm _ _ (rtSet_at _ _ _ _) (fun _=>rfl)
theorem qOk {E:Env} {N:Nat} {l:List (Nat×AV)} {h:List AObj} {t i n sz:Nat} {cells:List AV} {es:List (List Dat)} (ht:look l t=.bm i n) (hi:h[i]?=some (.buf sz n cells)) (hn:es.length=n) (hd:RowDat cells 0 sz es) :
  ∀ a w,Rel E N (look l) h a w→Rel E N (look ((t,.sl sz es (.right i))::l)) (h.set i (.right sz n)) a w:=by
 intro a w ⟨h1,h2,G,hw,hr⟩
 have hx:=hr t
 rw [ht] at hx
 obtain ⟨p,cap,hv,hl⟩:=hx.bm_inv
 obtain ⟨p',cap',hl',hlater,hb1,hb2,hb3,hb4⟩:=hw.obj i _ hi
 rw [hl] at hl';cases hl'
 have hilt:i < h.length:=(List.getElem?_eq_some_iff.1 hi).1
 cases p with
 | none =>
  have hc0:=hb3.1 rfl
  have hn0:n=0:=by omega
  have hes:es=[]:=List.length_eq_zero_iff.1 (by omega)
  subst hn0;subst hes;subst hc0
  refine ⟨h1,h2,G,⟨hw.le,hw.imm,hw.immNew,hw.keep,hw.size,hw.os,hw.tape,hw.output,hw.own,fun j hj=>hw.fresh j (by simpa using hj),fun j o hj=>?_⟩,fun s=>?_⟩
  ·rw [List.getElem?_set] at hj
   by_cases hij:i=j
   ·subst hij
    simp only [if_true,hilt] at hj
    cases hj
    exact ⟨none,0,hl,Nat.le_refl _,hlater,fun hlt=>by omega⟩
   ·rw [if_neg hij] at hj;exact hw.obj j o hj
  ·show RepA _ (bif Nat.beq s t then _ else look l s) _
   cases hb:Nat.beq s t with
   | false=>exact hr s
   | true =>
    obtain rfl:=Nat.eq_of_beq_eq_true hb
    rw [hv]
    exact .sl (.nil sz) ⟨none,0,rfl,hl⟩
 | some p =>
  have hsp:=hb3.2 p rfl
  by_cases hcap0:0 < cap
  ·obtain ⟨q1,q2,q3,q4⟩:=hb4 p rfl hcap0
   have hns:n*sz≤cap*sz:=Nat.mul_le_mul_right _ hb2
   let inn:Addr→Prop:=fun a=>a.block=p.block∧a.spot=none∧p.off≤a.off∧a.off < p.off+n*sz
   let G':Gh:={ G with imm:=fun a=>if a.block=p.block∧a.spot=none∧p.off≤a.off∧a.off < p.off+n*sz then w.cell? a else G.imm a }
   have hle:G.le G':=by
    refine ⟨fun x u hu=>?_,fun _ _ h=>h,fun _ _ _ h=>h,fun _ _ h=>h⟩
    have hne:¬ (x.block=p.block∧x.spot=none∧p.off≤x.off∧x.off < p.off+n*sz):=fun hh=>by
     have:=(q4 (x.off-p.off) (by omega)).2.2
     rw [qCq p q1,← hh.1,show p.off+(x.off-p.off)=x.off by omega,← hh.2.1] at this
     rw [show (⟨x.block,x.off,x.spot⟩:Addr)=x from rfl,hu] at this
     cases this
    show (if _ then _ else _)=_
    rw [if_neg hne];exact hu
   have hKb:=(hw.own _ i q2).2
   have hat:∀ k,k < n*sz→G'.imm (p.add k)=w.cell? (p.add k):=fun k hk=>by
    show (if _ then _ else _)=_
    rw [if_pos (by rw [qCq p q1];exact ⟨rfl,rfl,by simp,by simp;omega⟩)]
   refine ⟨h1,h2,G',⟨hw.le.trans hle,fun x u hu=>?_,fun x u hu=>?_,hw.keep,hw.size,hw.os,hw.tape,hw.output,hw.own,fun j hj=>hw.fresh j (by simpa using hj),fun j o hj=>?_⟩,fun s=>?_⟩
   ·simp only [G'] at hu
    split at hu
    ·exact hu
    ·exact hw.imm x u hu
   ·simp only [G'] at hu
    split at hu
    ·rename_i hh;right;rw [hh.1];exact hKb
    ·exact hw.immNew x u hu
   ·rw [List.getElem?_set] at hj
    by_cases hij:i=j
    ·subst hij
     simp only [if_true,hilt] at hj
     cases hj
     refine ⟨some p,cap,hl,hb2,hlater,fun hlt=>⟨p,rfl,q1,q2,fun k hk1 hk2=>?_⟩⟩
     obtain ⟨c1,c2,c3⟩:=q4 k hk2
     refine ⟨c1,c2,?_⟩
     show (if _ then _ else _)=_
     rw [if_neg (by rw [qCq p q1];simp;omega)];exact c3
    ·rw [if_neg hij] at hj
     refine (hw.obj j o hj).keep hle (fun b hb=>⟨rfl,fun x hx=>?_⟩) (fun _ h=>h) (fun h=>h)
     have hne:b≠p.block:=fun hh=>by subst hh;rw [q2] at hb;cases hb;exact hij rfl
     show (if _ then _ else _)=_
     rw [if_neg (fun hh=>hne (hx.symm.trans hh.1))]
   ·show RepA _ (bif Nat.beq s t then _ else look l s) _
    cases hb:Nat.beq s t with
    | false=>exact (hr s).mono hle
    | true =>
     obtain rfl:=Nat.eq_of_beq_eq_true hb
     rw [hv]
     have hcell:∀ (i':Nat) (e:List Dat) (j:Nat) (d:Dat),es[i']?=some e→e[j]?=some d→G'.imm (p.add (i'*sz+j))=some ((w.cell? (p.add (i'*sz+j))).getD undef)∧RepD G'.imm d ((w.cell? (p.add (i'*sz+j))).getD undef):=by
      intro i' e j d he hj
      obtain ⟨c,g1,g2⟩:=hd.2 i' e j d he hj
      rw [Nat.zero_add] at g1
      have hlt:=(List.getElem?_eq_some_iff.1 g1).1
      obtain ⟨u,u1,u2,u3⟩:=q3 _ c g1
      rw [hat _ (by omega),u1]
      exact ⟨rfl,(toDat_ok u3 g2).mono hle.imm⟩
     refine .sl ?_ ⟨some p,cap,by rw [hn],by rw [hn];exact hl⟩
     rw [← hn]
     exact .sl sz es p cap (fun k=>(w.cell? (p.add k)).getD undef) (fun _=>q1) (by omega) hd.1 (fun i' e j d he hj=>(hcell i' e j d he hj).1) (fun i' e j d he hj=>(hcell i' e j d he hj).2)
  ·have hc0:cap=0:=by omega
   have hn0:n=0:=by omega
   have hes:es=[]:=List.length_eq_zero_iff.1 (by omega)
   subst hn0;subst hes;subst hc0
   refine ⟨h1,h2,G,⟨hw.le,hw.imm,hw.immNew,hw.keep,hw.size,hw.os,hw.tape,hw.output,hw.own,fun j hj=>hw.fresh j (by simpa using hj),fun j o hj=>?_⟩,fun s=>?_⟩
   ·rw [List.getElem?_set] at hj
    by_cases hij:i=j
    ·subst hij
     simp only [if_true,hilt] at hj
     cases hj
     exact ⟨some p,0,hl,Nat.le_refl _,hlater,fun hlt=>by omega⟩
    ·rw [if_neg hij] at hj;exact hw.obj j o hj
   ·show RepA _ (bif Nat.beq s t then _ else look l s) _
    cases hb:Nat.beq s t with
    | false=>exact hr s
    | true =>
     obtain rfl:=Nat.eq_of_beq_eq_true hb
     rw [hv]
     exact .sl (RepD.sl sz [] p 0 (fun _=>undef) (fun _=>hsp) (Nat.le_refl _) (fun e he=>by cases he) (fun i e j d he=>by simp at he) (fun i e j d he=>by simp at he)) ⟨some p,0,rfl,hl⟩
theorem vDp {P:Program} {E:Env} {N:Nat} {Q:Exit→(Nat→AV)→List AObj→Prop} {c:Code} {l:List (Nat×AV)} {h h':List AObj} (t sz i:Nat) (ht:look l t=.sl sz [] .full∨look l t=.nils) (hi:h[i]?=some .room)
  (hh:qEo (h.set i (.buf sz 0 [])) some=some h') (hc:AW P E N c Q (look ((t,.bm i 0)::l)) h'):AW P E N c Q (look l) h:=by
 rw [forceS_eq] at hh;cases hh
 exact qJt (vAm ht hi) hc
theorem qJu {P:Program} {E:Env} {N:Nat} {Q:Exit→(Nat→AV)→List AObj→Prop} {c:Code} {l:List (Nat×AV)} {h h':List AObj} (t i sz:Nat) {n:Nat} {cells:List AV} (es:List (List Dat)) (ht:look l t=.bm i n) (hi:h[i]?=some (.buf sz n cells)) (hn:es.length=n)
  (hd:RowDat cells 0 sz es) (hh:qEo (h.set i (.right sz n)) some=some h') (hc:AW P E N c Q (look ((t,.sl sz es (.right i))::l)) h'):AW P E N c Q (look l) h:=by
 rw [forceS_eq] at hh;cases hh
 exact qJt (qOk ht hi hn hd) hc
def vIp (T:Tr) (t:Nat):Option (Nat×Nat×Bool):=match T.find t with
 | some i=>match i.kind with
  | .array n e=>match T.find e with
   | some ie=>some (n,ie.size,ie.agg)
   | none=>none
  | _=>none
 | none=>none
theorem arrT_ok {P:Program} {T:Tr} (hT:TOk P T) {t n sz:Nat} {g:Bool} (h:vIp T t=some (n,sz,g)):∃ e ie,P.underlying t=some (.array n e)∧TypeAt P e ie∧ie.size=sz∧ie.agg=g:=by
 unfold vIp at h
 split at h
 ·rename_i i hi
  split at h
  ·rename_i n' e hk
   split at h
   ·rename_i ie hie
    cases h
    obtain ⟨d,hd,hkd⟩:=(hT.at hi).und
    rw [hk] at hkd
    cases d <;> simp [qCx] at hkd
    obtain ⟨rfl,rfl⟩:=hkd
    exact ⟨_,ie,hd,hT.at hie,rfl,rfl⟩
   ·cases h
  ·cases h
 ·cases h
section
variable {P:Program} {E:Env} {T:Tr} {o:Oper} {ρ:Operand→AV} {h h':List AObj} {v:AV}
theorem arrAddr_ok (hT:TOk P T) {t n sz:Nat} {g:Bool} {x ix:Operand} {k:IntKind} {j:Int} {cs:List Dat} (ho:o.op=.indexAddr t x ix) (ht:vIp T t=some (n,sz,g)) (hx:ρ x=.iptr cs) (hix:ρ ix=.d (.int k j)) (h0:0≤j∧j < (n:Int)) :
  OpP P o ρ (.iptr (cs.drop (j.toNat*sz))):=by
 intro G e w hi hr
 have hx':RepA G (ρ x) (e x):=hr x (by simp [ho,Op.operands])
 have hix':RepA G (ρ ix) (e ix):=hr ix (by simp [ho,Op.operands])
 rw [hx] at hx';rw [hix] at hix'
 obtain ⟨et,ie,h1,h2,h3,h4⟩:=arrT_ok hT ht
 obtain ⟨a,hv,hd⟩:=qPq hx' (j.toNat*sz)
 refine ⟨_,?_,hd⟩
 unfold execOp
 simp only [ho,Sem.run_bind]
 rw [hv,hix'.int_inv]
 simp [Instr.indexAt,asIntOf,run_underlying h1,Instr.sureAddr,h0.1,h0.2,h2.run_size,h3]
theorem qAs (hT:TOk P T) {t t2 sz by_ i:Nat} {s x:Operand} {es es2:List (List Dat)} (ho:o.op=.call { callee:=.builtin .append,args:=#[s,x],argTypes:=#[t,t2] })
  (ht:vAg T t=some (sz,by_)) (ht2:qYk T t2=true) (hs:ρ s=.sl sz es (.right i)) (hi:h[i]?=some (.right sz es.length)) (hx:qKb sz (ρ x)=some es2)
  (hb:(es.length+es2.length)*(by_+1)≤140737488355328) :
  OpS P E o ρ h (.sl sz (es++es2) (.right i)) (h.set i (.right sz (es++es2).length)):=by
 rw [List.length_append]
 exact qEp hT ho ht ht2 hs hi hx hb
theorem qQk (hT:TOk P T) {t i n off sz:Nat} {ti:TI} {x y:Operand} {cells:List AV} {vy:AV} (ho:o.op=.store t x y) (hx:ρ x=.bp i n off) (hyv:ρ y=vy) (hi:h[i]?=some (.buf sz n cells)) (hf:T.find t=some ti) (hsz:Nat.beq ti.size 1=true)
  (hs:qDd vy=true) (hlt:off < cells.length) (hh:h.set i (.buf sz n (cells.set off vy))=h'):OpS P E o ρ h .any h':=by
 subst hyv;subst hh
 exact bufStore_ok hT ho hx hi hf hsz hs hlt
end
theorem Spec.args {P:Program} {f:FuncId} {args args':List AV} {h:List AObj} {Q:AV→List AObj→Prop} (hl:AllLe args args') (S:Spec P f args' h Q):Spec P f args h Q:=by
 obtain ⟨h1,h2⟩:=qFu hl
 refine ⟨S.1,fun G w vals hs hv ht hw=>S.2 G w vals (hs.trans h1) (fun j y v hy hj=>?_) ht hw⟩
 obtain ⟨x,hx,hle⟩:=h2 j y hy
 exact hle _ _ (hv j x v hx hj)
theorem qTb {P:Program} {E:Env} {o:Oper} {ρ:Operand→AV} {H:List AObj} {f:Operand} {as:List Operand} {ats:Array TypeId} {g:FuncId} {first cap:List AV} (ho:o.op=.call ⟨.value f,as.toArray,ats⟩) (hf:ρ f=.fn (.func g) first cap)
  {args args':List AV} {r0:AV} (S:Spec P g args' [] (fun r h'=>r=r0∧h'=[])) (hargs:first++(as.map ρ++cap)=args) (hle:AllLe args args') (hla:qBl 0 args=true) (hr0:low 0 r0=true):OpS P E o ρ H r0 H :=
 qCf ho hf (Spec.args hle S) hargs hla hr0
theorem qIl {w:World} {a:Addr} {v:Value} (h:w.cell? a=some v):a.block < w.heap.size:=by
 by_cases hb:a.block < w.heap.size
 ·exact hb
 ·exfalso
  unfold World.cell? at h
  rw [Array.getElem?_eq_none (by omega)] at h
  simp at h
theorem vAi {E:Env} {G:Gh} {h:List AObj} {w w':World} (hw:WRel E G h w) (hb:∀ b,b < w.heap.size→w'.heap[b]?=w.heap[b]?) (hs:w.heap.size≤w'.heap.size) (ho:w'.os=w.os) (ht:w'.tape=w.tape) (hu:w'.output=w.output):WRel E G h w':=by
 refine ⟨hw.le,fun a v ha=>?_,hw.immNew,fun b hk=>?_,Nat.le_trans hw.size hs,ho.trans hw.os,ht.trans hw.tape,hu.trans hw.output,fun b i hb'=>⟨Nat.lt_of_lt_of_le (hw.own b i hb').1 hs,(hw.own b i hb').2⟩,hw.fresh,fun i o hi=>?_⟩
 ·have h1:=hw.imm a v ha
  rw [World.cell?_of_block (w:=w) (hb _ (qIl h1))];exact h1
 ·rw [hb b (Nat.lt_of_lt_of_le hk.1 hw.size)];exact hw.keep b hk
 ·exact (hw.obj i o hi).keep (.refl G) (fun b hb'=>⟨hb b (hw.own b i hb').1,fun a _=>rfl⟩) (fun n hn=>hn) (fun hn=>hn)
section
variable {P:Program} {T:Tr} {E:Env} {o:Oper} {ρ:Operand→AV} {h:List AObj}
end
theorem qTg {E:Env} {G:Gh} {h:List AObj} {w:World} {C:Array Value} {el:TypeId} {f:Nat×Nat} (hE:E.w0.heap.size≤w.heap.size) (hown:G.own w.heap.size=none) (hw:WRel E G h (w.alloc (.cells C el))):WRel E G h (w.alloc (.cells C el f)):=by
 have hne:∀ b,b≠w.heap.size→(w.alloc (.cells C el f)).heap[b]?=(w.alloc (.cells C el)).heap[b]?:=fun b hb=>by
  show (w.heap.push _)[b]?=(w.heap.push _)[b]?
  rw [Array.getElem?_push,Array.getElem?_push,if_neg hb,if_neg hb]
 have hcell:∀ a,(w.alloc (.cells C el f)).cell? a=(w.alloc (.cells C el)).cell? a:=fun a=>by
  by_cases hb:a.block=w.heap.size
  ·have h1:(w.alloc (.cells C el f)).heap[a.block]?=some (.cells C el f):=by rw [hb];exact Array.getElem?_push_size
   have h2:(w.alloc (.cells C el)).heap[a.block]?=some (.cells C el):=by rw [hb];exact Array.getElem?_push_size
   simp only [World.cell?,h1,h2]
  ·exact World.cell?_of_block (hne _ hb)
 have hsz:(w.alloc (.cells C el f)).heap.size=(w.alloc (.cells C el)).heap.size:=by show (w.heap.push _).size=(w.heap.push _).size;simp
 refine ⟨hw.le,fun a v ha=>by rw [hcell];exact hw.imm a v ha,hw.immNew,fun b hk=>?_,by rw [hsz];exact hw.size,hw.os,hw.tape,hw.output,fun b i hb=>by rw [hsz];exact hw.own b i hb,hw.fresh,fun i o hi=>?_⟩
 ·rw [hne b (by have:=hk.1;omega)];exact hw.keep b hk
 ·exact (hw.obj i o hi).keep (.refl G) (fun b hb'=>⟨hne b (fun hh=>by rw [hh,hown] at hb';cases hb'),fun a _=>rfl⟩) (fun n hn=>hn) (fun hn=>hn)
theorem OpR.mono {P:Program} {E:Env} {o:Oper} {ρ:Operand→AV} {h:List AObj} {R R':AV→List AObj→Prop} (hs:OpR P E o ρ h R) (hr:∀ v k,R v k→R' v k):OpR P E o ρ h R':=by
 intro G a w hw hρ
 refine qFi ?_ (hs G a w hw hρ)
 rintro a' w' ⟨u,G',v',h',k,r⟩
 exact ⟨u,G',v',h',hr _ _ k,r⟩
theorem vIk {P:Program} {E:Env} {o:Oper} {ρ:Operand→AV} {H:List AObj} {f:Operand} {as:List Operand} {ats:Array TypeId} {g:FuncId} {first cap:List AV} (ho:o.op=.call ⟨.value f,as.toArray,ats⟩) (hf:ρ f=.fn (.func g) first cap)
  {args:List AV} {hc:List AObj} {ι:Type} {p:ι→Prop} {rf:ι→AV} {hf':ι→List AObj} (S:Spec P g args hc (fun r h'=>∃ x,p x∧r=rf x∧h'=hf' x)) (fs:List Nat) (hnd:fs.Nodup)
  (hobj:fs.map (fun j=>H[j]?)=hc.map some) (hargs:first++(as.map ρ++cap)=qHv (fsf fs) args) (hla:qBl fs.length args=true) (hlow:qCn 0 hc=true) (hlow':∀ x,qCn 0 (hf' x)=true) (hr0:∀ x,ren (fsf fs) (rf x)=rf x)
  {H':ι→List AObj} (hH:∀ x,qFz H fs (hf' x)=H' x):OpR P E o ρ H (fun v k=>∃ x,p x∧v=rf x∧k=H' x):=by
 refine OpR.mono (vGd ho hf S fs hnd (by rw [hobj];have:=renH_low (fsf fs) hc hlow;rw [show hc.map (fun o=>some (qJg (fsf fs) o))=(hc.map (qJg (fsf fs))).map some by simp,this]) (lowH_mono (Nat.zero_le _) hc hlow) hargs hla) ?_
 rintro v k ⟨r,h',⟨x,hp,rfl,rfl⟩,hl,rfl,rfl⟩
 exact ⟨x,hp,hr0 x,by rw [renH_low (fsf fs) _ (hlow' x)];exact hH x⟩
theorem qOb {P:Program} {E:Env} {o:Oper} {ρ:Operand→AV} {H:List AObj} {f:Operand} {as:List Operand} {ats:Array TypeId} {g:FuncId} {first cap:List AV} (ho:o.op=.call ⟨.value f,as.toArray,ats⟩) (hf:ρ f=.fn (.func g) first cap)
  {args:List AV} {hc h0:List AObj} {r0:AV} (S:Spec P g args hc (fun r h'=>r=r0∧h'=h0)) (fs:List Nat) (hnd:fs.Nodup)
  (hobj:fs.map (fun j=>H[j]?)=hc.map some) (hargs:first++(as.map ρ++cap)=qHv (fsf fs) args) (hla:qBl fs.length args=true) (hlow:qCn 0 hc=true) (hlow':qCn 0 h0=true) {v:AV} (hr0:ren (fsf fs) r0=v)
  {H':List AObj} (hH:qFz H fs h0=H'):OpS P E o ρ H v H' :=
 qFd ho hf S fs hnd (by rw [hobj];have:=renH_low (fsf fs) hc hlow;rw [show hc.map (fun o=>some (qJg (fsf fs) o))=(hc.map (qJg (fsf fs))).map some by simp,this]) (lowH_mono (Nat.zero_le _) hc hlow) hargs hla hr0
  (by rw [renH_low (fsf fs) h0 hlow'];exact hH)
theorem qUv {P:Program} {E:Env} {N:Nat} {ops:List Oper} {Q:(Nat→AV)→List AObj→Prop} {d:Nat} {op:Op} {ty:TypeId} {pos:String} {after:Array Edge} {rest:List Oper}
  {l:List (Nat×AV)} {h:List AObj} {ι:Type} {p:ι→Prop} {v:ι→AV} {h':ι→List AObj} (hs:OpR P E ⟨some d,op,ty,pos,after,none⟩ (ev (look l)) h (fun u k=>∃ x,p x∧u=v x∧k=h' x)) (hd:Nat.blt d N=true)
  (hk:∀ x,p x→AWk P E N ops Q rest (look ((d,v x)::l)) (h' x)):AWk P E N ops Q (⟨some d,op,ty,pos,after,none⟩::rest) (look l) h :=
 qDx hs hd fun u k ⟨x,hp,hu,hk'⟩=>by subst hu;subst hk';exact hk x hp
theorem vHi {T:Tr} {rs:List ResultVar} {k:Nat} {Q:AV→List AObj→Prop} {τ:Nat→AV} {h h':List AObj} {v r:AV} (h7:Q r h') (h1:qWs T τ h rs=some v) (h2:AV.le v r) (h3:h'=h.take k) (h4:h'.length=k) (h5:low k r=true) (h6:qCn k h'=true) :
  vBq T rs k Q .ret τ h:=⟨v,r,h',h1,h2,h3,h4,h5,h6,h7⟩
theorem AllLe.of_eq {l r:List AV} (h:l=r):AllLe l r:=h▸AllLe.refl l
theorem ObLe.row {l r:List AV} (h:l=r):ObLe (.row l) (.row r):=AllLe.of_eq h
theorem AV.le.int {k:IntKind} {a b:Int} (h:a=b):AV.le (.d (.int k a)) (.d (.int k b)):=.eq (congrArg (fun z=>AV.d (.int k z)) h)
theorem AV.le.bool {a b:Bool} (h:a=b):AV.le (.d (.bool a)) (.d (.bool b)):=.eq (congrArg (fun z=>AV.d (.bool z)) h)
theorem AV.le.sl {sz:Nat} {a b:List (List Dat)} (h:a=b):AV.le (.d (.sl sz a)) (.d (.sl sz b)):=.eq (congrArg (fun z=>AV.d (.sl sz z)) h)
theorem AV.le.slt {sz:Nat} {a b:List (List Dat)} {t:Tok} (h:a=b):AV.le (.sl sz a t) (.sl sz b t):=.eq (congrArg (fun z=>AV.sl sz z t) h)
theorem AV.le.dat' {sz:Nat} {a b:List (List Dat)} {t:Tok} (h:a=b):AV.le (.sl sz a t) (.d (.sl sz b)):=.trans .dat (.sl h)
def spl (c:UInt8):List UInt8→List (List UInt8)
 | []=>[[]]
 | x::r=>if x=c then []::spl c r else match spl c r with
  | []=>[[x]]
  | w::l=>(x::w)::l
theorem vHc (c:UInt8) (r:List UInt8):spl c (c::r)=[]::spl c r:=by rw [spl,if_pos rfl]
theorem qVc {c x:UInt8} (h:x≠c) {r:List UInt8} {w:List UInt8} {l:List (List UInt8)} (hs:spl c r=w::l):spl c (x::r)=(x::w)::l:=by rw [spl,if_neg h,hs]
theorem qEy (c:UInt8) (s:List UInt8):spl c s≠[]:=by
 cases s with
 | nil=>simp [spl]
 | cons x r =>
  unfold spl
  split
  ·simp
  ·split <;> simp
def joi (c:UInt8):List (List UInt8)→List UInt8
 | []=>[]
 | [w]=>w
 | w::v::l=>w++c::joi c (v::l)
theorem qDn (c:UInt8) (w:List UInt8) {l:List (List UInt8)} (h:l≠[]):joi c (w::l)=w++c::joi c l:=by
 cases l with
 | nil=>exact absurd rfl h
 | cons v l=>rfl
theorem qKd {c:UInt8} {w:List UInt8} (h:c∉w):spl c w=[w]:=by
 induction w with
 | nil=>rfl
 | cons x r ih =>
  have h1:x≠c:=fun hh=>h (by rw [hh];exact List.mem_cons_self)
  unfold spl
  rw [if_neg h1,ih (fun hh=>h (List.mem_cons_of_mem _ hh))]
theorem qDc {c:UInt8} {w:List UInt8} (h:c∉w) (s:List UInt8):spl c (w++c::s)=w::spl c s:=by
 induction w with
 | nil=>exact vHc c s
 | cons x r ih =>
  have h1:x≠c:=fun hh=>h (by rw [hh];exact List.mem_cons_self)
  exact qVc h1 (ih (fun hh=>h (List.mem_cons_of_mem _ hh)))
theorem qKr {c:UInt8}:∀ {l:List (List UInt8)},l≠[]→(∀ w,w∈l→c∉w)→spl c (joi c l)=l
 | [],h,_=>absurd rfl h
 | [w],_,h=>by show spl c w=[w];exact qKd (h w List.mem_cons_self)
 | w::v::l,_,h=>by
  show spl c (w++c::joi c (v::l))=_
  rw [qDc (h w List.mem_cons_self),qKr (by simp) (fun u hu=>h u (List.mem_cons_of_mem _ hu))]
theorem qGe (c:UInt8):∀ (s:List UInt8),joi c (spl c s)=s
 | []=>rfl
 | x::r=>by
  have ih:=qGe c r
  have hne:=qEy c r
  unfold spl
  split
  ·rename_i hx
   rw [qDn c [] hne,ih,hx];rfl
  ·cases hs:spl c r with
   | nil=>exact absurd hs hne
   | cons w l =>
    rw [hs] at ih
    simp only
    cases l with
    | nil=>show x::w=_;rw [← ih];rfl
    | cons v l=>show x::(w++c::joi c (v::l))=_;rw [← ih];rfl
theorem qCt (c:UInt8):∀ (s:List UInt8),(spl c s).length=s.count c+1
 | []=>rfl
 | x::r=>by
  have ih:=qCt c r
  unfold spl
  split
  ·rename_i hx
   subst hx
   simp [ih]
  ·rename_i hx
   cases hs:spl c r with
   | nil=>exact absurd hs (qEy c r)
   | cons w l =>
    rw [hs] at ih
    simp only [List.length_cons] at ih ⊢
    rw [List.count_cons,if_neg (by simpa using hx)]
    omega
end Tdoc
namespace Tdoc
open Go
structure Flp where
 ap:Int
 byt:Int
 bit:Int
deriving DecidableEq
structure Akt where
 kind:Int
 a:Int
 b:Int
 n:Int
 state:List UInt8
 text:List UInt8
 number:List UInt8
 sur:List UInt8
 giv:List UInt8
 nat:List UInt8
 bir:List UInt8
 sex:List UInt8
 exp:Int
 prots:List Int
 basic:Bool
 pts:Nat
 tday:Int
 faults:List Int
 cuts:List Int
 flips:List Flp
deriving DecidableEq
def akt0:Akt:=⟨0,0,0,0,[],[],[],[],[],[],[],[],0,[],false,0,0,[],[],[]⟩
inductive Fld where
 | num (n:Int)
 | txt (s:List UInt8)
 | rst (s:List UInt8)
 | flg (b:Bool)
 | nums (l:List Int)
 | flps (l:List Flp)
inductive Shp where
 | num | txt | rst | flg | nums | flps
def qAx (k:Int):List UInt8 :=
 if k=1 then [100,97,121] else if k=2 then [102,111,117,110,100] else if k=3 then [114,111,108,108,111,118,101,114] else if k=4 then [105,115,115,117,101]
 else if k=5 then [101,120,99,104,97,110,103,101] else if k=6 then [109,97,115,116,101,114] else if k=7 then [114,101,118,111,107,101] else if k=8 then [100,101,118,105,97,116,101]
 else if k=9 then [99,111,112,121] else if k=10 then [105,110,115,112,101,99,116] else [112,111,115,116]
def qBt:List (List UInt8):=[qAx 1,qAx 2,qAx 3,qAx 4,qAx 5,qAx 6,qAx 7,qAx 8,qAx 9,qAx 10,qAx 11]
def qBh (w:List UInt8):Int :=
 if w=qAx 1 then 1 else if w=qAx 2 then 2 else if w=qAx 3 then 3 else if w=qAx 4 then 4 else if w=qAx 5 then 5 else if w=qAx 6 then 6 else if w=qAx 7 then 7 else if w=qAx 8 then 8
 else if w=qAx 9 then 9 else if w=qAx 10 then 10 else if w=qAx 11 then 11 else 0
theorem qIb {k:Int} (h:1≤k∧k≤11):qBh (qAx k)=k:=by
 rcases (by omega:k=1∨k=2∨k=3∨k=4∨k=5∨k=6∨k=7∨k=8∨k=9∨k=10∨k=11) with h | h | h | h | h | h | h | h | h | h | h <;> subst h <;> decide
theorem qIt {k:Int} (h:1≤k∧k≤11):(32:UInt8)∉qAx k:=by
 rcases (by omega:k=1∨k=2∨k=3∨k=4∨k=5∨k=6∨k=7∨k=8∨k=9∨k=10∨k=11) with h | h | h | h | h | h | h | h | h | h | h <;> subst h <;> decide
def qAt (x:Akt):List Fld :=
 if x.kind=1 then [.num x.n]
 else if x.kind=2 then [.txt x.state,.txt x.text]
 else if x.kind=3 then [.num x.a]
 else if x.kind=4 then [.num x.a,.txt x.number,.txt x.sur,.txt x.giv,.txt x.nat,.txt x.bir,.txt x.sex,.num x.exp,.flg x.basic,.nums x.prots,.nums x.faults]
 else if x.kind=7 then [.num x.a,.num x.b,.num x.n]
 else if x.kind=9 then [.num x.a,.txt x.text]
 else if x.kind=10 then [.num x.a,.num x.b,.nums x.cuts,.flps x.flips]
 else if x.kind=11 then [.txt x.state,.rst x.text]
 else [.num x.a,.num x.b]
def qBy (k:Int):List Shp :=
 if k=1 then [.num]
 else if k=2 then [.txt,.txt]
 else if k=3 then [.num]
 else if k=4 then [.num,.txt,.txt,.txt,.txt,.txt,.txt,.num,.flg,.nums,.nums]
 else if k=7 then [.num,.num,.num]
 else if k=9 then [.num,.txt]
 else if k=10 then [.num,.num,.nums,.flps]
 else if k=11 then [.txt,.rst]
 else [.num,.num]
def qDr:Fld→Shp
 | .num _=>.num
 | .txt _=>.txt
 | .rst _=>.rst
 | .flg _=>.flg
 | .nums _=>.nums
 | .flps _=>.flps
theorem qCj (x:Akt):(qAt x).map qDr=qBy x.kind:=by
 unfold qAt qBy
 repeat' split
 all_goals rfl
def qNl (k:Int) (l:List Fld):Akt :=
 match l with
 | [.num n]=>if k=1 then { akt0 with kind:=k,n:=n } else { akt0 with kind:=k,a:=n }
 | [.txt s,.txt t]=>{ akt0 with kind:=k,state:=s,text:=t }
 | [.txt s,.rst t]=>{ akt0 with kind:=k,state:=s,text:=t }
 | [.num a,.txt nu,.txt su,.txt gi,.txt na,.txt bi,.txt se,.num ex,.flg ba,.nums pr,.nums fa]=>{ akt0 with kind:=k,a:=a,number:=nu,sur:=su,giv:=gi,nat:=na,bir:=bi,sex:=se,exp:=ex,basic:=ba,prots:=pr,faults:=fa }
 | [.num a,.num b,.num n]=>{ akt0 with kind:=k,a:=a,b:=b,n:=n }
 | [.num a,.txt t]=>{ akt0 with kind:=k,a:=a,text:=t }
 | [.num a,.num b,.nums c,.flps f]=>{ akt0 with kind:=k,a:=a,b:=b,cuts:=c,flips:=f }
 | [.num a,.num b]=>{ akt0 with kind:=k,a:=a,b:=b }
 | _=>akt0
def qBq (x:Akt):Akt:=qNl x.kind (qAt x)
def qUy (s:List UInt8):List UInt8:=if s=[] then [95] else s.map fun c=>if c=32 then 95 else c
def qBa (w:List UInt8):List UInt8:=if w=[95] then [] else w.map fun c=>if c=95 then 32 else c
def qEm (l:List (List UInt8)):List UInt8:=if l=[] then [45] else joi 44 l
def qBk (w:List UInt8):List (List UInt8):=if w=[45] then [] else spl 44 w
def qBz (f:Flp):List UInt8:=Lib.itoa f.ap++58::(Lib.itoa f.byt++58::Lib.itoa f.bit)
def wrF:Fld→List UInt8
 | .num n=>Lib.itoa n
 | .txt s=>qUy s
 | .rst s=>s
 | .flg b=>if b then [121,101,115] else [110,111]
 | .nums l=>qEm (l.map Lib.itoa)
 | .flps l=>qEm (l.map qBz)
def vBe (w:List UInt8):Option Int:=match Lib.atoiAll w with
 | .ok v=>some v
 | _=>none
def qXe (w:List UInt8):Option Flp:=match spl 58 w with
 | [x,y,z]=>match vBe x,vBe y,vBe z with
  | some a,some b,some c=>some ⟨a,b,c⟩
  | _,_,_=>none
 | _=>none
def vAh {α:Type} (f:List UInt8→Option α):List (List UInt8)→Option (List α)
 | []=>some []
 | w::l=>match f w,vAh f l with
  | some a,some r=>some (a::r)
  | _,_=>none
def rdF (s:Shp) (w:List UInt8):Option Fld:=match s with
 | .num=>(vBe w).map .num
 | .txt=>some (.txt (qBa w))
 | .rst=>some (.rst w)
 | .flg=>some (.flg (decide (w=[121,101,115])))
 | .nums=>(vAh vBe (qBk w)).map .nums
 | .flps=>(vAh qXe (qBk w)).map .flps
def qHw:List Shp→List (List UInt8)→Option (List Fld)
 | [],[]=>some []
 | s::ss,w::ws=>match rdF s w,qHw ss ws with
  | some f,some r=>some (f::r)
  | _,_=>none
 | _,_=>none
def qGx (c:UInt8):Nat→List UInt8→List (List UInt8)
 | 0,s=>[s]
 | k+1,s=>match spl c s with
  | []=>[s]
  | [w]=>[w]
  | w::l=>w::qGx c k (joi c l)
def qHr (s:List UInt8):Option Akt:=match spl 32 s with
 | []=>none
 | w::ws=>if qBh w=0 then none else
  (qHw (qBy (qBh w)) (if qBh w=11 then (qGx 32 2 s).drop 1 else ws)).map (qNl (qBh w))
def qAz (n:Int):Prop:=-1073741824≤n∧n≤1073741824
def qRq (s:List UInt8):Prop:=s.length≤40∧s≠[32]∧∀ c,c∈s→32≤c.toNat∧c.toNat≤126∧c≠95
def qSa (s:List UInt8):Prop:=s≠[]∧s.length≤1000∧s.head?≠some 32∧∀ c,c∈s→32≤c.toNat∧c.toNat≤126
def okF:Fld→Prop
 | .num n=>qAz n
 | .txt s=>qRq s
 | .rst s=>qSa s
 | .flg _=>True
 | .nums l=>∀ n,n∈l→qAz n
 | .flps l=>∀ f,f∈l→qAz f.ap∧qAz f.byt∧qAz f.bit
def qBw (x:Akt):List (List UInt8):=qAx x.kind::(qAt x).map wrF
def LineOk (x:Akt):Prop:=(1≤x.kind∧x.kind≤11)∧x=qBq x∧∀ f,f∈qAt x→okF f
open Classical in
noncomputable def lineK (x:Akt):List UInt8:=if LineOk x then joi 32 (qBw x) else []
end Tdoc
namespace Tdoc
open Go
theorem qYw {c:UInt8} (hc:48≤c.toNat∧c.toNat≤57):∀ (l:List UInt8) (acc v:Nat),Lib.parseUint10 acc l=.ok v→v < 1000000000000000→Lib.parseUint10 acc (l++[c])=.ok (v*10+(c.toNat-48))
 | [],acc,v,h,hv=>by
  simp only [Lib.parseUint10] at h
  injection h with h
  subst h
  simp only [List.nil_append,Lib.parseUint10]
  rw [if_pos hc,if_neg (by omega),if_neg (by omega)]
 | x::r,acc,v,h,hv=>by
  simp only [Lib.parseUint10] at h
  simp only [List.cons_append,Lib.parseUint10]
  split at h
  ·rename_i h1
   rw [if_pos h1]
   split at h
   ·cases h
   ·rename_i h2
    rw [if_neg h2]
    split at h
    ·cases h
    ·rename_i h3
     rw [if_neg h3]
     exact qYw hc r _ v h hv
  ·cases h
theorem qEj {k:Nat} (h:k < 10):(UInt8.ofNat (48+k)).toNat=48+k:=by rw [UInt8.toNat_ofNat'];omega
theorem qIj:∀ (u:Nat),∀ c,c∈Lib.decDigits u→48≤c.toNat∧c.toNat≤57:=by
 intro u
 induction u using Nat.strongRecOn with
 | _ u ih =>
  intro c hc
  rw [Lib.decDigits] at hc
  split at hc
  ·rename_i h
   rw [List.mem_singleton] at hc
   rw [hc,qEj h];omega
  ·rename_i h
   rcases List.mem_append.1 hc with hc | hc
   ·exact ih (u / 10) (by omega) c hc
   ·rw [List.mem_singleton] at hc
    rw [hc,qEj (by omega)];omega
theorem qVz (u:Nat):Lib.decDigits u≠[]:=by
 rw [Lib.decDigits]
 split <;> simp
theorem vHj:∀ (u:Nat),u < 1000000000000000→Lib.parseUint10 0 (Lib.decDigits u)=.ok u:=by
 intro u
 induction u using Nat.strongRecOn with
 | _ u ih =>
  intro hu
  rw [Lib.decDigits]
  split
  ·rename_i h
   simp only [Lib.parseUint10]
   rw [qEj h,if_pos (by omega),if_neg (by omega),if_neg (by omega)]
   congr 1;omega
  ·rename_i h
   have h1:=ih (u / 10) (by omega) (by omega)
   have h2:=qYw (c:=UInt8.ofNat (48+u % 10)) (by rw [qEj (by omega)];omega) _ _ _ h1 (by omega)
   rw [h2,qEj (by omega)]
   congr 1;omega
theorem qZb {u:Nat} (h:u < 1000000000000000):Lib.parseMag (Lib.decDigits u)=.ok u:=by
 unfold Lib.parseMag
 rw [if_neg (qVz u),vHj u h]
theorem vAf {n:Int} (h:qAz n):Lib.atoiAll (Lib.itoa n)=.ok n:=by
 have hn:=h
 unfold qAz at hn
 unfold Lib.itoa
 split
 ·rename_i h0
  rw [Lib.atoiAll,if_pos (by decide),qZb (by omega)]
  simp only
  rw [if_neg (by simp),if_neg (by omega),if_pos (by decide)]
  congr 1;omega
 ·rename_i h0
  cases hd:Lib.decDigits n.toNat with
  | nil=>exact absurd hd (qVz _)
  | cons c r =>
   have hc:=qIj n.toNat c (by rw [hd];exact List.mem_cons_self)
   have hm:=qZb (u:=n.toNat) (by omega)
   rw [hd] at hm
   rw [Lib.atoiAll,if_neg (by omega),hm]
   simp only
   rw [if_neg (by omega),if_neg (by omega),if_neg (by omega)]
   congr 1;omega
theorem numW_itoa {n:Int} (h:qAz n):vBe (Lib.itoa n)=some n:=by unfold vBe;rw [vAf h]
theorem qXa {n:Int}:∀ c,c∈Lib.itoa n→c=45∨(48≤c.toNat∧c.toNat≤57):=by
 intro c hc
 unfold Lib.itoa at hc
 split at hc
 ·rcases List.mem_cons.1 hc with h | h
  ·exact .inl h
  ·exact .inr (qIj _ c h)
 ·exact .inr (qIj _ c hc)
theorem qSr (n:Int):Lib.itoa n≠[]:=by
 unfold Lib.itoa
 split
 ·simp
 ·exact qVz _
theorem qEb {n:Int} {x:UInt8} (h:x≠45∧¬ (48≤x.toNat∧x.toNat≤57)):x∉Lib.itoa n:=fun hm=>by
 rcases qXa x hm with h1 | h1
 ·exact h.1 h1
 ·exact h.2 h1
theorem qId {n:Int}:Lib.itoa n≠[45]:=fun h=>by
 unfold Lib.itoa at h
 split at h
 ·simp at h
  exact qVz _ h
 ·have:=qIj n.toNat 45 (by rw [h];exact List.mem_cons_self)
  simp at this
theorem flipB_ne (f:Flp):qBz f≠[]:=by unfold qBz;simp
theorem flipB_not {f:Flp} {x:UInt8} (h:x≠45∧x≠58∧¬ (48≤x.toNat∧x.toNat≤57)):x∉qBz f:=fun hm=>by
 unfold qBz at hm
 rcases List.mem_append.1 hm with hm | hm
 ·exact qEb ⟨h.1,h.2.2⟩ hm
 rcases List.mem_cons.1 hm with hm | hm
 ·exact h.2.1 hm
 rcases List.mem_append.1 hm with hm | hm
 ·exact qEb ⟨h.1,h.2.2⟩ hm
 rcases List.mem_cons.1 hm with hm | hm
 ·exact h.2.1 hm
 ·exact qEb ⟨h.1,h.2.2⟩ hm
theorem flipB_dash (f:Flp):qBz f≠[45]:=fun h=>by
 have:(58:UInt8)∈qBz f:=by unfold qBz;simp
 rw [h] at this
 simp at this
theorem flipW_back {f:Flp} (h:qAz f.ap∧qAz f.byt∧qAz f.bit):qXe (qBz f)=some f:=by
 have n58:∀ n:Int,(58:UInt8)∉Lib.itoa n:=fun n=>qEb ⟨by decide,by decide⟩
 have hs:spl 58 (qBz f)=[Lib.itoa f.ap,Lib.itoa f.byt,Lib.itoa f.bit]:=by
  unfold qBz
  rw [qDc (n58 _),qDc (n58 _),qKd (n58 _)]
 unfold qXe
 rw [hs]
 simp only [numW_itoa h.1,numW_itoa h.2.1,numW_itoa h.2.2]
theorem allW_back {α:Type} {f:List UInt8→Option α} {g:α→List UInt8}:∀ {l:List α},(∀ a,a∈l→f (g a)=some a)→vAh f (l.map g)=some l
 | [],_=>rfl
 | a::l,h=>by
  simp only [List.map_cons,vAh,h a List.mem_cons_self,allW_back (l:=l) fun b hb=>h b (List.mem_cons_of_mem _ hb)]
theorem qGp {l:List (List UInt8)} (hd:∀ w,w∈l→w≠[45]∧w≠[]∧(44:UInt8)∉w):qBk (qEm l)=l:=by
 unfold qEm
 split
 ·rename_i h;subst h;rfl
 ·rename_i h
  unfold qBk
  split
  ·rename_i hj
   exfalso
   cases l with
   | nil=>exact h rfl
   | cons w l =>
    cases l with
    | nil=>exact (hd w List.mem_cons_self).1 hj
    | cons v l =>
     have:(44:UInt8)∈joi 44 (w::v::l):=by show (44:UInt8)∈w++44::joi 44 (v::l);simp
     rw [hj] at this
     simp at this
  ·exact qKr h fun w hw=>(hd w hw).2.2
theorem qKp {s:List UInt8} (h:qRq s):qBa (qUy s)=s:=by
 obtain ⟨h1,h2,h3⟩:=h
 unfold qUy
 split
 ·rename_i hs;subst hs;rfl
 ·rename_i hs
  unfold qBa
  split
  ·rename_i hm
   exfalso
   cases s with
   | nil=>exact hs rfl
   | cons c r =>
    cases r with
    | nil =>
     simp only [List.map_cons,List.map_nil,List.cons.injEq,and_true] at hm
     split at hm
     ·rename_i hc;subst hc;exact h2 rfl
     ·exact (h3 c List.mem_cons_self).2.2 hm
    | cons d r=>simp at hm
  ·rw [List.map_map]
   refine (List.map_congr_left fun c hc=>?_).trans (List.map_id _)
   show (if (if c=32 then (95:UInt8) else c)=95 then 32 else if c=32 then 95 else c)=c
   have:=(h3 c hc).2.2
   by_cases h5:c=32
   ·subst h5;rfl
   ·simp only [if_neg h5]
    rw [if_neg this]
theorem qKy {f:Fld} (h:okF f):rdF (qDr f) (wrF f)=some f:=by
 cases f with
 | num n=>simp only [qDr,wrF,rdF,numW_itoa h,Option.map_some]
 | txt s=>simp only [qDr,wrF,rdF,qKp h]
 | rst s=>rfl
 | flg b=>cases b <;> rfl
 | nums l =>
  have hp:=qGp (l:=l.map Lib.itoa) fun w hw=>by
   obtain ⟨n,_,rfl⟩:=List.mem_map.1 hw
   exact ⟨qId,qSr n,qEb ⟨by decide,by decide⟩⟩
  simp only [qDr,wrF,rdF,hp,allW_back fun n hn=>numW_itoa (h n hn),Option.map_some]
 | flps l =>
  have hp:=qGp (l:=l.map qBz) fun w hw=>by
   obtain ⟨n,_,rfl⟩:=List.mem_map.1 hw
   exact ⟨flipB_dash n,flipB_ne n,flipB_not ⟨by decide,by decide,by decide⟩⟩
  simp only [qDr,wrF,rdF,hp,allW_back fun n hn=>flipW_back (h n hn),Option.map_some]
theorem rdAll_back:∀ {l:List Fld},(∀ f,f∈l→okF f)→qHw (l.map qDr) (l.map wrF)=some l
 | [],_=>rfl
 | f::l,h=>by
  simp only [List.map_cons,qHw,qKy (h f List.mem_cons_self),rdAll_back fun g hg=>h g (List.mem_cons_of_mem _ hg)]
theorem qPp {x c:UInt8} (hx:x≠c):∀ {l:List (List UInt8)},(∀ w,w∈l→x∉w)→x∉joi c l
 | [],_=>by simp [joi]
 | [w],h=>h w List.mem_cons_self
 | w::v::l,h=>fun hm=>by
  rcases List.mem_append.1 (show x∈w++c::joi c (v::l) from hm) with hm | hm
  ·exact h w List.mem_cons_self hm
  rcases List.mem_cons.1 hm with hm | hm
  ·exact hx hm
  ·exact qPp hx (l:=v::l) (fun u hu=>h u (List.mem_cons_of_mem _ hu)) hm
theorem qMx {l:List (List UInt8)} {x:UInt8} (h1:x≠44∧x≠45) (h:∀ w,w∈l→x∉w):x∉qEm l:=by
 unfold qEm
 split
 ·simpa using h1.2
 ·exact qPp h1.1 h
theorem qGl {f:Fld} (hr:qDr f≠.rst):(32:UInt8)∉wrF f:=by
 cases f with
 | num n=>exact qEb ⟨by decide,by decide⟩
 | txt s =>
  show (32:UInt8)∉qUy s
  unfold qUy
  split
  ·simp
  ·intro hm
   obtain ⟨c,_,hc⟩:=List.mem_map.1 hm
   split at hc
   ·simp at hc
   ·rename_i h;exact h hc
 | rst s=>exact absurd rfl hr
 | flg b=>cases b <;> simp [wrF]
 | nums l =>
  refine qMx ⟨by decide,by decide⟩ fun w hw=>?_
  obtain ⟨n,_,rfl⟩:=List.mem_map.1 hw
  exact qEb ⟨by decide,by decide⟩
 | flps l =>
  refine qMx ⟨by decide,by decide⟩ fun w hw=>?_
  obtain ⟨n,_,rfl⟩:=List.mem_map.1 hw
  exact flipB_not ⟨by decide,by decide,by decide⟩
theorem qYq {x:Akt} (h:LineOk x):qHr (joi 32 (qBw x))=some x:=by
 obtain ⟨h1,h2,h3⟩:=h
 have hk:=qIb h1
 have hn:=qIt h1
 have hr:=rdAll_back h3
 rw [qCj] at hr
 have hset:qNl x.kind (qAt x)=x:=h2.symm
 have hne:(qAt x).map wrF≠[]:=by
  unfold qAt
  repeat' split
  all_goals simp
 have hsp:spl 32 (joi 32 (qBw x))=qAx x.kind::spl 32 (joi 32 ((qAt x).map wrF)):=by
  unfold qBw
  rw [qDn 32 _ hne,qDc hn]
 unfold qHr
 rw [hsp]
 simp only [hk]
 rw [if_neg (by omega)]
 by_cases h11:x.kind=11
 ·rw [if_pos h11]
  have hf:qAt x=[.txt x.state,.rst x.text]:=by unfold qAt;simp [h11]
  have hs:(32:UInt8)∉wrF (.txt x.state):=qGl (by simp [qDr])
  have hw:qGx 32 2 (joi 32 (qBw x))=[qAx x.kind,wrF (.txt x.state),x.text]:=by
   have e1:joi 32 (qBw x)=qAx x.kind++32::(wrF (.txt x.state)++32::x.text):=by unfold qBw;rw [hf];rfl
   have e2:spl 32 (wrF (.txt x.state)++32::x.text)=wrF (.txt x.state)::spl 32 x.text:=qDc hs _
   obtain ⟨v,l,hv⟩:∃ v l,spl 32 x.text=v::l:=by
    cases h:spl 32 x.text with
    | nil=>exact absurd h (qEy _ _)
    | cons v l=>exact ⟨v,l,rfl⟩
   have e3:joi 32 (v::l)=x.text:=by rw [← hv];exact qGe 32 x.text
   rw [e1]
   show (match spl 32 (qAx x.kind++32::(wrF (.txt x.state)++32::x.text)) with
    | []=>_
    | [w]=>[w]
    | w::l=>w::qGx 32 1 (joi 32 l))=_
   rw [qDc hn,e2,hv]
   simp only
   have e4:joi 32 (wrF (.txt x.state)::v::l)=wrF (.txt x.state)++32::x.text:=by rw [qDn 32 _ (by simp),e3]
   rw [e4]
   show qAx x.kind::(match spl 32 (wrF (.txt x.state)++32::x.text) with
    | []=>_
    | [w]=>[w]
    | w::l=>w::qGx 32 0 (joi 32 l))=_
   rw [e2,hv]
   simp only
   rw [e3]
   rfl
  rw [hw]
  have e5:([qAx x.kind,wrF (.txt x.state),x.text]).drop 1=(qAt x).map wrF:=by rw [hf];rfl
  rw [e5,hr,Option.map_some,hset]
 ·rw [if_neg h11]
  have hsf:spl 32 (joi 32 ((qAt x).map wrF))=(qAt x).map wrF:=by
   refine qKr hne fun w hw=>?_
   obtain ⟨f,hf,rfl⟩:=List.mem_map.1 hw
   refine qGl fun hh=>?_
   have:Shp.rst∈(qAt x).map qDr:=by rw [← hh];exact List.mem_map_of_mem hf
   rw [qCj] at this
   revert this
   unfold qBy
   repeat' split
   all_goals first | (intro hh2;simp at hh2;done) | (rename_i h;exact absurd h h11)
  rw [hsf,hr,Option.map_some,hset]
def qOa (n:Int) (l:List UInt8):Int:=l.foldl (fun n c=>if 48≤c.toNat∧c.toNat≤57 then n*10+((c.toNat:Int)-48) else n) n
def qBj (w:List UInt8):Int:=if w.head?=some 45 then -(qOa 0 ((w.drop 1).take 11)) else qOa 0 (w.take 12)
def qFb (w:List UInt8):Flp:=⟨qBj ((spl 58 w++[[],[]]).getD 0 []),qBj ((spl 58 w++[[],[]]).getD 1 []),qBj ((spl 58 w++[[],[]]).getD 2 [])⟩
def rdR (s:Shp) (w:List UInt8):Fld:=match s with
 | .num=>.num (qBj w)
 | .txt=>.txt (qBa w)
 | .rst=>.rst w
 | .flg=>.flg (decide (w=[121,101,115]))
 | .nums=>.nums ((qBk w).map qBj)
 | .flps=>.flps ((qBk w).map qFb)
def qJh:List Shp→List (List UInt8)→List Fld
 | [],_=>[]
 | s::ss,ws=>rdR s (ws.headD [])::qJh ss (ws.drop 1)
def rstW (ws:List (List UInt8)):List (List UInt8):=match ws with
 | []=>[]
 | [w]=>[w]
 | w::l=>[w,joi 32 l]
def qDk (s:List UInt8):Akt:=match spl 32 s with
 | []=>akt0
 | w::ws=>if qBh w=0 then akt0 else qNl (qBh w) (qJh (qBy (qBh w)) (if qBh w=11 then rstW ws else ws))
theorem digF_app (n:Int) (a b:List UInt8):qOa n (a++b)=qOa (qOa n a) b:=by unfold qOa;rw [List.foldl_append]
theorem digF_dec:∀ (u:Nat),qOa 0 (Lib.decDigits u)=(u:Int):=by
 intro u
 induction u using Nat.strongRecOn with
 | _ u ih =>
  rw [Lib.decDigits]
  split
  ·rename_i h
   show (if 48≤(UInt8.ofNat (48+u)).toNat∧(UInt8.ofNat (48+u)).toNat≤57 then 0*10+(((UInt8.ofNat (48+u)).toNat:Int)-48) else 0)=_
   rw [qEj h,if_pos (by omega)];omega
  ·rename_i h
   rw [digF_app,ih (u / 10) (by omega)]
   show (if 48≤(UInt8.ofNat (48+u % 10)).toNat∧(UInt8.ofNat (48+u % 10)).toNat≤57 then ((u / 10:Nat):Int)*10+(((UInt8.ofNat (48+u % 10)).toNat:Int)-48) else _)=_
   rw [qEj (by omega),if_pos (by omega)];omega
theorem qZy:∀ (k u:Nat),u < 10 ^ (k+1)→(Lib.decDigits u).length≤k+1:=by
 intro k
 induction k with
 | zero=>intro u h;rw [Lib.decDigits,dif_pos (by omega)];simp
 | succ k ih =>
  intro u h
  rw [Lib.decDigits]
  split
  ·simp
  ·have:=ih (u / 10) (by rw [Nat.pow_succ] at h;omega)
   rw [List.length_append,List.length_singleton];omega
theorem numR_itoa {n:Int} (h:qAz n):qBj (Lib.itoa n)=n:=by
 unfold qAz at h
 unfold qBj Lib.itoa
 split
 ·rename_i h0
  rw [if_pos (show (45::Lib.decDigits n.natAbs).head?=some 45 from rfl)]
  have hl:=qZy 9 n.natAbs (by omega)
  show -(qOa 0 (List.take 11 (Lib.decDigits n.natAbs)))=n
  rw [List.take_of_length_le (by omega),digF_dec];omega
 ·rename_i h0
  have hh:(Lib.decDigits n.toNat).head?≠some 45:=by
   cases hd:Lib.decDigits n.toNat with
   | nil=>simp
   | cons c r =>
    have hc:=qIj n.toNat c (by rw [hd];exact List.mem_cons_self)
    intro hh
    simp at hh
    subst hh
    simp at hc
  rw [if_neg hh]
  have hl:=qZy 9 n.toNat (by omega)
  rw [List.take_of_length_le (by omega),digF_dec];omega
theorem flipR_back {f:Flp} (h:qAz f.ap∧qAz f.byt∧qAz f.bit):qFb (qBz f)=f:=by
 have n58:∀ n:Int,(58:UInt8)∉Lib.itoa n:=fun n=>qEb ⟨by decide,by decide⟩
 have hs:spl 58 (qBz f)=[Lib.itoa f.ap,Lib.itoa f.byt,Lib.itoa f.bit]:=by
  unfold qBz
  rw [qDc (n58 _),qDc (n58 _),qKd (n58 _)]
 unfold qFb
 rw [hs]
 simp [numR_itoa h.1,numR_itoa h.2.1,numR_itoa h.2.2]
theorem qVo {α:Type} {f:List UInt8→α} {g:α→List UInt8} {l:List α} (h:∀ a,a∈l→f (g a)=a):(l.map g).map f=l:=by
 rw [List.map_map]
 exact (List.map_congr_left fun a ha=>h a ha).trans (List.map_id _)
theorem rdR_back {f:Fld} (h:okF f):rdR (qDr f) (wrF f)=f:=by
 cases f with
 | num n=>simp only [qDr,wrF,rdR,numR_itoa h]
 | txt s=>simp only [qDr,wrF,rdR,qKp h]
 | rst s=>rfl
 | flg b=>cases b <;> rfl
 | nums l =>
  have hp:=qGp (l:=l.map Lib.itoa) fun w hw=>by
   obtain ⟨n,_,rfl⟩:=List.mem_map.1 hw
   exact ⟨qId,qSr n,qEb ⟨by decide,by decide⟩⟩
  simp only [qDr,wrF,rdR,hp]
  rw [qVo fun n hn=>numR_itoa (h n hn)]
 | flps l =>
  have hp:=qGp (l:=l.map qBz) fun w hw=>by
   obtain ⟨n,_,rfl⟩:=List.mem_map.1 hw
   exact ⟨flipB_dash n,flipB_ne n,flipB_not ⟨by decide,by decide,by decide⟩⟩
  simp only [qDr,wrF,rdR,hp]
  rw [qVo fun n hn=>flipR_back (h n hn)]
theorem rdAllR_back:∀ {l:List Fld},(∀ f,f∈l→okF f)→qJh (l.map qDr) (l.map wrF)=l
 | [],_=>rfl
 | f::l,h=>by
  show rdR (qDr f) (wrF f)::qJh (l.map qDr) (l.map wrF)=_
  rw [rdR_back (h f List.mem_cons_self),rdAllR_back fun g hg=>h g (List.mem_cons_of_mem _ hg)]
theorem qPj {x:Akt} (h:LineOk x):qDk (joi 32 (qBw x))=x:=by
 obtain ⟨h1,h2,h3⟩:=h
 have hk:=qIb h1
 have hn:=qIt h1
 have hr:=rdAllR_back h3
 rw [qCj] at hr
 have hset:qNl x.kind (qAt x)=x:=h2.symm
 have hne:(qAt x).map wrF≠[]:=by
  unfold qAt
  repeat' split
  all_goals simp
 have hsp:spl 32 (joi 32 (qBw x))=qAx x.kind::spl 32 (joi 32 ((qAt x).map wrF)):=by
  unfold qBw
  rw [qDn 32 _ hne,qDc hn]
 unfold qDk
 rw [hsp]
 simp only [hk]
 rw [if_neg (by omega)]
 by_cases h11:x.kind=11
 ·rw [if_pos h11]
  have hf:qAt x=[.txt x.state,.rst x.text]:=by unfold qAt;simp [h11]
  have hs:(32:UInt8)∉wrF (.txt x.state):=qGl (by simp [qDr])
  have e2:spl 32 (joi 32 ((qAt x).map wrF))=wrF (.txt x.state)::spl 32 x.text:=by
   rw [hf]
   exact qDc hs _
  have e3:rstW (spl 32 (joi 32 ((qAt x).map wrF)))=(qAt x).map wrF:=by
   rw [e2]
   cases hv:spl 32 x.text with
   | nil=>exact absurd hv (qEy _ _)
   | cons v l =>
    have e4:joi 32 (v::l)=x.text:=by rw [← hv];exact qGe 32 x.text
    show [wrF (.txt x.state),joi 32 (v::l)]=_
    rw [e4,hf];rfl
  rw [e3,hr,hset]
 ·rw [if_neg h11]
  have hsf:spl 32 (joi 32 ((qAt x).map wrF))=(qAt x).map wrF:=by
   refine qKr hne fun w hw=>?_
   obtain ⟨f,hf,rfl⟩:=List.mem_map.1 hw
   refine qGl fun hh=>?_
   have:Shp.rst∈(qAt x).map qDr:=by rw [← hh];exact List.mem_map_of_mem hf
   rw [qCj] at this
   revert this
   unfold qBy
   repeat' split
   all_goals first | (intro hh2;simp at hh2;done) | (rename_i h;exact absurd h h11)
  rw [hsf,hr,hset]
theorem qEa (s:List UInt8) (x:Akt) (hs:s≠[]):(qHr s=some x∧lineK x=s)↔(qDk s=x∧lineK x=s):=by
 constructor
 ·rintro ⟨h1,h2⟩
  refine ⟨?_,h2⟩
  unfold lineK at h2
  split at h2
  ·rename_i hl
   rw [← h2];exact qPj hl
  ·exact absurd h2.symm hs
 ·rintro ⟨h1,h2⟩
  refine ⟨?_,h2⟩
  unfold lineK at h2
  split at h2
  ·rename_i hl
   rw [← h2];exact qYq hl
  ·exact absurd h2.symm hs
def qHb (s:List UInt8):Prop:=s.length≤40∧∀ c,c∈s→32≤c.toNat∧c.toNat≤126∧c≠95
theorem wordP_iff (s:List UInt8):qRq s↔qHb s∧s≠[32]:=by
 unfold qRq qHb
 constructor
 ·rintro ⟨h1,h2,h3⟩;exact ⟨⟨h1,h3⟩,h2⟩
 ·rintro ⟨⟨h1,h3⟩,h2⟩;exact ⟨h1,h2,h3⟩
def qSj (s:List UInt8):List UInt8:=if s=[32] then [] else s
def qSk:Fld→Fld
 | .txt s=>.txt (qSj s)
 | f=>f
def okQ:Fld→Prop
 | .num n=>qAz n
 | .txt s=>qHb s
 | .rst s=>True
 | .flg _=>True
 | .nums l=>∀ n,n∈l→qAz n
 | .flps l=>∀ f,f∈l→qAz f.ap∧qAz f.byt∧qAz f.bit
theorem qYh {s:List UInt8} (h:qHb s):qBa (qUy s)=qSj s:=by
 unfold qSj
 split
 ·rename_i hs;subst hs;rfl
 ·rename_i hs;exact qKp ((wordP_iff s).2 ⟨h,hs⟩)
theorem vEn {f:Fld} (h:okQ f):rdF (qDr f) (wrF f)=some (qSk f):=by
 cases f with
 | num n=>exact qKy (f:=.num n) h
 | txt s=>simp only [qDr,wrF,rdF,qYh h,qSk]
 | rst s=>rfl
 | flg b=>exact qKy (f:=.flg b) h
 | nums l=>exact qKy (f:=.nums l) h
 | flps l=>exact qKy (f:=.flps l) h
theorem rdAll_norm:∀ {l:List Fld},(∀ f,f∈l→okQ f)→qHw (l.map qDr) (l.map wrF)=some (l.map qSk)
 | [],_=>rfl
 | f::l,h=>by
  simp only [List.map_cons,qHw,vEn (h f List.mem_cons_self),rdAll_norm fun g hg=>h g (List.mem_cons_of_mem _ hg)]
theorem qZt (x:Akt):(qAt x).map wrF≠[]:=by
 unfold qAt
 repeat' split
 all_goals simp
def qHg (x:Akt):Akt:=qNl x.kind ((qAt x).map qSk)
theorem qYp {x:Akt} (h1:1≤x.kind∧x.kind≤11) (h3:∀ f,f∈qAt x→okQ f):qHr (joi 32 (qBw x))=some (qHg x):=by
 have hk:=qIb h1
 have hn:=qIt h1
 have hr:=rdAll_norm h3
 rw [qCj] at hr
 have hne:=qZt x
 have hsp:spl 32 (joi 32 (qBw x))=qAx x.kind::spl 32 (joi 32 ((qAt x).map wrF)):=by
  unfold qBw
  rw [qDn 32 _ hne,qDc hn]
 unfold qHr
 rw [hsp]
 simp only [hk]
 rw [if_neg (by omega)]
 by_cases h11:x.kind=11
 ·rw [if_pos h11]
  have hf:qAt x=[.txt x.state,.rst x.text]:=by unfold qAt;simp [h11]
  have hs:(32:UInt8)∉wrF (.txt x.state):=qGl (by simp [qDr])
  have hw:qGx 32 2 (joi 32 (qBw x))=[qAx x.kind,wrF (.txt x.state),x.text]:=by
   have e1:joi 32 (qBw x)=qAx x.kind++32::(wrF (.txt x.state)++32::x.text):=by unfold qBw;rw [hf];rfl
   have e2:spl 32 (wrF (.txt x.state)++32::x.text)=wrF (.txt x.state)::spl 32 x.text:=qDc hs _
   obtain ⟨v,l,hv⟩:∃ v l,spl 32 x.text=v::l:=by
    cases h:spl 32 x.text with
    | nil=>exact absurd h (qEy _ _)
    | cons v l=>exact ⟨v,l,rfl⟩
   have e3:joi 32 (v::l)=x.text:=by rw [← hv];exact qGe 32 x.text
   rw [e1]
   show (match spl 32 (qAx x.kind++32::(wrF (.txt x.state)++32::x.text)) with
    | []=>_
    | [w]=>[w]
    | w::l=>w::qGx 32 1 (joi 32 l))=_
   rw [qDc hn,e2,hv]
   simp only
   have e4:joi 32 (wrF (.txt x.state)::v::l)=wrF (.txt x.state)++32::x.text:=by rw [qDn 32 _ (by simp),e3]
   rw [e4]
   show qAx x.kind::(match spl 32 (wrF (.txt x.state)++32::x.text) with
    | []=>_
    | [w]=>[w]
    | w::l=>w::qGx 32 0 (joi 32 l))=_
   rw [e2,hv]
   simp only
   rw [e3]
   rfl
  rw [hw]
  have e5:([qAx x.kind,wrF (.txt x.state),x.text]).drop 1=(qAt x).map wrF:=by rw [hf];rfl
  rw [e5,hr,Option.map_some];rfl
 ·rw [if_neg h11]
  have hsf:spl 32 (joi 32 ((qAt x).map wrF))=(qAt x).map wrF:=by
   refine qKr hne fun w hw=>?_
   obtain ⟨f,hf,rfl⟩:=List.mem_map.1 hw
   refine qGl fun hh=>?_
   have:Shp.rst∈(qAt x).map qDr:=by rw [← hh];exact List.mem_map_of_mem hf
   rw [qCj] at this
   revert this
   unfold qBy
   repeat' split
   all_goals first | (intro hh2;simp at hh2;done) | (rename_i h;exact absurd h h11)
  rw [hsf,hr,Option.map_some];rfl
def qHp (x:Akt):Prop:=qAz x.a∧qAz x.b∧qAz x.n∧qAz x.exp∧(∀ n,n∈x.prots→qAz n)∧(∀ n,n∈x.faults→qAz n)∧(∀ n,n∈x.cuts→qAz n)∧∀ f,f∈x.flips→qAz f.ap∧qAz f.byt∧qAz f.bit
def qJi (x:Akt):Prop:=qHb x.state∧qHb x.number∧qHb x.sur∧qHb x.giv∧qHb x.nat∧qHb x.bir∧qHb x.sex∧if x.kind=11 then qSa x.text else qHb x.text
theorem small0:qAz 0:=by unfold qAz;omega
theorem word0:qHb []:=⟨by simp,fun c h=>by cases h⟩
theorem normS_eq {s:List UInt8} (h:qSj s=s):s≠[32]:=fun hh=>by subst hh;simp [qSj] at h
theorem normS_of {s:List UInt8} (h:s≠[32]):qSj s=s:=if_neg h
theorem okQ_of {x:Akt} (hs:qHp x) (hp:qJi x):∀ f,f∈qAt x→okQ f:=by
 obtain ⟨s1,s2,s3,s4,s5,s6,s7,s8⟩:=hs
 obtain ⟨p1,p2,p3,p4,p5,p6,p7,p8⟩:=hp
 intro f hf
 unfold qAt at hf
 repeat' split at hf
 all_goals simp only [List.mem_cons,List.not_mem_nil,or_false] at hf
 ·subst hf;exact s3
 ·rename_i h1 h2
  rw [if_neg (by omega)] at p8
  rcases hf with rfl | rfl
  ·exact p1
  ·exact p8
 ·subst hf;exact s1
 ·rcases hf with rfl | rfl | rfl | rfl | rfl | rfl | rfl | rfl | rfl | rfl | rfl
  ·exact s1
  ·exact p2
  ·exact p3
  ·exact p4
  ·exact p5
  ·exact p6
  ·exact p7
  ·exact s4
  ·trivial
  ·exact s5
  ·exact s6
 ·rcases hf with rfl | rfl | rfl
  ·exact s1
  ·exact s2
  ·exact s3
 ·rename_i h1 h2 h3 h4 h5 h6
  rw [if_neg (by omega)] at p8
  rcases hf with rfl | rfl
  ·exact s1
  ·exact p8
 ·rcases hf with rfl | rfl | rfl | rfl
  ·exact s1
  ·exact s2
  ·exact s7
  ·exact s8
 ·rcases hf with rfl | rfl
  ·exact p1
  ·trivial
 ·rcases hf with rfl | rfl
  ·exact s1
  ·exact s2
set_option maxHeartbeats 4000000 in
theorem qWz {x:Akt} (h:LineOk x):qHp x∧qJi x∧x=qHg x:=by
 obtain ⟨h1,h2,h3⟩:=h
 obtain ⟨k,a,b,n,st,tx,nu,su,gi,na,bi,se,ex,pr,ba,pt,td,fa,cu,fl⟩:=x
 simp only at h1
 have w0:=word0
 have z0:=small0
 rcases (by omega:k=1∨k=2∨k=3∨k=4∨k=5∨k=6∨k=7∨k=8∨k=9∨k=10∨k=11) with h | h | h | h | h | h | h | h | h | h | h <;> subst h <;>
  simp [qBq,qAt,qNl,akt0] at h2 <;> simp [qAt,okF,wordP_iff] at h3 <;>
  simp [qHp,qJi,qHg,qAt,qSk,qNl,akt0,h2,w0,z0,h3,normS_of]
 ·exact h3.2.2.2.2.2.2.2.2
 ·exact h3.2.2
theorem qVy (s:List UInt8):(s=qSj s)↔¬ s=[32]:=⟨fun h=>normS_eq h.symm,fun h=>(normS_of h).symm⟩
set_option maxHeartbeats 4000000 in
theorem qZe {x:Akt} (hk:1≤x.kind∧x.kind≤11) (hs:qHp x) (hp:qJi x) (hn:x=qHg x):LineOk x:=by
 have hq:=okQ_of hs hp
 refine ⟨hk,?_,?_⟩
 ·obtain ⟨k,a,b,n,st,tx,nu,su,gi,na,bi,se,ex,pr,ba,pt,td,fa,cu,fl⟩:=x
  simp only at hk
  clear hq hs hp
  rcases (by omega:k=1∨k=2∨k=3∨k=4∨k=5∨k=6∨k=7∨k=8∨k=9∨k=10∨k=11) with h | h | h | h | h | h | h | h | h | h | h <;> subst h <;>
   simp [qHg,qAt,qSk,qNl,akt0,qVy] at hn <;> simp [qBq,qAt,qNl,akt0,hn]
 ·obtain ⟨k,a,b,n,st,tx,nu,su,gi,na,bi,se,ex,pr,ba,pt,td,fa,cu,fl⟩:=x
  simp only at hk
  obtain ⟨-,-,-,-,-,-,-,p8⟩:=hp
  clear hs
  rcases (by omega:k=1∨k=2∨k=3∨k=4∨k=5∨k=6∨k=7∨k=8∨k=9∨k=10∨k=11) with h | h | h | h | h | h | h | h | h | h | h <;> subst h <;>
   simp [qHg,qAt,qSk,qNl,akt0,qVy] at hn <;> simp [qAt,okQ] at hq p8 <;> simp [qAt,okF,wordP_iff,hq,p8,hn]
  ·exact hq.2.2.2.2.2.2.2.2
  ·exact hq.2.2
theorem vCg (x:Akt):LineOk x↔(1≤x.kind∧x.kind≤11)∧qHp x∧qJi x∧x=qHg x :=
 ⟨fun h=>⟨h.1,qWz h⟩,fun ⟨h1,h2,h3,h4⟩=>qZe h1 h2 h3 h4⟩
theorem lineK_no {x:Akt} (h:¬ LineOk x):lineK x=[]:=by unfold lineK;rw [if_neg h]
def smB (n:Int):Bool:=decide (n≥-1073741824)&&decide (n≤1073741824)
theorem smB_iff (n:Int):smB n=true↔qAz n:=by unfold smB qAz;simp
def wcB (s:List UInt8):Bool:=s.all fun c=>decide (32≤c.toNat)&&decide (c.toNat≤126)&&(c != 95)
theorem wcB_iff (s:List UInt8):wcB s=true↔∀ c,c∈s→32≤c.toNat∧c.toNat≤126∧c≠95:=by
 unfold wcB
 rw [List.all_eq_true]
 exact ⟨fun h c hc=>by simpa [and_assoc] using h c hc,fun h c hc=>by simpa [and_assoc] using h c hc⟩
def qRn (s:List UInt8):List UInt8×Bool:=if s=[] then ([95],true) else if wcB s then (qUy s,decide ((s.length:Int)≤40)&&(s != [32])) else ([],false)
theorem wrdR_ok (s:List UInt8):((qRn s).2=true↔qRq s)∧((qRn s).2=true→(qRn s).1=qUy s):=by
 unfold qRn qRq
 by_cases h:s=[]
 ·subst h;rw [if_pos rfl]
  exact ⟨⟨fun _=>⟨by simp,by simp,fun c hc=>by cases hc⟩,fun _=>rfl⟩,fun _=>rfl⟩
 rw [if_neg h]
 by_cases hc:wcB s=true
 ·rw [if_pos hc]
  have h2:=(wcB_iff s).1 hc
  refine ⟨⟨fun h3=>?_,fun h3=>?_⟩,fun _=>rfl⟩
  ·simp at h3
   exact ⟨by omega,h3.2,h2⟩
  ·have h4:=h3.1
   simp [h3.2.1]
   omega
 ·rw [if_neg hc]
  exact ⟨⟨fun h=>(by cases h),fun h3=>absurd ((wcB_iff s).2 h3.2.2) hc⟩,fun h=>by cases h⟩
def qNr (l:List Int):List UInt8×Bool:=if l.all smB then (qEm (l.map Lib.itoa),true) else ([],false)
def flB (f:Flp):Bool:=smB f.ap&&smB f.byt&&smB f.bit
def qOx (l:List Flp):List UInt8×Bool:=if l.all flB then (qEm (l.map qBz),true) else ([],false)
theorem lstR_ok (l:List Int):((qNr l).2=true↔∀ n,n∈l→qAz n)∧((qNr l).2=true→(qNr l).1=qEm (l.map Lib.itoa)):=by
 unfold qNr
 by_cases h:l.all smB=true
 ·rw [if_pos h]
  refine ⟨⟨fun _ n hn=>(smB_iff n).1 (List.all_eq_true.1 h n hn),fun _=>rfl⟩,fun _=>rfl⟩
 ·rw [if_neg h]
  refine ⟨⟨fun hh=>(by cases hh),fun hh=>absurd (List.all_eq_true.2 fun n hn=>(smB_iff n).2 (hh n hn)) h⟩,fun hh=>by cases hh⟩
theorem flB_iff (f:Flp):flB f=true↔qAz f.ap∧qAz f.byt∧qAz f.bit:=by
 unfold flB
 rw [Bool.and_eq_true,Bool.and_eq_true,smB_iff,smB_iff,smB_iff,and_assoc]
theorem flsR_ok (l:List Flp):((qOx l).2=true↔∀ f,f∈l→qAz f.ap∧qAz f.byt∧qAz f.bit)∧((qOx l).2=true→(qOx l).1=qEm (l.map qBz)):=by
 unfold qOx
 by_cases h:l.all flB=true
 ·rw [if_pos h]
  refine ⟨⟨fun _ n hn=>(flB_iff n).1 (List.all_eq_true.1 h n hn),fun _=>rfl⟩,fun _=>rfl⟩
 ·rw [if_neg h]
  refine ⟨⟨fun hh=>(by cases hh),fun hh=>absurd (List.all_eq_true.2 fun n hn=>(flB_iff n).2 (hh n hn)) h⟩,fun hh=>by cases hh⟩
def pcB (s:List UInt8):Bool:=s.all fun c=>decide (32≤c.toNat)&&decide (c.toNat≤126)
def vBc (s:List UInt8):Bool:=pcB s&&decide ((s.length:Int)≥1)&&decide ((s.length:Int)≤1000)&&!decide (s.head?=some 32)
theorem rstB_iff (s:List UInt8):vBc s=true↔qSa s:=by
 unfold vBc qSa pcB
 rw [Bool.and_eq_true,Bool.and_eq_true,Bool.and_eq_true,List.all_eq_true]
 constructor
 ·rintro ⟨⟨⟨h1,h2⟩,h3⟩,h4⟩
  simp at h2 h3 h4
  refine ⟨fun hh=>by subst hh;simp at h2,by omega,h4,fun c hc=>by simpa using h1 c hc⟩
 ·rintro ⟨h1,h2,h3,h4⟩
  have:0 < s.length:=List.length_pos_iff.2 h1
  refine ⟨⟨⟨fun c hc=>by simpa using h4 c hc,by simp;omega⟩,by simp;omega⟩,by simpa using h3⟩
def qKn (p w:List UInt8×Bool):List UInt8×Bool:=(p.1++32::w.1,p.2&&w.2)
def vBx (p:List UInt8×Bool) (n:Int):List UInt8×Bool:=if smB n then qKn p (Lib.itoa n,true) else (p.1,false)
def lnF (p:List UInt8×Bool):Fld→List UInt8×Bool
 | .num n=>vBx p n
 | .txt s=>qKn p (qRn s)
 | .rst s=>qKn p (s,vBc s)
 | .flg b=>qKn p (if b then [121,101,115] else [110,111],true)
 | .nums l=>qKn p (qNr l)
 | .flps l=>qKn p (qOx l)
theorem addR_ok (p w:List UInt8×Bool) {k:Prop} {v:List UInt8} (h:(w.2=true↔k)∧(w.2=true→w.1=v)):((qKn p w).2=true↔p.2=true∧k)∧((qKn p w).2=true→(qKn p w).1=p.1++32::v):=by
 unfold qKn
 simp only [Bool.and_eq_true]
 exact ⟨⟨fun hh=>⟨hh.1,h.1.1 hh.2⟩,fun hh=>⟨hh.1,h.1.2 hh.2⟩⟩,fun hh=>by rw [h.2 hh.2]⟩
theorem lnF_ok (p:List UInt8×Bool) (f:Fld):((lnF p f).2=true↔p.2=true∧okF f)∧((lnF p f).2=true→(lnF p f).1=p.1++32::wrF f):=by
 cases f with
 | num n =>
  show ((vBx p n).2=true↔p.2=true∧qAz n)∧((vBx p n).2=true→(vBx p n).1=p.1++32::Lib.itoa n)
  unfold vBx
  by_cases h:smB n=true
  ·rw [if_pos h]
   exact addR_ok p (Lib.itoa n,true) ⟨⟨fun _=>(smB_iff n).1 h,fun _=>rfl⟩,fun _=>rfl⟩
  ·rw [if_neg h]
   exact ⟨⟨fun hh=>(by cases hh),fun hh=>absurd ((smB_iff n).2 hh.2) h⟩,fun hh=>by cases hh⟩
 | txt s=>exact addR_ok p (qRn s) (wrdR_ok s)
 | rst s=>exact addR_ok p (s,vBc s) ⟨rstB_iff s,fun _=>rfl⟩
 | flg b=>exact addR_ok p (if b then [121,101,115] else [110,111],true) ⟨⟨fun _=>trivial,fun _=>rfl⟩,fun _=>rfl⟩
 | nums l=>exact addR_ok p (qNr l) (lstR_ok l)
 | flps l=>exact addR_ok p (qOx l) (flsR_ok l)
theorem vFl (c:UInt8) (a b:List UInt8):∀ l:List (List UInt8),joi c (a::b::l)=joi c ((a++c::b)::l)
 | []=>rfl
 | v::l=>by
  show a++c::(b++c::joi c (v::l))=(a++c::b)++c::joi c (v::l)
  simp
theorem vDv:∀ (l:List Fld) (p:List UInt8×Bool),((l.foldl lnF p).2=true↔p.2=true∧∀ f,f∈l→okF f)∧((l.foldl lnF p).2=true→(l.foldl lnF p).1=joi 32 (p.1::l.map wrF))
 | [],p=>⟨⟨fun h=>⟨h,fun f hf=>by cases hf⟩,fun h=>h.1⟩,fun _=>rfl⟩
 | f::l,p=>by
  obtain ⟨h1,h2⟩:=vDv l (lnF p f)
  obtain ⟨h3,h4⟩:=lnF_ok p f
  rw [List.foldl_cons]
  refine ⟨⟨fun h=>?_,fun h=>?_⟩,fun h=>?_⟩
  ·obtain ⟨h5,h6⟩:=h1.1 h
   obtain ⟨h7,h8⟩:=h3.1 h5
   exact ⟨h7,fun g hg=>by rcases List.mem_cons.1 hg with rfl | hg;exact h8;exact h6 g hg⟩
  ·exact h1.2 ⟨h3.2 ⟨h.1,h.2 f List.mem_cons_self⟩,fun g hg=>h.2 g (List.mem_cons_of_mem _ hg)⟩
  ·rw [h2 h,h4 (h1.1 h).1,List.map_cons,vFl]
def qGw (x:Akt):List UInt8×Bool:=(qAt x).foldl lnF (qAx x.kind,true)
theorem lineK_R {x:Akt} (hk:1≤x.kind∧x.kind≤11) (hx:x=qBq x):lineK x=if (qGw x).2 then (qGw x).1 else []:=by
 obtain ⟨h1,h2⟩:=vDv (qAt x) (qAx x.kind,true)
 unfold lineK LineOk
 by_cases h:(qGw x).2=true
 ·rw [if_pos h,if_pos ⟨hk,hx,(h1.1 h).2⟩]
  exact (h2 h).symm
 ·rw [if_neg h,if_neg fun hh=>h (h1.2 ⟨rfl,hh.2.2⟩)]
end Tdoc
namespace Tdoc
open Go Go.ChangeShapes Go.WideShapes Go.ChangeAt Go.RowKit
def GW (W:World):Gh:=⟨fun a=>W.cell? a,fun _=>none,fun _ _=>none,fun _=>none⟩
theorem qXm (W:World) (ht:TabOk W (GW W)):WRel ⟨W,GW W,ht,[]⟩ (GW W) [] W where
 le:=.refl _
 imm:=fun _ _ h=>h
 immNew:=fun _ _ h=>.inl h
 keep:=fun _ _=>rfl
 size:=Nat.le_refl _
 os:=rfl
 tape:=rfl
 output:=rfl
 own:=fun b i h=>by cases h
 fresh:=fun i _=>⟨rfl,fun _=>rfl⟩
 obj:=fun i o h=>by simp at h
theorem qZh {P:Program} {f:FuncId} {avs:List AV} {W:World} {vals:Array Value} (ht:TabOk W (GW W)) (hs:Spec P f avs [] (fun r h'=>r=.d (.bool true)∧h'=[])) (hlen:vals.size=avs.length)
  (hrep:∀ (j:Nat) (x:AV) (v:Value),avs[j]?=some x→vals[j]?=some v→RepA (GW W) x v) :
  Calls P f vals W (fun e W'=>e=.returned (.bool true)∧Below W.heap.size W W') :=
 (hs.2 (GW W) W vals hlen hrep ht (qXm W ht)).mono fun e W' ⟨v,r,h',G',he,⟨hr,hh⟩,_,_,_,hrp,hw⟩=>by
  subst hr
  rw [hrp.bool_inv] at he
  exact ⟨he,hw.os,hw.tape,hw.output,hw.size,fun k hk=>hw.keep k ⟨hk,rfl⟩⟩
section
variable {H:Type} {enc:TypeId×Value→H} {P:Program}
theorem trodAll_below (hl:laidOutB P=true) {W W':World} (hb:Below W.heap.size W W') {sp:Nat→Bool} :
  ∀ {ts:List TypeId} {vs:List Value} {ds:List (DataW H)} {ps:List MemPlace},ts.all (fun t=>P.readableRec t&&decide (t < P.types.size))=true →
   DataW.TrodAll enc P W 0 (fun _=>true) true ts vs ds ps→(∀ p∈ps,p.block < W.heap.size)→(∀ p∈ps,sp p.block=true)→DataW.TrodAll enc P W' 0 sp true ts vs ds ps
 | [],_,_,_,_,h,_,_=>by
  obtain ⟨rfl,rfl,rfl⟩:=trodAll_nil h
  exact trodAll_mk0
 | t::ts,_,_,_,hr,h,hlt,hsp=>by
  obtain ⟨v,vs1,d,ds1,a,b,rfl,rfl,rfl,h1,h2⟩:=trodAll_cons h
  simp only [List.all_cons,Bool.and_eq_true,decide_eq_true_eq] at hr
  exact trodAll_cons_mk (WideElems.Trod_stays hl hr.1.1 hr.1.2 h1 (fun x hx=>hb.same (hlt x (by simp [hx]))) (fun x hx=>hsp x (by simp [hx])))
   (trodAll_below hl hb (by simpa using hr.2) h2 (fun x hx=>hlt x (by simp [hx])) (fun x hx=>hsp x (by simp [hx])))
theorem vCi {f:Func} {s:ChangeSpec} {again:Bool} {W W':World} {args:Array Value} {ds gs:List (DataW H)} {before:List MemPlace} {tb:TypeId} (hl:laidOutB P=true)
  (hr:f.params.toList.all (fun t=>P.readableRec t&&decide (t < P.types.size))=true) (hres:f.resultTypes = #[tb]) (htb:P.underlying tb=some .bool) (hvars:s.vars=[])
  (hW:DataW.Whole enc P f.params.toList s.vars false W args.toList ds gs before) (hfn:s.fn H (ds++gs)={ results:=[.lit (.bool true)],args:=ds }) (hb:Below W.heap.size W W') :
  s.post enc P f false true false again W args (.bool true) W':=by
 have hW0:=hW
 have hlt:=hW.lt
 obtain ⟨p,q,hA,hV,rfl,hfz,hnd⟩:=hW
 rw [hvars] at hV
 obtain ⟨rfl,rfl⟩:=trodVars_none hV
 have hargs:∀ sp:Nat→Bool,(∀ x∈p++[],sp x.block=true)→DataW.TrodAll enc P W' 0 sp true f.params.toList args.toList (s.fn H (ds++[])).args p:=by
  intro sp hsp
  rw [hfn]
  exact trodAll_below hl hb hr hA (fun x hx=>hlt x (by simp [hx])) (fun x hx=>hsp x (by simp [hx]))
 have hv:∀ sp:Nat→Bool,DataW.TrodVars enc P W' sp s.vars (s.fn H (ds++[])).vars []:=by
  intro sp;rw [hfn,hvars];rfl
 have hrs:∀ (b:Nat) (sp:Nat→Bool) (hd:Bool),DataW.TrodAll enc P W' b sp hd f.resultTypes.toList ((Value.bool true).resultList f.resultTypes.size) (s.fn H (ds++[])).results []:=by
  intro b sp hd
  rw [hfn,hres]
  exact trodAll_cons_mk (shut_bool htb _) trodAll_mk0
 refine ⟨ds,[],p++[],[],p,[],hW0,hrs _ _ _,hargs _ (fun x hx=>by simpa using hlt x hx),hv _,World.keptBut_mono (fun p hp=>⟨hp,?_⟩) (hb.frame (· ∈ p++[])),fun _=>?_⟩
 ·exact Or.inr (Or.inl (by simpa using hp))
 ·refine ⟨ok_one hres rfl (okWide_bool_mk htb _),_,_,([]++p)++[],⟨[]++p,[],trodAll_append (hargs _ (fun _ _=>rfl)) (hrs _ _ _),hv _,rfl,?_,fun h=>by cases h⟩,?_⟩
  ·intro b off hp
   rw [hb.frozen (p:=⟨b,off,none⟩) (hlt (.cell b off) (by simpa using hp))]
   exact hfz b off (by simpa using hp)
  ·intro x hx _
   simpa using hx
theorem vBv {r:Reach} {b0:Nat} {W:World} {t:TypeId} {v:Value} {d:DataW H} {ps:List MemPlace} (ht:P.underlying t=some .string) (hval:Value.okWide P W r b0 t v)
  (hd:DataW.Trod enc P W 0 (fun _=>true) true t v d ps):∃ s:List UInt8,s.length≤maxLen∧RepA (GW W) (.d (.str s)) v:=by
 obtain ⟨s,rfl,_,_,h⟩:=Go.ChangeMaps.open_string ht hval hd
 obtain ⟨⟨l⟩⟩:=s
 exact ⟨l,by simpa [ByteArray.size] using h,.d (.str l)⟩
end
end Tdoc
namespace Tdoc
open Go
theorem wrapu8 {n:Int} (h:0≤n∧n≤255):IntKind.u8.wrap n=n:=by
 simp only [IntKind.wrap,IntKind.signed,IntKind.bits]
 simp
 omega
theorem qEe (n:Int):IntKind.u8.wrap n=n % 256:=by
 simp only [IntKind.wrap,IntKind.signed,IntKind.bits]
 simp
theorem ofInt_nat (n:Nat):BitVec.ofInt 64 (n:Int)=BitVec.ofNat 64 n:=by
 apply BitVec.eq_of_toNat_eq
 simp [BitVec.toNat_ofInt]
theorem qTf {a b:Nat} (ha:a < 9223372036854775808) (hb:b < 9223372036854775808) :
  IntKind.i64.wrap ((BitVec.ofInt IntKind.i64.bits (a:Int) &&& BitVec.ofInt IntKind.i64.bits (b:Int)).toNat:Int)=((a &&& b:Nat):Int):=by
 have h:(BitVec.ofInt IntKind.i64.bits (a:Int) &&& BitVec.ofInt IntKind.i64.bits (b:Int)).toNat=a &&& b:=by
  show (BitVec.ofInt 64 (a:Int) &&& BitVec.ofInt 64 (b:Int)).toNat=a &&& b
  rw [ofInt_nat,ofInt_nat,BitVec.toNat_and,BitVec.toNat_ofNat,BitVec.toNat_ofNat,Nat.mod_eq_of_lt (by omega),Nat.mod_eq_of_lt (by omega)]
 rw [h]
 have:=Nat.and_le_left (n:=a) (m:=b)
 exact qAh (by omega)
theorem vHl {a b:Nat} (ha:a < 9223372036854775808) (hb:b < 9223372036854775808) :
  IntKind.i64.wrap ((BitVec.ofInt IntKind.i64.bits (a:Int) ||| BitVec.ofInt IntKind.i64.bits (b:Int)).toNat:Int)=((a ||| b:Nat):Int):=by
 have h:(BitVec.ofInt IntKind.i64.bits (a:Int) ||| BitVec.ofInt IntKind.i64.bits (b:Int)).toNat=a ||| b:=by
  show (BitVec.ofInt 64 (a:Int) ||| BitVec.ofInt 64 (b:Int)).toNat=a ||| b
  rw [ofInt_nat,ofInt_nat,BitVec.toNat_or,BitVec.toNat_ofNat,BitVec.toNat_ofNat,Nat.mod_eq_of_lt (by omega),Nat.mod_eq_of_lt (by omega)]
 rw [h]
 have:a ||| b < 2 ^ 63:=Nat.or_lt_two_pow (by omega) (by omega)
 exact qAh (by omega)
theorem vEp {a b:Nat} (ha:a < 256) (hb:b < 256) :
  IntKind.u8.wrap ((BitVec.ofInt IntKind.u8.bits (a:Int) ||| BitVec.ofInt IntKind.u8.bits (b:Int)).toNat:Int)=((a ||| b:Nat):Int):=by
 have h8:∀ n:Nat,BitVec.ofInt 8 (n:Int)=BitVec.ofNat 8 n:=fun n=>by
  apply BitVec.eq_of_toNat_eq
  simp [BitVec.toNat_ofInt]
 have h:(BitVec.ofInt IntKind.u8.bits (a:Int) ||| BitVec.ofInt IntKind.u8.bits (b:Int)).toNat=a ||| b:=by
  show (BitVec.ofInt 8 (a:Int) ||| BitVec.ofInt 8 (b:Int)).toNat=a ||| b
  rw [h8,h8,BitVec.toNat_or,BitVec.toNat_ofNat,BitVec.toNat_ofNat,Nat.mod_eq_of_lt (by omega),Nat.mod_eq_of_lt (by omega)]
 rw [h]
 have:a ||| b < 2 ^ 8:=Nat.or_lt_two_pow (by omega) (by omega)
 exact wrapu8 (by omega)
theorem qVn (a k:Nat):a &&& (2 ^ k-1)=a % 2 ^ k:=Nat.and_two_pow_sub_one_eq_mod a k
theorem vGh (a k:Nat):a &&& 2 ^ k=2 ^ k*(a / 2 ^ k % 2):=by
 apply Nat.eq_of_testBit_eq
 intro i
 rw [Nat.testBit_and,Nat.testBit_two_pow,Nat.mul_comm,Nat.testBit_mul_two_pow]
 by_cases h:k=i
 ·subst h
  simp only [decide_true,Bool.and_true,Nat.le_refl,Nat.sub_self,Bool.true_and]
  rw [Nat.testBit_eq_decide_div_mod_eq,Nat.testBit_eq_decide_div_mod_eq]
  congr 1
  simp
 ·simp only [h,decide_false,Bool.and_false]
  by_cases hk:k≤i
  ·have h2:i-k≠0:=by omega
   simp only [hk,decide_true,Bool.true_and]
   rw [Nat.testBit_eq_decide_div_mod_eq]
   have h3:a / 2 ^ k % 2 / 2 ^ (i-k)=0:=by
    apply Nat.div_eq_of_lt
    have h4:a / 2 ^ k % 2 < 2:=Nat.mod_lt _ (by omega)
    have h5:2 ^ 1≤2 ^ (i-k):=Nat.pow_le_pow_right (by omega) (by omega)
    omega
   rw [h3];simp
  ·simp [hk]
theorem vDt (a b k:Nat) (h:b < 2 ^ k):a*2 ^ k ||| b=a*2 ^ k+b:=by
 rw [Nat.mul_comm,← Nat.two_pow_add_eq_or_of_lt h]
theorem qDt (a k:Nat):Int.fdiv (a:Int) ((2:Int) ^ k)=((a / 2 ^ k:Nat):Int):=by
 rw [Int.fdiv_eq_ediv_of_nonneg _ (by exact Int.le_of_lt (Int.pow_pos (by omega)))]
 simp
end Tdoc
namespace Tdoc
open Go Go.Proofs Go.ChangeShapes Go.WideShapes Go.Deep Go.Joins
section
variable {H:Type} {enc:TypeId×Value→H} {P:Program} {W:World}
end
end Tdoc
namespace Tdoc
open Go
section
variable {P:Program} {E:Env} {T:Tr} {o:Oper} {ρ:Operand→AV} {h h':List AObj} {v:AV}
theorem arrPtr_ok (hT:TOk P T) {t n sz i off:Nat} {g:Bool} {x ix:Operand} {k:IntKind} {j:Int} (ho:o.op=.indexAddr t x ix) (ht:vIp T t=some (n,sz,g)) (hx:ρ x=.ptr i off) (hix:ρ ix=.d (.int k j)) (h0:0≤j∧j < (n:Int)) :
  OpP P o ρ (.ptr i (off+j.toNat*sz)):=by
 intro G e w hi hr
 have hx':RepA G (ρ x) (e x):=hr x (by simp [ho,Op.operands])
 have hix':RepA G (ρ ix) (e ix):=hr ix (by simp [ho,Op.operands])
 rw [hx] at hx';rw [hix] at hix'
 obtain ⟨et,ie,h1,h2,h3,h4⟩:=arrT_ok hT ht
 obtain ⟨b,hv,hl⟩:=hx'.ptr_inv
 refine ⟨.pointer (some ⟨b,off+j.toNat*sz,none⟩),?_,.ptr _ hl⟩
 unfold execOp
 simp only [ho,Sem.run_bind]
 rw [hv,hix'.int_inv]
 simp [Instr.indexAt,asIntOf,run_underlying h1,Instr.sureAddr,h0.1,h0.2,h2.run_size,h3,qCr]
theorem qYt (hT:TOk P T) {t sz i off n cap:Nat} {x:Operand} {lo hi:Option Operand} {l r:Nat} (ho:o.op=.slice t x lo hi none) (hs:qCk T t sz=true) (hx:ρ x=.row i off n cap)
  (hlo:match lo with | none=>l=0 | some y=>∃ k,ρ y=.d (.int k (l:Int))) (hhi:match hi with | none=>r=n | some y=>∃ k,ρ y=.d (.int k (r:Int))) (hle:l≤r) (hc:r≤cap)
  (hv:AV.row i (if cap=l then off else off+l*sz) (r-l) (cap-l)=v):OpP P o ρ v:=hv▸rowCut_ok hT ho hs hx hlo hhi hle hc
theorem qGh (hT:TOk P T) {t t2 sz by_ i:Nat} {s x:Operand} {es2:List (List Dat)} (ho:o.op=.call { callee:=.builtin .append,args:=#[s,x],argTypes:=#[t,t2] })
  (ht:vAg T t=some (sz,by_)) (ht2:qYk T t2=true) (hs:ρ s=.sl sz [] .full∨ρ s=.nils) (hsx:s≠x) (hi:h[i]?=some .room) (hx:qKb sz (ρ x)=some es2) (hb:es2.length*(by_+1)≤140737488355328) :
  OpS P E o ρ h (.sl sz es2 (.right i)) (h.set i (.right sz es2.length)):=by
 have:=qLp (E:=E) (es:=[]) hT ho ht ht2 (hs.imp (fun h=>h) fun h=>⟨h,rfl⟩) hsx hi hx (by simpa using hb)
 simpa using this
end
section
variable {P:Program} {E:Env} {T:Tr} {o:Oper} {ρ:Operand→AV} {h:List AObj}
theorem vCc {G:Gh} {sz:Nat} {es:List (List Dat)} {news:List Value} (hlen:∀ e,e∈es→e.length=sz) (hn:∀ (i:Nat) (e:List Dat) (j:Nat) (d:Dat),es[i]?=some e→e[j]?=some d→∃ u,news[i*sz+j]?=some u∧RepD G.imm d u) :
  ∀ (j:Nat) (c:AV) (u:Value),(qEi es)[j]?=some c→news[j]?=some u→RepA G c u∧qHy u=true:=by
 intro j c u hc hu
 simp only [qEi,List.getElem?_map,Option.map_eq_some_iff] at hc
 obtain ⟨d,hd,rfl⟩:=hc
 obtain ⟨i,j',e,he,hd',hjj⟩:=qFc hlen hd
 obtain ⟨u',hu',hru⟩:=hn i e j' d he hd'
 rw [← hjj,hu] at hu'
 cases hu'
 exact ⟨.d hru,hru.one⟩
theorem appRowD_ok (hT:TOk P T) {t t2 sz by_ i n cap:Nat} {s x:Operand} {cells:List AV} {es2:List (List Dat)} (ho:o.op=.call { callee:=.builtin .append,args:=#[s,x],argTypes:=#[t,t2] })
  (ht:vAg T t=some (sz,by_)) (ht2:qYk T t2=true) (hs:ρ s=.row i 0 n cap) (hx:qKb sz (ρ x)=some es2) (hi:h[i]?=some (.row cells)) (hfit:n+es2.length≤cap) (hc1:(n+es2.length)*sz≤cells.length) :
  OpS P E o ρ h (.row i 0 (n+es2.length) cap) (h.set i (.row (qCw cells (n*sz) (qEi es2)))) :=
 qBv fun G e w hw hr=>by
  have hs':RepA G (ρ s) (e s):=hr s (by simp [ho,Op.operands,Call.operands])
  have hx':RepA G (ρ x) (e x):=hr x (by simp [ho,Op.operands,Call.operands])
  obtain ⟨et,ie,h1,h2,rfl,rfl,hzl⟩:=appT_ok hT ht
  obtain ⟨d2,h3,h4⟩:=srcT_ok hT ht2
  obtain ⟨hlen2,news,n1,n2,n3,n4⟩:=asNew_src (P:=P) hw.imm hx' hx
  rw [hs] at hs'
  obtain ⟨b,hv,hl⟩:=hs'.row_inv
  obtain ⟨b',hl',hown,hrow,himm⟩:=hw.obj i _ hi
  rw [hl] at hl';cases hl'
  have hfl:=flatAV_length hlen2
  rw [Nat.add_mul] at hc1
  obtain ⟨w',q1,q2,q3,q4,q5,q6,q7⟩:=qHc (P:=P) news (qEi es2) cells (n*ie.size) 0 w hrow (by rw [n2];omega) (by rw [n2,hfl]) (vCc hlen2 n4)
  have hrun:=qCu (ty:=o.type) h1 h3 h4 h2 (w':=w') (a:=some ⟨b,0,none⟩) (n:=n) (cap:=cap) n1 hfit (by simp only [qCr,Nat.zero_add];exact q1)
  refine ⟨.slice (some ⟨b,0,none⟩) (n+es2.length) cap,w',G,?_,.refl G,hw.setObj hi hl (by simpa using q2) q3 q4 q5 q6 q7,.row _ _ _ hl⟩
  unfold execOp
  simp [ho,resolve,invoke,builtin,hv,hrun]
end
def qWr:Dat→Dat→Bool
 | .int _ x,.int _ y=>x == y
 | .str a,.str b=>a == b
 | _,_=>false
def qIr:List Dat→List Dat→Bool
 | [],[]=>true
 | d::ds,e::es=>qWr d e&&qIr ds es
 | _,_=>false
def qGd:Dat→Option (Option IntKind)
 | .int k _=>some (some k)
 | .str _=>some none
 | _=>none
def fOk (P:Program):List Field→Nat→List (Option IntKind)→Bool
 | [],_,[]=>true
 | f::fs,off,k::ks=>(f.name != "_")&&(Nat.beq f.offset off&&((match P.underlying f.type with
  | some (.int _)=>k.isSome
  | some .string=>k.isNone
  | _=>false)&&fOk P fs (off+1) ks))
 | _,_,_=>false
theorem qVl {P:Program} {w:World} {t:TypeId} {cs:Array Value} {off:Nat} {v:Value} {u:TypeDesc} (hu:P.underlying t=some u) (ha:∀ w:World,(isAgg t).run P w=.ok false w) (hv:cs[off]?=some v):(part t cs off).run P w=.ok v w:=by
 unfold part
 simp only [Sem.run_bind,ha,Result.andThen_ok,Bool.false_eq_true,if_false,hv,Sem.run_pure]
theorem eqFields_flat {m:Addr→Option Value} {P:Program} {w:World} {n:Nat} {xs ys:Array Value}:∀ (fs:List Field) (ks:List (Option IntKind)) (off:Nat) (ds es:List Dat),fOk P fs off ks=true→ds.map qGd=ks.map some→es.map qGd=ks.map some →
  (∀ (j:Nat) (d:Dat),ds[j]?=some d→∃ v,xs[off+j]?=some v∧RepD m d v)→(∀ (j:Nat) (d:Dat),es[j]?=some d→∃ v,ys[off+j]?=some v∧RepD m d v) →
  (Op.eqFields (n+1) xs ys fs).run P w=.ok (qIr ds es) w
 | [],[],off,ds,es,_,h1,h2,_,_=>by
  obtain rfl:ds=[]:=by simpa using h1
  obtain rfl:es=[]:=by simpa using h2
  rfl
 | [],_::_,_,_,_,h,_,_,_,_=>by simp [fOk] at h
 | _::_,[],_,_,_,h,_,_,_,_=>by simp [fOk] at h
 | f::fs,k::ks,off,ds,es,h,h1,h2,hx,hy=>by
  match ds,es,h1,h2 with
  | [],_,h1,_=>simp at h1
  | _::_,[],_,h2=>simp at h2
  | d::ds,e::es,h1,h2 =>
   simp only [List.map_cons,List.cons.injEq] at h1 h2
   simp only [fOk,Bool.and_eq_true,bne_iff_ne,ne_eq] at h
   obtain ⟨g1,g2,g3,g4⟩:=h
   have ih:=eqFields_flat (n:=n) (w:=w) (xs:=xs) (ys:=ys) (m:=m) fs ks (off+1) ds es g4 h1.2 h2.2 (fun j d hj=>by have:=hx (j+1) d (by simpa using hj);rwa [show off+(j+1)=off+1+j by omega] at this) (fun j d hj=>by have:=hy (j+1) d (by simpa using hj);rwa [show off+(j+1)=off+1+j by omega] at this)
   obtain ⟨u,hu,ru⟩:=hx 0 d rfl
   obtain ⟨v,hv,rv⟩:=hy 0 e rfl
   rw [Nat.add_zero] at hu hv
   have ho:f.offset=off:=Nat.eq_of_beq_eq_true g2
   rw [← ho] at hu hv
   unfold Op.eqFields
   rw [if_pos g1]
   have fin:∀ b:Bool,(Op.equalIn (n+1) f.type u v).run P w=.ok b w→(∃ t,P.underlying f.type=some t∧∀ w:World,(isAgg f.type).run P w=.ok false w)→b=qWr d e →
     (do let a ← part f.type xs f.offset;let b ← part f.type ys f.offset;let r ← Op.equalIn (n+1) f.type a b;if (!r)=true then pure false else Op.eqFields (n+1) xs ys fs:Sem Bool).run P w=.ok (qIr (d::ds) (e::es)) w:=by
    rintro b hb ⟨t,ht,ha⟩ rfl
    simp only [Sem.run_bind,qVl ht ha hu,qVl ht ha hv,Result.andThen_ok,hb]
    rw [qIr]
    cases qWr d e
    ·simp
    ·simp [ih]
   cases hund:P.underlying f.type with
   | none=>rw [hund] at g3;cases g3
   | some td =>
    rw [hund] at g3
    cases td
    case int k' =>
     cases k with
     | none=>cases g3
     | some k =>
      match d,h1.1,ru with
      | .int _ x,h1,ru =>
       match e,h2.1,rv with
       | .int _ y,h2,rv =>
        simp only [qGd,Option.some.injEq] at h1 h2
        subst h1;subst h2
        cases ru;cases rv
        exact fin (x == y) (run_equalIn_int w n f.type _ k' x y hund) ⟨_,hund,fun w=>by simp [isAgg,run_underlying hund]⟩ rfl
       | .bool _,h2,_=>simp [qGd] at h2
       | .str _,h2,_=>simp [qGd] at h2
       | .sl _ _,h2,_=>simp [qGd] at h2
      | .bool _,h1,_=>simp [qGd] at h1
      | .str _,h1,_=>simp [qGd] at h1
      | .sl _ _,h1,_=>simp [qGd] at h1
    case string =>
     cases k with
     | some k=>cases g3
     | none =>
      match d,h1.1,ru with
      | .str a,h1,ru =>
       match e,h2.1,rv with
       | .str b,h2,rv =>
        cases ru;cases rv
        refine fin _ (run_equalIn_string w n f.type _ _ hund) ⟨_,hund,fun w=>by simp [isAgg,run_underlying hund]⟩ ?_
        simp [qWr,ByteArray.toList_mk]
       | .bool _,h2,_=>simp [qGd] at h2
       | .int _ _,h2,_=>simp [qGd] at h2
       | .sl _ _,h2,_=>simp [qGd] at h2
      | .bool _,h1,_=>simp [qGd] at h1
      | .int _ _,h1,_=>simp [qGd] at h1
      | .sl _ _,h1,_=>simp [qGd] at h1
    all_goals cases g3
section
variable {P:Program} {o:Oper} {ρ:Operand→AV}
theorem structNe_ok {t yt:Nat} {x y:Operand} {ds es:List Dat} {ks:List (Option IntKind)} (ho:o.op=.binOp .neq t x y yt) (hu:P.underlying t=some (.struct (P.fieldsOf t))) (hp:P.stoodInHeld t=false) (hg:P.eqGuardType P.depth t=false)
  (hf:fOk P (P.fieldsOf t).toList 0 ks=true) (hx:ρ x=.agg (ds.map .d)) (hy:ρ y=.agg (es.map .d)) (h1:ds.map qGd=ks.map some) (h2:es.map qGd=ks.map some):OpP P o ρ (.d (.bool (!qIr ds es))):=by
 intro G e w hi hr
 have hx':RepA G (ρ x) (e x):=hr x (by simp [ho,Op.operands])
 have hy':RepA G (ρ y) (e y):=hr y (by simp [ho,Op.operands])
 rw [hx] at hx';rw [hy] at hy'
 have cells:∀ {ds:List Dat} {v:Value},RepA G (.agg (ds.map .d)) v→∃ vs,v=.agg vs∧∀ (j:Nat) (d:Dat),ds[j]?=some d→∃ v,vs[0+j]?=some v∧RepD G.imm d v:=by
  intro ds v h
  generalize hc:ds.map AV.d=cs at h
  cases h with
  | agg vs hs hv ho =>
   subst hc
   refine ⟨vs,rfl,fun j d hj=>?_⟩
   have hjl:=(List.getElem?_eq_some_iff.1 hj).1
   have hl:j < vs.size:=by rw [hs];simpa using hjl
   have:=hv j (.d d) vs[j] (by simp [hj]) (by simp [hl])
   refine ⟨vs[j],by simp [hl],?_⟩
   cases this with
   | d r=>exact r
 obtain ⟨xs,hxe,hxc⟩:=cells hx'
 obtain ⟨ys,hye,hyc⟩:=cells hy'
 refine ⟨.bool (!qIr ds es),?_,.d (.bool _)⟩
 have heq:(Op.equalIn 10000 t (.agg xs) (.agg ys)).run P w=.ok (qIr ds es) w:=by
  rw [show (10000:Nat)=9999+1 from rfl,run_equalIn_agg w 9999 t xs ys hu hp]
  exact eqFields_flat (n:=9998) _ ks 0 ds es hf h1 h2 hxc hyc
 unfold execOp
 simp only [ho,Sem.run_bind]
 rw [hxe,hye,run_eqGuard_agg w .neq t x y xs ys hg]
 simp only [Result.andThen_ok,Sem.run_bind]
 rw [run_neq_struct,heq]
 rfl
end
end Tdoc
