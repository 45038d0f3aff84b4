/- The texts R4 R5 R6 R7 R8 T1 D1 N1 I2 R12 R13 I1 R15 R16 R17 R18 R19 R20 R21 R24 R25 R26 R27 R9 R10 R28 R29 R30 R31 R22 R23 R14: each says at its head what it shows. Part 2 of the proof; no conditions beyond the theorems' own. -/
import Derived.Test.YtnjanpmgonoeeaaGreatDoorKY1
import Derived.Lib.SlBytesConst
import Derived.WalkKit
import Derived.ProofKit
import Derived.OpenShut
import Derived.JoinedCond
import Derived.Lib.ConvBytes
import Derived.Below
import Derived.Sort.Grow
import Derived.Deep.Draws
import Derived.Laws.StructEq
import Derived.RangeFuncRecord
import Derived.RangeFuncCalls
import Derived.OrdersIn
import Derived.Scope
import Derived.MapKept
import Derived.Laws.IdiomRangeMap
import Derived.ChangeAlike
set_option linter.unusedSimpArgs false
set_option linter.unusedVariables false
namespace Tdoc
open Go
theorem RepA.bm_inv {G:Gh} {v:Value} {i n:Nat} (h:RepA G (.bm i n) v):∃ a cap,v=.slice a n cap∧G.rt i n=some (a,cap):=by cases h with | bm a cap r _=>exact ⟨a,cap,rfl,r⟩
theorem RepA.bm_inv2 {G:Gh} {v:Value} {i n:Nat} (h:RepA G (.bm i n) v):∃ a cap,v=.slice a n cap∧G.rt i n=some (a,cap)∧(a=none→n=0):=by cases h with | bm a cap r hz=>exact ⟨a,cap,rfl,r,hz⟩
theorem RepA.bp_inv {G:Gh} {v:Value} {i n k:Nat} (h:RepA G (.bp i n k) v):∃ p cap,v=.pointer (some (p.add k))∧G.rt i n=some (some p,cap):=by cases h with | bp p cap _ r=>exact ⟨p,cap,rfl,r⟩
theorem WRel.bufAt {E:Env} {G G':Gh} {h:List AObj} {w w':World} {i bl:Nat} {ob ob':AObj} (hw:WRel E G h w) (hi:h[i]?=some ob) (hle:G.le G') (himm:∀ a,G'.imm a=G.imm a) (hown:∀ b,G'.own b=G.own b) (hloc:∀ j,G'.loc j=G.loc j)
  (hrt:∀ j n,j≠i→G'.rt j n=G.rt j n) (hbl:G.own bl=some i) (hcell:∀ a v,G.imm a=some v→w'.cell? a=some v) (hheap:∀ k,k≠bl→w'.heap[k]?=w.heap[k]?) (hs:w'.heap.size=w.heap.size)
  (ho:w'.os=w.os) (ht:w'.tape=w.tape) (hout:w'.output=w.output) (hob:ObjRel G' w' i ob'):WRel E G' (h.set i ob') w':=by
 have hKb:=(hw.own _ i hbl).2
 have hilt:i < h.length:=(List.getElem?_eq_some_iff.1 hi).1
 refine ⟨hw.le.trans hle,fun a v ha=>hcell a v (by rw [himm] at ha;exact ha),fun a v ha=>hw.immNew a v (by rw [himm] at ha;exact ha),fun b hb=>?_,by rw [hs];exact hw.size,ho.trans hw.os,ht.trans hw.tape,hout.trans hw.output,
  fun b j hb=>by rw [hs];rw [hown] at hb;exact hw.own b j hb,fun j hj=>?_,fun j o hj=>?_⟩
 ·rw [hheap b (fun hh=>hKb (hh▸hb))];exact hw.keep b hb
 ·simp only [List.length_set] at hj
  have:=hw.fresh j hj
  exact ⟨by rw [hloc];exact this.1,fun n=>by rw [hrt j n (by omega)];exact this.2 n⟩
 ·rw [List.getElem?_set] at hj
  by_cases hij:i=j
  ·subst hij
   simp only [if_true,hilt] at hj
   cases hj
   exact hob
  ·rw [if_neg hij] at hj
   refine (hw.obj j o hj).keep hle (fun b hb=>⟨hheap b (fun hh=>?_),fun a ha=>himm a⟩) (fun n hn=>by rw [hrt j n (fun e=>hij e.symm)];exact hn) (fun hn=>by rw [hloc];exact hn)
   subst hh
   rw [hbl] at hb;cases hb;exact hij rfl
def rtSet (G:Gh) (i n:Nat) (x:Option Addr×Nat):Gh:={ G with rt:=fun j m=>if j=i∧m=n then some x else G.rt j m }
theorem rtSet_le {G:Gh} {i n:Nat} {x:Option Addr×Nat} (h:G.rt i n=none):G.le (rtSet G i n x):=by
 refine ⟨fun _ _ h=>h,fun _ _ h=>h,fun j m y hy=>?_,fun _ _ h=>h⟩
 show (if j=i∧m=n then _ else G.rt j m)=some y
 split
 ·rename_i hc;rw [hc.1,hc.2,h] at hy;cases hy
 ·exact hy
theorem rtSet_at (G:Gh) (i n:Nat) (x:Option Addr×Nat):(rtSet G i n x).rt i n=some x:=by show (if i=i∧n=n then _ else _)=_;simp
theorem rtSet_ne {G:Gh} {i n j m:Nat} {x:Option Addr×Nat} (h:¬ (j=i∧m=n)):(rtSet G i n x).rt j m=G.rt j m:=by show (if j=i∧m=n then _ else _)=_;rw [if_neg h]
section
variable {P:Program} {E:Env} {T:Tr} {o:Oper} {ρ:Operand→AV} {h h':List AObj} {v:AV}
theorem qBe (hT:TOk P T) {t sz i n:Nat} {x ix:Operand} {k:IntKind} {j:Int} (ho:o.op=.indexAddr t x ix) (hs:sliceElem T t sz=true)
  (hx:ρ x=.bm i n) (hix:ρ ix=.d (.int k j)) (h0:0≤j∧j < (n:Int)):OpP P o ρ (.bp i n (j.toNat*sz)):=by
 intro G e w hi hr
 have hx':RepA G (ρ x) (e x):=hr x (by simp [ho,Op.operands])
 have hix':RepA G (ρ ix) (e ix):=hr ix (by simp [ho,Op.operands])
 rw [hx] at hx';rw [hix] at hix'
 obtain ⟨et,ie,h1,h2,h3⟩:=qDo hT hs
 obtain ⟨a,cap,hv,hl,hz⟩:=hx'.bm_inv2
 cases a with
 | none=>have:=hz rfl;omega
 | some p =>
  refine ⟨.pointer (some (p.add (j.toNat*sz))),?_,.bp p cap _ hl⟩
  unfold execOp
  simp only [ho,Sem.run_bind]
  rw [hv,hix'.int_inv]
  simp [Instr.indexAt,asIntOf,run_underlying h1,h0.1,h0.2,h2.run_size,h3]
theorem qBl (hT:TOk P T) {t i n off sz:Nat} {ti:TI} {x:Operand} {cells:List AV} (ho:o.op=.load t x) (hx:ρ x=.bp i n off) (hi:h[i]?=some (.buf sz n cells)) (hf:T.find t=some ti) (ha:ti.agg=false)
  (hv:cells[off]?=some v):OpS P E o ρ h v h :=
 qBi fun G e w hw hr=>by
  have hx':RepA G (ρ x) (e x):=hr x (by simp [ho,Op.operands])
  rw [hx] at hx'
  obtain ⟨p,cap,hp,hl⟩:=hx'.bp_inv
  obtain ⟨a',cap',hl',_,hb1,hb2,hb3,hb4⟩:=hw.obj i _ hi
  rw [hl] at hl';cases hl'
  have hlt:=(List.getElem?_eq_some_iff.1 hv).1
  have hcap:0 < cap:=by
   rcases Nat.eq_zero_or_pos cap with h0 | h0
   ·have:n=0:=by omega
    subst this;simp at hb1;rw [hb1] at hlt;simp at hlt
   ·exact h0
  obtain ⟨q1,q2,q3,q4⟩:=hb4 p rfl hcap
  obtain ⟨u,u1,u2,u3⟩:=q3 off v hv
  have hti:=hT.at hf
  refine ⟨u,w,G,?_,.refl G,hw,u3⟩
  unfold execOp
  simp [ho,Instr.loadAt,hp,Instr.sureAddr,loadVar,hti.run_agg,ha,u1]
theorem bufStore_ok (hT:TOk P T) {t i n off sz:Nat} {ti:TI} {x y:Operand} {cells:List AV} (ho:o.op=.store t x y) (hx:ρ x=.bp i n off) (hi:h[i]?=some (.buf sz n cells)) (hf:T.find t=some ti) (hsz:Nat.beq ti.size 1=true)
  (hs:scalarA (ρ y)=true) (hlt:off < cells.length):OpS P E o ρ h .any (h.set i (.buf sz n (cells.set off (ρ y)))) :=
 OpS_of_skip fun G e w hw hr=>by
  have hx':RepA G (ρ x) (e x):=hr x (by simp [ho,Op.operands])
  have hy':RepA G (ρ y) (e y):=hr y (by simp [ho,Op.operands])
  rw [hx] at hx'
  obtain ⟨p,cap,hp,hl⟩:=hx'.bp_inv
  obtain ⟨a',cap',hl',hlater,hb1,hb2,hb3,hb4⟩:=hw.obj i _ hi
  rw [hl] at hl';cases hl'
  have hcap:0 < cap:=by
   rcases Nat.eq_zero_or_pos cap with h0 | h0
   ·have:n=0:=by omega
    subst this;simp at hb1;rw [hb1] at hlt;simp at hlt
   ·exact h0
  obtain ⟨q1,q2,q3,q4⟩:=hb4 p rfl hcap
  have hcs:n*sz≤cap*sz:=Nat.mul_le_mul_right _ hb2
  have hone:=scalar_one hy' hs
  have hti:=hT.at hf
  have h1:=Nat.eq_of_beq_eq_true hsz
  have hspot:(p.add off).spot=none:=add_spot p q1 _
  obtain ⟨w',r1,r2,r3,r4,r5,r6,r7,r8,r9⟩:=store_spare (P:=P) hspot [e y] 0 w (fun k u hk=>by
    cases k with
    | zero=>simp at hk;subst hk;exact hone
    | succ k=>simp at hk) (fun k hk=>by
    simp at hk;subst hk
    obtain ⟨c1,c2,_⟩:=q4 off (by omega)
    rw [Nat.zero_add,show (p.add off).add 0=p.add off by simp [Addr.add]]
    exact ⟨c1,c2⟩)
  have hadd0:(p.add off).add 0=p.add off:=by simp [Addr.add]
  have hother:∀ j,j≠off→w'.cell? (p.add j)=w.cell? (p.add j):=fun j hj=>r3 _ (fun k hk hh=>by
   simp at hk;subst hk
   rw [Nat.zero_add,hadd0,qCk p q1,qCk p q1] at hh
   injection hh with _ h5 _
   omega)
  refine ⟨w',G,?_,.refl G,hw.bufAt (bl:=p.block) hi (.refl G) (fun _=>rfl) (fun _=>rfl) (fun _=>rfl) (fun _ _ _=>rfl) q2 (fun a u hu=>?_) (fun k hk=>r5 k (by rw [qCq];exact hk)) r6 r7 r8 r9 ?_⟩
  ·unfold execOp
   have hsz':(e y).cells.size=ti.size:=by rw [one_cells hone,h1];rfl
   simp [ho,Instr.storeAt,hp,Instr.sureAddr,storeVar,hti.run_size,h1,one_cells hone,r1]
  ·rw [r3 a (fun k hk hh=>?_)]
   ·exact hw.imm a u hu
   ·simp at hk;subst hk
    rw [Nat.zero_add,hadd0] at hh
    have:=(q4 off (by omega)).2.2
    rw [← hh,hu] at this;cases this
  ·refine ⟨some p,cap,hl,hlater,by simpa using hb1,hb2,hb3,fun p' hp' _=>?_⟩
   cases hp'
   refine ⟨q1,q2,fun j c hj=>?_,fun j hj=>?_⟩
   ·rw [List.getElem?_set] at hj
    by_cases hjo:off=j
    ·subst hjo
     simp only [if_true,hlt] at hj
     cases hj
     refine ⟨e y,?_,hone,hy'⟩
     have:=r2 0 (e y) (by simp)
     rwa [Nat.zero_add,hadd0] at this
    ·rw [if_neg hjo] at hj
     obtain ⟨u,u1,u2,u3⟩:=q3 j c hj
     exact ⟨u,by rw [hother j (fun e=>hjo e.symm)];exact u1,u2,u3⟩
   ·obtain ⟨⟨u,c1⟩,c2,c3⟩:=q4 j hj
    refine ⟨?_,by rw [r4];exact c2,c3⟩
    by_cases hjo:j=off
    ·subst hjo
     refine ⟨e y,?_⟩
     have:=r2 0 (e y) (by simp)
     rwa [Nat.zero_add,hadd0] at this
    ·exact ⟨u,by rw [hother j hjo];exact c1⟩
def flatAV (es:List (List Dat)):List AV:=es.flatten.map .d
theorem flatAV_length {sz:Nat}:∀ {es:List (List Dat)},(∀ e,e∈es→e.length=sz)→(flatAV es).length=es.length*sz
 | [],_=>by simp [flatAV]
 | a::l,h=>by
  have:=flatAV_length (es:=l) (fun e he=>h e (by simp [he]))
  simp only [flatAV,List.length_map] at this ⊢
  rw [List.flatten_cons,List.length_append,this,h a (by simp),List.length_cons,Nat.succ_mul];omega
theorem flatten_at {sz:Nat}:∀ {es:List (List Dat)} {k:Nat} {d:Dat},(∀ e,e∈es→e.length=sz)→es.flatten[k]?=some d→∃ (i j:Nat) (e:List Dat),es[i]?=some e∧e[j]?=some d∧k=i*sz+j
 | [],k,d,_,h=>by simp at h
 | a::l,k,d,hl,h=>by
  rw [List.flatten_cons] at h
  have ha:=hl a (by simp)
  by_cases hk:k < a.length
  ·rw [List.getElem?_append_left hk] at h
   exact ⟨0,k,a,by simp,h,by simp⟩
  ·rw [List.getElem?_append_right (by omega)] at h
   obtain ⟨i,j,e,h1,h2,h3⟩:=flatten_at (fun e he=>hl e (by simp [he])) h
   exact ⟨i+1,j,e,by simpa using h1,h2,by rw [Nat.succ_mul];omega⟩
theorem bufAppG_ok (hT:TOk P T) {t t2 sz by_ i n m:Nat} {s x:Operand} {cells cs2:List AV} (ho:o.op=.call { callee:=.builtin .append,args:=#[s,x],argTypes:=#[t,t2] })
  (ht:appT T t=some (sz,by_)) (ht2:srcT T t2=true) (hs:ρ s=.bm i n) (hi:h[i]?=some (.buf sz n cells)) (hl2:cs2.length=m*sz)
  (hsrc:∀ (G:Gh) (xv:Value) (w:World),WRel E G h w→RepA G (ρ x) xv→∃ news,Src P w xv m sz news∧news.length=m*sz∧(∀ (k:Nat) (u:Value),news[k]?=some u→oneC u=true)∧∀ (j:Nat) (c:AV),cs2[j]?=some c→∃ u,news[j]?=some u∧RepA G c u)
  (hb:(n+m)*(by_+1)≤140737488355328) :
  OpS P E o ρ h (.bm i (n+m)) (h.set i (.buf sz (n+m) (cells++cs2))) :=
 qBi fun G e w hw hr=>by
  have hs':RepA G (ρ s) (e s):=hr s (by simp [ho,Op.operands,Call.operands])
  have hx':RepA G (ρ x) (e x):=hr x (by simp [ho,Op.operands,Call.operands])
  rw [hs] at hs'
  obtain ⟨et,ie,h1,h2,rfl,rfl,hzl⟩:=appT_ok hT ht
  obtain ⟨d2,h3,h4⟩:=srcT_ok hT ht2
  obtain ⟨news,n1,n2,n3,n4⟩:=hsrc G _ w hw hx'
  obtain ⟨a,cap,hsv,hrt⟩:=hs'.bm_inv
  obtain ⟨a',cap',hrt',hlater,hb1,hcap,hb3,hb4⟩:=hw.obj i _ hi
  rw [hrt] at hrt';cases hrt'
  have hfl:=hl2
  have hex:(execOp e o).run P w=((Builtin.append_ #[t,t2] o.type #[e s,e x]).run P w).andThen fun u w'=>.ok (.value u) w':=by
   unfold execOp
   simp [ho,resolve,invoke,builtin]
  have hilt:i < h.length:=(List.getElem?_eq_some_iff.1 hi).1
  have hnewc:∀ (G':Gh),G.le G'→∀ (j:Nat) (c:AV),(cs2)[j]?=some c→∃ u,news[j]?=some u∧oneC u=true∧RepA G' c u:=by
   intro G' hle j c hj
   obtain ⟨u,hu,hru⟩:=n4 j c hj
   exact ⟨u,hu,n3 _ u hu,hru.mono hle⟩
  by_cases hz:m=0
  ·subst hz
   have hn:news=[]:=by simpa using n2
   have hc:cs2=[]:=by simpa using hl2
   subst hn
   subst hc
   have hrun:=qCy (ty:=o.type) h1 h3 h4 h2 (w':=w) (a:=a) (n:=n) (cap:=cap) n1 (by simpa using hcap) (by cases a <;> simp [storeCells])
   have hset:h.set i (.buf ie.size (n+0) (cells++[]))=h:=by
    apply List.ext_getElem?
    intro j
    rw [List.getElem?_set]
    split
    ·rename_i e;subst e
     rw [hi];simp [hilt]
    ·rfl
   refine ⟨e s,w,G,?_,.refl G,by rw [hset];exact hw,by rw [hsv];exact .bm a cap hrt (by obtain ⟨a2,c2,e2,_,hz2⟩:=hs'.bm_inv2;rw [hsv] at e2;cases e2;exact hz2)⟩
   rw [hex,hsv,hrun];simp
  ·have hpos:0 < m:=Nat.pos_of_ne_zero hz
   have hrtn:G.rt i (n+m)=none:=hlater _ (by omega)
   by_cases hfit:n+m≤cap
   ·cases a with
    | none=>have:=hb3.1 rfl;omega
    | some p =>
     obtain ⟨p1,p2,p3,p4⟩:=hb4 p rfl (by omega)
     have hm1:(n+m)*ie.size≤cap*ie.size:=Nat.mul_le_mul_right _ hfit
     rw [Nat.add_mul] at hm1
     have hspot:(p.add (n*ie.size)).spot=none:=add_spot p p1 _
     obtain ⟨w',q1,q2,q3,q4,q5,q6,q7,q8,q9⟩:=store_spare (P:=P) hspot news 0 w n3 (fun k hk=>by
      rw [Nat.zero_add,qCx p p1]
      obtain ⟨c1,c2,_⟩:=p4 (n*ie.size+k) (by omega)
      exact ⟨c1,c2⟩)
     have hrun:=qCy (ty:=o.type) h1 h3 h4 h2 (w':=w') (a:=some p) (n:=n) (cap:=cap) n1 hfit (by simpa using q1)
     have hold:∀ j,¬ (n*ie.size≤j∧j < n*ie.size+news.length)→w'.cell? (p.add j)=w.cell? (p.add j):=fun j hj=>q3 _ (fun k hk hh=>by
      rw [Nat.zero_add,qCx p p1,qCk p p1,qCk p p1] at hh
      injection hh with _ h5 _
      omega)
     have hnw:∀ (k:Nat) (u:Value),news[k]?=some u→w'.cell? (p.add (n*ie.size+k))=some u:=fun k u hu=>by
      have:=q2 k u hu
      rwa [Nat.zero_add,qCx p p1] at this
     have hle:=rtSet_le (x:=(some p,cap)) hrtn
     refine ⟨.slice (some p) (n+m) cap,w',rtSet G i (n+m) (some p,cap),by rw [hex,hsv,hrun];rfl,hle,?_,.bm _ _ (rtSet_at _ _ _ _) (fun h=>by cases h)⟩
     refine hw.bufAt (bl:=p.block) hi hle (fun _=>rfl) (fun _=>rfl) (fun _=>rfl) (fun j m hj=>rtSet_ne (fun hc=>hj hc.1)) p2 (fun a u hu=>?_) (fun k hk=>q5 k (by rw [qCq];exact hk)) q6 q7 q8 q9 ?_
     ·rw [q3 a (fun k hk hh=>?_)]
      ·exact hw.imm a u hu
      ·rw [Nat.zero_add,qCx p p1] at hh
       have:=(p4 (n*ie.size+k) (by omega)).2.2
       rw [← hh,hu] at this;cases this
     ·refine ⟨some p,cap,rtSet_at _ _ _ _,fun n' hn'=>by rw [rtSet_ne (by omega)];exact hlater n' (by omega),by rw [List.length_append,hb1,hfl,Nat.add_mul],hfit,hb3,fun p' hp' _=>?_⟩
      cases hp'
      refine ⟨p1,p2,fun j c hj=>?_,fun j hj=>?_⟩
      ·by_cases hjl:j < cells.length
       ·rw [List.getElem?_append_left hjl] at hj
        obtain ⟨u,u1,u2,u3⟩:=p3 j c hj
        exact ⟨u,by rw [hold j (by omega)];exact u1,u2,u3.mono hle⟩
       ·rw [List.getElem?_append_right (by omega)] at hj
        obtain ⟨u,u1,u2,u3⟩:=hnewc _ hle _ c hj
        refine ⟨u,?_,u2,u3⟩
        have:=hnw _ u u1
        rwa [show n*ie.size+(j-cells.length)=j by omega] at this
      ·obtain ⟨⟨u,c1⟩,c2,c3⟩:=p4 j hj
       refine ⟨?_,by rw [q4];exact c2,c3⟩
       by_cases hjn:n*ie.size≤j∧j < n*ie.size+news.length
       ·have hk:j-n*ie.size < news.length:=by omega
        have:=hnw (j-n*ie.size) news[j-n*ie.size] (by simp [hk])
        exact ⟨_,by rwa [show n*ie.size+(j-n*ie.size)=j by omega] at this⟩
       ·exact ⟨u,by rw [hold j hjn];exact c1⟩
   ·-- a new row
    have hsrc:∃ olds:List Value,Src P w (e s) n ie.size olds∧olds.length=n*ie.size∧∀ (j:Nat) (c:AV),cells[j]?=some c→∃ u,olds[j]?=some u∧oneC u=true∧RepA G c u:=by
     by_cases hc0:0 < cap
     ·cases a with
      | none=>have:=hb3.1 rfl;omega
      | some p =>
       obtain ⟨p1,p2,p3,p4⟩:=hb4 p rfl hc0
       let f:Nat→Value:=fun j=>(w.cell? (p.add j)).getD undef
       have hm:n*ie.size≤cap*ie.size:=Nat.mul_le_mul_right _ hcap
       refine ⟨(List.range (n*ie.size)).map f,fun w'' hh=>?_,by simp,fun j c hj=>?_⟩
       ·have hld:(loadCells p (n*ie.size)).run P w''=.ok ((List.range (n*ie.size)).map f).toArray w'':=by
         refine run_loadCells (P:=P) w'' p (n*ie.size) f (fun j hj=>?_)
         obtain ⟨⟨u,c1⟩,_⟩:=p4 j (by omega)
         rw [cell?_heap hh];simp [f,c1]
        rw [hsv]
        refine ⟨rfl,?_⟩
        simp [Builtin.firstCells,hld]
       ·have hjl:j < n*ie.size:=by rw [← hb1];exact (List.getElem?_eq_some_iff.1 hj).1
        obtain ⟨u,u1,u2,u3⟩:=p3 j c hj
        exact ⟨u,by simp [hjl,f,u1],u2,u3⟩
     ·have hn0:n=0:=by omega
      subst hn0
      refine ⟨[],fun w'' hh=>?_,by simp,fun j c hj=>?_⟩
      ·rw [hsv]
       refine ⟨rfl,?_⟩
       cases a with
       | none=>simp [Builtin.firstCells]
       | some p =>
        have:=run_loadCells (P:=P) w'' p 0 (fun _=>undef) (fun j hj=>by omega)
        simp only [Builtin.firstCells,Nat.zero_mul]
        simpa using this
      ·have:=(List.getElem?_eq_some_iff.1 hj).1
       rw [hb1] at this;simp at this
    obtain ⟨olds,o1,o2,o3⟩:=hsrc
    obtain ⟨newCap,rest,w',c1,c2,c3,c4,c5,c6,c7⟩:=qDd (ty:=o.type) h1 h3 h4 h2 hsv o1 n1 (by omega) hb
    let cs:=olds.toArray++news.toArray++rest
    have hown:G.own w.heap.size=none:=by
     cases ho:G.own w.heap.size with
     | none=>rfl
     | some j=>have:=(hw.own _ _ ho).1;omega
    have hK:¬ E.K w.heap.size:=fun hk=>by have:=hw.size;have:=hk.1;omega
    let G':Gh:={ rtSet G i (n+m) (some ⟨w.heap.size,0,none⟩,newCap) with own:=fun b=>if b=w.heap.size then some i else G.own b }
    have hle:G.le G':=by
     refine ⟨fun _ _ x=>x,fun _ _ x=>x,(rtSet_le hrtn).rt,fun b j hb'=>?_⟩
     show (if b=w.heap.size then some i else G.own b)=some j
     split
     ·rename_i hc;subst hc;rw [hown] at hb';cases hb'
     ·exact hb'
    have hsum:(n+m)*ie.size+(newCap-(n+m))*ie.size=newCap*ie.size:=by
     rw [← Nat.add_mul];congr 1;omega
    have hcs:cs.size=newCap*ie.size:=by
     have:cs.size=olds.length+news.length+rest.size:=by simp [cs];omega
     rw [this,c4,hzl,o2,n2,← Nat.add_mul,hsum]
    have hcell:w'.heap[w.heap.size]?=some (.cells cs et):=by rw [c3];exact Array.getElem?_push_size
    have hcj:∀ j,w'.cell? ((⟨w.heap.size,0,none⟩:Addr).add j)=cs[j]?:=fun j=>by
     rw [qDb,Nat.zero_add];simp [World.cell?,hcell]
    refine ⟨_,w',G',by rw [hex,c2];rfl,hle,?_,.bm _ _ (rtSet_at _ _ _ _) (fun h=>by cases h)⟩
    refine ⟨hw.le.trans hle,fun a u hu=>?_,hw.immNew,fun b hb'=>?_,by rw [c3];simp;have:=hw.size;omega,c5.trans hw.os,c6.trans hw.tape,c7.trans hw.output,fun b j hb'=>?_,fun j hj=>?_,fun j ob hj=>?_⟩
    ·have hcc:=hw.imm a u hu
     rw [World.cell?_of_block (w:=w) (by rw [c3];exact qAv _ _ _ (World.block_lt_of_cell? _ _ hcc))]
     exact hcc
    ·rw [c3,qAv _ _ _ (Nat.lt_of_lt_of_le hb'.1 hw.size)];exact hw.keep b hb'
    ·have hb2:(if b=w.heap.size then some i else G.own b)=some j:=hb'
     split at hb2
     ·rename_i hc;subst hc;exact ⟨by rw [c3];simp,hK⟩
     ·have:=hw.own b j hb2;exact ⟨by rw [c3];simp;omega,this.2⟩
    ·simp only [List.length_set] at hj
     have:=hw.fresh j hj
     exact ⟨this.1,fun m=>by show (rtSet G i _ _).rt j m=none;rw [rtSet_ne (by omega)];exact this.2 m⟩
    ·rw [List.getElem?_set] at hj
     by_cases hij:i=j
     ·subst hij
      simp only [if_true,hilt] at hj
      cases hj
      refine ⟨some ⟨w.heap.size,0,none⟩,newCap,rtSet_at _ _ _ _,fun n' hn'=>by show (rtSet G i _ _).rt i n'=none;rw [rtSet_ne (by omega)];exact hlater n' (by omega),by rw [List.length_append,hb1,hfl,Nat.add_mul],c1,⟨fun h=>(by cases h),fun p' hp'=>(by cases hp';rfl)⟩,fun p' hp' _=>?_⟩
      cases hp'
      refine ⟨rfl,by show (if w.heap.size=w.heap.size then _ else _)=_;simp,fun k c hk=>?_,fun k hk=>⟨?_,?_,?_⟩⟩
      ·rw [hcj]
       by_cases hkl:k < cells.length
       ·rw [List.getElem?_append_left hkl] at hk
        obtain ⟨u,u1,u2,u3⟩:=o3 k c hk
        refine ⟨u,?_,u2,u3.mono hle⟩
        have hko:k < olds.length:=(List.getElem?_eq_some_iff.1 u1).1
        simp only [cs]
        rw [Array.getElem?_append_left (by simp;omega),Array.getElem?_append_left (by simpa using hko)]
        simpa using u1
       ·rw [List.getElem?_append_right (by omega)] at hk
        obtain ⟨u,u1,u2,u3⟩:=hnewc _ hle _ c hk
        refine ⟨u,?_,u2,u3⟩
        have hkn:=(List.getElem?_eq_some_iff.1 u1).1
        simp only [cs]
        rw [Array.getElem?_append_left (by simp;omega),Array.getElem?_append_right (by simp;omega)]
        simp only [List.size_toArray,List.getElem?_toArray]
        rw [o2,← hb1];exact u1
      ·rw [hcj];exact ⟨cs[k]'(by rw [hcs];exact hk),by simp [hcs,hk]⟩
      ·rw [qDb];simp [World.frozen?,c3]
      ·cases hg:G.imm ((⟨w.heap.size,0,none⟩:Addr).add k) with
       | none=>exact hg
       | some u=>have:=World.block_lt_of_cell? _ _ (hw.imm _ u hg);rw [qCq] at this;simp at this
     ·rw [if_neg hij] at hj
      refine (hw.obj j ob hj).keep hle (fun b hb'=>⟨by rw [c3];exact qAv _ _ _ (hw.own b j hb').1,fun a ha=>rfl⟩) (fun m hm=>by show (rtSet G i _ _).rt j m=none;rw [rtSet_ne (fun hc=>hij hc.1.symm)];exact hm) (fun hn=>hn)
theorem bufApp_ok (hT:TOk P T) {t t2 sz by_ i n:Nat} {s x:Operand} {cells:List AV} {es2:List (List Dat)} (ho:o.op=.call { callee:=.builtin .append,args:=#[s,x],argTypes:=#[t,t2] })
  (ht:appT T t=some (sz,by_)) (ht2:srcT T t2=true) (hs:ρ s=.bm i n) (hi:h[i]?=some (.buf sz n cells)) (hx:asNew sz (ρ x)=some es2)
  (hb:(n+es2.length)*(by_+1)≤140737488355328) :
  OpS P E o ρ h (.bm i (n+es2.length)) (h.set i (.buf sz (n+es2.length) (cells++flatAV es2))):=by
 have hlen2:∀ G xv w,WRel E G h w→RepA G (ρ x) xv→∀ e,e∈es2→e.length=sz:=fun G xv w hw hr=>(asNew_src (P:=P) hw.imm hr hx).1
 intro G e w hw hr
 have hx':=hr x (by simp [ho,Op.operands,Call.operands])
 have hl:=hlen2 G _ w hw hx'
 refine bufAppG_ok (m:=es2.length) (cs2:=flatAV es2) hT ho ht ht2 hs hi (flatAV_length hl) (fun G xv w hw hx=>?_) hb G e w hw hr
 obtain ⟨_,news,n1,n2,n3,n4⟩:=asNew_src (P:=P) hw.imm hx ‹asNew sz (ρ x)=some es2›
 refine ⟨news,n1,n2,n3,fun j c hj=>?_⟩
 simp only [flatAV,List.getElem?_map,Option.map_eq_some_iff] at hj
 obtain ⟨d,hd,rfl⟩:=hj
 obtain ⟨i',j',el,e1,e2,rfl⟩:=flatten_at hl hd
 obtain ⟨u,hu,hru⟩:=n4 i' el j' d e1 e2
 exact ⟨u,hu,.d hru⟩
end
theorem Rel_bufOf {E:Env} {N:Nat} {l:List (Nat×AV)} {h:List AObj} {t sz i:Nat} (ht:look l t=.sl sz [] .full∨look l t=.nils) (hi:h[i]?=some .room) :
  ∀ a w,Rel E N (look l) h a w→Rel E N (look ((t,.bm i 0)::l)) (h.set i (.buf sz 0 [])) a w:=by
 intro a w ⟨h1,h2,G,hw,hr⟩
 have hx:=hr t
 obtain ⟨p,hv,hsp⟩:∃ p:Option Addr,a.tmps.getD t undef=.slice p 0 0∧∀ q,p=some q→q.spot=none:=by
  rcases ht with ht | ht
  ·rw [ht] at hx
   generalize a.tmps.getD t undef=u at hx
   cases hx with
   | sl r k =>
    obtain ⟨p,rfl⟩:=k
    obtain ⟨a',cap',h5,h6,h7⟩:=r.slice_inv
    cases h5
    exact ⟨p,rfl,fun q hq=>(h7 q hq).1⟩
  ·rw [ht] at hx
   generalize a.tmps.getD t undef=u at hx
   cases hx;exact ⟨none,rfl,fun q hq=>by cases hq⟩
 have hrm:=hw.obj i _ hi
 have hilt:i < h.length:=(List.getElem?_eq_some_iff.1 hi).1
 have hle:=rtSet_le (G:=G) (i:=i) (n:=0) (x:=(p,0)) (hrm.2 0)
 refine ⟨h1,h2,rtSet G i 0 (p,0),⟨hw.le.trans hle,hw.imm,hw.immNew,hw.keep,hw.size,hw.os,hw.tape,hw.output,hw.own,fun j hj=>?_,fun j o hj=>?_⟩,fun s=>?_⟩
 ·simp only [List.length_set] at hj
  have:=hw.fresh j hj
  exact ⟨this.1,fun n=>by rw [rtSet_ne (by omega)];exact this.2 n⟩
 ·rw [List.getElem?_set] at hj
  by_cases hij:i=j
  ·subst hij
   simp only [if_true,hilt] at hj
   cases hj
   exact ⟨p,0,rtSet_at _ _ _ _,fun n' hn'=>by rw [rtSet_ne (by omega)];exact hrm.2 n',by simp,Nat.le_refl _,⟨fun _=>rfl,hsp⟩,fun _ _ hc=>by omega⟩
  ·rw [if_neg hij] at hj
   exact (hw.obj j o hj).keep hle (fun b hb=>⟨rfl,fun _ _=>rfl⟩) (fun n hn=>by rw [rtSet_ne (fun hc=>hij hc.1.symm)];exact hn) (fun hn=>hn)
 ·show RepA _ (bif Nat.beq s t then _ else look l s) _
  cases hb:Nat.beq s t with
  | false=>exact (hr s).mono hle
  | true =>
   obtain rfl:=Nat.eq_of_beq_eq_true hb
   rw [hv]
   exact .bm _ _ (rtSet_at _ _ _ _) (fun _=>rfl)
theorem Rel_freezeBuf {E:Env} {N:Nat} {l:List (Nat×AV)} {h:List AObj} {t i n sz:Nat} {cells:List AV} {es:List (List Dat)} (ht:look l t=.bm i n) (hi:h[i]?=some (.buf sz n cells)) (hn:es.length=n) (hd:RowDat cells 0 sz es) :
  ∀ a w,Rel E N (look l) h a w→Rel E N (look ((t,.sl sz es (.right i))::l)) (h.set i (.right sz n)) a w:=by
 intro a w ⟨h1,h2,G,hw,hr⟩
 have hx:=hr t
 rw [ht] at hx
 obtain ⟨p,cap,hv,hl⟩:=hx.bm_inv
 obtain ⟨p',cap',hl',hlater,hb1,hb2,hb3,hb4⟩:=hw.obj i _ hi
 rw [hl] at hl';cases hl'
 have hilt:i < h.length:=(List.getElem?_eq_some_iff.1 hi).1
 cases p with
 | none =>
  have hc0:=hb3.1 rfl
  have hn0:n=0:=by omega
  have hes:es=[]:=List.length_eq_zero_iff.1 (by omega)
  subst hn0;subst hes;subst hc0
  refine ⟨h1,h2,G,⟨hw.le,hw.imm,hw.immNew,hw.keep,hw.size,hw.os,hw.tape,hw.output,hw.own,fun j hj=>hw.fresh j (by simpa using hj),fun j o hj=>?_⟩,fun s=>?_⟩
  ·rw [List.getElem?_set] at hj
   by_cases hij:i=j
   ·subst hij
    simp only [if_true,hilt] at hj
    cases hj
    exact ⟨none,0,hl,Nat.le_refl _,hlater,fun hlt=>by omega⟩
   ·rw [if_neg hij] at hj;exact hw.obj j o hj
  ·show RepA _ (bif Nat.beq s t then _ else look l s) _
   cases hb:Nat.beq s t with
   | false=>exact hr s
   | true =>
    obtain rfl:=Nat.eq_of_beq_eq_true hb
    rw [hv]
    exact .sl (.nil sz) ⟨none,0,rfl,hl⟩
 | some p =>
  have hsp:=hb3.2 p rfl
  by_cases hcap0:0 < cap
  ·obtain ⟨q1,q2,q3,q4⟩:=hb4 p rfl hcap0
   have hns:n*sz≤cap*sz:=Nat.mul_le_mul_right _ hb2
   let inn:Addr→Prop:=fun a=>a.block=p.block∧a.spot=none∧p.off≤a.off∧a.off < p.off+n*sz
   let G':Gh:={ G with imm:=fun a=>if a.block=p.block∧a.spot=none∧p.off≤a.off∧a.off < p.off+n*sz then w.cell? a else G.imm a }
   have hle:G.le G':=by
    refine ⟨fun x u hu=>?_,fun _ _ h=>h,fun _ _ _ h=>h,fun _ _ h=>h⟩
    have hne:¬ (x.block=p.block∧x.spot=none∧p.off≤x.off∧x.off < p.off+n*sz):=fun hh=>by
     have:=(q4 (x.off-p.off) (by omega)).2.2
     rw [qCk p q1,← hh.1,show p.off+(x.off-p.off)=x.off by omega,← hh.2.1] at this
     rw [show (⟨x.block,x.off,x.spot⟩:Addr)=x from rfl,hu] at this
     cases this
    show (if _ then _ else _)=_
    rw [if_neg hne];exact hu
   have hKb:=(hw.own _ i q2).2
   have hat:∀ k,k < n*sz→G'.imm (p.add k)=w.cell? (p.add k):=fun k hk=>by
    show (if _ then _ else _)=_
    rw [if_pos (by rw [qCk p q1];exact ⟨rfl,rfl,by simp,by simp;omega⟩)]
   refine ⟨h1,h2,G',⟨hw.le.trans hle,fun x u hu=>?_,fun x u hu=>?_,hw.keep,hw.size,hw.os,hw.tape,hw.output,hw.own,fun j hj=>hw.fresh j (by simpa using hj),fun j o hj=>?_⟩,fun s=>?_⟩
   ·simp only [G'] at hu
    split at hu
    ·exact hu
    ·exact hw.imm x u hu
   ·simp only [G'] at hu
    split at hu
    ·rename_i hh;right;rw [hh.1];exact hKb
    ·exact hw.immNew x u hu
   ·rw [List.getElem?_set] at hj
    by_cases hij:i=j
    ·subst hij
     simp only [if_true,hilt] at hj
     cases hj
     refine ⟨some p,cap,hl,hb2,hlater,fun hlt=>⟨p,rfl,q1,q2,fun k hk1 hk2=>?_⟩⟩
     obtain ⟨c1,c2,c3⟩:=q4 k hk2
     refine ⟨c1,c2,?_⟩
     show (if _ then _ else _)=_
     rw [if_neg (by rw [qCk p q1];simp;omega)];exact c3
    ·rw [if_neg hij] at hj
     refine (hw.obj j o hj).keep hle (fun b hb=>⟨rfl,fun x hx=>?_⟩) (fun _ h=>h) (fun h=>h)
     have hne:b≠p.block:=fun hh=>by subst hh;rw [q2] at hb;cases hb;exact hij rfl
     show (if _ then _ else _)=_
     rw [if_neg (fun hh=>hne (hx.symm.trans hh.1))]
   ·show RepA _ (bif Nat.beq s t then _ else look l s) _
    cases hb:Nat.beq s t with
    | false=>exact (hr s).mono hle
    | true =>
     obtain rfl:=Nat.eq_of_beq_eq_true hb
     rw [hv]
     have hcell:∀ (i':Nat) (e:List Dat) (j:Nat) (d:Dat),es[i']?=some e→e[j]?=some d→G'.imm (p.add (i'*sz+j))=some ((w.cell? (p.add (i'*sz+j))).getD undef)∧RepD G'.imm d ((w.cell? (p.add (i'*sz+j))).getD undef):=by
      intro i' e j d he hj
      obtain ⟨c,g1,g2⟩:=hd.2 i' e j d he hj
      rw [Nat.zero_add] at g1
      have hlt:=(List.getElem?_eq_some_iff.1 g1).1
      obtain ⟨u,u1,u2,u3⟩:=q3 _ c g1
      rw [hat _ (by omega),u1]
      exact ⟨rfl,(toDat_ok u3 g2).mono hle.imm⟩
     refine .sl ?_ ⟨some p,cap,by rw [hn],by rw [hn];exact hl⟩
     rw [← hn]
     exact .sl sz es p cap (fun k=>(w.cell? (p.add k)).getD undef) q1 (by omega) hd.1 (fun i' e j d he hj=>(hcell i' e j d he hj).1) (fun i' e j d he hj=>(hcell i' e j d he hj).2)
  ·have hc0:cap=0:=by omega
   have hn0:n=0:=by omega
   have hes:es=[]:=List.length_eq_zero_iff.1 (by omega)
   subst hn0;subst hes;subst hc0
   refine ⟨h1,h2,G,⟨hw.le,hw.imm,hw.immNew,hw.keep,hw.size,hw.os,hw.tape,hw.output,hw.own,fun j hj=>hw.fresh j (by simpa using hj),fun j o hj=>?_⟩,fun s=>?_⟩
   ·rw [List.getElem?_set] at hj
    by_cases hij:i=j
    ·subst hij
     simp only [if_true,hilt] at hj
     cases hj
     exact ⟨some p,0,hl,Nat.le_refl _,hlater,fun hlt=>by omega⟩
    ·rw [if_neg hij] at hj;exact hw.obj j o hj
   ·show RepA _ (bif Nat.beq s t then _ else look l s) _
    cases hb:Nat.beq s t with
    | false=>exact hr s
    | true =>
     obtain rfl:=Nat.eq_of_beq_eq_true hb
     rw [hv]
     exact .sl (RepD.sl sz [] p 0 (fun _=>undef) hsp (Nat.le_refl _) (fun e he=>by cases he) (fun i e j d he=>by simp at he) (fun i e j d he=>by simp at he)) ⟨some p,0,rfl,hl⟩
theorem AW_bufOf {P:Program} {E:Env} {N:Nat} {Q:Exit→(Nat→AV)→List AObj→Prop} {c:Code} {l:List (Nat×AV)} {h h':List AObj} (t sz i:Nat) (ht:look l t=.sl sz [] .full∨look l t=.nils) (hi:h[i]?=some .room)
  (hh:forceS (h.set i (.buf sz 0 [])) some=some h') (hc:AW P E N c Q (look ((t,.bm i 0)::l)) h'):AW P E N c Q (look l) h:=by
 rw [qDf] at hh;cases hh
 exact AW_sub (Rel_bufOf ht hi) hc
theorem AW_freezeBuf {P:Program} {E:Env} {N:Nat} {Q:Exit→(Nat→AV)→List AObj→Prop} {c:Code} {l:List (Nat×AV)} {h h':List AObj} (t i sz:Nat) {n:Nat} {cells:List AV} (es:List (List Dat)) (ht:look l t=.bm i n) (hi:h[i]?=some (.buf sz n cells)) (hn:es.length=n)
  (hd:RowDat cells 0 sz es) (hh:forceS (h.set i (.right sz n)) some=some h') (hc:AW P E N c Q (look ((t,.sl sz es (.right i))::l)) h'):AW P E N c Q (look l) h:=by
 rw [qDf] at hh;cases hh
 exact AW_sub (Rel_freezeBuf ht hi hn hd) hc
end Tdoc
namespace Tdoc
open Go
def arrT (T:Tr) (t:Nat):Option (Nat×Nat×Bool):=match T.find t with
 | some i=>match i.kind with
  | .array n e=>match T.find e with
   | some ie=>some (n,ie.size,ie.agg)
   | none=>none
  | _=>none
 | none=>none
theorem arrT_ok {P:Program} {T:Tr} (hT:TOk P T) {t n sz:Nat} {g:Bool} (h:arrT T t=some (n,sz,g)):∃ e ie,P.underlying t=some (.array n e)∧TypeAt P e ie∧ie.size=sz∧ie.agg=g:=by
 unfold arrT at h
 split at h
 ·rename_i i hi
  split at h
  ·rename_i n' e hk
   split at h
   ·rename_i ie hie
    cases h
    obtain ⟨d,hd,hkd⟩:=(hT.at hi).und
    rw [hk] at hkd
    cases d <;> simp [kindOk] at hkd
    obtain ⟨rfl,rfl⟩:=hkd
    exact ⟨_,ie,hd,hT.at hie,rfl,rfl⟩
   ·cases h
  ·cases h
 ·cases h
section
variable {P:Program} {E:Env} {T:Tr} {o:Oper} {ρ:Operand→AV} {h h':List AObj} {v:AV}
theorem arrAddr_ok (hT:TOk P T) {t n sz:Nat} {g:Bool} {x ix:Operand} {k:IntKind} {j:Int} {cs:List Dat} (ho:o.op=.indexAddr t x ix) (ht:arrT T t=some (n,sz,g)) (hx:ρ x=.iptr cs) (hix:ρ ix=.d (.int k j)) (h0:0≤j∧j < (n:Int)) :
  OpP P o ρ (.iptr (cs.drop (j.toNat*sz))):=by
 intro G e w hi hr
 have hx':RepA G (ρ x) (e x):=hr x (by simp [ho,Op.operands])
 have hix':RepA G (ρ ix) (e ix):=hr ix (by simp [ho,Op.operands])
 rw [hx] at hx';rw [hix] at hix'
 obtain ⟨et,ie,h1,h2,h3,h4⟩:=arrT_ok hT ht
 obtain ⟨a,hv,hd⟩:=iptr_drop hx' (j.toNat*sz)
 refine ⟨_,?_,hd⟩
 unfold execOp
 simp only [ho,Sem.run_bind]
 rw [hv,hix'.int_inv]
 simp [Instr.indexAt,asIntOf,run_underlying h1,Instr.sureAddr,h0.1,h0.2,h2.run_size,h3]
theorem qAk (hT:TOk P T) {t t2 sz by_ i:Nat} {s x:Operand} {es es2:List (List Dat)} (ho:o.op=.call { callee:=.builtin .append,args:=#[s,x],argTypes:=#[t,t2] })
  (ht:appT T t=some (sz,by_)) (ht2:srcT T t2=true) (hs:ρ s=.sl sz es (.right i)) (hi:h[i]?=some (.right sz es.length)) (hx:asNew sz (ρ x)=some es2)
  (hb:(es.length+es2.length)*(by_+1)≤140737488355328) :
  OpS P E o ρ h (.sl sz (es++es2) (.right i)) (h.set i (.right sz (es++es2).length)):=by
 rw [List.length_append]
 exact append_right hT ho ht ht2 hs hi hx hb
theorem bufStoreE (hT:TOk P T) {t i n off sz:Nat} {ti:TI} {x y:Operand} {cells:List AV} {vy:AV} (ho:o.op=.store t x y) (hx:ρ x=.bp i n off) (hyv:ρ y=vy) (hi:h[i]?=some (.buf sz n cells)) (hf:T.find t=some ti) (hsz:Nat.beq ti.size 1=true)
  (hs:scalarA vy=true) (hlt:off < cells.length) (hh:h.set i (.buf sz n (cells.set off vy))=h'):OpS P E o ρ h .any h':=by
 subst hyv;subst hh
 exact bufStore_ok hT ho hx hi hf hsz hs hlt
theorem arrIdx_ok (hT:TOk P T) {t n:Nat} {x ix:Operand} {k:IntKind} {j:Int} {cs:List AV} (ho:o.op=.index t x ix) (ht:arrT T t=some (n,1,false)) (hx:ρ x=.agg cs) (hix:ρ ix=.d (.int k j)) (h0:0≤j∧j < (n:Int))
  (hv:cs[j.toNat]?=some v):OpP P o ρ v:=by
 intro G e w hi hr
 have hx':RepA G (ρ x) (e x):=hr x (by simp [ho,Op.operands])
 have hix':RepA G (ρ ix) (e ix):=hr ix (by simp [ho,Op.operands])
 rw [hx] at hx';rw [hix] at hix'
 obtain ⟨et,ie,h1,h2,h3,h4⟩:=arrT_ok hT ht
 generalize hu:e x=u at hx'
 cases hx' with
 | agg us h5 h6 h7 =>
 have hlt:j.toNat < us.size:=by rw [h5];exact (List.getElem?_eq_some_iff.1 hv).1
 have hg:us[j.toNat]?=some us[j.toNat]:=by simp [hlt]
 refine ⟨us[j.toNat],?_,h6 _ v _ hv hg⟩
 unfold execOp
 simp only [ho,Sem.run_bind]
 rw [hu,hix'.int_inv]
 simp [Instr.index,asIntOf,run_underlying h1,h0.1,h0.2,h2.run_size,h3,Go.part,h2.run_agg,h4,hg]
end
end Tdoc
namespace Tdoc
open Go
theorem Spec.args {P:Program} {f:FuncId} {args args':List AV} {h:List AObj} {Q:AV→List AObj→Prop} (hl:AllLe args args') (S:Spec P f args' h Q):Spec P f args h Q:=by
 obtain ⟨h1,h2⟩:=AllLe_at hl
 refine ⟨S.1,fun G w vals hs hv ht hw=>S.2 G w vals (hs.trans h1) (fun j y v hy hj=>?_) ht hw⟩
 obtain ⟨x,hx,hle⟩:=h2 j y hy
 exact hle _ _ (hv j x v hx hj)
theorem callS0L {P:Program} {E:Env} {o:Oper} {ρ:Operand→AV} {H:List AObj} {f:Operand} {as:List Operand} {ats:Array TypeId} {g:FuncId} {first cap:List AV} (ho:o.op=.call ⟨.value f,as.toArray,ats⟩) (hf:ρ f=.fn (.func g) first cap)
  {args args':List AV} {r0:AV} (S:Spec P g args' [] (fun r h'=>r=r0∧h'=[])) (hargs:first++(as.map ρ++cap)=args) (hle:AllLe args args') (hla:lowL 0 args=true) (hr0:low 0 r0=true):OpS P E o ρ H r0 H :=
 callS0 ho hf (Spec.args hle S) hargs hla hr0
end Tdoc
namespace Tdoc
open Go
theorem cell_block_lt {w:World} {a:Addr} {v:Value} (h:w.cell? a=some v):a.block < w.heap.size:=by
 by_cases hb:a.block < w.heap.size
 ·exact hb
 ·exfalso
  unfold World.cell? at h
  rw [Array.getElem?_eq_none (by omega)] at h
  simp at h
theorem WRel_grow {E:Env} {G:Gh} {h:List AObj} {w w':World} (hw:WRel E G h w) (hb:∀ b,b < w.heap.size→w'.heap[b]?=w.heap[b]?) (hs:w.heap.size≤w'.heap.size) (ho:w'.os=w.os) (ht:w'.tape=w.tape) (hu:w'.output=w.output):WRel E G h w':=by
 refine ⟨hw.le,fun a v ha=>?_,hw.immNew,fun b hk=>?_,Nat.le_trans hw.size hs,ho.trans hw.os,ht.trans hw.tape,hu.trans hw.output,fun b i hb'=>⟨Nat.lt_of_lt_of_le (hw.own b i hb').1 hs,(hw.own b i hb').2⟩,hw.fresh,fun i o hi=>?_⟩
 ·have h1:=hw.imm a v ha
  rw [World.cell?_of_block (w:=w) (hb _ (cell_block_lt h1))];exact h1
 ·rw [hb b (Nat.lt_of_lt_of_le hk.1 hw.size)];exact hw.keep b hk
 ·exact (hw.obj i o hi).keep (.refl G) (fun b hb'=>⟨hb b (hw.own b i hb').1,fun a _=>rfl⟩) (fun n hn=>hn) (fun hn=>hn)
section
variable {P:Program} {T:Tr} {E:Env} {o:Oper} {ρ:Operand→AV} {h:List AObj}
theorem tempAppend (hT:TOk P T) {t t2 sz by_ i:Nat} {s x:Operand} {es es2:List (List Dat)} (ho:o.op=.call { callee:=.builtin .append,args:=#[s,x],argTypes:=#[t,t2] })
  (ht:appT T t=some (sz,by_)) (ht2:srcT T t2=true) (hs:ρ s=.sl sz es (.right i)) (hi:h[i]?=some (.right sz es.length)) (hx:asNew sz (ρ x)=some es2) (hz:es2≠[])
  (hb:(es.length+es2.length)*(by_+1)≤140737488355328) (G:Gh) (e:Operand→Value) (w:World) (hw:WRel E G h w) (hr:∀ x,x∈o.op.operands.toList→RepA G (ρ x) (e x)) :
  ∃ u w' m,(execOp e o).run P w=.ok (.value u) w'∧WRel E G h w'∧(∀ a v,G.imm a=some v→m a=some v)∧(∀ a v,m a=some v→w'.cell? a=some v)∧RepD m (.sl sz (es++es2)) u:=by
 obtain ⟨u,w1,G1,hrun1,hle1,hw1,hu1⟩:=append_rightR hT ho ht ht2 hs hi hx hb G e w hw hr
 have hD:RepD G1.imm (.sl sz (es++es2)) u:=by cases hu1 with | sl r _=>exact r
 refine ⟨u,w1,G1.imm,hrun1,?_,hle1.imm,hw1.imm,hD⟩
 have hs':RepA G (ρ s) (e s):=hr s (by simp [ho,Op.operands,Call.operands])
 have hx':RepA G (ρ x) (e x):=hr x (by simp [ho,Op.operands,Call.operands])
 obtain ⟨et,ie,h1,h2,rfl,rfl,hzl⟩:=appT_ok hT ht
 obtain ⟨d2,h3,h4⟩:=srcT_ok hT ht2
 obtain ⟨hlen2,news,n1,n2,n3,n4⟩:=asNew_src (P:=P) hw.imm hx' hx
 obtain ⟨a,cap,hsv,hrt,hrd⟩:∃ a cap,e s=.slice a es.length cap∧G.rt i es.length=some (a,cap)∧RepD G.imm (.sl ie.size es) (e s):=by
  rw [hs] at hs'
  generalize e s=u at hs'
  cases hs' with
  | sl r k=>obtain ⟨a,cap,rfl,hk⟩:=k;exact ⟨a,cap,rfl,hk,r⟩
 obtain ⟨a',cap',hrt',hcap,hlater,hspare⟩:=hw.obj i _ hi
 rw [hrt] at hrt';cases hrt'
 obtain ⟨olds,o1,o2,o3,o4⟩:=src_of_rep (P:=P) hw.imm hrd
 have hex:(execOp e o).run P w=((Builtin.append_ #[t,t2] o.type #[e s,e x]).run P w).andThen fun u w'=>.ok (.value u) w':=by
  unfold execOp
  simp [ho,resolve,invoke,builtin]
 have hpos:0 < es2.length:=List.length_pos_iff.2 hz
 by_cases hfit:es.length+es2.length≤cap
 ·obtain ⟨p,rfl,p1,p2,p3⟩:=hspare (by omega)
  have hm1:(es.length+es2.length)*ie.size≤cap*ie.size:=Nat.mul_le_mul_right _ hfit
  rw [Nat.add_mul] at hm1
  have hspot:(p.add (es.length*ie.size)).spot=none:=add_spot p p1 _
  obtain ⟨w',q1,q2,q3,q4,q5,q6,q7,q8,q9⟩:=store_spare (P:=P) hspot news 0 w n3 (fun k hk=>by
   rw [Nat.zero_add,qCx p p1]
   obtain ⟨c1,c2,_⟩:=p3 (es.length*ie.size+k) (by omega) (by omega)
   exact ⟨c1,c2⟩)
  have hrun:=qCy (ty:=o.type) h1 h3 h4 h2 (w':=w') (a:=some p) (n:=es.length) (cap:=cap) n1 hfit (by simpa using q1)
  have hww:w'=w1:=by
   rw [hex,hsv,hrun] at hrun1
   simp at hrun1
   exact hrun1.2
  subst hww
  refine ⟨hw.le,fun a v ha=>hw1.imm a v (hle1.imm a v ha),hw.immNew,hw1.keep,hw1.size,hw1.os,hw1.tape,hw1.output,fun b j hb'=>hw1.own b j (hle1.own b j hb'),hw.fresh,fun j ob hj=>?_⟩
  by_cases hij:i=j
  ·subst hij
   rw [hi] at hj
   cases hj
   refine ⟨some p,cap,hrt,hcap,hlater,fun hlt=>⟨p,rfl,p1,p2,fun k hk1 hk2=>?_⟩⟩
   obtain ⟨⟨v,c1⟩,c2,c3⟩:=p3 k hk1 hk2
   refine ⟨?_,by rw [q4];exact c2,c3⟩
   by_cases hkn:k < es.length*ie.size+news.length
   ·have hget:news[k-es.length*ie.size]?=some (news[k-es.length*ie.size]'(by omega)):=by simp [show k-es.length*ie.size < news.length by omega]
    have:=q2 _ _ hget
    rw [Nat.zero_add,qCx p p1,show es.length*ie.size+(k-es.length*ie.size)=k by omega] at this
    exact ⟨_,this⟩
   ·rw [q3 _ (fun k' hk' hh=>by
     rw [Nat.zero_add,qCx p p1,qCk p p1,qCk p p1] at hh
     injection hh with _ h5 _
     omega)]
    exact ⟨v,c1⟩
  ·refine (hw.obj j ob hj).keep (.refl G) (fun b hb'=>?_) (fun m hm=>hm) (fun hn=>hn)
   have hne:b≠p.block:=fun hh=>by subst hh;rw [p2] at hb';cases hb';exact hij rfl
   exact ⟨q5 b (by rw [qCq];exact hne),fun a ha=>rfl⟩
 ·obtain ⟨newCap,rest,w',c1,c2,c3,c4,c5,c6,c7⟩:=qDd (ty:=o.type) h1 h3 h4 h2 hsv o1 n1 (by omega) hb
  have hww:w'=w1:=by
   rw [hex,c2] at hrun1
   simp at hrun1
   exact hrun1.2
  subst hww
  exact WRel_grow hw (fun b hb'=>by rw [c3];exact qAv _ _ _ hb') (by rw [c3];simp) c5 c6 c7
end
def AWw (P:Program) (E:Env) (N:Nat) (ops:List Oper) (Q:Exit→(Nat→AV)→List AObj→Prop) (rest:List Oper) (τ:Nat→AV) (h:List AObj):Prop :=
 ∀ (k:Nat) (a:Act) (w:World),(∀ j,rest[j]?=ops[k+j]?)→Rel E N τ h a w→wpOps P ops.toArray (fun ex a' w'=>∃ τ' h',Q ex τ' h'∧Rel E N τ' h' a' w') (List.range' k rest.length) a w
theorem AWw_of {P:Program} {E:Env} {N:Nat} {ops:List Oper} {Q:Exit→(Nat→AV)→List AObj→Prop} {rest:List Oper} {τ:Nat→AV} {h:List AObj} (hk:AWk P E N ops (Q .normal) rest τ h):AWw P E N ops Q rest τ h :=
 fun k a w hj hr=>AWk_sound rest k τ h a w hj hk hr
theorem AWw_pre {P:Program} {E:Env} {N:Nat} {ops:List Oper} {Q:Exit→(Nat→AV)→List AObj→Prop} {post:List Oper}:∀ (pre:List Oper) (τ:Nat→AV) (h:List AObj),
  AWk P E N ops (fun τ h=>AWw P E N ops Q post τ h) pre τ h→AWw P E N ops Q (pre++post) τ h
 | [],τ,h,hk=>hk
 | o::pre,τ,h,hk=>by
  obtain ⟨R,hs,hnext⟩:=hk
  intro k a w hj hr
  have ho:ops.toArray[k]?=some o:=by simpa using (hj 0).symm
  simp only [List.cons_append,List.length_cons,List.range'_succ]
  rw [wpOps_cons]
  exact step_sound ho hs hr fun v h' a' w' hR hrel =>
   AWw_pre pre _ _ (hnext v h' hR) (k+1) a' w' (fun j=>by have:=hj (j+1);simpa [Nat.add_assoc,Nat.add_comm 1 j] using this) hrel
theorem AW_regionAt {P:Program} {E:Env} {N:Nat} {id:Nat} {ops:List Oper} {Q:Exit→(Nat→AV)→List AObj→Prop} {τ:Nat→AV} {h:List AObj} (pre post:List Oper) (he:ops=pre++post)
  (hk:AWk P E N ops (fun τ h=>AWw P E N ops Q post τ h) pre τ h):AW P E N (.region id ops.toArray false) Q τ h:=by
 intro a w hr
 refine wp_region ?_
 have:=AWw_pre pre τ h hk 0 a w (fun j=>by rw [← he];simp) hr
 rw [← he] at this
 simpa [List.range_eq_range'] using this
set_option maxHeartbeats 1000000 in
theorem AWw_tempCall {P:Program} {T:Tr} (hT:TOk P T) {E:Env} {N:Nat} {ops:List Oper} {Q:Exit→(Nat→AV)→List AObj→Prop} {d1 d2:Nat} {ty1 ty2:TypeId} {pos1 pos2:String} {after1 after2:Array Edge} {rest:List Oper}
  {l:List (Nat×AV)} {h:List AObj} {t t2 sz by_ i:Nat} {s x f:Operand} {ats:Array TypeId} {g:FuncId} {es es2:List (List Dat)} {r0:AV}
  (ht:appT T t=some (sz,by_)) (ht2:srcT T t2=true) (hs:ev (look l) s=.sl sz es (.right i)) (hi:h[i]?=some (.right sz es.length)) (hx:asNew sz (ev (look l) x)=some es2) (hz:es2≠[])
  (hb:(es.length+es2.length)*(by_+1)≤140737488355328) (hd1:Nat.blt d1 N=true) (hd2:Nat.blt d2 N=true) (hf:f=.func g)
  (S:Spec P g [.d (.sl sz (es++es2))] [] (fun r h'=>r=r0∧h'=[])) (hr0:∀ G G' v,RepA G r0 v→RepA G' r0 v)
  (hk:AWw P E N ops Q rest (look ((d2,r0)::(d1,.any)::l)) h) :
  AWw P E N ops Q (⟨some d1,.call { callee:=.builtin .append,args:=#[s,x],argTypes:=#[t,t2] },ty1,pos1,after1,none⟩::⟨some d2,.call { callee:=.value f,args:=#[.tmp d1],argTypes:=ats },ty2,pos2,after2,none⟩::rest) (look l) h:=by
 subst hf
 intro k a w hj hr
 obtain ⟨r1,r2,G,hw,ht'⟩:=hr
 have hl1:d1 < N:=qBo hd1
 have hl2:d2 < N:=qBo hd2
 have ho1:=(hj 0).symm
 have ho2:=(hj 1).symm
 simp only [List.getElem?_cons_zero,List.getElem?_cons_succ,Nat.add_zero] at ho1 ho2
 simp only [List.length_cons,List.range'_succ]
 rw [wpOps_cons]
 unfold wpOp
 rw [show ops.toArray[k]?=_ from (by simpa using ho1)]
 simp only
 rw [if_pos (by rfl)]
 left
 obtain ⟨u,w1,m,hrun1,hw1,hm1,hm2,hD⟩:=tempAppend (o:=⟨some d1,.call { callee:=.builtin .append,args:=#[s,x],argTypes:=#[t,t2] },ty1,pos1,after1,none⟩) (ρ:=ev (look l)) hT rfl ht ht2 hs hi hx hz hb G a.eval w hw (fun x _=>eval_rep (E.tab.1.mono hw.le.imm) ht' x)
 show Oper.upon P _ a _ _ ((execOp a.eval _).run P w)
 rw [hrun1,Oper.upon_value]
 have hrel1:Rel E N (look ((d1,.any)::l)) h (a.put (some d1) u) w1:=by
  refine ⟨by rw [put_size];exact r1,by rw [qDp];exact r2,G,hw1,?_⟩
  obtain ⟨tmps,ds⟩:=a
  exact rep_put (dst:=some d1) r1 (fun d hd=>by cases hd;exact hl1) ht' (.any u) ds
 obtain ⟨s1,s2,G',hw1',ht1⟩:=hrel1
 clear hw1'
 have ht1':∀ t,RepA G (look ((d1,.any)::l) t) ((a.put (some d1) u).tmps.getD t undef):=by
  obtain ⟨tmps,ds⟩:=a
  exact rep_put (dst:=some d1) r1 (fun d hd=>by cases hd;exact hl1) ht' (.any u) ds
 have hval:(a.put (some d1) u).eval (.tmp d1)=u:=by
  obtain ⟨tmps,ds⟩:=a
  have hlt:d1 < tmps.size:=by have:tmps.size=N:=r1;omega
  simp [Act.put,Act.eval,Array.getD_eq_getD_getElem?,hlt]
 generalize ha1:a.put (some d1) u=a1 at s1 s2 ht1' hval
 rw [wpOps_cons]
 unfold wpOp
 rw [show ops.toArray[k+1]?=_ from (by simpa using ho2)]
 simp only
 rw [if_pos (by rfl)]
 left
 obtain ⟨fn,k1,k2,k3⟩:=S.1
 have k2':¬ fn.name = "runtime.NumGoroutine" := by simpa using k2
 have k3':¬ fn.body=none:=by intro hh;rw [hh] at k3;cases k3
 have hrun2:(execOp a1.eval ⟨some d2,.call { callee:=.value (.func g),args:=#[.tmp d1],argTypes:=ats },ty2,pos2,after2,none⟩).run P w1=.ok (.enter g #[u]) w1:=by
  unfold execOp
  have hfc:a1.eval (.func g)=.func (.func g) #[] #[]:=rfl
  simp [resolve,hfc,Deferred.ofValue,invoke,callFunc,k1,k2',k3',hval]
 show Oper.upon P _ a1 _ _ ((execOp a1.eval _).run P w1)
 rw [hrun2,Oper.upon_enter]
 have htab:TabOk w1 ⟨m,fun _=>none,fun _ _=>none,fun _=>none⟩:=⟨TabI.mono (fun a v ha=>hm1 a v (hw.le.imm a v ha)) E.tab.1,hw1.tabB fun _ _=>rfl⟩
 have hcall:=S.2 ⟨m,fun _=>none,fun _ _=>none,fun _=>none⟩ w1 #[u] rfl (fun j y v hy hv=>by
  match j,hy,hv with
  | 0,hy,hv =>
   simp only [List.getElem?_cons_zero,Option.some.injEq] at hy
   simp at hv
   subst hy;subst hv
   exact .d hD
  | j+1,hy,hv=>simp at hy) htab
  ⟨.refl _,hm2,fun a v ha=>.inl ha,fun b hb=>rfl,Nat.le_refl _,rfl,rfl,rfl,fun b i hb=>(by cases hb),fun i hi=>⟨rfl,fun n=>rfl⟩,fun i o hi=>(by simp at hi)⟩
 refine hcall.mono ?_
 rintro ex w2 ⟨v,r,h',G2,rfl,⟨rfl,rfl⟩,-,-,-,hv,hw2⟩
 have hw3:WRel E G h w2:=WRel_grow hw1 (fun b hb=>hw2.keep b ⟨hb,rfl⟩) hw2.size hw2.os hw2.tape hw2.output
 refine hk (k+2) _ w2 (fun j=>by have:=hj (j+2);simpa [Nat.add_assoc,Nat.add_comm 2 j] using this) ?_
 refine ⟨by rw [put_size];exact s1,by rw [qDp];exact s2,G,hw3,?_⟩
 obtain ⟨tmps,ds⟩:=a1
 exact rep_put (dst:=some d2) s1 (fun d hd=>by cases hd;exact hl2) ht1' (hr0 _ _ _ hv) ds
end Tdoc
namespace Tdoc
open Go
theorem WRel_marked {E:Env} {G:Gh} {h:List AObj} {w:World} {C:Array Value} {el:TypeId} {f:Nat×Nat} (hE:E.w0.heap.size≤w.heap.size) (hown:G.own w.heap.size=none) (hw:WRel E G h (w.alloc (.cells C el))):WRel E G h (w.alloc (.cells C el f)):=by
 have hne:∀ b,b≠w.heap.size→(w.alloc (.cells C el f)).heap[b]?=(w.alloc (.cells C el)).heap[b]?:=fun b hb=>by
  show (w.heap.push _)[b]?=(w.heap.push _)[b]?
  rw [Array.getElem?_push,Array.getElem?_push,if_neg hb,if_neg hb]
 have hcell:∀ a,(w.alloc (.cells C el f)).cell? a=(w.alloc (.cells C el)).cell? a:=fun a=>by
  by_cases hb:a.block=w.heap.size
  ·have h1:(w.alloc (.cells C el f)).heap[a.block]?=some (.cells C el f):=by rw [hb];exact Array.getElem?_push_size
   have h2:(w.alloc (.cells C el)).heap[a.block]?=some (.cells C el):=by rw [hb];exact Array.getElem?_push_size
   simp only [World.cell?,h1,h2]
  ·exact World.cell?_of_block (hne _ hb)
 have hsz:(w.alloc (.cells C el f)).heap.size=(w.alloc (.cells C el)).heap.size:=by show (w.heap.push _).size=(w.heap.push _).size;simp
 refine ⟨hw.le,fun a v ha=>by rw [hcell];exact hw.imm a v ha,hw.immNew,fun b hk=>?_,by rw [hsz];exact hw.size,hw.os,hw.tape,hw.output,fun b i hb=>by rw [hsz];exact hw.own b i hb,hw.fresh,fun i o hi=>?_⟩
 ·rw [hne b (by have:=hk.1;omega)];exact hw.keep b hk
 ·exact (hw.obj i o hi).keep (.refl G) (fun b hb'=>⟨hne b (fun hh=>by rw [hh,hown] at hb';cases hb'),fun a _=>rfl⟩) (fun n hn=>hn) (fun hn=>hn)
set_option maxHeartbeats 1000000 in
theorem AWw_constBytes {P:Program} {T:Tr} (hT:TOk P T) {E:Env} {N:Nat} {ops:List Oper} {Q:Exit→(Nat→AV)→List AObj→Prop} {d1 d2:Nat} {ty1 ty2:TypeId} {pos1 pos2:String} {after1 after2:Array Edge} {rest:List Oper}
  {l:List (Nat×AV)} {h:List AObj} {t len sz:Nat} {parts:Array (Nat×Operand)} {es:List (List Dat)} {tok:Tok}
  (hb:isByteSlice T t=true) (hv:buildSlA T t len (parts.toList.map fun x=>(x.1,ev (look l) x.2))=some (.sl sz es tok)) (hd1:Nat.blt d1 N=true) (hd2:Nat.blt d2 N=true)
  (hk:AWw P E N ops Q rest (look ((d2,.d (.sl sz es))::(d1,.any)::l)) h) :
  AWw P E N ops Q (⟨some d1,.buildSlice t len parts,ty1,pos1,after1,none⟩::⟨some d2,.convert t t (.tmp d1),ty2,pos2,after2,none⟩::rest) (look l) h:=by
 intro k a w hj hr
 obtain ⟨r1,r2,G,hw,ht'⟩:=hr
 have hl1:d1 < N:=qBo hd1
 have hl2:d2 < N:=qBo hd2
 have ho1:=(hj 0).symm
 have ho2:=(hj 1).symm
 simp only [List.getElem?_cons_zero,List.getElem?_cons_succ,Nat.add_zero] at ho1 ho2
 simp only [List.length_cons,List.range'_succ]
 rw [wpOps_cons]
 unfold wpOp
 rw [show ops.toArray[k]?=_ from (by simpa using ho1)]
 simp only
 rw [if_pos (by rfl)]
 left
 obtain ⟨el,C,G1,hel,hown,hrun1,hle1,hw1,hu⟩:=buildSl_run (o:=⟨some d1,.buildSlice t len parts,ty1,pos1,after1,none⟩) (ρ:=ev (look l)) hT rfl hv G a.eval w hw (fun x _=>eval_rep (E.tab.1.mono hw.le.imm) ht' x)
 obtain ⟨el',hel1,hel2⟩:=qCt hT hb
 rw [hel] at hel1
 cases hel1
 show Oper.upon P _ a _ _ ((execOp a.eval _).run P w)
 rw [hrun1,Oper.upon_value]
 have ht1:∀ t,RepA G1 (look ((d1,.any)::l) t) ((a.put (some d1) (.slice (some ⟨w.heap.size,0,none⟩) len len)).tmps.getD t undef):=by
  obtain ⟨tmps,ds⟩:=a
  exact rep_put (dst:=some d1) r1 (fun d hd=>by cases hd;exact hl1) (fun t=>(ht' t).mono hle1) (.any _) ds
 have hval:(a.put (some d1) (.slice (some ⟨w.heap.size,0,none⟩) len len)).eval (.tmp d1)=.slice (some ⟨w.heap.size,0,none⟩) len len:=by
  obtain ⟨tmps,ds⟩:=a
  have hlt:d1 < tmps.size:=by have:tmps.size=N:=r1;omega
  simp [Act.put,Act.eval,Array.getD_eq_getD_getElem?,hlt]
 have s1:(a.put (some d1) (.slice (some ⟨w.heap.size,0,none⟩) len len)).tmps.size=N:=by rw [put_size];exact r1
 have s2:(a.put (some d1) (.slice (some ⟨w.heap.size,0,none⟩) len len)).defers=E.ds:=by rw [qDp];exact r2
 generalize a.put (some d1) (.slice (some ⟨w.heap.size,0,none⟩) len len)=a1 at ht1 hval s1 s2
 rw [wpOps_cons]
 unfold wpOp
 rw [show ops.toArray[k+1]?=_ from (by simpa using ho2)]
 simp only
 rw [if_pos (by rfl)]
 left
 have hrun2:(execOp a1.eval ⟨some d2,.convert t t (.tmp d1),ty2,pos2,after2,none⟩).run P (w.alloc (.cells C el))=.ok (.value (.slice (some ⟨w.heap.size,0,none⟩) len len)) (w.alloc (.cells C el (C.size,C.size+1))):=by
  have:=Go.Lib.run_convert_bytes_const (P:=P) w t el C len len hel hel2
  unfold execOp
  simp [hval,this]
 show Oper.upon P _ a1 _ _ ((execOp a1.eval _).run P (w.alloc (.cells C el)))
 rw [hrun2,Oper.upon_value]
 have hfree:G1.own w.heap.size=none:=by
  rw [hown]
  cases ho:G.own w.heap.size with
  | none=>rfl
  | some j=>have:=(hw.own _ _ ho).1;omega
 have hw2:=WRel_marked (f:=(C.size,C.size+1)) hw.size hfree hw1
 have hu2:RepA G1 (.d (.sl sz es)) (.slice (some ⟨w.heap.size,0,none⟩) len len):=by cases hu with | sl r _=>exact .d r
 refine hk (k+2) _ _ (fun j=>by have:=hj (j+2);simpa [Nat.add_assoc,Nat.add_comm 2 j] using this) ?_
 refine ⟨by rw [put_size];exact s1,by rw [qDp];exact s2,G1,hw2,?_⟩
 obtain ⟨tmps,ds⟩:=a1
 exact rep_put (dst:=some d2) s1 (fun d hd=>by cases hd;exact hl2) ht1 hu2 ds
theorem AWw_one {P:Program} {E:Env} {N:Nat} {ops:List Oper} {Q:Exit→(Nat→AV)→List AObj→Prop} {o:Oper} {rest:List Oper} {τ:Nat→AV} {h:List AObj}
  (hk:AWk P E N ops (fun τ h=>AWw P E N ops Q rest τ h) [o] τ h):AWw P E N ops Q (o::rest) τ h:=AWw_pre [o] τ h hk
end Tdoc
namespace Tdoc
open Go
theorem OpR.mono {P:Program} {E:Env} {o:Oper} {ρ:Operand→AV} {h:List AObj} {R R':AV→List AObj→Prop} (hs:OpR P E o ρ h R) (hr:∀ v k,R v k→R' v k):OpR P E o ρ h R':=by
 intro G a w hw hρ
 refine wp_mono2 ?_ (hs G a w hw hρ)
 rintro a' w' ⟨u,G',v',h',k,r⟩
 exact ⟨u,G',v',h',hr _ _ k,r⟩
theorem callX {P:Program} {E:Env} {o:Oper} {ρ:Operand→AV} {H:List AObj} {f:Operand} {as:List Operand} {ats:Array TypeId} {g:FuncId} {first cap:List AV} (ho:o.op=.call ⟨.value f,as.toArray,ats⟩) (hf:ρ f=.fn (.func g) first cap)
  {args:List AV} {hc:List AObj} {ι:Type} {p:ι→Prop} {rf:ι→AV} {hf':ι→List AObj} (S:Spec P g args hc (fun r h'=>∃ x,p x∧r=rf x∧h'=hf' x)) (fs:List Nat) (hnd:fs.Nodup)
  (hobj:fs.map (fun j=>H[j]?)=hc.map some) (hargs:first++(as.map ρ++cap)=renL (fsf fs) args) (hla:lowL fs.length args=true) (hlow:lowH 0 hc=true) (hlow':∀ x,lowH 0 (hf' x)=true) (hr0:∀ x,ren (fsf fs) (rf x)=rf x)
  {H':ι→List AObj} (hH:∀ x,updH H fs (hf' x)=H' x):OpR P E o ρ H (fun v k=>∃ x,p x∧v=rf x∧k=H' x):=by
 refine OpR.mono (callR ho hf S fs hnd (by rw [hobj];have:=renH_low (fsf fs) hc hlow;rw [show hc.map (fun o=>some (renO (fsf fs) o))=(hc.map (renO (fsf fs))).map some by simp,this]) (lowH_mono (Nat.zero_le _) hc hlow) hargs hla) ?_
 rintro v k ⟨r,h',⟨x,hp,rfl,rfl⟩,hl,rfl,rfl⟩
 exact ⟨x,hp,hr0 x,by rw [renH_low (fsf fs) _ (hlow' x)];exact hH x⟩
theorem callXv {P:Program} {E:Env} {o:Oper} {ρ:Operand→AV} {H:List AObj} {f:Operand} {as:List Operand} {ats:Array TypeId} {g:FuncId} {first cap:List AV} (ho:o.op=.call ⟨.value f,as.toArray,ats⟩) (hf:ρ f=.fn (.func g) first cap)
  {args:List AV} {hc:List AObj} {ι:Type} {p:ι→Prop} {rf:ι→AV} {hf':ι→List AObj} (S:Spec P g args hc (fun r h'=>∃ x,p x∧r=rf x∧h'=hf' x)) (fs:List Nat) (hnd:fs.Nodup)
  (hobj:fs.map (fun j=>H[j]?)=hc.map some) (hargs:first++(as.map ρ++cap)=renL (fsf fs) args) (hla:lowL fs.length args=true) (hlow:lowH 0 hc=true) (hlow':∀ x,lowH 0 (hf' x)=true) {v:ι→AV} (hr0:∀ x,ren (fsf fs) (rf x)=v x)
  {H':ι→List AObj} (hH:∀ x,updH H fs (hf' x)=H' x):OpR P E o ρ H (fun u k=>∃ x,p x∧u=v x∧k=H' x):=by
 refine OpR.mono (callR ho hf S fs hnd (by rw [hobj];have:=renH_low (fsf fs) hc hlow;rw [show hc.map (fun o=>some (renO (fsf fs) o))=(hc.map (renO (fsf fs))).map some by simp,this]) (lowH_mono (Nat.zero_le _) hc hlow) hargs hla) ?_
 rintro u k ⟨r,h',⟨x,hp,rfl,rfl⟩,hl,rfl,rfl⟩
 exact ⟨x,hp,hr0 x,by rw [renH_low (fsf fs) _ (hlow' x)];exact hH x⟩
theorem callS1v {P:Program} {E:Env} {o:Oper} {ρ:Operand→AV} {H:List AObj} {f:Operand} {as:List Operand} {ats:Array TypeId} {g:FuncId} {first cap:List AV} (ho:o.op=.call ⟨.value f,as.toArray,ats⟩) (hf:ρ f=.fn (.func g) first cap)
  {args:List AV} {hc h0:List AObj} {r0:AV} (S:Spec P g args hc (fun r h'=>r=r0∧h'=h0)) (fs:List Nat) (hnd:fs.Nodup)
  (hobj:fs.map (fun j=>H[j]?)=hc.map some) (hargs:first++(as.map ρ++cap)=renL (fsf fs) args) (hla:lowL fs.length args=true) (hlow:lowH 0 hc=true) (hlow':lowH 0 h0=true) {v:AV} (hr0:ren (fsf fs) r0=v)
  {H':List AObj} (hH:updH H fs h0=H'):OpS P E o ρ H v H' :=
 callS ho hf S fs hnd (by rw [hobj];have:=renH_low (fsf fs) hc hlow;rw [show hc.map (fun o=>some (renO (fsf fs) o))=(hc.map (renO (fsf fs))).map some by simp,this]) (lowH_mono (Nat.zero_le _) hc hlow) hargs hla hr0
  (by rw [renH_low (fsf fs) h0 hlow'];exact hH)
theorem callX0 {P:Program} {E:Env} {o:Oper} {ρ:Operand→AV} {H:List AObj} {f:Operand} {as:List Operand} {ats:Array TypeId} {g:FuncId} {first cap:List AV} (ho:o.op=.call ⟨.value f,as.toArray,ats⟩) (hf:ρ f=.fn (.func g) first cap)
  {args args':List AV} {ι:Type} {p:ι→Prop} {rf:ι→AV} (S:Spec P g args' [] (fun r h'=>∃ x,p x∧r=rf x∧h'=[])) (hargs:first++(as.map ρ++cap)=args) (hle:AllLe args args') (hla:lowL 0 args=true) (hr0:∀ x,low 0 (rf x)=true) :
  OpR P E o ρ H (fun v k=>∃ x,p x∧v=rf x∧k=H) :=
 callX ho hf (Spec.args hle S) [] List.nodup_nil rfl (by rw [hargs,renL_low _ _ hla]) hla rfl (fun _=>rfl) (fun x=>ren_low _ _ (hr0 x)) (fun x=>by cases H <;> rfl)
theorem qAz {P:Program} {E:Env} {N:Nat} {ops:List Oper} {Q:(Nat→AV)→List AObj→Prop} {d:Nat} {op:Op} {ty:TypeId} {pos:String} {after:Array Edge} {rest:List Oper}
  {l:List (Nat×AV)} {h:List AObj} {ι:Type} {p:ι→Prop} {v:ι→AV} {h':ι→List AObj} (hs:OpR P E ⟨some d,op,ty,pos,after,none⟩ (ev (look l)) h (fun u k=>∃ x,p x∧u=v x∧k=h' x)) (hd:Nat.blt d N=true)
  (hk:∀ x,p x→AWk P E N ops Q rest (look ((d,v x)::l)) (h' x)):AWk P E N ops Q (⟨some d,op,ty,pos,after,none⟩::rest) (look l) h :=
 AWk_opR hs hd fun u k ⟨x,hp,hu,hk'⟩=>by subst hu;subst hk';exact hk x hp
theorem ret_q {T:Tr} {rs:List ResultVar} {k:Nat} {Q:AV→List AObj→Prop} {τ:Nat→AV} {h h':List AObj} {v r:AV} (h7:Q r h') (h1:resA T τ h rs=some v) (h2:AV.le v r) (h3:h'=h.take k) (h4:h'.length=k) (h5:low k r=true) (h6:lowH k h'=true) :
  retP T rs k Q .ret τ h:=⟨v,r,h',h1,h2,h3,h4,h5,h6,h7⟩
theorem AWk_gopX {P:Program} {E:Env} {N:Nat} {ops:List Oper} {Q:(Nat→AV)→List AObj→Prop} {d:Nat} {op:Op} {ty:TypeId} {pos:String} {after:Array Edge} {j:Nat} {want:Bool} {rest:List Oper}
  {l:List (Nat×AV)} {h:List AObj} {gd:Nat} {ex:Bool} {ι:Type} {p:ι→Prop} {v:ι→AV} {h':ι→List AObj} (v0:AV) (hg:gslot ops l j want=some (gd,ex)) (hd:Nat.blt d N=true) (hgd:Nat.blt gd N=true)
  (hC:ex=true→gAll (look l) (gOps op)∧OpR P E ⟨some d,op,ty,pos,after,some (j,want)⟩ (evG (look l) op) h (fun u k=>∃ x,p x∧u=v x∧k=h' x))
  (hk:ex=true→∀ x,p x→AWk P E N ops Q rest (look ((d,.gd true (v x))::l)) (h' x)) (hk0:ex=false→AWk P E N ops Q rest (look ((d,.gd false v0)::l)) h) :
  AWk P E N ops Q (⟨some d,op,ty,pos,after,some (j,want)⟩::rest) (look l) h:=by
 obtain ⟨g1,g2⟩:=gslot_ok hg
 refine ⟨fun a b=>(ex=true∧∃ x,p x∧a=.gd true (v x)∧b=h' x)∨(ex=false∧a=.gd false v0∧b=h),⟨hd,gd,ex,g1,hgd,g2,fun hb=>?_,fun hb=>⟨.gd false v0,.inr ⟨hb,rfl,rfl⟩,fun G=>.gd (fun hh=>by cases hh) (fun _=>rfl)⟩⟩,?_⟩
 ·have hc:=hC hb
  refine OpR_ung hc.1 (OpR_mono hc.2 ?_)
  rintro v' k ⟨x,hp,rfl,rfl⟩
  exact ⟨.gd true (v x),.inl ⟨hb,x,hp,rfl,rfl⟩,fun G y hy=>.gd (fun _=>hy) (fun hh=>by cases hh)⟩
 ·rintro a b (⟨hb,x,hp,rfl,rfl⟩ | ⟨hb,rfl,rfl⟩)
  ·exact hk hb x hp
  ·exact hk0 hb
theorem AllLe.of_eq {l r:List AV} (h:l=r):AllLe l r:=h▸AllLe.refl l
theorem ObLe.row {l r:List AV} (h:l=r):ObLe (.row l) (.row r):=AllLe.of_eq h
theorem AV.le.int {k:IntKind} {a b:Int} (h:a=b):AV.le (.d (.int k a)) (.d (.int k b)):=.eq (congrArg (fun z=>AV.d (.int k z)) h)
theorem AV.le.bool {a b:Bool} (h:a=b):AV.le (.d (.bool a)) (.d (.bool b)):=.eq (congrArg (fun z=>AV.d (.bool z)) h)
theorem AV.le.sl {sz:Nat} {a b:List (List Dat)} (h:a=b):AV.le (.d (.sl sz a)) (.d (.sl sz b)):=.eq (congrArg (fun z=>AV.d (.sl sz z)) h)
theorem AV.le.slt {sz:Nat} {a b:List (List Dat)} {t:Tok} (h:a=b):AV.le (.sl sz a t) (.sl sz b t):=.eq (congrArg (fun z=>AV.sl sz z t) h)
theorem AV.le.dat' {sz:Nat} {a b:List (List Dat)} {t:Tok} (h:a=b):AV.le (.sl sz a t) (.d (.sl sz b)):=.trans .dat (.sl h)
theorem AV.le.str {a b:List UInt8} (h:a=b):AV.le (.d (.str a)) (.d (.str b)):=.eq (congrArg (fun z=>AV.d (.str z)) h)
end Tdoc
namespace Tdoc
open Go Go.ChangeShapes Go.WideShapes Go.ChangeAt Go.RowKit
def GW (W:World):Gh:=⟨fun a=>W.cell? a,fun _=>none,fun _ _=>none,fun _=>none⟩
theorem WRel_start (W:World) (ht:TabOk W (GW W)):WRel ⟨W,GW W,ht,[]⟩ (GW W) [] W where
 le:=.refl _
 imm:=fun _ _ h=>h
 immNew:=fun _ _ h=>.inl h
 keep:=fun _ _=>rfl
 size:=Nat.le_refl _
 os:=rfl
 tape:=rfl
 output:=rfl
 own:=fun b i h=>by cases h
 fresh:=fun i _=>⟨rfl,fun _=>rfl⟩
 obj:=fun i o h=>by simp at h
theorem law_calls {P:Program} {f:FuncId} {avs:List AV} {W:World} {vals:Array Value} (ht:TabOk W (GW W)) (hs:Spec P f avs [] (fun r h'=>r=.d (.bool true)∧h'=[])) (hlen:vals.size=avs.length)
  (hrep:∀ (j:Nat) (x:AV) (v:Value),avs[j]?=some x→vals[j]?=some v→RepA (GW W) x v) :
  Calls P f vals W (fun e W'=>e=.returned (.bool true)∧Below W.heap.size W W') :=
 (hs.2 (GW W) W vals hlen hrep ht (WRel_start W ht)).mono fun e W' ⟨v,r,h',G',he,⟨hr,hh⟩,_,_,_,hrp,hw⟩=>by
  subst hr
  rw [hrp.bool_inv] at he
  exact ⟨he,hw.os,hw.tape,hw.output,hw.size,fun k hk=>hw.keep k ⟨hk,rfl⟩⟩
section
variable {H:Type} {enc:TypeId×Value→H} {P:Program}
theorem trodAll_below (hl:laidOutB P=true) {W W':World} (hb:Below W.heap.size W W') {sp:Nat→Bool} :
  ∀ {ts:List TypeId} {vs:List Value} {ds:List (DataW H)} {ps:List MemPlace},ts.all (fun t=>P.readableRec t&&decide (t < P.types.size))=true →
   DataW.TrodAll enc P W 0 (fun _=>true) true ts vs ds ps→(∀ p∈ps,p.block < W.heap.size)→(∀ p∈ps,sp p.block=true)→DataW.TrodAll enc P W' 0 sp true ts vs ds ps
 | [],_,_,_,_,h,_,_=>by
  obtain ⟨rfl,rfl,rfl⟩:=trodAll_nil h
  exact trodAll_mk0
 | t::ts,_,_,_,hr,h,hlt,hsp=>by
  obtain ⟨v,vs1,d,ds1,a,b,rfl,rfl,rfl,h1,h2⟩:=trodAll_cons h
  simp only [List.all_cons,Bool.and_eq_true,decide_eq_true_eq] at hr
  exact trodAll_cons_mk (WideElems.Trod_stays hl hr.1.1 hr.1.2 h1 (fun x hx=>hb.same (hlt x (by simp [hx]))) (fun x hx=>hsp x (by simp [hx])))
   (trodAll_below hl hb (by simpa using hr.2) h2 (fun x hx=>hlt x (by simp [hx])) (fun x hx=>hsp x (by simp [hx])))
theorem law_post {f:Func} {s:ChangeSpec} {again:Bool} {W W':World} {args:Array Value} {ds gs:List (DataW H)} {before:List MemPlace} {tb:TypeId} (hl:laidOutB P=true)
  (hr:f.params.toList.all (fun t=>P.readableRec t&&decide (t < P.types.size))=true) (hres:f.resultTypes = #[tb]) (htb:P.underlying tb=some .bool) (hvars:s.vars=[])
  (hW:DataW.Whole enc P f.params.toList s.vars false W args.toList ds gs before) (hfn:s.fn H (ds++gs)={ results:=[.lit (.bool true)],args:=ds }) (hb:Below W.heap.size W W') :
  s.post enc P f false true false again W args (.bool true) W':=by
 have hW0:=hW
 have hlt:=hW.lt
 obtain ⟨p,q,hA,hV,rfl,hfz,hnd⟩:=hW
 rw [hvars] at hV
 obtain ⟨rfl,rfl⟩:=trodVars_none hV
 have hargs:∀ sp:Nat→Bool,(∀ x∈p++[],sp x.block=true)→DataW.TrodAll enc P W' 0 sp true f.params.toList args.toList (s.fn H (ds++[])).args p:=by
  intro sp hsp
  rw [hfn]
  exact trodAll_below hl hb hr hA (fun x hx=>hlt x (by simp [hx])) (fun x hx=>hsp x (by simp [hx]))
 have hv:∀ sp:Nat→Bool,DataW.TrodVars enc P W' sp s.vars (s.fn H (ds++[])).vars []:=by
  intro sp;rw [hfn,hvars];rfl
 have hrs:∀ (b:Nat) (sp:Nat→Bool) (hd:Bool),DataW.TrodAll enc P W' b sp hd f.resultTypes.toList ((Value.bool true).resultList f.resultTypes.size) (s.fn H (ds++[])).results []:=by
  intro b sp hd
  rw [hfn,hres]
  exact trodAll_cons_mk (shut_bool htb _) trodAll_mk0
 refine ⟨ds,[],p++[],[],p,[],hW0,hrs _ _ _,hargs _ (fun x hx=>by simpa using hlt x hx),hv _,World.keptBut_mono (fun p hp=>⟨hp,?_⟩) (hb.frame (· ∈ p++[])),fun _=>?_⟩
 ·exact Or.inr (Or.inl (by simpa using hp))
 ·refine ⟨ok_one hres rfl (okWide_bool_mk htb _),_,_,([]++p)++[],⟨[]++p,[],trodAll_append (hargs _ (fun _ _=>rfl)) (hrs _ _ _),hv _,rfl,?_,fun h=>by cases h⟩,?_⟩
  ·intro b off hp
   rw [hb.frozen (p:=⟨b,off,none⟩) (hlt (.cell b off) (by simpa using hp))]
   exact hfz b off (by simpa using hp)
  ·intro x hx _
   simpa using hx
theorem open_num {r:Reach} {b0:Nat} {W:World} {t:TypeId} {k:IntKind} {v:Value} {d:DataW H} {ps:List MemPlace} (ht:P.underlying t=some (.int k)) (hval:Value.okWide P W r b0 t v)
  (hd:DataW.Trod enc P W 0 (fun _=>true) true t v d ps):∃ n:Int,(Lit.int k n).wf=true∧RepA (GW W) (.d (.int k n)) v:=by
 obtain ⟨a0,rfl,rfl,rfl,w0⟩:=open_int ht hval hd
 exact ⟨a0,w0,.d (.int k a0)⟩
def numsD (k:IntKind) (zs:List Int):List (List Dat):=zs.map fun n=>[.int k n]
theorem RepD_nums {W:World} {k:IntKind} {a:Addr} {len cap:Nat} {zs:List Int} (hs:a.spot=none) (hlc:len≤cap) (hl:len≤zs.length) (hcell:∀ i,i < zs.length→W.cell? (a.add i)=some (.int k (zs.getD i 0))) :
  RepD (GW W).imm (.sl 1 (numsD k (zs.take len))) (.slice (some a) len cap):=by
 have hz:(numsD k (zs.take len)).length=len:=by simp [numsD];omega
 have h:=RepD.sl (m:=(GW W).imm) 1 (numsD k (zs.take len)) a cap (fun j=>.int k (zs.getD j 0)) hs (by omega) (fun e he=>?_) (fun i e j d he hd=>?_) (fun i e j d he hd=>?_)
 ·rw [hz] at h;exact h
 ·simp only [numsD,List.mem_map] at he
  obtain ⟨n,_,rfl⟩:=he;rfl
 ·have hi:i < len:=by rw [← hz];exact (List.getElem?_eq_some_iff.1 he).1
  simp only [numsD,List.getElem?_map,Option.map_eq_some_iff] at he
  obtain ⟨n,hn,rfl⟩:=he
  cases j with
  | zero=>simpa [GW] using hcell i (by omega)
  | succ j=>simp at hd
 ·have hi:i < len:=by rw [← hz];exact (List.getElem?_eq_some_iff.1 he).1
  simp only [numsD,List.getElem?_map,Option.map_eq_some_iff] at he
  obtain ⟨n,hn,rfl⟩:=he
  cases j with
  | zero =>
   simp only [List.getElem?_cons_zero,Option.some.injEq] at hd
   subst hd
   rw [List.getElem?_take] at hn
   simp only [hi,if_true] at hn
   have:zs.getD (i*1+0) 0=n:=by simp [List.getD,hn]
   simp only [this]
   exact .int k n
  | succ j=>simp at hd
theorem open_nums {r:Reach} {b0:Nat} {W:World} {t e:TypeId} {k:IntKind} {v:Value} {d:DataW H} {ps:List MemPlace} (ht:P.underlying t=some (.slice e)) (he:P.underlying e=some (.int k))
  (hc:P.cellsOf e=1) (hval:Value.okWide P W r b0 t v)
  (hd:DataW.Trod enc P W 0 (fun _=>true) true t v d ps):∃ zs:List Int,(∀ n,n∈zs→(Lit.int k n).wf=true)∧zs.length≤maxLen∧RepA (GW W) (.d (.sl 1 (numsD k zs))) v:=by
 obtain ⟨a0,len0,cap0,rfl⟩:=okWide_slice ht hval
 obtain ⟨fuel,hf⟩:=hd
 rcases open_ints ht he hc hf with ⟨h1,h2⟩ | ⟨a,len,cap,zs,h1,h2,h3,h4,h5,h6,h7,h8⟩
 ·simp [Value.cells] at h1
  obtain ⟨rfl,rfl,rfl⟩:=h1
  exact ⟨[],by simp,by simp,.d (.nil 1)⟩
 ·simp [Value.cells] at h1
  obtain ⟨rfl,rfl,rfl⟩:=h1
  simp only [if_true] at h5
  have hsp:a.spot=none:=by
   simp only [Value.okWide,ht,Cell.okWide,Cell.ok] at hval
   exact hval.2.2.2.1
  exact ⟨zs.take len0,fun n hn=>h8 n (List.mem_of_mem_take hn),by simp;omega,.d (RepD_nums hsp h3 (by omega) h7)⟩
end
end Tdoc
namespace Tdoc
open Go
theorem wrapu8 {n:Int} (h:0≤n∧n≤255):IntKind.u8.wrap n=n:=by
 simp only [IntKind.wrap,IntKind.signed,IntKind.bits]
 simp
 omega
theorem wrapu8_mod (n:Int):IntKind.u8.wrap n=n % 256:=by
 simp only [IntKind.wrap,IntKind.signed,IntKind.bits]
 simp
theorem ofInt_nat (n:Nat):BitVec.ofInt 64 (n:Int)=BitVec.ofNat 64 n:=by
 apply BitVec.eq_of_toNat_eq
 simp [BitVec.toNat_ofInt]
theorem and_nat {a b:Nat} (ha:a < 9223372036854775808) (hb:b < 9223372036854775808) :
  IntKind.i64.wrap ((BitVec.ofInt IntKind.i64.bits (a:Int) &&& BitVec.ofInt IntKind.i64.bits (b:Int)).toNat:Int)=((a &&& b:Nat):Int):=by
 have h:(BitVec.ofInt IntKind.i64.bits (a:Int) &&& BitVec.ofInt IntKind.i64.bits (b:Int)).toNat=a &&& b:=by
  show (BitVec.ofInt 64 (a:Int) &&& BitVec.ofInt 64 (b:Int)).toNat=a &&& b
  rw [ofInt_nat,ofInt_nat,BitVec.toNat_and,BitVec.toNat_ofNat,BitVec.toNat_ofNat,Nat.mod_eq_of_lt (by omega),Nat.mod_eq_of_lt (by omega)]
 rw [h]
 have:=Nat.and_le_left (n:=a) (m:=b)
 exact qAe (by omega)
theorem or_nat {a b:Nat} (ha:a < 9223372036854775808) (hb:b < 9223372036854775808) :
  IntKind.i64.wrap ((BitVec.ofInt IntKind.i64.bits (a:Int) ||| BitVec.ofInt IntKind.i64.bits (b:Int)).toNat:Int)=((a ||| b:Nat):Int):=by
 have h:(BitVec.ofInt IntKind.i64.bits (a:Int) ||| BitVec.ofInt IntKind.i64.bits (b:Int)).toNat=a ||| b:=by
  show (BitVec.ofInt 64 (a:Int) ||| BitVec.ofInt 64 (b:Int)).toNat=a ||| b
  rw [ofInt_nat,ofInt_nat,BitVec.toNat_or,BitVec.toNat_ofNat,BitVec.toNat_ofNat,Nat.mod_eq_of_lt (by omega),Nat.mod_eq_of_lt (by omega)]
 rw [h]
 have:a ||| b < 2 ^ 63:=Nat.or_lt_two_pow (by omega) (by omega)
 exact qAe (by omega)
theorem or_nat8 {a b:Nat} (ha:a < 256) (hb:b < 256) :
  IntKind.u8.wrap ((BitVec.ofInt IntKind.u8.bits (a:Int) ||| BitVec.ofInt IntKind.u8.bits (b:Int)).toNat:Int)=((a ||| b:Nat):Int):=by
 have h8:∀ n:Nat,BitVec.ofInt 8 (n:Int)=BitVec.ofNat 8 n:=fun n=>by
  apply BitVec.eq_of_toNat_eq
  simp [BitVec.toNat_ofInt]
 have h:(BitVec.ofInt IntKind.u8.bits (a:Int) ||| BitVec.ofInt IntKind.u8.bits (b:Int)).toNat=a ||| b:=by
  show (BitVec.ofInt 8 (a:Int) ||| BitVec.ofInt 8 (b:Int)).toNat=a ||| b
  rw [h8,h8,BitVec.toNat_or,BitVec.toNat_ofNat,BitVec.toNat_ofNat,Nat.mod_eq_of_lt (by omega),Nat.mod_eq_of_lt (by omega)]
 rw [h]
 have:a ||| b < 2 ^ 8:=Nat.or_lt_two_pow (by omega) (by omega)
 exact wrapu8 (by omega)
theorem mask_nat (a k:Nat):a &&& (2 ^ k-1)=a % 2 ^ k:=Nat.and_two_pow_sub_one_eq_mod a k
theorem bit_nat (a k:Nat):a &&& 2 ^ k=2 ^ k*(a / 2 ^ k % 2):=by
 apply Nat.eq_of_testBit_eq
 intro i
 rw [Nat.testBit_and,Nat.testBit_two_pow,Nat.mul_comm,Nat.testBit_mul_two_pow]
 by_cases h:k=i
 ·subst h
  simp only [decide_true,Bool.and_true,Nat.le_refl,Nat.sub_self,Bool.true_and]
  rw [Nat.testBit_eq_decide_div_mod_eq,Nat.testBit_eq_decide_div_mod_eq]
  congr 1
  simp
 ·simp only [h,decide_false,Bool.and_false]
  by_cases hk:k≤i
  ·have h2:i-k≠0:=by omega
   simp only [hk,decide_true,Bool.true_and]
   rw [Nat.testBit_eq_decide_div_mod_eq]
   have h3:a / 2 ^ k % 2 / 2 ^ (i-k)=0:=by
    apply Nat.div_eq_of_lt
    have h4:a / 2 ^ k % 2 < 2:=Nat.mod_lt _ (by omega)
    have h5:2 ^ 1≤2 ^ (i-k):=Nat.pow_le_pow_right (by omega) (by omega)
    omega
   rw [h3];simp
  ·simp [hk]
theorem shl_or (a b k:Nat) (h:b < 2 ^ k):a*2 ^ k ||| b=a*2 ^ k+b:=by
 rw [Nat.mul_comm,← Nat.two_pow_add_eq_or_of_lt h]
theorem shr_nat (a k:Nat):Int.fdiv (a:Int) ((2:Int) ^ k)=((a / 2 ^ k:Nat):Int):=by
 rw [Int.fdiv_eq_ediv_of_nonneg _ (by exact Int.le_of_lt (Int.pow_pos (by omega)))]
 simp
end Tdoc
namespace Tdoc
open Go
section
variable {P:Program} {E:Env} {T:Tr} {o:Oper} {ρ:Operand→AV} {h h':List AObj} {v:AV}
theorem newsOf {G:Gh} {w:World} {b off k:Nat} {cells:List AV} (hrow:RowAt G w b cells) (hle:off+k≤cells.length) :
  ∀ (j:Nat) (c:AV) (u:Value),((cells.drop off).take k)[j]?=some c→((List.range k).map fun j=>(w.cell? ⟨b,off+j,none⟩).getD undef)[j]?=some u→RepA G c u∧oneC u=true:=by
 intro j c u hc hu
 simp only [List.getElem?_take,List.getElem?_drop] at hc
 split at hc
 ·rename_i hj
  obtain ⟨y,y1,y2,y3,_⟩:=hrow _ _ hc
  simp [hj,y1] at hu
  subst hu
  exact ⟨y3,y2⟩
 ·cases hc
theorem qAh (hT:TOk P T) {t n sz i off:Nat} {g:Bool} {x ix:Operand} {k:IntKind} {j:Int} (ho:o.op=.indexAddr t x ix) (ht:arrT T t=some (n,sz,g)) (hx:ρ x=.ptr i off) (hix:ρ ix=.d (.int k j)) (h0:0≤j∧j < (n:Int)) :
  OpP P o ρ (.ptr i (off+j.toNat*sz)):=by
 intro G e w hi hr
 have hx':RepA G (ρ x) (e x):=hr x (by simp [ho,Op.operands])
 have hix':RepA G (ρ ix) (e ix):=hr ix (by simp [ho,Op.operands])
 rw [hx] at hx';rw [hix] at hix'
 obtain ⟨et,ie,h1,h2,h3,h4⟩:=arrT_ok hT ht
 obtain ⟨b,hv,hl⟩:=hx'.ptr_inv
 refine ⟨.pointer (some ⟨b,off+j.toNat*sz,none⟩),?_,.ptr _ hl⟩
 unfold execOp
 simp only [ho,Sem.run_bind]
 rw [hv,hix'.int_inv]
 simp [Instr.indexAt,asIntOf,run_underlying h1,Instr.sureAddr,h0.1,h0.2,h2.run_size,h3,qDb]
end
end Tdoc
namespace Tdoc
open Go
section
variable {P:Program} {E:Env} {T:Tr} {o:Oper} {ρ:Operand→AV} {h h':List AObj} {v:AV}
theorem bytesWorld_eq (w:World) (e:TypeId) (s:ByteArray):Lib.bytesWorld w e s=w.drew.alloc (.cells (Lib.bytesCells w e s) e ((Lib.bytesCells w e s).size,(Lib.bytesCells w e s).size+1)):=by
 unfold Lib.bytesWorld World.freeze World.alloc
 have hd:w.drew.heap=w.heap:=rfl
 simp only [Nat.one_ne_zero,if_false]
 congr 1
 rw [hd]
 apply Array.ext_getElem?
 intro j
 rw [Array.getElem?_modify]
 by_cases hj:w.heap.size=j
 ·subst hj
  simp [Array.getElem?_push_size]
 ·rw [if_neg hj,Array.getElem?_push,Array.getElem?_push,if_neg (fun h=>hj h.symm),if_neg (fun h=>hj h.symm)]
theorem bytesCells_at (w:World) (e:TypeId) (s:List UInt8) {j:Nat} {c:UInt8} (h:s[j]?=some c):(Lib.bytesCells w e ⟨s.toArray⟩)[j]?=some (.int .u8 (c.toNat:Int)):=by
 have hj:=(List.getElem?_eq_some_iff.1 h).1
 unfold Lib.bytesCells
 rw [Array.getElem?_append_left (by simpa using hj)]
 simp [h]
theorem bytesCells_size (w:World) (e:TypeId) (s:List UInt8):s.length≤(Lib.bytesCells w e ⟨s.toArray⟩).size:=by
 simp [Lib.bytesCells]
theorem strBytes_ok (hT:TOk P T) {t t2:Nat} {x:Operand} {s:List UInt8} (ho:o.op=.convert t t2 x) (hb:(isStrT T t&&isByteSlice T t2)=true) (hx:ρ x=.d (.str s)) :
  OpS P E o ρ h (.d (.sl 1 (s.map fun b=>[.int .u8 (b.toNat:Int)]))) h :=
 qBi fun G e w hw hr=>by
  have hx':RepA G (ρ x) (e x):=hr x (by simp [ho,Op.operands])
  rw [hx] at hx'
  have hv:=hx'.str_inv
  simp only [Bool.and_eq_true] at hb
  obtain ⟨et,h1,h2⟩:=qCt hT hb.2
  have h3:=qCs hT hb.1
  have hrun:=Lib.run_convert_string_bytes (P:=P) w t t2 et ⟨s.toArray⟩ h3 h1 h2
  rw [bytesWorld_eq] at hrun
  have hfree:G.own w.heap.size=none:=by
   cases ho:G.own w.heap.size with
   | none=>rfl
   | some j=>have:=(hw.own _ _ ho).1;omega
  have hle:=immExt_le hw s.length (Lib.bytesCells w et ⟨s.toArray⟩)
  have hnew:=hw.newImm s.length (Lib.bytesCells w et ⟨s.toArray⟩) et (w.drew.alloc (.cells (Lib.bytesCells w et ⟨s.toArray⟩) et)) rfl rfl rfl rfl
  have hmk:=WRel_marked (w:=w.drew) (G:=immExt G w.heap.size s.length (Lib.bytesCells w et ⟨s.toArray⟩)) (f:=((Lib.bytesCells w et ⟨s.toArray⟩).size,(Lib.bytesCells w et ⟨s.toArray⟩).size+1)) hw.size hfree hnew
  refine ⟨.slice (some ⟨w.heap.size,0,none⟩) s.length (grownCap w s.length 0 et),_,_,?_,hle,hmk,.d ?_⟩
  ·unfold execOp
   simp only [ho,Sem.run_bind]
   rw [hv]
   have hsz:(⟨s.toArray⟩:ByteArray).size=s.length:=by simp [ByteArray.size]
   rw [hsz] at hrun
   rw [hrun]
   rfl
  ·have hsz:s.length=(s.map fun b=>[Dat.int .u8 (b.toNat:Int)]).length:=by simp
   conv=>rhs;rw [hsz]
   refine newImm_rep (n:=s.length) (fun el hel=>?_) (by simp) _ (by simpa using grownCap_ge w s.length 0 et) (fun i el j d he hd=>?_)
   ·obtain ⟨b,_,rfl⟩:=List.mem_map.1 hel;rfl
   ·rw [List.getElem?_map,Option.map_eq_some_iff] at he
    obtain ⟨b,hb',rfl⟩:=he
    match j,hd with
    | 0,hd=>cases hd;exact ⟨_,by simpa using bytesCells_at w et s hb',.int _ _⟩
    | j+1,hd=>simp at hd
theorem WRel.newRowAtF {G:Gh} {w:World} {i0:Nat} (hw:WRel E G h w) (hroom:h[i0]?=some .room) (cs:Array Value) (t:TypeId) (cells:List AV) (hs:cells.length≤cs.size)
  (hc:∀ (j:Nat) (c:AV) (u:Value),cells[j]?=some c→cs[j]?=some u→RepA G c u∧oneC u=true) (w':World) (hh:w'.heap=w.heap.push (.cells cs t (cs.size,cs.size+1))) (ho:w'.os=w.os) (ht:w'.tape=w.tape) (hout:w'.output=w.output) :
  G.le (rowNew G i0 w.heap.size)∧WRel E (rowNew G i0 w.heap.size) (h.set i0 (.row cells)) w':=by
 have hf:=hw.obj i0 _ hroom
 have hi0:i0 < h.length:=(List.getElem?_eq_some_iff.1 hroom).1
 have hown:G.own w.heap.size=none:=by
  cases ho:G.own w.heap.size with
  | none=>rfl
  | some i=>have:=(hw.own _ _ ho).1;omega
 have hle:G.le (rowNew G i0 w.heap.size):=by
  refine ⟨fun _ _ x=>x,fun i b x=>?_,fun _ _ _ x=>x,fun b i x=>?_⟩
  ·show (if i=i0 then some w.heap.size else G.loc i)=some b
   split
   ·rename_i e;subst e;rw [hf.1] at x;cases x
   ·exact x
  ·show (if b=w.heap.size then some i0 else G.own b)=some i
   split
   ·rename_i e;subst e;rw [hown] at x;cases x
   ·exact x
 have hK:¬ E.K w.heap.size:=fun hk=>by have:=hw.size;have:=hk.1;omega
 refine ⟨hle,hw.le.trans hle,fun a v ha=>?_,hw.immNew,fun b hb=>?_,by rw [hh];simp;have:=hw.size;omega,ho.trans hw.os,ht.trans hw.tape,hout.trans hw.output,fun b i hb=>?_,fun i hi=>?_,fun i ob hi=>?_⟩
 ·have hc:=hw.imm a v ha
  rw [World.cell?_of_block (w:=w) (by rw [hh];exact qAv _ _ _ (World.block_lt_of_cell? _ _ hc))]
  exact hc
 ·rw [hh,qAv _ _ _ (Nat.lt_of_lt_of_le hb.1 hw.size)];exact hw.keep b hb
 ·have hb':(if b=w.heap.size then some i0 else G.own b)=some i:=hb
  split at hb'
  ·rename_i e;subst e;exact ⟨by rw [hh];simp,hK⟩
  ·have:=hw.own b i hb';exact ⟨by rw [hh];simp;omega,this.2⟩
 ·simp only [List.length_set] at hi
  have:=hw.fresh i (by omega)
  refine ⟨?_,this.2⟩
  show (if i=i0 then some w.heap.size else G.loc i)=none
  rw [if_neg (by omega)];exact this.1
 ·rw [List.getElem?_set] at hi
  by_cases hie:i0=i
  ·subst hie
   simp only [if_true,hi0] at hi
   cases hi
   refine ⟨w.heap.size,?_,?_,fun j c hj=>?_,fun a ha=>?_,fun n=>hf.2 n⟩
   ·show (if i0=i0 then _ else _)=_;simp
   ·show (if w.heap.size=w.heap.size then _ else _)=_;simp
   ·have hjl:j < cs.size:=Nat.lt_of_lt_of_le (List.getElem?_eq_some_iff.1 hj).1 hs
    obtain ⟨u,hu⟩:∃ u,cs[j]?=some u:=⟨cs[j],by simp [hjl]⟩
    obtain ⟨r1,r2⟩:=hc j c u hj hu
    refine ⟨u,by simp [World.cell?,hh,hu],r2,r1.mono hle,?_⟩
    simp [World.frozen?,hh]
    omega
   ·cases hg:G.imm a with
    | none=>exact hg
    | some v=>have:=World.block_lt_of_cell? _ _ (hw.imm a v hg);omega
  ·rw [if_neg hie] at hi
   refine (hw.obj i ob hi).keep hle (fun b hb=>?_) (fun n hn=>hn) (fun hn=>by show (if i=i0 then _ else G.loc i)=none;rw [if_neg (fun e=>hie e.symm)];exact hn)
   exact ⟨by rw [hh];exact qAv _ _ _ (hw.own b i hb).1,fun a ha=>rfl⟩
theorem strRow_ok (hT:TOk P T) {t t2 i0:Nat} {x:Operand} {s:List UInt8} (ho:o.op=.convert t t2 x) (hb:(isStrT T t&&isByteSlice T t2)=true) (hx:ρ x=.d (.str s)) (hroom:h[i0]?=some .room) :
  OpR P E o ρ h (fun u k=>∃ cap:Nat,s.length≤cap∧u=.row i0 0 s.length cap∧k=h.set i0 (.row (byteAV s))):=by
 intro G a w hw hr
 have hx':RepA G (ρ x) (a.eval x):=hr x (by simp [ho,Op.operands])
 rw [hx] at hx'
 have hv:=hx'.str_inv
 simp only [Bool.and_eq_true] at hb
 obtain ⟨et,h1,h2⟩:=qCt hT hb.2
 have h3:=qCs hT hb.1
 have hrun:=Lib.run_convert_string_bytes (P:=P) w t t2 et ⟨s.toArray⟩ h3 h1 h2
 rw [bytesWorld_eq] at hrun
 have hsz:(⟨s.toArray⟩:ByteArray).size=s.length:=by simp [ByteArray.size]
 rw [hsz] at hrun
 have hn:=hw.newRowAtF hroom (Lib.bytesCells w et ⟨s.toArray⟩) et (byteAV s) (by have:=bytesCells_size w et s;simpa [byteAV] using this) (fun j c u hc hu=>by
  simp only [byteAV,List.getElem?_map,Option.map_eq_some_iff] at hc
  obtain ⟨b,hb',rfl⟩:=hc
  rw [bytesCells_at w et s hb'] at hu
  cases hu
  exact ⟨.d (.int _ _),rfl⟩) (w.drew.alloc (.cells (Lib.bytesCells w et ⟨s.toArray⟩) et ((Lib.bytesCells w et ⟨s.toArray⟩).size,(Lib.bytesCells w et ⟨s.toArray⟩).size+1))) rfl rfl rfl rfl
 have hex:(execOp a.eval o).run P w=.ok (.value (.slice (some ⟨w.heap.size,0,none⟩) s.length (grownCap w s.length 0 et))) (w.drew.alloc (.cells (Lib.bytesCells w et ⟨s.toArray⟩) et ((Lib.bytesCells w et ⟨s.toArray⟩).size,(Lib.bytesCells w et ⟨s.toArray⟩).size+1))):=by
  unfold execOp
  simp only [ho,Sem.run_bind]
  rw [hv,hrun]
  rfl
 unfold Oper.wp
 rw [hex]
 exact ⟨_,rowNew G i0 w.heap.size,.row i0 0 s.length (grownCap w s.length 0 et),h.set i0 (.row (byteAV s)),⟨_,grownCap_ge w s.length 0 et,rfl,rfl⟩,rfl,hn.1,hn.2,.row 0 _ _ (by show (if i0=i0 then _ else _)=_;simp)⟩
end
end Tdoc
namespace Tdoc
open Go
variable {P:Program} {E:Env} {N:Nat}
theorem qCb {rd wr:Nat→List Nat} {ops:List Oper} {Q:(Nat→AV)→List AObj→Prop} {i d:Nat} {op:Op} {ty:TypeId} {pos:String} {after:Array Edge} {rest:List Oper}
  {l:List (Nat×AV)} {h:List AObj} {v:AV} (hs:OpP P ⟨some d,op,ty,pos,after,none⟩ (ev (look l)) v) (hd:Nat.blt d N=true) (hw:wr i=[]) (hk:AWd P E N ops rd wr Q rest (i+1) (look ((d,v)::l)) h) :
  AWd P E N ops rd wr Q (⟨some d,op,ty,pos,after,none⟩::rest) i (look l) h :=
 ⟨v,[],fun k h1 h2=>by rw [hw];simp only [updH_nil];exact ⟨hd,qDa (qAc hs)⟩,by rw [hw,updH_nil];exact hk⟩
end Tdoc
namespace Tdoc
open Go Go.RowKit Go.Sort
theorem WRel_below {E:Env} {G:Gh} {h:List AObj} {w w':World} (hw:WRel E G h w) (hb:Below w.heap.size w w'):WRel E G h w':=WRel_grow hw hb.block hb.size hb.os hb.tape hb.output
theorem Below_grow (w:World) (k:Nat) (os:Array Obj):Below w.heap.size w (grow (w.drewN k) os) :=
 ⟨rfl,rfl,rfl,by show w.heap.size≤(w.heap++os).size;simp,fun b hb=>by show (w.heap++os)[b]?=w.heap[b]?;rw [Array.getElem?_append_left hb]⟩
theorem Below_drew (w:World) (k:Nat):Below w.heap.size w (w.drewN k):=⟨rfl,rfl,rfl,Nat.le_refl _,fun _ _=>rfl⟩
theorem Below_alloc (w:World) (o:Obj):Below w.heap.size w (w.alloc o):=by rw [alloc_eq_grow];exact Below_grow w 0 #[o]
section
variable {P:Program} {f:FuncId} {args:List AV}
def LibH (P:Program) (f:FuncId) (args:List AV) (K:Gh→World→Ending→World→Prop):Prop :=
 ∀ (G:Gh) (w:World) (vals:Array Value),vals.size=args.length→(∀ (j:Nat) (x:AV) (v:Value),args[j]?=some x→vals[j]?=some v→RepA G x v)→TabOk w G→(∀ a v,G.imm a=some v→w.cell? a=some v)→Calls P f vals w (K G w)
theorem Spec_lib {r:AV} (hf:∃ fn,P.funcs[f]?=some fn∧(fn.name == "runtime.NumGoroutine")=false∧fn.body.isNone=false) (hlow:low 0 r=true)
  (H:LibH P f args fun G w e w'=>∃ v,e=.returned v∧RepA G r v∧Below w.heap.size w w'):Spec P f args [] (fun r' h'=>r'=r∧h'=[]) :=
 ⟨hf,fun G w vals h1 h2 ht hw=>(H G w vals h1 h2 ht hw.imm).mono fun e w' ⟨v,he,hr,hb⟩=>⟨v,r,[],G,he,⟨rfl,rfl⟩,rfl,hlow,rfl,hr,WRel_below hw hb⟩⟩
end
end Tdoc
namespace Tdoc
open Go
def sameD:Dat→Dat→Bool
 | .int _ x,.int _ y=>x == y
 | .str a,.str b=>a == b
 | _,_=>false
def sameL:List Dat→List Dat→Bool
 | [],[]=>true
 | d::ds,e::es=>sameD d e&&sameL ds es
 | _,_=>false
def kindD:Dat→Option (Option IntKind)
 | .int k _=>some (some k)
 | .str _=>some none
 | _=>none
def fOk (P:Program):List Field→Nat→List (Option IntKind)→Bool
 | [],_,[]=>true
 | f::fs,off,k::ks=>(f.name != "_")&&(Nat.beq f.offset off&&((match P.underlying f.type with
  | some (.int _)=>k.isSome
  | some .string=>k.isNone
  | _=>false)&&fOk P fs (off+1) ks))
 | _,_,_=>false
theorem part_one {P:Program} {w:World} {t:TypeId} {cs:Array Value} {off:Nat} {v:Value} {u:TypeDesc} (hu:P.underlying t=some u) (ha:∀ w:World,(isAgg t).run P w=.ok false w) (hv:cs[off]?=some v):(part t cs off).run P w=.ok v w:=by
 unfold part
 simp only [Sem.run_bind,ha,Result.andThen_ok,Bool.false_eq_true,if_false,hv,Sem.run_pure]
theorem eqFields_flat {m:Addr→Option Value} {P:Program} {w:World} {n:Nat} {xs ys:Array Value}:∀ (fs:List Field) (ks:List (Option IntKind)) (off:Nat) (ds es:List Dat),fOk P fs off ks=true→ds.map kindD=ks.map some→es.map kindD=ks.map some →
  (∀ (j:Nat) (d:Dat),ds[j]?=some d→∃ v,xs[off+j]?=some v∧RepD m d v)→(∀ (j:Nat) (d:Dat),es[j]?=some d→∃ v,ys[off+j]?=some v∧RepD m d v) →
  (Op.eqFields (n+1) xs ys fs).run P w=.ok (sameL ds es) w
 | [],[],off,ds,es,_,h1,h2,_,_=>by
  obtain rfl:ds=[]:=by simpa using h1
  obtain rfl:es=[]:=by simpa using h2
  rfl
 | [],_::_,_,_,_,h,_,_,_,_=>by simp [fOk] at h
 | _::_,[],_,_,_,h,_,_,_,_=>by simp [fOk] at h
 | f::fs,k::ks,off,ds,es,h,h1,h2,hx,hy=>by
  match ds,es,h1,h2 with
  | [],_,h1,_=>simp at h1
  | _::_,[],_,h2=>simp at h2
  | d::ds,e::es,h1,h2 =>
   simp only [List.map_cons,List.cons.injEq] at h1 h2
   simp only [fOk,Bool.and_eq_true,bne_iff_ne,ne_eq] at h
   obtain ⟨g1,g2,g3,g4⟩:=h
   have ih:=eqFields_flat (n:=n) (w:=w) (xs:=xs) (ys:=ys) (m:=m) fs ks (off+1) ds es g4 h1.2 h2.2 (fun j d hj=>by have:=hx (j+1) d (by simpa using hj);rwa [show off+(j+1)=off+1+j by omega] at this) (fun j d hj=>by have:=hy (j+1) d (by simpa using hj);rwa [show off+(j+1)=off+1+j by omega] at this)
   obtain ⟨u,hu,ru⟩:=hx 0 d rfl
   obtain ⟨v,hv,rv⟩:=hy 0 e rfl
   rw [Nat.add_zero] at hu hv
   have ho:f.offset=off:=Nat.eq_of_beq_eq_true g2
   rw [← ho] at hu hv
   unfold Op.eqFields
   rw [if_pos g1]
   have fin:∀ b:Bool,(Op.equalIn (n+1) f.type u v).run P w=.ok b w→(∃ t,P.underlying f.type=some t∧∀ w:World,(isAgg f.type).run P w=.ok false w)→b=sameD d e →
     (do let a ← part f.type xs f.offset;let b ← part f.type ys f.offset;let r ← Op.equalIn (n+1) f.type a b;if (!r)=true then pure false else Op.eqFields (n+1) xs ys fs:Sem Bool).run P w=.ok (sameL (d::ds) (e::es)) w:=by
    rintro b hb ⟨t,ht,ha⟩ rfl
    simp only [Sem.run_bind,part_one ht ha hu,part_one ht ha hv,Result.andThen_ok,hb]
    rw [sameL]
    cases sameD d e
    ·simp
    ·simp [ih]
   cases hund:P.underlying f.type with
   | none=>rw [hund] at g3;cases g3
   | some td =>
    rw [hund] at g3
    cases td
    case int k' =>
     cases k with
     | none=>cases g3
     | some k =>
      match d,h1.1,ru with
      | .int _ x,h1,ru =>
       match e,h2.1,rv with
       | .int _ y,h2,rv =>
        simp only [kindD,Option.some.injEq] at h1 h2
        subst h1;subst h2
        cases ru;cases rv
        exact fin (x == y) (run_equalIn_int w n f.type _ k' x y hund) ⟨_,hund,fun w=>by simp [isAgg,run_underlying hund]⟩ rfl
       | .bool _,h2,_=>simp [kindD] at h2
       | .str _,h2,_=>simp [kindD] at h2
       | .sl _ _,h2,_=>simp [kindD] at h2
      | .bool _,h1,_=>simp [kindD] at h1
      | .str _,h1,_=>simp [kindD] at h1
      | .sl _ _,h1,_=>simp [kindD] at h1
    case string =>
     cases k with
     | some k=>cases g3
     | none =>
      match d,h1.1,ru with
      | .str a,h1,ru =>
       match e,h2.1,rv with
       | .str b,h2,rv =>
        cases ru;cases rv
        refine fin _ (run_equalIn_string w n f.type _ _ hund) ⟨_,hund,fun w=>by simp [isAgg,run_underlying hund]⟩ ?_
        simp [sameD,ByteArray.toList_mk]
       | .bool _,h2,_=>simp [kindD] at h2
       | .int _ _,h2,_=>simp [kindD] at h2
       | .sl _ _,h2,_=>simp [kindD] at h2
      | .bool _,h1,_=>simp [kindD] at h1
      | .int _ _,h1,_=>simp [kindD] at h1
      | .sl _ _,h1,_=>simp [kindD] at h1
    all_goals cases g3
section
variable {P:Program} {o:Oper} {ρ:Operand→AV}
theorem structNe_ok {t yt:Nat} {x y:Operand} {ds es:List Dat} {ks:List (Option IntKind)} (ho:o.op=.binOp .neq t x y yt) (hu:P.underlying t=some (.struct (P.fieldsOf t))) (hp:P.stoodInHeld t=false) (hg:P.eqGuardType P.depth t=false)
  (hf:fOk P (P.fieldsOf t).toList 0 ks=true) (hx:ρ x=.agg (ds.map .d)) (hy:ρ y=.agg (es.map .d)) (h1:ds.map kindD=ks.map some) (h2:es.map kindD=ks.map some):OpP P o ρ (.d (.bool (!sameL ds es))):=by
 intro G e w hi hr
 have hx':RepA G (ρ x) (e x):=hr x (by simp [ho,Op.operands])
 have hy':RepA G (ρ y) (e y):=hr y (by simp [ho,Op.operands])
 rw [hx] at hx';rw [hy] at hy'
 have cells:∀ {ds:List Dat} {v:Value},RepA G (.agg (ds.map .d)) v→∃ vs,v=.agg vs∧∀ (j:Nat) (d:Dat),ds[j]?=some d→∃ v,vs[0+j]?=some v∧RepD G.imm d v:=by
  intro ds v h
  generalize hc:ds.map AV.d=cs at h
  cases h with
  | agg vs hs hv ho =>
   subst hc
   refine ⟨vs,rfl,fun j d hj=>?_⟩
   have hjl:=(List.getElem?_eq_some_iff.1 hj).1
   have hl:j < vs.size:=by rw [hs];simpa using hjl
   have:=hv j (.d d) vs[j] (by simp [hj]) (by simp [hl])
   refine ⟨vs[j],by simp [hl],?_⟩
   cases this with
   | d r=>exact r
 obtain ⟨xs,hxe,hxc⟩:=cells hx'
 obtain ⟨ys,hye,hyc⟩:=cells hy'
 refine ⟨.bool (!sameL ds es),?_,.d (.bool _)⟩
 have heq:(Op.equalIn 10000 t (.agg xs) (.agg ys)).run P w=.ok (sameL ds es) w:=by
  rw [show (10000:Nat)=9999+1 from rfl,run_equalIn_agg w 9999 t xs ys hu hp]
  exact eqFields_flat (n:=9998) _ ks 0 ds es hf h1 h2 hxc hyc
 unfold execOp
 simp only [ho,Sem.run_bind]
 rw [hxe,hye,run_eqGuard_agg w .neq t x y xs ys hg]
 simp only [Result.andThen_ok,Sem.run_bind]
 rw [run_neq_struct,heq]
 rfl
end
end Tdoc
namespace Tdoc
open Go
def FOk (F:Fence):Prop:=F=Fence.wide∨∃ l,F=Fence.wide.inRound l
theorem FOk.fn {F:Fence} (h:FOk F) (f:FuncId):F.fn f:=by rcases h with rfl | ⟨l,rfl⟩ <;> exact True.intro
theorem FOk.depth {F:Fence} (h:FOk F):F.depth=none:=by rcases h with rfl | ⟨l,rfl⟩ <;> rfl
theorem FOk.calls {F:Fence} (hF:FOk F) {P:Program} {f:FuncId} {args:Array Value} {w:World} {R:Ending→World→Prop} (h:Calls P f args w R) (n:Nat):CallsIn F n P f args w R:=by
 rcases hF with rfl | ⟨l,rfl⟩
 ·exact callsIn_wide.2 h
 ·exact CallsIn.inRound l (callsIn_wide.2 h)
theorem FOk.rows {F:Fence} (hF:FOk F) {P:Program} {row:String} {args:Array Value} {w:World} {R:Value→World→Prop} (h:Rows P row args w R) (n:Nat):RowsIn F n P row args w R:=by
 have hw:RowsIn Fence.wide n P row args w R:=fun c cs _=>let ⟨v,w',r,s⟩:=h c cs;⟨v,w',r,stepsIn_wide.2 s⟩
 rcases hF with rfl | ⟨l,rfl⟩
 ·exact hw
 ·exact hw
def noDefer:Op→Bool
 | .defer _=>false
 | _=>true
theorem opIn_of_wp {F:Fence} (hF:FOk F) {P:Program} {o:Oper} (hd:noDefer o.op=true) {a:Act} {w:World} {next:Act→World→Prop} (h:o.wp P a w next (fun _ _ _=>False)) (n:Nat) (Q:Exit→Act→World→Prop):o.wpIn F n P a w next Q:=by
 refine ⟨fun f _=>hF.fn f,?_⟩
 rw [Oper.semAt_eq _ _ _ (fun c hc=>by rw [hc] at hd;cases hd)]
 unfold Oper.wp at h
 generalize (execOp a.eval o).run P w=r at h
 cases r with
 | ok x w' =>
  cases x <;> simp only [Oper.upon,Oper.uponIn] at h ⊢ <;>
   first
    | exact h
    | exact ⟨fun hh=>(by rw [hF.depth] at hh;cases hh),hF.calls (h.mono fun e w'' he=>by cases e <;> first | exact he | exact he.elim | (obtain ⟨_,_,hf⟩:=he;exact hf.elim)) _⟩
    | exact ⟨fun hh=>(by rw [hF.depth] at hh;cases hh),hF.rows h _⟩
    | exact h.elim
 | halt x w'=>cases x <;> simp only [Oper.upon,Oper.uponIn] at h ⊢ <;> exact h.elim
def OpRF (F:Fence) (P:Program) (E:Env) (o:Oper) (ρ:Operand→AV) (h:List AObj) (R:AV→List AObj→Prop):Prop :=
 ∀ (G:Gh) (a:Act) (w:World),WRel E G h w→(∀ x,x∈o.op.operands.toList→RepA G (ρ x) (a.eval x))→∀ Q:Exit→Act→World→Prop,
  o.wpIn F 0 P a w (fun a' w'=>∃ u G' v h',R v h'∧a'=a.put o.dst u∧G.le G'∧WRel E G' h' w'∧RepA G' v u) Q
theorem OpRF_of {F:Fence} (hF:FOk F) {P:Program} {E:Env} {o:Oper} (hd:noDefer o.op=true) {ρ:Operand→AV} {h:List AObj} {R:AV→List AObj→Prop} (H:OpR P E o ρ h R):OpRF F P E o ρ h R :=
 fun G a w hw hr Q=>opIn_of_wp hF hd (H G a w hw hr) 0 Q
def StepRF (F:Fence) (P:Program) (E:Env) (N:Nat) (ops:Array Oper) (o:Oper) (τ:Nat→AV) (h:List AObj) (R:AV→List AObj→Prop):Prop :=
 dstOk N o=true∧match o.guard with
 | none=>OpRF F P E o (ev τ) h R
 | some (j,want)=>∃ d ex,(ops[j]?).bind (·.dst)=some d∧Nat.blt d N=true∧(∀ G v,RepA G (τ d) v→(v=.bool want↔ex=true))∧(ex=true→OpRF F P E o (ev τ) h R)∧(ex=false→∃ v,R v h∧∀ G,RepA G v undef)
theorem StepRF_of {F:Fence} (hF:FOk F) {P:Program} {E:Env} {N:Nat} {ops:Array Oper} {o:Oper} (hd:noDefer o.op=true) {τ:Nat→AV} {h:List AObj} {R:AV→List AObj→Prop} (H:StepR P E N ops o τ h R):StepRF F P E N ops o τ h R:=by
 refine ⟨H.1,?_⟩
 have h2:=H.2
 cases hg:o.guard with
 | none=>rw [hg] at h2;exact OpRF_of hF hd h2
 | some g =>
  obtain ⟨j,want⟩:=g
  rw [hg] at h2
  obtain ⟨d,ex,k1,k2,k3,k4,k5⟩:=h2
  exact ⟨d,ex,k1,k2,k3,fun hb=>OpRF_of hF hd (k4 hb),k5⟩
theorem step_soundF {F:Fence} (hF:FOk F) {P:Program} {E:Env} {N:Nat} {ops:Array Oper} {Q:Exit→Act→World→Prop} {i:Nat} {o:Oper} (ho:ops[i]?=some o) {τ:Nat→AV} {h:List AObj} {R:AV→List AObj→Prop} {K:Act→World→Prop} {a:Act} {w:World}
  (hs:StepRF F P E N ops o τ h R) (hr:Rel E N τ h a w) (hk:∀ v h' a' w',R v h'→Rel E N (putA τ o.dst v) h' a' w'→K a' w'):wpOpIn F 0 P ops Q i K a w:=by
 obtain ⟨hd,hg⟩:=hs
 obtain ⟨r1,r2,G,hw,ht⟩:=hr
 have hdl:=dstOk_lt hd
 have go:OpRF F P E o (ev τ) h R→o.wpIn F 0 P a w K Q:=fun H=>by
  refine Oper.wpIn_mono ?_ (H G a w hw (fun x _=>eval_rep (E.tab.1.mono hw.le.imm) ht x) Q)
  rintro a' w' ⟨u,G',v,h',hR,rfl,hle,hw',hv⟩
  refine hk v h' _ w' hR ⟨by rw [put_size];exact r1,by rw [qDp];exact r2,G',hw',?_⟩
  obtain ⟨tmps,ds⟩:=a
  exact rep_put r1 hdl (fun t=>(ht t).mono hle) hv ds
 unfold wpOpIn
 simp only [ho]
 cases hgd:o.guard with
 | none =>
  rw [hgd] at hg
  have:Region.wanted o (yielded ops a.tmps)=true:=by simp [Region.wanted,hgd]
  rw [if_pos this]
  exact go hg
 | some g =>
  obtain ⟨j,want⟩:=g
  rw [hgd] at hg
  obtain ⟨d,ex,h1,h2,h3,h4,h5⟩:=hg
  have hv:=h3 G _ (ht d)
  have hdn:d < a.tmps.size:=by rw [r1];exact Nat.le_of_ble_eq_true h2
  have hget:a.tmps[d]?=some (a.tmps.getD d undef):=by
   rw [Array.getD_eq_getD_getElem?]
   have h6:a.tmps[d]?=some a.tmps[d]:=by simp [hdn]
   rw [h6];rfl
  have hwd:Region.wanted o (yielded ops a.tmps)=ex:=by
   unfold Region.wanted yielded
   rw [hgd]
   simp only [h1,Option.bind_some,hget]
   generalize a.tmps.getD d undef=u at hv
   cases ex with
   | true =>
    rw [hv.2 rfl];simp
   | false =>
    have hne:u≠.bool want:=fun hh=>by have:=hv.1 hh;cases this
    cases u <;> simp
    rename_i b
    intro hh;exact hne (by rw [hh])
  rw [hwd]
  cases ex with
  | true=>rw [if_pos rfl];exact go (h4 rfl)
  | false =>
   rw [if_neg (by simp)]
   obtain ⟨v,hR,hv0⟩:=h5 rfl
   refine ⟨fun f _=>hF.fn f,hk v h _ w hR ⟨by rw [put_size];exact r1,by rw [qDp];exact r2,G,hw,?_⟩⟩
   obtain ⟨tmps,ds⟩:=a
   exact rep_put r1 hdl ht (hv0 G) ds
def AWF (F:Fence) (P:Program) (E:Env) (N:Nat) (c:Code) (Q:Exit→(Nat→AV)→List AObj→Prop) (τ:Nat→AV) (h:List AObj):Prop :=
 ∀ a w,Rel E N τ h a w→c.wpIn F 0 P (fun ex a' w'=>∃ τ' h',Q ex τ' h'∧Rel E N τ' h' a' w') a w
section rules
variable {F:Fence} {P:Program} {E:Env} {N:Nat} {Q:Exit→(Nat→AV)→List AObj→Prop} {τ:Nat→AV} {h:List AObj}
theorem AWF_skip (hq:Q .normal τ h):AWF F P E N .skip Q τ h:=fun _ _ r=>wpIn_skip ⟨τ,h,hq,r⟩
theorem AWF_exit {id:Nat} (hq:Q (.exit id) τ h):AWF F P E N (.exit id) Q τ h:=fun _ _ r=>wpIn_exit ⟨τ,h,hq,r⟩
theorem AWF_seq {x y:Code} (hx:AWF F P E N x (thenA (fun τ h=>AWF F P E N y Q τ h) Q) τ h):AWF F P E N (.seq x y) Q τ h :=
 fun a w r=>wpIn_seq (wpIn_mono (hx a w r) fun e a' w' ⟨τ',h',q,r'⟩=>by
  cases e with
  | normal=>exact q a' w' r'
  | _=>exact ⟨τ',h',q,r'⟩)
theorem AWF_block {id:Nat} {c:Code} (hc:AWF F P E N c (inBlockA id Q) τ h):AWF F P E N (.block id c) Q τ h :=
 fun a w r=>wpIn_block (wpIn_mono (hc a w r) fun e a' w' ⟨τ',h',q,r'⟩=>by
  cases e with
  | exit id' =>
   simp only [inBlockA] at q
   by_cases hid:id'=id
   ·subst hid;simp only [Exit.inBlock,if_true]
    have hb:Nat.beq id' id'=true:=Nat.beq_refl id'
    rw [hb] at q;exact ⟨τ',h',q,r'⟩
   ·simp only [Exit.inBlock,hid,if_false]
    have hb:Nat.beq id' id=false:=by
     cases hb:Nat.beq id' id with
     | false=>rfl
     | true=>exact absurd (Nat.eq_of_beq_eq_true hb) hid
    rw [hb] at q;exact ⟨τ',h',q,r'⟩
  | _=>exact ⟨τ',h',q,r'⟩)
theorem AWF_condL {c:Operand} {x y:Code} {b:Bool} (hc:ev τ c=.d (.bool b)) (ht:b=true→AWF F P E N x Q τ h) (hf:b=false→AWF F P E N y Q τ h):AWF F P E N (.cond c x y) Q τ h:=by
 intro a w r
 have hv:a.eval c=.bool b:=by
  obtain ⟨h1,h2,G,hw,ht'⟩:=r
  have:=eval_rep (E.tab.1.mono hw.le.imm) ht' c
  rw [hc] at this
  exact this.bool_inv
 exact wpIn_cond_split hv (fun e=>ht e a w r) (fun e=>hf e a w r)
theorem AWF_sub {c:Code} {τ':Nat→AV} {h':List AObj} (hs:∀ a w,Rel E N τ h a w→Rel E N τ' h' a w) (hc:AWF F P E N c Q τ' h'):AWF F P E N c Q τ h:=fun a w r=>hc a w (hs a w r)
theorem AWF_loopL {c:Code} {ι:Type} (S:ι→List (Nat×AV)) (H:ι→List AObj) (inv:ι→Prop) (μ:ι→Nat) (x0:ι) (h0:inv x0) (hs:SubL τ (S x0)) (hh:HLe h (H x0))
  (round:∀ x,inv x→AWF F P E N c (thenA (fun τ' h'=>∃ y,inv y∧μ y < μ x∧SubL τ' (S y)∧HLe h' (H y)) Q) (look (S x)) (H x)):AWF F P E N (.loop c) Q τ h:=by
 intro a w r b k cs hro hb hroom
 have key:∀ n x a w,μ x=n→inv x→Rel E N (look (S x)) (H x) a w →
   ∃ e a' w',(∃ τ' h',Q e τ' h'∧Rel E N τ' h' a' w')∧ArrivesIn (Machine.fenced P F) P (lone (b.atR a (.code c::.inLoop c::k)) cs w) b k cs e a' w':=by
  intro n
  induction n using Nat.strongRecOn with
  | _ n ih =>
   intro x a w hn hI hr
   obtain ⟨e,a₁,w₁,⟨τ',h',hq,hr'⟩,harr⟩:=round x hI a w hr b (.inLoop c::k) cs hro hb hroom
   cases e with
   | normal =>
    obtain ⟨y,hy,hlt,hs',hh'⟩:=hq
    obtain ⟨e₂,a₂,w₂,hq₂,harr₂⟩:=ih (μ y) (hn▸hlt) y a₁ w₁ rfl hy (Rel_sub hs' hh' a₁ w₁ hr')
    exact ⟨e₂,a₂,w₂,hq₂,.of_steps (StepsIn.trans harr (.one (fenced_calm hb hroom rfl) stepR_inLoop)) harr₂⟩
   | exit id=>exact ⟨_,a₁,w₁,⟨τ',h',hq,hr'⟩,.pass (x:=.inLoop c) rfl (fun _ _=>.inl (by simp)) harr⟩
   | goto l=>exact ⟨_,a₁,w₁,⟨τ',h',hq,hr'⟩,.pass (x:=.inLoop c) rfl (fun _ _=>.inl (by simp)) harr⟩
   | ret=>exact ⟨_,a₁,w₁,⟨τ',h',hq,hr'⟩,.pass (x:=.inLoop c) rfl (fun _ _=>.inl (by simp)) harr⟩
   | panic ch=>exact ⟨_,a₁,w₁,⟨τ',h',hq,hr'⟩,.pass (x:=.inLoop c) rfl (fun _ _=>.inl (by simp)) harr⟩
   | outgrown=>exact ⟨_,a₁,w₁,⟨τ',h',hq,hr'⟩,.pass (x:=.inLoop c) rfl (fun _ _=>.inl (by simp)) harr⟩
 obtain ⟨e,a',w',hq,harr⟩:=key _ x0 a w rfl h0 (Rel_sub hs hh a w r)
 exact ⟨e,a',w',hq,.of_steps (.one (fenced_calm hb hroom rfl) stepR_loop) harr⟩
theorem AWF_subL {c:Code} {l:List (Nat×AV)} {h':List AObj} (hs:SubL τ l) (hh:HLe h h') (hc:AWF F P E N c Q (look l) h'):AWF F P E N c Q τ h:=AWF_sub (Rel_sub hs hh) hc
end rules
def AWkF (F:Fence) (P:Program) (E:Env) (N:Nat) (ops:List Oper) (Q:(Nat→AV)→List AObj→Prop):List Oper→(Nat→AV)→List AObj→Prop
 | [],τ,h=>Q τ h
 | o::rest,τ,h=>∃ R,StepRF F P E N ops.toArray o τ h R∧∀ v h',R v h'→AWkF F P E N ops Q rest (putA τ o.dst v) h'
section
variable {F:Fence} {P:Program} {E:Env} {N:Nat} {ops:List Oper}
theorem AWkF_pre (hF:FOk F) {Q:(Nat→AV)→List AObj→Prop} {post:List Oper}:∀ (pre:List Oper) (τ:Nat→AV) (h:List AObj),(pre.all fun o=>noDefer o.op)=true →
  AWk P E N ops (fun τ h=>AWkF F P E N ops Q post τ h) pre τ h→AWkF F P E N ops Q (pre++post) τ h
 | [],τ,h,_,hk=>hk
 | o::pre,τ,h,hd,hk=>by
  rw [List.all_cons,Bool.and_eq_true] at hd
  obtain ⟨R,hs,hn⟩:=hk
  exact ⟨R,StepRF_of hF hd.1 hs,fun v h' hR=>AWkF_pre hF pre _ _ hd.2 (hn v h' hR)⟩
theorem AWkF_all (hF:FOk F) {Q:(Nat→AV)→List AObj→Prop} (l:List Oper) (τ:Nat→AV) (h:List AObj) (hd:(l.all fun o=>noDefer o.op)=true) (hk:AWk P E N ops Q l τ h):AWkF F P E N ops Q l τ h:=by
 have:=AWkF_pre hF (Q:=Q) (ops:=ops) (post:=[]) l τ h hd hk
 rwa [List.append_nil] at this
theorem AWkF_op {Q:(Nat→AV)→List AObj→Prop} {d:Nat} {op:Op} {ty:TypeId} {pos:String} {after:Array Edge} {rest:List Oper}
  {l:List (Nat×AV)} {h h':List AObj} {v:AV} (hs:OpRF F P E ⟨some d,op,ty,pos,after,none⟩ (ev (look l)) h (fun a b=>a=v∧b=h')) (hd:Nat.blt d N=true) (hk:AWkF F P E N ops Q rest (look ((d,v)::l)) h') :
  AWkF F P E N ops Q (⟨some d,op,ty,pos,after,none⟩::rest) (look l) h :=
 ⟨_,⟨hd,hs⟩,fun a b hab=>by obtain ⟨rfl,rfl⟩:=hab;exact hk⟩
theorem AWkF_sound (hF:FOk F) {Q:Exit→(Nat→AV)→List AObj→Prop}:∀ (rest:List Oper) (k:Nat) (τ:Nat→AV) (h:List AObj) (a:Act) (w:World),(∀ j,rest[j]?=ops[k+j]?) →
  AWkF F P E N ops (Q .normal) rest τ h→Rel E N τ h a w →
  wpOpsIn F 0 P ops.toArray (fun ex a' w'=>∃ τ' h',Q ex τ' h'∧Rel E N τ' h' a' w') (List.range' k rest.length) a w
 | [],k,τ,h,a,w,_,hk,hr=>⟨τ,h,hk,hr⟩
 | o::rest,k,τ,h,a,w,hj,hk,hr=>by
  obtain ⟨R,hs,hnext⟩:=hk
  have ho:ops.toArray[k]?=some o:=by simpa using (hj 0).symm
  simp only [List.length_cons,List.range'_succ]
  rw [wpOpsIn_cons]
  exact step_soundF hF ho hs hr fun v h' a' w' hR hrel =>
   AWkF_sound hF rest (k+1) _ _ a' w' (fun j=>by have:=hj (j+1);simpa [Nat.add_assoc,Nat.add_comm 1 j] using this) (hnext v h' hR) hrel
theorem AWF_regionF (hF:FOk F) {id:Nat} {Q:Exit→(Nat→AV)→List AObj→Prop} {τ:Nat→AV} {h:List AObj} (hk:AWkF F P E N ops (Q .normal) ops τ h):AWF F P E N (.region id ops.toArray false) Q τ h:=by
 intro a w hr
 refine wpIn_region ?_
 have:=AWkF_sound hF ops 0 τ h a w (fun j=>by simp) hk hr
 simpa [List.range_eq_range'] using this
theorem AWF_region (hF:FOk F) {id:Nat} {Q:Exit→(Nat→AV)→List AObj→Prop} {τ:Nat→AV} {h:List AObj} (hd:(ops.all fun o=>noDefer o.op)=true) (hk:AWk P E N ops (Q .normal) ops τ h):AWF F P E N (.region id ops.toArray false) Q τ h :=
 AWF_regionF hF (AWkF_all hF ops τ h hd hk)
theorem anyA_soundF (hF:FOk F) {ops:Array Oper} (hd:∀ (i:Nat) (o:Oper),ops[i]?=some o→noDefer o.op=true) {rd wr:Nat→List Nat} {Q:Exit→(Nat→AV)→List AObj→Prop}:∀ (fuel:Nat) (listed:Array Bool) (τ:Nat→AV) (h:List AObj) (a:Act) (w:World),anyA P E N ops rd wr (Q .normal) fuel listed τ h→Rel E N τ h a w →
  wpAnyIn F 0 P .any ops (fun ex a' w'=>∃ τ' h',Q ex τ' h'∧Rel E N τ' h' a' w') fuel listed a w
 | 0,_,τ,h,_,_,H,hr=>⟨H.1,τ,h,H.2,hr⟩
 | fuel+1,listed,τ,h,a,w,H,hr=>by
  refine ⟨fun h0=>⟨τ,h,H.1 h0,hr⟩,fun i hi=>?_⟩
  have hs:=H.2 i hi
  unfold stepI at hs
  split at hs
  ·rename_i ho
   unfold wpOpIn
   simp only [ho]
   exact anyA_soundF hF hd fuel _ τ h a w hs hr
  ·rename_i o ho
   obtain ⟨v,os,hsi,hk⟩:=hs
   exact step_soundF hF ho (StepRF_of hF (hd _ _ ho) (hsi h rfl fun _ _=>rfl)) hr fun v' h'' a' w' ⟨h1,h2⟩ hrel=>by
    subst h1;subst h2
    exact anyA_soundF hF hd fuel _ _ _ a' w' hk hrel
theorem AWF_drawG (hF:FOk F) {id:Nat} (rd wr:Nat→List Nat) {Q:Exit→(Nat→AV)→List AObj→Prop} {τ:Nat→AV} {h:List AObj} (hm:P.follows .mixedOrders=true) (hd:(ops.all fun o=>noDefer o.op)=true)
  (hB:lexD ops.toArray rd wr ops.length 0 (Array.replicate ops.length false)=true) (H:AWd P E N ops rd wr (Q .normal) ops 0 τ h):AWF F P E N (.region id ops.toArray true) Q τ h:=by
 intro a w hr
 refine wpIn_region_any hm ?_
 have h1:=AWd_any (P:=P) (E:=E) (N:=N) (rd:=rd) (wr:=wr) (ops:=ops) (Q:=Q .normal) ops 0 (Array.replicate ops.length false) τ h (fun j=>by simp) hB H
 have:=anyA_soundF hF (ops:=ops.toArray) (fun i o ho=>List.all_eq_true.1 hd o (List.mem_of_getElem? (by simpa using ho))) (Q:=Q) _ _ _ _ a _ h1 hr.drew
 simpa using this
end
end Tdoc
namespace Tdoc
open Go
theorem WRel.tabOk {E:Env} {G:Gh} {h:List AObj} {w:World} (hw:WRel E G h w):TabOk w G:=⟨E.tab.1.mono hw.le.imm,hw.tabB fun _ hb=>hb⟩
theorem WRel.restart {E:Env} {G:Gh} {h:List AObj} {w:World} (hw:WRel E G h w) (htab:TabOk w G) (ds:List Deferred):WRel ⟨w,G,htab,ds⟩ G h w :=
 ⟨.refl _,hw.imm,fun a v ha=>.inl ha,fun _ _=>rfl,Nat.le_refl _,rfl,rfl,rfl,fun b i hb=>⟨(hw.own b i hb).1,fun hk=>by
  have hk2:G.own b=none:=hk.2
  rw [hb] at hk2;cases hk2⟩,hw.fresh,hw.obj⟩
theorem WRel.after {E:Env} {G G2:Gh} {h h2:List AObj} {w w2:World} {htab:TabOk w G} {ds:List Deferred} (hw:WRel E G h w) (hw2:WRel ⟨w,G,htab,ds⟩ G2 h2 w2):WRel E G2 h2 w2:=by
 have hEK:∀ b,E.K b→(⟨w,G,htab,ds⟩:Env).K b:=fun b hk=>⟨Nat.lt_of_lt_of_le hk.1 hw.size,by
  show G.own b=none
  cases ho:G.own b with
  | none=>rfl
  | some i=>exact absurd hk (hw.own b i ho).2⟩
 refine ⟨hw.le.trans hw2.le,hw2.imm,fun a v ha=>?_,fun b hb=>(hw2.keep b (hEK b hb)).trans (hw.keep b hb),Nat.le_trans hw.size hw2.size,hw2.os.trans hw.os,hw2.tape.trans hw.tape,hw2.output.trans hw.output,
  fun b i hb=>⟨(hw2.own b i hb).1,fun hk=>(hw2.own b i hb).2 (hEK b hk)⟩,hw2.fresh,hw2.obj⟩
 rcases hw2.immNew a v ha with h1 | h1
 ·exact hw.immNew a v h1
 ·exact .inr fun hk=>h1 (hEK _ hk)
theorem cell_not {w:World} {a:Addr} {o:Obj} (h:w.heap[a.block]?=some o) (ho:o.isCells=false):w.cell? a=none:=by
 unfold World.cell?
 rw [h]
 cases o <;> simp_all [Obj.isCells]
theorem WRel.poke {E:Env} {G:Gh} {h:List AObj} {w:World} {l:Nat} {o:Obj} (o':Obj) (hw:WRel E G h w) (hl:w.heap[l]?=some o) (ho:o.isCells=false) (hown:G.own l=none) :
  (∀ a v,G.imm a=some v→(w.putObj l o').cell? a=some v)∧∀ i ob,h[i]?=some ob→ObjRel G (w.putObj l o') i ob:=by
 refine ⟨fun a v ha=>?_,fun i ob hi=>?_⟩
 ·have h1:=hw.imm a v ha
  have hne:a.block≠l:=fun e=>by rw [cell_not (by rw [e];exact hl) ho] at h1;cases h1
  rw [World.cell?_of_block (w:=w) (World.putObj_heap_other hne)];exact h1
 ·refine (hw.obj i ob hi).keep (.refl G) (fun b hb=>⟨World.putObj_heap_other fun e=>?_,fun a _=>rfl⟩) (fun _ hn=>hn) (fun hn=>hn)
  subst e;rw [hown] at hb;cases hb
theorem WRel.pokeIn {E:Env} {G:Gh} {h:List AObj} {w:World} {l:Nat} {o:Obj} (o':Obj) (hw:WRel E G h w) (hl:w.heap[l]?=some o) (ho:o.isCells=false) (hown:G.own l=none) (hk:¬ E.K l):WRel E G h (w.putObj l o'):=by
 obtain ⟨h1,h2⟩:=hw.poke o' hl ho hown
 refine ⟨hw.le,h1,hw.immNew,fun b hb=>?_,by rw [World.putObj_size];exact hw.size,hw.os,hw.tape,hw.output,fun b i hb=>by rw [World.putObj_size];exact hw.own b i hb,hw.fresh,h2⟩
 have hne:b≠l:=fun e=>hk (by rw [← e];exact hb)
 rw [World.putObj_heap_other hne];exact hw.keep b hb
theorem WRel.pokeAt {E:Env} {G:Gh} {h:List AObj} {w:World} {l:Nat} {o:Obj} (o':Obj) (hw:WRel E G h w) (hl:w.heap[l]?=some o) (ho:o.isCells=false) (hown:G.own l=none) (htab:TabOk (w.putObj l o') G) (ds:List Deferred) :
  WRel ⟨w.putObj l o',G,htab,ds⟩ G h (w.putObj l o'):=by
 obtain ⟨h1,h2⟩:=hw.poke o' hl ho hown
 exact ⟨.refl _,h1,fun a v ha=>.inl ha,fun _ _=>rfl,Nat.le_refl _,rfl,rfl,rfl,fun b i hb=>⟨by rw [World.putObj_size];exact (hw.own b i hb).1,fun hk=>by
  have hk2:G.own b=none:=hk.2
  rw [hb] at hk2;cases hk2⟩,hw.fresh,h2⟩
theorem WRel.tabPoke {E:Env} {G:Gh} {h:List AObj} {w:World} {l:Nat} (o':Obj) (hw:WRel E G h w) (hl:∀ g p,seatBlk g=some p→g≠l):TabOk (w.putObj l o') G:=by
 obtain ⟨h1,h2⟩:=hw.tabOk
 refine ⟨h1,fun g p hg=>?_⟩
 obtain ⟨k1,o,k2,k3⟩:=h2 g p hg
 exact ⟨k1,o,by rw [World.putObj_heap_other (hl g p hg)];exact k2,k3⟩
def YieldOk (P:Program) (E:Env) (l:Nat) (x:AV) (h h':List AObj):Prop :=
 ∀ (G:Gh) (w:World) (v:Value),WRel E G h w→RepA G x v→∃ fn tmps assign body,(Instr.yield l #[v]).run P w=.ok (.round l fn tmps assign body) w ∧
  RoundIn Fence.wide 0 P l fn tmps assign body w fun e w'=>e=.returned (.bool true)∧∃ G',G.le G'∧WRel E G' h' w'
theorem yield_op {P:Program} {E:Env} {o:Oper} {ρ:Operand→AV} {h h':List AObj} {f x:Operand} {ats:Array TypeId} {l:Nat} {xv:AV} (ho:o.op=.call ⟨.value f,#[x],ats⟩) (hf:ρ f=.fn (.yield l) [] []) (hx:ρ x=xv) (Y:YieldOk P E l xv h h') :
  OpRF Fence.wide P E o ρ h (fun a b=>a=.d (.bool true)∧b=h'):=by
 intro G a w hw hr Q
 have hx':RepA G (ρ x) (a.eval x):=hr x (by simp [ho,Op.operands,Call.operands])
 have hf':RepA G (ρ f) (a.eval f):=hr f (by simp [ho,Op.operands,Call.operands])
 rw [hx] at hx'
 rw [hf] at hf'
 obtain ⟨fn,tmps,assign,body,hy,hR⟩:=Y G w _ hw hx'
 generalize hfv:a.eval f=fv at hf'
 cases hf' with
 | fn _ fvs cvs h1 h2 h3 h4 =>
 refine ⟨fun _ _=>True.intro,?_⟩
 rw [Oper.semAt_eq _ _ _ (fun c hc=>by rw [ho] at hc;cases hc)]
 have e1:fvs = #[]:=Array.eq_empty_of_size_eq_zero h1
 have hrun:(execOp a.eval o).run P w=.ok (.round l fn tmps assign body) w:=by
  unfold execOp
  simp [ho,resolve,hfv,Deferred.ofValue,invoke,e1,hy]
 rw [hrun,Oper.uponIn_round]
 exact ⟨fun hh=>(by cases hh),hR.mono fun e w' ⟨he,G',k1,k2⟩=>by subst he;exact ⟨_,G',_,_,⟨rfl,rfl⟩,rfl,k1,k2,.d (.bool true)⟩⟩
def SeqOk (P:Program) (gf:FuncId) (cap:List AV) (ok:List AObj→Prop) (xs:List AV):Prop :=
 (∃ fn,P.funcs[gf]?=some fn∧(fn.name == "runtime.NumGoroutine")=false∧fn.body.isNone=false) ∧
 ∀ (E:Env) (l:Nat) (Hs:Nat→List AObj),E.ds=[]→(∀ k,ok (Hs k))→(∀ (k:Nat) (x:AV),xs[k]?=some x→YieldOk P E l x (Hs k) (Hs (k+1))) →
  WRel E E.G0 (Hs 0) E.w0→∀ cs:Array Value,cs.size=cap.length→(∀ (j:Nat) (x:AV) (v:Value),cap[j]?=some x→cs[j]?=some v→RepA E.G0 x v) →
   CallsIn Fence.wide 0 P gf (#[.func (.yield l) #[] #[]]++cs) E.w0 fun e w'=>(∃ v,e=.returned v)∧∃ G',WRel E G' (Hs xs.length) w'
theorem rep_args {G:Gh} {args:List AV} {vals:Array Value} {n:Nat} (hvs:vals.size=args.length) (hargs:∀ (j:Nat) (x:AV) (v:Value),args[j]?=some x→vals[j]?=some v→RepA G x v) (t:Nat) :
  RepA G (look (pars args 0) t) ((vals++Array.replicate n undef).getD t undef):=by
 rw [look_pars]
 by_cases ht:0≤t∧t < 0+args.length
 ·rw [if_pos ht]
  have ht2:t < args.length:=by omega
  have h1:args[t]?=some args[t]:=by simp [ht2]
  have h2:vals[t]?=some vals[t]:=by simp [hvs,ht2]
  have:=hargs t _ _ h1 h2
  simp only [Nat.sub_zero,h1,Option.getD_some]
  have hget:(vals++Array.replicate n undef).getD t undef=vals[t]:=by
   rw [Array.getD_eq_getD_getElem?,Array.getElem?_append_left (by omega),h2];rfl
  rw [hget];exact this
 ·rw [if_neg ht];exact .any _
theorem Seq_of_body {P:Program} {gf:FuncId} {fn:Func} {c:Code} {cap:List AV} {ok:List AObj→Prop} {xs:List AV} (hf:P.funcs[gf]?=some fn) (hb:fn.body=some c) (hname:(fn.name == "runtime.NumGoroutine")=false)
  (hrs:fn.results = #[]) (hn:Nat.ble (cap.length+1) fn.ntmps=true)
  (H:∀ (E:Env) (l:Nat) (Hs:Nat→List AObj),(∀ k,ok (Hs k))→(∀ (k:Nat) (x:AV),xs[k]?=some x→YieldOk P E l x (Hs k) (Hs (k+1))) →
   AWF Fence.wide P E fn.ntmps c (fun e τ h=>(e=.normal∨e=.ret)∧h=Hs xs.length) (look (pars (.fn (.yield l) [] []::cap) 0)) (Hs 0)):SeqOk P gf cap ok xs:=by
 refine ⟨⟨fn,hf,hname,by rw [hb];rfl⟩,fun E l Hs hds hok hy hw cs hcs hcap=>?_⟩
 have hle:=Nat.le_of_ble_eq_true hn
 have hsz:(#[Value.func (.yield l) #[] #[]]++cs).size=(AV.fn (.yield l) [] []::cap).length:=by simp [hcs,Nat.add_comm]
 refine callsIn_of_wp hf hb True.intro (wpIn_mono (H E l Hs hok hy _ E.w0 ⟨?_,hds.symm,E.G0,hw,fun t=>rep_args hsz (fun j x v hx hv=>?_) t⟩) ?_)
 ·simp only [Array.size_append,Array.size_replicate]
  rw [Array.size_append] at hsz
  simp only [List.length_cons] at hsz
  omega
 ·cases j with
  | zero =>
   have hv':(#[Value.func (.yield l) #[] #[]]++cs)[0]?=some (.func (.yield l) #[] #[]):=by rw [Array.getElem?_append_left (by simp)];rfl
   rw [hv'] at hv
   simp at hx hv
   subst hx;subst hv
   exact .fn _ #[] #[] rfl rfl (fun j x v h=>by simp at h) (fun j x v h=>by simp at h)
  | succ j =>
   have hv':cs[j]?=some v:=by
    rw [Array.getElem?_append_right (by simp)] at hv
    simpa using hv
   exact hcap j x v (by simpa using hx) hv'
 ·rintro e a' w' ⟨τ',h',⟨he,rfl⟩,r1,r2,G',hw',ht⟩
  have fin:a'.defers=[]∧∃ v,(results fn a'.tmps).run P w'=.ok v w'∧((∃ u,Ending.returned v=.returned u)∧∃ G',WRel E G' (Hs xs.length) w'):=by
   obtain ⟨u,hu,_⟩:=resA_run (T:=.lf) (P:=P) ⟨rfl⟩ hw' ht (l:=[]) hrs rfl
   exact ⟨r2.trans hds,u,hu,⟨u,rfl⟩,G',hw'⟩
  rcases he with rfl | rfl
  ·exact fin
  ·exact fin
def marks (Ds:List Nat):List Deferred:=Ds.map fun D=>{ target:=.collected D,args:=#[] }
structure ELe (E E2:Env):Prop where
 conv:∀ G h w,WRel E2 G h w→WRel E G h w
 kle:∀ b,E.K b→E2.K b
 kheap:∀ b,E.K b→E2.w0.heap[b]?=E.w0.heap[b]?
 defs:∃ Ds:List Nat,E2.ds=marks Ds++E.ds∧Ds.Nodup∧∀ D,D∈Ds→E2.w0.heap[D]?=some (.deferred (some []))∧E2.K D∧¬ E.K D
theorem ELe.refl (E:Env):ELe E E:=⟨fun _ _ _ h=>h,fun _ h=>h,fun _ _=>rfl,[],rfl,List.nodup_nil,fun _ h=>by cases h⟩
theorem ELe.trans {A B C:Env} (h:ELe A B) (k:ELe B C):ELe A C:=by
 refine ⟨fun G l w hw=>h.conv _ _ _ (k.conv _ _ _ hw),fun b hb=>k.kle b (h.kle b hb),fun b hb=>(k.kheap b (h.kle b hb)).trans (h.kheap b hb),?_⟩
 obtain ⟨D1,a1,a2,a3⟩:=h.defs
 obtain ⟨D2,b1,b2,b3⟩:=k.defs
 refine ⟨D2++D1,by rw [b1,a1];simp [marks],List.nodup_append.2 ⟨b2,a2,fun x hx y hy e=>?_⟩,fun D hD=>?_⟩
 ·subst e;exact (b3 x hx).2.2 (a3 x hy).2.1
 ·rcases List.mem_append.1 hD with hD | hD
  ·exact ⟨(b3 D hD).1,(b3 D hD).2.1,fun hk=>(b3 D hD).2.2 (h.kle D hk)⟩
  ·obtain ⟨c1,c2,c3⟩:=a3 D hD
   exact ⟨(k.kheap D c2).trans c1,k.kle D c2,c3⟩
def AWx (P:Program) (E:Env) (N:Nat) (c:Code) (Q:Exit→(Nat→AV)→List AObj→Prop) (τ:Nat→AV) (h:List AObj):Prop :=
 ∀ a w,Rel E N τ h a w→c.wp P (fun ex a' w'=>∃ E2,ELe E E2∧∃ τ' h',Q ex τ' h'∧Rel E2 N τ' h' a' w') a w
theorem AWx_of {P:Program} {E:Env} {N:Nat} {c:Code} {Q:Exit→(Nat→AV)→List AObj→Prop} {τ:Nat→AV} {h:List AObj} (hc:AW P E N c Q τ h):AWx P E N c Q τ h :=
 fun a w r=>wp_mono (hc a w r) fun _ _ _ ⟨τ',h',q,r'⟩=>⟨E,ELe.refl E,τ',h',q,r'⟩
theorem AWx_seq {P:Program} {E:Env} {N:Nat} {x y:Code} {Q:Exit→(Nat→AV)→List AObj→Prop} {τ:Nat→AV} {h:List AObj} (hx:AW P E N x (thenA (fun τ h=>AWx P E N y Q τ h) Q) τ h):AWx P E N (.seq x y) Q τ h :=
 fun a w r=>wp_seq (wp_mono (hx a w r) fun e a' w' ⟨τ',h',q,r'⟩=>by
  cases e with
  | normal=>exact q a' w' r'
  | _=>exact ⟨E,ELe.refl E,τ',h',q,r'⟩)
theorem AWx_sub {P:Program} {E:Env} {N:Nat} {c:Code} {Q:Exit→(Nat→AV)→List AObj→Prop} {τ τ':Nat→AV} {h h':List AObj} (hs:∀ a w,Rel E N τ h a w→Rel E N τ' h' a w) (hc:AWx P E N c Q τ' h'):AWx P E N c Q τ h:=fun a w r=>hc a w (hs a w r)
theorem AWx_block {P:Program} {E:Env} {N:Nat} {id:Nat} {c:Code} {Q:Exit→(Nat→AV)→List AObj→Prop} {τ:Nat→AV} {h:List AObj} (hc:AWx P E N c (inBlockA id Q) τ h):AWx P E N (.block id c) Q τ h :=
 fun a w r=>wp_block (wp_mono (hc a w r) fun e a' w' ⟨E2,hE,τ',h',q,r'⟩=>by
  cases e with
  | exit id' =>
   simp only [inBlockA] at q
   by_cases hid:id'=id
   ·subst hid;simp only [Exit.inBlock,if_true]
    have hb:Nat.beq id' id'=true:=Nat.beq_refl id'
    rw [hb] at q;exact ⟨E2,hE,τ',h',q,r'⟩
   ·simp only [Exit.inBlock,hid,if_false]
    have hb:Nat.beq id' id=false:=by
     cases hb:Nat.beq id' id with
     | false=>rfl
     | true=>exact absurd (Nat.eq_of_beq_eq_true hb) hid
    rw [hb] at q;exact ⟨E2,hE,τ',h',q,r'⟩
  | _=>exact ⟨E2,hE,τ',h',q,r'⟩)
end Tdoc
namespace Tdoc
open Go
def shut:List Nat→World→World
 | [],w=>w
 | D::Ds,w=>shut Ds (w.putObj D (.deferred none))
theorem leaves_marks {P:Program} {fn:Func} {tmps:Array Value} {R:Ending→World→Prop}:∀ (Ds:List Nat) (w:World),Ds.Nodup→(∀ D,D∈Ds→w.heap[D]?=some (.deferred (some []))) →
  (∃ v,(results fn tmps).run P (shut Ds w)=.ok v (shut Ds w)∧R (.returned v) (shut Ds w))→LeavesInM Fence.wide 0 P fn tmps R (marks Ds) .returning w
 | [],w,_,_,h=>h
 | D::Ds,w,hn,hd,h=>by
  obtain ⟨n1,n2⟩:=List.nodup_cons.1 hn
  refine ⟨by simp,.inl ⟨D,_,rfl,run_takeDeferred (hd D List.mem_cons_self),leaves_marks Ds _ n2 (fun D' hD'=>?_) h⟩⟩
  have hne:D'≠D:=fun e=>n1 (by rw [← e];exact hD')
  rw [World.putObj_heap_other hne]
  exact hd D' (List.mem_cons_of_mem _ hD')
theorem shut_rel {E:Env} {G:Gh} {h:List AObj}:∀ (Ds:List Nat) (w:World),Ds.Nodup→(∀ D,D∈Ds→w.heap[D]?=some (.deferred (some []))∧G.own D=none∧¬ E.K D)→WRel E G h w→WRel E G h (shut Ds w)
 | [],w,_,_,hw=>hw
 | D::Ds,w,hn,hd,hw=>by
  obtain ⟨n1,n2⟩:=List.nodup_cons.1 hn
  obtain ⟨d1,d2,d3⟩:=hd D List.mem_cons_self
  refine shut_rel Ds _ n2 (fun D' hD'=>?_) (hw.pokeIn (.deferred none) d1 rfl d2 d3)
  obtain ⟨e1,e2,e3⟩:=hd D' (List.mem_cons_of_mem _ hD')
  have hne:D'≠D:=fun e=>n1 (by rw [← e];exact hD')
  exact ⟨by rw [World.putObj_heap_other hne];exact e1,e2,e3⟩
theorem Spec_of_bodyX {P:Program} {T:Tr} (hT:TOk P T) {f:FuncId} {fn:Func} {c:Code} {rs:List ResultVar} {args:List AV} {h:List AObj} {Q:AV→List AObj→Prop} (hf:P.funcs[f]?=some fn) (hb:fn.body=some c)
  (hname:(fn.name == "runtime.NumGoroutine")=false) (hrs:fn.results=rs.toArray) (hn:Nat.ble args.length fn.ntmps=true)
  (H:∀ E:Env,E.below h.length→AWx P E fn.ntmps c (retP T rs h.length Q) (look (pars args 0)) h):Spec P f args h Q:=by
 refine ⟨⟨fn,hf,hname,by rw [hb];rfl⟩,fun G w vals hvs hargs htab hw=>?_⟩
 have hbel:(⟨w,G,htab,[]⟩:Env).below h.length:=fun i hi=>hw.fresh i hi
 have hle:=Nat.le_of_ble_eq_true hn
 refine (callsIn_wide (n:=0)).1 (callsIn_of_wp_marks hf hb True.intro (wpIn_wide.2 (wp_mono (H ⟨w,G,htab,[]⟩ hbel _ w ⟨by simp;omega,rfl,G,hw,fun t=>rep_args hvs hargs t⟩) ?_)))
 rintro e a' w' ⟨E2,hE,τ',h',hq,hr⟩
 have fin:(∃ v r h'',resA T τ' h' rs=some v∧(∀ G x,RepA G v x→RepA G r x)∧h''=h'.take h.length∧h''.length=h.length∧low h.length r=true∧lowH h.length h''=true∧Q r h'') →
   LeavesInM Fence.wide 0 P fn a'.tmps (fun e w'=>∃ v r h' G',e=.returned v∧Q r h'∧h'.length=h.length∧low h.length r=true∧lowH h.length h'=true∧RepA G' r v∧WRel ⟨w,G,htab,[]⟩ G' h' w') a'.defers .returning w':=by
  rintro ⟨v,r,h'',q1,q2,q3,q4,q5,q6,q7⟩
  obtain ⟨r1,r2,G',hw2,ht⟩:=hr
  obtain ⟨Ds,d1,d2,d3⟩:=hE.defs
  rw [r2,d1]
  show LeavesInM Fence.wide 0 P fn a'.tmps _ (marks Ds++[]) .returning w'
  rw [List.append_nil]
  have hD:∀ D,D∈Ds→w'.heap[D]?=some (.deferred (some []))∧G'.own D=none∧¬ (⟨w,G,htab,[]⟩:Env).K D:=fun D hDm=>by
   obtain ⟨e1,e2,e3⟩:=d3 D hDm
   refine ⟨(hw2.keep D e2).trans e1,?_,e3⟩
   cases ho:G'.own D with
   | none=>rfl
   | some i=>exact absurd e2 (hw2.own D i ho).2
  have hw3:=shut_rel Ds w' d2 hD (hE.conv _ _ _ hw2)
  refine leaves_marks Ds w' d2 (fun D hDm=>(hD D hDm).1) ?_
  obtain ⟨u,hu,hru⟩:=resA_run hT hw3 ht hrs q1
  refine ⟨u,hu,u,r,h'',cutG h.length G',rfl,q7,q4,q5,q6,(q2 _ _ hru).cut q5,hw3.cut hbel q4 (fun i hi=>?_) q6⟩
  rw [q3,List.getElem?_take,if_pos hi]
 cases e with
 | normal=>exact fin hq
 | ret=>exact fin hq
 | exit id=>exact hq.elim
 | goto l=>exact hq.elim
 | panic ch=>exact hq.elim
 | outgrown=>exact hq.elim
end Tdoc
namespace Tdoc
open Go
theorem RepD.cutC {m:Addr→Option Value} {sz:Nat} {es:List (List Dat)} {a:Option Addr} {len cap:Nat} (h:RepD m (.sl sz es) (.slice a len cap)) {l r:Nat} (hl:l≤r) (hr:r≤len) :
  RepD m (.sl sz ((es.drop l).take (r-l))) (.slice (if r=l then a else a.map (·.add (l*sz))) (r-l) (r-l)):=by
 cases h with
 | nil =>
  obtain rfl:r=0:=by omega
  obtain rfl:l=0:=by omega
  exact .nil sz
 | sl _ _ p _ vs h1 h2 h3 h4 h5 =>
  have hlen:((es.drop l).take (r-l)).length=r-l:=by simp;omega
  by_cases hc:r=l
  ·have:(es.drop l).take (r-l)=[]:=by
    apply List.eq_nil_of_length_eq_zero;rw [hlen];omega
   rw [if_pos hc,this]
   have h0:r-l=([]:List (List Dat)).length:=by simp;omega
   rw [h0]
   exact .sl sz [] p _ vs h1 (by simp) (fun e he=>by cases he) (fun i e j d he=>by simp at he) (fun i e j d he=>by simp at he)
  ·rw [if_neg hc]
   simp only [Option.map_some]
   rw [show r-l=((es.drop l).take (r-l)).length from hlen.symm]
   rw [show ((es.drop l).take ((es.drop l).take (r-l)).length)=(es.drop l).take (r-l) by rw [hlen]]
   refine .sl sz _ (p.add (l*sz)) _ (fun i=>vs (l*sz+i)) (add_spot p h1 _) (Nat.le_refl _) (fun e he=>h3 e (List.mem_of_mem_drop (List.mem_of_mem_take he))) (fun i e j d he hd=>?_) (fun i e j d he hd=>?_)
   ·simp only [List.getElem?_take,List.getElem?_drop] at he
    split at he
    ·rw [qCx p h1]
     have:=h4 (l+i) e j d he hd
     rwa [show (l+i)*sz+j=l*sz+(i*sz+j) by rw [Nat.add_mul];omega] at this
    ·cases he
   ·simp only [List.getElem?_take,List.getElem?_drop] at he
    split at he
    ·have:=h5 (l+i) e j d he hd
     rwa [show (l+i)*sz+j=l*sz+(i*sz+j) by rw [Nat.add_mul];omega] at this
    ·cases he
theorem cut3_ok {P:Program} {T:Tr} {o:Oper} {ρ:Operand→AV} {v:AV} (hT:TOk P T) {t:Nat} {x lo hi mx:Operand} {sz:Nat} {es:List (List Dat)} {l r:Nat} {k1 k2 k3:IntKind} (ho:o.op=.slice t x (some lo) (some hi) (some mx)) (hs:sliceElem T t sz=true) (hx:ρ x=.d (.sl sz es))
  (hl:ρ lo=.d (.int k1 (l:Int))) (hr':ρ hi=.d (.int k2 (r:Int))) (hm:ρ mx=.d (.int k3 (r:Int))) (hb:l≤r∧r≤es.length) (hv:AV.d (.sl sz ((es.drop l).take (r-l)))=v):OpP P o ρ v:=by
 intro G e w hi' hr
 subst hv
 have hx':RepA G (ρ x) (e x):=hr x (by simp [ho,Op.operands])
 have h1:RepA G (ρ lo) (e lo):=hr lo (by simp [ho,Op.operands])
 have h2:RepA G (ρ hi) (e hi):=hr hi (by simp [ho,Op.operands])
 have h3:RepA G (ρ mx) (e mx):=hr mx (by simp [ho,Op.operands])
 rw [hx] at hx';rw [hl] at h1;rw [hr'] at h2;rw [hm] at h3
 have hxd:RepD G.imm (.sl sz es) (e x):=by cases hx' with | d r=>exact r
 obtain ⟨a,cap,hev,hnil,hsome⟩:=hxd.slice_inv
 have hcap:es.length≤cap:=by
  cases a with
  | none=>have:=hnil rfl;rw [this.1];exact Nat.zero_le _
  | some p=>exact (hsome p rfl).2.1
 rw [hev] at hxd
 have hcut:=hxd.cutC (l:=l) (r:=r) hb.1 hb.2
 obtain ⟨et,ie,g1,g2,g3⟩:=qDo hT hs
 refine ⟨_,?_,.d hcut⟩
 unfold execOp
 simp only [ho,Sem.run_bind,Instr.sliceAt,Instr.slice,hev,h1.int_inv,h2.int_inv,h3.int_inv]
 simp [h1.int_inv,h2.int_inv,h3.int_inv,run_underlying g1,Instr.sliceBounds,g2.run_size,g3,qBf _ _ _ _ (show 0≤(r:Int)∧(r:Int)≤(cap:Int) by omega),qBf _ _ _ _ (show 0≤(r:Int)∧(r:Int)≤((r:Nat):Int) by omega),qBf _ _ _ _ (show 0≤(l:Int)∧(l:Int)≤((r:Nat):Int) by omega)]
end Tdoc
namespace Tdoc
open Go
theorem arrIdxN_ok {P:Program} {T:Tr} {o:Oper} {ρ:Operand→AV} {v:AV} (hT:TOk P T) {t n sz:Nat} {x ix:Operand} {k:IntKind} {j:Int} {cs:List AV} (ho:o.op=.index t x ix) (ht:arrT T t=some (n,sz,true)) (hx:ρ x=.agg cs) (hix:ρ ix=.d (.int k j)) (h0:0≤j∧j < (n:Int))
  (hle:j.toNat*sz+sz≤cs.length) (hv:AV.agg ((cs.drop (j.toNat*sz)).take sz)=v):OpP P o ρ v:=by
 intro G e w hi hr
 subst hv
 have hx':RepA G (ρ x) (e x):=hr x (by simp [ho,Op.operands])
 have hix':RepA G (ρ ix) (e ix):=hr ix (by simp [ho,Op.operands])
 rw [hx] at hx';rw [hix] at hix'
 obtain ⟨et,ie,h1,h2,h3,h4⟩:=arrT_ok hT ht
 generalize hu:e x=u at hx'
 cases hx' with
 | agg us h5 h6 h7 =>
 refine ⟨.agg (us.extract (j.toNat*sz) (j.toNat*sz+sz)),?_,.agg _ ?_ (fun i c y hc hy=>?_) (fun i y hy=>?_)⟩
 ·unfold execOp
  simp only [ho,Sem.run_bind]
  rw [hu,hix'.int_inv]
  simp [Instr.index,asIntOf,run_underlying h1,h0.1,h0.2,h2.run_size,h3,Go.part,h2.run_agg,h4]
 ·simp only [Array.size_extract,List.length_take,List.length_drop];omega
 ·rw [List.getElem?_take] at hc
  split at hc
  ·rename_i hlt
   rw [List.getElem?_drop] at hc
   rw [Array.getElem?_extract] at hy
   split at hy
   ·exact h6 _ c y hc hy
   ·cases hy
  ·cases hc
 ·rw [Array.getElem?_extract] at hy
  split at hy
  ·exact h7 _ y hy
  ·cases hy
theorem qCu {T:Tr} {t off:Nat} {i:TI} {cells vs:List AV} (hf:T.find t=some i) (ha:i.agg=true) (hle:off+i.size≤cells.length) (hv:(cells.drop off).take i.size=vs):loadA T t cells off=some (.agg vs):=by
 unfold loadA
 rw [hf]
 simp only [ha]
 rw [Nat.ble_eq_true_of_le hle,hv]
theorem runeStr_ok {P:Program} {T:Tr} {o:Oper} {ρ:Operand→AV} (hT:TOk P T) {t t2:Nat} {x:Operand} {k k':IntKind} {n:Int} (ho:o.op=.convert t t2 x) (ht:intKindT T t=some k) (ht2:isStrT T t2=true) (hx:ρ x=.d (.int k' n)) (hn:0≤n∧n < 128) :
  OpP P o ρ (.d (.str [UInt8.ofNat n.toNat])):=by
 intro G e w hi hr
 have hx':RepA G (ρ x) (e x):=hr x (by simp [ho,Op.operands])
 rw [hx] at hx'
 refine ⟨.string ⟨#[UInt8.ofNat n.toNat]⟩,?_,.d (.str [UInt8.ofNat n.toNat])⟩
 have hc:Utf8.encode n=⟨#[UInt8.ofNat n.toNat]⟩:=by
  unfold Utf8.encode
  have hv:Utf8.valid n=true:=by unfold Utf8.valid;simp;omega
  rw [hv]
  simp only [if_true]
  rw [if_pos (by omega)]
 unfold execOp
 simp only [ho,Sem.run_bind]
 rw [hx'.int_inv]
 simp [convert,run_underlying (und_of_int hT ht),run_underlying (qCs hT ht2),Conv.intToString,hc]
def noGotoA (Q:Exit→(Nat→AV)→List AObj→Prop):Exit→(Nat→AV)→List AObj→Prop
 | .goto _,_,_=>False
 | e,τ,h=>Q e τ h
theorem AW_scope {P:Program} {E:Env} {N:Nat} {c:Code} {Q:Exit→(Nat→AV)→List AObj→Prop} {τ:Nat→AV} {h:List AObj} (hc:AW P E N c (noGotoA Q) τ h):AW P E N (.scope c) Q τ h :=
 fun a w r=>wp_scope_straight (wp_mono (hc a w r) fun e a' w' ⟨τ',h',q,r'⟩=>by
  cases e with
  | goto l=>exact q.elim
  | _=>exact ⟨τ',h',q,r'⟩)
end Tdoc
namespace Tdoc
open Go
theorem setRun_full {cells cs:List AV} (h:cells.length=cs.length):setRun cells 0 cs=cs:=by
 apply List.ext_getElem?
 intro j
 rw [setRun_at cs cells 0 j (by omega)]
 by_cases hj:j < cs.length
 ·rw [if_pos ⟨by omega,by omega⟩];rfl
 ·rw [if_neg (by omega),List.getElem?_eq_none (by omega),List.getElem?_eq_none (by omega)]
theorem setRun_head {cells cs rest:List AV} (h:cells.length=cs.length):setRun (cells++rest) 0 cs=cs++rest:=by
 apply List.ext_getElem?
 intro j
 rw [setRun_at cs (cells++rest) 0 j (by simp;omega)]
 by_cases hj:j < cs.length
 ·rw [if_pos ⟨by omega,by omega⟩,List.getElem?_append_left hj];rfl
 ·rw [if_neg (by omega),List.getElem?_append_right (by omega),List.getElem?_append_right (by omega),h]
theorem storeA_agg {T:Tr} {t off:Nat} {i:TI} {cells cs cells':List AV} (hf:T.find t=some i) (hsz:cs.length=i.size) (hle:off+i.size≤cells.length) (hr:setRun cells off cs=cells'):storeA T t cells off (.agg cs)=some cells':=by
 unfold storeA
 rw [hf]
 simp only [cellsA]
 rw [hsz,Nat.beq_refl,Nat.ble_eq_true_of_le hle,hr]
 rfl
theorem storeAgg_ok {P:Program} {E:Env} {T:Tr} {o:Oper} {ρ:Operand→AV} {h:List AObj} (hT:TOk P T) {t i off:Nat} {ti:TI} {x y:Operand} {cells cs cells':List AV} (ho:o.op=.store t x y) (hx:ρ x=.ptr i off) (hy:ρ y=.agg cs) (hi:h[i]?=some (.row cells)) (hf:T.find t=some ti) (hsz:cs.length=ti.size)
  (hle:off+ti.size≤cells.length) (hr:setRun cells off cs=cells'):OpS P E o ρ h .any (h.set i (.row cells')) :=
 store_ok hT ho hx hi (by rw [hy];exact storeA_agg hf hsz hle hr)
end Tdoc
namespace Tdoc
open Go
section
variable {P:Program} {E:Env} {T:Tr} {o:Oper} {ρ:Operand→AV} {h h':List AObj} {v:AV}
def rowSlA (T:Tr) (t len:Nat) (parts:List (Nat×AV)):Option (List AV):=match T.find t with
 | some i=>match i.kind with
  | .slice el=>match T.find el with
   | some ie=>match Nat.blt 0 ie.size&&Nat.beq ie.zero.length ie.size&&Nat.blt 0 len&&Nat.ble (len*ie.size) 16777216 with
    | true=>fillA (fun i=>some (i*ie.size,ie.size)) ((List.range (len*ie.size)).map fun k=>(ie.zero[k % ie.size]?).getD .any) parts
    | false=>none
   | none=>none
  | _=>none
 | none=>none
theorem buildRow_run (hT:TOk P T) {t len i0:Nat} {parts:Array (Nat×Operand)} {cells:List AV} (ho:o.op=.buildSlice t len parts) (hv:rowSlA T t len (parts.toList.map fun x=>(x.1,ρ x.2))=some cells) (hroom:h[i0]?=some .room)
  (G:Gh) (e:Operand→Value) (w:World) (hw:WRel E G h w) (hr:∀ x,x∈o.op.operands.toList→RepA G (ρ x) (e x)) :
  ∃ el vs',(execOp e o).run P w=.ok (.value (.slice (some ⟨w.heap.size,0,none⟩) len len)) (w.alloc (.cells vs' el))∧G.le (rowNew G i0 w.heap.size)∧WRel E (rowNew G i0 w.heap.size) (h.set i0 (.row cells)) (w.alloc (.cells vs' el)) ∧
   vs'.size=cells.length∧∀ (j:Nat) (c:AV) (u:Value),cells[j]?=some c→vs'[j]?=some u→RepA G c u∧oneC u=true:=by
  have hp:∀ x,x∈parts.toList→RepA G (ρ x.2) (e x.2):=fun x hx=>hr x.2 (by
   simp only [ho,Op.operands]
   exact List.mem_map_of_mem hx)
  unfold rowSlA at hv
  split at hv
  ·rename_i i hf
   split at hv
   ·rename_i el hk
    obtain ⟨d,hd,hkd⟩:=(hT.at hf).und
    rw [hk] at hkd
    cases d <;> simp [kindOk] at hkd
    subst hkd
    split at hv
    ·rename_i ie hfe
     obtain ⟨einfo,heinfo,hesz,heb,z,hz,hzc⟩:=(hT.at hfe).info
     split at hv
     ·rename_i hb
      simp only [Bool.and_eq_true] at hb
      have hpos:0 < ie.size:=by have:=hb.1.1.1;(simp [Nat.blt] at this;omega)
      have hzlen:=Nat.eq_of_beq_eq_true hb.1.1.2
      have hlen:0 < len:=by have:=hb.1.2;(simp [Nat.blt] at this;omega)
      have hsmall:=Nat.le_of_ble_eq_true hb.2
      obtain ⟨zl,zr⟩:=zrepL_ok hzc
      simp only [Array.length_toList] at zl
      let base:List AV:=(List.range (len*ie.size)).map fun k=>(ie.zero[k % ie.size]?).getD .any
      let basev:Array Value:=(Array.range (len*ie.size)).map (z.cells[· % z.cells.size]!)
      have hbase:CellsRep G base basev:=by
       refine ⟨by simp [base,basev],fun j c u hc hu=>?_⟩
       have hj:j < len*ie.size:=by have:=(List.getElem?_eq_some_iff.1 hc).1;simpa [base] using this
       have hm:j % ie.size < ie.size:=Nat.mod_lt _ hpos
       have hm2:j % ie.size < z.cells.size:=by omega
       simp [base,hj] at hc
       simp [basev,hj] at hu
       subst hc;subst hu
       rw [← zl,hzlen]
       have h1:ie.zero[j % ie.size]?=some ie.zero[j % ie.size]:=by simp [hzlen,hm]
       rw [h1]
       simp only [Option.getD_some]
       have h2:z.cells[j % ie.size]! = z.cells[j % ie.size]:=by simp [hm2]
       rw [h2]
       exact zr G _ _ _ h1 (by simp [hm2])
      obtain ⟨vs',v1,v2⟩:=fillA_ok (e:=e) parts.toList _ _ _ hbase hp hv
      have hn:=hw.newRowAt hroom vs' el cells v2.1 (fun j c u h1 h2=>v2.2 j c u h1 h2) (w.alloc (.cells vs' el)) rfl rfl rfl rfl
      refine ⟨el,vs',?_,hn.1,hn.2,v2.1,v2.2⟩
      have h0:len*ie.size≠0:=by
       have:=Nat.mul_pos hlen hpos
       omega
      unfold execOp
      simp only [ho,Sem.run_bind]
      rw [run_buildSlice w t el len _ vs' einfo z hd heinfo hz (by rw [hesz];omega) (by rw [hesz];exact h0) (by rw [hesz];simpa using v1)]
      rfl
     ·cases hv
    ·cases hv
   ·cases hv
  ·cases hv
theorem qBt (hT:TOk P T) {t len i0:Nat} {parts:Array (Nat×Operand)} {cells:List AV} (ho:o.op=.buildSlice t len parts) (hv:rowSlA T t len (parts.toList.map fun x=>(x.1,ρ x.2))=some cells) (hroom:h[i0]?=some .room) :
  OpS P E o ρ h (.row i0 0 len len) (h.set i0 (.row cells)) :=
 qBi fun G e w hw hr=>by
  obtain ⟨el,vs',h1,h2,h3,_,_⟩:=buildRow_run hT ho hv hroom G e w hw hr
  exact ⟨_,_,_,h1,h2,h3,.row 0 _ _ (by show (if i0=i0 then _ else _)=_;simp)⟩
theorem src_row {G:Gh} {w:World} {i b off n cap sz:Nat} {cells:List AV} (hrow:RowAt G w b cells) (hle:off+n*sz≤cells.length) :
  Src P w (.slice (some ⟨b,off,none⟩) n cap) n sz ((List.range (n*sz)).map fun j=>(w.cell? ⟨b,off+j,none⟩).getD undef):=fun w' hw'=>by
 have hcell:∀ k,k < n*sz→w.cell? ⟨b,off+k,none⟩=some ((w.cell? ⟨b,off+k,none⟩).getD undef):=by
  intro k hk
  have hget:cells[off+k]?=some cells[off+k]:=by simp [show off+k < cells.length by omega]
  obtain ⟨y,y1,_⟩:=hrow _ _ hget
  rw [y1];rfl
 refine ⟨rfl,?_⟩
 simp only [Builtin.firstCells]
 exact run_loadCells (P:=P) w' ⟨b,off,none⟩ _ _ (fun k hk=>by rw [cell?_heap hw',qDb];exact hcell k hk)
theorem appRows_ok (hT:TOk P T) {t t2 sz by_ i1 n i2 m cap2 i0:Nat} {s x:Operand} {c1 c2:List AV} (ho:o.op=.call { callee:=.builtin .append,args:=#[s,x],argTypes:=#[t,t2] })
  (ht:appT T t=some (sz,by_)) (ht2:srcT T t2=true) (hs:ρ s=.row i1 0 n n) (hx:ρ x=.row i2 0 m cap2) (hi1:h[i1]?=some (.row c1)) (hi2:h[i2]?=some (.row c2))
  (hl1:c1.length=n*sz) (hl2:c2.length=m*sz) (hm:0 < m) (hb:(n+m)*(by_+1)≤140737488355328) (hroom:h[i0]?=some .room) :
  OpR P E o ρ h (fun u k=>∃ cap:Nat,n+m≤cap∧u=.row i0 0 (n+m) cap∧k=h.set i0 (.row (c1++c2))):=by
 intro G a w hw hr
 have hs':RepA G (ρ s) (a.eval s):=hr s (by simp [ho,Op.operands,Call.operands])
 have hx':RepA G (ρ x) (a.eval x):=hr x (by simp [ho,Op.operands,Call.operands])
 obtain ⟨et,ie,h1,h2,rfl,rfl,hzl⟩:=appT_ok hT ht
 obtain ⟨d2,h3,h4⟩:=srcT_ok hT ht2
 rw [hs] at hs';rw [hx] at hx'
 obtain ⟨b1,hv1,hlc1⟩:=hs'.row_inv
 obtain ⟨b2,hv2,hlc2⟩:=hx'.row_inv
 obtain ⟨b1',hl1',_,hrow1,_⟩:=hw.obj i1 _ hi1
 rw [hlc1] at hl1';cases hl1'
 obtain ⟨b2',hl2',_,hrow2,_⟩:=hw.obj i2 _ hi2
 rw [hlc2] at hl2';cases hl2'
 have o1:=src_row (P:=P) (i:=i1) (off:=0) (n:=n) (cap:=n) (sz:=ie.size) hrow1 (by omega)
 have o2:=src_row (P:=P) (i:=i2) (off:=0) (n:=m) (cap:=cap2) (sz:=ie.size) hrow2 (by omega)
 have k1:=newsOf (k:=n*ie.size) hrow1 (off:=0) (by omega)
 have k2:=newsOf (k:=m*ie.size) hrow2 (off:=0) (by omega)
 rw [List.drop_zero,← hl1,List.take_length] at k1
 rw [List.drop_zero,← hl2,List.take_length] at k2
 rw [hl1] at k1
 rw [hl2] at k2
 generalize holds:((List.range (n*ie.size)).map fun j=>(w.cell? ⟨b1,0+j,none⟩).getD undef)=olds at o1 k1
 generalize hnews:((List.range (m*ie.size)).map fun j=>(w.cell? ⟨b2,0+j,none⟩).getD undef)=news at o2 k2
 have hol:olds.length=c1.length:=by rw [← holds,hl1];simp
 have hnl:news.length=c2.length:=by rw [← hnews,hl2];simp
 obtain ⟨newCap,rest,w',q1,q2,q3,q4,q5,q6,q7⟩:=qDd (xv:=a.eval x) (ty:=o.type) h1 h3 h4 h2 hv1 (by rw [hv1];exact o1) (by rw [hv2];exact o2) (show n < n+m by omega) hb
 have hn:=hw.newRowAtW hroom (olds.toArray++news.toArray++rest) et (c1++c2) (by simp [hol,hnl]) (fun j c u hc hu=>?_) w' q3 q5 q6 q7
 ·have hex:(execOp a.eval o).run P w=.ok (.value (.slice (some ⟨w.heap.size,0,none⟩) (n+m) newCap)) w':=by
   unfold execOp
   simp [ho,resolve,invoke,builtin,q2]
  unfold Oper.wp
  rw [hex]
  exact ⟨_,rowNew G i0 w.heap.size,.row i0 0 (n+m) newCap,h.set i0 (.row (c1++c2)),⟨newCap,q1,rfl,rfl⟩,rfl,hn.1,hn.2,.row 0 _ _ (by show (if i0=i0 then _ else _)=_;simp)⟩
 ·have hj:=(List.getElem?_eq_some_iff.1 hc).1
  rw [List.length_append] at hj
  rw [Array.getElem?_append_left (by simp;omega)] at hu
  by_cases hjl:j < c1.length
  ·rw [List.getElem?_append_left hjl] at hc
   rw [Array.getElem?_append_left (by simp;omega)] at hu
   exact k1 j c u hc (by simpa using hu)
  ·rw [List.getElem?_append_right (by omega)] at hc
   rw [Array.getElem?_append_right (by simp;omega)] at hu
   exact k2 _ c u hc (by simpa [hol] using hu)
end
end Tdoc
namespace Tdoc
open Go
theorem WRel.reObj {E:Env} {G:Gh} {h:List AObj} {w:World} {i:Nat} {ob ob':AObj} (hw:WRel E G h w) (hi:h[i]?=some ob) (hr:ObjRel G w i ob→ObjRel G w i ob'):WRel E G (h.set i ob') w:=by
 refine ⟨hw.le,hw.imm,hw.immNew,hw.keep,hw.size,hw.os,hw.tape,hw.output,hw.own,fun j hj=>hw.fresh j (by simpa using hj),fun j o hj=>?_⟩
 rw [List.getElem?_set] at hj
 split at hj
 ·rename_i e
  subst e
  split at hj
  ·cases hj;exact hr (hw.obj i ob hi)
  ·cases hj
 ·exact hw.obj j o hj
def cbR (s:List UInt8) (f:Nat→Option Obj) (b:Nat) (S:List Nat):Prop :=
 S=[b]∧∃ (vs:Array Value) (el:TypeId),f b=some (.cells vs el)∧vs.size=s.length∧∀ (j:Nat) (c:UInt8),s[j]?=some c→vs[j]?=some (.int .u8 (c.toNat:Int))
section
variable {P:Program} {E:Env} {T:Tr} {o:Oper} {ρ:Operand→AV} {h h':List AObj} {v:AV}
theorem buildCB_ok (hT:TOk P T) {t len i0:Nat} {parts:Array (Nat×Operand)} {s:List UInt8} (ho:o.op=.buildSlice t len parts) (hv:rowSlA T t len (parts.toList.map fun x=>(x.1,ρ x.2))=some (byteAV s)) (hroom:h[i0]?=some .room) :
  OpS P E o ρ h (.row i0 0 len len) (h.set i0 (.opq (cbR s))):=by
 have hset:(h.set i0 (.row (byteAV s))).set i0 (.opq (cbR s))=h.set i0 (.opq (cbR s)):=List.set_set ..
 refine qBi fun G e w hw hr=>?_
 obtain ⟨el,vs',hrun,hle,hw1,v1,v2⟩:=buildRow_run hT ho hv hroom G e w hw hr
 refine ⟨_,_,_,hrun,hle,?_,.row 0 _ _ (by show (if i0=i0 then _ else _)=_;simp)⟩
 rw [← hset]
 have hlt:i0 < h.length:=(List.getElem?_eq_some_iff.1 hroom).1
 refine hw1.reObj (ob:=.row (byteAV s)) (by simp [hlt]) fun hob=>?_
 obtain ⟨b,h1,h2,h3,h4,h5⟩:=hob
 have hb:b=w.heap.size:=by
  have h1':(if i0=i0 then some w.heap.size else _)=some b:=h1
  simp at h1'
  exact h1'.symm
 subst hb
 refine ⟨w.heap.size,[w.heap.size],h1,List.mem_singleton.2 rfl,h5,fun k hk=>?_,⟨rfl,vs',el,?_,?_,fun j c hc=>?_⟩,fun f g hfg hR=>?_⟩
 ·rw [List.mem_singleton] at hk
  subst hk
  exact ⟨h2,h4⟩
 ·show (w.heap.push _)[w.heap.size]?=_
  exact Array.getElem?_push_size
 ·rw [v1];simp [byteAV]
 ·have hcell:(byteAV s)[j]?=some (.d (.int .u8 (c.toNat:Int))):=by simp [byteAV,hc]
  have hj:j < vs'.size:=by rw [v1];exact (List.getElem?_eq_some_iff.1 hcell).1
  have hu:vs'[j]?=some vs'[j]:=by simp [hj]
  have:=(v2 j _ _ hcell hu).1.int_inv
  rw [hu,this]
 ·obtain ⟨r1,vs2,el2,r2,r3⟩:=hR
  exact ⟨r1,vs2,el2,by rw [← hfg w.heap.size (List.mem_singleton.2 rfl)];exact r2,r3⟩
theorem markCB_ok (hT:TOk P T) {t i0 n:Nat} {x:Operand} {s:List UInt8} (ho:o.op=.convert t t x) (hb:isByteSlice T t=true) (hx:ρ x=.row i0 0 n n) (hi:h[i0]?=some (.opq (cbR s))) (hn:s.length=n) :
  OpS P E o ρ h (.sl 1 (s.map fun c=>[.int .u8 (c.toNat:Int)]) .full) (h.set i0 .dead):=by
 refine qBi fun G e w hw hr=>?_
 have hx':RepA G (ρ x) (e x):=hr x (by simp [ho,Op.operands])
 rw [hx] at hx'
 obtain ⟨b,hv,hlc⟩:=hx'.row_inv
 obtain ⟨b',S,k1,k2,k3,k4,⟨k5,vs,el,k6,k7,k8⟩,_⟩:=hw.obj i0 _ hi
 rw [hlc] at k1
 cases k1
 obtain ⟨kown,kimm⟩:=k4 b k2
 have k6:w.heap[b]?=some (.cells vs el):=k6
 obtain ⟨el',hel1,hel2⟩:=qCt hT hb
 have hbl:b < w.heap.size:=(hw.own b i0 kown).1
 have hsh:w.shape? b=some (el,vs.size):=by
  unfold World.shape?
  rw [k6]
 let w':World:=w.freeze ⟨b,vs.size,none⟩ 1
 have hheap:w'.heap=w.heap.modify b fun
   | .cells c elem (lo,hi)=>.cells c elem (if lo == hi then (vs.size,vs.size+1) else (min lo vs.size,max hi (vs.size+1)))
   | o=>o:=by
  show (w.freeze _ _).heap=_
  unfold World.freeze
  rw [if_neg (by decide)]
  rfl
 have hat:w'.heap[b]?=some (.cells vs el (vs.size,vs.size+1)):=by
  rw [hheap,Array.getElem?_modify]
  simp [k6]
 have hne:∀ k,k≠b→w'.heap[k]?=w.heap[k]?:=fun k hk=>by
  rw [hheap,Array.getElem?_modify,if_neg (fun hh=>hk hh.symm)]
 have hsz:w'.heap.size=w.heap.size:=by rw [hheap];simp
 have hfr:w'.os=w.os∧w'.tape=w.tape∧w'.output=w.output:=by
  show (w.freeze _ _).os=_∧(w.freeze _ _).tape=_∧(w.freeze _ _).output=_
  unfold World.freeze
  rw [if_neg (by decide)]
  exact ⟨rfl,rfl,rfl⟩
 have hcell:∀ a:Addr,a.block=b→w'.cell? a=w.cell? a:=fun a ha=>by
  have h1:w'.heap[a.block]?=some (.cells vs el (vs.size,vs.size+1)):=by rw [ha];exact hat
  have h2:w.heap[a.block]?=some (.cells vs el):=by rw [ha];exact k6
  simp only [World.cell?,h1,h2]
 have hrun:(execOp e o).run P w=.ok (.value (.slice (some ⟨b,0,none⟩) n n)) w':=by
  unfold execOp
  simp only [ho,Sem.run_bind]
  simp [hv,convert,run_underlying hel1,run_underlying hel2,markStringish,hsh]
  rfl
 have hle:G.le (immExt G b n vs):=by
  refine ⟨fun a u ha=>?_,fun _ _ x=>x,fun _ _ _ x=>x,fun _ _ x=>x⟩
  show (if a.block=b then _ else G.imm a)=some u
  rw [if_neg (fun hh=>by rw [kimm a hh] at ha;cases ha)]
  exact ha
 have hrd:∀ (j:Nat) (c:UInt8),s[j]?=some c→(immExt G b n vs).imm ((⟨b,0,none⟩:Addr).add j)=some (.int .u8 (c.toNat:Int)):=fun j c hc=>by
  rw [qDb,Nat.zero_add]
  show (if b=b then (if (none:Option Nat)=none∧j < n then vs[j]? else none) else _)=_
  have hj:j < n:=by rw [← hn];exact (List.getElem?_eq_some_iff.1 hc).1
  simp [hj,k8 j c hc]
 refine ⟨_,w',immExt G b n vs,hrun,hle,?_,.sl ?_ ?_⟩
 ·have hNK:¬ E.K b:=(hw.own b i0 kown).2
  refine ⟨hw.le.trans hle,fun a u ha=>?_,fun a u ha=>?_,fun k hk=>?_,by rw [hsz];exact hw.size,hfr.1.trans hw.os,hfr.2.1.trans hw.tape,hfr.2.2.trans hw.output,fun k i hk=>by rw [hsz];exact hw.own k i hk,fun j hj=>hw.fresh j (by simpa using hj),fun j ob hj=>?_⟩
  ·have ha':(if a.block=b then (if a.spot=none∧a.off < n then vs[a.off]? else none) else G.imm a)=some u:=ha
   split at ha'
   ·rename_i hab
    split at ha'
    ·rename_i hs
     rw [hcell a hab]
     have h2:w.heap[a.block]?=some (.cells vs el):=by rw [hab];exact k6
     simp only [World.cell?,h2,hs.1]
     simpa using ha'
    ·cases ha'
   ·rename_i hab
    rw [World.cell?_of_block (w:=w) (hne _ hab)]
    exact hw.imm a u ha'
  ·have ha':(if a.block=b then (if a.spot=none∧a.off < n then vs[a.off]? else none) else G.imm a)=some u:=ha
   split at ha'
   ·rename_i hab;right;rw [hab];exact hNK
   ·exact hw.immNew a u ha'
  ·rw [hne k (fun hh=>hNK (hh▸hk))]
   exact hw.keep k hk
  ·rw [List.getElem?_set] at hj
   split at hj
   ·rename_i e
    subst e
    split at hj
    ·cases hj;trivial
    ·cases hj
   ·rename_i hij
    refine (hw.obj j ob hj).keep hle (fun k hk=>?_) (fun m hm=>hm) (fun hm=>hm)
    have hkb:k≠b:=fun hh=>by rw [hh,kown] at hk;cases hk;exact hij rfl
    refine ⟨hne k hkb,fun a ha=>?_⟩
    show (if a.block=b then _ else G.imm a)=G.imm a
    rw [if_neg (by rw [ha];exact hkb)]
 ·have hl:n=(s.map fun c=>[Dat.int .u8 (c.toNat:Int)]).length:=by simp [hn]
  rw [hl]
  refine .sl 1 _ ⟨b,0,none⟩ _ (fun j=>vs.getD j undef) rfl (Nat.le_refl _) (fun e he=>?_) (fun i e j d he hd=>?_) (fun i e j d he hd=>?_)
  ·obtain ⟨c,_,rfl⟩:=List.mem_map.1 he
   rfl
  ·simp only [List.getElem?_map,Option.map_eq_some_iff] at he
   obtain ⟨c,hc,rfl⟩:=he
   cases j with
   | succ j=>simp at hd
   | zero =>
    rw [← hl,Nat.mul_one,Nat.add_zero,hrd i c hc]
    simp [Array.getD_eq_getD_getElem?,k8 i c hc]
  ·simp only [List.getElem?_map,Option.map_eq_some_iff] at he
   obtain ⟨c,hc,rfl⟩:=he
   cases j with
   | succ j=>simp at hd
   | zero =>
    simp at hd
    subst hd
    rw [Nat.mul_one,Nat.add_zero]
    simp only [Array.getD_eq_getD_getElem?,k8 i c hc,Option.getD_some]
    exact .int _ _
 ·exact ⟨some ⟨b,0,none⟩,by simp [hn]⟩
end
end Tdoc
namespace Tdoc
open Go
def flatV:Dat→Value
 | .int k n=>.int k n
 | .bool b=>.bool b
 | .str s=>.string ⟨s.toArray⟩
 | .sl _ _=>.nilFunc
def isFlat:Dat→Bool
 | .sl _ _=>false
 | _=>true
theorem rep_flat {m:Addr→Option Value} {d:Dat} (h:isFlat d=true):RepD m d (flatV d):=by
 cases d with
 | int k n=>exact .int k n
 | bool b=>exact .bool b
 | str s=>exact .str s
 | sl _ _=>cases h
theorem flat_of {m:Addr→Option Value} {d:Dat} {v:Value} (h:isFlat d=true) (r:RepD m d v):v=flatV d:=by
 cases r with
 | int k n=>rfl
 | bool b=>rfl
 | str s=>rfl
 | nil=>cases h
 | sl=>cases h
theorem flatV_inj {a b:Dat} (ha:isFlat a=true) (hb:isFlat b=true) (h:flatV a=flatV b):a=b:=by
 cases a <;> cases b <;> simp [flatV] at h <;> first | (obtain ⟨rfl,rfl⟩:=h;rfl) | (subst h;rfl) | cases ha | cases hb | skip
structure MapIs (A:List (Dat×Dat)) (es:Array MapEntry) (clock:Nat):Prop where
 st:MapKept.Stamped es clock
 fwd:∀ e,e∈es.toList→∃ p,p∈A∧e.key=flatV p.1∧e.val=flatV p.2
 bwd:∀ p,p∈A→∃ e,e∈es.toList∧e.key=flatV p.1∧e.val=flatV p.2
def mapR (A:List (Dat×Dat)) (f:Nat→Option Obj) (b:Nat) (S:List Nat):Prop:=S=[b]∧∃ es clock,f b=some (.map es clock)∧MapIs A es clock
def mapC (bm:Nat) (es:Array MapEntry) (clock:Nat) (f:Nat→Option Obj) (b:Nat) (S:List Nat):Prop:=S=[b]∧b=bm∧f b=some (.map es clock)
def iterC (bm since:Nat) (seen:Array Nat) (last:Nat) (f:Nat→Option Obj) (b:Nat) (S:List Nat):Prop:=S=[b]∧f b=some (.mapIter (some bm) since seen last)
theorem mapR_loc {A:List (Dat×Dat)} {b:Nat} (f g:Nat→Option Obj) (h:∀ k,k∈[b]→f k=g k) (hr:mapR A f b [b]):mapR A g b [b]:=by
 obtain ⟨h1,es,c,h2,h3⟩:=hr
 exact ⟨h1,es,c,by rw [← h b (List.mem_singleton.2 rfl)];exact h2,h3⟩
theorem mapC_loc {bm clock:Nat} {es:Array MapEntry} {b:Nat} (f g:Nat→Option Obj) (h:∀ k,k∈[b]→f k=g k) (hr:mapC bm es clock f b [b]):mapC bm es clock g b [b] :=
 ⟨hr.1,hr.2.1,by rw [← h b (List.mem_singleton.2 rfl)];exact hr.2.2⟩
theorem iterC_loc {bm since last:Nat} {seen:Array Nat} {b:Nat} (f g:Nat→Option Obj) (h:∀ k,k∈[b]→f k=g k) (hr:iterC bm since seen last f b [b]):iterC bm since seen last g b [b] :=
 ⟨hr.1,by rw [← h b (List.mem_singleton.2 rfl)];exact hr.2⟩
theorem WRel.newOpqAt {E:Env} {G:Gh} {h:List AObj} {w:World} {i0:Nat} (hw:WRel E G h w) (hroom:h[i0]?=some .room) (ob:Obj) (R:(Nat→Option Obj)→Nat→List Nat→Prop) (w':World) (hh:w'.heap=w.heap.push ob) (ho:w'.os=w.os) (ht:w'.tape=w.tape) (hout:w'.output=w.output)
  (hR:∀ f:Nat→Option Obj,f w.heap.size=some ob→R f w.heap.size [w.heap.size]) (hloc:∀ (b:Nat) (f g:Nat→Option Obj),(∀ k,k∈[b]→f k=g k)→R f b [b]→R g b [b]) :
  G.le (rowNew G i0 w.heap.size)∧WRel E (rowNew G i0 w.heap.size) (h.set i0 (.opq R)) w':=by
 have hf:=hw.obj i0 _ hroom
 have hi0:i0 < h.length:=(List.getElem?_eq_some_iff.1 hroom).1
 have hown:G.own w.heap.size=none:=by
  cases ho:G.own w.heap.size with
  | none=>rfl
  | some i=>have:=(hw.own _ _ ho).1;omega
 have hle:G.le (rowNew G i0 w.heap.size):=by
  refine ⟨fun _ _ x=>x,fun i b x=>?_,fun _ _ _ x=>x,fun b i x=>?_⟩
  ·show (if i=i0 then some w.heap.size else G.loc i)=some b
   split
   ·rename_i e;subst e;rw [hf.1] at x;cases x
   ·exact x
  ·show (if b=w.heap.size then some i0 else G.own b)=some i
   split
   ·rename_i e;subst e;rw [hown] at x;cases x
   ·exact x
 have hK:¬ E.K w.heap.size:=fun hk=>by have:=hw.size;have:=hk.1;omega
 have hnew:w'.heap[w.heap.size]?=some ob:=by rw [hh];exact Array.getElem?_push_size
 refine ⟨hle,hw.le.trans hle,fun a v ha=>?_,hw.immNew,fun b hb=>?_,by rw [hh];simp;have:=hw.size;omega,ho.trans hw.os,ht.trans hw.tape,hout.trans hw.output,fun b i hb=>?_,fun i hi=>?_,fun i ob' hi=>?_⟩
 ·have hc:=hw.imm a v ha
  rw [World.cell?_of_block (w:=w) (by rw [hh];exact qAv _ _ _ (World.block_lt_of_cell? _ _ hc))]
  exact hc
 ·rw [hh,qAv _ _ _ (Nat.lt_of_lt_of_le hb.1 hw.size)];exact hw.keep b hb
 ·have hb':(if b=w.heap.size then some i0 else G.own b)=some i:=hb
  split at hb'
  ·rename_i e;subst e;exact ⟨by rw [hh];simp,hK⟩
  ·have:=hw.own b i hb';exact ⟨by rw [hh];simp;omega,this.2⟩
 ·simp only [List.length_set] at hi
  have:=hw.fresh i (by omega)
  refine ⟨?_,this.2⟩
  show (if i=i0 then some w.heap.size else G.loc i)=none
  rw [if_neg (by omega)];exact this.1
 ·rw [List.getElem?_set] at hi
  by_cases hie:i0=i
  ·subst hie
   simp only [if_true,hi0] at hi
   cases hi
   refine ⟨w.heap.size,[w.heap.size],?_,List.mem_singleton.2 rfl,fun n=>hf.2 n,fun k hk=>?_,hR _ hnew,hloc _⟩
   ·show (if i0=i0 then _ else _)=_;simp
   ·rw [List.mem_singleton] at hk
    subst hk
    refine ⟨?_,fun a ha=>?_⟩
    ·show (if w.heap.size=w.heap.size then _ else _)=_;simp
    ·cases hg:G.imm a with
     | none=>exact hg
     | some v=>have:=World.block_lt_of_cell? _ _ (hw.imm a v hg);omega
  ·rw [if_neg hie] at hi
   refine (hw.obj i ob' hi).keep hle (fun b hb=>?_) (fun n hn=>hn) (fun hn=>by show (if i=i0 then _ else G.loc i)=none;rw [if_neg (fun e=>hie e.symm)];exact hn)
   exact ⟨by rw [hh];exact qAv _ _ _ (hw.own b i hb).1,fun a ha=>rfl⟩
theorem WRel.setOpq {E:Env} {G:Gh} {h:List AObj} {w:World} {i b:Nat} {o':Obj} {R R':(Nat→Option Obj)→Nat→List Nat→Prop} (hw:WRel E G h w) (hi:h[i]?=some (.opq R)) (hl:G.loc i=some b) (hown:G.own b=some i) (himm:∀ a:Addr,a.block=b→G.imm a=none)
  (hb:b < w.heap.size) (w':World) (hh:w'.heap=w.heap.setIfInBounds b o') (ho:w'.os=w.os) (ht:w'.tape=w.tape) (hout:w'.output=w.output)
  (hR:∀ f:Nat→Option Obj,f b=some o'→R' f b [b]) (hloc:∀ (b:Nat) (f g:Nat→Option Obj),(∀ k,k∈[b]→f k=g k)→R' f b [b]→R' g b [b]):WRel E G (h.set i (.opq R')) w':=by
 have hat:w'.heap[b]?=some o':=by rw [hh];simp [hb]
 have hne:∀ k,k≠b→w'.heap[k]?=w.heap[k]?:=fun k hk=>by rw [hh];simp [Ne.symm hk]
 have hsz:w'.heap.size=w.heap.size:=by rw [hh];simp
 have hNK:¬ E.K b:=(hw.own b i hown).2
 refine ⟨hw.le,fun a u ha=>?_,hw.immNew,fun k hk=>?_,by rw [hsz];exact hw.size,ho.trans hw.os,ht.trans hw.tape,hout.trans hw.output,fun k j hk=>by rw [hsz];exact hw.own k j hk,fun j hj=>hw.fresh j (by simpa using hj),fun j ob hj=>?_⟩
 ·have hab:a.block≠b:=fun hh=>by rw [himm a hh] at ha;cases ha
  rw [World.cell?_of_block (w:=w) (hne _ hab)]
  exact hw.imm a u ha
 ·rw [hne k (fun hh=>hNK (hh▸hk))]
  exact hw.keep k hk
 ·rw [List.getElem?_set] at hj
  split at hj
  ·rename_i e
   subst e
   split at hj
   ·cases hj
    obtain ⟨b',S,k1,k2,k3,k4,_,_⟩:=hw.obj i _ hi
    rw [hl] at k1
    cases k1
    exact ⟨b,[b],hl,List.mem_singleton.2 rfl,k3,fun k hk=>by rw [List.mem_singleton] at hk;subst hk;exact ⟨hown,himm⟩,hR _ hat,hloc b⟩
   ·cases hj
  ·rename_i hij
   refine (hw.obj j ob hj).keep (.refl G) (fun k hk=>?_) (fun m hm=>hm) (fun hm=>hm)
   have hkb:k≠b:=fun hh=>by rw [hh,hown] at hk;cases hk;exact hij rfl
   exact ⟨hne k hkb,fun a ha=>rfl⟩
section
variable {P:Program} {E:Env} {T:Tr} {o:Oper} {ρ:Operand→AV} {h h':List AObj} {v:AV}
theorem RepA.mp_inv {G:Gh} {v:Value} {i:Nat} (h:RepA G (.mp i) v):∃ b,v=.map (some b)∧G.loc i=some b:=by cases h with | mp r=>exact ⟨_,rfl,r⟩
theorem RepA.ptr_inv0 {G:Gh} {v:Value} {i:Nat} (h:RepA G (.ptr i 0) v):∃ b,v=.pointer (some ⟨b,0,none⟩)∧G.loc i=some b:=by cases h with | ptr _ r=>exact ⟨_,rfl,r⟩
theorem makeMap_ok {t m:Nat} (ho:o.op=.makeMap t none) (hroom:h[m]?=some .room):OpS P E o ρ h (.mp m) (h.set m (.opq (mapR []))) :=
 qBi fun G e w hw hr=>by
  have hn:=hw.newOpqAt hroom (.map #[] 0) (mapR []) (w.alloc (.map #[] 0)) rfl rfl rfl rfl (fun f hf=>⟨rfl,#[],0,hf,MapKept.stamped_empty 0,fun e he=>by simp at he,fun p hp=>by cases hp⟩) (fun b f g=>mapR_loc f g)
  refine ⟨.map (some w.heap.size),_,_,?_,hn.1,hn.2,.mp (by show (if m=m then _ else _)=_;simp)⟩
  unfold execOp
  simp [ho,Instr.makeMap]
theorem insert_ok {t kt et m:Nat} {x kx vx:Operand} {A:List (Dat×Dat)} {k v:Dat} {d:TypeDesc} (ho:o.op=.insert t x kx vx) (ht:P.underlying t=some (.map kt et)) (hd:P.underlying kt=some d) (hx:ρ x=.mp m) (hk:ρ kx=.d k) (hv:ρ vx=.d v)
  (hi:h[m]?=some (.opq (mapR A))) (hkf:isFlat k=true) (hvf:isFlat v=true) (hkey:∀ p,p∈(k,v)::A→MapKept.IsKey d (flatV p.1)∧isFlat p.1=true) (hnew:∀ p,p∈A→p.1≠k):OpS P E o ρ h .any (h.set m (.opq (mapR ((k,v)::A)))) :=
 OpS_of_skip fun G e w hw hr=>by
  have hx':RepA G (ρ x) (e x):=hr x (by simp [ho,Op.operands])
  have hk':RepA G (ρ kx) (e kx):=hr kx (by simp [ho,Op.operands])
  have hv':RepA G (ρ vx) (e vx):=hr vx (by simp [ho,Op.operands])
  rw [hx] at hx';rw [hk] at hk';rw [hv] at hv'
  obtain ⟨b,hxv,hlb⟩:=hx'.mp_inv
  have hkv:e kx=flatV k:=by
   generalize e kx=u at hk'
   cases hk' with
   | d r=>exact flat_of hkf r
  have hvv:e vx=flatV v:=by
   generalize e vx=u at hv'
   cases hv' with
   | d r=>exact flat_of hvf r
  obtain ⟨b',S,k1,k2,k3,k4,⟨k5,es,clock,k6,k7⟩,_⟩:=hw.obj m _ hi
  rw [hlb] at k1
  cases k1
  have k6:w.heap[b]?=some (.map es clock):=k6
  obtain ⟨kown,kimm⟩:=k4 b k2
  have hbl:b < w.heap.size:=(hw.own b m kown).1
  have hkk:=(hkey (k,v) List.mem_cons_self).1
  have hks:∀ x,x∈es.toList→MapKept.IsKey d x.key:=fun y hy=>by
   obtain ⟨p,hp,h1,_⟩:=k7.fwd y hy
   rw [h1]
   exact (hkey p (List.mem_cons_of_mem _ hp)).1
  have hne:∀ x,x∈es.toList→x.key≠flatV k:=fun y hy hh=>by
   obtain ⟨p,hp,h1,_⟩:=k7.fwd y hy
   rw [h1] at hh
   exact hnew p hp (flatV_inj (hkey p (List.mem_cons_of_mem _ hp)).2 hkf hh)
  have hfind:Instr.findNow d (flatV k) es.toList 0=some none:=by
   rcases MapKept.findNow_spec hkk es.toList 0 hks with ⟨h1,_⟩ | ⟨j,e',_,h2,h3⟩
   ·exact h1
   ·exact absurd h3 (hne e' (List.mem_of_getElem? h2))
  refine ⟨{ w with heap:=w.heap.setIfInBounds b (.map (es.push { key:=flatV k,val:=flatV v,born:=clock }) (clock+1)) },G,?_,.refl G,
   hw.setOpq hi hlb kown kimm hbl _ rfl rfl rfl rfl (fun f hf=>⟨rfl,_,_,hf,MapKept.stamped_push k7.st hne,fun y hy=>?_,fun p hp=>?_⟩) (fun b f g=>mapR_loc f g)⟩
  ·unfold execOp
   simp [ho,hxv,hkv,hvv,Instr.mapUpdate,run_underlying ht,MapKept.run_getObj_map k6,MapKept.run_checkKey hd hkk,MapKept.run_findKey hd hfind,MapKept.run_setObj_map _ k6,Result.andThen]
  ·simp only [Array.toList_push,List.mem_append,List.mem_singleton] at hy
   rcases hy with hy | rfl
   ·obtain ⟨p,hp,h1,h2⟩:=k7.fwd y hy
    exact ⟨p,List.mem_cons_of_mem _ hp,h1,h2⟩
   ·exact ⟨(k,v),List.mem_cons_self,rfl,rfl⟩
  ·rcases List.mem_cons.1 hp with rfl | hp
   ·exact ⟨{ key:=flatV k,val:=flatV v,born:=clock },by simp,rfl,rfl⟩
   ·obtain ⟨y,hy,h1,h2⟩:=k7.bwd p hp
    exact ⟨y,by simp [hy],h1,h2⟩
theorem range_ok {t kt et m it:Nat} {x:Operand} {A:List (Dat×Dat)} (ho:o.op=.range t x) (ht:P.underlying t=some (.map kt et)) (hx:ρ x=.mp m) (hi:h[m]?=some (.opq (mapR A))) (hroom:h[it]?=some .room) :
  OpR P E o ρ h (fun u k=>∃ y:Nat×Array MapEntry×Nat,MapIs A y.2.1 y.2.2∧u=.ptr it 0∧k=(h.set m (.opq (mapC y.1 y.2.1 y.2.2))).set it (.opq (iterC y.1 y.2.2 #[] y.2.2))):=by
 intro G a w hw hr
 have hx':RepA G (ρ x) (a.eval x):=hr x (by simp [ho,Op.operands])
 rw [hx] at hx'
 obtain ⟨b,hxv,hlb⟩:=hx'.mp_inv
 obtain ⟨b',S,k1,k2,k3,k4,⟨k5,es,clock,k6,k7⟩,_⟩:=hw.obj m _ hi
 rw [hlb] at k1
 cases k1
 have k6:w.heap[b]?=some (.map es clock):=k6
 subst k5
 have hne:m≠it:=fun hh=>by rw [hh,hroom] at hi;cases hi
 have hw1:WRel E G (h.set m (.opq (mapC b es clock))) w:=hw.reObj hi fun hob=>by
  exact ⟨b,[b],hlb,List.mem_singleton.2 rfl,k3,k4,⟨rfl,rfl,k6⟩,fun f g=>mapC_loc f g⟩
 have hroom':(h.set m (.opq (mapC b es clock)))[it]?=some .room:=by rw [List.getElem?_set_ne hne];exact hroom
 have hn:=hw1.newOpqAt hroom' (.mapIter (some b) clock #[] clock) (iterC b clock #[] clock) (w.alloc (.mapIter (some b) clock #[] clock)) rfl rfl rfl rfl (fun f hf=>⟨rfl,hf⟩) (fun b f g=>iterC_loc f g)
 have hrun:=run_range_map (P:=P) w t kt et b es clock ht k6
 have hex:(execOp a.eval o).run P w=.ok (.value (.pointer (some ⟨w.heap.size,0,none⟩))) (w.alloc (.mapIter (some b) clock #[] clock)):=by
  unfold execOp
  simp [ho,hxv,hrun]
 unfold Oper.wp
 rw [hex]
 exact ⟨_,rowNew G it w.heap.size,.ptr it 0,_,⟨(b,es,clock),k7,rfl,rfl⟩,rfl,hn.1,hn.2,.ptr 0 (by show (if it=it then _ else _)=_;simp)⟩
end
end Tdoc
namespace Tdoc
open Go
section
variable {P:Program} {E:Env} {N:Nat} {ops:Array Oper} {M:Array Bool→AObj} {m L:Nat} {rd wr:Nat→List Nat}
def Closed (ops:Array Oper) (listed:Array Bool):Prop:=∀ i o,ops[i]?=some o→listed.getD i false=true→∀ e∈o.after,Region.binds .any e=true→listed.getD e.on false=true
theorem Closed.set {listed:Array Bool} {i:Nat} (h:Closed ops listed) (hi:i∈Region.ready .any ops listed):Closed ops (listed.setIfInBounds i true):=by
 intro j o ho hj e he hb
 by_cases hji:i=j
 ·subst hji
  obtain ⟨_,o',ho',hall⟩:=mem_ready.1 hi
  rw [ho] at ho';cases ho'
  exact getD_set_true (hall e he hb)
 ·rw [getD_set_ne false hji] at hj
  exact getD_set_true (h j o ho hj e he hb)
theorem listed_tf {listed:Array Bool} {i:Nat} (h:listed.getD i true=false):listed.getD i false=false:=by
 rcases Nat.lt_or_ge i listed.size with h' | h'
 ·simp [h'] at h ⊢;exact h
 ·simp [Array.getElem?_eq_none h'] at h
def SM (P:Program) (E:Env) (N:Nat) (ops:Array Oper) (M:Array Bool→AObj) (m:Nat) (rd wr:Nat→List Nat) (i:Nat) (o:Oper) (τ:Nat→AV) (h:List AObj) (v:AV) (os:List AObj):Prop :=
 ∀ (listed:Array Bool) (k:List AObj),Closed ops listed→i∈Region.ready .any ops listed→k.length=h.length→(∀ j,j∈rd i→k[j]?=h[j]?) →
  StepR P E N ops o τ (k.set m (M listed)) (fun a b=>a=v∧b=(updH k (wr i) os).set m (M (listed.setIfInBounds i true)))
theorem SM.congr {i:Nat} {o:Oper} {τ τ':Nat→AV} {h h' os:List AObj} {v:AV} (hc:∀ d,d∈o.looksAt ops→τ' d=τ d) (hl:h'.length=h.length) (hh:∀ j,j∈rd i→h'[j]?=h[j]?)
  (H:SM P E N ops M m rd wr i o τ h v os):SM P E N ops M m rd wr i o τ' h' v os :=
 fun listed k h0 h1 h2 h3=>StepR_congr hc (H listed k h0 h1 (h2.trans hl) fun j hj=>(h3 j hj).trans (hh j hj))
def lastM (P:Program) (E:Env) (N:Nat) (ops:Array Oper) (M:Array Bool→AObj) (m L:Nat) (Q:(Nat→AV)→List AObj→Prop) (listed:Array Bool) (τ:Nat→AV) (h:List AObj):Prop :=
 Region.ready .any ops listed=[L]∧Region.ready .any ops (listed.setIfInBounds L true)=[]∧∃ o R,ops[L]?=some o∧StepR P E N ops o τ (h.set m (M listed)) R∧∀ v h',R v h'→Q (putA τ o.dst v) h'
def anyM (P:Program) (E:Env) (N:Nat) (ops:Array Oper) (M:Array Bool→AObj) (m L:Nat) (rd wr:Nat→List Nat) (Q:(Nat→AV)→List AObj→Prop):Nat→Array Bool→(Nat→AV)→List AObj→Prop
 | 0,listed,τ,h=>lastM P E N ops M m L Q listed τ h
 | fuel+1,listed,τ,h=>Region.ready .any ops listed≠[]∧∀ i,i∈Region.ready .any ops listed→i≠L∧∃ o v os,ops[i]?=some o∧SM P E N ops M m rd wr i o τ h v os ∧
   anyM P E N ops M m L rd wr Q fuel (listed.setIfInBounds i true) (putA τ o.dst v) (updH h (wr i) os)
theorem anyM_sound {Q:Exit→(Nat→AV)→List AObj→Prop}:∀ (fuel:Nat) (listed:Array Bool) (τ:Nat→AV) (h:List AObj) (a:Act) (w:World),Closed ops listed→anyM P E N ops M m L rd wr (Q .normal) fuel listed τ h→Rel E N τ (h.set m (M listed)) a w →
  wpAny P .any ops (fun ex a' w'=>∃ τ' h',Q ex τ' h'∧Rel E N τ' h' a' w') (fuel+1) listed a w
 | 0,listed,τ,h,a,w,hc,⟨h1,h2,o,R,ho,hs,hk⟩,hr=>by
  refine ⟨fun h0=>(by rw [h1] at h0;cases h0),fun i hi=>?_⟩
  rw [h1,List.mem_singleton] at hi
  subst hi
  exact step_sound ho hs hr fun v h' a' w' hR hrel=>⟨h2,_,h',hk v h' hR,hrel⟩
 | fuel+1,listed,τ,h,a,w,hc,⟨h1,h2⟩,hr=>by
  refine ⟨fun h0=>absurd h0 h1,fun i hi=>?_⟩
  obtain ⟨_,o,v,os,ho,hsm,hk⟩:=h2 i hi
  exact step_sound ho (hsm listed h hc hi rfl fun _ _=>rfl) hr fun v' h'' a' w' ⟨e1,e2⟩ hrel=>by
   subst e1;subst e2
   exact anyM_sound fuel _ _ _ a' w' (hc.set hi) hk hrel
theorem anyM_first {Q:(Nat→AV)→List AObj→Prop} {i:Nat} {oi:Oper} {v:AV} {osi:List AObj} (hi:ops[i]?=some oi) (hiL:i≠L) (hL:∀ listed,Closed ops listed→L∈Region.ready .any ops listed→listed.getD i false=true) :
  ∀ (fuel:Nat) (listed:Array Bool) (τ:Nat→AV) (h:List AObj),Closed ops listed →
  (∀ j oj,ops[j]?=some oj→j≠i→listed.getD j true=false→(∀ e∈oj.after,Region.binds .any e=true→e.on≠i)→oi.apart ops oj=true∧conf rd wr i j=false) →
  i∈Region.ready .any ops listed→SM P E N ops M m rd wr i oi τ h v osi→anyM P E N ops M m L rd wr Q fuel (listed.setIfInBounds i true) (putA τ oi.dst v) (updH h (wr i) osi)→anyM P E N ops M m L rd wr Q (fuel+1) listed τ h:=by
 have noL:∀ (listed:Array Bool) (j:Nat),Closed ops listed→i∈Region.ready .any ops listed→j∈Region.ready .any ops listed→j≠L:=fun listed j hc hr hj hjL=>by
  subst hjL
  have h1:=hL listed hc hj
  rw [listed_tf (mem_ready.1 hr).1] at h1
  cases h1
 intro fuel
 induction fuel with
 | zero =>
  intro listed τ h hcl _ hr hy H
  refine ⟨fun h0=>(by rw [h0] at hr;cases hr),fun j hj=>⟨noL listed j hcl hr hj,?_⟩⟩
  by_cases hji:j=i
  ·subst hji;exact ⟨oi,v,osi,hi,hy,H⟩
  ·have h1:=ready_mono hj hji
   rw [H.1,List.mem_singleton] at h1
   exact absurd h1 (noL listed j hcl hr hj)
 | succ fuel ih =>
  intro listed τ h hcl hfree hr hy H
  refine ⟨fun h0=>(by rw [h0] at hr;cases hr),fun j hj=>⟨noL listed j hcl hr hj,?_⟩⟩
  by_cases hji:j=i
  ·subst hji;exact ⟨oi,v,osi,hi,hy,H⟩
  ·obtain ⟨_,oj,vj,osj,hoj,hsj,hk⟩:=H.2 j (ready_mono hj hji)
   obtain ⟨hjun,oj',hoj',hall⟩:=mem_ready.1 hj
   rw [hoj] at hoj';cases hoj'
   have hnot:∀ e∈oj.after,Region.binds .any e=true→e.on≠i:=fun e he hb heq=>by
    have h1:=hall e he hb
    rw [heq,listed_tf (mem_ready.1 hr).1] at h1
    cases h1
   obtain ⟨hap,hcf⟩:=hfree j oj hoj hji hjun hnot
   obtain ⟨a1,a2,a3⟩:=Oper.apart_spec hap
   simp only [conf,Bool.or_eq_false_iff] at hcf
   obtain ⟨⟨f1,f2⟩,f3⟩:=hcf
   have f1:=meets_not f1
   have f2:=meets_not f2
   have f3:=meets_not f3
   have cj:∀ d,d∈oj.looksAt ops→τ d=putA τ oi.dst v d:=fun d hd=>(putA_other fun e he hh=>a1 e he (hh▸hd)).symm
   have ci:∀ u d,d∈oi.looksAt ops→putA τ oj.dst u d=τ d:=fun u d hd=>putA_other fun e he hh=>a3 e he (hh▸hd)
   have hfree':∀ k ok,ops[k]?=some ok→k≠i→(listed.setIfInBounds j true).getD k true=false→(∀ e∈ok.after,Region.binds .any e=true→e.on≠i)→oi.apart ops ok=true∧conf rd wr i k=false:=fun k ok hk' hki hun hno=>by
    refine hfree k ok hk' hki ?_ hno
    by_cases hjk:j=k
    ·subst hjk;exact hjun
    ·rw [getD_set_ne true hjk] at hun;exact hun
   refine ⟨oj,vj,osj,hoj,hsj.congr cj (by rw [qDi]) (fun x hx=>(updH_other _ _ _ _ (fun hw=>f1 x hw hx)).symm),ih _ _ _ (hcl.set hj) hfree' (ready_mono hr (Ne.symm hji)) (hy.congr (ci vj) (by rw [qDi]) (fun x hx=>updH_other _ _ _ _ (fun hw=>f3 x hw hx))) ?_⟩
   rw [Array.setIfInBounds_comm _ _ hji,← putA_comm a2,← updH_comm _ _ _ _ _ f2]
   exact hk
def AWdM (P:Program) (E:Env) (N:Nat) (ops:List Oper) (M:Array Bool→AObj) (m L:Nat) (rd wr:Nat→List Nat) (Q:(Nat→AV)→List AObj→Prop):List Oper→Nat→(Nat→AV)→List AObj→Prop
 | [],_,τ,h=>∃ o R,ops[L]?=some o∧(∀ listed,(∀ i,i < L→listed.getD i false=true)→StepR P E N ops.toArray o τ (h.set m (M listed)) R)∧∀ v h',R v h'→Q (putA τ o.dst v) h'
 | o::rest,i,τ,h=>∃ v os,SM P E N ops.toArray M m rd wr i o τ h v os∧AWdM P E N ops M m L rd wr Q rest (i+1) (putA τ o.dst v) (updH h (wr i) os)
def lexM (ops:Array Oper) (rd wr:Nat→List Nat) (L:Nat):Nat→Nat→Array Bool→Bool
 | 0,_,listed=>(Region.ready .any ops listed == [L])&&(Region.ready .any ops (listed.setIfInBounds L true)).isEmpty&&(List.range L).all fun i=>listed.getD i false
 | fuel+1,k,listed=>(Region.ready .any ops listed).contains k&&freeD ops rd wr listed k&&!Nat.beq k L&&lexM ops rd wr L fuel (k+1) (listed.setIfInBounds k true)
def lastOk (ops:Array Oper) (L L':Nat):Bool:=match ops[L]?,ops[L']? with
 | some o,some o'=>o.after.any (fun e=>Region.binds .any e&&Nat.beq e.on L')&&(List.range ops.size).all fun k=>Nat.beq k L||Nat.beq k L'||o'.after.any fun e=>Region.binds .any e&&Nat.beq e.on k
 | _,_=>false
theorem lastOk_spec {L':Nat} (h:lastOk ops L L'=true) {i:Nat} {oi:Oper} (hi:ops[i]?=some oi) (hiL:i≠L) (listed:Array Bool) (hc:Closed ops listed) (hr:L∈Region.ready .any ops listed):listed.getD i false=true:=by
 unfold lastOk at h
 split at h
 ·rename_i o o' ho ho'
  simp only [Bool.and_eq_true,List.all_eq_true,List.mem_range] at h
  obtain ⟨h1,h2⟩:=h
  obtain ⟨e,he,hb⟩:=Array.any_eq_true'.1 h1
  simp only [Bool.and_eq_true] at hb
  obtain ⟨_,o2,ho2,hall⟩:=mem_ready.1 hr
  rw [ho] at ho2;cases ho2
  have hl:=hall e he hb.1
  rw [Nat.eq_of_beq_eq_true hb.2] at hl
  have h3:=h2 i (Array.getElem?_eq_some_iff.1 hi).1
  simp only [Bool.or_eq_true] at h3
  rcases h3 with (h3 | h3) | h3
  ·exact absurd (Nat.eq_of_beq_eq_true h3) hiL
  ·rw [Nat.eq_of_beq_eq_true h3];exact hl
  ·obtain ⟨e2,he2,hb2⟩:=Array.any_eq_true'.1 h3
   simp only [Bool.and_eq_true] at hb2
   have:=hc L' o' ho' hl e2 he2 hb2.1
   rw [Nat.eq_of_beq_eq_true hb2.2] at this
   exact this
 ·cases h
theorem AWdM_any {ops:List Oper} {Q:(Nat→AV)→List AObj→Prop} {L':Nat} (hlast:lastOk ops.toArray L L'=true):∀ (l:List Oper) (k:Nat) (listed:Array Bool) (τ:Nat→AV) (h:List AObj),(∀ j,j < l.length→l[j]?=ops[k+j]?)→Closed ops.toArray listed →
  lexM ops.toArray rd wr L l.length k listed=true→AWdM P E N ops M m L rd wr Q l k τ h→anyM P E N ops.toArray M m L rd wr Q l.length listed τ h
 | [],_,listed,τ,h,_,_,hB,⟨o,R,ho,hs,hk⟩=>by
  simp only [List.length_nil,lexM,Bool.and_eq_true,List.all_eq_true,List.mem_range,beq_iff_eq] at hB
  exact ⟨hB.1.1,by simpa using hB.1.2,o,R,by simpa using ho,hs listed hB.2,hk⟩
 | o::l,k,listed,τ,h,hl,hc,hB,H=>by
  have h0:ops.toArray[k]?=some o:=by simpa using (hl 0 (by simp)).symm
  simp only [List.length_cons,lexM,Bool.and_eq_true,Bool.not_eq_true'] at hB
  obtain ⟨⟨⟨hr,hf⟩,hkL⟩,hB'⟩:=hB
  have hr':k∈Region.ready .any ops.toArray listed:=by simpa using hr
  have hkL':k≠L:=fun hh=>by rw [hh] at hkL;simp at hkL
  obtain ⟨v,os,hs,hk⟩:=H
  exact anyM_first h0 hkL' (fun listed hcl hrL=>lastOk_spec hlast h0 hkL' listed hcl hrL) l.length listed τ h hc (freeD_spec h0 hf) hr' hs
   (AWdM_any hlast l (k+1) _ _ _ (fun j hj=>by have:=hl (j+1) (by simp only [List.length_cons];omega);simpa [Nat.add_assoc,Nat.add_comm 1 j] using this) (hc.set hr') hB' hk)
theorem AW_drawM {id:Nat} (M:Array Bool→AObj) (m L L':Nat) (rd wr:Nat→List Nat) {ops:List Oper} {Q:Exit→(Nat→AV)→List AObj→Prop} {τ:Nat→AV} {h:List AObj} (hm:P.follows .mixedOrders=true) (hlen:ops.length=L+1)
  (hB:lexM ops.toArray rd wr L L 0 (Array.replicate ops.length false)=true) (hlast:lastOk ops.toArray L L'=true) (h0:h.set m (M (Array.replicate ops.length false))=h) (H:AWdM P E N ops M m L rd wr (Q .normal) (ops.take L) 0 τ h) :
  AW P E N (.region id ops.toArray true) Q τ h:=by
 intro a w hr
 refine wp_region_any hm ?_
 have hll:(ops.take L).length=L:=by simp [hlen]
 have h1:=AWdM_any (P:=P) (E:=E) (N:=N) (M:=M) (m:=m) (rd:=rd) (wr:=wr) hlast (ops.take L) 0 (Array.replicate ops.length false) τ h (fun j hj=>by rw [hll] at hj;simp [List.getElem?_take,hj]) (fun i o _ hi=>by
  rcases Nat.lt_or_ge i ops.length with h' | h'
  ·simp [h'] at hi
  ·simp [Array.getElem?_eq_none (show (Array.replicate ops.length false).size≤i by simpa using h')] at hi) (by rw [hll];exact hB) H
 have h2:=anyM_sound (Q:=Q) _ _ _ _ a _ (fun i o _ hi=>by
  rcases Nat.lt_or_ge i ops.length with h' | h'
  ·simp [h'] at hi
  ·simp [Array.getElem?_eq_none (show (Array.replicate ops.length false).size≤i by simpa using h')] at hi) h1 (by rw [h0];exact hr.drew)
 rw [hll] at h2
 simpa [hlen] using h2
theorem qAy {ops:List Oper} {Q:(Nat→AV)→List AObj→Prop} {o:Oper} {rest:List Oper} {i:Nat} {τ:Nat→AV} {h:List AObj} (hr:m∉rd i) (hw:m∉wr i) (hM:∀ listed:Array Bool,M (listed.setIfInBounds i true)=M listed)
  (H:AWd P E N ops rd wr (fun τ' h'=>AWdM P E N ops M m L rd wr Q rest (i+1) τ' h') [o] i τ h):AWdM P E N ops M m L rd wr Q (o::rest) i τ h:=by
 obtain ⟨v,os,hs,hk⟩:=H
 refine ⟨v,os,fun listed k hc hi hl hh=>?_,hk⟩
 have h1:=hs (k.set m (M listed)) (by simpa using hl) (fun j hj=>by rw [List.getElem?_set_ne (fun hh=>hr (by rw [hh];exact hj))];exact hh j hj)
 have e:updH (k.set m (M listed)) (wr i) os=(updH k (wr i) os).set m (M listed):=updH_comm [m] (wr i) [M listed] os k (fun x hx=>by rw [List.mem_singleton] at hx;subst hx;exact hw)
 rw [e] at h1
 rw [hM listed]
 exact h1
def selM (ins:List (Nat×Dat×Dat)) (listed:Array Bool):List (Dat×Dat):=(ins.filter fun x=>listed.getD x.1 false).map Prod.snd
def mapM (i0:Nat) (ins:List (Nat×Dat×Dat)) (listed:Array Bool):AObj:=bif listed.getD i0 false then .opq (mapR (selM ins listed)) else .room
theorem qAj {i0:Nat} {ins:List (Nat×Dat×Dat)} {i:Nat} (h:(!Nat.beq i i0&&ins.all fun x=>!Nat.beq x.1 i)=true) (listed:Array Bool):mapM i0 ins (listed.setIfInBounds i true)=mapM i0 ins listed:=by
 simp only [Bool.and_eq_true,Bool.not_eq_true',List.all_eq_true] at h
 have e1:selM ins (listed.setIfInBounds i true)=selM ins listed:=by
  unfold selM
  congr 1
  refine List.filter_congr fun x hx=>?_
  have:=h.2 x hx
  exact getD_set_ne false (fun hh=>by rw [hh] at this;simp at this)
 unfold mapM
 rw [e1,getD_set_ne false (fun hh=>by rw [hh] at h;simp at h)]
theorem MapIs.congr {A B:List (Dat×Dat)} {es:Array MapEntry} {c:Nat} (h:∀ p,p∈A↔p∈B) (H:MapIs A es c):MapIs B es c :=
 ⟨H.st,fun e he=>by obtain ⟨p,hp,k⟩:=H.fwd e he;exact ⟨p,(h p).1 hp,k⟩,fun p hp=>H.bwd p ((h p).2 hp)⟩
theorem mapR_congr {A B:List (Dat×Dat)} (h:∀ p,p∈A↔p∈B):mapR A=mapR B:=by
 funext f b S
 refine propext ⟨fun ⟨h1,es,c,h2,h3⟩=>⟨h1,es,c,h2,h3.congr h⟩,fun ⟨h1,es,c,h2,h3⟩=>⟨h1,es,c,h2,h3.congr fun p=>(h p).symm⟩⟩
theorem StepR_none {dst:Option Tmp} {op:Op} {ty:TypeId} {pos:String} {after:Array Edge} {τ:Nat→AV} {h:List AObj} {v:AV} {h':List AObj} (hd:dstOk N ⟨dst,op,ty,pos,after,none⟩=true) (hs:OpS P E ⟨dst,op,ty,pos,after,none⟩ (ev τ) h v h') :
  StepR P E N ops ⟨dst,op,ty,pos,after,none⟩ τ h (fun a b=>a=v∧b=h'):=⟨hd,qDa hs⟩
def insDep (ops:Array Oper) (i0:Nat) (ins:List (Nat×Dat×Dat)):Bool:=ins.all fun x=>match ops[x.1]? with
 | some o=>o.after.any fun e=>Region.binds .any e&&Nat.beq e.on i0
 | none=>false
theorem AWm_make {T:Tr} (hT:TOk P T) {ops:List Oper} {Q:(Nat→AV)→List AObj→Prop} {rest:List Oper} {i d t:Nat} {ty:TypeId} {pos:String} {after:Array Edge} {ins:List (Nat×Dat×Dat)} {l:List (Nat×AV)} {h:List AObj} (hd:Nat.blt d N=true)
  (hdep:insDep ops.toArray i ins=true) (hlt:i < ops.length) (hm:m < h.length) (hw:wr i=[])
  (H:AWdM P E N ops (mapM i ins) m L rd wr Q rest (i+1) (look ((d,.mp m)::l)) h):AWdM P E N ops (mapM i ins) m L rd wr Q (⟨some d,.makeMap t none,ty,pos,after,none⟩::rest) i (look l) h:=by
 refine ⟨.mp m,[],fun listed k hc hi hl hh=>?_,by rw [hw,updH_nil];exact H⟩
 have hun:=listed_tf (mem_ready.1 hi).1
 have hsz:i < listed.size:=by
  rcases Nat.lt_or_ge i listed.size with h' | h'
  ·exact h'
  ·have:=(mem_ready.1 hi).1;simp [Array.getElem?_eq_none h'] at this
 have e0:mapM i ins listed=.room:=by unfold mapM;rw [hun];rfl
 have e1:mapM i ins (listed.setIfInBounds i true)=.opq (mapR []):=by
  have hs:selM ins (listed.setIfInBounds i true)=[]:=by
   unfold selM
   rw [List.map_eq_nil_iff,List.filter_eq_nil_iff]
   intro x hx hlx
   unfold insDep at hdep
   rw [List.all_eq_true] at hdep
   have h1:=hdep x hx
   split at h1
   ·rename_i o ho
    obtain ⟨e,he,hb⟩:=Array.any_eq_true'.1 h1
    simp only [Bool.and_eq_true] at hb
    have hxi:x.1≠i∨x.1=i:=by omega
    rcases hxi with hxi | hxi
    ·rw [getD_set_ne false (Ne.symm hxi)] at hlx
     have h2:=hc x.1 o ho hlx e he hb.1
     rw [Nat.eq_of_beq_eq_true hb.2,hun] at h2
     cases h2
    ·obtain ⟨_,o2,ho2,hall⟩:=mem_ready.1 hi
     rw [hxi] at ho
     rw [ho] at ho2;cases ho2
     have h2:=hall e he hb.1
     rw [Nat.eq_of_beq_eq_true hb.2,hun] at h2
     cases h2
   ·cases h1
  unfold mapM
  rw [hs]
  simp [hsz]
 rw [e0,e1,hw,updH_nil]
 have hroom:(k.set m .room)[m]?=some .room:=by simp [hl,hm]
 have:=makeMap_ok (P:=P) (E:=E) (o:=⟨some d,.makeMap t none,ty,pos,after,none⟩) (ρ:=ev (look l)) (h:=k.set m .room) (t:=t) (m:=m) rfl hroom
 rw [List.set_set] at this
 exact StepR_none hd this
theorem AWm_insert {T:Tr} (hT:TOk P T) {ops:List Oper} {Q:(Nat→AV)→List AObj→Prop} {rest:List Oper} {i i0 t kt et:Nat} {x kx vx:Operand} {ty:TypeId} {pos:String} {after:Array Edge} {ins:List (Nat×Dat×Dat)} {l:List (Nat×AV)} {h:List AObj} {kk:IntKind} {n:Int} {s:List UInt8}
  (ht:P.underlying t=some (.map kt et)) (hkt:P.underlying kt=some (.int kk)) (hx:ev (look l) x=.mp m) (hk:ev (look l) kx=.d (.int kk n)) (hv:ev (look l) vx=.d (.str s)) (hin:(i,.int kk n,.str s)∈ins)
  (hall:∀ x∈ins,(∃ z u,x.2=(.int kk z,.str u))∧(x.1≠i→x.2.1≠.int kk n)) (hsame:∀ x∈ins,x.1=i→x.2=(.int kk n,.str s)) (hm:m < h.length) (hw:wr i=[]) (hni:i≠i0) (haft:after.any (fun e=>Region.binds .any e&&Nat.beq e.on i0)=true) (hop:ops[i]?=some ⟨none,.insert t x kx vx,ty,pos,after,none⟩)
  (H:AWdM P E N ops (mapM i0 ins) m L rd wr Q rest (i+1) (look l) h):AWdM P E N ops (mapM i0 ins) m L rd wr Q (⟨none,.insert t x kx vx,ty,pos,after,none⟩::rest) i (look l) h:=by
 refine ⟨.any,[],fun listed k hc hi hl hh=>?_,by rw [hw,updH_nil];exact H⟩
 obtain ⟨hun0,o2,ho2,hrdy⟩:=mem_ready.1 hi
 have hun:=listed_tf hun0
 have hsz:i < listed.size:=by
  rcases Nat.lt_or_ge i listed.size with h' | h'
  ·exact h'
  ·simp [Array.getElem?_eq_none h'] at hun0
 have ho2':o2=⟨none,.insert t x kx vx,ty,pos,after,none⟩:=by
  have:ops.toArray[i]?=ops[i]?:=by simp
  rw [this,hop] at ho2
  exact (Option.some.inj ho2).symm
 subst ho2'
 obtain ⟨e,he,hb⟩:=Array.any_eq_true'.1 haft
 simp only [Bool.and_eq_true] at hb
 have hl0:=hrdy e he hb.1
 rw [Nat.eq_of_beq_eq_true hb.2] at hl0
 have e0:mapM i0 ins listed=.opq (mapR (selM ins listed)):=by unfold mapM;rw [hl0];rfl
 have hmem:∀ p,p∈(Dat.int kk n,Dat.str s)::selM ins listed↔p∈selM ins (listed.setIfInBounds i true):=fun p=>by
  unfold selM
  simp only [List.mem_cons,List.mem_map,List.mem_filter]
  constructor
  ·rintro (rfl | ⟨y,⟨hy,hly⟩,rfl⟩)
   ·exact ⟨_,⟨hin,by simp [hsz]⟩,rfl⟩
   ·exact ⟨y,⟨hy,getD_set_true hly⟩,rfl⟩
  ·rintro ⟨y,⟨hy,hly⟩,rfl⟩
   by_cases hyi:y.1=i
   ·exact .inl (hsame y hy hyi)
   ·rw [getD_set_ne false (Ne.symm hyi)] at hly
    exact .inr ⟨y,⟨hy,hly⟩,rfl⟩
 have e1:mapM i0 ins (listed.setIfInBounds i true)=.opq (mapR ((.int kk n,.str s)::selM ins listed)):=by
  unfold mapM
  rw [getD_set_ne false hni,hl0,mapR_congr hmem];rfl
 rw [e0,e1,hw,updH_nil]
 have hi':(k.set m (.opq (mapR (selM ins listed))))[m]?=some (.opq (mapR (selM ins listed))):=by simp [hl,hm]
 have hkey:∀ p,p∈(Dat.int kk n,Dat.str s)::selM ins listed→MapKept.IsKey (.int kk) (flatV p.1)∧isFlat p.1=true:=fun p hp=>by
  rcases List.mem_cons.1 hp with rfl | hp
  ·exact ⟨rfl,rfl⟩
  ·unfold selM at hp
   obtain ⟨y,hy,rfl⟩:=List.mem_map.1 hp
   obtain ⟨z,u,hz⟩:=(hall y (List.mem_filter.1 hy).1).1
   rw [hz]
   exact ⟨rfl,rfl⟩
 have hnew:∀ p,p∈selM ins listed→p.1≠Dat.int kk n:=fun p hp=>by
  unfold selM at hp
  obtain ⟨y,hy,rfl⟩:=List.mem_map.1 hp
  obtain ⟨hy1,hy2⟩:=List.mem_filter.1 hy
  refine (hall y hy1).2 fun hh=>?_
  rw [hh,hun] at hy2
  cases hy2
 have:=insert_ok (P:=P) (E:=E) (o:=⟨none,.insert t x kx vx,ty,pos,after,none⟩) (ρ:=ev (look l)) (h:=k.set m (.opq (mapR (selM ins listed)))) rfl ht hkt hx hk hv hi' rfl rfl hkey hnew
 rw [List.set_set] at this
 exact StepR_none rfl this
end
end Tdoc
namespace Tdoc
open Go
section
variable {P:Program} {T:Tr} {E:Env} {o:Oper} {ρ:Operand→AV} {h h':List AObj}
theorem bufStoreN (hT:TOk P T) {t i n off sz:Nat} {ti:TI} {x y:Operand} {cells cs:List AV} {vy:AV} (ho:o.op=.store t x y) (hx:ρ x=.bp i n off) (hyv:ρ y=vy) (hcs:cellsA vy=some cs) (hi:h[i]?=some (.buf sz n cells)) (hf:T.find t=some ti)
  (hlen:Nat.beq cs.length ti.size=true) (hpos:0 < cs.length) (hlt:off+cs.length≤cells.length) (hh:h.set i (.buf sz n (setRun cells off cs))=h'):OpS P E o ρ h .any h':=by
 subst hyv;subst hh
 exact OpS_of_skip fun G e w hw hr=>by
  have hx':RepA G (ρ x) (e x):=hr x (by simp [ho,Op.operands])
  have hy':RepA G (ρ y) (e y):=hr y (by simp [ho,Op.operands])
  rw [hx] at hx'
  obtain ⟨p,cap,hp,hl⟩:=hx'.bp_inv
  obtain ⟨a',cap',hl',hlater,hb1,hb2,hb3,hb4⟩:=hw.obj i _ hi
  rw [hl] at hl';cases hl'
  have hcap:0 < cap:=by
   rcases Nat.eq_zero_or_pos cap with h0 | h0
   ·have:n=0:=by omega
    subst this;rw [Nat.zero_mul] at hb1;omega
   ·exact h0
  obtain ⟨q1,q2,q3,q4⟩:=hb4 p rfl hcap
  have hcs':n*sz≤cap*sz:=Nat.mul_le_mul_right _ hb2
  obtain ⟨c1,c2⟩:=cellsA_ok hy' hcs
  have hti:=hT.at hf
  have hl2:=Nat.eq_of_beq_eq_true hlen
  have hspot:(p.add off).spot=none:=add_spot p q1 _
  have hadd:∀ k,(p.add off).add (0+k)=p.add (off+k):=fun k=>by rw [Nat.zero_add,qCx p q1]
  have hnl:(e y).cells.toList.length=cs.length:=by simp [c1]
  obtain ⟨w',r1,r2,r3,r4,r5,r6,r7,r8,r9⟩:=store_spare (P:=P) hspot (e y).cells.toList 0 w (fun k u hk=>by
    have hkl:k < cs.length:=by rw [← hnl];exact (List.getElem?_eq_some_iff.1 hk).1
    exact (c2 k _ u (List.getElem?_eq_getElem hkl) (by simpa using hk)).2) (fun k hk=>by
    obtain ⟨d1,d2,_⟩:=q4 (off+k) (by omega)
    rw [hadd]
    exact ⟨d1,d2⟩)
  have hne:∀ j,(∀ k,k < cs.length→j≠off+k)→w'.cell? (p.add j)=w.cell? (p.add j):=fun j hj=>r3 _ (fun k hk hh=>by
   rw [hadd,qCk p q1,qCk p q1] at hh
   injection hh with _ h5 _
   exact hj k (by omega) (by omega))
  refine ⟨w',G,?_,.refl G,hw.bufAt (bl:=p.block) hi (.refl G) (fun _=>rfl) (fun _=>rfl) (fun _=>rfl) (fun _ _ _=>rfl) q2 (fun a u hu=>?_) (fun k hk=>r5 k (by rw [qCq];exact hk)) r6 r7 r8 r9 ?_⟩
  ·unfold execOp
   have hsz':(e y).cells.size=ti.size:=by rw [c1,hl2]
   simp [ho,Instr.storeAt,hp,Instr.sureAddr,storeVar,hti.run_size,hsz',r1]
  ·rw [r3 a (fun k hk hh=>?_)]
   ·exact hw.imm a u hu
   ·rw [hadd] at hh
    have:=(q4 (off+k) (by omega)).2.2
    rw [← hh,hu] at this;cases this
  ·refine ⟨some p,cap,hl,hlater,by rw [setRun_length];exact hb1,hb2,hb3,fun p' hp' _=>?_⟩
   cases hp'
   refine ⟨q1,q2,fun j c hj=>?_,fun j hj=>?_⟩
   ·rw [setRun_at _ _ _ _ hlt] at hj
    by_cases hjo:off≤j∧j < off+cs.length
    ·rw [if_pos hjo] at hj
     have hkl:j-off < (e y).cells.toList.length:=by omega
     have hg:=List.getElem?_eq_getElem hkl
     have:=r2 (j-off) _ hg
     rw [hadd,show off+(j-off)=j by omega] at this
     have hc:=c2 (j-off) c _ hj (by rw [← Array.getElem?_toList];exact hg)
     exact ⟨_,this,hc.2,hc.1⟩
    ·rw [if_neg hjo] at hj
     obtain ⟨u,u1,u2,u3⟩:=q3 j c hj
     exact ⟨u,by rw [hne j (fun k hk=>by omega)];exact u1,u2,u3⟩
   ·obtain ⟨⟨u,d1⟩,d2,d3⟩:=q4 j hj
    refine ⟨?_,by rw [r4];exact d2,d3⟩
    by_cases hjo:off≤j∧j < off+cs.length
    ·have hkl:j-off < (e y).cells.toList.length:=by omega
     have:=r2 (j-off) _ (List.getElem?_eq_getElem hkl)
     rw [hadd,show off+(j-off)=j by omega] at this
     exact ⟨_,this⟩
    ·exact ⟨u,by rw [hne j (fun k hk=>by omega)];exact d1⟩
end
end Tdoc
namespace Tdoc
open Go
section
variable {P:Program} {T:Tr} {E:Env} {o:Oper} {ρ:Operand→AV} {h:List AObj} {v:AV}
open Classical in
theorem bufApp0G_ok (hT:TOk P T) {t t2 sz by_ i m:Nat} {s x:Operand} {cs2:List AV} (ho:o.op=.call { callee:=.builtin .append,args:=#[s,x],argTypes:=#[t,t2] })
  (ht:appT T t=some (sz,by_)) (ht2:srcT T t2=true) (hs:ρ s=.sl sz [] .full∨ρ s=.nils) (hsx:s≠x) (hi:h[i]?=some .room) (hl2:cs2.length=m*sz)
  (hsrc:∀ (G:Gh) (xv:Value) (w:World),WRel E G (h.set i (.buf sz 0 [])) w→RepA G (ρ x) xv→∃ news,Src P w xv m sz news∧news.length=m*sz∧(∀ (k:Nat) (u:Value),news[k]?=some u→oneC u=true)∧∀ (j:Nat) (c:AV),cs2[j]?=some c→∃ u,news[j]?=some u∧RepA G c u) (hb:m*(by_+1)≤140737488355328) :
  OpS P E o ρ h (.bm i m) (h.set i (.buf sz m cs2)):=by
 intro G a w hw hr
 have hs':RepA G (ρ s) (a.eval s):=hr s (by simp [ho,Op.operands,Call.operands])
 obtain ⟨p,hv',hsp⟩:∃ p:Option Addr,a.eval s=.slice p 0 0∧∀ q,p=some q→q.spot=none:=by
  rcases hs with ht | ht
  ·rw [ht] at hs'
   generalize a.eval s=u at hs'
   cases hs' with
   | sl r k =>
    obtain ⟨p,rfl⟩:=k
    obtain ⟨a',cap',h5,h6,h7⟩:=r.slice_inv
    cases h5
    exact ⟨p,rfl,fun q hq=>(h7 q hq).1⟩
  ·rw [ht] at hs'
   generalize a.eval s=u at hs'
   cases hs';exact ⟨none,rfl,fun q hq=>by cases hq⟩
 have hrm:=hw.obj i _ hi
 have hilt:i < h.length:=(List.getElem?_eq_some_iff.1 hi).1
 have hle:=rtSet_le (G:=G) (i:=i) (n:=0) (x:=(p,0)) (hrm.2 0)
 have hw1:WRel E (rtSet G i 0 (p,0)) (h.set i (.buf sz 0 [])) w:=by
  refine ⟨hw.le.trans hle,hw.imm,hw.immNew,hw.keep,hw.size,hw.os,hw.tape,hw.output,hw.own,fun j hj=>?_,fun j o hj=>?_⟩
  ·simp only [List.length_set] at hj
   have:=hw.fresh j hj
   exact ⟨this.1,fun n=>by rw [rtSet_ne (by omega)];exact this.2 n⟩
  ·rw [List.getElem?_set] at hj
   by_cases hij:i=j
   ·subst hij
    simp only [if_true,hilt] at hj
    cases hj
    exact ⟨p,0,rtSet_at _ _ _ _,fun n' hn'=>by rw [rtSet_ne (by omega)];exact hrm.2 n',by simp,Nat.le_refl _,⟨fun _=>rfl,hsp⟩,fun _ _ hc=>by omega⟩
   ·rw [if_neg hij] at hj
    exact (hw.obj j o hj).keep hle (fun b hb=>⟨rfl,fun _ _=>rfl⟩) (fun n hn=>by rw [rtSet_ne (fun hc=>hij hc.1.symm)];exact hn) (fun hn=>hn)
 have hstep:=bufAppG_ok (P:=P) (E:=E) (T:=T) (o:=o) (ρ:=fun y=>if y=s then .bm i 0 else ρ y) (h:=h.set i (.buf sz 0 [])) (i:=i) (n:=0) (cells:=[]) hT ho ht ht2 (if_pos rfl) (by simp [hilt])
  hl2 (by show ∀ G xv w,_→RepA G (if x=s then _ else ρ x) xv→_;rw [if_neg (fun hh=>hsx hh.symm)];exact hsrc) (by simpa using hb)
 have:=hstep (rtSet G i 0 (p,0)) a w hw1 (fun y hy=>by
  show RepA _ (if y=s then _ else ρ y) _
  split
  ·rename_i e;subst e;rw [hv'];exact .bm _ _ (rtSet_at _ _ _ _) (fun _=>rfl)
  ·exact (hr y hy).mono hle)
 refine wp_mono2 ?_ this
 rintro a' w' ⟨u,G',k1,k2,k3,k4⟩
 refine ⟨u,G',k1,hle.trans k2,?_,by simpa using k4⟩
 rw [List.set_set] at k3
 simpa using k3
end
end Tdoc
namespace Tdoc
open Go
section
variable {P:Program} {E:Env} {T:Tr} {o:Oper} {ρ:Operand→AV} {h h':List AObj} {v:AV}
theorem row_src {G:Gh} {xv:Value} {w:World} {h:List AObj} {i2 m cap2 sz:Nat} {cs2:List AV} (hw:WRel E G h w) (hr:RepA G (.row i2 0 m cap2) xv) (hi2:h[i2]?=some (.row cs2)) (hl2:cs2.length=m*sz) :
  ∃ news,Src P w xv m sz news∧news.length=m*sz∧(∀ (k:Nat) (u:Value),news[k]?=some u→oneC u=true)∧∀ (j:Nat) (c:AV),cs2[j]?=some c→∃ u,news[j]?=some u∧RepA G c u:=by
 obtain ⟨b,hv,hl⟩:=hr.row_inv
 obtain ⟨b',hl',_,hrow,_⟩:=hw.obj i2 _ hi2
 rw [hl] at hl';cases hl'
 have o2:=src_row (P:=P) (i:=i2) (off:=0) (n:=m) (cap:=cap2) (sz:=sz) hrow (by omega)
 have k2:=newsOf (k:=m*sz) hrow (off:=0) (by omega)
 rw [List.drop_zero,← hl2,List.take_length] at k2
 rw [hl2] at k2
 generalize hnews:((List.range (m*sz)).map fun j=>(w.cell? ⟨b,0+j,none⟩).getD undef)=news at o2 k2
 have hnl:news.length=cs2.length:=by rw [← hnews,hl2];simp
 subst hv
 refine ⟨news,o2,by omega,fun k u hu=>?_,fun j c hj=>?_⟩
 ·have hk:k < cs2.length:=by have:=(List.getElem?_eq_some_iff.1 hu).1;omega
  exact (k2 k cs2[k] u (by simp [hk]) hu).2
 ·have hk:j < news.length:=by have:=(List.getElem?_eq_some_iff.1 hj).1;omega
  exact ⟨news[j],by simp [hk],(k2 j c news[j] hj (by simp [hk])).1⟩
theorem bufAppRow_ok (hT:TOk P T) {t t2 sz by_ i n i2 m cap2:Nat} {s x:Operand} {cells cs2:List AV} (ho:o.op=.call { callee:=.builtin .append,args:=#[s,x],argTypes:=#[t,t2] })
  (ht:appT T t=some (sz,by_)) (ht2:srcT T t2=true) (hs:ρ s=.bm i n) (hi:h[i]?=some (.buf sz n cells)) (hx:ρ x=.row i2 0 m cap2) (hi2:h[i2]?=some (.row cs2)) (hl2:cs2.length=m*sz)
  (hb:(n+m)*(by_+1)≤140737488355328):OpS P E o ρ h (.bm i (n+m)) (h.set i (.buf sz (n+m) (cells++cs2))) :=
 bufAppG_ok hT ho ht ht2 hs hi hl2 (fun G xv w hw hr=>row_src hw (by rw [← hx];exact hr) hi2 hl2) hb
theorem bufAppRow0_ok (hT:TOk P T) {t t2 sz by_ i i2 m cap2:Nat} {s x:Operand} {cs2:List AV} (ho:o.op=.call { callee:=.builtin .append,args:=#[s,x],argTypes:=#[t,t2] })
  (ht:appT T t=some (sz,by_)) (ht2:srcT T t2=true) (hs:ρ s=.sl sz [] .full∨ρ s=.nils) (hsx:s≠x) (hi:h[i]?=some .room) (hx:ρ x=.row i2 0 m cap2) (hi2:h[i2]?=some (.row cs2)) (hl2:cs2.length=m*sz)
  (hb:m*(by_+1)≤140737488355328):OpS P E o ρ h (.bm i m) (h.set i (.buf sz m cs2)) :=
 bufApp0G_ok hT ho ht ht2 hs hsx hi hl2 (fun G xv w hw hr=>row_src hw (by rw [← hx];exact hr) (by rw [List.getElem?_set_ne (fun hh=>by rw [hh,hi2] at hi;cases hi)];exact hi2) hl2) hb
theorem copyStr_ok (hT:TOk P T) {t t2 by_ i off n cap:Nat} {d s:Operand} {cells:List AV} {b:List UInt8} (ho:o.op=.call { callee:=.builtin .copy,args:=#[d,s],argTypes:=#[t,t2] })
  (ht:appT T t=some (1,by_)) (hd:ρ d=.row i off n cap) (hs:ρ s=.d (.str b)) (hi:h[i]?=some (.row cells)) (hle:off+n≤cells.length) :
  OpS P E o ρ h (.d (.int .i64 (Nat.min b.length n:Nat))) (h.set i (.row (setRun cells off (byteAV (b.take n))))) :=
 qBi fun G e w hw hr=>by
  have hd':RepA G (ρ d) (e d):=hr d (by simp [ho,Op.operands,Call.operands])
  have hs':RepA G (ρ s) (e s):=hr s (by simp [ho,Op.operands,Call.operands])
  rw [hd] at hd';rw [hs] at hs'
  obtain ⟨bl,hdv,hl⟩:=hd'.row_inv
  have hsv:=hs'.str_inv
  obtain ⟨et,ie,h1,h2,hsz,rfl,hzl⟩:=appT_ok hT ht
  obtain ⟨b',hl',_,hrow,_⟩:=hw.obj i _ hi
  rw [hl] at hl';cases hl'
  have hbs:(⟨b.toArray⟩:ByteArray).size=b.length:=by simp [ByteArray.size]
  obtain ⟨w',q1,q2,q3,q4,q5,q6,q7⟩:=store_cells (P:=P) ((b.take n).map fun c=>Value.int .u8 (c.toNat:Int)) (byteAV (b.take n)) cells off 0 w hrow (by simp;omega) (by simp [byteAV]) (fun j c u hc hu=>by
   simp only [byteAV,List.getElem?_map,Option.map_eq_some_iff] at hc hu
   obtain ⟨x,hx,rfl⟩:=hc
   obtain ⟨y,hy,rfl⟩:=hu
   rw [hx] at hy;cases hy
   exact ⟨.d (.int _ _),rfl⟩)
  have hq:List.take (b.length.min n) (b.map fun c=>Value.int .u8 (c.toNat:Int))=(b.take n).map fun c=>Value.int .u8 (c.toNat:Int):=by
   rw [← List.map_take]
   congr 1
   rcases Nat.le_total b.length n with hc | hc
   ·rw [show b.length.min n=b.length from Nat.min_eq_left hc,List.take_length,List.take_of_length_le hc]
   ·rw [show b.length.min n=n from Nat.min_eq_right hc]
  refine ⟨_,w',G,?_,.refl G,hw.setObj hi hl (by simpa using q2) q3 q4 q5 q6 q7,.d (.int _ _)⟩
  unfold execOp
  simp only [ho,resolve,invoke,builtin]
  simp [hdv,hsv,Builtin.copy_,run_underlying h1,Builtin.lenOf,Builtin.firstCells,h2.run_size,hbs,goInt]
  rw [hq,q1]
  rfl
end
end Tdoc
namespace Tdoc
open Go
theorem run_next_at {P:Program} (w:World) (ty:TypeId) (r bm since c0:Nat) (seen:Array Nat) (es:Array MapEntry) (clock:Nat) (hr:w.heap[r]?=some (.mapIter (some bm) since seen c0)) (hb:w.heap[bm]?=some (.map es clock)) (hold:∀ x∈es.toList,x.born < since) (hsc:since≤c0) :
  ((leftOf es seen).size=0∧(Instr.next (.pointer (some ⟨r,0,none⟩)) false ty).run P w=.ok (.tuple #[.bool false]) w) ∨
  ∃ e∈(leftOf es seen).toList,∃ w1:World,(w1=w∨w1=w.drew)∧(Instr.next (.pointer (some ⟨r,0,none⟩)) false ty).run P w=.ok (.tuple #[.bool true,e.key,e.val]) { w1 with heap:=w1.heap.setIfInBounds r (.mapIter (some bm) since (seen.push e.born) clock) }:=by
 simp only [Instr.next,getObj,Sem.run_bind,Sem.run,hr,hb,Result.andThen,next_test_false seen es since c0 hold hsc,Bool.false_eq_true,if_false]
 unfold leftOf
 have hmem:∀ x∈(Array.filter (fun e=>!seen.contains e.born) es).toList,x.born < since:=fun x hx=>hold x (by simp at hx ⊢;exact hx.1)
 generalize Array.filter (fun e=>!seen.contains e.born) es=L at hmem ⊢
 have e1:L.filter (fun x=>decide (x.born < since))=L:=Array.filter_eq_self.2 (fun x hx=>by simpa using hmem x (by simpa using hx))
 have e2:L.filter (fun x=>decide (x.born≥since)) = #[]:=by
  rw [Array.filter_eq_empty_iff]
  intro x hx
  have:=hmem x (by simpa using hx)
  simp
  omega
 simp only [e1,e2,Array.append_empty]
 by_cases h0:L.size=0
 ·left
  have:L = #[]:=Array.eq_empty_of_size_eq_zero h0
  subst this
  refine ⟨rfl,?_⟩
  simp [choose,Sem.run,Question.forced]
 ·right
  have hne:L.isEmpty=false:=by simp [Array.isEmpty,h0]
  simp only [hne,Bool.false_eq_true,if_false,Array.empty_append,Array.size_map]
  have hch:∃ (j:Nat) (w1:World),j < L.size∧(w1=w∨w1=w.drew)∧(choose (Question.mapNext L.size)).run P w=.ok j w1:=by
   by_cases hf:L.size≤1
   ·exact ⟨0,w,by omega,.inl rfl,by simp [choose,Sem.run,Question.forced,hf]⟩
   ·exact ⟨_,w.drew,Nat.mod_lt _ (by omega),.inr rfl,by
     simp only [choose,Sem.run,Question.forced,decide_eq_true_eq,hf,if_false,Question.cut]
     rfl⟩
  obtain ⟨j,w1,hj,hal,hrun⟩:=hch
  refine ⟨L[j],by simp,w1,hal,?_⟩
  have hr1:w1.heap[r]?=some (.mapIter (some bm) since seen c0):=by rcases hal with rfl | rfl <;> exact hr
  simp only [hrun,Array.getElem?_map,Array.getElem?_eq_getElem hj,Option.map_some,Sem.run_bind,Result.andThen]
  simp only [setObj,Sem.run,hr1]
  rfl
theorem run_entry_at {P:Program} (w:World) (r bm since:Nat) (seen:Array Nat) (es:Array MapEntry) (clock:Nat) (e:MapEntry) (hr:w.heap[r]?=some (.mapIter (some bm) since (seen.push e.born) clock)) (hb:w.heap[bm]?=some (.map es clock)) (he:e∈es.toList) (hn:(es.toList.map (·.born)).Nodup) :
  (Instr.entry (.pointer (some ⟨r,0,none⟩))).run P w=.ok (.tuple #[e.key,e.val]) w:=by
 have hf:es.find? (·.born == e.born)=some e:=by rw [← Array.find?_toList];exact find_born e es.toList hn he
 simp only [Instr.entry,getObj,Sem.run_bind,Sem.run,hr,hb,Result.andThen,Array.back?_push,bne_self_eq_false,Bool.false_eq_true,if_false,hf]
 rfl
section
variable {P:Program} {E:Env} {T:Tr} {o:Oper} {ρ:Operand→AV} {h h':List AObj} {v:AV}
theorem WRel.drew {G:Gh} {w:World} (hw:WRel E G h w):WRel E G h w.drew :=
 ⟨hw.le,hw.imm,hw.immNew,hw.keep,hw.size,hw.os,hw.tape,hw.output,hw.own,hw.fresh,fun i ob hi=>(hw.obj i ob hi).keep (.refl G) (fun b _=>⟨rfl,fun _ _=>rfl⟩) (fun _ hn=>hn) (fun hn=>hn)⟩
theorem next_ok {m it bm clock:Nat} {x:Operand} {A:List (Dat×Dat)} {es:Array MapEntry} {seen:Array Nat} (hA:MapIs A es clock) (hk:∀ p,p∈A→isFlat p.1=true∧isFlat p.2=true) (ho:o.op=.next x false) (hx:ρ x=.ptr it 0) (hm:h[m]?=some (.opq (mapC bm es clock))) (hi:h[it]?=some (.opq (iterC bm clock seen clock))) :
  OpR P E o ρ h (fun u k=>((leftOf es seen).size=0∧u=.tup [.d (.bool false)]∧k=h) ∨
   ∃ e p,e∈(leftOf es seen).toList∧p∈A∧e.key=flatV p.1∧e.val=flatV p.2∧u=.tup [.d (.bool true),.d p.1,.d p.2]∧k=h.set it (.opq (iterC bm clock (seen.push e.born) clock))):=by
 intro G a w hw hr
 have hx':RepA G (ρ x) (a.eval x):=hr x (by simp [ho,Op.operands])
 rw [hx] at hx'
 obtain ⟨b,hxv,hlb⟩:=hx'.ptr_inv0
 obtain ⟨b1,S1,k1,k2,k3,k4,⟨k5,k6,k7⟩,_⟩:=hw.obj m _ hm
 obtain ⟨b2,S2,j1,j2,j3,j4,⟨j5,j6⟩,_⟩:=hw.obj it _ hi
 rw [hlb] at j1
 cases j1
 have k7:w.heap[b1]?=some (.map es clock):=k7
 have j6:w.heap[b]?=some (.mapIter (some bm) clock seen clock):=j6
 subst k6
 obtain ⟨jown,jimm⟩:=j4 b j2
 have hbl:b < w.heap.size:=(hw.own b it jown).1
 rcases run_next_at (P:=P) w o.type b b1 clock clock seen es clock j6 k7 hA.st.1 (Nat.le_refl _) with ⟨h0,hrun⟩ | ⟨e,he,w1,hw1,hrun⟩
 ·have hex:(execOp a.eval o).run P w=.ok (.value (.tuple #[.bool false])) w:=by
   unfold execOp
   simp [ho,hxv,hrun]
  unfold Oper.wp
  rw [hex]
  exact ⟨_,G,_,_,.inl ⟨h0,rfl,rfl⟩,rfl,.refl G,hw,.tup _ rfl (fun j y u hj hu=>by
   match j,hj,hu with
   | 0,hj,hu=>simp at hj hu;subst hj;subst hu;exact .d (.bool false)
   | j+1,hj,hu=>simp at hj)⟩
 ·obtain ⟨p,hp,e1,e2⟩:=hA.fwd e (mem_left he).1
  have hex:(execOp a.eval o).run P w=.ok (.value (.tuple #[.bool true,e.key,e.val])) { w1 with heap:=w1.heap.setIfInBounds b (.mapIter (some b1) clock (seen.push e.born) clock) }:=by
   unfold execOp
   simp [ho,hxv,hrun]
  unfold Oper.wp
  rw [hex]
  have hwr:WRel E G h w1:=by rcases hw1 with rfl | rfl;exact hw;exact hw.drew
  have hbl1:b < w1.heap.size:=by rcases hw1 with rfl | rfl <;> exact hbl
  refine ⟨_,G,_,_,.inr ⟨e,p,he,hp,e1,e2,rfl,rfl⟩,rfl,.refl G,hwr.setOpq hi hlb jown jimm hbl1 _ rfl rfl rfl rfl (fun f hf=>⟨rfl,hf⟩) (fun b f g=>iterC_loc f g),.tup _ rfl (fun j y u hj hu=>?_)⟩
  match j,hj,hu with
  | 0,hj,hu=>simp at hj hu;subst hj;subst hu;exact .d (.bool true)
  | 1,hj,hu=>simp at hj hu;subst hj;subst hu;rw [e1];exact .d (rep_flat (hk p hp).1)
  | 2,hj,hu=>simp at hj hu;subst hj;subst hu;rw [e2];exact .d (rep_flat (hk p hp).2)
  | j+3,hj,hu=>simp at hj
theorem entry_ok {m it bm clock:Nat} {x:Operand} {A:List (Dat×Dat)} {es:Array MapEntry} {seen:Array Nat} {e:MapEntry} {p:Dat×Dat} (hA:MapIs A es clock) (hk:isFlat p.1=true∧isFlat p.2=true) (ho:o.op=.entry x) (hx:ρ x=.ptr it 0) (hm:h[m]?=some (.opq (mapC bm es clock)))
  (hi:h[it]?=some (.opq (iterC bm clock (seen.push e.born) clock))) (he:e∈es.toList) (e1:e.key=flatV p.1) (e2:e.val=flatV p.2):OpS P E o ρ h (.tup [.d p.1,.d p.2]) h :=
 qBi fun G ev w hw hr=>by
  have hx':RepA G (ρ x) (ev x):=hr x (by simp [ho,Op.operands])
  rw [hx] at hx'
  obtain ⟨b,hxv,hlb⟩:=hx'.ptr_inv0
  obtain ⟨b1,S1,k1,k2,k3,k4,⟨k5,k6,k7⟩,_⟩:=hw.obj m _ hm
  obtain ⟨b2,S2,j1,j2,j3,j4,⟨j5,j6⟩,_⟩:=hw.obj it _ hi
  rw [hlb] at j1
  cases j1
  have k7:w.heap[b1]?=some (.map es clock):=k7
  have j6:w.heap[b]?=some (.mapIter (some bm) clock (seen.push e.born) clock):=j6
  subst k6
  have hrun:=run_entry_at (P:=P) w b b1 clock seen es clock e j6 k7 he hA.st.2.1
  refine ⟨.tuple #[e.key,e.val],w,G,?_,.refl G,hw,.tup _ rfl (fun j y u hj hu=>?_)⟩
  ·unfold execOp
   simp [ho,hxv,hrun]
  ·match j,hj,hu with
   | 0,hj,hu=>simp at hj hu;subst hj;subst hu;rw [e1];exact .d (rep_flat hk.1)
   | 1,hj,hu=>simp at hj hu;subst hj;subst hu;rw [e2];exact .d (rep_flat hk.2)
   | j+2,hj,hu=>simp at hj
end
end Tdoc
namespace Tdoc
open Go
section
variable {P:Program} {E:Env} {T:Tr} {o:Oper} {ρ:Operand→AV} {h h':List AObj} {v:AV}
theorem RepA.rx_inv {G:Gh} {v:Value} {i off n:Nat} (h:RepA G (.rx i off n) v):∃ off' cap,n≤cap∧(0 < n→off'=off)∧RepA G (.row i off' n cap) v:=by
 cases h with | rx off' cap hl h1 h2=>exact ⟨off',cap,h1,h2,.row _ _ _ hl⟩
theorem RepA.row_rx {G:Gh} {v:Value} {i off n cap:Nat} (h:RepA G (.row i off n cap) v) (hn:n≤cap):RepA G (.rx i off n) v:=by
 cases h with | row _ _ _ hl=>exact .rx _ _ hl hn (fun _=>rfl)
open Classical in
theorem OpS_rx {x:Operand} {i off n:Nat} (hx:ρ x=.rx i off n) (hn:0 < n) (hxo:x∈o.op.operands.toList) (H:∀ (cap:Nat) (ρ':Operand→AV),n≤cap→ρ' x=.row i off n cap→(∀ y,y≠x→ρ' y=ρ y)→OpS P E o ρ' h v h'):OpS P E o ρ h v h':=by
 intro G a w hw hr
 have hx':=hr x hxo
 rw [hx] at hx'
 obtain ⟨off',cap,h1,h2,h3⟩:=hx'.rx_inv
 rw [h2 hn] at h3
 exact H cap (fun y=>if y=x then .row i off n cap else ρ y) h1 (if_pos rfl) (fun y hy=>if_neg hy) G a w hw (fun y hy=>by
  show RepA G (if y=x then _ else _) _
  split
  ·rename_i e;subst e;exact h3
  ·exact hr y hy)
theorem strRx_ok (hT:TOk P T) {t t2 i0:Nat} {x:Operand} {s:List UInt8} (ho:o.op=.convert t t2 x) (hb:(isStrT T t&&isByteSlice T t2)=true) (hx:ρ x=.d (.str s)) (hroom:h[i0]?=some .room) :
  OpS P E o ρ h (.rx i0 0 s.length) (h.set i0 (.row (byteAV s))):=by
 intro G a w hw hr
 refine wp_mono2 ?_ (strRow_ok hT ho hb hx hroom G a w hw hr)
 rintro a' w' ⟨u,G',v,h',⟨cap,k1,rfl,rfl⟩,k2,k3,k4,k5⟩
 exact ⟨u,G',k2,k3,k4,k5.row_rx k1⟩
theorem copyRx_ok (hT:TOk P T) {t t2 by_ i off n:Nat} {d s:Operand} {cells:List AV} {b:List UInt8} (ho:o.op=.call { callee:=.builtin .copy,args:=#[d,s],argTypes:=#[t,t2] })
  (ht:appT T t=some (1,by_)) (hd:ρ d=.rx i off n) (hn:0 < n) (hs:ρ s=.d (.str b)) (hi:h[i]?=some (.row cells)) (hle:off+n≤cells.length) :
  OpS P E o ρ h (.d (.int .i64 (Nat.min b.length n:Nat))) (h.set i (.row (setRun cells off (byteAV (b.take n))))) :=
 OpS_rx hd hn (by simp [ho,Op.operands,Call.operands]) fun cap ρ' hc h1 h2=>copyStr_ok hT ho ht h1 ((h2 s (fun hh=>by rw [hh,hd] at hs;cases hs)).trans hs) hi hle
theorem qDh (hT:TOk P T) {t t2 i off n:Nat} {x:Operand} {cells:List AV} {s:List UInt8} (ho:o.op=.convert t t2 x) (hb:(isByteSlice T t&&isStrT T t2)=true) (hx:ρ x=.rx i off n) (hn:0 < n) (hi:h[i]?=some (.row cells))
  (hs:s.length=n) (hc:∀ (j:Nat) (c:UInt8),s[j]?=some c→cells[off+j]?=some (.d (.int .u8 (c.toNat:Int)))):OpS P E o ρ h (.d (.str s)) h :=
 OpS_rx hx hn (by simp [ho,Op.operands]) fun cap ρ' h0 h1 h2=>rowStr_ok hT ho hb h1 hi hs hc
theorem rxCut_ok (hT:TOk P T) {t sz i off n:Nat} {x:Operand} {lo hi:Option Operand} {l r:Nat} (ho:o.op=.slice t x lo hi none) (hs:sliceElem T t sz=true) (hx:ρ x=.rx i off n) (hn:0 < n)
  (hlo:match lo with | none=>l=0 | some y=>∃ k,ρ y=.d (.int k (l:Int))) (hhi:match hi with | none=>r=n | some y=>∃ k,ρ y=.d (.int k (r:Int))) (hle:l≤r) (hc:r≤n):OpS P E o ρ h (.rx i (off+l*sz) (r-l)) h :=
 OpS_rx hx hn (by simp [ho,Op.operands]) fun cap ρ' h0 h1 h2=>by
  have hne:∀ y k (z:Int),ρ y=.d (.int k z)→ρ' y=.d (.int k z):=fun y k z hy=>(h2 y (fun hh=>by rw [hh,hx] at hy;cases hy)).trans hy
  have:=rowCut_ok (P:=P) (T:=T) (o:=o) (ρ:=ρ') (l:=l) (r:=r) hT ho hs h1 (by cases lo with | none=>exact hlo | some y=>obtain ⟨k,hk⟩:=hlo;exact ⟨k,hne y k _ hk⟩) (by cases hi with | none=>exact hhi | some y=>obtain ⟨k,hk⟩:=hhi;exact ⟨k,hne y k _ hk⟩) hle (by omega)
  refine qAc (fun G e w k1 k2=>?_)
  obtain ⟨u,q1,q2⟩:=this G e w k1 k2
  refine ⟨u,q1,?_⟩
  obtain ⟨b,rfl,hl⟩:=q2.row_inv
  refine .rx _ _ hl (by omega) (fun hp=>?_)
  rw [if_neg (by omega)]
theorem rxCutE (hT:TOk P T) {t sz i off n:Nat} {x:Operand} {lo hi:Option Operand} {l r:Nat} (ho:o.op=.slice t x lo hi none) (hs:sliceElem T t sz=true) (hx:ρ x=.rx i off n) (hn:0 < n)
  (hlo:match lo with | none=>l=0 | some y=>∃ k,ρ y=.d (.int k (l:Int))) (hhi:match hi with | none=>r=n | some y=>∃ k,ρ y=.d (.int k (r:Int))) (hle:l≤r) (hc:r≤n) (hv:AV.rx i (off+l*sz) (r-l)=v):OpS P E o ρ h v h :=
 hv▸rxCut_ok hT ho hs hx hn hlo hhi hle hc
theorem copyRxE (hT:TOk P T) {t t2 by_ i off n:Nat} {d s:Operand} {cells cells':List AV} {b:List UInt8} (ho:o.op=.call { callee:=.builtin .copy,args:=#[d,s],argTypes:=#[t,t2] })
  (ht:appT T t=some (1,by_)) (hd:ρ d=.rx i off n) (hn:0 < n) (hs:ρ s=.d (.str b)) (hi:h[i]?=some (.row cells)) (hle:off+n≤cells.length) (hv:AV.d (.int .i64 (Nat.min b.length n:Nat))=v) (hc:setRun cells off (byteAV (b.take n))=cells') :
  OpS P E o ρ h v (h.set i (.row cells')):=by
 subst hv;subst hc
 exact copyRx_ok hT ho ht hd hn hs hi hle
end
end Tdoc
namespace Tdoc
open Go
def insS (l:List (Nat×Int×List UInt8)):List (Nat×Dat×Dat):=l.map fun x=>(x.1,.int .i64 x.2.1,.str x.2.2)
def okIns (l:List (Nat×Int×List UInt8)):Bool:=(List.range l.length).all fun a=>(List.range l.length).all fun b=>Nat.beq a b||(match l[a]?,l[b]? with
 | some x,some y=>!Nat.beq x.1 y.1&&!(x.2.1 == y.2.1)
 | _,_=>true)
theorem okIns_spec {l:List (Nat×Int×List UInt8)} (h:okIns l=true) {a b:Nat} {x y:Nat×Int×List UInt8} (ha:l[a]?=some x) (hb:l[b]?=some y) (hne:a≠b):x.1≠y.1∧x.2.1≠y.2.1:=by
 unfold okIns at h
 rw [List.all_eq_true] at h
 have h1:=h a (List.mem_range.2 (List.getElem?_eq_some_iff.1 ha).1)
 rw [List.all_eq_true] at h1
 have h2:=h1 b (List.mem_range.2 (List.getElem?_eq_some_iff.1 hb).1)
 simp only [ha,hb,Bool.or_eq_true,Bool.and_eq_true,Bool.not_eq_true'] at h2
 rcases h2 with h2 | ⟨h2,h3⟩
 ·exact absurd (Nat.eq_of_beq_eq_true h2) hne
 ·exact ⟨fun hh=>by rw [hh] at h2;simp at h2,fun hh=>by rw [hh] at h3;simp at h3⟩
section
variable {P:Program} {E:Env} {N:Nat} {m L:Nat} {rd wr:Nat→List Nat}
theorem qBm {T:Tr} (hT:TOk P T) {ops:List Oper} {Q:(Nat→AV)→List AObj→Prop} {rest:List Oper} {i i0 t kt et:Nat} {x kx vx:Operand} {ty:TypeId} {pos:String} {after:Array Edge} {q:List (Nat×Int×List UInt8)} {l:List (Nat×AV)} {h:List AObj} {n:Int} {s:List UInt8} (hok:okIns q=true) (j:Nat) (hj:q[j]?=some (i,n,s))
  (ht:P.underlying t=some (.map kt et)) (hkt:P.underlying kt=some (.int .i64)) (hx:ev (look l) x=.mp m) (hk:ev (look l) kx=.d (.int .i64 n)) (hv:ev (look l) vx=.d (.str s)) (hm:Nat.blt m h.length=true) (hw:wr i=[]) (hni:Nat.beq i i0=false) (haft:after.any (fun e=>Region.binds .any e&&Nat.beq e.on i0)=true) (hop:ops[i]?=some ⟨none,.insert t x kx vx,ty,pos,after,none⟩)
  (H:AWdM P E N ops (mapM i0 (insS q)) m L rd wr Q rest (i+1) (look l) h):AWdM P E N ops (mapM i0 (insS q)) m L rd wr Q (⟨none,.insert t x kx vx,ty,pos,after,none⟩::rest) i (look l) h:=by
 refine AWm_insert hT ht hkt hx hk hv (List.mem_map.2 ⟨_,List.mem_of_getElem? hj,rfl⟩) (fun y hy=>?_) (fun y hy hyi=>?_) (qBo hm) hw (fun hh=>by rw [hh] at hni;simp at hni) haft hop H
 ·obtain ⟨z,hz,rfl⟩:=List.mem_map.1 hy
  refine ⟨⟨_,_,rfl⟩,fun hzi hzn=>?_⟩
  obtain ⟨b,hb⟩:=List.mem_iff_getElem?.1 hz
  by_cases hbj:b=j
  ·subst hbj;rw [hj] at hb;cases hb;exact hzi rfl
  ·exact (okIns_spec hok hb hj hbj).2 (by simpa using hzn)
 ·obtain ⟨z,hz,rfl⟩:=List.mem_map.1 hy
  obtain ⟨b,hb⟩:=List.mem_iff_getElem?.1 hz
  by_cases hbj:b=j
  ·subst hbj;rw [hj] at hb;cases hb;rfl
  ·exact absurd hyi (okIns_spec hok hb hj hbj).1
theorem AWm_range {ops:List Oper} {Q:(Nat→AV)→List AObj→Prop} {i i0 it d t kt et:Nat} {x:Operand} {ty:TypeId} {pos:String} {after:Array Edge} {q:List (Nat×Int×List UInt8)} {l:List (Nat×AV)} {h:List AObj}
  (hop:ops[L]?=some ⟨some d,.range t x,ty,pos,after,none⟩) (ht:P.underlying t=some (.map kt et)) (hx:ev (look l) x=.mp m) (hm:Nat.blt m h.length=true) (hi:h[it]?=some .room) (hne:Nat.beq m it=false) (hd:Nat.blt d N=true) (h0:Nat.blt i0 L=true) (hq:q.all (fun x=>Nat.blt x.1 L)=true)
  (H:∀ (bm:Nat) (es:Array MapEntry) (clock:Nat),MapIs (q.map fun x=>(Dat.int .i64 x.2.1,Dat.str x.2.2)) es clock→Q (look ((d,.ptr it 0)::l)) ((h.set m (.opq (mapC bm es clock))).set it (.opq (iterC bm clock #[] clock)))) :
  AWdM P E N ops (mapM i0 (insS q)) m L rd wr Q [] i (look l) h:=by
 refine ⟨⟨some d,.range t x,ty,pos,after,none⟩,_,hop,fun listed hl=>?_,fun v h' hR=>hR⟩
 have e1:selM (insS q) listed=q.map fun x=>(Dat.int .i64 x.2.1,Dat.str x.2.2):=by
  unfold selM insS
  rw [List.filter_eq_self.2 (fun y hy=>?_),List.map_map]
  ·rfl
  ·obtain ⟨z,hz,rfl⟩:=List.mem_map.1 hy
   rw [List.all_eq_true] at hq
   exact hl z.1 (qBo (hq z hz))
 have e0:mapM i0 (insS q) listed=.opq (mapR (q.map fun x=>(Dat.int .i64 x.2.1,Dat.str x.2.2))):=by
  unfold mapM
  rw [hl i0 (qBo h0),e1];rfl
 rw [e0]
 have hne':m≠it:=fun hh=>by rw [hh] at hne;simp at hne
 refine ⟨hd,OpR.mono (range_ok (A:=q.map fun x=>(Dat.int .i64 x.2.1,Dat.str x.2.2)) rfl ht hx (by simp [qBo hm]) (by rw [List.getElem?_set_ne hne'];exact hi)) ?_⟩
 rintro v k ⟨⟨bm,es,clock⟩,hA,rfl,rfl⟩
 have:=H bm es clock hA
 simp only [List.set_set]
 exact this
end
end Tdoc
namespace Tdoc
open Go
theorem AWx_rangeB {P:Program} {E:Env} {N:Nat} {g:Operand} {p:Tmp} {assign body:Code} {Q:Exit→(Nat→AV)→List AObj→Prop} {τ:Nat→AV} {h:List AObj} {gf:FuncId} {cap:List AV} {ok:List AObj→Prop} {xs:List AV}
  (Hs:Nat→List AObj) (hg:ev τ g=.fn (.func gf) [] cap) (hseq:SeqOk P gf cap ok xs) (h0:Hs 0=h) (hok:∀ k,ok (Hs k)) (hp:Nat.blt p N=true) (hlen:∀ k,(Hs k).length=h.length) (hlow:∀ k,lowH h.length (Hs k)=true)
  (T1:AV→Nat→AV) (hassign:∀ (k:Nat) (x:AV),xs[k]?=some x→∀ (E':Env) (l:Nat),AWF (Fence.wide.inRound l) P E' N assign (fun e τ' h'=>e=.normal∧τ'=T1 x∧h'=Hs k) (putA τ (some p) x) (Hs k))
  (hround:∀ (k:Nat) (x:AV),xs[k]?=some x→∀ (E':Env) (l:Nat),E'.below h.length→AWF (Fence.wide.inRound l) P E' N body (fun e τ' h'=>e=.normal∧∃ junk,HLe h' (Hs (k+1)++junk)) (T1 x) (Hs k))
  (hpost:Q .normal τ (Hs xs.length)):AWx P E N (.rangeFunc g #[p] assign body) Q τ h:=by
 intro a w r
 obtain ⟨r1,r2,G,hw,ht⟩:=r
 have hgv:=eval_rep (E.tab.1.mono hw.le.imm) ht g
 rw [hg] at hgv
 generalize hge:a.eval g=gv at hgv
 cases hgv with
 | fn _ fvs cvs g1 g2 g3 g4 =>
 obtain rfl:fvs = #[]:=Array.eq_empty_of_size_eq_zero g1
 obtain ⟨fn0,k1,k2,k3⟩:=hseq.1
 have k2':¬ fn0.name = "runtime.NumGoroutine" := by simpa using k2
 have k3':¬ fn0.body=none:=by intro hh;rw [hh] at k3;cases k3
 refine (wpIn_wide (n:=0)).1 (wpIn_rangeFunc ?_)
 intro fn hfn
 obtain ⟨rec0,hrec⟩:∃ rec0:Loop,rec0={ state:=.ready,pending:=none,fn,tmps:=a.tmps,params:=#[p],assign,body,defers:=w.heap.size }:=⟨_,rfl⟩
 obtain ⟨w1,hW1⟩:∃ w1,(w.alloc (.deferred (some []))).alloc (.loop rec0)=w1:=⟨_,rfl⟩
 have hl:w1.heap[w.heap.size+1]?=some (.loop rec0):=by
  rw [← hW1];have:=World.alloc_heap_new (w.alloc (.deferred (some []))) (.loop rec0);rwa [World.size_alloc] at this
 have hD:w1.heap[w.heap.size]?=some (.deferred (some [])):=by
  rw [← hW1];show ((w.heap.push _).push _)[w.heap.size]?=_;simp [Array.getElem?_push]
 have hsz1:w1.heap.size=w.heap.size+2:=by rw [← hW1];simp
 have hw1:WRel E G h w1:=by
  rw [← hW1]
  exact WRel_below (WRel_below hw (Below_alloc w _)) (Below_alloc _ _)
 have hown:∀ b,w.heap.size≤b→G.own b=none:=fun b hb=>by
  cases ho:G.own b with
  | none=>rfl
  | some i=>have:=(hw.own b i ho).1;omega
 have hEl:∀ b,w.heap.size≤b→¬ E.K b:=fun b hb hk=>by have h1:=hk.1;have h2:=hw.size;omega
 have hne:∀ (b:Nat),w.heap.size≤b→∀ g p,seatBlk g=some p→g≠b:=fun b hb g p hgp hgb=>by
  obtain ⟨_,o,h2,_⟩:=E.tab.2 g p hgp
  have:=(Array.getElem?_eq_some_iff.1 h2).1
  have:=hw.size
  omega
 have htab1:TabOk w1 G:=hw1.tabOk
 obtain ⟨E1,hE1⟩:∃ E1:Env,E1=⟨w1,G,htab1,[]⟩:=⟨_,rfl⟩
 have hw1':WRel E1 G h w1:=by rw [hE1];exact hw1.restart htab1 []
 have hK1:∀ b,w.heap.size≤b→b < w1.heap.size→E1.K b:=fun b hb hlt=>by rw [hE1];exact ⟨hlt,hown b hb⟩
 have hY:∀ (k:Nat) (x:AV),xs[k]?=some x→YieldOk P E1 (w.heap.size+1) x (Hs k) (Hs (k+1)):=by
  intro k x hx Gk0 wk0 v hwk0 hv
  have hkl:=hK1 (w.heap.size+1) (by omega) (by omega)
  have hlk0:wk0.heap[w.heap.size+1]?=some (.loop rec0):=by
   have:=hwk0.keep _ hkl
   rw [this,hE1];exact hl
  have hy:=run_yield (P:=P) (args:=#[v]) hlk0 (by rw [hrec];rfl)
  rw [hrec] at hy
  have hGG0:G.le Gk0:=by have:=hwk0.le;rw [hE1] at this;exact this
  refine ⟨fn,_,assign,body,hy,roundIn_of_wpIn True.intro (wpIn_mono (hassign k x hx ⟨wk0,Gk0,hwk0.tabOk,[]⟩ (w.heap.size+1) _ wk0 ⟨by simp [r1],rfl,Gk0,hwk0.restart _ _,fun t=>?_⟩) ?_)⟩
  ·have:=rep_put (dst:=some p) (N:=N) (τ:=τ) r1 (fun d hd=>by cases hd;exact Nat.le_of_ble_eq_true hp) (fun t=>(ht t).mono hGG0) hv [] t
   simpa [Act.put] using this
  rintro e1 a1 wk ⟨τ1,h1,⟨rfl,rfl,rfl⟩,s1,s2,Gk,hwk1,ht1⟩
  have hwk:WRel E1 Gk (Hs k) wk:=hwk0.after hwk1
  have hG01:Gk0.le Gk:=hwk1.le
  clear hwk1
  have hlk:wk.heap[w.heap.size+1]?=some (.loop rec0):=by
   have:=hwk.keep _ hkl
   rw [this,hE1];exact hl
  have hownk:Gk.own (w.heap.size+1)=none:=by
   cases ho:Gk.own (w.heap.size+1) with
   | none=>rfl
   | some i=>exact absurd hkl (hwk.own _ i ho).2
  refine ⟨_,run_beginRound hlk (by rw [hrec]),?_⟩
  generalize hbz:({ rec0 with state:=.busy }:Loop)=busy
  have htab2:TabOk (wk.putObj (w.heap.size+1) (.loop busy)) Gk:=hwk.tabPoke _ (hne _ (by omega))
  have hw2:=hwk.pokeAt (.loop busy) hlk rfl hownk htab2 []
  have hbel:(⟨wk.putObj (w.heap.size+1) (.loop busy),Gk,htab2,[]⟩:Env).below h.length:=fun i hi=>hwk.fresh i (by rw [hlen];exact hi)
  refine wpIn_mono (hround k x hx _ (w.heap.size+1) hbel _ _ ⟨s1,s2,Gk,hw2,ht1⟩) ?_
  ·rintro e a3 w3 ⟨τ',h',⟨rfl,junk,hj⟩,hr3⟩
   have hr4:=Rel_cut (h':=Hs (k+1)) (l:=[]) (junk:=junk) (by rw [hlen];exact hbel) True.intro rfl hj (by rw [hlen];exact hlow _) a3 w3 hr3
   obtain ⟨_,_,G',hw3,_⟩:=hr4
   have hk2:(⟨wk.putObj (w.heap.size+1) (.loop busy),Gk,htab2,[]⟩:Env).K (w.heap.size+1):=⟨by rw [World.putObj_size];exact (Array.getElem?_eq_some_iff.1 hlk).1,hownk⟩
   have hl3:w3.heap[w.heap.size+1]?=some (.loop busy):=(hw3.keep _ hk2).trans (World.putObj_heap_same (Array.getElem?_eq_some_iff.1 hlk).1)
   have hend:=run_endRound (P:=P) none hl3
   have hback:({ busy with state:=if (none:Option Code).isNone then .ready else .done,pending:=none }:Loop)=rec0:=by rw [← hbz,hrec];rfl
   rw [hback] at hend
   refine ⟨_,_,hend,rfl,G',hG01.trans hw3.le,?_⟩
   have hEK:∀ b,E1.K b→(⟨wk.putObj (w.heap.size+1) (.loop busy),Gk,htab2,[]⟩:Env).K b:=fun b hk=>⟨by rw [World.putObj_size];exact Nat.lt_of_lt_of_le hk.1 hwk.size,by
    show Gk.own b=none
    cases ho:Gk.own b with
    | none=>rfl
    | some i=>exact absurd hk (hwk.own b i ho).2⟩
   have hownl:G'.own (w.heap.size+1)=none:=by
    cases ho:G'.own (w.heap.size+1) with
    | none=>rfl
    | some i=>exact absurd hk2 (hw3.own _ i ho).2
   obtain ⟨p1,p2⟩:=hw3.poke (.loop rec0) hl3 rfl hownl
   refine ⟨hwk.le.trans hw3.le,p1,fun b v hb=>?_,fun b hb=>?_,?_,hw3.os.trans hwk.os,hw3.tape.trans hwk.tape,hw3.output.trans hwk.output,fun b i hb=>⟨by rw [World.putObj_size];exact (hw3.own b i hb).1,fun hk=>(hw3.own b i hb).2 (hEK b hk)⟩,hw3.fresh,p2⟩
   ·rcases hw3.immNew b v hb with h1 | h1
    ·exact hwk.immNew b v h1
    ·exact .inr fun hk=>h1 (hEK _ hk)
   ·by_cases hbl:b=w.heap.size+1
    ·subst hbl
     rw [World.putObj_heap_same (Array.getElem?_eq_some_iff.1 hl3).1,hE1];exact hl.symm
    ·rw [World.putObj_heap_other hbl]
     exact (hw3.keep b (hEK b hb)).trans ((World.putObj_heap_other hbl).trans (hwk.keep b hb))
   ·rw [World.putObj_size]
    refine Nat.le_trans hwk.size ?_
    have:=hw3.size
    rwa [World.putObj_size] at this
 have hcall:=hseq.2 E1 (w.heap.size+1) Hs (by rw [hE1]) hok hY (by rw [h0,hE1];exact hw1.restart htab1 []) cvs g2 (fun j x v hx hv=>by rw [hE1];exact g4 j x v hx hv)
 have hE1w:E1.w0=w1:=by rw [hE1]
 rw [hE1w] at hcall
 refine ⟨w.heap.size+1,[{ target:=.collected w.heap.size,args:=#[] }],w1,{ target:=.fn (.func gf) cvs,args:=#[.func (.yield (w.heap.size+1)) #[] #[]] },w1,gf,#[.func (.yield (w.heap.size+1)) #[] #[]]++cvs,w1,?_,?_,fun _ _=>True.intro,?_,fun hh=>?_,?_⟩
 ·rw [← hW1,hrec];exact run_enterLoop_outer _ _ _ _ _
 ·simp [resolve,hge,Deferred.ofValue]
  rfl
 ·simp [invoke,callFunc,k1,k2',k3']
 ·exact absurd hh (by decide)
 ·show CallsIn Fence.wide 0 P gf _ w1 _
  refine hcall.mono ?_
  rintro e w3 ⟨⟨v,rfl⟩,G3,hw3⟩
  have hkl:=hK1 (w.heap.size+1) (by omega) (by omega)
  have hkD:=hK1 w.heap.size (Nat.le_refl _) (by omega)
  have hl3:w3.heap[w.heap.size+1]?=some (.loop rec0):=by rw [hw3.keep _ hkl,hE1];exact hl
  have hD3:w3.heap[w.heap.size]?=some (.deferred (some [])):=by rw [hw3.keep _ hkD,hE1];exact hD
  have hownl:∀ b,E1.K b→G3.own b=none:=fun b hk=>by
   cases ho:G3.own b with
   | none=>rfl
   | some i=>exact absurd hk (hw3.own b i ho).2
  have hG3:G.le G3:=by have:=hw3.le;rw [hE1] at this;exact this
  have hw3E:WRel E G3 (Hs xs.length) w3:=by
   subst hE1
   exact hw1.after hw3
  have hend:=run_endLoop (P:=P) hl3 (by rw [hrec];simp)
  have hw4E:=hw3E.pokeIn (.loop { rec0 with state:=.exhausted }) hl3 rfl (hownl _ hkl) (hEl _ (by omega))
  generalize hw4:w3.putObj (w.heap.size+1) (.loop { rec0 with state:=.exhausted })=w4 at hw4E hend
  have hpend:rec0.pending=none:=by rw [hrec]
  rw [hpend] at hend
  refine ⟨none,w4,hend,?_⟩
  have hD4:w4.heap[w.heap.size]?=some (.deferred (some [])):=by rw [← hw4,World.putObj_heap_other (by omega)];exact hD3
  have hle:ELe E ⟨w4,G3,hw4E.tabOk,marks [w.heap.size]++E.ds⟩:=by
   refine ⟨fun G h w hw=>hw4E.after hw,fun b hk=>⟨Nat.lt_of_lt_of_le hk.1 hw4E.size,?_⟩,fun b hk=>hw4E.keep b hk,[w.heap.size],rfl,(List.nodup_cons.2 ⟨by simp,List.nodup_nil⟩),fun D hDm=>?_⟩
   ·show G3.own b=none
    cases ho:G3.own b with
    | none=>rfl
    | some i=>exact absurd hk (hw4E.own b i ho).2
   ·obtain rfl:D=w.heap.size:=by simpa using hDm
    exact ⟨hD4,⟨(Array.getElem?_eq_some_iff.1 hD4).1,hownl _ hkD⟩,hEl _ (Nat.le_refl _)⟩
  refine ⟨_,hle,τ,Hs xs.length,hpost,r1,?_,G3,hw4E.restart _ _,fun t=>(ht t).mono hG3⟩
  show [_]++a.defers=_
  rw [r2];rfl
theorem AWx_seq2 {P:Program} {E:Env} {N:Nat} {x y:Code} {Qx Q:Exit→(Nat→AV)→List AObj→Prop} {τ:Nat→AV} {h:List AObj} (hx:AWx P E N x Qx τ h) (hn:∀ E2,ELe E E2→∀ τ' h',Qx .normal τ' h'→AWx P E2 N y Q τ' h')
  (he:∀ e τ' h',e≠.normal→Qx e τ' h'→Q e τ' h'):AWx P E N (.seq x y) Q τ h :=
 fun a w r=>wp_seq (wp_mono (hx a w r) fun e a' w' ⟨E2,hE,τ',h',q,r'⟩=>by
  cases e with
  | normal =>
   refine wp_mono (hn E2 hE τ' h' q a' w' r') fun e3 a3 w3 ⟨E3,hE3,τ3,h3,q3,r3⟩=>⟨E3,hE.trans hE3,τ3,h3,q3,r3⟩
  | _=>exact ⟨E2,hE,τ',h',he _ _ _ (by simp) q,r'⟩)
theorem AWx_subL {P:Program} {E:Env} {N:Nat} {c:Code} {Q:Exit→(Nat→AV)→List AObj→Prop} {τ:Nat→AV} {h:List AObj} {l:List (Nat×AV)} {h':List AObj} (hs:SubL τ l) (hh:HLe h h') (hc:AWx P E N c Q (look l) h'):AWx P E N c Q τ h:=AWx_sub (Rel_sub hs hh) hc
theorem AWx_seq_cut {P:Program} {E:Env} {N:Nat} {x y:Code} {Q:Exit→(Nat→AV)→List AObj→Prop} {τ:Nat→AV} {h:List AObj} {ι:Type} (S:ι→List (Nat×AV)) (H:ι→List AObj) (inv:ι→Prop)
  (hx:AW P E N x (thenA (fun τ' h'=>∃ i,inv i∧SubL τ' (S i)∧HLe h' (H i)) Q) τ h) (hy:∀ i,inv i→AWx P E N y Q (look (S i)) (H i)):AWx P E N (.seq x y) Q τ h:=by
 refine AWx_seq (AW_mono hx fun e τ' h' hq=>?_)
 cases e with
 | normal=>obtain ⟨i,h1,h2,h3⟩:=hq;exact AWx_subL h2 h3 (hy i h1)
 | _=>exact hq
end Tdoc
namespace Tdoc
open Go
def nilS:AV→Option Bool
 | .nils=>some true
 | .d (.sl _ (_::_))=>some false
 | _=>none
theorem sliceNil_ok {P:Program} {o:Oper} {ρ:Operand→AV} {t yt et:Nat} {x:Operand} {b:Bool} (hρ:ρ (.const (.slice none 0 0))=ofVal (.slice none 0 0)) (ho:o.op=.binOp .eql t x (.const (.slice none 0 0)) yt) (hu:P.underlying t=some (.slice et)) (hx:nilS (ρ x)=some b) :
  OpP P o ρ (.d (.bool b)):=by
 intro G e w hi hr
 have hx':RepA G (ρ x) (e x):=hr x (by simp [ho,Op.operands])
 have hy':RepA G (ρ (.const (.slice none 0 0))) (e (.const (.slice none 0 0))):=hr _ (by simp [ho,Op.operands])
 rw [hρ] at hy'
 have hn:e (.const (.slice none 0 0))=.slice none 0 0:=by
  generalize e (.const (.slice none 0 0))=u at hy'
  cases hy' with
  | nils=>rfl
 unfold execOp
 simp only [ho,Sem.run_bind,hn]
 generalize e x=u at hx'
 generalize ρ x=a at hx hx'
 cases a with
 | nils =>
  cases hx'
  cases hx
  refine ⟨.bool true,?_,.d (.bool _)⟩
  have he:(Op.equal t (.slice none 0 0) (.slice none 0 0)).run P w=.ok true w:=by
   show (Op.equalIn (9999+1) t _ _).run P w=_
   rw [Op.equalIn]
   simp [run_underlying hu]
  simp [eqGuard,Go.binOp,he]
 | d x =>
  cases x with
  | sl sz es =>
   cases es with
   | nil=>cases hx
   | cons d l =>
    cases hx
    cases hx' with
    | d r =>
     cases r with
     | sl _ _ a cap vs h1 h2 h3 h4 h5 =>
      generalize (d::l).length=n
      refine ⟨.bool false,?_,.d (.bool _)⟩
      have he:(Op.equal t (.slice (some a) n cap) (.slice none 0 0)).run P w=.ok false w:=by
       show (Op.equalIn (9999+1) t _ _).run P w=_
       rw [Op.equalIn]
       simp [run_underlying hu]
      simp [eqGuard,Go.binOp,he]
  | _=>cases hx
 | _=>cases hx
end Tdoc
namespace Tdoc
open Go
variable {P:Program} {E:Env} {T:Tr} {o:Oper} {ρ:Operand→AV} {h:List AObj}
theorem bufLoadN (hT:TOk P T) {t i n off sz:Nat} {ti:TI} {x:Operand} {cells cs:List AV} (ho:o.op=.load t x) (hx:ρ x=.bp i n off) (hi:h[i]?=some (.buf sz n cells)) (hf:T.find t=some ti) (ha:ti.agg=true)
  (hpos:0 < ti.size) (hle:off+ti.size≤cells.length) (hcs:(cells.drop off).take ti.size=cs):OpS P E o ρ h (.agg cs) h:=by
 subst hcs
 exact qBi fun G e w hw hr=>by
  have hx':RepA G (ρ x) (e x):=hr x (by simp [ho,Op.operands])
  rw [hx] at hx'
  obtain ⟨p,cap,hp,hl⟩:=hx'.bp_inv
  obtain ⟨a',cap',hl',_,hb1,hb2,hb3,hb4⟩:=hw.obj i _ hi
  rw [hl] at hl';cases hl'
  have hcap:0 < cap:=by
   rcases Nat.eq_zero_or_pos cap with h0 | h0
   ·have:n=0:=by omega
    subst this;simp at hb1;rw [hb1] at hle;simp at hle;omega
   ·exact h0
  obtain ⟨q1,q2,q3,q4⟩:=hb4 p rfl hcap
  have hti:=hT.at hf
  have hcell:∀ j,j < ti.size→∃ u,w.cell? (p.add (off+j))=some u∧oneC u=true∧RepA G (cells[off+j]?.getD .any) u:=by
   intro j hj
   have hc:cells[off+j]?=some cells[off+j]:=by simp [show off+j < cells.length by omega]
   obtain ⟨u,h1,h2,h3⟩:=q3 _ _ hc
   exact ⟨u,h1,h2,by rw [hc];exact h3⟩
  let f:Nat→Value:=fun j=>(w.cell? (p.add (off+j))).getD undef
  have hld:(loadCells (p.add off) ti.size).run P w=.ok ((List.range ti.size).map f).toArray w:=by
   refine run_loadCells (P:=P) w _ _ f (fun j hj=>?_)
   obtain ⟨u,h1,_⟩:=hcell j hj
   rw [qCx p q1];simp [f,h1]
  refine ⟨.agg ((List.range ti.size).map f).toArray,w,G,?_,.refl G,hw,.agg _ (by simp;omega) (fun j c y hc hy=>?_) (fun j y hy=>?_)⟩
  ·unfold execOp
   simp [ho,Instr.loadAt,hp,Instr.sureAddr,loadVar,hti.run_agg,ha,hti.run_size,hld]
  ·simp only [List.getElem?_take,List.getElem?_drop] at hc
   split at hc
   ·rename_i hj
    obtain ⟨u,h1,h2,h3⟩:=hcell j hj
    simp [hj,f,h1] at hy
    subst hy
    rw [hc] at h3;exact h3
   ·cases hc
  ·by_cases hj:j < ti.size
   ·obtain ⟨u,h1,h2,h3⟩:=hcell j hj
    simp [hj,f,h1] at hy
    subst hy;exact h2
   ·simp [hj] at hy
end Tdoc
