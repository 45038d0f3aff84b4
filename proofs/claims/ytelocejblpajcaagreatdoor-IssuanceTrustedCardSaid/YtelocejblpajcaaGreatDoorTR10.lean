/- Part 10 of the proof: the texts J9 JD JE JF JG JH JI JK JL JM JN JO JP JQ JR JS JT JU. -/
import Derived.Test.YtelocejblpajcaaGreatDoorTR9
set_option maxHeartbeats 8000000
set_option maxRecDepth 100000
set_option linter.unusedVariables false
set_option linter.unusedSimpArgs false
namespace Tdoc
open Go Go.Proofs
theorem yf {g:Prop} (h:g:=by repeat (first | exact trivial | refine ⟨.refl _,?_⟩)):g:=h
theorem qPo (v:Vw) (b:List UInt8) (hb:b.length=64):Spec Tryz.prog 303 [.d (.sl 1 (qFc v)),.d (.sl 1 (qAj b))] [] (fun r h'=>r=.tup [.d (.sl 1 (qFc (qUe v b))),.I 0]∧h'=[]):=by
 have hbl:=encB_length b
 obtain ⟨m,hm⟩:∃ m:Nat,m=64:=⟨_,rfl⟩
 obtain ⟨q,hq⟩:∃ q:Nat,q=16:=⟨_,rfl⟩
 have hfin:qUe v b=vEw v (qGo v (qJt b m) m):=by subst hm;exact compW_eq v b
 have hcw:∀ n,n < m→(cellsW b m)[n]?=some (uV ((qJt b m).getD n 0)):=by subst hm;exact fun n h=>cells64 b h
 rw [hfin]
 clear hfin
 refine qAb hT Tryz.func303 rfl rfl rfl rfl ?_;intro E hE
 refine ww ?_
 refine qAa rfl (fun c1=>?_) (fun c1=>?_)
 ·exact absurd c1 (by simp [encW_length,hbl,hb])
 refine ww ?_
 refine qAq (ι:=Nat) (fun t=>[(0,.d (.sl 1 (qFc v))),(1,.d (.sl 1 (qAj b))),(6,.ptr 0 0),(7,.I (t:Int))]) (fun t=>[.row (cellsW b t)]) (fun t=>t≤q) (fun t=>q-t) 0 (Nat.zero_le _)
  yf ⟨ObLe.row rfl,trivial⟩ ?_
 ·intro u ht
  have hcl:=cellsW_length b (t:=u) (by omega)
  refine ww ?_
  refine qAa rfl (fun c2=>?_) (fun c2=>?_)
  ·have ht':u < 16:=by simp at c2;omega
   have hst:=cellsW_set b (t:=u) (by omega)
   rw [schW_word b ht'] at hst
   have e0:IntKind.i64.wrap (4*(u:Int))=((4*u:Nat):Int):=by rw [qAe (by omega)];omega
   have e1:IntKind.i64.wrap (IntKind.i64.wrap (4*(u:Int))+1)=((4*u+1:Nat):Int):=by rw [e0,qAe (by omega)];omega
   have e2:IntKind.i64.wrap (IntKind.i64.wrap (4*(u:Int))+2)=((4*u+2:Nat):Int):=by rw [e0,qAe (by omega)];omega
   have e3:IntKind.i64.wrap (IntKind.i64.wrap (4*(u:Int))+3)=((4*u+3:Nat):Int):=by rw [e0,qAe (by omega)];omega
   have h0:=encB_getD (b:=b) (i:=4*u) (by omega)
   have h1:=encB_getD (b:=b) (i:=4*u+1) (by omega)
   have h2:=encB_getD (b:=b) (i:=4*u+2) (by omega)
   have h3:=encB_getD (b:=b) (i:=4*u+3) (by omega)
   refine wwn ?_
   refine qBp (fun _=>[0]) (fun i=>bif Nat.beq i 35 then [0] else []) mixed (by kernel_rfl) ?_
   refine wwg ?_
   refine qAk (os:=[]) (fun k hk1 hk2=>qAc (indexAddr_ok hT rfl rfl rfl rfl (by rw [e0];omega) (by rw [e0,Int.toNat_natCast];exact h0))) rfl ?_
   refine wwg ?_
   refine qAk (os:=[]) (fun k hk1 hk2=>qAc (indexAddr_ok hT rfl rfl rfl rfl (by rw [e1];omega) (by rw [e1,Int.toNat_natCast];exact h1))) rfl ?_
   refine wwg ?_
   refine qAk (os:=[]) (fun k hk1 hk2=>qAc (indexAddr_ok hT rfl rfl rfl rfl (by rw [e2];omega) (by rw [e2,Int.toNat_natCast];exact h2))) rfl ?_
   refine wwg ?_
   refine qAk (os:=[]) (fun k hk1 hk2=>qAc (indexAddr_ok hT rfl rfl rfl rfl (by rw [e3];omega) (by rw [e3,Int.toNat_natCast];exact h3))) rfl ?_
   refine wwg ?_
   refine qAk (os:=[]) (fun k hk1 hk2=>qAc (arrPtr_ok hT rfl rfl rfl rfl (by omega))) rfl ?_
   have hval:∀ r,r=wI (qSy b (4*u))→(cellsW b u).set (0+((u:Int)).toNat*1) (.d (.int .u32 r))=cellsW b (u+1):=by
    intro r hr;subst hr;rw [show 0+((u:Int)).toNat*1=u by omega];exact hst
   refine qAk (v:=.any) (os:=[.row ((cellsW b u).set (0+((u:Int)).toNat*1) _)]) (fun k hk1 hk2=>qEw hT rfl rfl ((hk2 0 List.mem_cons_self).trans rfl) rfl rfl rfl (by show 0+((u:Int)).toNat*1 < (cellsW b u).length;rw [hcl];omega)) rfl ?_
   refine wwg ?_
   refine ww ?_
   exact ⟨u+1,by omega,by omega,⟨.refl _,.refl _,.refl _,.int (by rw [qAe (by omega)];omega),trivial⟩,⟨ObLe.row (hval _ (by simp only [wI_byte,wshl,wI_or];rfl)),trivial⟩⟩
  have ht':u=q:=by simp at c2;omega
  subst ht'
  refine ww ?_
  refine qAq (ι:=Nat) (fun t=>[(0,.d (.sl 1 (qFc v))),(6,.ptr 0 0),(8,.I (t:Int))]) (fun t=>[.row (cellsW b t)]) (fun k=>u≤k∧k≤m) (fun k=>m-k) u (by omega)
   ⟨.refl _,.refl _,.int (by omega),trivial⟩ (HLe.refl _) ?_
  clear hcl ht
  intro t ⟨ht1,ht⟩
  have hcl:=cellsW_length b (t:=t) (by omega)
  refine ww ?_
  refine qAa rfl (fun c3=>?_) (fun c3=>?_)
  ·have ht':t < 64:=by simp at c3;omega
   have c3':16≤t:=by omega
   have hx:=cellsW_at b (i:=t-15) (t:=t) (by omega)
   have hy:=cellsW_at b (i:=t-2) (t:=t) (by omega)
   have h7:=cellsW_at b (i:=t-7) (t:=t) (by omega)
   have h16:=cellsW_at b (i:=t-16) (t:=t) (by omega)
   have hst:=cellsW_set b ht'
   rw [schW_next b c3'] at hst
   generalize (qJt b t).getD (t-15) 0=x at hx hst
   generalize (qJt b t).getD (t-2) 0=y at hy hst
   generalize (qJt b t).getD (t-7) 0=z7 at h7 hst
   generalize (qJt b t).getD (t-16) 0=z16 at h16 hst
   have e15:IntKind.i64.wrap ((t:Int)-15)=((t-15:Nat):Int):=by rw [qAe (by omega)];omega
   have e2:IntKind.i64.wrap ((t:Int)-2)=((t-2:Nat):Int):=by rw [qAe (by omega)];omega
   have e7:IntKind.i64.wrap ((t:Int)-7)=((t-7:Nat):Int):=by rw [qAe (by omega)];omega
   have e16:IntKind.i64.wrap ((t:Int)-16)=((t-16:Nat):Int):=by rw [qAe (by omega)];omega
   refine ww ?_
   refine qBc (qAc (arrPtr_ok hT rfl rfl rfl rfl (by rw [e15];omega))) rfl rfl ?_
   refine qBc (qBr (v:=uV x) hT rfl rfl rfl rfl rfl (by rw [e15];show (cellsW b t)[0+((t-15:Nat):Int).toNat*1]?=_;rw [show 0+((t-15:Nat):Int).toNat*1=t-15 by omega];exact hx)) rfl rfl ?_
   refine ww ?_
   refine qBc (qAc (arrPtr_ok hT rfl rfl rfl rfl (by rw [e2];omega))) rfl rfl ?_
   refine qBc (qBr (v:=uV y) hT rfl rfl rfl rfl rfl (by rw [e2];show (cellsW b t)[0+((t-2:Nat):Int).toNat*1]?=_;rw [show 0+((t-2:Nat):Int).toNat*1=t-2 by omega];exact hy)) rfl rfl ?_
   refine wws ?_
   refine qAp (l:=[(0,.d (.sl 1 (qFc v))),(6,.ptr 0 0),(8,.I (t:Int)),(9,uV x),(10,uV y)]) (h':=[.row (cellsW b t)]) yf (HLe.refl _) ?_
   refine qBp (fun _=>[0]) (fun i=>bif Nat.beq i 29 then [0] else []) mixed (by kernel_rfl) ?_
   refine wwg ?_
   refine wwdc (qEa y 17 (by omega)) ?_
   refine wwg ?_
   refine wwdc (qEa y 19 (by omega)) ?_
   refine wwg ?_
   refine qAk (os:=[]) (fun k hk1 hk2=>qAc (arrPtr_ok hT rfl rfl rfl rfl (by rw [e7];omega))) rfl ?_
   refine qAk (v:=uV z7) (os:=[]) (fun k hk1 hk2=>qBr hT rfl rfl ((hk2 0 List.mem_cons_self).trans rfl) rfl rfl (by rw [e7];show (cellsW b t)[0+((t-7:Nat):Int).toNat*1]?=_;rw [show 0+((t-7:Nat):Int).toNat*1=t-7 by omega];exact h7)) rfl ?_
   refine wwg ?_
   refine wwdc (qEa x 7 (by omega)) ?_
   refine wwg ?_
   refine wwdc (qEa x 18 (by omega)) ?_
   refine wwg ?_
   refine qAk (os:=[]) (fun k hk1 hk2=>qAc (arrPtr_ok hT rfl rfl rfl rfl (by rw [e16];omega))) rfl ?_
   refine qAk (v:=uV z16) (os:=[]) (fun k hk1 hk2=>qBr hT rfl rfl ((hk2 0 List.mem_cons_self).trans rfl) rfl rfl (by rw [e16];show (cellsW b t)[0+((t-16:Nat):Int).toNat*1]?=_;rw [show 0+((t-16:Nat):Int).toNat*1=t-16 by omega];exact h16)) rfl ?_
   refine wwg ?_
   refine qAk (os:=[]) (fun k hk1 hk2=>qAc (arrPtr_ok hT rfl rfl rfl rfl (by omega))) rfl ?_
   have hval:∀ r,r=wI (sg1 y+z7+sg0 x+z16)→(cellsW b t).set (0+((t:Int)).toNat*1) (.d (.int .u32 r))=cellsW b (t+1):=by
    intro r hr;subst hr;rw [show 0+((t:Int)).toNat*1=t by omega];exact hst
   refine qAk (v:=.any) (os:=[.row ((cellsW b t).set (0+((t:Int)).toNat*1) _)]) (fun k hk1 hk2=>qEw hT rfl rfl ((hk2 0 List.mem_cons_self).trans rfl) rfl rfl rfl (by show 0+((t:Int)).toNat*1 < (cellsW b t).length;rw [hcl];omega)) rfl ?_
   refine wwg ?_
   refine ww ?_
   exact ⟨t+1,⟨by omega,by omega⟩,by omega,⟨.refl _,.refl _,.int (by rw [qAe (by omega)];omega),trivial⟩,⟨ObLe.row (hval _ (by simp only [wshr,wI_xor,wI_add,uV];rfl)),trivial⟩⟩
  have ht':t=m:=by simp at c3;omega
  subst ht'
  generalize cellsW b t=cw at hcw hcl ⊢
  generalize qJt b t=w at hcw ⊢
  refine wwe ?_
  refine qAl (wx mixed ?_)
  refine wws ?_
  refine wwi ((rfl:(qFc v)[0]?=some [Dat.int .u32 (wI v.a)])) ?_
  refine wws ?_
  refine wwi ((rfl:(qFc v)[1]?=some [Dat.int .u32 (wI v.b)])) ?_
  refine wws ?_
  refine wwi ((rfl:(qFc v)[2]?=some [Dat.int .u32 (wI v.c)])) ?_
  refine wws ?_
  refine wwi ((rfl:(qFc v)[3]?=some [Dat.int .u32 (wI v.d)])) ?_
  refine wws ?_
  refine wwi ((rfl:(qFc v)[4]?=some [Dat.int .u32 (wI v.e)])) ?_
  refine wws ?_
  refine wwi ((rfl:(qFc v)[5]?=some [Dat.int .u32 (wI v.f)])) ?_
  refine wws ?_
  refine wwi ((rfl:(qFc v)[6]?=some [Dat.int .u32 (wI v.g)])) ?_
  refine wws ?_
  refine wwi ((rfl:(qFc v)[7]?=some [Dat.int .u32 (wI v.h)])) ?_
  refine wws ?_
  refine qAp (l:=[(0,.d (.sl 1 (qFc v))),(6,.ptr 0 0),(11,uV v.a),(12,uV v.b),(13,uV v.c),(14,uV v.d),(15,uV v.e),(16,uV v.f),(17,uV v.g),(18,uV v.h)]) (h':=[.row cw]) yf (HLe.refl _) ?_
  refine ww ?_
  refine qAq (ι:=Nat) (fun n=>(0,.d (.sl 1 (qFc v)))::(6,.ptr 0 0)::(19,.I (n:Int))::(let r:=qGo v w n;[(11,uV r.a),(12,uV r.b),(13,uV r.c),(14,uV r.d),(15,uV r.e),(16,uV r.f),(17,uV r.g),(18,uV r.h)])) (fun _=>[.row cw]) (fun n=>n≤t) (fun n=>t-n) 0 (Nat.zero_le _)
   yf (HLe.refl _) ?_
  intro n hn
  have hr1:=roundW_succ v w n
  have hwn:=hcw n
  have hkn:=kD_at (n:=n)
  generalize hr:qGo v w n=r at hr1 ⊢
  generalize w.getD n 0=wn at hr1 hwn
  generalize kW.getD n 0=kn at hr1 hkn
  refine qAp (l:=[(0,.d (.sl 1 (qFc v))),(6,.ptr 0 0),(19,.I (n:Int)),(11,uV r.a),(12,uV r.b),(13,uV r.c),(14,uV r.d),(15,uV r.e),(16,uV r.f),(17,uV r.g),(18,uV r.h)]) (h':=[.row cw]) yf (HLe.refl _) ?_
  refine ww ?_
  refine qAa rfl (fun c4=>?_) (fun c4=>?_)
  ·have hn':n < 64:=by simp at c4;omega
   have hwn:=hwn (by omega)
   have hkn:=hkn hn'
   refine qBw ?_
   refine wwn ?_
   refine wx mixed ?_
   refine wws ?_
   refine wwc (qEa r.e 6 (by omega)) ?_
   refine wws ?_
   refine wwc (qEa r.e 11 (by omega)) ?_
   refine wws ?_
   refine wwc (qEa r.e 25 (by omega)) ?_
   refine wws ?_
   refine qBc (qAc (arrAddr_ok (cs:=kD) hT rfl rfl (by show (match qGy 4 with | some cs=>AV.iptr cs | none=>.any)=_;rw [kD_tab4]) rfl (by omega))) rfl rfl ?_
   refine qBc (qAc (loadI_ok hT rfl rfl (loadI_head rfl rfl (by rw [show ((n:Int)).toNat*1=n by omega];exact hkn)))) rfl rfl ?_
   refine wws ?_
   refine qBc (qAc (arrPtr_ok hT rfl rfl rfl rfl (by omega))) rfl rfl ?_
   refine qBc (qBr (v:=uV wn) hT rfl rfl rfl rfl rfl (by show cw[0+((n:Int)).toNat*1]?=_;rw [show 0+((n:Int)).toNat*1=n by omega];exact hwn)) rfl rfl ?_
   refine wws ?_
   refine qAp (l:=[(0,.d (.sl 1 (qFc v))),(6,.ptr 0 0),(19,.I (n:Int)),(11,uV r.a),(12,uV r.b),(13,uV r.c),(14,uV r.d),(15,uV r.e),(16,uV r.f),(17,uV r.g),(18,uV r.h),(20,uV (r.h+bs1 r.e+((r.e &&& r.f) ^^^ (~~~ r.e &&& r.g))+kn+wn))]) (h':=[.row cw])
    ⟨.refl _,.refl _,.refl _,.refl _,.refl _,.refl _,.refl _,.refl _,.refl _,.refl _,.refl _,.int (by simp only [wI_not,wI_and,wI_xor,wI_add,uV];rfl),trivial⟩ (HLe.refl _) ?_
   generalize hT1:r.h+bs1 r.e+((r.e &&& r.f) ^^^ (~~~ r.e &&& r.g))+kn+wn=T1
   refine qAl (qAf ?_)
   refine wws ?_
   refine wwc (qEa r.a 2 (by omega)) ?_
   refine wws ?_
   refine wwc (qEa r.a 13 (by omega)) ?_
   refine wws ?_
   refine wwc (qEa r.a 22 (by omega)) ?_
   refine wws ?_
   refine qAp (l:=[(0,.d (.sl 1 (qFc v))),(6,.ptr 0 0),(19,.I (n:Int)),(11,uV r.a),(12,uV r.b),(13,uV r.c),(14,uV r.d),(15,uV r.e),(16,uV r.f),(17,uV r.g),(18,uV r.h),(20,uV T1),(21,uV (bs0 r.a+((r.a &&& r.b) ^^^ (r.a &&& r.c) ^^^ (r.b &&& r.c))))]) (h':=[.row cw])
    ⟨.refl _,.refl _,.refl _,.refl _,.refl _,.refl _,.refl _,.refl _,.refl _,.refl _,.refl _,.refl _,.int (by simp only [wI_not,wI_and,wI_xor,wI_add,uV];rfl),trivial⟩ (HLe.refl _) ?_
   generalize hT2:bs0 r.a+((r.a &&& r.b) ^^^ (r.a &&& r.c) ^^^ (r.b &&& r.c))=T2
   have hfv:vGj r kn wn=⟨T1+T2,r.a,r.b,r.c,r.d+T1,r.e,r.f,r.g⟩:=by rw [← hT1,← hT2];rfl
   rw [hfv] at hr1
   refine ww ?_
   refine ⟨n+1,by omega,by omega,?_,HLe.refl _⟩
   rw [hr1]
   exact ⟨.refl _,.refl _,.int (by rw [qAe (by omega)];omega),.int (wI_add T1 T2),.refl _,.refl _,.refl _,.int (wI_add _ _),.refl _,.refl _,.refl _,trivial⟩
  have hn':n=t:=by simp at c4;omega
  subst hn'
  rw [hr]
  refine wwe ?_
  refine qAl (wx mixed ?_)
  refine wws ?_
  refine wwi ((rfl:(qFc v)[0]?=some [Dat.int .u32 (wI v.a)])) ?_
  refine wws ?_
  refine wwi ((rfl:(qFc v)[1]?=some [Dat.int .u32 (wI v.b)])) ?_
  refine wws ?_
  refine wwi ((rfl:(qFc v)[2]?=some [Dat.int .u32 (wI v.c)])) ?_
  refine wws ?_
  refine wwi ((rfl:(qFc v)[3]?=some [Dat.int .u32 (wI v.d)])) ?_
  refine wws ?_
  refine wwi ((rfl:(qFc v)[4]?=some [Dat.int .u32 (wI v.e)])) ?_
  refine wws ?_
  refine wwi ((rfl:(qFc v)[5]?=some [Dat.int .u32 (wI v.f)])) ?_
  refine wws ?_
  refine wwi ((rfl:(qFc v)[6]?=some [Dat.int .u32 (wI v.g)])) ?_
  refine wws ?_
  refine wwi ((rfl:(qFc v)[7]?=some [Dat.int .u32 (wI v.h)])) ?_
  refine wws ?_
  refine ww ?_
  refine rq ⟨rfl,rfl⟩ rfl (AV.le.tup ⟨AV.le.dat' ?_,.refl _,trivial⟩)
  simp only [wI_add,uV]
  rfl
theorem vEz (b:List UInt8) (hb:b.length≤900000):Spec Tryz.prog 204 [.d (.sl 1 (qAj b))] [] (fun r h'=>r=.d (.sl 1 (qAj (qLa b)))∧h'=[]):=by
 have hpl:=padW_length b
 have hpad:=vFf b hb
 have hsum:=sumW_to b
 have hsucc:=sumTo_succ b
 have hz:qFc (qPc b 0)=qFc qPq:=rfl
 generalize qLa b=fin at hsum
 subst hsum
 generalize qPc b=sf at hsucc hz
 generalize qWj b=p at hpl hpad hsucc
 obtain ⟨kk,hkk⟩:∃ kk,p.length / 64=kk:=⟨_,rfl⟩
 rw [hkk]
 have hel:=encB_length p
 refine qAb hT Tryz.func204 rfl rfl rfl rfl ?_;intro E hE
 refine ww ?_
 refine wwc hpad ?_
 refine ww ?_
 refine wwc vBq ?_
 refine ww ?_
 refine qAq (ι:=Nat) (fun k=>[(3,.d (.sl 1 (qAj p))),(4,.d (.sl 1 (qFc (sf k)))),(5,.I ((64*k:Nat):Int))]) (fun _=>[]) (fun k=>k≤kk) (fun k=>kk-k) 0 (Nat.zero_le _)
  ⟨.refl _,.sl hz.symm,.refl _,trivial⟩ (HLe.refl _) ?_
 intro k hk
 have e1:IntKind.i64.wrap (((64*k:Nat):Int)+64)=((64*k+64:Nat):Int):=by rw [qAe (by omega)];omega
 refine ww ?_
 refine qAa rfl (fun c1=>?_) (fun c1=>?_)
 ·have hk':k < kk:=by simp only [decide_eq_true_eq] at c1;rw [e1,hel] at c1;omega
  have hcp:=qPo (sf k) ((p.drop (64*k)).take 64) (by rw [List.length_take,List.length_drop];omega)
  rw [← hsucc k] at hcp
  have hcut:qOf (qAj p) ((64*k:Nat):Int) (IntKind.i64.wrap (((64*k:Nat):Int)+64))=qAj ((p.drop (64*k)).take 64):=by
   rw [e1]
   unfold qOf
   rw [Int.toNat_natCast,Int.toNat_natCast]
   unfold qAj;simp only [← List.map_take,← List.map_drop];congr 1
   first | (rw [List.drop_take];congr 1;omega) | (congr 1;omega) | (congr 2;omega)
  refine qBw ?_
  refine qAl (qDt (qAf ?_))
  refine wk hT rfl rfl ?_
  refine wk hT rfl rfl ?_
  refine wk hT rfl rfl ?_
  refine wk hT rfl rfl ?_
  refine wk hT rfl rfl ?_
  refine wk hT rfl rfl ?_
  rw [hcut]
  refine wwc hcp ?_
  refine ww ?_
  exact ⟨k+1,hk',by omega,⟨.refl _,.refl _,.int (by rw [e1];omega),trivial⟩,HLe.refl _⟩
 have hk':k=kk:=by simp only [decide_eq_false_iff_not] at c1;rw [e1,hel] at c1;omega
 subst hk'
 generalize sf k=v
 refine qAo ?_
 refine wwe ?_
 refine qAl (qAf ?_)
 refine wws ?_
 refine qBb 6 1 0 (es:=[]) (.inr ⟨rfl,rfl⟩) rfl ?_
 refine ww ?_
 refine qAq (ι:=Nat) (fun i=>[(4,.d (.sl 1 (qFc v))),(6,.sl 1 (qAj (qWk v i)) (.right 0)),(7,.I (i:Int))]) (fun i=>[.right 1 (qAj (qWk v i)).length]) (fun i=>i≤8) (fun i=>8-i) 0 (Nat.zero_le _)
  yf (HLe.refl _) ?_
 intro i hi
 have hol:=encB_length (qWk v i)
 have hln:=outN_length v i hi
 refine ww ?_
 refine qAa rfl (fun c2=>?_) (fun c2=>?_)
 ·have hi':i < 8:=by rw [encW_length] at c2;simp at c2;omega
  have hv:=encW_at v hi'
  have hs:=outN_succ v hi'
  generalize (vwL v).getD i 0=x at hv hs
  have hbs:([[Dat.int .u8 (IntKind.u8.wrap (Int.fdiv (wI x) (2 ^ (min (24:Int).toNat IntKind.u32.bits))))],[Dat.int .u8 (IntKind.u8.wrap (Int.fdiv (wI x) (2 ^ (min (16:Int).toNat IntKind.u32.bits))))],[Dat.int .u8 (IntKind.u8.wrap (Int.fdiv (wI x) (2 ^ (min (8:Int).toNat IntKind.u32.bits))))],[Dat.int .u8 (IntKind.u8.wrap (wI x))]]:List (List Dat))=qAj (qEn x):=by
   simp only [wshr,bW_wrap];rfl
  refine qBw ?_
  refine wwn ?_
  refine qBp (fun i=>bif Nat.beq i 25 then [0] else []) (fun i=>bif Nat.beq i 25 then [0] else []) mixed (by kernel_rfl) ?_
  refine wwg ?_
  refine qAk (os:=[]) (fun k hk1 hk2=>qAc (indexAddr_ok hT rfl rfl rfl rfl (by omega) hv)) rfl ?_
  refine wwg ?_
  refine qAk (os:=[]) (fun k hk1 hk2=>qAc (indexAddr_ok hT rfl rfl rfl rfl (by omega) hv)) rfl ?_
  refine wwg ?_
  refine qAk (os:=[]) (fun k hk1 hk2=>qAc (indexAddr_ok hT rfl rfl rfl rfl (by omega) hv)) rfl ?_
  refine wwg ?_
  refine qAk (os:=[]) (fun k hk1 hk2=>qAc (indexAddr_ok hT rfl rfl rfl rfl (by omega) hv)) rfl ?_
  refine wwg ?_
  refine qAk (os:=[]) (fun k hk1 hk2=>buildSl_ok hT rfl rfl) rfl ?_
  refine qAk (os:=[.right 1 (qAj (qWk v i)++qAj (qEn x)).length]) (v:=.sl 1 (qAj (qWk v i)++qAj (qEn x)) (.right 0)) (fun k hk1 hk2=>qAh (i:=0) (es2:=qAj (qEn x)) hT rfl rfl rfl rfl ((hk2 0 List.mem_cons_self).trans rfl) (congrArg some hbs) (by show ((qAj (qWk v i)).length+4)*(1+1)≤_;omega)) rfl ?_
  rw [← encB_append,← hs]
  refine wwg ?_
  refine ww ?_
  exact ⟨i+1,hi',by omega,⟨.refl _,.refl _,.int (by rw [qAe (by omega)];omega),trivial⟩,HLe.refl _⟩
 have hi':i=8:=by rw [encW_length] at c2;simp at c2;omega
 subst hi'
 rw [outN_all]
 refine ww ?_
 refine rq ⟨rfl,rfl⟩ rfl AV.le.dat
theorem vBo (a b:List UInt8) (hl:a.length+b.length≤1000000):Spec Tryz.prog 205 [.d (.sl 1 (qAj a)),.d (.sl 1 (qAj b))] [] (fun r h'=>r=.d (.sl 1 (qAj (a++b)))∧h'=[]):=by
 have ha:=encB_length a
 have hb:=encB_length b
 refine qAb hT Tryz.func205 rfl rfl rfl rfl ?_;intro E hE
 refine qAo ?_
 refine ww ?_
 refine qAd (qDm (i:=0) hT rfl rfl rfl (.inr rfl) (by simp) rfl rfl (by show (qAj a).length*(1+1)≤140737488355328;omega)) rfl ?_
 refine ww ?_
 refine qAd (qAh (i:=0) hT rfl rfl rfl rfl rfl rfl (by show ((qAj a).length+(qAj b).length)*(1+1)≤_;omega)) rfl ?_
 refine ww ?_
 refine rq ⟨rfl,rfl⟩ rfl (AV.le.dat' ?_)
 rw [encB_append]
theorem vLj (n:Nat):(List.replicate n [AV.d (.int .u8 0)]).flatten=qAn (List.replicate n 0):=by
 rw [qRm];unfold qAn;rw [List.map_replicate];rfl
theorem vFm (n:Nat) (hn:1≤n∧n≤1000000):Spec Tryz.prog 300 [.nils,.I (n:Int)] [.room] (fun r h'=>∃ cap:Nat,n≤cap∧r=.row 0 0 0 cap∧h'=[.row (qAn (List.replicate n 0))]):=by
 refine qAb hT Tryz.func300 rfl rfl rfl rfl ?_;intro E hE
 refine ww ?_
 refine qAa rfl (fun c1=>?_) (fun c1=>?_)
 ·exact absurd c1 (by simp)
 refine ww ?_
 refine qAd (qAc (capNil_ok (sz:=1) hT rfl rfl rfl)) rfl ?_
 refine ww ?_
 refine qAa rfl (fun c2=>?_) (fun c2=>?_)
 ·refine ww ?_
  refine qAd (qAc (capNil_ok (sz:=1) hT rfl rfl rfl)) rfl ?_
  refine qAd (qAc (nilCut_ok (sz:=1) hT rfl rfl rfl rfl)) rfl ?_
  refine ww ?_
  refine qCr (growMake_ok (k':=.i64) (n:=n) (i0:=0) (sz:=1) hT rfl rfl rfl (.inr rfl) ?_ ⟨by omega,by decide⟩ (by show n*(1+1)≤_;omega) rfl) rfl ?_
  ·exact congrArg (fun z=>AV.d (.int .i64 z)) (by show IntKind.i64.wrap ((n:Int)-IntKind.i64.wrap (0-0))=(n:Int);rw [show IntKind.i64.wrap ((0:Int)-0)=0 from rfl,qAe (by omega)];omega)
  rintro v h' ⟨cap,hcap,rfl,rfl⟩
  rw [vLj]
  refine ww ?_
  refine qAd (qAc (vJk (sz:=1) (l:=0) (r:=0) (v:=.row 0 0 0 cap) hT rfl rfl rfl rfl ⟨_,rfl⟩ (by omega) (by omega) (by simp))) rfl ?_
  refine ww ?_
  exact rq (h6:=by show (qCo 1 (qAn _)&&true)=true;rw [Bool.and_true];exact lowL_bytes _ _) ⟨cap,hcap,rfl,rfl⟩ rfl (.refl _)
 ·exfalso
  rw [qAe (n:=0-0) (by omega),qAe (by omega)] at c2
  simp at c2
  omega
theorem vCr:∀ (new:List UInt8) (pre old post:List UInt8),old.length=new.length→qBv (qAn (pre++old++post)) pre.length (qAn new)=qAn (pre++new++post)
 | [],pre,old,post,h=>by cases old with | nil=>rfl | cons _ _=>simp at h
 | c::new,pre,old,post,h=>by
  cases old with
  | nil=>simp at h
  | cons d old =>
   have e:(qAn (pre++d::old++post)).set pre.length (.d (.int .u8 (c.toNat:Int)))=qAn ((pre++[c])++old++post):=by
    unfold qAn
    rw [List.append_assoc,List.map_append,List.set_append_right _ _ (by simp)]
    simp
   have ih:=vCr new (pre++[c]) old post (by simpa using h)
   show qBv ((qAn (pre++d::old++post)).set pre.length (.d (.int .u8 (c.toNat:Int)))) (pre.length+1) (qAn new)=_
   rw [e]
   simpa using ih
theorem setRun_fill (pre new:List UInt8) {k:Nat} (h:new.length≤k):qBv (qAn (pre++List.replicate k 0)) (pre.length*1) (qBi (qAj new))=qAn (pre++new++List.replicate (k-new.length) 0):=by
 have e:List.replicate k (0:UInt8)=List.replicate new.length 0++List.replicate (k-new.length) 0:=by rw [List.replicate_append_replicate];congr 1;omega
 rw [flatAV_encB,Nat.mul_one,e,← List.append_assoc]
 exact vCr new pre _ _ (by simp)
theorem qKi (l:List (List UInt8)) (hl:l.length≤10) (h0:1≤l.flatten.length) (hb:l.flatten.length≤900000):Spec Tryz.prog 196 [.d (.sl 1 (qJy l))] [] (fun r h'=>r=.d (.sl 1 (qAj l.flatten))∧h'=[]):=by
 have hll:=encBs_length l
 have hle:=flatN_le l
 have hall:=flatN_all l
 have hsuc:∀ i,i < l.length→qMi l (i+1)=qMi l i++l.getD i []:=fun i h=>flatN_succ h
 have hz:qMi l 0=[]:=rfl
 have hg:=vFm l.flatten.length (by omega)
 generalize qMi l=fl at hle hall hsuc hz
 generalize l.flatten=tot at *
 refine qAb hT Tryz.func196 rfl rfl rfl rfl ?_;intro E hE
 refine ww ?_
 refine qAq (ι:=Nat) (fun i=>[(0,.d (.sl 1 (qJy l))),(3,.I ((fl i).length:Int)),(9,.d (.sl 1 (qJy l))),(10,.I (l.length:Int)),(11,.I (i:Int))]) (fun _=>[]) (fun i=>i≤l.length) (fun i=>l.length-i) 0 (Nat.zero_le _)
  ⟨.refl _,.int (by rw [hz];rfl),.refl _,.int (by rw [hll]),.refl _,trivial⟩ (HLe.refl _) ?_
 intro i hi
 refine ww ?_
 refine qAa rfl (fun c1=>?_) (fun c1=>?_)
 ·have hi':i < l.length:=by simp at c1;omega
  have hat:=encBs_at hi'
  have h1:=hle (i+1) hi'
  have hs:=hsuc i hi'
  have hlen:(fl (i+1)).length=(fl i).length+(l.getD i []).length:=by rw [hs,List.length_append]
  generalize l.getD i []=s at hat hs hlen
  have hel:=encB_length s
  refine ww ?_
  refine wwi hat ?_
  refine ww ?_
  refine qAa rfl (fun c2=>?_) (fun c2=>?_)
  ·exfalso
   rw [hel,qAe (by omega)] at c2
   simp at c2
   omega
  refine ww ?_
  exact ⟨i+1,hi',by omega,⟨.refl _,.int (by rw [hel,hlen,qAe (by omega)];omega),.refl _,.refl _,.int (by rw [qAe (by omega)];omega),trivial⟩,HLe.refl _⟩
 have hi':i=l.length:=by simp at c1;omega
 subst hi'
 rw [hall]
 refine qAo ?_
 refine ww ?_
 refine vFq (vNj rfl rfl hg [0] (by decide) rfl rfl rfl rfl (fun _=>by show (qCo 0 (qAn _)&&true)=true;rw [Bool.and_true];exact lowL_bytes _ _) (fun _=>rfl) (fun _=>rfl)) rfl ?_
 intro cap hcap
 refine ww ?_
 refine qAq (ι:=Nat) (fun i=>[(6,.row 0 0 (fl i).length cap),(25,.d (.sl 1 (qJy l))),(26,.I (l.length:Int)),(27,.I (i:Int))]) (fun i=>[.row (qAn (fl i++List.replicate (tot.length-(fl i).length) 0))]) (fun i=>i≤l.length) (fun i=>l.length-i) 0 (Nat.zero_le _)
  ⟨by rw [hz];exact .refl _,.refl _,.int (by rw [hll]),.refl _,trivial⟩ ⟨ObLe.row (by rw [hz];rfl),trivial⟩ ?_
 intro i hi
 refine ww ?_
 refine qAa rfl (fun c1=>?_) (fun c1=>?_)
 ·have hi':i < l.length:=by simp at c1;omega
  have hat:=encBs_at hi'
  have h1:=hle (i+1) hi'
  have hs:=hsuc i hi'
  have hlen:(fl (i+1)).length=(fl i).length+(l.getD i []).length:=by rw [hs,List.length_append]
  generalize l.getD i []=s at hat hs hlen
  have hel:=encB_length s
  have hfill:=setRun_fill (fl i) s (k:=tot.length-(fl i).length) (by omega)
  rw [← hs,show tot.length-(fl i).length-s.length=tot.length-(fl (i+1)).length by omega] at hfill
  refine ww ?_
  refine wwi hat ?_
  refine ww ?_
  refine qAd (appRowD_ok (i:=0) (es2:=qAj s) hT rfl rfl rfl rfl rfl rfl (by rw [hel];omega) (by show ((fl i).length+(qAj s).length)*1≤_;rw [hel,byteAV_length,List.length_append,List.length_replicate];omega)) rfl ?_
  refine ww ?_
  exact ⟨i+1,hi',by omega,⟨by rw [hel,← hlen];exact .refl _,.refl _,.refl _,.int (by rw [qAe (by omega)];omega),trivial⟩,⟨ObLe.row hfill,trivial⟩⟩
 have hi':i=l.length:=by simp at c1;omega
 subst hi'
 refine qLs ?_
 refine qAp (l:=[(6,.row 0 0 tot.length cap)]) (h':=[.row (qAn tot)]) ⟨by rw [hall];exact .refl _,trivial⟩ ⟨ObLe.row (by rw [hall,Nat.sub_self];simp),trivial⟩ ?_
 refine qKz 6 0 1 (qAj tot) rfl rfl (encB_length tot) hcap (qFe tot) ?_
 refine ww ?_
 exact wwr
theorem nbV_eq (v:List UInt8):nbV v=nbN v:=rfl
theorem qSz (b more:List UInt8) (h1:1≤more.length) (hl:b.length+more.length≤800000):Spec Tryz.prog 246 [.d (.sl 1 (qAj b)),.d (.sl 1 (qAj more))] [] (fun r h'=>r=.d (.sl 1 (qAj (qLa (b++more))))∧h'=[]):=by
 have hf:[b,more].flatten=b++more:=by simp
 have hc:=qKi [b,more] (by simp) (by rw [hf,List.length_append];omega) (by rw [hf,List.length_append];omega)
 have hs:=qSi (b++more) (by rw [List.length_append];omega)
 rw [hf] at hc
 generalize b++more=bm at hc hs
 refine qAb hT Tryz.func246 rfl rfl rfl rfl ?_;intro E hE
 refine ww ?_
 refine wwc hc ?_
 refine ww ?_
 refine wwc hs ?_
 refine ww ?_
 exact wwr
theorem qVd (seed:List UInt8) (n:Nat) (hs:seed.length≤500000) (h1:1≤n) (hn:n≤1024):Spec Tryz.prog 160 [.d (.sl 1 (qAj seed)),.I (n:Int)] [] (fun r h'=>r=.tup [.d (.sl 1 (qAj (qFj seed n))),.d (.sl 1 (qAj (qBe seed))),.I 0]∧h'=[]):=by
 have hdq:∀ i,n≤32*i→32*i < n+32→qFj seed n=(qOd seed i).take n:=drawS_eq seed n
 have hsu:∀ i,qOd seed (i+1)=qOd seed i++qLa (seed++1::qAw 4 i):=drawN_succ seed
 have hln:∀ i,(qOd seed i).length=32*i:=drawN_length seed
 have hz:qOd seed 0=[]:=rfl
 have hnx:=qSz seed [0] (by simp) (by simp;omega)
 have hnx2:qBe seed=qLa (seed++[0]):=rfl
 rw [← hnx2] at hnx
 generalize qBe seed=nx at hnx
 generalize qFj seed n=fin at hdq
 generalize qOd seed=dn at hdq hsu hln hz
 refine qAb hT Tryz.func160 rfl rfl rfl rfl ?_;intro E hE
 refine qAo ?_
 refine qAl (qAf ?_)
 refine wws ?_
 refine qBb 4 1 0 (es:=[]) (.inr ⟨rfl,rfl⟩) rfl ?_
 refine ww ?_
 refine qAa rfl (fun c1=>?_) (fun c1=>?_)
 ·exact absurd c1 (by simp;omega)
 refine ww ?_
 refine qAq (ι:=Nat) (fun i=>[(0,.d (.sl 1 (qAj seed))),(1,.I (n:Int)),(4,.sl 1 (qAj (dn i)) (.right 0)),(7,.I (i:Int))]) (fun i=>[.right 1 (qAj (dn i)).length]) (fun i=>32*i < n+32) (fun i=>n+32-32*i) 0 (by omega)
  ⟨.refl _,.refl _,.slt (by rw [hz];rfl),.refl _,trivial⟩ ⟨⟨rfl,by rw [hz];rfl⟩,trivial⟩ ?_
 intro i hi
 have hl:=hln i
 have hel:=encB_length (dn i)
 refine ww ?_
 refine qAa rfl (fun c2=>?_) (fun c2=>?_)
 ·have c2':32*i < n:=by simp at c2;omega
  have hs1:=hsu i
  have hoc:=qDn i 4 (by omega) (by omega)
  have h5:([[Dat.int .u8 1]]++qAj (qAw 4 i):List (List Dat))=qAj (1::qAw 4 i):=rfl
  have hol:=octB_length 4 i
  have hw:=qSz seed (1::qAw 4 i) (by simp) (by simp;omega)
  have hsl:=sumW_length (seed++1::qAw 4 i)
  generalize qLa (seed++1::qAw 4 i)=sm1 at hs1 hw hsl
  have hes:=encB_length sm1
  refine ww ?_
  refine wwc hoc ?_
  refine ww ?_
  refine qAd (qCz (es:=[[.int .u8 1]]) hT rfl rfl rfl (.inl rfl) rfl (by show (1+(qAj (qAw 4 i)).length)*(1+1)≤140737488355328;rw [encB_length,hol];omega)) rfl ?_
  rw [h5]
  refine ww ?_
  refine wwc hw ?_
  refine ww ?_
  refine qAd (qAh (i:=0) hT rfl rfl rfl rfl rfl rfl (by show ((qAj (dn i)).length+(qAj sm1).length)*(1+1)≤_;omega)) rfl ?_
  refine ww ?_
  exact ⟨i+1,by omega,by omega,⟨.refl _,.refl _,.slt (by rw [hs1,encB_append]),.int (by rw [qAe (by omega)];omega),trivial⟩,⟨⟨rfl,by rw [hs1,encB_append]⟩,trivial⟩⟩
 have c2':n≤32*i:=by simp at c2;omega
 rw [hdq i c2' hi]
 refine qLs ?_
 refine qAp (l:=[(0,.d (.sl 1 (qAj seed))),(1,.I (n:Int)),(4,.d (.sl 1 (qAj (dn i))))]) (h':=[.dead]) ⟨.refl _,.refl _,.dat,trivial⟩ ⟨trivial,trivial⟩ ?_
 refine ww ?_
 refine qBc (qAc (vHn (r:=n) hT rfl rfl rfl rfl rfl (by omega) (congrArg (fun z=>AV.d (.sl 1 z)) (encB_take _ _)))) rfl rfl ?_
 refine ww ?_
 refine wwc hnx ?_
 refine ww ?_
 exact wwr
theorem qG_val:qG=1073741789:=rfl
theorem nbN_lt7 (v:List UInt8) (h:v.length≤7):nbN v < 72057594037927936:=by
 have:=nbN_lt v
 exact Nat.lt_of_lt_of_le this (Nat.le_trans (Nat.pow_le_pow_right (by omega) h) (by decide))
theorem qOo (seed:List UInt8) (hs:seed.length≤500000):Spec Tryz.prog 161 [.d (.sl 1 (qAj seed))] [] (fun r h'=>r=.tup [.I (qCn seed:Int),.d (.sl 1 (qAj (qBe seed)))]∧h'=[]):=by
 have hd:=qVd seed 8 hs (by omega) (by omega)
 have hsq:=secS_eq seed
 rw [nbV_eq] at hsq
 have hdl:=drawS_length seed 8
 generalize qFj seed 8=ds at hd hsq hdl
 generalize qBe seed=nx at hd
 have hnm:=qMa (ds.take 7) (by rw [List.length_take];omega)
 have hlt:=nbN_lt7 (ds.take 7) (by rw [List.length_take];omega)
 rw [show vJq (ds.take 7)=(((nbN (ds.take 7):Nat):Int),0) by unfold vJq;rw [if_neg (by rw [List.length_take];omega)]] at hnm
 have hel:=encB_length ds
 have hcut:(qAj ds).take (7:Int).toNat=qAj (ds.take 7):=encB_take _ _
 generalize nbN (ds.take 7)=nb at hnm hsq hlt
 refine qAb hT Tryz.func161 rfl rfl rfl rfl ?_;intro E hE
 refine ww ?_
 refine wwc hd ?_
 refine ww ?_
 rw [hcut]
 refine ww ?_
 refine wwc hnm ?_
 refine ww ?_
 refine rq ⟨rfl,rfl⟩ rfl (AV.le.tup ⟨.int ?_,.refl _,trivial⟩)
 have hq:=qG_val
 have hm:Int.tmod (nb:Int) 1073741788=((nb % (qG-1):Nat):Int):=rfl
 have hml:nb % (qG-1) < qG-1:=Nat.mod_lt _ (by decide)
 show IntKind.i64.wrap (1+Int.tmod (nb:Int) 1073741788)=_
 rw [hm,hsq,qAe (by omega)];omega
theorem qUz (v:List UInt8) (hv:7≤v.length) (m:Nat) (hm:1≤m∧m≤4294967296):Spec Tryz.prog 207 [.d (.sl 1 (qAj v)),.I (m:Int)] [] (fun r h'=>r=.I ((nbV (v.take 7) % m:Nat):Int)∧h'=[]):=by
 rw [nbV_eq]
 have hnm:=qUy (v.take 7) (by rw [List.length_take];omega)
 have hlt:=nbN_lt7 (v.take 7) (by rw [List.length_take];omega)
 have hel:=encB_length v
 have hcut:(qAj v).take (7:Int).toNat=qAj (v.take 7):=encB_take _ _
 generalize nbN (v.take 7)=nb at hnm hlt
 refine qAb hT Tryz.func207 rfl rfl rfl rfl ?_;intro E hE
 refine ww ?_
 rw [hcut]
 refine ww ?_
 refine wwc hnm ?_
 refine ww ?_
 refine rq ⟨rfl,rfl⟩ rfl (.int rfl)
def qNi (k:Int):Bool:=decide (0 < k∧k < 1073741789)
theorem secF_nat {k:Nat} (h:1≤k∧k < qG):qNi (k:Int)=true:=by have:=qG_val;exact decide_eq_true (by omega)
theorem secF_get {k:Int} (h:qNi k=true):∃ n:Nat,k=(n:Int)∧1≤n∧n < qG:=by
 have hq:=qG_val
 have:=of_decide_eq_true h
 exact ⟨k.toNat,by omega,by omega,by omega⟩
theorem qVv (k:Int):Spec Tryz.prog 172 [.I k] [] (fun r h'=>r=.d (.bool (qNi k))∧h'=[]):=by
 refine qAb hT Tryz.func172 rfl rfl rfl rfl ?_;intro E hE
 refine ww ?_
 refine rq ⟨rfl,rfl⟩ rfl (.bool ?_)
 unfold qNi
 simp
theorem secretR_spec (k:Int):Spec Tryz.prog 208 [.I k] [] (fun r h'=>r=.d (.bool (qNi k))∧h'=[]):=by
 refine qAb hT Tryz.func208 rfl rfl rfl rfl ?_;intro E hE
 refine ww ?_
 refine rq ⟨rfl,rfl⟩ rfl (.bool ?_)
 unfold qNi
 rw [Bool.eq_iff_iff]
 simp
 omega
def qVm (k:Int):Int:=if qNi k=true then ((qFg k.toNat:Nat):Int) else 0
def qPd (k:Int):Int:=if qNi k=true then 0 else 3
theorem qHm (k:Int):Spec Tryz.prog 91 [.I k] [] (fun r h'=>r=.tup [.I (qVm k),.I (qPd k)]∧h'=[]):=by
 have hs:=qVv k
 unfold qVm qPd
 refine qAb hT Tryz.func91 rfl rfl rfl rfl ?_;intro E hE
 refine ww ?_
 refine wwc hs ?_
 refine ww ?_
 refine qAa rfl (fun c1=>?_) (fun c1=>?_)
 ·have c1':¬ qNi k=true:=by simpa using c1
  rw [if_neg c1',if_neg c1']
  refine ww ?_
  exact wwr
 have c1':qNi k=true:=by simpa using c1
 rw [if_pos c1',if_pos c1']
 obtain ⟨n,rfl,h1,h2⟩:=secF_get c1'
 have hp:=powerK_spec 4 n (by decide) (by omega)
 rw [Int.toNat_natCast]
 unfold qFg
 generalize 4 ^ n % pG=p at hp
 refine ww ?_
 refine wwc hp ?_
 refine ww ?_
 exact wwr
theorem qOp (x k:Nat) (hx:x < pG) (hk:k≤qG):Spec Tryz.prog 209 [.I (x:Int),.I (k:Int)] [] (fun r h'=>r=.I ((x ^ k % pG:Nat):Int)∧h'=[]):=by
 have hq:=qG_val
 have h:=qZk x k 30 hx (by omega) (Nat.lt_of_le_of_lt hk (by decide))
 rw [powX_eq 30 x k 1 (Nat.lt_of_le_of_lt hk (by decide)) (by decide),Nat.one_mul] at h
 exact h
theorem qUv (k:Int):Spec Tryz.prog 114 [.I k] [] (fun r h'=>r=.tup [.I (qVm k),.I (qPd k)]∧h'=[]):=by
 have hs:=secretR_spec k
 unfold qVm qPd
 refine qAb hT Tryz.func114 rfl rfl rfl rfl ?_;intro E hE
 refine ww ?_
 refine wwc hs ?_
 refine ww ?_
 refine qAa rfl (fun c1=>?_) (fun c1=>?_)
 ·have c1':¬ qNi k=true:=by simpa using c1
  rw [if_neg c1',if_neg c1']
  refine ww ?_
  exact wwr
 have c1':qNi k=true:=by simpa using c1
 rw [if_pos c1',if_pos c1']
 obtain ⟨n,rfl,h1,h2⟩:=secF_get c1'
 have hp:=qOp 4 n (by decide) (by omega)
 rw [Int.toNat_natCast]
 unfold qFg
 generalize 4 ^ n % pG=p at hp
 refine ww ?_
 refine wwc hp ?_
 refine ww ?_
 exact wwr
theorem qLp (x k:Nat) (hx:1≤x∧x < pG) (hk:k≤qG):Spec Tryz.prog 285 [.I (x:Int),.I (k:Int)] [] (fun r h'=>r=.tup [.I ((x ^ k % pG:Nat):Int),.I 0]∧h'=[]):=by
 have hq:=qG_val
 have hpg:pG=2147483579:=rfl
 have hr:=qFy (x:Int)
 rw [show qEy (x:Int)=true by unfold qEy;exact decide_eq_true (by omega)] at hr
 have hp:=powerK_spec x k hx.2 hk
 generalize x ^ k % pG=p at hp
 refine qAb hT Tryz.func285 rfl rfl rfl rfl ?_;intro E hE
 refine ww ?_
 refine wwc hr ?_
 refine ww ?_
 refine qAa rfl (fun c1=>?_) (fun c1=>?_)
 ·exact absurd c1 (by simp;omega)
 refine ww ?_
 refine wwc hp ?_
 refine ww ?_
 exact wwr
theorem numS_eq (n:Nat) (msg:List UInt8) (m:Nat):qNn n msg m=nbV ((qLa (qAw 4 n++msg)).take 7) % m:=rfl
theorem qIe (n:Nat) (msg:List UInt8) (m:Nat) (hn:n < 4294967296) (hl:msg.length≤700000) (hm:1≤m∧m≤4294967296):Spec Tryz.prog 284 [.I (n:Int),.d (.sl 1 (qAj msg)),.I (m:Int)] [] (fun r h'=>r=.I ((qNn n msg m:Nat):Int)∧h'=[]):=by
 have hoc:=qDn n 4 (by omega) (by omega)
 have hol:=octB_length 4 n
 have hfl:[qAw 4 n,msg].flatten=qAw 4 n++msg:=by simp
 have hc:=qKi [qAw 4 n,msg] (by simp) (by rw [hfl,List.length_append];omega) (by rw [hfl,List.length_append];omega)
 have hs:=qSi (qAw 4 n++msg) (by rw [List.length_append];omega)
 have he:=numS_eq n msg m
 rw [hfl] at hc
 have hsl:=sumW_length (qAw 4 n++msg)
 generalize qLa (qAw 4 n++msg)=sm1 at hs he hsl
 generalize qAw 4 n++msg=bm at hc hs
 have hnm:=qMa (sm1.take 7) (by rw [List.length_take];omega)
 rw [show vJq (sm1.take 7)=(((nbN (sm1.take 7):Nat):Int),0) by unfold vJq;rw [if_neg (by rw [List.length_take];omega)]] at hnm
 have hel:=encB_length sm1
 have hcut:(qAj sm1).take (7:Int).toNat=qAj (sm1.take 7):=encB_take _ _
 rw [nbV_eq] at he
 generalize nbN (sm1.take 7)=nb at hnm he
 generalize qNn n msg m=fin at he
 subst he
 refine qAb hT Tryz.func284 rfl rfl rfl rfl ?_;intro E hE
 refine ww ?_
 refine wwc hoc ?_
 refine ww ?_
 refine wwc hc ?_
 refine ww ?_
 refine wwc hs ?_
 refine ww ?_
 rw [hcut]
 refine wwc hnm ?_
 refine ww ?_
 refine rq ⟨rfl,rfl⟩ rfl (.int rfl)
theorem qPh (n:Nat) (msg:List UInt8) (hn:n < 4294967296) (hl:msg.length≤700000):Spec Tryz.prog 235 [.I (n:Int),.d (.sl 1 (qAj msg))] [] (fun r h'=>r=.I ((qNn n msg qG:Nat):Int)∧h'=[]):=by
 have hoc:=qVb n (by omega)
 have hol:=octB_length 4 n
 have hj:=vBo (qAw 4 n) msg (by omega)
 have hs:=vEz (qAw 4 n++msg) (by rw [List.length_append];omega)
 have he:=numS_eq n msg qG
 have hsl:=sumW_length (qAw 4 n++msg)
 generalize qLa (qAw 4 n++msg)=sm1 at hs he hsl
 generalize qAw 4 n++msg=bm at hj hs
 have hnm:=qUz sm1 (by omega) qG (by decide)
 rw [← he] at hnm
 generalize qNn n msg qG=fin at hnm
 refine qAb hT Tryz.func235 rfl rfl rfl rfl ?_;intro E hE
 refine ww ?_
 refine wwc hoc ?_
 refine ww ?_
 refine wwc hj ?_
 refine ww ?_
 refine wwc hs ?_
 refine ww ?_
 refine wwc hnm ?_
 refine ww ?_
 exact wwr
def vCo (k:Int) (msg:List UInt8):Int:=if qNi k=true then (((qEx k.toNat msg).1:Nat):Int) else 0
def vCn (k:Int) (msg:List UInt8):Int:=if qNi k=true then (((qEx k.toNat msg).2:Nat):Int) else 0
theorem signS_eq (k:Nat) (msg:List UInt8):qEx k msg=(qNn (qFg (1+qNn k msg (qG-1))) msg qG,(1+qNn k msg (qG-1)+qNn (qFg (1+qNn k msg (qG-1))) msg qG*k) % qG):=rfl
theorem qUp (k:Int) (msg:List UInt8) (hl:msg.length≤700000):Spec Tryz.prog 185 [.I k,.d (.sl 1 (qAj msg))] [] (fun r h'=>r=.tup [.agg [.I (vCo k msg),.I (vCn k msg)],.I (qPd k)]∧h'=[]):=by
 have hp:=qHm k
 unfold vCo vCn
 refine qAb hT Tryz.func185 rfl rfl rfl rfl ?_;intro E hE
 refine ww ?_
 refine wwc hp ?_
 refine ww ?_
 refine qAa rfl (fun c1=>?_) (fun c1=>?_)
 ·have c1':¬ qNi k=true:=by intro h;unfold qPd at c1;rw [if_pos h] at c1;simp at c1
  rw [if_neg c1',if_neg c1']
  refine ww ?_
  exact wwr
 have c1':qNi k=true:=by
  rcases Bool.eq_false_or_eq_true (qNi k) with h | h
  ·exact h
  ·unfold qPd at c1;rw [if_neg (by simp [h])] at c1;simp at c1
 rw [if_pos c1',if_pos c1']
 have he0:qPd k=0:=by unfold qPd;rw [if_pos c1']
 rw [he0]
 obtain ⟨n,rfl,h1,h2⟩:=secF_get c1'
 rw [Int.toNat_natCast]
 have hq:=qG_val
 have hpg:pG=2147483579:=rfl
 have hn1:=qIe n msg (qG-1) (by omega) hl (by decide)
 have hsg:=signS_eq n msg
 have hlt1:=numS_lt n msg (m:=qG-1) (by decide)
 generalize qNn n msg (qG-1)=a at hn1 hsg hlt1
 have hpw:=qLp 4 (1+a) (by decide) (by omega)
 have hps:qFg (1+a)=4 ^ (1+a) % pG:=rfl
 rw [← hps] at hpw
 have hpl:=pubS_lt (1+a)
 generalize qFg (1+a)=r at hpw hsg hpl
 have hn2:=qIe r msg qG (by omega) hl (by decide)
 have hlt2:=numS_lt r msg (m:=qG) (by decide)
 generalize qNn r msg qG=e at hn2 hsg hlt2
 rw [hsg]
 have hmul:e*n≤1152921504606846976:=Nat.le_trans (Nat.mul_le_mul (Nat.le_of_lt hlt2) (Nat.le_of_lt h2)) (by decide)
 have hw1:IntKind.i64.wrap (1+(a:Int))=((1+a:Nat):Int):=by rw [qAe (by omega)];omega
 have hw2:IntKind.i64.wrap ((e:Int)*(n:Int))=((e*n:Nat):Int):=by rw [← Int.natCast_mul];exact qAe (by omega)
 refine ww ?_
 refine wwc hn1 ?_
 refine ww ?_
 refine wwc hpw ?_
 refine ww ?_
 refine wwc hn2 ?_
 refine ww ?_
 refine rq ⟨rfl,rfl⟩ rfl (AV.le.tup ⟨AV.le.agg ⟨.refl _,.int ?_,trivial⟩,.refl _,trivial⟩)
 show Int.tmod (IntKind.i64.wrap (IntKind.i64.wrap (1+(a:Int))+IntKind.i64.wrap ((e:Int)*(n:Int)))) 1073741789=_
 rw [hw1,hw2,qAe (by omega),← Int.natCast_add]
 rfl
theorem strAt_nat (s:List UInt8) (i:Nat):qDs s (i:Int)=bI (s.getD i 0):=by
 unfold qDs bI
 rw [Int.toNat_natCast,List.getD_eq_getElem?_getD]
theorem allUp_of {s:List UInt8} (h:∀ j,j < s.length→qHz (s.getD j 0)=true):s.all qHz=true:=by
 rw [List.all_eq_true]
 intro c hc
 obtain ⟨j,hj,rfl⟩:=List.getElem_of_mem hc
 have:=h j hj
 rwa [List.getD_eq_getElem?_getD,List.getElem?_eq_getElem hj] at this
theorem allUp_not {s:List UInt8} {i:Nat} (hi:i < s.length) (h:qHz (s.getD i 0)=false):s.all qHz=false:=by
 rcases Bool.eq_false_or_eq_true (s.all qHz) with ha | ha
 ·rw [List.all_eq_true] at ha
  have:=ha s[i] (List.getElem_mem hi)
  rw [List.getD_eq_getElem?_getD,List.getElem?_eq_getElem hi] at h
  simp only [Option.getD_some] at h
  rw [this] at h;cases h
 ·exact ha
theorem qLo (s:List UInt8) (hs:s.length≤1000000000):Spec Tryz.prog 65 [.d (.str s)] [] (fun r h'=>r=.d (.bool (qCw s))∧h'=[]):=by
 refine qAb hT Tryz.func65 rfl rfl rfl rfl ?_;intro E hE
 refine ww ?_
 refine qAa rfl (fun c1=>?_) (fun c1=>?_)
 ·have:qCw s=false:=by
   unfold qCw
   rw [decide_eq_false (by simp at c1;omega)];rfl
  rw [this]
  refine ww ?_
  exact wwr
 have hlen:1≤s.length∧s.length≤3:=by simp at c1;omega
 have hsf:qCw s=s.all qHz:=by unfold qCw;rw [decide_eq_true hlen];rfl
 rw [hsf]
 refine ww ?_
 refine qAq (ι:=Nat) (fun i=>[(0,.d (.str s)),(13,.I (s.length:Int)),(14,.I (i:Int))]) (fun _=>[]) (fun i=>i≤s.length∧∀ j,j < i→qHz (s.getD j 0)=true) (fun i=>s.length-i) 0 ⟨Nat.zero_le _,fun j h=>by omega⟩
  yf (HLe.refl _) ?_
 intro i ⟨hi,hup⟩
 have hat:=strAt_nat s i
 refine ww ?_
 refine qAa rfl (fun c2=>?_) (fun c2=>?_)
 ·have hi':i < s.length:=by simp at c2;omega
  refine ww ?_
  refine qAa rfl (fun c3=>?_) (fun c3=>?_)
  ·have:s.all qHz=false:=by
    refine allUp_not hi' ?_
    rw [hat] at c3
    unfold qHz
    simp only [Bool.or_eq_true,decide_eq_true_eq] at c3
    exact decide_eq_false (by omega)
   rw [this]
   refine ww ?_
   exact wwr
  refine ww ?_
  refine ⟨i+1,⟨hi',fun j hj=>?_⟩,by omega,⟨.refl _,.refl _,.int (by rw [qAe (by omega)];omega),trivial⟩,HLe.refl _⟩
  rcases Nat.lt_or_ge j i with h | h
  ·exact hup j h
  ·have:j=i:=by omega
   subst this
   rw [hat] at c3
   unfold qHz
   simp only [Bool.or_eq_false_iff,decide_eq_false_iff_not] at c3
   exact decide_eq_true (by omega)
 have hi':i=s.length:=by simp at c2;omega
 subst hi'
 rw [allUp_of hup]
 refine ww ?_
 exact wwr
theorem qKe (n:Int):Spec Tryz.prog 242 [.I n] [] (fun r h'=>r=.d (.bool (qEu n))∧h'=[]):=by
 refine qAb hT Tryz.func242 rfl rfl rfl rfl ?_;intro E hE
 refine ww ?_
 refine rq ⟨rfl,rfl⟩ rfl (.bool ?_)
 unfold qEu
 rw [Bool.eq_iff_iff]
 simp
theorem chk3 (a b d:Bool) (x y k:Int):((!a||!b||!d||!((x == y) == (k == 1)))=true)↔(a=false∨b=false∨d=false∨(decide (x=y)≠decide (k=1))):=by
 rw [show (x == y)=decide (x=y) from rfl,show (k == 1)=decide (k=1) from rfl]
 generalize decide (x=y)=u
 generalize decide (k=1)=v
 cases a <;> cases b <;> cases d <;> cases u <;> cases v <;> simp
theorem qLq (c:Nal) (hs:c.sta.length≤1000000000):Spec Tryz.prog 155 [qEb c] [] (fun r h'=>r=.I (qCu c)∧h'=[]):=by
 have hst:=qLo c.sta hs
 have h1:=qKe c.num
 have h2:=qKe c.iss
 have h3:=qKe c.own
 have hel:=qFf c.key
 unfold qCu
 refine qAb hT Tryz.func155 rfl rfl rfl rfl ?_;intro E hE
 refine ww ?_
 refine wwc hst ?_
 refine ww ?_
 refine qAa rfl (fun c1=>?_) (fun c1=>?_)
 ·rw [if_pos (by simpa using c1)]
  refine ww ?_
  exact wwr
 rw [if_neg (by simpa using c1)]
 refine ww ?_
 refine qAa rfl (fun c2=>?_) (fun c2=>?_)
 ·rw [if_pos (by simp at c2;omega)]
  refine ww ?_
  exact wwr
 rw [if_neg (by simp at c2;omega)]
 refine ww ?_
 refine wwc h1 ?_
 refine ww ?_
 refine wwgc h2 ?_
 refine ww ?_
 refine wwgc h3 ?_
 refine ww ?_
 refine qAa rfl (fun c3=>?_) (fun c3=>?_)
 ·rw [if_pos ((chk3 _ _ _ _ _ _).1 c3)]
  refine ww ?_
  exact wwr
 rw [if_neg (fun h=>by rw [(chk3 _ _ _ _ _ _).2 h] at c3;cases c3)]
 refine ww ?_
 refine wwc hel ?_
 refine ww ?_
 refine qAa rfl (fun c4=>?_) (fun c4=>?_)
 ·rw [if_pos (by simpa using c4)]
  refine ww ?_
  exact wwr
 rw [if_neg (by simpa using c4)]
 refine ww ?_
 refine qAa rfl (fun c5=>?_) (fun c5=>?_)
 ·rw [if_pos (by simp at c5;omega)]
  refine ww ?_
  exact wwr
 rw [if_neg (by simp at c5;omega)]
 refine ww ?_
 exact wwr
theorem octB_at:∀ (m n k:Nat),k < m→(qAw m n)[k]?=some (UInt8.ofNat (n / 256 ^ (m-1-k) % 256))
 | 0,n,k,h=>by omega
 | m+1,n,0,h=>by rw [octB_succ];simp
 | m+1,n,k+1,h=>by
  rw [octB_succ,List.getElem?_cons_succ,octB_at m n k (by omega),show m+1-1-(k+1)=m-1-k by omega]
theorem octB_take (m n k:Nat) (h:k < m):(qAw m n).take (k+1)=(qAw m n).take k++[UInt8.ofNat (n / 256 ^ (m-1-k) % 256)]:=by
 rw [List.take_add_one,octB_at m n k h];rfl
def qQx (m:Nat) (l:List Nat) (i:Nat):List UInt8:=((l.take i).map (qAw m)).flatten
theorem wideN_succ (m:Nat) {l:List Nat} {i:Nat} (h:i < l.length):qQx m l (i+1)=qQx m l i++qAw m (l.getD i 0):=by
 unfold qQx
 rw [List.take_add_one,List.map_append,List.flatten_append,List.getElem?_eq_getElem h]
 simp [h]
theorem wideN_length (m:Nat) (l:List Nat):∀ i,i≤l.length→(qQx m l i).length=m*i
 | 0,_=>rfl
 | i+1,h=>by rw [wideN_succ m (by omega),List.length_append,wideN_length m l i (by omega),octB_length,Nat.mul_succ]
def vGe (m:Nat) (l:List Nat):List UInt8:=qQx m l l.length
theorem qJg (m:Nat) (l:List Nat) (hm:m≤7) (hl:l.length≤1000) (hn:∀ n,n∈l→n < 9223372036854775808):Spec Tryz.prog 343 [.I (m:Int),.d (.sl 1 (encNs' l))] [] (fun r h'=>r=.d (.sl 1 (qAj (vGe m l)))∧h'=[]):=by
 have hll:(encNs' l).length=l.length:=by simp [encNs']
 unfold vGe
 refine qAb hT Tryz.func343 rfl rfl rfl rfl ?_;intro E hE
 refine qAo ?_
 refine qAl (qAf ?_)
 refine wws ?_
 refine qAl (qAf ?_)
 refine wws ?_
 refine qBb 5 1 0 (es:=[]) (.inr ⟨rfl,rfl⟩) rfl ?_
 refine ww ?_
 refine qAq (ι:=Nat) (fun i=>[(0,.I (m:Int)),(5,.sl 1 (qAj (qQx m l i)) (.right 0)),(9,.d (.sl 1 (encNs' l))),(10,.I (l.length:Int)),(11,.I (i:Int))]) (fun i=>[.right 1 (qAj (qQx m l i)).length]) (fun i=>i≤l.length) (fun i=>l.length-i) 0 (Nat.zero_le _)
  ⟨.refl _,.refl _,.refl _,.int (by rw [hll]),.refl _,trivial⟩ (HLe.refl _) ?_
 intro i hi
 have hwl:=wideN_length m l i hi
 have hml:m*i≤7*1000:=Nat.mul_le_mul hm (by omega)
 refine ww ?_
 refine qAa rfl (fun c1=>?_) (fun c1=>?_)
 ·have hi':i < l.length:=by simp at c1;omega
  have hat:=encNs'_at hi'
  have hsu:=wideN_succ m hi'
  have hnb:l.getD i 0 < 9223372036854775808:=by
   rw [List.getD_eq_getElem?_getD,List.getElem?_eq_getElem hi'];exact hn _ (List.getElem_mem hi')
  generalize l.getD i 0=n at hat hsu hnb
  generalize qQx m l i=pre at hwl hsu ⊢
  have hol:=octB_length m n
  refine ww ?_
  refine wwi hat ?_
  refine ww ?_
  refine qAq (ι:=Nat) (fun k=>[(0,.I (m:Int)),(5,.sl 1 (qAj (pre++(qAw m n).take k)) (.right 0)),(7,.I (n:Int)),(8,.I ((m:Int)-1-(k:Int))),(9,.d (.sl 1 (encNs' l))),(10,.I (l.length:Int)),(11,.I (i:Int))]) (fun k=>[.right 1 (qAj (pre++(qAw m n).take k)).length]) (fun k=>k≤m) (fun k=>m-k) 0 (Nat.zero_le _)
   ⟨.refl _,.slt (by rw [List.take_zero,List.append_nil]),.refl _,.int (by rw [qAe (by omega)];omega),.refl _,.refl _,.refl _,trivial⟩ ⟨⟨rfl,by rw [List.take_zero,List.append_nil]⟩,trivial⟩ ?_
  intro k hk
  have hlk:(qAj (pre++(qAw m n).take k)).length=pre.length+k:=by rw [encB_length,List.length_append,List.length_take,hol];omega
  refine ww ?_
  refine qAa rfl (fun c2=>?_) (fun c2=>?_)
  ·have hk':k < m:=by simp at c2;omega
   have hs:qAj (pre++(qAw m n).take (k+1))=qAj (pre++(qAw m n).take k)++[[.int .u8 ((UInt8.ofNat (n / 256 ^ (m-1-k) % 256)).toNat:Int)]]:=by
    rw [octB_take m n k hk',← List.append_assoc,encB_append];rfl
   have hw8:IntKind.i64.wrap (8*((m:Int)-1-(k:Int)))=((8*(m-1-k):Nat):Int):=by rw [qAe (by omega)];omega
   have hnn:0≤IntKind.i64.wrap (8*((m:Int)-1-(k:Int))):=by rw [hw8];omega
   have hbyte:IntKind.u8.wrap (Int.fdiv (n:Int) (2 ^ (min (IntKind.i64.wrap (8*((m:Int)-1-(k:Int)))).toNat IntKind.i64.bits)))=((UInt8.ofNat (n / 256 ^ (m-1-k) % 256)).toNat:Int):=by
    rw [hw8,qIn n (8*(m-1-k)) hnb,show min (8*(m-1-k)) 64=8*(m-1-k) by omega,Nat.pow_mul]
   refine ww ?_
   refine qAd (qAh (i:=0) hT rfl rfl rfl rfl rfl rfl (by show ((qAj (pre++(qAw m n).take k)).length+1)*(1+1)≤_;omega)) rfl ?_
   refine ww ?_
   exact ⟨k+1,hk',by omega,⟨.refl _,.slt (by rw [hs,← hbyte]),.refl _,.int (by rw [qAe (by omega)];omega),.refl _,.refl _,.refl _,trivial⟩,⟨⟨rfl,by rw [hs,← hbyte]⟩,trivial⟩⟩
  have hk':k=m:=by simp at c2;omega
  subst hk'
  have ht:pre++(qAw k n).take k=qQx k l (i+1):=by rw [hsu,List.take_of_length_le (by rw [hol];omega)]
  rw [ht]
  refine ww ?_
  exact ⟨i+1,hi',by omega,⟨.refl _,.refl _,.refl _,.refl _,.int (by rw [qAe (by omega)];omega),trivial⟩,HLe.refl _⟩
 have hi':i=l.length:=by simp at c1;omega
 subst hi'
 refine ww ?_
 refine rq ⟨rfl,rfl⟩ rfl AV.le.dat
theorem chk0 {c:Nal} (h:qCu c=0):qCw c.sta=true∧(1≤c.kind∧c.kind≤4)∧(1≤c.num∧c.num≤1073741824)∧(1≤c.iss∧c.iss≤1073741824)∧(1≤c.own∧c.own≤1073741824)∧qDj c.key=true∧0≤c.frm∧c.frm≤c.unt∧c.unt≤c.til∧c.til≤73048:=by
 unfold qCu at h
 split at h
 ·cases h
 rename_i h1
 split at h
 ·cases h
 rename_i h2
 split at h
 ·cases h
 rename_i h3
 split at h
 ·cases h
 rename_i h4
 split at h
 ·cases h
 rename_i h5
 simp only [not_or,Bool.not_eq_false] at h1 h3 h4
 have a1:1≤c.num∧c.num≤1073741824:=of_decide_eq_true h3.1
 have a2:1≤c.iss∧c.iss≤1073741824:=of_decide_eq_true h3.2.1
 have a3:1≤c.own∧c.own≤1073741824:=of_decide_eq_true h3.2.2.1
 exact ⟨h1,by omega,a1,a2,a3,h4,by omega,by omega,by omega,by omega⟩
theorem stateF_len {s:List UInt8} (h:qCw s=true):s.length≤3:=by
 unfold qCw at h
 rw [Bool.and_eq_true] at h
 exact (of_decide_eq_true h.1).2
theorem wide1 (m n:Nat):vGe m [n]=qAw m n:=by
 show ([qAw m n]:List (List UInt8)).flatten=_
 simp
theorem wide3 (m a b c:Nat):vGe m [a,b,c]=qAw m a++qAw m b++qAw m c:=by
 show ([qAw m a,qAw m b,qAw m c]:List (List UInt8)).flatten=_
 simp
theorem vNf {n:Nat} (h:n < 256):IntKind.u8.wrap (n:Int)=((UInt8.ofNat n).toNat:Int):=by rw [wrapu8 (by omega),toNat_ofNat h]
theorem qPy (c:Nal) (h:qCu c=0):Spec Tryz.prog 275 [qEb c] [] (fun r h'=>r=.tup [nAV (qBk c),.I 0]∧h'=[]):=by
 obtain ⟨q1,q2,q3,q4,q5,q6,q7⟩:=chk0 h
 have hkr:=elemG_range q6
 have hge:=qGf c.key
 rw [if_pos q6,if_pos q6] at hge
 obtain ⟨sta,kind,num,iss,own,key,frm,unt,til,sE,sS⟩:=c
 simp only at q1 q2 q3 q4 q5 q6 q7 hkr hge
 clear h
 obtain ⟨kind,rfl⟩:=Int.eq_ofNat_of_zero_le (show 0≤kind by omega)
 obtain ⟨num,rfl⟩:=Int.eq_ofNat_of_zero_le (show 0≤num by omega)
 obtain ⟨iss,rfl⟩:=Int.eq_ofNat_of_zero_le (show 0≤iss by omega)
 obtain ⟨own,rfl⟩:=Int.eq_ofNat_of_zero_le (show 0≤own by omega)
 obtain ⟨key,rfl⟩:=Int.eq_ofNat_of_zero_le (show 0≤key by omega)
 obtain ⟨frm,rfl⟩:=Int.eq_ofNat_of_zero_le (show 0≤frm by omega)
 obtain ⟨unt,rfl⟩:=Int.eq_ofNat_of_zero_le (show 0≤unt by omega)
 obtain ⟨til,rfl⟩:=Int.eq_ofNat_of_zero_le (show 0≤til by omega)
 rw [Int.toNat_natCast] at hge
 have w1:=qJg 4 [num] (by omega) (by simp) (fun n hn=>by simp at hn;omega)
 have w2:=qJg 4 [iss] (by omega) (by simp) (fun n hn=>by simp at hn;omega)
 have w3:=qJg 4 [own] (by omega) (by simp) (fun n hn=>by simp at hn;omega)
 have w4:=qJg 3 [frm,unt,til] (by omega) (by simp) (fun n hn=>by simp at hn;omega)
 rw [wide1] at w1 w2 w3
 rw [wide3] at w4
 have hbd:qBk ⟨sta,(kind:Int),(num:Int),(iss:Int),(own:Int),(key:Int),(frm:Int),(unt:Int),(til:Int),sE,sS⟩=.mk 48 [] [.mk 19 sta [],.mk 129 [UInt8.ofNat kind] [],.mk 130 (qAw 4 num) [],.mk 131 (qAw 4 iss) [],.mk 132 (qAw 4 own) [],.mk 133 (qAw 4 key) [],.mk 134 (qAw 3 frm++qAw 3 unt++qAw 3 til) []]:=rfl
 rw [hbd]
 have hkb:=vNf (n:=kind) (by omega)
 generalize qAw 4 num=b1 at w1 ⊢
 generalize qAw 4 iss=b2 at w2 ⊢
 generalize qAw 4 own=b3 at w3 ⊢
 generalize qAw 4 key=b4 at hge ⊢
 generalize qAw 3 frm++qAw 3 unt++qAw 3 til=b5 at w4 ⊢
 refine qAb hT Tryz.func275 rfl rfl rfl rfl ?_;intro E hE
 refine ww ?_
 refine wwc hge ?_
 refine ww ?_
 refine qAa rfl (fun c1=>?_) (fun c1=>?_)
 ·exact absurd c1 (by simp)
 refine qBw ?_
 refine wwn ?_
 refine qBp (fun i=>bif Nat.beq i 37 then [1] else [0]) (fun i=>bif Nat.beq i 37 then [1] else []) mixed (by kernel_rfl) ?_
 refine wwg ?_
 refine qAk (os:=[]) (fun k hk1 hk2=>strBytes_ok hT rfl rfl rfl) rfl ?_
 refine wwg ?_
 refine qAk (os:=[]) (fun k hk1 hk2=>buildSl_ok hT rfl rfl) rfl ?_
 refine wwg ?_
 refine qAk (os:=[]) (fun k hk1 hk2=>buildSl_ok hT rfl rfl) rfl ?_
 refine wwdc w1 ?_
 refine wwg ?_
 refine qAk (os:=[]) (fun k hk1 hk2=>buildSl_ok hT rfl rfl) rfl ?_
 refine wwdc w2 ?_
 refine wwg ?_
 refine qAk (os:=[]) (fun k hk1 hk2=>buildSl_ok hT rfl rfl) rfl ?_
 refine wwdc w3 ?_
 refine wwg ?_
 refine qAk (os:=[]) (fun k hk1 hk2=>buildSl_ok hT rfl rfl) rfl ?_
 refine wwdc w4 ?_
 refine wwg ?_
 refine qAk (os:=[]) (fun k hk1 hk2=>buildSl_ok hT rfl rfl) rfl ?_
 refine wwg ?_
 refine ww ?_
 refine rq ⟨rfl,rfl⟩ rfl (AV.le.tup ⟨AV.le.agg ⟨.refl _,AV.le.dat' rfl,AV.le.dat' ?_,trivial⟩,.refl _,trivial⟩)
 rw [hkb]
 rfl
theorem qSb {c:Nal} (h:qCu c=0):qJx [qBk c]:=by
 have hl:=stateF_len (chk0 h).1
 unfold qBk
 refine ⟨⟨⟨by omega,by omega⟩,by simp,by simp,?_⟩,trivial⟩
 refine ⟨?_,?_,?_,?_,?_,?_,?_,trivial⟩ <;> refine ⟨⟨by omega,by omega⟩,?_,by simp,trivial⟩ <;> (try simp [octB_length]) <;> omega
theorem qOh (c:Nal):qAu [qBk c]≤20:=by simp [qBk,qAu,qCg]
theorem bytesNl_eq (c:Nal):qHg c=if qCu c≠0 then ([],qCu c) else (wrL [qBk c],0):=rfl
theorem qQr (c:Nal) (hs:c.sta.length≤1000000000):Spec Tryz.prog 241 [qEb c] [] (fun r h'=>r=.tup [.d (.sl 1 (qAj (qHg c).1)),.d (.int .i64 (qHg c).2)]∧h'=[]):=by
 have hck:=qLq c hs
 rw [bytesNl_eq]
 by_cases hc:qCu c=0
 ·have htr:=qPy c hc
  have hbl:=qHh c (stateF_len (chk0 hc).1)
  have hen:=qFv [qBk c] (by simp) (qSb hc) (Nat.le_trans (qOh c) (by omega)) (by omega)
  rw [qZf c (stateF_len (chk0 hc).1)] at hen
  rw [hc] at hck
  rw [if_neg (by simpa using hc)]
  generalize hB:qBk c=B at htr hen
  obtain ⟨bt,bv,bk⟩:=B
  simp only at hen ⊢
  refine qAb hT Tryz.func241 rfl rfl rfl rfl ?_;intro E hE
  refine ww ?_
  refine wwc hck ?_
  refine ww ?_
  refine qAa rfl (fun c1=>?_) (fun c1=>?_)
  ·exact absurd c1 (by simp)
  refine ww ?_
  refine wwc htr ?_
  refine ww ?_
  refine qAa rfl (fun c2=>?_) (fun c2=>?_)
  ·exact absurd c2 (by simp)
  refine ww ?_
  refine wwc hen ?_
  refine ww ?_
  exact wwr
 ·rw [if_pos hc]
  generalize qCu c=e at hck hc
  refine qAb hT Tryz.func241 rfl rfl rfl rfl ?_;intro E hE
  refine ww ?_
  refine wwc hck ?_
  refine ww ?_
  refine qAa rfl (fun c1=>?_) (fun c1=>?_)
  ·refine ww ?_
   exact wwr
  ·exact absurd c1 (by simpa using hc)
def vLy (k:Int) (c:Nal):Nal×Int:=if qCu c≠0 then (nl0,qCu c) else if qNi k=false then (nl0,3) else (qBm k.toNat c,0)
theorem qXp (k:Int) (c:Nal) (hs:c.sta.length≤1000000000):Spec Tryz.prog 154 [.I k,qEb c] [] (fun r h'=>r=.tup [qEb (vLy k c).1,.d (.int .i64 (vLy k c).2)]∧h'=[]):=by
 have hbd:=qQr c hs
 rw [bytesNl_eq] at hbd
 unfold vLy
 by_cases hc:qCu c=0
 ·rw [if_neg (by simpa using hc)] at hbd ⊢
  simp only at hbd
  have hbl:=qHh c (stateF_len (chk0 hc).1)
  have hsg:=qUp k (wrL [qBk c]) (by omega)
  by_cases hk:qNi k=true
  ·rw [if_neg (by simp [hk])]
   rw [show qPd k=0 by unfold qPd;rw [if_pos hk],show vCo k (wrL [qBk c])=(((qEx k.toNat (wrL [qBk c])).1:Nat):Int) by unfold vCo;rw [if_pos hk],show vCn k (wrL [qBk c])=(((qEx k.toNat (wrL [qBk c])).2:Nat):Int) by unfold vCn;rw [if_pos hk]] at hsg
   have hii:qBm k.toNat c={ c with sE:=((qEx k.toNat (wrL [qBk c])).1:Nat),sS:=((qEx k.toNat (wrL [qBk c])).2:Nat) }:=rfl
   rw [hii]
   generalize (((qEx k.toNat (wrL [qBk c])).1:Nat):Int)=x at hsg ⊢
   generalize (((qEx k.toNat (wrL [qBk c])).2:Nat):Int)=y at hsg ⊢
   generalize wrL [qBk c]=B at hbd hsg
   clear hii hc hbl
   refine qAb hT Tryz.func154 rfl rfl rfl rfl ?_;intro E hE
   refine ww ?_
   refine wwc hbd ?_
   refine ww ?_
   refine qAa rfl (fun c1=>?_) (fun c1=>?_)
   ·exact absurd c1 (by simp)
   refine ww ?_
   refine wwc hsg ?_
   refine ww ?_
   refine qAa rfl (fun c2=>?_) (fun c2=>?_)
   ·exact absurd c2 (by simp)
   refine ww ?_
   exact wwr
  ·rw [if_pos (by simpa using hk)]
   rw [show qPd k=3 by unfold qPd;rw [if_neg hk],show vCo k (wrL [qBk c])=0 by unfold vCo;rw [if_neg hk],show vCn k (wrL [qBk c])=0 by unfold vCn;rw [if_neg hk]] at hsg
   generalize wrL [qBk c]=B at hbd hsg
   clear hc hbl
   refine qAb hT Tryz.func154 rfl rfl rfl rfl ?_;intro E hE
   refine ww ?_
   refine wwc hbd ?_
   refine ww ?_
   refine qAa rfl (fun c1=>?_) (fun c1=>?_)
   ·exact absurd c1 (by simp)
   refine ww ?_
   refine wwc hsg ?_
   refine ww ?_
   refine qAa rfl (fun c2=>?_) (fun c2=>?_)
   ·refine ww ?_
    exact wwr
   ·exact absurd c2 (by simp)
 ·rw [if_pos hc] at hbd ⊢
  simp only at hbd
  generalize qCu c=e at hbd hc
  refine qAb hT Tryz.func154 rfl rfl rfl rfl ?_;intro E hE
  refine ww ?_
  refine wwc hbd ?_
  refine ww ?_
  refine qAa rfl (fun c1=>?_) (fun c1=>?_)
  ·refine ww ?_
   exact wwr
  ·exact absurd c1 (by simpa using hc)
theorem qSj (s:List UInt8) (hs:s.length≤1000000000):Spec Tryz.prog 69 [.d (.str s)] [] (fun r h'=>r=.d (.bool (qCw s))∧h'=[]):=by
 refine qAb hT Tryz.func69 rfl rfl rfl rfl ?_;intro E hE
 refine ww ?_
 refine qAq (ι:=Nat) (fun i=>[(0,.d (.str s)),(3,.I (i:Int))]) (fun _=>[]) (fun i=>i≤s.length∧∀ j,j < i→qHz (s.getD j 0)=true) (fun i=>s.length-i) 0 ⟨Nat.zero_le _,fun j h=>by omega⟩
  yf (HLe.refl _) ?_
 intro i ⟨hi,hup⟩
 have hat:=strAt_nat s i
 refine ww ?_
 refine qAa rfl (fun c2=>?_) (fun c2=>?_)
 ·have hi':i < s.length:=by simp at c2;omega
  refine ww ?_
  refine qAa rfl (fun c3=>?_) (fun c3=>?_)
  ·have:s.all qHz=false:=by
    refine allUp_not hi' ?_
    rw [hat] at c3
    unfold qHz
    simp only [Bool.or_eq_true,decide_eq_true_eq] at c3
    exact decide_eq_false (by omega)
   rw [show qCw s=false by unfold qCw;rw [this,Bool.and_false]]
   refine ww ?_
   exact wwr
  refine ww ?_
  refine ⟨i+1,⟨hi',fun j hj=>?_⟩,by omega,⟨.refl _,.int (by rw [qAe (by omega)];omega),trivial⟩,HLe.refl _⟩
  rcases Nat.lt_or_ge j i with h | h
  ·exact hup j h
  ·have:j=i:=by omega
   subst this
   rw [hat] at c3
   unfold qHz
   simp only [Bool.or_eq_false_iff,decide_eq_false_iff_not] at c3
   exact decide_eq_true (by omega)
 have hi':i=s.length:=by simp at c2;omega
 subst hi'
 have hall:=allUp_of hup
 refine ww ?_
 refine rq ⟨rfl,rfl⟩ rfl (.bool ?_)
 unfold qCw
 rw [hall,Bool.and_true,Bool.eq_iff_iff]
 simp
 try omega
theorem qGk (n:Int):Spec Tryz.prog 312 [.I n] [] (fun r h'=>r=.d (.bool (qEu n))∧h'=[]):=by
 refine qAb hT Tryz.func312 rfl rfl rfl rfl ?_;intro E hE
 refine ww ?_
 refine rq ⟨rfl,rfl⟩ rfl (.bool ?_)
 unfold qEu
 rw [Bool.eq_iff_iff]
 simp
theorem qSu (c:Nal) (hs:c.sta.length≤1000000000):Spec Tryz.prog 227 [qEb c] [] (fun r h'=>r=.I (qCu c)∧h'=[]):=by
 have hst:=qSj c.sta hs
 have h1:=qGk c.num
 have h2:=qGk c.iss
 have h3:=qGk c.own
 have hel:=qHo c.key
 unfold qCu
 refine qAb hT Tryz.func227 rfl rfl rfl rfl ?_;intro E hE
 refine ww ?_
 refine wwc hst ?_
 refine ww ?_
 refine qAa rfl (fun c1=>?_) (fun c1=>?_)
 ·rw [if_pos (by simpa using c1)]
  refine ww ?_
  exact wwr
 rw [if_neg (by simpa using c1)]
 refine ww ?_
 refine qAa rfl (fun c2=>?_) (fun c2=>?_)
 ·rw [if_pos (by simp at c2;omega)]
  refine ww ?_
  exact wwr
 rw [if_neg (by simp at c2;omega)]
 refine ww ?_
 refine wwc h1 ?_
 refine ww ?_
 refine wwgc h2 ?_
 refine ww ?_
 refine wwgc h3 ?_
 refine ww ?_
 refine qAa rfl (fun c3=>?_) (fun c3=>?_)
 ·rw [if_pos ((chk3 _ _ _ _ _ _).1 c3)]
  refine ww ?_
  exact wwr
 rw [if_neg (fun h=>by rw [(chk3 _ _ _ _ _ _).2 h] at c3;cases c3)]
 refine ww ?_
 refine wwc hel ?_
 refine ww ?_
 refine qAa rfl (fun c4=>?_) (fun c4=>?_)
 ·rw [if_pos (by simpa using c4)]
  refine ww ?_
  exact wwr
 rw [if_neg (by simpa using c4)]
 refine ww ?_
 refine qAa rfl (fun c5=>?_) (fun c5=>?_)
 ·rw [if_pos (by simp at c5;omega)]
  refine ww ?_
  exact wwr
 rw [if_neg (by simp at c5;omega)]
 refine ww ?_
 exact wwr
theorem qDo (n m:Nat) (hm:m≤7) (hn:n < 9223372036854775808):Spec Tryz.prog 313 [.I (n:Int),.I (m:Int)] [] (fun r h'=>r=.sl 1 (qAj (qAw m n)) .full∧h'=[]):=by
 refine qAb hT Tryz.func313 rfl rfl rfl rfl ?_;intro E hE
 refine ww ?_
 refine qAd (makeRow_ok (n:=m) hT rfl rfl rfl rfl (by show 1*m≤_;omega) (by omega)) rfl ?_
 rw [vCb]
 refine ww ?_
 refine qAq (ι:=Nat) (fun i=>[(0,.I ((n / 256 ^ i:Nat):Int)),(5,.row 0 0 m m),(6,.I ((m:Int)-1-(i:Int)))]) (fun i=>[.row (qAn (List.replicate (m-i) 0++qAw i n))])
  (fun i=>i≤m) (fun i=>m-i) 0 (by omega) ⟨.int (by simp),.refl _,.int (by rw [qAe (by omega)];omega),trivial⟩ ⟨by simp [qAw];exact ObLe.refl _,trivial⟩ ?_
 intro i hi
 have hle:n / 256 ^ i≤n:=Nat.div_le_self _ _
 have hsu:n / 256 ^ i / 256=n / 256 ^ (i+1):=by rw [Nat.div_div_eq_div_mul,Nat.pow_succ]
 have hoc:=octB_succ i n
 generalize n / 256 ^ i=q at hle hsu hoc ⊢
 refine ww ?_
 refine qAa rfl (fun h3=>?_) (fun h3=>?_)
 ·have h3':i < m:=by simp at h3;omega
  have hby:IntKind.u8.wrap (Int.tmod (q:Int) 256)=((UInt8.ofNat (q % 256)).toNat:Int):=by
   rw [show Int.tmod (q:Int) 256=((q % 256:Nat):Int) from rfl,wrapu8 (by omega),toNat_ofNat (Nat.mod_lt _ (by omega))]
  have hrow:(qAn (List.replicate (m-i) 0++qAw i n)).set (m-1-i) (AV.d (.int .u8 (IntKind.u8.wrap (Int.tmod (q:Int) 256))))=qAn (List.replicate (m-(i+1)) 0++qAw (i+1) n):=by
   rw [hby,hoc,show m-i=(m-(i+1))+1 by omega,show m-1-i=m-(i+1) by omega]
   have:=qRb (0:UInt8) (UInt8.ofNat (q % 256)) (qAw i n) (m-(i+1))
   rw [← this]
   simp [qAn,List.map_set]
  have hlen:(qAn (List.replicate (m-i) 0++qAw i n)).length=m:=by rw [byteAV_length];simp [octB_length];omega
  generalize qAn (List.replicate (m-i) 0++qAw i n)=row at hrow hlen
  refine ww ?_
  refine qAd (qAc (rowAddr_ok (sz:=1) hT rfl rfl rfl rfl (by omega))) rfl ?_
  refine qDp (qEw hT rfl rfl rfl rfl rfl rfl (by show 0+((m:Int)-1-(i:Int)).toNat*1 < row.length;rw [hlen];omega)) rfl ?_
  refine ww ?_
  refine ⟨i+1,by omega,by omega,⟨.int ?_,.refl _,.int (by rw [qAe (by omega)];omega),trivial⟩,⟨?_,trivial⟩⟩
  ·rw [show Int.tdiv (q:Int) 256=((q / 256:Nat):Int) from rfl,hsu,qAe (by omega)]
  ·rw [← hrow]
   exact ObLe.row (by rw [show 0+((m:Int)-1-(i:Int)).toNat*1=m-1-i by omega];rfl)
 ·have h3':i=m:=by simp at h3;omega
  subst h3'
  rw [Nat.sub_self,List.replicate_zero,List.nil_append]
  refine wwe ?_
  refine vBw 5 0 1 (qAj (qAw i n)) rfl rfl (by rw [encB_length,octB_length]) (qFe _) ?_
  refine ww ?_
  exact wwr
theorem qEd (t:Int) (b:List UInt8):Spec Tryz.prog 229 [.I t,.d (.sl 1 (qAj b))] [] (fun r h'=>r=nAV (.mk t b [])∧h'=[]):=by
 refine qAb hT Tryz.func229 rfl rfl rfl rfl ?_;intro E hE
 refine ww ?_
 refine rq ⟨rfl,rfl⟩ rfl (AV.le.agg ⟨.refl _,.refl _,AV.le.dat' rfl,trivial⟩)
theorem bodyR_spec29 (c:Nal) (h:qCu c=0):Spec Tryz.prog 228 [qEb c] [] (fun r h'=>r=nAV (qBk c)∧h'=[]):=by
 obtain ⟨q1,q2,q3,q4,q5,q6,q7⟩:=chk0 h
 have hkr:=elemG_range q6
 have hge:=qUu c.key
 rw [if_pos q6,if_pos q6] at hge
 obtain ⟨sta,kind,num,iss,own,key,frm,unt,til,sE,sS⟩:=c
 simp only at q1 q2 q3 q4 q5 q6 q7 hkr hge
 clear h
 obtain ⟨kind,rfl⟩:=Int.eq_ofNat_of_zero_le (show 0≤kind by omega)
 obtain ⟨num,rfl⟩:=Int.eq_ofNat_of_zero_le (show 0≤num by omega)
 obtain ⟨iss,rfl⟩:=Int.eq_ofNat_of_zero_le (show 0≤iss by omega)
 obtain ⟨own,rfl⟩:=Int.eq_ofNat_of_zero_le (show 0≤own by omega)
 obtain ⟨key,rfl⟩:=Int.eq_ofNat_of_zero_le (show 0≤key by omega)
 obtain ⟨frm,rfl⟩:=Int.eq_ofNat_of_zero_le (show 0≤frm by omega)
 obtain ⟨unt,rfl⟩:=Int.eq_ofNat_of_zero_le (show 0≤unt by omega)
 obtain ⟨til,rfl⟩:=Int.eq_ofNat_of_zero_le (show 0≤til by omega)
 rw [Int.toNat_natCast] at hge
 have v1:=qDo num 4 (by omega) (by omega)
 have v2:=qDo iss 4 (by omega) (by omega)
 have v3:=qDo own 4 (by omega) (by omega)
 have v4:=qDo kind 1 (by omega) (by omega)
 have v5:=qDo frm 3 (by omega) (by omega)
 have v6:=qDo unt 3 (by omega) (by omega)
 have v7:=qDo til 3 (by omega) (by omega)
 rw [show qAw 1 kind=[UInt8.ofNat kind] by show [UInt8.ofNat (kind % 256)]=_;rw [Nat.mod_eq_of_lt (by omega)]] at v4
 have hbd:qBk ⟨sta,(kind:Int),(num:Int),(iss:Int),(own:Int),(key:Int),(frm:Int),(unt:Int),(til:Int),sE,sS⟩=.mk 48 [] [.mk 19 sta [],.mk 129 [UInt8.ofNat kind] [],.mk 130 (qAw 4 num) [],.mk 131 (qAw 4 iss) [],.mk 132 (qAw 4 own) [],.mk 133 (qAw 4 key) [],.mk 134 (qAw 3 frm++qAw 3 unt++qAw 3 til) []]:=rfl
 rw [hbd]
 have l5:=octB_length 3 frm
 have l6:=octB_length 3 unt
 have l7:=octB_length 3 til
 generalize qAw 4 num=b1 at v1 ⊢
 generalize qAw 4 iss=b2 at v2 ⊢
 generalize qAw 4 own=b3 at v3 ⊢
 generalize qAw 4 key=b4 at hge ⊢
 generalize qAw 3 frm=b5 at v5 l5 ⊢
 generalize qAw 3 unt=b6 at v6 l6 ⊢
 generalize qAw 3 til=b7 at v7 l7 ⊢
 refine qAb hT Tryz.func228 rfl rfl rfl rfl ?_;intro E hE
 refine ww ?_
 refine wwc hge ?_
 refine wws ?_
 refine qAo ?_
 refine qAl (qBp (fun i=>bif Nat.beq i 6||Nat.beq i 10 then [2] else [0]) (fun i=>bif Nat.beq i 6||Nat.beq i 10 then [2] else []) mixed (by kernel_rfl) ?_)
 refine wwg ?_
 refine wwdc v5 ?_
 refine wwg ?_
 refine wwdc v6 ?_
 refine qAk (v:=.sl 1 (qAj b5++qAj b6) (.right 2)) (os:=[.right 1 ((qAj b5).length+(qAj b6).length)]) (fun k hk1 hk2=>qKc (i:=2) hT rfl rfl rfl (.inl rfl) (by simp) ((hk2 2 List.mem_cons_self).trans rfl) rfl (by show ((qAj b5).length+(qAj b6).length)*(1+1)≤_;rw [encB_length,encB_length];omega)) rfl ?_
 refine wwg ?_
 refine wwdc v7 ?_
 refine qAk (v:=.sl 1 ((qAj b5++qAj b6)++qAj b7) (.right 2)) (os:=[.right 1 ((qAj b5++qAj b6)++qAj b7).length]) (fun k hk1 hk2=>qAh (i:=2) hT rfl rfl rfl rfl (by rw [List.length_append];exact (hk2 2 List.mem_cons_self).trans rfl) rfl (by show ((qAj b5++qAj b6).length+(qAj b7).length)*(1+1)≤_;rw [List.length_append,encB_length,encB_length,encB_length];omega)) rfl ?_
 refine wwg ?_
 rw [← encB_append,← encB_append]
 refine qAp (l:=[(1,.ptr 0 0),(2,.ptr 1 0),(3,.d (.sl 1 (qAj b4))),(5,.d (.sl 1 (qAj (b5++b6++b7))))]) (h':=[.row (qAv ⟨sta,(kind:Int),(num:Int),(iss:Int),(own:Int),(key:Int),(frm:Int),(unt:Int),(til:Int),sE,sS⟩),.row [.I 0,.sl 1 [] .full,.sl 3 [] .full],.dead])
  ⟨.refl _,.refl _,.refl _,.dat,trivial⟩ ⟨ObLe.refl _,ObLe.refl _,trivial,trivial⟩ ?_
 refine qAl (qBp (fun i=>bif Nat.beq i 26 then [1] else [0]) (fun i=>bif Nat.beq i 26 then [1] else []) mixed (by kernel_rfl) ?_)
 refine wwg ?_
 refine qAk (os:=[]) (fun k hk1 hk2=>strBytes_ok hT rfl rfl rfl) rfl ?_
 refine wwdc (qEd 19 sta) ?_
 refine wwg ?_
 refine wwdc v4 ?_
 refine wwdc (qEd 129 [UInt8.ofNat kind]) ?_
 refine wwg ?_
 refine wwdc v1 ?_
 refine wwdc (qEd 130 b1) ?_
 refine wwg ?_
 refine wwdc v2 ?_
 refine wwdc (qEd 131 b2) ?_
 refine wwg ?_
 refine wwdc v3 ?_
 refine wwdc (qEd 132 b3) ?_
 refine wwg ?_
 refine wwdc (qEd 133 b4) ?_
 refine wwg ?_
 refine wwdc (qEd 134 (b5++b6++b7)) ?_
 refine qAk (os:=[]) (fun k hk1 hk2=>buildSl_ok hT rfl rfl) rfl ?_
 refine wwg ?_
 refine ww ?_
 refine rq ⟨rfl,rfl⟩ rfl (AV.le.agg ⟨.refl _,AV.le.dat' rfl,AV.le.dat' rfl,trivial⟩)
theorem qVi (c:Nal) (hs:c.sta.length≤1000000000):Spec Tryz.prog 151 [qEb c] [] (fun r h'=>r=.tup [.d (.sl 1 (qAj (qHg c).1)),.d (.int .i64 (qHg c).2)]∧h'=[]):=by
 have hck:=qSu c hs
 rw [bytesNl_eq]
 by_cases hc:qCu c=0
 ·have htr:=bodyR_spec29 c hc
  have hbl:=qHh c (stateF_len (chk0 hc).1)
  have hen:=qVc [qBk c] (by simp) (qSb hc) (Nat.le_trans (qOh c) (by omega))
  rw [qZf c (stateF_len (chk0 hc).1)] at hen
  rw [hc] at hck
  rw [if_neg (by simpa using hc)]
  generalize hB:qBk c=B at htr hen
  obtain ⟨bt,bv,bk⟩:=B
  simp only at hen ⊢
  refine qAb hT Tryz.func151 rfl rfl rfl rfl ?_;intro E hE
  refine ww ?_
  refine wwc hck ?_
  refine ww ?_
  refine qAa rfl (fun c1=>?_) (fun c1=>?_)
  ·exact absurd c1 (by simp)
  refine ww ?_
  refine wwc htr ?_
  refine ww ?_
  refine wwc hen ?_
  refine ww ?_
  exact wwr
 ·rw [if_pos hc]
  generalize qCu c=e at hck hc
  refine qAb hT Tryz.func151 rfl rfl rfl rfl ?_;intro E hE
  refine ww ?_
  refine wwc hck ?_
  refine ww ?_
  refine qAa rfl (fun c1=>?_) (fun c1=>?_)
  ·refine ww ?_
   exact wwr
  ·exact absurd c1 (by simpa using hc)
def qKb (a:Aut):List AObj:=[.row (vKt a (.sl 11 (qAm a.roots) (.right 2)) (.sl 11 (qAm a.links) (.right 3)) (.sl 1 (encNs' a.secs) (.right 1))),.right 1 (encNs' a.secs).length,.right 11 (qAm a.roots).length,.right 11 (qAm a.links).length]
theorem qQb (day n:Int) (hd:0≤day∧day≤73048) (hn:0≤n∧n≤100000):Spec Tryz.prog 153 [.I day,.I n] [] (fun r h'=>r=.I (qGs day n)∧h'=[]):=by
 refine qAb hT Tryz.func153 rfl rfl rfl rfl ?_;intro E hE
 refine ww ?_
 refine qAd (qAc (qWp (t2:=#[]) rfl rfl rfl)) rfl ?_
 refine ww ?_
 refine qAd (qAc (qWp (t2:=#[]) rfl rfl rfl)) rfl ?_
 refine ww ?_
 refine rq ⟨rfl,rfl⟩ rfl (.int ?_)
 unfold qGs
 have e:(if (73048:Int) < day then (73048:Int) else day)=day:=if_neg (by omega)
 simp only [e]
 rw [qAe (by omega)]
 split <;> omega
theorem qIj (a:Aut) (hs:a.seed.length≤500000):Spec Tryz.prog 86 [.ptr 0 0] (qKb a) (fun r h'=>r=.I (qCn a.seed:Int)∧h'=qKb { a with seed:=qBe a.seed }):=by
 have hd:=qOo a.seed hs
 generalize hk:qCn a.seed=k at hd ⊢
 generalize hx:qBe a.seed=nx at hd ⊢
 obtain ⟨sta,roots,links,secs,signer,lister,sk,lk,next,list,rev,defs,seed⟩:=a
 simp only at hd ⊢
 refine qAb hT Tryz.func86 rfl rfl rfl rfl ?_;intro E hE
 refine ww ?_
 refine wwc hd ?_
 refine ww ?_
 exact wwr
theorem encNs'_len (l:List Nat):(encNs' l).length=l.length:=by simp [encNs']
theorem qIx (a:Aut) (kind:Int) (issuer own k:Nat) (day u t:Int) (hnx:a.next≤1000000) (hiss:1≤issuer∧issuer≤a.secs.length∧a.secs.length≤1000) (hk:1≤k∧k < qG) (hday:0≤day∧day≤73048) (hu:0≤u∧u≤100000∧0≤t∧t≤100000)
  (hsec:1≤a.secs.getD (issuer-1) 0∧a.secs.getD (issuer-1) 0 < qG) (hchk:qCu (qEc a kind issuer own k day u t)=0) :
  Spec Tryz.prog 73 [.ptr 0 0,.I kind,.I (issuer:Int),.I (own:Int),.I (k:Int),.I day,.I u,.I t] (qKb a)
   (fun r h'=>r=.tup [qEb (qBm (a.secs.getD (issuer-1) 0) (qEc a kind issuer own k day u t)),.I 0]∧h'=qKb { a with next:=a.next+1 }):=by
 have hp:=qHm (k:Int)
 have hsk:=secF_nat hk
 rw [show qVm (k:Int)=((qFg k:Nat):Int) by unfold qVm;rw [if_pos hsk,Int.toNat_natCast],show qPd (k:Int)=0 by unfold qPd;rw [if_pos hsk]] at hp
 have hl1:=qQb day u hday ⟨hu.1,hu.2.1⟩
 have hl2:=qQb day t hday ⟨hu.2.2.1,hu.2.2.2⟩
 have hcert:qEc a kind issuer own k day u t=⟨a.sta,kind,(a.next:Int),(issuer:Int),(own:Int),((qFg k:Nat):Int),day,qGs day u,qGs day t,0,0⟩:=rfl
 have hsl:=stateF_len (chk0 hchk).1
 have hsx:=secF_nat hsec
 have his:=qXp ((a.secs.getD (issuer-1) 0:Nat):Int) (qEc a kind issuer own k day u t) (by show a.sta.length≤_;have:(qEc a kind issuer own k day u t).sta=a.sta:=rfl;rw [this] at hsl;omega)
 rw [show vLy ((a.secs.getD (issuer-1) 0:Nat):Int) (qEc a kind issuer own k day u t)=(qBm (a.secs.getD (issuer-1) 0) (qEc a kind issuer own k day u t),0) by unfold vLy;rw [if_neg (by simpa using hchk),if_neg (by rw [hsx];simp),Int.toNat_natCast]] at his
 simp only at his
 have hat:=encNs'_at (l:=a.secs) (i:=issuer-1) (by omega)
 have hw1:IntKind.i64.wrap ((issuer:Int)-1)=((issuer-1:Nat):Int):=by rw [qAe (by omega)];omega
 generalize qBm (a.secs.getD (issuer-1) 0) (qEc a kind issuer own k day u t)=fin at his ⊢
 rw [hcert] at his
 generalize a.secs.getD (issuer-1) 0=sx at his hat
 generalize ((qFg k:Nat):Int)=pk at hp his
 generalize qGs day u=d1 at hl1 his
 generalize qGs day t=d2 at hl2 his
 clear hcert hsx hsl hchk
 obtain ⟨sta,roots,links,secs,signer,lister,sk,lk,next,list,rev,defs,seed⟩:=a
 simp only at *
 have hwn:IntKind.i64.wrap ((next:Int)+1)=((next+1:Nat):Int):=by rw [qAe (by omega)];omega
 refine qAb hT Tryz.func73 rfl rfl rfl rfl ?_;intro E hE
 refine ww ?_
 refine wwc hp ?_
 refine ww ?_
 refine qAa rfl (fun c1=>?_) (fun c1=>?_)
 ·exact absurd c1 (by simp)
 refine qBw ?_
 refine qAo ?_
 refine qAl (qBp (fun i=>bif Nat.beq i 20||Nat.beq i 21 then [5] else [0]) (fun i=>bif Nat.beq i 20||Nat.beq i 21 then [5] else []) mixed (by kernel_rfl) ?_)
 refine wwg ?_
 refine wwdc hl1 ?_
 refine wwg ?_
 refine wwdc hl2 ?_
 refine wwg ?_
 refine qAk (v:=.ptr 5 0) (os:=[.row (qAv nl0)]) (fun kk hk1 hk2=>allocAt_ok (i0:=5) (i:=⟨.struct [(0,1,false),(1,1,false),(2,1,false),(3,1,false),(4,1,false),(5,1,false),(6,1,false),(7,1,false),(8,1,false),(9,2,true)],11,96,qAv nl0⟩) hT rfl rfl ((hk2 5 List.mem_cons_self).trans rfl)) rfl ?_
 refine wwg ?_
 refine qAp (l:=[(0,.ptr 0 0),(2,.I (issuer:Int)),(16,.ptr 4 0),(20,.ptr 5 0)]) (h':=qKb ⟨sta,roots,links,secs,signer,lister,sk,lk,next,list,rev,defs,seed⟩++[.row (qAv nl0),.row (qAv ⟨sta,kind,(next:Int),(issuer:Int),(own:Int),pk,day,d1,d2,0,0⟩)])
  yf (HLe.refl _) ?_
 refine qAl (qAl (qBp (fun i=>bif Nat.beq i 3 then [0] else bif Nat.beq i 8||Nat.beq i 13 then [5] else []) (fun i=>bif Nat.beq i 13 then [5] else []) mixed (by kernel_rfl) ?_))
 refine wwg ?_
 refine qAk (os:=[]) (fun k hk1 hk2=>qAc (indexAddr_ok hT rfl rfl rfl rfl (by rw [hw1];omega) (by rw [hw1,Int.toNat_natCast];exact hat))) rfl ?_
 refine wwg ?_
 refine wwdc his ?_
 refine wwg ?_
 refine qAp (l:=[(0,.ptr 0 0),(16,.ptr 4 0),(19,.I 0),(20,.ptr 5 0)]) (h':=qKb ⟨sta,roots,links,secs,signer,lister,sk,lk,next,list,rev,defs,seed⟩++[.row (qAv nl0),.row (qAv fin)])
  yf (HLe.refl _) ?_
 refine ww ?_
 refine qAa rfl (fun c2=>?_) (fun c2=>?_)
 ·exact absurd c2 (by simp)
 refine qBw ?_
 refine qAl (qAf ?_)
 refine wws ?_
 rw [hwn]
 refine ww ?_
 exact wwr
def qOg (sta:List UInt8) (next:Nat) (kind:Int) (issuer own k:Nat) (day u t:Int):Nal:=⟨sta,kind,next,issuer,own,qFg k,day,qGs day u,qGs day t,0,0⟩
theorem certF_N (a:Aut) (kind:Int) (issuer own k:Nat) (day u t:Int):qEc a kind issuer own k day u t=qOg a.sta a.next kind issuer own k day u t:=rfl
theorem signersF_eq (a:Aut) (day:Int):qAz a day={ a with signer:=qBm (a.secs.getD (a.secs.length-1) 0) (qOg a.sta a.next 3 a.secs.length (1000+a.next) (qCn a.seed) day 90 3740),lister:=qBm (a.secs.getD (a.secs.length-1) 0) (qOg a.sta (a.next+1) 4 a.secs.length (1000+(a.next+1)) (qCn (qBe a.seed)) day 365 730),sk:=qCn a.seed,lk:=qCn (qBe a.seed),next:=a.next+1+1,seed:=qBe (qBe a.seed) }:=rfl
theorem qLz (a:Aut) (ha:AutOk a) (hn:a.next≤98) (hs:1≤a.secs.length∧a.secs.length≤100) (day:Int) (hday:0≤day∧day≤73048) :
  Spec Tryz.prog 68 [.ptr 0 0,.I day] (qKb a) (fun r h'=>r=.I 0∧h'=qKb (qAz a day)):=by
 rw [signersF_eq]
 have hnx:=ha.next
 have hst:=ha.sta
 have hlast:=ha.last hs.1
 have hr1:=secS_range a.seed
 have hr2:=secS_range (qBe a.seed)
 have hs1:=qIj a (by have:=ha.seed;omega)
 have hsl:(qBe a.seed).length=32:=sumW_length _
 have hs2:∀ b:Aut,b.seed=qBe a.seed→Spec Tryz.prog 86 [.ptr 0 0] (qKb b) (fun r h'=>r=.I (qCn (qBe a.seed):Int)∧h'=qKb { b with seed:=qBe (qBe a.seed) }):=fun b hb=>by
  have h:=qIj b (by rw [hb];omega)
  rw [hb] at h
  exact h
 obtain ⟨sta,roots,links,secs,signer,lister,sk,lk,next,list,rev,defs,seed⟩:=a
 simp only at *
 clear ha
 generalize qBe (qBe seed)=n2 at *
 generalize qCn (qBe seed)=k2 at *
 generalize qBe seed=n1 at *
 generalize qCn seed=k1 at *
 have hi1:=qIx ⟨sta,roots,links,secs,signer,lister,k1,lk,next,list,rev,defs,n1⟩ 3 secs.length (1000+next) k1 day 90 3740 (by show next≤_;omega) (by show 1≤secs.length∧secs.length≤secs.length∧secs.length≤1000;omega) hr1 hday (by omega) hlast
  (certF_chk hst (by show 1≤next∧next≤1000000;omega) (by omega) (by omega) (by omega) ⟨fun h=>by omega,fun h=>by omega⟩ hr1 hday (by omega))
 rw [certF_N] at hi1
 simp only at hi1
 generalize qBm (secs.getD (secs.length-1) 0) (qOg sta next 3 secs.length (1000+next) k1 day 90 3740)=c1 at *
 have hi2:=qIx ⟨sta,roots,links,secs,c1,lister,k1,k2,next+1,list,rev,defs,n2⟩ 4 secs.length (1000+(next+1)) k2 day 365 730 (by show next+1≤_;omega) (by show 1≤secs.length∧secs.length≤secs.length∧secs.length≤1000;omega) hr2 hday (by omega) hlast
  (certF_chk hst (by show 1≤next+1∧next+1≤1000000;omega) (by omega) (by omega) (by omega) ⟨fun h=>by omega,fun h=>by omega⟩ hr2 hday (by omega))
 rw [certF_N] at hi2
 simp only at hi2
 generalize qBm (secs.getD (secs.length-1) 0) (qOg sta (next+1) 4 secs.length (1000+(next+1)) k2 day 365 730)=c2 at *
 have hs2:=hs2 ⟨sta,roots,links,secs,c1,lister,k1,lk,next+1,list,rev,defs,n1⟩ rfl
 simp only at hs2
 have hlen:=encNs'_len secs
 have ew1:IntKind.i64.wrap (1000+(next:Int))=((1000+next:Nat):Int):=by rw [qAe (by omega)];omega
 have ew3:IntKind.i64.wrap (1000+((next+1:Nat):Int))=((1000+(next+1):Nat):Int):=by rw [qAe (by omega)];omega
 clear hlast hr1 hr2 hst
 refine qAb hT Tryz.func68 rfl rfl rfl rfl ?_;intro E hE
 refine ww ?_
 refine qAd (qBs (v:=.I (k1:Int)) (H':=qKb ⟨sta,roots,links,secs,signer,lister,sk,lk,next,list,rev,defs,n1⟩) rfl rfl hs1 [0,1,2,3] (by decide) rfl rfl rfl rfl rfl rfl) rfl ?_
 refine wws ?_
 refine qAp (l:=[(0,.ptr 0 0),(1,.I day)]) (h':=qKb ⟨sta,roots,links,secs,signer,lister,k1,lk,next,list,rev,defs,n1⟩) yf (HLe.refl _) ?_
 refine qAl (qAl (qBh (fun i=>bif Nat.beq i 5||Nat.beq i 10||Nat.beq i 15||Nat.beq i 23 then [0] else bif Nat.beq i 17 then [0,1,2,3] else []) (fun i=>bif Nat.beq i 17 then [0,1,2,3] else bif Nat.beq i 23 then [0] else []) mixed (by kernel_rfl) ?_))
 refine wwg ?_
 rw [hlen,ew1]
 refine qAk (v:=.tup [qEb c1,.I 0]) (os:=qKb ⟨sta,roots,links,secs,signer,lister,k1,lk,next+1,list,rev,defs,n1⟩) (fun k hk1 hk2=>qBs rfl rfl hi1 [0,1,2,3] (by decide)
  (by show [k[0]?,k[1]?,k[2]?,k[3]?]=_;rw [hk2 0 (by decide),hk2 1 (by decide),hk2 2 (by decide),hk2 3 (by decide)];rfl) rfl rfl rfl rfl rfl) rfl ?_
 refine wwg ?_
 refine qAp (l:=[(0,.ptr 0 0),(1,.I day),(5,.I 0)]) (h':=qKb ⟨sta,roots,links,secs,c1,lister,k1,lk,next+1,list,rev,defs,n1⟩) yf (HLe.refl _) ?_
 refine ww ?_
 refine qAa rfl (fun q1=>?_) (fun q1=>?_)
 ·exact absurd q1 (by simp)
 refine qBw ?_
 refine qAl (qAf ?_)
 refine wws ?_
 refine qAd (qBs (v:=.I (k2:Int)) (H':=qKb ⟨sta,roots,links,secs,c1,lister,k1,lk,next+1,list,rev,defs,n2⟩) rfl rfl hs2 [0,1,2,3] (by decide) rfl rfl rfl rfl rfl rfl) rfl ?_
 refine wws ?_
 refine qAp (l:=[(0,.ptr 0 0),(1,.I day)]) (h':=qKb ⟨sta,roots,links,secs,c1,lister,k1,k2,next+1,list,rev,defs,n2⟩) yf (HLe.refl _) ?_
 refine qAl (qBh (fun i=>bif Nat.beq i 5||Nat.beq i 10||Nat.beq i 15||Nat.beq i 23 then [0] else bif Nat.beq i 17 then [0,1,2,3] else []) (fun i=>bif Nat.beq i 17 then [0,1,2,3] else bif Nat.beq i 23 then [0] else []) mixed (by kernel_rfl) ?_)
 refine wwg ?_
 rw [hlen,ew3]
 refine qAk (v:=.tup [qEb c2,.I 0]) (os:=qKb ⟨sta,roots,links,secs,c1,lister,k1,k2,next+1+1,list,rev,defs,n2⟩) (fun k hk1 hk2=>qBs rfl rfl hi2 [0,1,2,3] (by decide)
  (by show [k[0]?,k[1]?,k[2]?,k[3]?]=_;rw [hk2 0 (by decide),hk2 1 (by decide),hk2 2 (by decide),hk2 3 (by decide)];rfl) rfl rfl rfl rfl rfl) rfl ?_
 refine wwg ?_
 refine qAp (l:=[(0,.ptr 0 0),(1,.I day),(5,.I 0)]) (h':=qKb ⟨sta,roots,links,secs,c1,c2,k1,k2,next+1+1,list,rev,defs,n2⟩) yf (HLe.refl _) ?_
 refine ww ?_
 exact wwr
theorem rootF_eq (a:Aut) (day:Int):qCb a day={ a with secs:=a.secs++[qCn a.seed],seed:=qBe a.seed,roots:=a.roots++[qBm (qCn a.seed) (qOg a.sta a.next 1 (a.secs.length+1) (a.secs.length+1) (qCn a.seed) day 1825 5475)],next:=a.next+1 }:=rfl
theorem encNs'_snoc (l:List Nat) (k:Nat):encNs' (l++[k])=encNs' l++[[.int .i64 (k:Int)]]:=by unfold encNs';rw [List.map_append];rfl
theorem encNls_snoc (l:List Nal) (c:Nal):qAm (l++[c])=qAm l++[qCt c]:=by unfold qAm;rw [List.map_append];rfl
theorem encNls_len (l:List Nal):(qAm l).length=l.length:=by simp [qAm]
theorem getD_snoc (l:List Nat) (k:Nat):(l++[k]).getD (l.length+1-1) 0=k:=by simp [List.getD_eq_getElem?_getD]
theorem qTl (a:Aut) (ha:AutOk a) (hn:a.next≤98) (hs:a.secs.length≤100∧a.roots.length≤100) (day:Int) (hday:0≤day∧day≤73048) :
  Spec Tryz.prog 67 [.ptr 0 0,.I day] (qKb a) (fun r h'=>r=.I 0∧h'=qKb (qCb a day)):=by
 rw [rootF_eq]
 have hnx:=ha.next
 have hst:=ha.sta
 have hr1:=secS_range a.seed
 have hs1:=qIj a (by have:=ha.seed;omega)
 obtain ⟨sta,roots,links,secs,signer,lister,sk,lk,next,list,rev,defs,seed⟩:=a
 simp only at *
 clear ha
 generalize qBe seed=n1 at *
 generalize qCn seed=k1 at *
 have hgd:=getD_snoc secs k1
 have hll:(secs++[k1]).length=secs.length+1:=by simp
 have hi1:=qIx ⟨sta,roots,links,secs++[k1],signer,lister,sk,lk,next,list,rev,defs,n1⟩ 1 (secs.length+1) (secs.length+1) k1 day 1825 5475 (by show next≤_;omega) (by show 1≤secs.length+1∧secs.length+1≤(secs++[k1]).length∧(secs++[k1]).length≤1000;omega) hr1 hday (by omega)
  (by show 1≤(secs++[k1]).getD (secs.length+1-1) 0∧(secs++[k1]).getD (secs.length+1-1) 0 < qG;rw [hgd];exact hr1)
  (certF_chk hst (by show 1≤next∧next≤1000000;omega) (by omega) (by omega) (by omega) ⟨fun _=>rfl,fun _=>rfl⟩ hr1 hday (by omega))
 rw [certF_N] at hi1
 simp only at hi1
 rw [hgd] at hi1
 generalize qBm k1 (qOg sta next 1 (secs.length+1) (secs.length+1) k1 day 1825 5475)=c1 at *
 have hlen:(encNs' (secs++[k1])).length=secs.length+1:=by rw [encNs'_len,hll]
 have hlen0:=encNs'_len secs
 have hlr:=encNls_len roots
 have hsn:=encNs'_snoc secs k1
 have hsr:=encNls_snoc roots c1
 clear hr1 hst hgd
 refine qAb hT Tryz.func67 rfl rfl rfl rfl ?_;intro E hE
 refine qAl (qAf ?_)
 refine wws ?_
 refine qAl (qAf ?_)
 refine wws ?_
 refine qAd (qBs (v:=.I (k1:Int)) (H':=qKb ⟨sta,roots,links,secs,signer,lister,sk,lk,next,list,rev,defs,n1⟩) rfl rfl hs1 [0,1,2,3] (by decide) rfl rfl rfl rfl rfl rfl) rfl ?_
 refine wws ?_
 refine qAl (qAf ?_)
 refine wws ?_
 refine qAd (qAh (i:=1) hT rfl rfl rfl rfl rfl rfl (by show ((encNs' secs).length+1)*(8+1)≤_;omega)) rfl ?_
 refine wws ?_
 refine qAp (l:=[(0,.ptr 0 0),(1,.I day),(5,.I (k1:Int))]) (h':=qKb ⟨sta,roots,links,secs++[k1],signer,lister,sk,lk,next,list,rev,defs,n1⟩) yf
  ⟨ObLe.row (by show _=vKt _ _ _ (.sl 1 (encNs' (secs++[k1])) (.right 1));rw [hsn];rfl),⟨rfl,by rw [hsn]⟩,ObLe.refl _,ObLe.refl _,trivial⟩ ?_
 refine qAl (qAf ?_)
 refine wws ?_
 refine qAp (l:=[(0,.ptr 0 0),(1,.I day),(5,.I (k1:Int)),(6,.I ((secs.length+1:Nat):Int))]) (h':=qKb ⟨sta,roots,links,secs++[k1],signer,lister,sk,lk,next,list,rev,defs,n1⟩) ⟨.refl _,.refl _,.refl _,.int (by rw [hlen]),trivial⟩ (HLe.refl _) ?_
 refine qAl (qAf ?_)
 refine wws ?_
 refine qAd (qBs (v:=.tup [qEb c1,.I 0]) (H':=qKb ⟨sta,roots,links,secs++[k1],signer,lister,sk,lk,next+1,list,rev,defs,n1⟩) rfl rfl hi1 [0,1,2,3] (by decide) rfl rfl rfl rfl rfl rfl) rfl ?_
 refine wws ?_
 refine qAp (l:=[(0,.ptr 0 0),(7,.ptr 4 0),(8,.I 0)]) (h':=qKb ⟨sta,roots,links,secs++[k1],signer,lister,sk,lk,next+1,list,rev,defs,n1⟩++[.row (qAv c1)]) yf (HLe.refl _) ?_
 refine qAl (qBh (fun i=>bif Nat.beq i 4||Nat.beq i 10 then [0] else bif Nat.beq i 5 then [4] else bif Nat.beq i 7 then [2] else []) (fun i=>bif Nat.beq i 7 then [2] else bif Nat.beq i 10 then [0] else []) mixed (by kernel_rfl) ?_)
 refine wwg ?_
 refine qAk (os:=[]) (fun k hk1 hk2=>buildSl_ok hT rfl rfl) rfl ?_
 refine qAk (v:=.sl 11 (qAm roots++[qCt c1]) (.right 2)) (os:=[.right 11 (qAm roots++[qCt c1]).length]) (fun k hk1 hk2=>qAh (i:=2) (es2:=[qCt c1]) hT rfl rfl rfl rfl ((hk2 2 List.mem_cons_self).trans rfl) rfl (by show ((qAm roots).length+1)*(96+1)≤_;omega)) rfl ?_
 rw [← hsr]
 refine wwg ?_
 refine ww ?_
 exact wwr
def aut1 (sta seed:List UInt8):Aut:=⟨sta,[],[],[],nl0,nl0,0,0,1,1,[],[],seed⟩
theorem beginF_eq (sta seed:List UInt8) (day:Int):qZj sta seed day=qAz (qCb (aut1 sta seed) day) day:=rfl
theorem beginA_eq (sta seed:List UInt8) (day:Int):qIq sta seed day=if qCw sta=false then (aut0,60) else if day < 0∨73048 < day then (aut0,8) else (qZj sta seed day,0):=rfl
theorem qSe {sta seed:List UInt8} (h:qCw sta=true) (hs:seed.length≤1000):AutOk (aut1 sta seed):=⟨h,by show 1≤1∧1≤100;omega,(fun k hk=>by cases hk),hs⟩
def vKs (a:Aut):List AObj:=[.row (vKt a (.sl 11 (qAm a.roots) (.right 3)) (.sl 11 (qAm a.links) (.right 4)) (.sl 1 (encNs' a.secs) (.right 2))),.right 1 (encNs' a.secs).length,.right 11 (qAm a.roots).length,.right 11 (qAm a.links).length]
def qIb (sta:List UInt8) (n:Int) (sd:AV):List AV:=[.d (.str sta),.sl 11 [] .full,.sl 11 [] .full,.sl 1 [] .full]++qAv nl0++qAv nl0++[.d (.int .i64 0),.d (.int .i64 0),.d (.int .i64 n),.d (.int .i64 n),.sl 1 [] .full,.sl 5 [] .full,sd]
theorem autZ_le (sta seed:List UInt8):ObLe (.row ((((qIb sta 1 (.d (.sl 1 (qAj seed)))).set 3 (.sl 1 [] (.right 2))).set 1 (.sl 11 [] (.right 3))).set 2 (.sl 11 [] (.right 4)))) (.row (vKt (aut1 sta seed) (.sl 11 (qAm (aut1 sta seed).roots) (.right 3)) (.sl 11 (qAm (aut1 sta seed).links) (.right 4)) (.sl 1 (encNs' (aut1 sta seed).secs) (.right 2)))):=by
 show AllLe _ _
 repeat' (first | exact trivial | exact AV.le.refl _ | exact AV.le.dat | refine ⟨?_,?_⟩)
theorem autC_le (a:Aut):ObLe (.row (vKt a (.sl 11 (qAm a.roots) (.right 3)) (.sl 11 (qAm a.links) (.right 4)) (.sl 1 (encNs' a.secs) (.right 2)))) (.row (qAi a)):=by
 show AllLe _ _
 exact ⟨.refl _,.dat,.dat,.dat,AllLe.refl _⟩
theorem autL (a:Aut):qMg T 38 (qAi a) 0=some (.agg (qAi a)):=loadA_agg (i:=(T.find 38).getD ⟨.str,0,0,[]⟩) rfl rfl (by show 0+33≤33;omega) (List.take_of_length_le (Nat.le_refl 33))
theorem autS (a:Aut):qHs T 38 (qIb [] 0 (.sl 1 [] .full)) 0 (.agg (qAi a))=some (qAi a):=storeA_agg (i:=(T.find 38).getD ⟨.str,0,0,[]⟩) rfl rfl (by show 0+33≤33;omega) (setRun_full rfl)
theorem qXw (sta seed:List UInt8) (day:Int) (hsta:sta.length≤1000000000) (hseed:seed.length≤1000) (h1:qCw sta=true) (hday:0≤day∧day≤73048):Spec Tryz.prog 15 [.d (.str sta),.d (.sl 1 (qAj seed)),.I day] [] (fun r h'=>r=.tup [qLl (qZj sta seed day),.I 0]∧h'=[]):=by
 have hst:=qLo sta hsta
 rw [h1] at hst
 rw [beginF_eq]
 have hok:=qSe h1 hseed
 have hro:=rootF_ok hok (by show 1≤99;omega) day
 have hrt:=qTl (aut1 sta seed) hok (by show 1≤98;omega) (by show 0≤100∧0≤100;omega) day hday
 have hcl:=qCe (qAj seed) (by rw [encB_length];omega)
 have hl1:(qCb (aut1 sta seed) day).secs.length=(aut1 sta seed).secs.length+1:=hro.2.1
 have hn1:(qCb (aut1 sta seed) day).next=(aut1 sta seed).next+1:=hro.2.2
 rw [show (aut1 sta seed).secs.length=0 from rfl] at hl1
 rw [show (aut1 sta seed).next=1 from rfl] at hn1
 have hok1:=hro.1
 clear hro
 generalize qCb (aut1 sta seed) day=A1 at hrt hok1 hl1 hn1 ⊢
 have hct:=qLz A1 hok1 (by omega) (by omega) day hday
 generalize qAz A1 day=A2 at hct ⊢
 refine qAb hT Tryz.func15 rfl rfl rfl rfl ?_;intro E hE
 refine ww ?_
 refine wwc hst ?_
 refine ww ?_
 refine qAa rfl (fun c1=>?_) (fun c1=>?_)
 ·exact absurd c1 (by simp)
 refine ww ?_
 refine qAa rfl (fun c2=>?_) (fun c2=>?_)
 ·exact absurd c2 (by simp;omega)
 refine ww ?_
 refine wwc hcl ?_
 refine wk hT rfl rfl ?_
 refine wk hT rfl rfl ?_
 refine qDp (storeAgg_ok (i:=1) (off:=0) (cs:=qIb sta 1 (.d (.sl 1 (qAj seed)))) hT rfl rfl rfl rfl rfl rfl (by decide) (setRun_full rfl)) rfl ?_
 refine qDq ?_
 refine qAo (qAo (qAo ?_))
 refine qBy 1 3 2 1 rfl rfl rfl ?_
 refine qBy 1 1 3 11 rfl rfl rfl ?_
 refine qBy 1 2 4 11 rfl rfl rfl ?_
 refine qAp (l:=[(2,.I day),(6,.ptr 0 0),(8,.ptr 1 0)]) (h':=.row (qIb [] 0 (.sl 1 [] .full))::vKs (aut1 sta seed)) yf ⟨ObLe.row rfl,autZ_le sta seed,ObLe.refl _,ObLe.refl _,ObLe.refl _,trivial⟩ ?_
 clear hcl hst h1 hok hok1
 generalize aut1 sta seed=A0 at *
 refine qAl (qAl (qAf ?_))
 refine wws ?_
 refine qAd (qBs (v:=.I 0) (H':=.row (qIb [] 0 (.sl 1 [] .full))::vKs A1) rfl rfl hrt [1,2,3,4] (by decide) rfl rfl rfl rfl rfl rfl) rfl ?_
 refine ww ?_
 refine qAa rfl (fun c3=>?_) (fun c3=>?_)
 ·exact absurd c3 (by simp)
 refine qBw ?_
 refine qAl (qAl (qAf ?_))
 refine wws ?_
 refine qAd (qBs (v:=.I 0) (H':=.row (qIb [] 0 (.sl 1 [] .full))::vKs A2) rfl rfl hct [1,2,3,4] (by decide) rfl rfl rfl rfl rfl rfl) rfl ?_
 refine ww ?_
 refine qAa rfl (fun c4=>?_) (fun c4=>?_)
 ·exact absurd c4 (by simp)
 refine qBw ?_
 refine qAp (l:=[(6,.ptr 0 0),(8,.ptr 1 0)]) (h':=[.row (qIb [] 0 (.sl 1 [] .full)),.row (qAi A2),.dead,.dead,.dead]) yf ⟨ObLe.refl _,autC_le A2,trivial,trivial,trivial,trivial⟩ ?_
 refine qAl (qAf ?_)
 refine qAd (qDg (i:=1) (off:=0) hT rfl rfl rfl (autL A2)) rfl ?_
 refine qDp (qBq (i:=0) (off:=0) hT rfl rfl rfl (autS A2)) (forceS_eq _ _) ?_
 refine ww ?_
 refine rq ⟨rfl,rfl⟩ rfl (.refl _)
theorem qLr (sta seed:List UInt8) (day:Int) (hsta:sta.length≤1000000000) (hseed:seed.length≤1000):Spec Tryz.prog 15 [.d (.str sta),.d (.sl 1 (qAj seed)),.I day] [] (fun r h'=>r=.tup [qLl (qIq sta seed day).1,.d (.int .i64 (qIq sta seed day).2)]∧h'=[]):=by
 have hst:=qLo sta hsta
 rw [beginA_eq]
 by_cases h1:qCw sta=true
 ·rw [if_neg (by rw [h1];simp)]
  by_cases h2:day < 0∨73048 < day
  ·rw [if_pos h2]
   rw [h1] at hst
   refine qAb hT Tryz.func15 rfl rfl rfl rfl ?_;intro E hE
   refine ww ?_
   refine wwc hst ?_
   refine ww ?_
   refine qAa rfl (fun c1=>?_) (fun c1=>?_)
   ·exact absurd c1 (by simp)
   refine ww ?_
   refine qAa rfl (fun c2=>?_) (fun c2=>?_)
   ·refine ww ?_
    exact wwr
   ·exact absurd c2 (by simp;omega)
  ·rw [if_neg h2]
   exact qXw sta seed day hsta hseed h1 (by omega)
 ·rw [if_pos (by simpa using h1)]
  rw [show qCw sta=false by simpa using h1] at hst
  refine qAb hT Tryz.func15 rfl rfl rfl rfl ?_;intro E hE
  refine ww ?_
  refine wwc hst ?_
  refine ww ?_
  refine qAa rfl (fun c1=>?_) (fun c1=>?_)
  ·refine ww ?_
   exact wwr
  ·exact absurd c1 (by simp)
abbrev tiA:TI:=⟨.struct [(0,1,false),(1,1,false),(2,1,false),(3,1,false),(4,11,true),(15,11,true),(26,1,false),(27,1,false),(28,1,false),(29,1,false),(30,1,false),(31,1,false),(32,1,false)],33,384,qIb [] 0 (.sl 1 [] .full)⟩
theorem tiA_find:T.find 38=some tiA:=rfl
theorem L38 {C:List AV} (h:C.length=33):qMg T 38 C 0=some (.agg C):=loadA_agg tiA_find rfl (by rw [h];exact Nat.le_refl _) (List.take_of_length_le (by rw [List.length_drop,h];exact Nat.le_refl _))
theorem S38 {C D:List AV} (h1:D.length=33) (h2:C.length=33):qHs T 38 D 0 (.agg C)=some C:=storeA_agg tiA_find h2 (by rw [h1];exact Nat.le_refl _) (setRun_full (by rw [h1,h2]))
theorem encDfs_len (l:List Dfc):(qQl l).length=l.length:=by simp [qQl]
def vEr (a:Aut) (i j k:Nat):List AV:=vKt a (.sl 11 (qAm a.roots) (.right j)) (.sl 11 (qAm a.links) (.right k)) (.sl 1 (encNs' a.secs) (.right i))
theorem qQs (a:Aut) (hl:a.roots.length≤1000000∧a.links.length≤1000000∧a.secs.length≤1000000∧a.rev.length≤1000000∧a.defs.length≤1000000∧a.seed.length≤1000000) :
  Spec Tryz.prog 30 [qLl a] [.room,.room,.room] (fun r h'=>r=.agg (vEr a 0 1 2)∧h'=[.right 1 (encNs' a.secs).length,.right 11 (qAm a.roots).length,.right 11 (qAm a.links).length]):=by
 obtain ⟨l1,l2,l3,l4,l5,l6⟩:=hl
 have h1:=qMd (qAm a.roots) (by rw [encNls_len];omega)
 have h2:=qMd (qAm a.links) (by rw [encNls_len];omega)
 have h3:=qVe (encNs' a.secs) (by rw [encNs'_len];omega)
 have h4:=qVg (a.rev.map fun n=>[.int .i64 n]) (by rw [List.length_map];omega)
 have h5:=qVh (qQl a.defs) (by rw [encDfs_len];omega)
 have h6:=qCe (qAj a.seed) (by rw [encB_length];omega)
 obtain ⟨sta,roots,links,secs,signer,lister,sk,lk,next,list,rev,defs,seed⟩:=a
 simp only at *
 refine qAb hT Tryz.func30 rfl rfl rfl rfl ?_;intro E hE
 refine qAo (qAo ?_)
 refine qAl (qAf ?_)
 refine qAd (boxAt_ok (i0:=3) (cs:=qAi ⟨sta,roots,links,secs,signer,lister,sk,lk,next,list,rev,defs,seed⟩) rfl rfl rfl) rfl ?_
 refine qAd (allocAt_ok (i0:=4) (i:=tiA) hT rfl tiA_find rfl) rfl ?_
 refine qDq ?_
 refine qAl (qBh (fun i=>bif Nat.beq i 2 then [1] else bif Nat.beq i 5 then [2] else bif Nat.beq i 8 then [0] else [3]) (fun i=>bif Nat.beq i 2 then [1] else bif Nat.beq i 5 then [2] else bif Nat.beq i 8 then [0] else bif Nat.beq i 10||Nat.beq i 12||Nat.beq i 14 then [3] else []) mixed (by kernel_rfl) ?_)
 refine wwg ?_
 refine qAk (v:=.sl 11 (qAm roots) (.right 1)) (os:=[.right 11 (qAm roots).length]) (fun k hk1 hk2=>qBs rfl rfl h1 [1] (by decide) (by show [k[1]?]=_;rw [hk2 1 (by decide)];rfl) rfl rfl rfl rfl rfl) rfl ?_
 refine wwg ?_
 refine qAk (v:=.sl 11 (qAm links) (.right 2)) (os:=[.right 11 (qAm links).length]) (fun k hk1 hk2=>qBs rfl rfl h2 [2] (by decide) (by show [k[2]?]=_;rw [hk2 2 (by decide)];rfl) rfl rfl rfl rfl rfl) rfl ?_
 refine wwg ?_
 refine qAk (v:=.sl 1 (encNs' secs) (.right 0)) (os:=[.right 1 (encNs' secs).length]) (fun k hk1 hk2=>qBs rfl rfl h3 [0] (by decide) (by show [k[0]?]=_;rw [hk2 0 (by decide)];rfl) rfl rfl rfl rfl rfl) rfl ?_
 refine wwg ?_
 refine qAp (l:=[(1,.ptr 3 0),(2,.ptr 4 0)]) (h':=[.right 1 (encNs' secs).length,.right 11 (qAm roots).length,.right 11 (qAm links).length,.row (vEr ⟨sta,roots,links,secs,signer,lister,sk,lk,next,list,rev,defs,seed⟩ 0 1 2),.row (qIb [] 0 (.sl 1 [] .full))]) yf (HLe.refl _) ?_
 refine qAl (qBh (fun _=>[3]) (fun i=>bif Nat.beq i 10||Nat.beq i 12||Nat.beq i 14 then [3] else []) mixed (by kernel_rfl) ?_)
 refine wwg ?_
 refine wwdc h4 ?_
 refine wwg ?_
 refine wwdc h5 ?_
 refine wwg ?_
 refine wwdc h6 ?_
 refine wwg ?_
 refine qAp (l:=[(1,.ptr 3 0),(2,.ptr 4 0)]) (h':=[.right 1 (encNs' secs).length,.right 11 (qAm roots).length,.right 11 (qAm links).length,.row (vEr ⟨sta,roots,links,secs,signer,lister,sk,lk,next,list,rev,defs,seed⟩ 0 1 2),.row (qIb [] 0 (.sl 1 [] .full))]) yf (HLe.refl _) ?_
 refine qAl (qAf ?_)
 refine qAd (qDg (i:=3) (off:=0) hT rfl rfl rfl (L38 (C:=vEr ⟨sta,roots,links,secs,signer,lister,sk,lk,next,list,rev,defs,seed⟩ 0 1 2) rfl)) rfl ?_
 refine qDp (qBq (i:=4) (off:=0) hT rfl rfl rfl (S38 (C:=vEr ⟨sta,roots,links,secs,signer,lister,sk,lk,next,list,rev,defs,seed⟩ 0 1 2) rfl rfl)) (forceS_eq _ _) ?_
 refine ww ?_
 refine rq ⟨rfl,rfl⟩ rfl (.refl _)
theorem linkF_eq (A:Aut) (m:Nat) (h:A.secs.length=m+1) (day:Int):qFn A day={ A with links:=A.links++[qBm (A.secs.getD (m-1) 0) (qOg A.sta A.next 2 m (m+1) (A.secs.getD m 0) day 1825 5475)],next:=A.next+1 }:=by
 unfold qFn
 simp only [h,certF_N,show m+1-2=m-1 by omega,show m+1-1=m by omega]
theorem rollF_eq (a:Aut) (day:Int):vCy a day=qAz (qFn (qCb a day) day) day:=rfl
theorem rollA_eq (a:Aut) (day:Int):qVy a day=if a.secs.length=0 then (aut0,23) else if day < 0∨73048 < day then (aut0,8) else if 8≤a.secs.length then (aut0,72) else (vCy a day,0):=rfl
structure RollOk (a:Aut):Prop where
 ok:AutOk a
 next:a.next≤90
 len:a.roots.length≤100∧a.links.length≤100∧a.rev.length≤1000000∧a.defs.length≤1000000
theorem autR_le (a:Aut):ObLe (.row (vEr a 1 2 3)) (.row (qAi a)):=by
 show AllLe _ _
 exact ⟨.refl _,.dat,.dat,.dat,AllLe.refl _⟩
theorem qXk (a:Aut) (ha:RollOk a) (hm:1≤a.secs.length∧a.secs.length < 8) (day:Int) (hday:0≤day∧day≤73048):Spec Tryz.prog 17 [qLl a,.I day] [] (fun r h'=>r=.tup [qLl (vCy a day),.I 0]∧h'=[]):=by
 rw [rollF_eq]
 have hseed:=ha.ok.seed
 have hcp:=qQs a ⟨by have:=ha.len.1;omega,by have:=ha.len.2.1;omega,by omega,ha.len.2.2.1,ha.len.2.2.2,by omega⟩
 have hnx:=ha.next
 have hro:=rootF_ok ha.ok (by omega) day
 have hrt:=qTl a ha.ok (by omega) ⟨by omega,ha.len.1⟩ day hday
 have hl0:=encNs'_len a.secs
 have hll:=ha.len.2.1
 obtain ⟨m,hm0⟩:∃ m,a.secs.length=m:=⟨_,rfl⟩
 have hlk:(qCb a day).links=a.links:=rfl
 rw [hm0] at hro hm hl0
 generalize qCb a day=A1 at hro hrt hlk ⊢
 obtain ⟨hok1,hs1,hn1⟩:=hro
 have hkm:1≤A1.secs.getD m 0∧A1.secs.getD m 0 < qG:=by
  have:=hok1.last (by omega)
  rw [hs1] at this
  exact this
 have hkm1:1≤A1.secs.getD (m-1) 0∧A1.secs.getD (m-1) 0 < qG:=by
  have:A1.secs.getD (m-1) 0=A1.secs[m-1]'(by omega):=by simp [show m-1 < A1.secs.length by omega]
  rw [this]
  exact hok1.secs _ (List.getElem_mem _)
 have his:=qIx A1 2 m (m+1) (A1.secs.getD m 0) day 1825 5475 (by omega) (by omega) hkm hday (by omega) hkm1
  (certF_chk hok1.sta (by have:=hok1.next;omega) (by omega) (by omega) (by omega) ⟨fun h=>by omega,fun h=>by omega⟩ hkm hday (by omega))
 have hlf:=linkF_eq A1 m hs1 day
 have hlo:=linkF_ok hok1 (by omega) day
 rw [certF_N] at his
 generalize qBm (A1.secs.getD (m-1) 0) (qOg A1.sta A1.next 2 m (m+1) (A1.secs.getD m 0) day 1825 5475)=c1 at his hlf
 have hct:=qLz (qFn A1 day) hlo.1 (by rw [hlo.2.2];omega) (by rw [hlo.2.1];omega) day hday
 generalize qAz (qFn A1 day) day=A3 at hct ⊢
 rw [hlf] at hct
 clear hlf hlo
 have hat:=encNs'_at (l:=A1.secs) (i:=m) (by omega)
 generalize A1.secs.getD m 0=km at his hat
 have hl1:(encNs' A1.secs).length=m+1:=by rw [encNs'_len,hs1]
 have hll1:(qAm A1.links).length≤100:=by rw [encNls_len,hlk];exact hll
 have hsn:=encNls_snoc A1.links c1
 have en:IntKind.i64.wrap (((m+1:Nat):Int)-1)=(m:Int):=by rw [qAe (by omega)];omega
 clear hkm hkm1 hok1
 obtain ⟨sta,roots,links,secs,signer,lister,sk,lk,next,list,rev,defs,seed⟩:=A1
 simp only at *
 refine qAb hT Tryz.func17 rfl rfl rfl rfl ?_;intro E hE
 refine qAo (qAo (qAo (qAo (qAo (qAo ?_)))))
 refine qAl (qAf ?_)
 refine qAd (boxAt_ok (i0:=0) (cs:=qAi a) rfl rfl rfl) rfl ?_
 refine qAd (allocAt_ok (i0:=4) (i:=tiA) hT rfl tiA_find rfl) rfl ?_
 refine ww ?_
 refine qAa rfl (fun q1=>?_) (fun q1=>?_)
 ·exact absurd q1 (by rw [hl0];simp;omega)
 refine ww ?_
 refine qAa rfl (fun q2=>?_) (fun q2=>?_)
 ·exact absurd q2 (by simp;omega)
 refine ww ?_
 refine qAa rfl (fun q3=>?_) (fun q3=>?_)
 ·exact absurd q3 (by rw [hl0];simp;omega)
 refine wwe ?_
 refine qAl (qAf ?_)
 refine qAd (qDg (i:=0) (off:=0) hT rfl rfl rfl (L38 (C:=qAi a) rfl)) rfl ?_
 refine qAd (qBs (v:=.agg (vEr a 1 2 3)) (H':=[.row (qAi a),.right 1 (encNs' a.secs).length,.right 11 (qAm a.roots).length,.right 11 (qAm a.links).length,.row (qIb [] 0 (.sl 1 [] .full)),.room]) rfl rfl hcp [1,2,3] (by decide) rfl rfl rfl rfl rfl rfl) rfl ?_
 refine qDp (qBq (i:=0) (off:=0) hT rfl rfl rfl (S38 (C:=vEr a 1 2 3) rfl rfl)) (forceS_eq _ _) ?_
 refine qDq ?_
 refine qAp (l:=[(1,.I day),(2,.ptr 0 0),(4,.ptr 4 0)]) (h':=qKb a++[.row (qIb [] 0 (.sl 1 [] .full)),.room]) yf (HLe.refl _) ?_
 refine qAl (qAl (qAf ?_))
 refine wws ?_
 refine qAd (qBs (v:=.I 0) (H':=qKb ⟨sta,roots,links,secs,signer,lister,sk,lk,next,list,rev,defs,seed⟩++[.row (qIb [] 0 (.sl 1 [] .full)),.room]) rfl rfl hrt [0,1,2,3] (by decide) rfl rfl rfl rfl rfl rfl) rfl ?_
 refine ww ?_
 refine qAa rfl (fun q4=>?_) (fun q4=>?_)
 ·exact absurd q4 (by simp)
 refine qBw ?_
 refine qAl (qAf ?_)
 refine wws ?_
 refine qAp (l:=[(1,.I day),(2,.ptr 0 0),(4,.ptr 4 0),(7,.I ((m+1:Nat):Int))]) (h':=qKb ⟨sta,roots,links,secs,signer,lister,sk,lk,next,list,rev,defs,seed⟩++[.row (qIb [] 0 (.sl 1 [] .full)),.room]) ⟨.refl _,.refl _,.refl _,.int (by rw [hl1]),trivial⟩ (HLe.refl _) ?_
 refine qAl (qAf ?_)
 refine wws ?_
 refine qAd (qAc (indexAddr_ok hT rfl rfl rfl rfl (by rw [en];omega) (by rw [en,Int.toNat_natCast];exact hat))) rfl ?_
 refine wws ?_
 rw [en]
 refine qAd (qBs (v:=.tup [qEb c1,.I 0]) (H':=qKb ⟨sta,roots,links,secs,signer,lister,sk,lk,next+1,list,rev,defs,seed⟩++[.row (qIb [] 0 (.sl 1 [] .full)),.room]) rfl rfl his [0,1,2,3] (by decide) rfl rfl rfl rfl rfl rfl) rfl ?_
 refine wk hT rfl rfl ?_
 refine wk hT rfl rfl ?_
 refine wk hT rfl rfl ?_
 refine qAd (allocAt_ok (i0:=5) (i:=⟨.struct [(0,1,false),(1,1,false),(2,1,false),(3,1,false),(4,1,false),(5,1,false),(6,1,false),(7,1,false),(8,1,false),(9,2,true)],11,96,qAv nl0⟩) hT rfl rfl rfl) rfl ?_
 refine wws ?_
 refine qAp (l:=[(1,.I day),(2,.ptr 0 0),(4,.ptr 4 0),(8,.ptr 5 0),(9,.I 0)]) (h':=qKb ⟨sta,roots,links,secs,signer,lister,sk,lk,next+1,list,rev,defs,seed⟩++[.row (qIb [] 0 (.sl 1 [] .full)),.row (qAv c1)]) yf (HLe.refl _) ?_
 refine ww ?_
 refine qAa rfl (fun q5=>?_) (fun q5=>?_)
 ·exact absurd q5 (by simp)
 refine qBw ?_
 refine qAl (qAf ?_)
 refine wws ?_
 refine qAd (qAh (i:=3) (es2:=[qCt c1]) hT rfl rfl rfl rfl rfl rfl (by show ((qAm links).length+1)*(96+1)≤_;omega)) rfl ?_
 rw [← hsn]
 refine wws ?_
 refine qAp (l:=[(1,.I day),(2,.ptr 0 0),(4,.ptr 4 0)]) (h':=[.row (vEr ⟨sta,roots,links++[c1],secs,signer,lister,sk,lk,next+1,list,rev,defs,seed⟩ 1 2 3),.right 1 (encNs' secs).length,.right 11 (qAm roots).length,.right 11 (qAm (links++[c1])).length,.row (qIb [] 0 (.sl 1 [] .full)),.dead]) yf ⟨ObLe.refl _,ObLe.refl _,ObLe.refl _,ObLe.refl _,ObLe.refl _,trivial,trivial⟩ ?_
 refine qAl (qAl (qAf ?_))
 refine wws ?_
 refine qAd (qBs (v:=.I 0) (H':=qKb A3++[.row (qIb [] 0 (.sl 1 [] .full)),.dead]) rfl rfl hct [0,1,2,3] (by decide) rfl rfl rfl rfl rfl rfl) rfl ?_
 refine ww ?_
 refine qAa rfl (fun q6=>?_) (fun q6=>?_)
 ·exact absurd q6 (by simp)
 refine qBw ?_
 refine qAp (l:=[(2,.ptr 0 0),(4,.ptr 4 0)]) (h':=[.row (qAi A3),.dead,.dead,.dead,.row (qIb [] 0 (.sl 1 [] .full)),.dead]) yf ⟨autR_le A3,trivial,trivial,trivial,ObLe.refl _,trivial,trivial⟩ ?_
 refine qAl (qAf ?_)
 refine qAd (qDg (i:=0) (off:=0) hT rfl rfl rfl (L38 (C:=qAi A3) rfl)) rfl ?_
 refine qDp (qBq (i:=4) (off:=0) hT rfl rfl rfl (S38 (C:=qAi A3) rfl rfl)) (forceS_eq _ _) ?_
 refine ww ?_
 refine rq ⟨rfl,rfl⟩ rfl (.refl _)
end Tdoc
