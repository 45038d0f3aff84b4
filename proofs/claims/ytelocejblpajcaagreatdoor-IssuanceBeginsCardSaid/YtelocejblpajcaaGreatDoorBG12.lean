/- Part 12 of the proof: the texts J6 XP J7 J8 J9 JD JE JF JG M1 KC JH KD. -/
import Derived.Test.YtelocejblpajcaaGreatDoorBG11
set_option maxHeartbeats 8000000
set_option maxRecDepth 100000
set_option linter.unusedVariables false
set_option linter.unusedSimpArgs false
namespace Tdoc
open Go Go.Proofs
theorem roundW_zero (v:Vw) (w:List (BitVec 32)):qGe v w 0=v:=rfl
theorem roundW_succ (v:Vw) (w:List (BitVec 32)) (n:Nat):qGe v w (n+1)=vFe (qGe v w n) (kW.getD n 0) (w.getD n 0):=rfl
theorem qSe (v:Vw) (b:List UInt8) (hb:b.length=64):Spec Tryz.prog 352 [.d (.sl 1 (qEz v)),.d (.sl 1 (qAl b))] [] (fun r h'=>r=.tup [.d (.sl 1 (qEz (qTu v b))),.d (.int .i64 0)]∧h'=[]):=by
 have hbl:=encB_length b
 obtain ⟨m,hm⟩:∃ m:Nat,m=64:=⟨_,rfl⟩
 have hfin:qTu v b=vDr v (qGe v (qJs b m) m):=by subst hm;exact compW_eq v b
 have hcw:∀ n,n < m→(cellsW b m)[n]?=some (uV ((qJs b m).getD n 0)):=by subst hm;exact fun n h=>cells64 b h
 rw [hfin]
 clear hfin
 refine qAb hT Tryz.func352 rfl rfl rfl rfl ?_;intro E hE
 refine ww ?_
 refine qAa rfl (fun c1=>?_) (fun c1=>?_)
 ·exact absurd c1 (by simp [encW_length,hbl,hb])
 refine ww ?_
 refine qAp (ι:=Nat) (fun t=>[(0,.d (.sl 1 (qEz v))),(1,.d (.sl 1 (qAl b))),(6,.fn (.func 389) [] []),(7,.ptr 0 0),(27,.d (.int .i64 (t:Int)))]) (fun t=>[.row (cellsW b t)]) (fun t=>t≤m) (fun t=>m-t) 0 (Nat.zero_le _)
  ⟨.refl _,.refl _,.refl _,.refl _,.refl _,trivial⟩ ⟨ObLe.row rfl,trivial⟩ ?_
 intro t ht
 have hcl:=cellsW_length b (t:=t) (by omega)
 refine ww ?_
 refine qAa rfl (fun c2=>?_) (fun c2=>?_)
 ·have ht':t < 64:=by simp at c2;omega
  refine ww ?_
  refine qAa rfl (fun c3=>?_) (fun c3=>?_)
  ·have c3':t < 16:=by simp at c3;omega
   have hw4:IntKind.i64.wrap (4*(t:Int))=((4*t:Nat):Int):=by rw [qAf (by omega)];omega
   refine qAk (qAg ?_)
   refine wk hT rfl rfl ?_
   refine wk hT rfl rfl ?_
   refine wk hT rfl rfl ?_
   refine wk hT rfl rfl ?_
   refine wk hT rfl rfl ?_
   rw [hw4,Int.toNat_natCast,encB_drop]
   refine wwc (vBi (b.drop (4*t)) (by rw [List.length_drop];omega)) ?_
   rw [vDa]
   have hst:=cellsW_set b ht'
   rw [schW_word b c3'] at hst
   refine qAd (qAc (arrPtr_ok hT rfl rfl rfl rfl (by omega))) rfl ?_
   refine qCc (qEv hT rfl rfl rfl rfl rfl rfl (by show 0+((t:Int)).toNat*1 < (cellsW b t).length;rw [hcl];omega)) rfl ?_
   rw [show 0+((t:Int)).toNat*1=t by omega]
   refine ww ?_
   exact ⟨t+1,by omega,by omega,⟨.refl _,.refl _,.refl _,.refl _,.int (by rw [qAf (by omega)];omega),trivial⟩,⟨ObLe.row hst,trivial⟩⟩
  ·have c3':16≤t:=by simp at c3;omega
   have hx:=cellsW_at b (i:=t-15) (t:=t) (by omega)
   have hy:=cellsW_at b (i:=t-2) (t:=t) (by omega)
   have h7:=cellsW_at b (i:=t-7) (t:=t) (by omega)
   have h16:=cellsW_at b (i:=t-16) (t:=t) (by omega)
   have hst:=cellsW_set b ht'
   rw [schW_next b c3'] at hst
   generalize (qJs b t).getD (t-15) 0=x at hx hst
   generalize (qJs b t).getD (t-2) 0=y at hy hst
   generalize (qJs b t).getD (t-7) 0=z7 at h7 hst
   generalize (qJs b t).getD (t-16) 0=z16 at h16 hst
   have e15:IntKind.i64.wrap ((t:Int)-15)=((t-15:Nat):Int):=by rw [qAf (by omega)];omega
   have e2:IntKind.i64.wrap ((t:Int)-2)=((t-2:Nat):Int):=by rw [qAf (by omega)];omega
   have e7:IntKind.i64.wrap ((t:Int)-7)=((t-7:Nat):Int):=by rw [qAf (by omega)];omega
   have e16:IntKind.i64.wrap ((t:Int)-16)=((t-16:Nat):Int):=by rw [qAf (by omega)];omega
   refine ww ?_
   refine qAx (qAc (arrPtr_ok hT rfl rfl rfl rfl (by rw [e15];omega))) rfl rfl ?_
   refine qAx (qBl (v:=uV x) hT rfl rfl rfl rfl rfl (by rw [e15];show (cellsW b t)[0+((t-15:Nat):Int).toNat*1]?=_;rw [show 0+((t-15:Nat):Int).toNat*1=t-15 by omega];exact hx)) rfl rfl ?_
   refine ww ?_
   refine qAx (qAc (arrPtr_ok hT rfl rfl rfl rfl (by rw [e2];omega))) rfl rfl ?_
   refine qAx (qBl (v:=uV y) hT rfl rfl rfl rfl rfl (by rw [e2];show (cellsW b t)[0+((t-2:Nat):Int).toNat*1]?=_;rw [show 0+((t-2:Nat):Int).toNat*1=t-2 by omega];exact hy)) rfl rfl ?_
   refine wwn ?_
   refine qAo (l:=[(0,.d (.sl 1 (qEz v))),(1,.d (.sl 1 (qAl b))),(6,.fn (.func 389) [] []),(7,.ptr 0 0),(8,.d (.int .i64 (t:Int))),(9,uV x),(10,uV y),(27,.d (.int .i64 (t:Int)))]) (h':=[.row (cellsW b t)]) ⟨.refl _,.refl _,.refl _,.refl _,.refl _,.refl _,.refl _,.refl _,trivial⟩ (HLe.refl _) ?_
   refine qBm (fun _=>[0]) (fun i=>bif Nat.beq i 27 then [0] else []) mixed (by kernel_rfl) ?_
   refine wwg ?_
   refine qAm (os:=[]) (fun k hk1 hk2=>buildSl_ok hT rfl rfl) rfl ?_
   refine wwdc (qSy y 17 19 (by omega) (by omega)) ?_
   refine wwg ?_
   refine qAm (os:=[]) (fun k hk1 hk2=>qAc (arrPtr_ok hT rfl rfl rfl rfl (by rw [e7];omega))) rfl ?_
   refine qAm (v:=uV z7) (os:=[]) (fun k hk1 hk2=>qBl hT rfl rfl ((hk2 0 List.mem_cons_self).trans rfl) rfl rfl (by rw [e7];show (cellsW b t)[0+((t-7:Nat):Int).toNat*1]?=_;rw [show 0+((t-7:Nat):Int).toNat*1=t-7 by omega];exact h7)) rfl ?_
   refine wwg ?_
   refine qAm (os:=[]) (fun k hk1 hk2=>buildSl_ok hT rfl rfl) rfl ?_
   refine wwdc (qSy x 7 18 (by omega) (by omega)) ?_
   refine wwg ?_
   refine qAm (os:=[]) (fun k hk1 hk2=>qAc (arrPtr_ok hT rfl rfl rfl rfl (by rw [e16];omega))) rfl ?_
   refine qAm (v:=uV z16) (os:=[]) (fun k hk1 hk2=>qBl hT rfl rfl ((hk2 0 List.mem_cons_self).trans rfl) rfl rfl (by rw [e16];show (cellsW b t)[0+((t-16:Nat):Int).toNat*1]?=_;rw [show 0+((t-16:Nat):Int).toNat*1=t-16 by omega];exact h16)) rfl ?_
   refine wwg ?_
   refine qAm (os:=[]) (fun k hk1 hk2=>qAc (arrPtr_ok hT rfl rfl rfl rfl (by omega))) rfl ?_
   have hval:∀ r,r=wI (sg1 y+z7+sg0 x+z16)→(cellsW b t).set (0+((t:Int)).toNat*1) (.d (.int .u32 r))=cellsW b (t+1):=by
    intro r hr;subst hr;rw [show 0+((t:Int)).toNat*1=t by omega];exact hst
   refine qAm (v:=.any) (os:=[.row ((cellsW b t).set (0+((t:Int)).toNat*1) _)]) (fun k hk1 hk2=>qEv hT rfl rfl ((hk2 0 List.mem_cons_self).trans rfl) rfl rfl rfl (by show 0+((t:Int)).toNat*1 < (cellsW b t).length;rw [hcl];omega)) rfl ?_
   refine wwg ?_
   refine ww ?_
   exact ⟨t+1,by omega,by omega,⟨.refl _,.refl _,.refl _,.refl _,.int (by rw [qAf (by omega)];omega),trivial⟩,⟨ObLe.row (hval _ (by simp only [wshr,wI_xor,wI_add];rfl)),trivial⟩⟩
 have ht':t=m:=by simp at c2;omega
 subst ht'
 generalize cellsW b t=cw at hcw hcl ⊢
 generalize qJs b t=w at hcw ⊢
 refine ww ?_
 refine qAd (qAc (sliceArr_ok hT rfl rfl rfl (by rw [encW_length];omega))) rfl ?_
 refine ww ?_
 refine qAp (ι:=Nat) (fun n=>[(0,.d (.sl 1 (qEz v))),(6,.fn (.func 389) [] []),(7,.ptr 0 0),(11,.ptr 1 0),(78,.d (.int .i64 (n:Int)))]) (fun n=>[.row (cw),.row (vC (qGe v w n))]) (fun n=>n≤t) (fun n=>t-n) 0 (Nat.zero_le _)
  ⟨.refl _,.refl _,.refl _,.refl _,.refl _,trivial⟩ ⟨ObLe.refl _,ObLe.row (by rw [roundW_zero];rfl),trivial⟩ ?_
 intro n hn
 refine ww ?_
 refine qAa rfl (fun c3=>?_) (fun c3=>?_)
 ·have hn':n < 64:=by simp at c3;omega
  have hr1:=roundW_succ v w n
  have hwn:=hcw n (by omega)
  have hkn:=kD_at hn'
  generalize qGe v w n=r at hr1 ⊢
  generalize w.getD n 0=wn at hr1 hwn
  generalize kW.getD n 0=kn at hr1 hkn
  refine ww ?_
  first | refine qAd (qAc (arrPtr_ok hT rfl rfl rfl rfl (by decide))) rfl ?_ | refine qAx (qAc (arrPtr_ok hT rfl rfl rfl rfl (by decide))) rfl rfl ?_
  refine ww ?_
  first | refine qAd (qAc (arrPtr_ok hT rfl rfl rfl rfl (by decide))) rfl ?_ | refine qAx (qAc (arrPtr_ok hT rfl rfl rfl rfl (by decide))) rfl rfl ?_
  refine wwn ?_
  refine qAo (l:=[(0,.d (.sl 1 (qEz v))),(6,.fn (.func 389) [] []),(7,.ptr 0 0),(11,.ptr 1 0),(12,.d (.int .i64 (n:Int))),(13,uV r.a),(14,uV r.e),(78,.d (.int .i64 (n:Int)))]) (h':=[.row (cw),.row (vC r)]) ⟨.refl _,.refl _,.refl _,.refl _,.refl _,.refl _,.refl _,.refl _,trivial⟩ (HLe.refl _) ?_
  refine wx mixed ?_
  refine wws ?_
  first | refine qAd (qAc (arrPtr_ok hT rfl rfl rfl rfl (by decide))) rfl ?_ | refine qAx (qAc (arrPtr_ok hT rfl rfl rfl rfl (by decide))) rfl rfl ?_
  refine wws ?_
  refine wwc (qSx r.e 6 11 25 (by omega) (by omega) (by omega)) ?_
  refine wws ?_
  first | refine qAd (qAc (arrPtr_ok hT rfl rfl rfl rfl (by decide))) rfl ?_ | refine qAx (qAc (arrPtr_ok hT rfl rfl rfl rfl (by decide))) rfl rfl ?_
  refine wws ?_
  first | refine qAd (qAc (arrPtr_ok hT rfl rfl rfl rfl (by decide))) rfl ?_ | refine qAx (qAc (arrPtr_ok hT rfl rfl rfl rfl (by decide))) rfl rfl ?_
  refine wws ?_
  refine qAx (qAc (arrAddr_ok (cs:=kD) hT rfl rfl (by show (match qGr 5 with | some cs=>AV.iptr cs | none=>.any)=_;rw [kD_tab]) rfl (by omega))) rfl rfl ?_
  refine qAx (qAc (loadI_ok hT rfl rfl (loadI_head rfl rfl (by rw [show ((n:Int)).toNat*1=n by omega];exact hkn)))) rfl rfl ?_
  refine wws ?_
  refine qAx (qAc (arrPtr_ok hT rfl rfl rfl rfl (by omega))) rfl rfl ?_
  refine qAx (qBl (v:=uV wn) hT rfl rfl rfl rfl rfl (by show (cw)[0+((n:Int)).toNat*1]?=_;rw [show 0+((n:Int)).toNat*1=n by omega];exact hwn)) rfl rfl ?_
  refine wwn ?_
  refine qAo (l:=[(0,.d (.sl 1 (qEz v))),(6,.fn (.func 389) [] []),(7,.ptr 0 0),(11,.ptr 1 0),(12,.d (.int .i64 (n:Int))),(13,uV r.a),(14,uV r.e),(15,uV (r.h+bs1 r.e+((r.e &&& r.f) ^^^ (~~~ r.e &&& r.g))+kn+wn)),(78,.d (.int .i64 (n:Int)))]) (h':=[.row cw,.row (vC r)])
   ⟨.refl _,.refl _,.refl _,.refl _,.refl _,.refl _,.refl _,.int (by simp only [wI_not,wI_and,wI_xor,wI_add,uV];rfl),.refl _,trivial⟩ (HLe.refl _) ?_
  generalize hT1:r.h+bs1 r.e+((r.e &&& r.f) ^^^ (~~~ r.e &&& r.g))+kn+wn=T1
  refine wx mixed ?_
  refine wws ?_
  refine wwc (qSx r.a 2 13 22 (by omega) (by omega) (by omega)) ?_
  refine wws ?_
  first | refine qAd (qAc (arrPtr_ok hT rfl rfl rfl rfl (by decide))) rfl ?_ | refine qAx (qAc (arrPtr_ok hT rfl rfl rfl rfl (by decide))) rfl rfl ?_
  refine wws ?_
  first | refine qAd (qAc (arrPtr_ok hT rfl rfl rfl rfl (by decide))) rfl ?_ | refine qAx (qAc (arrPtr_ok hT rfl rfl rfl rfl (by decide))) rfl rfl ?_
  refine wws ?_
  first | refine qAd (qAc (arrPtr_ok hT rfl rfl rfl rfl (by decide))) rfl ?_ | refine qAx (qAc (arrPtr_ok hT rfl rfl rfl rfl (by decide))) rfl rfl ?_
  refine wws ?_
  first | refine qAd (qAc (arrPtr_ok hT rfl rfl rfl rfl (by decide))) rfl ?_ | refine qAx (qAc (arrPtr_ok hT rfl rfl rfl rfl (by decide))) rfl rfl ?_
  refine wws ?_
  refine qAo (l:=[(0,.d (.sl 1 (qEz v))),(6,.fn (.func 389) [] []),(7,.ptr 0 0),(11,.ptr 1 0),(15,uV T1),(16,uV (bs0 r.a+((r.a &&& r.b) ^^^ (r.a &&& r.c) ^^^ (r.b &&& r.c)))),(78,.d (.int .i64 (n:Int)))]) (h':=[.row cw,.row (vC r)])
   ⟨.refl _,.refl _,.refl _,.refl _,.refl _,.int (by simp only [wI_not,wI_and,wI_xor,wI_add,uV];rfl),.refl _,trivial⟩ (HLe.refl _) ?_
  generalize hT2:bs0 r.a+((r.a &&& r.b) ^^^ (r.a &&& r.c) ^^^ (r.b &&& r.c))=T2
  have hfv:vC (vFe r kn wn)=[uV (T1+T2),uV r.a,uV r.b,uV r.c,uV (r.d+T1),uV r.e,uV r.f,uV r.g]:=by rw [← hT1,← hT2];rfl
  refine ww ?_
  first | refine qAd (qAc (arrPtr_ok hT rfl rfl rfl rfl (by decide))) rfl ?_ | refine qAx (qAc (arrPtr_ok hT rfl rfl rfl rfl (by decide))) rfl rfl ?_
  refine ww ?_
  first | refine qAd (qAc (arrPtr_ok hT rfl rfl rfl rfl (by decide))) rfl ?_ | refine qAx (qAc (arrPtr_ok hT rfl rfl rfl rfl (by decide))) rfl rfl ?_
  refine ww ?_
  first | refine qAd (qAc (arrPtr_ok hT rfl rfl rfl rfl (by decide))) rfl ?_ | refine qAx (qAc (arrPtr_ok hT rfl rfl rfl rfl (by decide))) rfl rfl ?_
  refine ww ?_
  first | refine qAd (qAc (arrPtr_ok hT rfl rfl rfl rfl (by decide))) rfl ?_ | refine qAx (qAc (arrPtr_ok hT rfl rfl rfl rfl (by decide))) rfl rfl ?_
  refine ww ?_
  first | refine qAd (qAc (arrPtr_ok hT rfl rfl rfl rfl (by decide))) rfl ?_ | refine qAx (qAc (arrPtr_ok hT rfl rfl rfl rfl (by decide))) rfl rfl ?_
  refine ww ?_
  first | refine qAd (qAc (arrPtr_ok hT rfl rfl rfl rfl (by decide))) rfl ?_ | refine qAx (qAc (arrPtr_ok hT rfl rfl rfl rfl (by decide))) rfl rfl ?_
  refine ww ?_
  first | refine qAd (qAc (arrPtr_ok hT rfl rfl rfl rfl (by decide))) rfl ?_ | refine qAx (qAc (arrPtr_ok hT rfl rfl rfl rfl (by decide))) rfl rfl ?_
  refine ww ?_
  exact ⟨n+1,by omega,by omega,⟨.refl _,.refl _,.refl _,.refl _,.int (by rw [qAf (by omega)];omega),trivial⟩,⟨ObLe.refl _,ObLe.row (by rw [hr1,hfv];simp only [uV,wI_add]),trivial⟩⟩
 have hn':n=t:=by simp at c3;omega
 subst hn'
 generalize qGe v w n=r
 refine ww ?_
 refine qAd (makeRow1_ok (n:=8) hT rfl rfl rfl rfl (by decide) (by decide)) rfl ?_
 refine ww ?_
 refine qAp (ι:=Nat) (fun i=>[(0,.d (.sl 1 (qEz v))),(11,.ptr 1 0),(17,.row 2 0 8 8),(154,.d (.int .i64 8)),(155,.d (.int .i64 (i:Int)))]) (fun i=>[.row cw,.row (vC r),.row (vBc v r i)]) (fun i=>i≤8) (fun i=>8-i) 0 (Nat.zero_le _)
  ⟨.refl _,.refl _,.refl _,.refl _,.refl _,trivial⟩ ⟨ObLe.refl _,ObLe.refl _,ObLe.row rfl,trivial⟩ ?_
 intro i hi
 refine ww ?_
 refine qAa rfl (fun c4=>?_) (fun c4=>?_)
 ·have hi':i < 8:=by simp at c4;omega
  have hs:=sumC_set v r hi'
  have hv:=encW_at v hi'
  have hr:=vC_at r hi'
  have hsl:=sumC_length v r hi
  generalize (vwL v).getD i 0=x at hs hv
  generalize (vwL r).getD i 0=y at hs hr
  refine wwn ?_
  refine qBm (fun i=>bif Nat.beq i 8 then [1] else bif Nat.beq i 11 then [2] else []) (fun i=>bif Nat.beq i 11 then [2] else []) mixed (by kernel_rfl) ?_
  refine wwg ?_
  refine qAm (os:=[]) (fun k hk1 hk2=>qAc (indexAddr_ok hT rfl rfl rfl rfl (by omega) hv)) rfl ?_
  refine wwg ?_
  refine qAm (os:=[]) (fun k hk1 hk2=>qAc (arrPtr_ok hT rfl rfl rfl rfl (by omega))) rfl ?_
  refine qAm (v:=uV y) (os:=[]) (fun k hk1 hk2=>qBl hT rfl rfl ((hk2 1 List.mem_cons_self).trans rfl) rfl rfl (by show (vC r)[0+((i:Int)).toNat*1]?=_;rw [show 0+((i:Int)).toNat*1=i by omega];exact hr)) rfl ?_
  refine wwg ?_
  refine qAm (os:=[]) (fun k hk1 hk2=>qAc (rowAddr_ok (sz:=1) hT rfl rfl rfl rfl (by omega))) rfl ?_
  have hval:∀ z,z=wI (x+y)→(vBc v r i).set (0+((i:Int)).toNat*1) (.d (.int .u32 z))=vBc v r (i+1):=by
   intro z hz;subst hz;rw [show 0+((i:Int)).toNat*1=i by omega];exact hs
  refine qAm (v:=.any) (os:=[.row ((vBc v r i).set (0+((i:Int)).toNat*1) _)]) (fun k hk1 hk2=>qEv hT rfl rfl ((hk2 2 List.mem_cons_self).trans rfl) rfl rfl rfl (by show 0+((i:Int)).toNat*1 < (vBc v r i).length;rw [hsl];omega)) rfl ?_
  refine wwg ?_
  refine ww ?_
  exact ⟨i+1,hi',by omega,⟨.refl _,.refl _,.refl _,.refl _,.int (by rw [qAf (by omega)];omega),trivial⟩,⟨ObLe.refl _,ObLe.refl _,ObLe.row (hval _ (wI_add x y)),trivial⟩⟩
 have hi':i=8:=by simp at c4;omega
 subst hi'
 refine wwe ?_
 refine qLa 17 2 1 (qEz (vDr v r)) rfl rfl rfl (by decide) (sumC_all v r) ?_
 refine ww ?_
 exact wwr
end Tdoc
namespace Tdoc
open Go Go.Proofs
def qHl (n:Nat) (es:List (List Dat)):Nat:=(es.length+(n-1)) / n
def qTw (n:Nat) (es:List (List Dat)) (k:Nat):AV:=.d (.sl 1 ((es.drop (k*n)).take n))
def qGu (n:Nat) (es:List (List Dat)):List AV:=(List.range (qHl n es)).map (qTw n es)
theorem qYj {n:Nat} {es:List (List Dat)} {k:Nat} (hn:1≤n):k < qHl n es↔k*n < es.length:=by
 unfold qHl
 rw [← Nat.succ_le_iff,Nat.le_div_iff_mul_le (by omega),Nat.succ_mul]
 omega
theorem qWm (i j n:Nat) (es:List (List Dat)) (hn:1≤n∧n≤1000000000) (hl:es.length≤1000000000) :
  SeqOk Tryz.prog 388 [.ptr i 0,.ptr j 0] (fun h=>h[i]?=some (.row [.d (.sl 1 es)])∧h[j]?=some (.row [.d (.int .i64 (n:Int))])) (qGu n es):=by
 refine qWs Tryz.func388 rfl rfl rfl rfl ?_
 intro E l Hs hok hY
 have hlen:(qGu n es).length=qHl n es:=by simp [qGu]
 rw [hlen]
 refine qLq (qGo (.inl rfl) rfl ?_)
 refine wws ?_
 refine qOt (vEq (ι:=Nat) (fun k=>[(0,.fn (.yield l) [] []),(1,.ptr i 0),(2,.ptr j 0),(4,.d (.int .i64 ((k*n:Nat):Int)))]) (fun k=>Hs k) (fun k=>k≤qHl n es) (fun k=>qHl n es-k) 0 (Nat.zero_le _) ⟨.refl _,.refl _,.refl _,AV.le.int (by simp),trivial⟩ (HLe.refl _) ?_)
 intro k hk
 obtain ⟨h1,h2⟩:=hok k
 have hlt:=qYj (n:=n) (es:=es) (k:=k) hn.1
 have hkn:k*n≤es.length+n:=by
  by_cases h0:k=0
  ·subst h0;simp
  ·have:(k-1)*n < es.length:=(qYj hn.1).1 (by omega)
   have h3:k*n=(k-1)*n+n:=by rw [← Nat.succ_mul];congr 1;omega
   omega
 refine qLq (qLq (qGo (.inl rfl) rfl ?_))
 refine wws ?_
 refine qAd (qBl hT rfl rfl h1 rfl rfl rfl) rfl ?_
 refine wws ?_
 refine qVa rfl (fun c1=>?_) (fun c1=>?_)
 ·have c1':k*n < es.length:=Int.ofNat_lt.1 (of_decide_eq_true c1)
  have hk':=hlt.2 c1'
  have hy:=hY k (qTw n es k) (by simp [qGu,hk'])
  refine qYv ?_
  refine qLq (qOt (qLq ?_))
  refine vEr (.inl rfl) (fun _=>List.range (Hs k).length) (fun _=>[]) mixed rfl (by kernel_rfl) ?_
  refine qAx (qBl hT rfl rfl h2 rfl rfl rfl) rfl rfl ?_
  refine qAx (qBl hT rfl rfl h1 rfl rfl rfl) rfl rfl ?_
  refine wws ?_
  refine qAx (qAc (qQx (t2:=#[]) rfl rfl rfl)) rfl rfl ?_
  refine wws ?_
  have hmn:(if (((es.drop (k*n)).length:Nat):Int) < (n:Int) then (((es.drop (k*n)).length:Nat):Int) else (n:Int))=((min n (es.length-k*n):Nat):Int):=by
   rw [List.length_drop];split <;> omega
  have htk:(es.drop (k*n)).take (k*n+min n (es.length-k*n)-k*n)=(es.drop (k*n)).take n:=by
   rw [Nat.add_sub_cancel_left]
   rcases Nat.le_total n (es.length-k*n) with h | h
   ·rw [Nat.min_eq_left h]
   ·rw [Nat.min_eq_right h,List.take_of_length_le (by simp),List.take_of_length_le (by simp;omega)]
  refine qYu (l:=[(0,.fn (.yield l) [] []),(1,.ptr i 0),(2,.ptr j 0),(4,.d (.int .i64 ((k*n:Nat):Int))),(5,.d (.int .i64 ((min n (es.length-k*n):Nat):Int)))]) (h':=Hs k) ⟨.refl _,.refl _,.refl _,.refl _,AV.le.int hmn,trivial⟩ (HLe.refl _) ?_
  refine qLq (qOs (.inl rfl) ?_)
  have hadd:IntKind.i64.wrap (((k*n:Nat):Int)+((min n (es.length-k*n):Nat):Int))=((k*n+min n (es.length-k*n):Nat):Int):=by rw [qAf (by omega)];omega
  refine qSi (.inl rfl) (pre:=[_,_,_,_,_,_,_,_,_,_]) _ _ rfl ?_
  refine wws ?_
  refine qAd (qBl hT rfl rfl h1 rfl rfl rfl) rfl ?_
  refine wws ?_
  refine qAd (qAc (vJc (l:=k*n) (r:=k*n+min n (es.length-k*n)) hT rfl rfl rfl rfl (by exact congrArg (fun z=>AV.d (.int .i64 z)) hadd) (by exact congrArg (fun z=>AV.d (.int .i64 z)) hadd) (by omega) rfl)) rfl ?_
  rw [htk]
  refine wws ?_
  refine vJu (vEy rfl rfl rfl hy) rfl ?_
  refine qYq (.inl rfl) _ _ _ rfl ?_
  refine wws ?_
  refine qVa rfl (fun c2=>?_) (fun c2=>?_)
  ·exact absurd c2 (by simp)
  refine qYv ?_
  refine qGo (.inl rfl) rfl ?_
  refine wws ?_
  obtain ⟨h1',h2'⟩:=hok (k+1)
  refine qAd (qBl hT rfl rfl h2' rfl rfl rfl) rfl ?_
  refine wws ?_
  exact ⟨k+1,hk',by omega,⟨.refl _,.refl _,.refl _,AV.le.int (by rw [qAf (by omega),Nat.succ_mul];omega),trivial⟩,HLe.refl _⟩
 ·have c1':¬ k*n < es.length:=fun h=>(of_decide_eq_false c1) (Int.ofNat_lt.2 h)
  have hk':k=qHl n es:=by
   have:¬ k < qHl n es:=fun h=>c1' (hlt.1 h)
   omega
  subst hk'
  exact vHi ⟨.inl rfl,rfl⟩
end Tdoc
namespace Tdoc
open Go Go.Proofs
theorem vAw (es:List (List Dat)) (n:Nat) (hn:1≤n∧n≤1000000000):Spec Tryz.prog 350 [.d (.sl 1 es),.d (.int .i64 (n:Int))] [.room,.room]
  (fun r h'=>r=.fn (.func 388) [] [.ptr 0 0,.ptr 1 0]∧h'=[.row [.d (.sl 1 es)],.row [.d (.int .i64 (n:Int))]]):=by
 refine qAb hT Tryz.func350 rfl rfl rfl rfl ?_;intro E hE
 refine qAk (qAg ?_)
 refine qAd (boxAt_ok (i0:=0) rfl rfl rfl) rfl ?_
 refine qAd (boxAt_ok (i0:=1) rfl rfl rfl) rfl ?_
 refine ww ?_
 refine qAa rfl (fun c1=>?_) (fun c1=>?_)
 ·exact absurd c1 (by simp;omega)
 refine ww ?_
 exact wwr
theorem sumTo_succ (b:List UInt8) (n:Nat):qOw b (n+1)=qTu (qOw b n) (((qVx b).drop (64*n)).take 64):=rfl
def qVy (v:Vw) (i:Nat):List UInt8:=(((vwL v).take i).map qEk).flatten
theorem outN_succ (v:Vw) {i:Nat} (h:i < 8):qVy v (i+1)=qVy v i++qEk ((vwL v).getD i 0):=by
 have hl:(vwL v).length=8:=rfl
 unfold qVy
 rw [List.take_add_one,List.map_append,List.flatten_append]
 simp [hl,h]
theorem outN_length (v:Vw):∀ i,i≤8→(qVy v i).length=4*i
 | 0,_=>rfl
 | i+1,h=>by rw [outN_succ v (by omega),List.length_append,outN_length v i (by omega)];rfl
theorem outN_all (v:Vw):qVy v 8=vJz v:=(outW_eq v).symm
theorem qRy (b:List UInt8) (hb:b.length≤900000):Spec Tryz.prog 281 [.d (.sl 1 (qAl b))] [] (fun r h'=>r=.d (.sl 1 (qAl (qJi b)))∧h'=[]):=by
 have hpl:=padW_length b
 have hpad:=vGw b hb
 have hsum:=sumW_to b
 have hsucc:=sumTo_succ b
 have hz:qEz (qOw b 0)=qEz qPj:=rfl
 generalize qJi b=fin at hsum
 subst hsum
 generalize qOw b=sf at hsucc hz
 generalize qVx b=p at hpl hpad hsucc
 obtain ⟨kk,hkk⟩:∃ kk,p.length / 64=kk:=⟨_,rfl⟩
 rw [hkk]
 have hel:=encB_length p
 have hcn:qHl 64 (qAl p)=kk:=by unfold qHl;rw [hel];omega
 have hck:=vAw (qAl p) 64 (by omega)
 have hsq:=qWm 1 2 64 (qAl p) (by omega) (by omega)
 have hxl:(qGu 64 (qAl p)).length=kk:=by simp [qGu,hcn]
 obtain ⟨Hs,hHs⟩:∃ Hs:Nat→List AObj,Hs=fun k=>[.row [.d (.sl 1 (qEz (sf k)))],.row [.d (.sl 1 (qAl p))],.row [.d (.int .i64 (64:Nat))]]:=⟨_,rfl⟩
 refine qRz hT Tryz.func281 rfl rfl rfl rfl ?_
 intro E hE
 refine qXi ?_
 refine ww ?_
 refine qXi ?_
 refine ww ?_
 refine wwc qZd ?_
 refine ww ?_
 refine vHc (Qx:=fun e τ' h'=>e=.normal∧SubL τ' [(3,.ptr 0 0)]∧h'=Hs kk) (qXi ?_) ?_ ?_
 ·refine qAj (qAj ?_)
  refine ww ?_
  refine wwc hpad ?_
  refine ww ?_
  refine qAd (vDi rfl rfl hck [1,2] (by decide) rfl rfl rfl rfl rfl rfl rfl) rfl ?_
  refine ww ?_
  refine qYp (l:=[(11,.fn (.func 388) [] [.ptr 1 0,.ptr 2 0]),(3,.ptr 0 0)]) (h':=Hs 0) ⟨.refl _,.refl _,trivial⟩ (by rw [hHs];exact ⟨ObLe.row (by rw [hz]),ObLe.refl _,ObLe.refl _,trivial⟩) ?_
  refine vEi (vAy Hs rfl hsq rfl (fun k=>by rw [hHs];exact ⟨rfl,rfl⟩) rfl (fun k=>by rw [hHs];rfl) (fun k=>by rw [hHs];rfl)
   (fun x=>look ((4,x)::(12,x)::[(11,.fn (.func 388) [] [.ptr 1 0,.ptr 2 0]),(3,.ptr 0 0)])) ?_ ?_ ?_)
  ·rintro k x hx E' l
   have hx':x=qTw 64 (qAl p) k:=by
    have hlt:k < qHl 64 (qAl p):=by have:=(List.getElem?_eq_some_iff.1 hx).1;simpa [qGu] using this
    simp [qGu,hlt] at hx
    exact hx.symm
   subst hx'
   refine qGo (.inr ⟨l,rfl⟩) rfl ?_
   show AWk _ _ _ _ _ _ (look ((12,qTw 64 (qAl p) k)::[(11,.fn (.func 388) [] [.ptr 1 0,.ptr 2 0]),(3,.ptr 0 0)])) _
   refine wws ?_
   exact ⟨rfl,rfl,rfl⟩
  ·rintro k x hx E' l hE'
   have hlt:k < kk:=by have:=(List.getElem?_eq_some_iff.1 hx).1;omega
   have hx':x=.d (.sl 1 (qAl ((p.drop (64*k)).take 64))):=by
    have hlt:k < qHl 64 (qAl p):=by omega
    simp [qGu,hlt] at hx
    rw [← hx]
    unfold qTw qAl
    rw [List.map_take,List.map_drop,Nat.mul_comm]
   subst hx'
   have hcp:=qSe (sf k) ((p.drop (64*k)).take 64) (by rw [List.length_take,List.length_drop];omega)
   rw [← hsucc k] at hcp
   refine qYu (l:=[(4,.d (.sl 1 (qAl ((p.drop (64*k)).take 64)))),(3,.ptr 0 0)]) ⟨.refl _,.refl _,trivial⟩ (HLe.refl _) ?_
   subst hHs
   refine qOt (qGo (.inr ⟨l,rfl⟩) rfl ?_)
   refine wws ?_
   refine wwc hcp ?_
   refine wws ?_
   exact ⟨rfl,[],HLe.refl _⟩
  ·exact ⟨rfl,⟨.refl _,trivial⟩,by rw [hxl]⟩
 ·rintro E2 hE2 τ' h' ⟨_,hs,rfl⟩
  subst hHs
  refine qYp (h':=[.row [.d (.sl 1 (qEz (sf kk)))],.dead,.dead]) hs ⟨ObLe.refl _,trivial,trivial,trivial⟩ ?_
  refine vLd ?_
  generalize sf kk=v
  refine qAj ?_
  refine qAk (qAg ?_)
  refine wws ?_
  refine qAz 5 1 3 (es:=[]) (.inr ⟨rfl,rfl⟩) rfl ?_
  refine ww ?_
  refine qAp (ι:=Nat) (fun i=>[(5,.sl 1 (qAl (qVy v i)) (.right 3)),(19,.d (.sl 1 (qEz v))),(20,.d (.int .i64 8)),(21,.d (.int .i64 (i:Int)))]) (fun i=>[.row [.d (.sl 1 (qEz v))],.dead,.dead,.right 1 (qAl (qVy v i)).length]) (fun i=>i≤8) (fun i=>8-i) 0 (Nat.zero_le _)
   ⟨.refl _,.refl _,.refl _,.refl _,trivial⟩ (HLe.refl _) ?_
  intro i hi
  have hol:=encB_length (qVy v i)
  have hln:=outN_length v i hi
  refine ww ?_
  refine qAa rfl (fun c1=>?_) (fun c1=>?_)
  ·have hi':i < 8:=by simp at c1;omega
   have hv:=encW_at v hi'
   have hs:=outN_succ v hi'
   refine ww ?_
   refine wwi hv ?_
   refine ww ?_
   refine wwc (bytesOf_spec ((vwL v).getD i 0)) ?_
   refine ww ?_
   refine qAd (qAi (i:=3) hT rfl rfl rfl rfl rfl rfl (by show ((qAl (qVy v i)).length+4)*(1+1)≤_;omega)) rfl ?_
   refine ww ?_
   exact ⟨i+1,hi',by omega,⟨.slt (by rw [hs,encB_append]),.refl _,.refl _,.int (by rw [qAf (by omega)];omega),trivial⟩,⟨ObLe.refl _,ObLe.refl _,ObLe.refl _,⟨rfl,by rw [hs,encB_append]⟩,trivial⟩⟩
  ·have hi':i=8:=by simp at c1;omega
   subst hi'
   rw [outN_all]
   refine ww ?_
   refine rq ⟨rfl,rfl⟩ rfl AV.le.dat
 ·rintro e τ' h' he ⟨h1,_⟩
  exact absurd h1 he
end Tdoc
namespace Tdoc
open Go Go.Proofs
theorem qDu (x:BitVec 32) (n:Nat) (h:1≤n∧n≤31):Spec Tryz.prog 364 [uV x,.d (.int .u64 (n:Int))] [] (fun r h'=>r=uV (qKl x n)∧h'=[]):=by
 have h2:IntKind.u64.wrap (32-(n:Int))=((32-n:Nat):Int):=by rw [wrapu64 (by omega)];omega
 have h3:IntKind.u32.wrap (wI x*2 ^ (min (IntKind.u64.wrap (32-(n:Int))).toNat IntKind.u32.bits))=wI (x <<< (32-n)):=by
  rw [h2,wshl,Int.toNat_natCast,show min (32-n) 32=32-n by omega]
 have h4:Int.fdiv (wI x) (2 ^ (min ((n:Int)).toNat IntKind.u32.bits))=wI (x >>> n):=by
  rw [wshr,Int.toNat_natCast,show min n 32=n by omega]
 refine qAb hT Tryz.func364 rfl rfl rfl rfl ?_;intro E hE
 refine ww ?_
 refine rq ⟨rfl,rfl⟩ rfl (AV.le.int ?_)
 show IntKind.u32.wrap ((BitVec.ofInt IntKind.u32.bits (Int.fdiv (wI x) (2 ^ (min ((n:Int)).toNat IntKind.u32.bits))) ||| BitVec.ofInt IntKind.u32.bits (IntKind.u32.wrap (wI x*2 ^ (min (IntKind.u64.wrap (32-(n:Int))).toNat IntKind.u32.bits)))).toNat:Int)=_
 rw [h3,h4,wI_or]
 rfl
theorem vAt:Spec Tryz.prog 302 [] [] (fun r h'=>r=.d (.sl 1 (qEz qPj))∧h'=[]):=by
 refine qAb hT Tryz.func302 rfl rfl rfl rfl ?_;intro E hE
 refine ww ?_
 refine rq ⟨rfl,rfl⟩ rfl ?_
 exact AV.le.dat' rfl
theorem lenW_step:∀ (m n:Nat),qVd (m+1) n=UInt8.ofNat (n / 256 ^ m % 256)::qVd m n
 | 0,n=>by simp [qVd]
 | m+1,n=>by
  rw [qVd,lenW_step m (n / 256),qVd,List.cons_append]
  congr 2
  rw [Nat.div_div_eq_div_mul,Nat.pow_succ,Nat.mul_comm]
theorem lenW_front (m n:Nat):qVd m n=(List.range m).reverse.map fun i=>UInt8.ofNat (n / 256 ^ i % 256):=by
 induction m with
 | zero=>rfl
 | succ m ih=>rw [lenW_step,ih,List.range_succ,List.reverse_append];rfl
def qWe (n k:Nat):List UInt8:=(qVd 8 n).take k
theorem lenK_succ (n:Nat) {k:Nat} (h:k < 8):qWe n (k+1)=qWe n k++[UInt8.ofNat (n / 256 ^ (7-k) % 256)]:=by
 have hl:=lenW_length 8 n
 have hat:(qVd 8 n)[k]?=some (UInt8.ofNat (n / 256 ^ (7-k) % 256)):=by
  rw [lenW_front,List.getElem?_map,List.getElem?_reverse (by simp;omega)]
  simp [show 8-1-k < 8 by omega]
 unfold qWe
 rw [List.take_add_one,hat];rfl
theorem lenK_all (n:Nat):qWe n 8=qVd 8 n:=by unfold qWe;rw [List.take_of_length_le (by rw [lenW_length];omega)]
theorem lenK_length (n:Nat) {k:Nat} (h:k≤8):(qWe n k).length=k:=by unfold qWe;rw [List.length_take,lenW_length];omega
theorem vEa (b:List UInt8) (hb:b.length≤900000):Spec Tryz.prog 301 [.d (.sl 1 (qAl b))] [] (fun r h'=>r=.d (.sl 1 (qAl (qVx b)))∧h'=[]):=by
 have hbl:=encB_length b
 have hz:=padZ_lt b.length
 have hp:=padW_eq b
 refine qAb hT Tryz.func301 rfl rfl rfl rfl ?_;intro E hE
 refine qAj ?_
 refine ww ?_
 refine qAd (qCl (i:=0) hT rfl rfl rfl (.inr rfl) (by simp) rfl rfl (by show (qAl b).length*(1+1)≤140737488355328;omega)) rfl ?_
 refine ww ?_
 refine qAd (qAi (i:=0) hT rfl rfl rfl rfl rfl rfl (by show ((qAl b).length+1)*(1+1)≤_;omega)) rfl ?_
 refine ww ?_
 refine qAp (ι:=Nat) (fun j=>[(0,.d (.sl 1 (qAl b))),(3,.sl 1 (qAl (b++[128]++List.replicate j 0)) (.right 0))]) (fun j=>[.right 1 (qAl (b++[128]++List.replicate j 0)).length]) (fun j=>j≤qPn b.length) (fun j=>qPn b.length-j) 0 (Nat.zero_le _)
  ⟨.refl _,.slt (by rw [List.replicate_zero,List.append_nil,encB_append];rfl),trivial⟩ ⟨⟨rfl,by simp [encB_length]⟩,trivial⟩ ?_
 intro j hj
 have hlj:(qAl (b++[128]++List.replicate j 0)).length=b.length+1+j:=by rw [encB_length];simp;omega
 have hif:=padZ_iff hj
 refine ww ?_
 refine qAa rfl (fun h1=>?_) (fun h1=>?_)
 ·have h1':j < qPn b.length:=by
   rw [hlj] at h1
   have:(b.length+1+j) % 64≠56:=fun hc=>by
    have e:Int.tmod ((b.length+1+j:Nat):Int) 64=(((b.length+1+j) % 64:Nat):Int):=rfl
    rw [e,hc] at h1;exact absurd h1 (by decide)
   have:=fun hc=>this (hif.2 hc)
   omega
  have hs:=encB_rep0 b j
  refine ww ?_
  refine qAd (qAi (i:=0) hT rfl rfl rfl rfl rfl rfl (by show ((qAl (b++[128]++List.replicate j 0)).length+1)*(1+1)≤_;omega)) rfl ?_
  refine ww ?_
  exact ⟨j+1,h1',by omega,⟨.refl _,.slt hs.symm,trivial⟩,⟨⟨rfl,by rw [hs]⟩,trivial⟩⟩
 have h1':j=qPn b.length:=by
  rw [hlj] at h1
  refine hif.1 ?_
  have e:Int.tmod ((b.length+1+j:Nat):Int) 64=(((b.length+1+j) % 64:Nat):Int):=rfl
  rw [e] at h1
  simp at h1
  omega
 subst h1'
 refine wwe ?_
 generalize b++[128]++List.replicate (qPn b.length) 0=pre at hp hlj ⊢
 refine qAk (qAg ?_)
 refine wws ?_
 refine qAo (l:=[(3,.sl 1 (qAl pre) (.right 0)),(4,.d (.int .i64 ((8*b.length:Nat):Int)))]) (h':=[.right 1 (qAl pre).length]) ⟨.refl _,.int ?_,trivial⟩ (HLe.refl _) ?_
 ·show IntKind.i64.wrap (8*((qAl b).length:Int))=_
  rw [hbl,qAf (by omega)];omega
 rw [hp]
 generalize hn:8*b.length=n
 refine ww ?_
 refine qAp (ι:=Nat) (fun k=>[(3,.sl 1 (qAl (pre++qWe n k)) (.right 0)),(4,.d (.int .i64 (n:Int))),(5,.d (.int .i64 (7-(k:Int))))]) (fun k=>[.right 1 (qAl (pre++qWe n k)).length]) (fun k=>k≤8) (fun k=>8-k) 0 (Nat.zero_le _)
  ⟨.slt (by rw [show qWe n 0=[] from rfl,List.append_nil]),.refl _,.refl _,trivial⟩ ⟨⟨rfl,by rw [show qWe n 0=[] from rfl,List.append_nil]⟩,trivial⟩ ?_
 intro k hk
 have hlk:(qAl (pre++qWe n k)).length=b.length+1+qPn b.length+k:=by rw [encB_length,List.length_append,lenK_length n hk];rw [encB_length] at hlj;omega
 refine ww ?_
 refine qAa rfl (fun c1=>?_) (fun c1=>?_)
 ·have c1':k < 8:=by simp at c1;omega
  have hs:qAl (pre++qWe n (k+1))=qAl (pre++qWe n k)++[[.int .u8 ((UInt8.ofNat (n / 256 ^ (7-k) % 256)).toNat:Int)]]:=by
   rw [lenK_succ n c1',← List.append_assoc,encB_append];rfl
  have hbyte:IntKind.u8.wrap (Int.fdiv (n:Int) (2 ^ (min (IntKind.u64.wrap (IntKind.i64.wrap (8*(7-(k:Int))))).toNat IntKind.i64.bits)))=((UInt8.ofNat (n / 256 ^ (7-k) % 256)).toNat:Int):=by
   rw [qAf (n:=8*(7-(k:Int))) (by omega),wrapu64 (by omega),show (8*(7-(k:Int)))=((8*(7-k):Nat):Int) by omega,qIe n (8*(7-k)) (by omega),show min (8*(7-k)) 64=8*(7-k) by omega,Nat.pow_mul]
  have hnn:0≤IntKind.u64.wrap (IntKind.i64.wrap (8*(7-(k:Int)))):=by rw [qAf (n:=8*(7-(k:Int))) (by omega),wrapu64 (by omega)];omega
  refine ww ?_
  refine qAd (qAi (i:=0) hT rfl rfl rfl rfl rfl rfl (by show ((qAl (pre++qWe n k)).length+1)*(1+1)≤_;omega)) rfl ?_
  refine ww ?_
  exact ⟨k+1,c1',by omega,⟨.slt (by rw [hs,← hbyte]),.refl _,.int (by rw [qAf (by omega)];omega),trivial⟩,⟨⟨rfl,by rw [hs,← hbyte]⟩,trivial⟩⟩
 ·have c1':k=8:=by simp at c1;omega
  subst c1'
  rw [lenK_all]
  refine ww ?_
  refine rq ⟨rfl,rfl⟩ rfl AV.le.dat
end Tdoc
namespace Tdoc
open Go Go.Proofs
theorem qPh (v:Vw) (b:List UInt8) (hb:b.length=64):Spec Tryz.prog 303 [.d (.sl 1 (qEz v)),.d (.sl 1 (qAl b))] [] (fun r h'=>r=.tup [.d (.sl 1 (qEz (qTu v b))),.d (.int .i64 0)]∧h'=[]):=by
 have hbl:=encB_length b
 obtain ⟨m,hm⟩:∃ m:Nat,m=64:=⟨_,rfl⟩
 obtain ⟨q,hq⟩:∃ q:Nat,q=16:=⟨_,rfl⟩
 have hfin:qTu v b=vDr v (qGe v (qJs b m) m):=by subst hm;exact compW_eq v b
 have hcw:∀ n,n < m→(cellsW b m)[n]?=some (uV ((qJs b m).getD n 0)):=by subst hm;exact fun n h=>cells64 b h
 rw [hfin]
 clear hfin
 refine qAb hT Tryz.func303 rfl rfl rfl rfl ?_;intro E hE
 refine ww ?_
 refine qAa rfl (fun c1=>?_) (fun c1=>?_)
 ·exact absurd c1 (by simp [encW_length,hbl,hb])
 refine ww ?_
 refine qAp (ι:=Nat) (fun t=>[(0,.d (.sl 1 (qEz v))),(1,.d (.sl 1 (qAl b))),(6,.ptr 0 0),(7,.d (.int .i64 (t:Int)))]) (fun t=>[.row (cellsW b t)]) (fun t=>t≤q) (fun t=>q-t) 0 (Nat.zero_le _)
  ⟨.refl _,.refl _,.refl _,.refl _,trivial⟩ ⟨ObLe.row rfl,trivial⟩ ?_
 ·intro u ht
  have hcl:=cellsW_length b (t:=u) (by omega)
  refine ww ?_
  refine qAa rfl (fun c2=>?_) (fun c2=>?_)
  ·have ht':u < 16:=by simp at c2;omega
   have hst:=cellsW_set b (t:=u) (by omega)
   rw [schW_word b ht'] at hst
   have e0:IntKind.i64.wrap (4*(u:Int))=((4*u:Nat):Int):=by rw [qAf (by omega)];omega
   have e1:IntKind.i64.wrap (IntKind.i64.wrap (4*(u:Int))+1)=((4*u+1:Nat):Int):=by rw [e0,qAf (by omega)];omega
   have e2:IntKind.i64.wrap (IntKind.i64.wrap (4*(u:Int))+2)=((4*u+2:Nat):Int):=by rw [e0,qAf (by omega)];omega
   have e3:IntKind.i64.wrap (IntKind.i64.wrap (4*(u:Int))+3)=((4*u+3:Nat):Int):=by rw [e0,qAf (by omega)];omega
   have h0:=encB_getD (b:=b) (i:=4*u) (by omega)
   have h1:=encB_getD (b:=b) (i:=4*u+1) (by omega)
   have h2:=encB_getD (b:=b) (i:=4*u+2) (by omega)
   have h3:=encB_getD (b:=b) (i:=4*u+3) (by omega)
   refine wwn ?_
   refine qBm (fun _=>[0]) (fun i=>bif Nat.beq i 35 then [0] else []) mixed (by kernel_rfl) ?_
   refine wwg ?_
   refine qAm (os:=[]) (fun k hk1 hk2=>qAc (indexAddr_ok hT rfl rfl rfl rfl (by rw [e0];omega) (by rw [e0,Int.toNat_natCast];exact h0))) rfl ?_
   refine wwg ?_
   refine qAm (os:=[]) (fun k hk1 hk2=>qAc (indexAddr_ok hT rfl rfl rfl rfl (by rw [e1];omega) (by rw [e1,Int.toNat_natCast];exact h1))) rfl ?_
   refine wwg ?_
   refine qAm (os:=[]) (fun k hk1 hk2=>qAc (indexAddr_ok hT rfl rfl rfl rfl (by rw [e2];omega) (by rw [e2,Int.toNat_natCast];exact h2))) rfl ?_
   refine wwg ?_
   refine qAm (os:=[]) (fun k hk1 hk2=>qAc (indexAddr_ok hT rfl rfl rfl rfl (by rw [e3];omega) (by rw [e3,Int.toNat_natCast];exact h3))) rfl ?_
   refine wwg ?_
   refine qAm (os:=[]) (fun k hk1 hk2=>qAc (arrPtr_ok hT rfl rfl rfl rfl (by omega))) rfl ?_
   have hval:∀ r,r=wI (qSl b (4*u))→(cellsW b u).set (0+((u:Int)).toNat*1) (.d (.int .u32 r))=cellsW b (u+1):=by
    intro r hr;subst hr;rw [show 0+((u:Int)).toNat*1=u by omega];exact hst
   refine qAm (v:=.any) (os:=[.row ((cellsW b u).set (0+((u:Int)).toNat*1) _)]) (fun k hk1 hk2=>qEv hT rfl rfl ((hk2 0 List.mem_cons_self).trans rfl) rfl rfl rfl (by show 0+((u:Int)).toNat*1 < (cellsW b u).length;rw [hcl];omega)) rfl ?_
   refine wwg ?_
   refine ww ?_
   exact ⟨u+1,by omega,by omega,⟨.refl _,.refl _,.refl _,.int (by rw [qAf (by omega)];omega),trivial⟩,⟨ObLe.row (hval _ (by simp only [wI_byte,wshl,wI_or];rfl)),trivial⟩⟩
  have ht':u=q:=by simp at c2;omega
  subst ht'
  refine ww ?_
  refine qAp (ι:=Nat) (fun t=>[(0,.d (.sl 1 (qEz v))),(6,.ptr 0 0),(8,.d (.int .i64 (t:Int)))]) (fun t=>[.row (cellsW b t)]) (fun k=>u≤k∧k≤m) (fun k=>m-k) u (by omega)
   ⟨.refl _,.refl _,.int (by omega),trivial⟩ (HLe.refl _) ?_
  clear hcl ht
  intro t ⟨ht1,ht⟩
  have hcl:=cellsW_length b (t:=t) (by omega)
  refine ww ?_
  refine qAa rfl (fun c3=>?_) (fun c3=>?_)
  ·have ht':t < 64:=by simp at c3;omega
   have c3':16≤t:=by omega
   have hx:=cellsW_at b (i:=t-15) (t:=t) (by omega)
   have hy:=cellsW_at b (i:=t-2) (t:=t) (by omega)
   have h7:=cellsW_at b (i:=t-7) (t:=t) (by omega)
   have h16:=cellsW_at b (i:=t-16) (t:=t) (by omega)
   have hst:=cellsW_set b ht'
   rw [schW_next b c3'] at hst
   generalize (qJs b t).getD (t-15) 0=x at hx hst
   generalize (qJs b t).getD (t-2) 0=y at hy hst
   generalize (qJs b t).getD (t-7) 0=z7 at h7 hst
   generalize (qJs b t).getD (t-16) 0=z16 at h16 hst
   have e15:IntKind.i64.wrap ((t:Int)-15)=((t-15:Nat):Int):=by rw [qAf (by omega)];omega
   have e2:IntKind.i64.wrap ((t:Int)-2)=((t-2:Nat):Int):=by rw [qAf (by omega)];omega
   have e7:IntKind.i64.wrap ((t:Int)-7)=((t-7:Nat):Int):=by rw [qAf (by omega)];omega
   have e16:IntKind.i64.wrap ((t:Int)-16)=((t-16:Nat):Int):=by rw [qAf (by omega)];omega
   refine ww ?_
   refine qAx (qAc (arrPtr_ok hT rfl rfl rfl rfl (by rw [e15];omega))) rfl rfl ?_
   refine qAx (qBl (v:=uV x) hT rfl rfl rfl rfl rfl (by rw [e15];show (cellsW b t)[0+((t-15:Nat):Int).toNat*1]?=_;rw [show 0+((t-15:Nat):Int).toNat*1=t-15 by omega];exact hx)) rfl rfl ?_
   refine ww ?_
   refine qAx (qAc (arrPtr_ok hT rfl rfl rfl rfl (by rw [e2];omega))) rfl rfl ?_
   refine qAx (qBl (v:=uV y) hT rfl rfl rfl rfl rfl (by rw [e2];show (cellsW b t)[0+((t-2:Nat):Int).toNat*1]?=_;rw [show 0+((t-2:Nat):Int).toNat*1=t-2 by omega];exact hy)) rfl rfl ?_
   refine wws ?_
   refine qAo (l:=[(0,.d (.sl 1 (qEz v))),(6,.ptr 0 0),(8,.d (.int .i64 (t:Int))),(9,uV x),(10,uV y)]) (h':=[.row (cellsW b t)]) ⟨.refl _,.refl _,.refl _,.refl _,.refl _,trivial⟩ (HLe.refl _) ?_
   refine qBm (fun _=>[0]) (fun i=>bif Nat.beq i 29 then [0] else []) mixed (by kernel_rfl) ?_
   refine wwg ?_
   refine wwdc (qDu y 17 (by omega)) ?_
   refine wwg ?_
   refine wwdc (qDu y 19 (by omega)) ?_
   refine wwg ?_
   refine qAm (os:=[]) (fun k hk1 hk2=>qAc (arrPtr_ok hT rfl rfl rfl rfl (by rw [e7];omega))) rfl ?_
   refine qAm (v:=uV z7) (os:=[]) (fun k hk1 hk2=>qBl hT rfl rfl ((hk2 0 List.mem_cons_self).trans rfl) rfl rfl (by rw [e7];show (cellsW b t)[0+((t-7:Nat):Int).toNat*1]?=_;rw [show 0+((t-7:Nat):Int).toNat*1=t-7 by omega];exact h7)) rfl ?_
   refine wwg ?_
   refine wwdc (qDu x 7 (by omega)) ?_
   refine wwg ?_
   refine wwdc (qDu x 18 (by omega)) ?_
   refine wwg ?_
   refine qAm (os:=[]) (fun k hk1 hk2=>qAc (arrPtr_ok hT rfl rfl rfl rfl (by rw [e16];omega))) rfl ?_
   refine qAm (v:=uV z16) (os:=[]) (fun k hk1 hk2=>qBl hT rfl rfl ((hk2 0 List.mem_cons_self).trans rfl) rfl rfl (by rw [e16];show (cellsW b t)[0+((t-16:Nat):Int).toNat*1]?=_;rw [show 0+((t-16:Nat):Int).toNat*1=t-16 by omega];exact h16)) rfl ?_
   refine wwg ?_
   refine qAm (os:=[]) (fun k hk1 hk2=>qAc (arrPtr_ok hT rfl rfl rfl rfl (by omega))) rfl ?_
   have hval:∀ r,r=wI (sg1 y+z7+sg0 x+z16)→(cellsW b t).set (0+((t:Int)).toNat*1) (.d (.int .u32 r))=cellsW b (t+1):=by
    intro r hr;subst hr;rw [show 0+((t:Int)).toNat*1=t by omega];exact hst
   refine qAm (v:=.any) (os:=[.row ((cellsW b t).set (0+((t:Int)).toNat*1) _)]) (fun k hk1 hk2=>qEv hT rfl rfl ((hk2 0 List.mem_cons_self).trans rfl) rfl rfl rfl (by show 0+((t:Int)).toNat*1 < (cellsW b t).length;rw [hcl];omega)) rfl ?_
   refine wwg ?_
   refine ww ?_
   exact ⟨t+1,⟨by omega,by omega⟩,by omega,⟨.refl _,.refl _,.int (by rw [qAf (by omega)];omega),trivial⟩,⟨ObLe.row (hval _ (by simp only [wshr,wI_xor,wI_add,uV];rfl)),trivial⟩⟩
  have ht':t=m:=by simp at c3;omega
  subst ht'
  generalize cellsW b t=cw at hcw hcl ⊢
  generalize qJs b t=w at hcw ⊢
  refine wwe ?_
  refine qAk (wx mixed ?_)
  refine wws ?_
  refine wwi ((rfl:(qEz v)[0]?=some [Dat.int .u32 (wI v.a)])) ?_
  refine wws ?_
  refine wwi ((rfl:(qEz v)[1]?=some [Dat.int .u32 (wI v.b)])) ?_
  refine wws ?_
  refine wwi ((rfl:(qEz v)[2]?=some [Dat.int .u32 (wI v.c)])) ?_
  refine wws ?_
  refine wwi ((rfl:(qEz v)[3]?=some [Dat.int .u32 (wI v.d)])) ?_
  refine wws ?_
  refine wwi ((rfl:(qEz v)[4]?=some [Dat.int .u32 (wI v.e)])) ?_
  refine wws ?_
  refine wwi ((rfl:(qEz v)[5]?=some [Dat.int .u32 (wI v.f)])) ?_
  refine wws ?_
  refine wwi ((rfl:(qEz v)[6]?=some [Dat.int .u32 (wI v.g)])) ?_
  refine wws ?_
  refine wwi ((rfl:(qEz v)[7]?=some [Dat.int .u32 (wI v.h)])) ?_
  refine wws ?_
  refine qAo (l:=[(0,.d (.sl 1 (qEz v))),(6,.ptr 0 0),(11,uV v.a),(12,uV v.b),(13,uV v.c),(14,uV v.d),(15,uV v.e),(16,uV v.f),(17,uV v.g),(18,uV v.h)]) (h':=[.row cw]) ⟨.refl _,.refl _,.refl _,.refl _,.refl _,.refl _,.refl _,.refl _,.refl _,.refl _,trivial⟩ (HLe.refl _) ?_
  refine ww ?_
  refine qAp (ι:=Nat) (fun n=>(0,.d (.sl 1 (qEz v)))::(6,.ptr 0 0)::(19,.d (.int .i64 (n:Int)))::(let r:=qGe v w n;[(11,uV r.a),(12,uV r.b),(13,uV r.c),(14,uV r.d),(15,uV r.e),(16,uV r.f),(17,uV r.g),(18,uV r.h)])) (fun _=>[.row cw]) (fun n=>n≤t) (fun n=>t-n) 0 (Nat.zero_le _)
   ⟨.refl _,.refl _,.refl _,.refl _,.refl _,.refl _,.refl _,.refl _,.refl _,.refl _,.refl _,trivial⟩ (HLe.refl _) ?_
  intro n hn
  have hr1:=roundW_succ v w n
  have hwn:=hcw n
  have hkn:=kD_at (n:=n)
  generalize hr:qGe v w n=r at hr1 ⊢
  generalize w.getD n 0=wn at hr1 hwn
  generalize kW.getD n 0=kn at hr1 hkn
  refine qAo (l:=[(0,.d (.sl 1 (qEz v))),(6,.ptr 0 0),(19,.d (.int .i64 (n:Int))),(11,uV r.a),(12,uV r.b),(13,uV r.c),(14,uV r.d),(15,uV r.e),(16,uV r.f),(17,uV r.g),(18,uV r.h)]) (h':=[.row cw]) ⟨.refl _,.refl _,.refl _,.refl _,.refl _,.refl _,.refl _,.refl _,.refl _,.refl _,.refl _,trivial⟩ (HLe.refl _) ?_
  refine ww ?_
  refine qAa rfl (fun c4=>?_) (fun c4=>?_)
  ·have hn':n < 64:=by simp at c4;omega
   have hwn:=hwn (by omega)
   have hkn:=hkn hn'
   refine qBv ?_
   refine wwn ?_
   refine wx mixed ?_
   refine wws ?_
   refine wwc (qDu r.e 6 (by omega)) ?_
   refine wws ?_
   refine wwc (qDu r.e 11 (by omega)) ?_
   refine wws ?_
   refine wwc (qDu r.e 25 (by omega)) ?_
   refine wws ?_
   refine qAx (qAc (arrAddr_ok (cs:=kD) hT rfl rfl (by show (match qGr 4 with | some cs=>AV.iptr cs | none=>.any)=_;rw [kD_tab4]) rfl (by omega))) rfl rfl ?_
   refine qAx (qAc (loadI_ok hT rfl rfl (loadI_head rfl rfl (by rw [show ((n:Int)).toNat*1=n by omega];exact hkn)))) rfl rfl ?_
   refine wws ?_
   refine qAx (qAc (arrPtr_ok hT rfl rfl rfl rfl (by omega))) rfl rfl ?_
   refine qAx (qBl (v:=uV wn) hT rfl rfl rfl rfl rfl (by show cw[0+((n:Int)).toNat*1]?=_;rw [show 0+((n:Int)).toNat*1=n by omega];exact hwn)) rfl rfl ?_
   refine wws ?_
   refine qAo (l:=[(0,.d (.sl 1 (qEz v))),(6,.ptr 0 0),(19,.d (.int .i64 (n:Int))),(11,uV r.a),(12,uV r.b),(13,uV r.c),(14,uV r.d),(15,uV r.e),(16,uV r.f),(17,uV r.g),(18,uV r.h),(20,uV (r.h+bs1 r.e+((r.e &&& r.f) ^^^ (~~~ r.e &&& r.g))+kn+wn))]) (h':=[.row cw])
    ⟨.refl _,.refl _,.refl _,.refl _,.refl _,.refl _,.refl _,.refl _,.refl _,.refl _,.refl _,.int (by simp only [wI_not,wI_and,wI_xor,wI_add,uV];rfl),trivial⟩ (HLe.refl _) ?_
   generalize hT1:r.h+bs1 r.e+((r.e &&& r.f) ^^^ (~~~ r.e &&& r.g))+kn+wn=T1
   refine qAk (qAg ?_)
   refine wws ?_
   refine wwc (qDu r.a 2 (by omega)) ?_
   refine wws ?_
   refine wwc (qDu r.a 13 (by omega)) ?_
   refine wws ?_
   refine wwc (qDu r.a 22 (by omega)) ?_
   refine wws ?_
   refine qAo (l:=[(0,.d (.sl 1 (qEz v))),(6,.ptr 0 0),(19,.d (.int .i64 (n:Int))),(11,uV r.a),(12,uV r.b),(13,uV r.c),(14,uV r.d),(15,uV r.e),(16,uV r.f),(17,uV r.g),(18,uV r.h),(20,uV T1),(21,uV (bs0 r.a+((r.a &&& r.b) ^^^ (r.a &&& r.c) ^^^ (r.b &&& r.c))))]) (h':=[.row cw])
    ⟨.refl _,.refl _,.refl _,.refl _,.refl _,.refl _,.refl _,.refl _,.refl _,.refl _,.refl _,.refl _,.int (by simp only [wI_not,wI_and,wI_xor,wI_add,uV];rfl),trivial⟩ (HLe.refl _) ?_
   generalize hT2:bs0 r.a+((r.a &&& r.b) ^^^ (r.a &&& r.c) ^^^ (r.b &&& r.c))=T2
   have hfv:vFe r kn wn=⟨T1+T2,r.a,r.b,r.c,r.d+T1,r.e,r.f,r.g⟩:=by rw [← hT1,← hT2];rfl
   rw [hfv] at hr1
   refine ww ?_
   refine ⟨n+1,by omega,by omega,?_,HLe.refl _⟩
   rw [hr1]
   exact ⟨.refl _,.refl _,.int (by rw [qAf (by omega)];omega),.int (wI_add T1 T2),.refl _,.refl _,.refl _,.int (wI_add _ _),.refl _,.refl _,.refl _,trivial⟩
  have hn':n=t:=by simp at c4;omega
  subst hn'
  rw [hr]
  refine wwe ?_
  refine qAk (wx mixed ?_)
  refine wws ?_
  refine wwi ((rfl:(qEz v)[0]?=some [Dat.int .u32 (wI v.a)])) ?_
  refine wws ?_
  refine wwi ((rfl:(qEz v)[1]?=some [Dat.int .u32 (wI v.b)])) ?_
  refine wws ?_
  refine wwi ((rfl:(qEz v)[2]?=some [Dat.int .u32 (wI v.c)])) ?_
  refine wws ?_
  refine wwi ((rfl:(qEz v)[3]?=some [Dat.int .u32 (wI v.d)])) ?_
  refine wws ?_
  refine wwi ((rfl:(qEz v)[4]?=some [Dat.int .u32 (wI v.e)])) ?_
  refine wws ?_
  refine wwi ((rfl:(qEz v)[5]?=some [Dat.int .u32 (wI v.f)])) ?_
  refine wws ?_
  refine wwi ((rfl:(qEz v)[6]?=some [Dat.int .u32 (wI v.g)])) ?_
  refine wws ?_
  refine wwi ((rfl:(qEz v)[7]?=some [Dat.int .u32 (wI v.h)])) ?_
  refine wws ?_
  refine ww ?_
  refine rq ⟨rfl,rfl⟩ rfl (AV.le.tup ⟨AV.le.dat' ?_,.refl _,trivial⟩)
  simp only [wI_add,uV]
  rfl
end Tdoc
namespace Tdoc
open Go Go.Proofs
theorem qKv (b:List UInt8) (hb:b.length≤900000):Spec Tryz.prog 204 [.d (.sl 1 (qAl b))] [] (fun r h'=>r=.d (.sl 1 (qAl (qJi b)))∧h'=[]):=by
 have hpl:=padW_length b
 have hpad:=vEa b hb
 have hsum:=sumW_to b
 have hsucc:=sumTo_succ b
 have hz:qEz (qOw b 0)=qEz qPj:=rfl
 generalize qJi b=fin at hsum
 subst hsum
 generalize qOw b=sf at hsucc hz
 generalize qVx b=p at hpl hpad hsucc
 obtain ⟨kk,hkk⟩:∃ kk,p.length / 64=kk:=⟨_,rfl⟩
 rw [hkk]
 have hel:=encB_length p
 refine qAb hT Tryz.func204 rfl rfl rfl rfl ?_;intro E hE
 refine ww ?_
 refine wwc hpad ?_
 refine ww ?_
 refine wwc vAt ?_
 refine ww ?_
 refine qAp (ι:=Nat) (fun k=>[(3,.d (.sl 1 (qAl p))),(4,.d (.sl 1 (qEz (sf k)))),(5,.d (.int .i64 ((64*k:Nat):Int)))]) (fun _=>[]) (fun k=>k≤kk) (fun k=>kk-k) 0 (Nat.zero_le _)
  ⟨.refl _,.sl hz.symm,.refl _,trivial⟩ (HLe.refl _) ?_
 intro k hk
 have e1:IntKind.i64.wrap (((64*k:Nat):Int)+64)=((64*k+64:Nat):Int):=by rw [qAf (by omega)];omega
 refine ww ?_
 refine qAa rfl (fun c1=>?_) (fun c1=>?_)
 ·have hk':k < kk:=by simp only [decide_eq_true_eq] at c1;rw [e1,hel] at c1;omega
  have hcp:=qPh (sf k) ((p.drop (64*k)).take 64) (by rw [List.length_take,List.length_drop];omega)
  rw [← hsucc k] at hcp
  have hcut:qOa (qAl p) ((64*k:Nat):Int) (IntKind.i64.wrap (((64*k:Nat):Int)+64))=qAl ((p.drop (64*k)).take 64):=by
   rw [e1]
   unfold qOa
   rw [Int.toNat_natCast,Int.toNat_natCast]
   unfold qAl;simp only [← List.map_take,← List.map_drop];congr 1
   first | (rw [List.drop_take];congr 1;omega) | (congr 1;omega) | (congr 2;omega)
  refine qBv ?_
  refine qAk (qEm (qAg ?_))
  refine wk hT rfl rfl ?_
  refine wk hT rfl rfl ?_
  refine wk hT rfl rfl ?_
  refine wk hT rfl rfl ?_
  refine wk hT rfl rfl ?_
  refine wk hT rfl rfl ?_
  rw [hcut]
  refine wwc hcp ?_
  refine ww ?_
  exact ⟨k+1,hk',by omega,⟨.refl _,.refl _,.int (by rw [e1];omega),trivial⟩,HLe.refl _⟩
 have hk':k=kk:=by simp only [decide_eq_false_iff_not] at c1;rw [e1,hel] at c1;omega
 subst hk'
 generalize sf k=v
 refine qAj ?_
 refine wwe ?_
 refine qAk (qAg ?_)
 refine wws ?_
 refine qAz 6 1 0 (es:=[]) (.inr ⟨rfl,rfl⟩) rfl ?_
 refine ww ?_
 refine qAp (ι:=Nat) (fun i=>[(4,.d (.sl 1 (qEz v))),(6,.sl 1 (qAl (qVy v i)) (.right 0)),(7,.d (.int .i64 (i:Int)))]) (fun i=>[.right 1 (qAl (qVy v i)).length]) (fun i=>i≤8) (fun i=>8-i) 0 (Nat.zero_le _)
  ⟨.refl _,.refl _,.refl _,trivial⟩ (HLe.refl _) ?_
 intro i hi
 have hol:=encB_length (qVy v i)
 have hln:=outN_length v i hi
 refine ww ?_
 refine qAa rfl (fun c2=>?_) (fun c2=>?_)
 ·have hi':i < 8:=by rw [encW_length] at c2;simp at c2;omega
  have hv:=encW_at v hi'
  have hs:=outN_succ v hi'
  generalize (vwL v).getD i 0=x at hv hs
  have hbs:([[Dat.int .u8 (IntKind.u8.wrap (Int.fdiv (wI x) (2 ^ (min (24:Int).toNat IntKind.u32.bits))))],[Dat.int .u8 (IntKind.u8.wrap (Int.fdiv (wI x) (2 ^ (min (16:Int).toNat IntKind.u32.bits))))],[Dat.int .u8 (IntKind.u8.wrap (Int.fdiv (wI x) (2 ^ (min (8:Int).toNat IntKind.u32.bits))))],[Dat.int .u8 (IntKind.u8.wrap (wI x))]]:List (List Dat))=qAl (qEk x):=by
   simp only [wshr,bW_wrap];rfl
  refine qBv ?_
  refine wwn ?_
  refine qBm (fun i=>bif Nat.beq i 25 then [0] else []) (fun i=>bif Nat.beq i 25 then [0] else []) mixed (by kernel_rfl) ?_
  refine wwg ?_
  refine qAm (os:=[]) (fun k hk1 hk2=>qAc (indexAddr_ok hT rfl rfl rfl rfl (by omega) hv)) rfl ?_
  refine wwg ?_
  refine qAm (os:=[]) (fun k hk1 hk2=>qAc (indexAddr_ok hT rfl rfl rfl rfl (by omega) hv)) rfl ?_
  refine wwg ?_
  refine qAm (os:=[]) (fun k hk1 hk2=>qAc (indexAddr_ok hT rfl rfl rfl rfl (by omega) hv)) rfl ?_
  refine wwg ?_
  refine qAm (os:=[]) (fun k hk1 hk2=>qAc (indexAddr_ok hT rfl rfl rfl rfl (by omega) hv)) rfl ?_
  refine wwg ?_
  refine qAm (os:=[]) (fun k hk1 hk2=>buildSl_ok hT rfl rfl) rfl ?_
  refine qAm (os:=[.right 1 (qAl (qVy v i)++qAl (qEk x)).length]) (v:=.sl 1 (qAl (qVy v i)++qAl (qEk x)) (.right 0)) (fun k hk1 hk2=>qAi (i:=0) (es2:=qAl (qEk x)) hT rfl rfl rfl rfl ((hk2 0 List.mem_cons_self).trans rfl) (congrArg some hbs) (by show ((qAl (qVy v i)).length+4)*(1+1)≤_;omega)) rfl ?_
  rw [← encB_append,← hs]
  refine wwg ?_
  refine ww ?_
  exact ⟨i+1,hi',by omega,⟨.refl _,.refl _,.int (by rw [qAf (by omega)];omega),trivial⟩,HLe.refl _⟩
 have hi':i=8:=by rw [encW_length] at c2;simp at c2;omega
 subst hi'
 rw [outN_all]
 refine ww ?_
 refine rq ⟨rfl,rfl⟩ rfl AV.le.dat
end Tdoc
namespace Tdoc
open Go Go.Proofs
theorem qIz (a b:List UInt8) (hl:a.length+b.length≤1000000):Spec Tryz.prog 205 [.d (.sl 1 (qAl a)),.d (.sl 1 (qAl b))] [] (fun r h'=>r=.d (.sl 1 (qAl (a++b)))∧h'=[]):=by
 have ha:=encB_length a
 have hb:=encB_length b
 refine qAb hT Tryz.func205 rfl rfl rfl rfl ?_;intro E hE
 refine qAj ?_
 refine ww ?_
 refine qAd (qCl (i:=0) hT rfl rfl rfl (.inr rfl) (by simp) rfl rfl (by show (qAl a).length*(1+1)≤140737488355328;omega)) rfl ?_
 refine ww ?_
 refine qAd (qAi (i:=0) hT rfl rfl rfl rfl rfl rfl (by show ((qAl a).length+(qAl b).length)*(1+1)≤_;omega)) rfl ?_
 refine ww ?_
 refine rq ⟨rfl,rfl⟩ rfl (AV.le.dat' ?_)
 rw [encB_append]
theorem vKe (n:Nat):(List.replicate n [AV.d (.int .u8 0)]).flatten=qAn (List.replicate n 0):=by
 rw [qRd];unfold qAn;rw [List.map_replicate];rfl
theorem vEh (n:Nat) (hn:1≤n∧n≤1000000):Spec Tryz.prog 300 [.nils,.d (.int .i64 (n:Int))] [.room] (fun r h'=>∃ cap:Nat,n≤cap∧r=.row 0 0 0 cap∧h'=[.row (qAn (List.replicate n 0))]):=by
 refine qAb hT Tryz.func300 rfl rfl rfl rfl ?_;intro E hE
 refine ww ?_
 refine qAa rfl (fun c1=>?_) (fun c1=>?_)
 ·exact absurd c1 (by simp)
 refine ww ?_
 refine qAd (qAc (capNil_ok (sz:=1) hT rfl rfl rfl)) rfl ?_
 refine ww ?_
 refine qAa rfl (fun c2=>?_) (fun c2=>?_)
 ·refine ww ?_
  refine qAd (qAc (capNil_ok (sz:=1) hT rfl rfl rfl)) rfl ?_
  refine qAd (qAc (nilCut_ok (sz:=1) hT rfl rfl rfl rfl)) rfl ?_
  refine ww ?_
  refine qCr (growMake_ok (k':=.i64) (n:=n) (i0:=0) (sz:=1) hT rfl rfl rfl (.inr rfl) ?_ ⟨by omega,by decide⟩ (by show n*(1+1)≤_;omega) rfl) rfl ?_
  ·exact congrArg (fun z=>AV.d (.int .i64 z)) (by show IntKind.i64.wrap ((n:Int)-IntKind.i64.wrap (0-0))=(n:Int);rw [show IntKind.i64.wrap ((0:Int)-0)=0 from rfl,qAf (by omega)];omega)
  rintro v h' ⟨cap,hcap,rfl,rfl⟩
  rw [vKe]
  refine ww ?_
  refine qAd (qAc (vIg (sz:=1) (l:=0) (r:=0) (v:=.row 0 0 0 cap) hT rfl rfl rfl rfl ⟨_,rfl⟩ (by omega) (by omega) (by simp))) rfl ?_
  refine ww ?_
  exact rq (h6:=by show (qCw 1 (qAn _)&&true)=true;rw [Bool.and_true];exact lowL_bytes _ _) ⟨cap,hcap,rfl,rfl⟩ rfl (.refl _)
 ·exfalso
  rw [qAf (n:=0-0) (by omega),qAf (by omega)] at c2
  simp at c2
  omega
theorem vBs:∀ (new:List UInt8) (pre old post:List UInt8),old.length=new.length→qCg (qAn (pre++old++post)) pre.length (qAn new)=qAn (pre++new++post)
 | [],pre,old,post,h=>by cases old with | nil=>rfl | cons _ _=>simp at h
 | c::new,pre,old,post,h=>by
  cases old with
  | nil=>simp at h
  | cons d old =>
   have e:(qAn (pre++d::old++post)).set pre.length (.d (.int .u8 (c.toNat:Int)))=qAn ((pre++[c])++old++post):=by
    unfold qAn
    rw [List.append_assoc,List.map_append,List.set_append_right _ _ (by simp)]
    simp
   have ih:=vBs new (pre++[c]) old post (by simpa using h)
   show qCg ((qAn (pre++d::old++post)).set pre.length (.d (.int .u8 (c.toNat:Int)))) (pre.length+1) (qAn new)=_
   rw [e]
   simpa using ih
theorem setRun_fill (pre new:List UInt8) {k:Nat} (h:new.length≤k):qCg (qAn (pre++List.replicate k 0)) (pre.length*1) (qFf (qAl new))=qAn (pre++new++List.replicate (k-new.length) 0):=by
 have e:List.replicate k (0:UInt8)=List.replicate new.length 0++List.replicate (k-new.length) 0:=by rw [List.replicate_append_replicate];congr 1;omega
 rw [flatAV_encB,Nat.mul_one,e,← List.append_assoc]
 exact vBs new pre _ _ (by simp)
theorem qKj (l:List (List UInt8)) (hl:l.length≤10) (h0:1≤l.flatten.length) (hb:l.flatten.length≤900000):Spec Tryz.prog 196 [.d (.sl 1 (qJy l))] [] (fun r h'=>r=.d (.sl 1 (qAl l.flatten))∧h'=[]):=by
 have hll:=encBs_length l
 have hle:=flatN_le l
 have hall:=flatN_all l
 have hsuc:∀ i,i < l.length→qMg l (i+1)=qMg l i++l.getD i []:=fun i h=>flatN_succ h
 have hz:qMg l 0=[]:=rfl
 have hg:=vEh l.flatten.length (by omega)
 generalize qMg l=fl at hle hall hsuc hz
 generalize l.flatten=tot at *
 refine qAb hT Tryz.func196 rfl rfl rfl rfl ?_;intro E hE
 refine ww ?_
 refine qAp (ι:=Nat) (fun i=>[(0,.d (.sl 1 (qJy l))),(3,.d (.int .i64 ((fl i).length:Int))),(9,.d (.sl 1 (qJy l))),(10,.d (.int .i64 (l.length:Int))),(11,.d (.int .i64 (i:Int)))]) (fun _=>[]) (fun i=>i≤l.length) (fun i=>l.length-i) 0 (Nat.zero_le _)
  ⟨.refl _,.int (by rw [hz];rfl),.refl _,.int (by rw [hll]),.refl _,trivial⟩ (HLe.refl _) ?_
 intro i hi
 refine ww ?_
 refine qAa rfl (fun c1=>?_) (fun c1=>?_)
 ·have hi':i < l.length:=by simp at c1;omega
  have hat:=encBs_at hi'
  have h1:=hle (i+1) hi'
  have hs:=hsuc i hi'
  have hlen:(fl (i+1)).length=(fl i).length+(l.getD i []).length:=by rw [hs,List.length_append]
  generalize l.getD i []=s at hat hs hlen
  have hel:=encB_length s
  refine ww ?_
  refine wwi hat ?_
  refine ww ?_
  refine qAa rfl (fun c2=>?_) (fun c2=>?_)
  ·exfalso
   rw [hel,qAf (by omega)] at c2
   simp at c2
   omega
  refine ww ?_
  exact ⟨i+1,hi',by omega,⟨.refl _,.int (by rw [hel,hlen,qAf (by omega)];omega),.refl _,.refl _,.int (by rw [qAf (by omega)];omega),trivial⟩,HLe.refl _⟩
 have hi':i=l.length:=by simp at c1;omega
 subst hi'
 rw [hall]
 refine qAj ?_
 refine ww ?_
 refine vEl (vLv rfl rfl hg [0] (by decide) rfl rfl rfl rfl (fun _=>by show (qCw 0 (qAn _)&&true)=true;rw [Bool.and_true];exact lowL_bytes _ _) (fun _=>rfl) (fun _=>rfl)) rfl ?_
 intro cap hcap
 refine ww ?_
 refine qAp (ι:=Nat) (fun i=>[(6,.row 0 0 (fl i).length cap),(25,.d (.sl 1 (qJy l))),(26,.d (.int .i64 (l.length:Int))),(27,.d (.int .i64 (i:Int)))]) (fun i=>[.row (qAn (fl i++List.replicate (tot.length-(fl i).length) 0))]) (fun i=>i≤l.length) (fun i=>l.length-i) 0 (Nat.zero_le _)
  ⟨by rw [hz];exact .refl _,.refl _,.int (by rw [hll]),.refl _,trivial⟩ ⟨ObLe.row (by rw [hz];rfl),trivial⟩ ?_
 intro i hi
 refine ww ?_
 refine qAa rfl (fun c1=>?_) (fun c1=>?_)
 ·have hi':i < l.length:=by simp at c1;omega
  have hat:=encBs_at hi'
  have h1:=hle (i+1) hi'
  have hs:=hsuc i hi'
  have hlen:(fl (i+1)).length=(fl i).length+(l.getD i []).length:=by rw [hs,List.length_append]
  generalize l.getD i []=s at hat hs hlen
  have hel:=encB_length s
  have hfill:=setRun_fill (fl i) s (k:=tot.length-(fl i).length) (by omega)
  rw [← hs,show tot.length-(fl i).length-s.length=tot.length-(fl (i+1)).length by omega] at hfill
  refine ww ?_
  refine wwi hat ?_
  refine ww ?_
  refine qAd (appRowD_ok (i:=0) (es2:=qAl s) hT rfl rfl rfl rfl rfl rfl (by rw [hel];omega) (by show ((fl i).length+(qAl s).length)*1≤_;rw [hel,byteAV_length,List.length_append,List.length_replicate];omega)) rfl ?_
  refine ww ?_
  exact ⟨i+1,hi',by omega,⟨by rw [hel,← hlen];exact .refl _,.refl _,.refl _,.int (by rw [qAf (by omega)];omega),trivial⟩,⟨ObLe.row hfill,trivial⟩⟩
 have hi':i=l.length:=by simp at c1;omega
 subst hi'
 refine qKk ?_
 refine qAo (l:=[(6,.row 0 0 tot.length cap)]) (h':=[.row (qAn tot)]) ⟨by rw [hall];exact .refl _,trivial⟩ ⟨ObLe.row (by rw [hall,Nat.sub_self];simp),trivial⟩ ?_
 refine qLa 6 0 1 (qAl tot) rfl rfl (encB_length tot) hcap (qFa tot) ?_
 refine ww ?_
 exact wwr
end Tdoc
namespace Tdoc
open Go Go.Proofs
theorem nbV_eq (v:List UInt8):nbV v=nbN v:=rfl
theorem qSm (b more:List UInt8) (h1:1≤more.length) (hl:b.length+more.length≤800000):Spec Tryz.prog 246 [.d (.sl 1 (qAl b)),.d (.sl 1 (qAl more))] [] (fun r h'=>r=.d (.sl 1 (qAl (qJi (b++more))))∧h'=[]):=by
 have hf:[b,more].flatten=b++more:=by simp
 have hc:=qKj [b,more] (by simp) (by rw [hf,List.length_append];omega) (by rw [hf,List.length_append];omega)
 have hs:=qRy (b++more) (by rw [List.length_append];omega)
 rw [hf] at hc
 generalize b++more=bm at hc hs
 refine qAb hT Tryz.func246 rfl rfl rfl rfl ?_;intro E hE
 refine ww ?_
 refine wwc hc ?_
 refine ww ?_
 refine wwc hs ?_
 refine ww ?_
 exact wwr
theorem qUr (seed:List UInt8) (n:Nat) (hs:seed.length≤500000) (h1:1≤n) (hn:n≤1024):Spec Tryz.prog 160 [.d (.sl 1 (qAl seed)),.d (.int .i64 (n:Int))] [] (fun r h'=>r=.tup [.d (.sl 1 (qAl (qEj seed n))),.d (.sl 1 (qAl (qAv seed))),.d (.int .i64 0)]∧h'=[]):=by
 have hdq:∀ i,n≤32*i→32*i < n+32→qEj seed n=(qIf seed i).take n:=drawS_eq seed n
 have hsu:∀ i,qIf seed (i+1)=qIf seed i++qJi (seed++1::qAu 4 i):=drawN_succ seed
 have hln:∀ i,(qIf seed i).length=32*i:=drawN_length seed
 have hz:qIf seed 0=[]:=rfl
 have hnx:=qSm seed [0] (by simp) (by simp;omega)
 have hnx2:qAv seed=qJi (seed++[0]):=rfl
 rw [← hnx2] at hnx
 generalize qAv seed=nx at hnx
 generalize qEj seed n=fin at hdq
 generalize qIf seed=dn at hdq hsu hln hz
 refine qAb hT Tryz.func160 rfl rfl rfl rfl ?_;intro E hE
 refine qAj ?_
 refine qAk (qAg ?_)
 refine wws ?_
 refine qAz 4 1 0 (es:=[]) (.inr ⟨rfl,rfl⟩) rfl ?_
 refine ww ?_
 refine qAa rfl (fun c1=>?_) (fun c1=>?_)
 ·exact absurd c1 (by simp;omega)
 refine ww ?_
 refine qAp (ι:=Nat) (fun i=>[(0,.d (.sl 1 (qAl seed))),(1,.d (.int .i64 (n:Int))),(4,.sl 1 (qAl (dn i)) (.right 0)),(7,.d (.int .i64 (i:Int)))]) (fun i=>[.right 1 (qAl (dn i)).length]) (fun i=>32*i < n+32) (fun i=>n+32-32*i) 0 (by omega)
  ⟨.refl _,.refl _,.slt (by rw [hz];rfl),.refl _,trivial⟩ ⟨⟨rfl,by rw [hz];rfl⟩,trivial⟩ ?_
 intro i hi
 have hl:=hln i
 have hel:=encB_length (dn i)
 refine ww ?_
 refine qAa rfl (fun c2=>?_) (fun c2=>?_)
 ·have c2':32*i < n:=by simp at c2;omega
  have hs1:=hsu i
  have hoc:=qDi i 4 (by omega) (by omega)
  have h5:([[Dat.int .u8 1]]++qAl (qAu 4 i):List (List Dat))=qAl (1::qAu 4 i):=rfl
  have hol:=octB_length 4 i
  have hw:=qSm seed (1::qAu 4 i) (by simp) (by simp;omega)
  have hsl:=sumW_length (seed++1::qAu 4 i)
  generalize qJi (seed++1::qAu 4 i)=sm1 at hs1 hw hsl
  have hes:=encB_length sm1
  refine ww ?_
  refine wwc hoc ?_
  refine ww ?_
  refine qAd (qCh (es:=[[.int .u8 1]]) hT rfl rfl rfl (.inl rfl) rfl (by show (1+(qAl (qAu 4 i)).length)*(1+1)≤140737488355328;rw [encB_length,hol];omega)) rfl ?_
  rw [h5]
  refine ww ?_
  refine wwc hw ?_
  refine ww ?_
  refine qAd (qAi (i:=0) hT rfl rfl rfl rfl rfl rfl (by show ((qAl (dn i)).length+(qAl sm1).length)*(1+1)≤_;omega)) rfl ?_
  refine ww ?_
  exact ⟨i+1,by omega,by omega,⟨.refl _,.refl _,.slt (by rw [hs1,encB_append]),.int (by rw [qAf (by omega)];omega),trivial⟩,⟨⟨rfl,by rw [hs1,encB_append]⟩,trivial⟩⟩
 have c2':n≤32*i:=by simp at c2;omega
 rw [hdq i c2' hi]
 refine qKk ?_
 refine qAo (l:=[(0,.d (.sl 1 (qAl seed))),(1,.d (.int .i64 (n:Int))),(4,.d (.sl 1 (qAl (dn i))))]) (h':=[.dead]) ⟨.refl _,.refl _,.dat,trivial⟩ ⟨trivial,trivial⟩ ?_
 refine ww ?_
 refine qAx (qAc (vGi (r:=n) hT rfl rfl rfl rfl rfl (by omega) (congrArg (fun z=>AV.d (.sl 1 z)) (encB_take _ _)))) rfl rfl ?_
 refine ww ?_
 refine wwc hnx ?_
 refine ww ?_
 exact wwr
theorem vAu (seed:List UInt8) (n:Nat) (hs:seed.length≤500000) (h1:1≤n) (hn:n≤1024):Spec Tryz.prog 112 [.d (.sl 1 (qAl seed)),.d (.int .i64 (n:Int))] [] (fun r h'=>r=.tup [.d (.sl 1 (qAl (qEj seed n))),.d (.sl 1 (qAl (qAv seed))),.d (.int .i64 0)]∧h'=[]):=by
 have hdq:∀ i,n≤32*i→32*i < n+32→qEj seed n=(qIf seed i).take n:=drawS_eq seed n
 have hsu:∀ i,qIf seed (i+1)=qIf seed i++qJi (seed++1::qAu 4 i):=drawN_succ seed
 have hln:∀ i,(qIf seed i).length=32*i:=drawN_length seed
 have hz:qIf seed 0=[]:=rfl
 have hjn:=qIz seed [0] (by simp;omega)
 have hnx:=qKv (seed++[0]) (by simp;omega)
 have hnx2:qAv seed=qJi (seed++[0]):=rfl
 rw [← hnx2] at hnx
 generalize qAv seed=nx at hnx
 generalize qEj seed n=fin at hdq
 generalize qIf seed=dn at hdq hsu hln hz
 refine qAb hT Tryz.func112 rfl rfl rfl rfl ?_;intro E hE
 refine qAj ?_
 refine ww ?_
 refine qAa rfl (fun c1=>?_) (fun c1=>?_)
 ·exact absurd c1 (by simp;omega)
 refine qBv ?_
 refine qAk (qAg ?_)
 refine wws ?_
 refine qAz 7 1 0 (es:=[]) (.inr ⟨rfl,rfl⟩) rfl ?_
 refine ww ?_
 refine qAp (ι:=Nat) (fun i=>[(0,.d (.sl 1 (qAl seed))),(1,.d (.int .i64 (n:Int))),(7,.sl 1 (qAl (dn i)) (.right 0)),(8,.d (.int .i64 (i:Int)))]) (fun i=>[.right 1 (qAl (dn i)).length]) (fun i=>32*i < n+32) (fun i=>n+32-32*i) 0 (by omega)
  ⟨.refl _,.refl _,.slt (by rw [hz];rfl),.refl _,trivial⟩ ⟨⟨rfl,by rw [hz];rfl⟩,trivial⟩ ?_
 intro i hi
 have hl:=hln i
 have hel:=encB_length (dn i)
 refine ww ?_
 refine qAa rfl (fun c2=>?_) (fun c2=>?_)
 ·have c2':32*i < n:=by simp at c2;omega
  have hs1:=hsu i
  have hoc:=qKw i (by omega)
  have h5:([[Dat.int .u8 1]]++qAl (qAu 4 i):List (List Dat))=qAl (1::qAu 4 i):=rfl
  have hol:=octB_length 4 i
  have hj:=qIz seed (1::qAu 4 i) (by simp;omega)
  have hw:=qKv (seed++1::qAu 4 i) (by simp;omega)
  have hsl:=sumW_length (seed++1::qAu 4 i)
  generalize qJi (seed++1::qAu 4 i)=sm1 at hs1 hw hsl
  generalize seed++1::qAu 4 i=sj at hj hw
  have hes:=encB_length sm1
  refine ww ?_
  refine wwc hoc ?_
  refine ww ?_
  refine qAd (qCh (es:=[[.int .u8 1]]) hT rfl rfl rfl (.inl rfl) rfl (by show (1+(qAl (qAu 4 i)).length)*(1+1)≤140737488355328;rw [encB_length,hol];omega)) rfl ?_
  rw [h5]
  refine ww ?_
  refine wwc hj ?_
  refine ww ?_
  refine wwc hw ?_
  refine ww ?_
  refine qAd (qAi (i:=0) hT rfl rfl rfl rfl rfl rfl (by show ((qAl (dn i)).length+(qAl sm1).length)*(1+1)≤_;omega)) rfl ?_
  refine ww ?_
  exact ⟨i+1,by omega,by omega,⟨.refl _,.refl _,.slt (by rw [hs1,encB_append]),.int (by rw [qAf (by omega)];omega),trivial⟩,⟨⟨rfl,by rw [hs1,encB_append]⟩,trivial⟩⟩
 have c2':n≤32*i:=by simp at c2;omega
 rw [hdq i c2' hi]
 refine qKk ?_
 refine qAo (l:=[(0,.d (.sl 1 (qAl seed))),(1,.d (.int .i64 (n:Int))),(7,.d (.sl 1 (qAl (dn i))))]) (h':=[.dead]) ⟨.refl _,.refl _,.dat,trivial⟩ ⟨trivial,trivial⟩ ?_
 have hcut:(qAl (dn i)).take ((n:Int)).toNat=qAl ((dn i).take n):=by rw [Int.toNat_natCast];exact encB_take _ _
 refine qAk (wx mixed ?_)
 refine wd hT rfl rfl rfl ?_
 refine wd hT rfl rfl rfl ?_
 refine wd hT rfl rfl rfl ?_
 rw [hcut]
 refine ww ?_
 refine wwc hjn ?_
 refine ww ?_
 refine wwc hnx ?_
 refine ww ?_
 exact wwr
theorem qG_val:qG=1073741789:=rfl
theorem nbN_lt7 (v:List UInt8) (h:v.length≤7):nbN v < 72057594037927936:=by
 have:=nbN_lt v
 exact Nat.lt_of_lt_of_le this (Nat.le_trans (Nat.pow_le_pow_right (by omega) h) (by decide))
theorem qOj (seed:List UInt8) (hs:seed.length≤500000):Spec Tryz.prog 161 [.d (.sl 1 (qAl seed))] [] (fun r h'=>r=.tup [.d (.int .i64 (qDr seed:Int)),.d (.sl 1 (qAl (qAv seed)))]∧h'=[]):=by
 have hd:=qUr seed 8 hs (by omega) (by omega)
 have hsq:=secS_eq seed
 rw [nbV_eq] at hsq
 have hdl:=drawS_length seed 8
 generalize qEj seed 8=ds at hd hsq hdl
 generalize qAv seed=nx at hd
 have hnm:=qMa (ds.take 7) (by rw [List.length_take];omega)
 have hlt:=nbN_lt7 (ds.take 7) (by rw [List.length_take];omega)
 rw [show vIm (ds.take 7)=(((nbN (ds.take 7):Nat):Int),0) by unfold vIm;rw [if_neg (by rw [List.length_take];omega)]] at hnm
 have hel:=encB_length ds
 have hcut:(qAl ds).take (7:Int).toNat=qAl (ds.take 7):=encB_take _ _
 generalize nbN (ds.take 7)=nb at hnm hsq hlt
 refine qAb hT Tryz.func161 rfl rfl rfl rfl ?_;intro E hE
 refine ww ?_
 refine wwc hd ?_
 refine ww ?_
 rw [hcut]
 refine ww ?_
 refine wwc hnm ?_
 refine ww ?_
 refine rq ⟨rfl,rfl⟩ rfl (AV.le.tup ⟨.int ?_,.refl _,trivial⟩)
 have hq:=qG_val
 have hm:Int.tmod (nb:Int) 1073741788=((nb % (qG-1):Nat):Int):=rfl
 have hml:nb % (qG-1) < qG-1:=Nat.mod_lt _ (by decide)
 show IntKind.i64.wrap (1+Int.tmod (nb:Int) 1073741788)=_
 rw [hm,hsq,qAf (by omega)];omega
theorem qIk (v:List UInt8) (hv:7≤v.length) (m:Nat) (hm:1≤m∧m≤4294967296):Spec Tryz.prog 207 [.d (.sl 1 (qAl v)),.d (.int .i64 (m:Int))] [] (fun r h'=>r=.d (.int .i64 ((nbV (v.take 7) % m:Nat):Int))∧h'=[]):=by
 rw [nbV_eq]
 have hnm:=qUo (v.take 7) (by rw [List.length_take];omega)
 have hlt:=nbN_lt7 (v.take 7) (by rw [List.length_take];omega)
 have hel:=encB_length v
 have hcut:(qAl v).take (7:Int).toNat=qAl (v.take 7):=encB_take _ _
 generalize nbN (v.take 7)=nb at hnm hlt
 refine qAb hT Tryz.func207 rfl rfl rfl rfl ?_;intro E hE
 refine ww ?_
 rw [hcut]
 refine ww ?_
 refine wwc hnm ?_
 refine ww ?_
 refine rq ⟨rfl,rfl⟩ rfl (.int rfl)
theorem qUg (seed:List UInt8) (hs:seed.length≤500000):Spec Tryz.prog 113 [.d (.sl 1 (qAl seed))] [] (fun r h'=>r=.tup [.d (.int .i64 (qDr seed:Int)),.d (.sl 1 (qAl (qAv seed)))]∧h'=[]):=by
 have hd:=vAu seed 8 hs (by omega) (by omega)
 have hsq:=secS_eq seed
 have hdl:=drawS_length seed 8
 generalize qEj seed 8=ds at hd hsq hdl
 generalize qAv seed=nx at hd
 have hnm:=qIk ds (by omega) (qG-1) (by decide)
 have hml:nbV (ds.take 7) % (qG-1) < qG-1:=Nat.mod_lt _ (by decide)
 generalize nbV (ds.take 7) % (qG-1)=nb at hnm hsq hml
 have hq:=qG_val
 refine qAb hT Tryz.func113 rfl rfl rfl rfl ?_;intro E hE
 refine ww ?_
 refine wwc hd ?_
 refine ww ?_
 refine wwc hnm ?_
 refine ww ?_
 refine rq ⟨rfl,rfl⟩ rfl (AV.le.tup ⟨.int ?_,.refl _,trivial⟩)
 show IntKind.i64.wrap (1+(nb:Int))=_
 rw [hsq,qAf (by omega)];omega
end Tdoc
namespace Tdoc
open Go Go.Proofs
def qLt (k:Int):Bool:=decide (0 < k∧k < 1073741789)
theorem secF_nat {k:Nat} (h:1≤k∧k < qG):qLt (k:Int)=true:=by have:=qG_val;exact decide_eq_true (by omega)
theorem secF_get {k:Int} (h:qLt k=true):∃ n:Nat,k=(n:Int)∧1≤n∧n < qG:=by
 have hq:=qG_val
 have:=of_decide_eq_true h
 exact ⟨k.toNat,by omega,by omega,by omega⟩
theorem qVk (k:Int):Spec Tryz.prog 172 [.d (.int .i64 k)] [] (fun r h'=>r=.d (.bool (qLt k))∧h'=[]):=by
 refine qAb hT Tryz.func172 rfl rfl rfl rfl ?_;intro E hE
 refine ww ?_
 refine rq ⟨rfl,rfl⟩ rfl (.bool ?_)
 unfold qLt
 simp
theorem secretR_spec (k:Int):Spec Tryz.prog 208 [.d (.int .i64 k)] [] (fun r h'=>r=.d (.bool (qLt k))∧h'=[]):=by
 refine qAb hT Tryz.func208 rfl rfl rfl rfl ?_;intro E hE
 refine ww ?_
 refine rq ⟨rfl,rfl⟩ rfl (.bool ?_)
 unfold qLt
 rw [Bool.eq_iff_iff]
 simp
 omega
def qSk (k:Int):Int:=if qLt k=true then ((qJu k.toNat:Nat):Int) else 0
def qKp (k:Int):Int:=if qLt k=true then 0 else 3
theorem qHd (k:Int):Spec Tryz.prog 91 [.d (.int .i64 k)] [] (fun r h'=>r=.tup [.d (.int .i64 (qSk k)),.d (.int .i64 (qKp k))]∧h'=[]):=by
 have hs:=qVk k
 unfold qSk qKp
 refine qAb hT Tryz.func91 rfl rfl rfl rfl ?_;intro E hE
 refine ww ?_
 refine wwc hs ?_
 refine ww ?_
 refine qAa rfl (fun c1=>?_) (fun c1=>?_)
 ·have c1':¬ qLt k=true:=by simpa using c1
  rw [if_neg c1',if_neg c1']
  refine ww ?_
  exact wwr
 have c1':qLt k=true:=by simpa using c1
 rw [if_pos c1',if_pos c1']
 obtain ⟨n,rfl,h1,h2⟩:=secF_get c1'
 have hp:=powerK_spec 4 n (by decide) (by omega)
 rw [Int.toNat_natCast]
 unfold qJu
 generalize 4 ^ n % pG=p at hp
 refine ww ?_
 refine wwc hp ?_
 refine ww ?_
 exact wwr
theorem qUl (x k:Nat) (hx:x < pG) (hk:k≤qG):Spec Tryz.prog 209 [.d (.int .i64 (x:Int)),.d (.int .i64 (k:Int))] [] (fun r h'=>r=.d (.int .i64 ((x ^ k % pG:Nat):Int))∧h'=[]):=by
 have hq:=qG_val
 have h:=qYo x k 30 hx (by omega) (Nat.lt_of_le_of_lt hk (by decide))
 rw [powX_eq 30 x k 1 (Nat.lt_of_le_of_lt hk (by decide)) (by decide),Nat.one_mul] at h
 exact h
theorem qLz (k:Int):Spec Tryz.prog 114 [.d (.int .i64 k)] [] (fun r h'=>r=.tup [.d (.int .i64 (qSk k)),.d (.int .i64 (qKp k))]∧h'=[]):=by
 have hs:=secretR_spec k
 unfold qSk qKp
 refine qAb hT Tryz.func114 rfl rfl rfl rfl ?_;intro E hE
 refine ww ?_
 refine wwc hs ?_
 refine ww ?_
 refine qAa rfl (fun c1=>?_) (fun c1=>?_)
 ·have c1':¬ qLt k=true:=by simpa using c1
  rw [if_neg c1',if_neg c1']
  refine ww ?_
  exact wwr
 have c1':qLt k=true:=by simpa using c1
 rw [if_pos c1',if_pos c1']
 obtain ⟨n,rfl,h1,h2⟩:=secF_get c1'
 have hp:=qUl 4 n (by decide) (by omega)
 rw [Int.toNat_natCast]
 unfold qJu
 generalize 4 ^ n % pG=p at hp
 refine ww ?_
 refine wwc hp ?_
 refine ww ?_
 exact wwr
theorem vAp (x k:Nat) (hx:1≤x∧x < pG) (hk:k≤qG):Spec Tryz.prog 285 [.d (.int .i64 (x:Int)),.d (.int .i64 (k:Int))] [] (fun r h'=>r=.tup [.d (.int .i64 ((x ^ k % pG:Nat):Int)),.d (.int .i64 0)]∧h'=[]):=by
 have hq:=qG_val
 have hpg:pG=2147483579:=rfl
 have hr:=qLu (x:Int)
 rw [show qGg (x:Int)=true by unfold qGg;exact decide_eq_true (by omega)] at hr
 have hp:=powerK_spec x k hx.2 hk
 generalize x ^ k % pG=p at hp
 refine qAb hT Tryz.func285 rfl rfl rfl rfl ?_;intro E hE
 refine ww ?_
 refine wwc hr ?_
 refine ww ?_
 refine qAa rfl (fun c1=>?_) (fun c1=>?_)
 ·exact absurd c1 (by simp;omega)
 refine ww ?_
 refine wwc hp ?_
 refine ww ?_
 exact wwr
theorem numS_eq (n:Nat) (msg:List UInt8) (m:Nat):qPq n msg m=nbV ((qJi (qAu 4 n++msg)).take 7) % m:=rfl
theorem qLs (n:Nat) (msg:List UInt8) (m:Nat) (hn:n < 4294967296) (hl:msg.length≤700000) (hm:1≤m∧m≤4294967296):Spec Tryz.prog 284 [.d (.int .i64 (n:Int)),.d (.sl 1 (qAl msg)),.d (.int .i64 (m:Int))] [] (fun r h'=>r=.d (.int .i64 ((qPq n msg m:Nat):Int))∧h'=[]):=by
 have hoc:=qDi n 4 (by omega) (by omega)
 have hol:=octB_length 4 n
 have hfl:[qAu 4 n,msg].flatten=qAu 4 n++msg:=by simp
 have hc:=qKj [qAu 4 n,msg] (by simp) (by rw [hfl,List.length_append];omega) (by rw [hfl,List.length_append];omega)
 have hs:=qRy (qAu 4 n++msg) (by rw [List.length_append];omega)
 have he:=numS_eq n msg m
 rw [hfl] at hc
 have hsl:=sumW_length (qAu 4 n++msg)
 generalize qJi (qAu 4 n++msg)=sm1 at hs he hsl
 generalize qAu 4 n++msg=bm at hc hs
 have hnm:=qMa (sm1.take 7) (by rw [List.length_take];omega)
 rw [show vIm (sm1.take 7)=(((nbN (sm1.take 7):Nat):Int),0) by unfold vIm;rw [if_neg (by rw [List.length_take];omega)]] at hnm
 have hel:=encB_length sm1
 have hcut:(qAl sm1).take (7:Int).toNat=qAl (sm1.take 7):=encB_take _ _
 rw [nbV_eq] at he
 generalize nbN (sm1.take 7)=nb at hnm he
 generalize qPq n msg m=fin at he
 subst he
 refine qAb hT Tryz.func284 rfl rfl rfl rfl ?_;intro E hE
 refine ww ?_
 refine wwc hoc ?_
 refine ww ?_
 refine wwc hc ?_
 refine ww ?_
 refine wwc hs ?_
 refine ww ?_
 rw [hcut]
 refine wwc hnm ?_
 refine ww ?_
 refine rq ⟨rfl,rfl⟩ rfl (.int rfl)
theorem qPa (n:Nat) (msg:List UInt8) (hn:n < 4294967296) (hl:msg.length≤700000):Spec Tryz.prog 235 [.d (.int .i64 (n:Int)),.d (.sl 1 (qAl msg))] [] (fun r h'=>r=.d (.int .i64 ((qPq n msg qG:Nat):Int))∧h'=[]):=by
 have hoc:=qKw n (by omega)
 have hol:=octB_length 4 n
 have hj:=qIz (qAu 4 n) msg (by omega)
 have hs:=qKv (qAu 4 n++msg) (by rw [List.length_append];omega)
 have he:=numS_eq n msg qG
 have hsl:=sumW_length (qAu 4 n++msg)
 generalize qJi (qAu 4 n++msg)=sm1 at hs he hsl
 generalize qAu 4 n++msg=bm at hj hs
 have hnm:=qIk sm1 (by omega) qG (by decide)
 rw [← he] at hnm
 generalize qPq n msg qG=fin at hnm
 refine qAb hT Tryz.func235 rfl rfl rfl rfl ?_;intro E hE
 refine ww ?_
 refine wwc hoc ?_
 refine ww ?_
 refine wwc hj ?_
 refine ww ?_
 refine wwc hs ?_
 refine ww ?_
 refine wwc hnm ?_
 refine ww ?_
 exact wwr
def qSu (k:Int) (msg:List UInt8):Int:=if qLt k=true then (((qGq k.toNat msg).1:Nat):Int) else 0
def qSs (k:Int) (msg:List UInt8):Int:=if qLt k=true then (((qGq k.toNat msg).2:Nat):Int) else 0
theorem signS_eq (k:Nat) (msg:List UInt8):qGq k msg=(qPq (qJu (1+qPq k msg (qG-1))) msg qG,(1+qPq k msg (qG-1)+qPq (qJu (1+qPq k msg (qG-1))) msg qG*k) % qG):=rfl
theorem qUf (k:Int) (msg:List UInt8) (hl:msg.length≤700000):Spec Tryz.prog 185 [.d (.int .i64 k),.d (.sl 1 (qAl msg))] [] (fun r h'=>r=.tup [.agg [.d (.int .i64 (qSu k msg)),.d (.int .i64 (qSs k msg))],.d (.int .i64 (qKp k))]∧h'=[]):=by
 have hp:=qHd k
 unfold qSu qSs
 refine qAb hT Tryz.func185 rfl rfl rfl rfl ?_;intro E hE
 refine ww ?_
 refine wwc hp ?_
 refine ww ?_
 refine qAa rfl (fun c1=>?_) (fun c1=>?_)
 ·have c1':¬ qLt k=true:=by intro h;unfold qKp at c1;rw [if_pos h] at c1;simp at c1
  rw [if_neg c1',if_neg c1']
  refine ww ?_
  exact wwr
 have c1':qLt k=true:=by
  rcases Bool.eq_false_or_eq_true (qLt k) with h | h
  ·exact h
  ·unfold qKp at c1;rw [if_neg (by simp [h])] at c1;simp at c1
 rw [if_pos c1',if_pos c1']
 have he0:qKp k=0:=by unfold qKp;rw [if_pos c1']
 rw [he0]
 obtain ⟨n,rfl,h1,h2⟩:=secF_get c1'
 rw [Int.toNat_natCast]
 have hq:=qG_val
 have hpg:pG=2147483579:=rfl
 have hn1:=qLs n msg (qG-1) (by omega) hl (by decide)
 have hsg:=signS_eq n msg
 have hlt1:=numS_lt n msg (m:=qG-1) (by decide)
 generalize qPq n msg (qG-1)=a at hn1 hsg hlt1
 have hpw:=vAp 4 (1+a) (by decide) (by omega)
 have hps:qJu (1+a)=4 ^ (1+a) % pG:=rfl
 rw [← hps] at hpw
 have hpl:=pubS_lt (1+a)
 generalize qJu (1+a)=r at hpw hsg hpl
 have hn2:=qLs r msg qG (by omega) hl (by decide)
 have hlt2:=numS_lt r msg (m:=qG) (by decide)
 generalize qPq r msg qG=e at hn2 hsg hlt2
 rw [hsg]
 have hmul:e*n≤1152921504606846976:=Nat.le_trans (Nat.mul_le_mul (Nat.le_of_lt hlt2) (Nat.le_of_lt h2)) (by decide)
 have hw1:IntKind.i64.wrap (1+(a:Int))=((1+a:Nat):Int):=by rw [qAf (by omega)];omega
 have hw2:IntKind.i64.wrap ((e:Int)*(n:Int))=((e*n:Nat):Int):=by rw [← Int.natCast_mul];exact qAf (by omega)
 refine ww ?_
 refine wwc hn1 ?_
 refine ww ?_
 refine wwc hpw ?_
 refine ww ?_
 refine wwc hn2 ?_
 refine ww ?_
 refine rq ⟨rfl,rfl⟩ rfl (AV.le.tup ⟨AV.le.agg ⟨.refl _,.int ?_,trivial⟩,.refl _,trivial⟩)
 show Int.tmod (IntKind.i64.wrap (IntKind.i64.wrap (1+(a:Int))+IntKind.i64.wrap ((e:Int)*(n:Int)))) 1073741789=_
 rw [hw1,hw2,qAf (by omega),← Int.natCast_add]
 rfl
theorem vAn (k:Int) (msg:List UInt8) (hl:msg.length≤700000):Spec Tryz.prog 133 [.d (.int .i64 k),.d (.sl 1 (qAl msg))] [] (fun r h'=>r=.tup [.agg [.d (.int .i64 (qSu k msg)),.d (.int .i64 (qSs k msg))],.d (.int .i64 (qKp k))]∧h'=[]):=by
 have hp:=secretR_spec k
 unfold qSu qSs qKp
 refine qAb hT Tryz.func133 rfl rfl rfl rfl ?_;intro E hE
 refine ww ?_
 refine wwc hp ?_
 refine ww ?_
 refine qAa rfl (fun c1=>?_) (fun c1=>?_)
 ·have c1':¬ qLt k=true:=by simpa using c1
  rw [if_neg c1',if_neg c1',if_neg c1']
  refine ww ?_
  exact wwr
 have c1':qLt k=true:=by simpa using c1
 rw [if_pos c1',if_pos c1',if_pos c1']
 obtain ⟨n,rfl,h1,h2⟩:=secF_get c1'
 rw [Int.toNat_natCast]
 have hq:=qG_val
 have hpg:pG=2147483579:=rfl
 have hoc:=qKw n (by omega)
 have hol:=octB_length 4 n
 have hj:=qIz (qAu 4 n) msg (by omega)
 have hs:=qKv (qAu 4 n++msg) (by rw [List.length_append];omega)
 have he:=numS_eq n msg (qG-1)
 have hsl:=sumW_length (qAu 4 n++msg)
 generalize qJi (qAu 4 n++msg)=sm1 at hs he hsl
 generalize qAu 4 n++msg=bm at hj hs
 have hn1:=qIk sm1 (by omega) (qG-1) (by decide)
 rw [← he] at hn1
 have hsg:=signS_eq n msg
 have hlt1:=numS_lt n msg (m:=qG-1) (by decide)
 generalize qPq n msg (qG-1)=a at hn1 hsg hlt1
 have hpw:=qUl 4 (1+a) (by decide) (by omega)
 have hps:qJu (1+a)=4 ^ (1+a) % pG:=rfl
 rw [← hps] at hpw
 have hpl:=pubS_lt (1+a)
 generalize qJu (1+a)=r at hpw hsg hpl
 have hn2:=qPa r msg (by omega) hl
 have hlt2:=numS_lt r msg (m:=qG) (by decide)
 generalize qPq r msg qG=e at hn2 hsg hlt2
 rw [hsg]
 have hmul:e*n≤1152921504606846976:=Nat.le_trans (Nat.mul_le_mul (Nat.le_of_lt hlt2) (Nat.le_of_lt h2)) (by decide)
 have hw1:IntKind.i64.wrap (1+(a:Int))=((1+a:Nat):Int):=by rw [qAf (by omega)];omega
 have hw2:IntKind.i64.wrap ((e:Int)*(n:Int))=((e*n:Nat):Int):=by rw [← Int.natCast_mul];exact qAf (by omega)
 refine ww ?_
 refine wwc hoc ?_
 refine ww ?_
 refine wwc hj ?_
 refine ww ?_
 refine wwc hs ?_
 refine ww ?_
 refine wwc hn1 ?_
 refine ww ?_
 refine wwc hpw ?_
 refine ww ?_
 refine wwc hn2 ?_
 refine ww ?_
 refine rq ⟨rfl,rfl⟩ rfl (AV.le.tup ⟨AV.le.agg ⟨.refl _,.int ?_,trivial⟩,.refl _,trivial⟩)
 show Int.tmod (IntKind.i64.wrap (IntKind.i64.wrap (1+(a:Int))+IntKind.i64.wrap ((e:Int)*(n:Int)))) 1073741789=_
 rw [hw1,hw2,qAf (by omega),← Int.natCast_add]
 rfl
end Tdoc
namespace Tdoc
open Go Go.Proofs
def qVc (x n:Int):Int:=if n < 1 then 0 else x % n
theorem vBm {x n:Int} (h:1≤n) : -n < x.tmod n∧x.tmod n < n:=by
 have h1:=Int.tmod_lt_of_pos x (b:=n) (by omega)
 have h2:(-x).tmod n < n:=Int.tmod_lt_of_pos (-x) (b:=n) (by omega)
 rw [Int.neg_tmod] at h2
 omega
theorem vFs {x n:Int} (h:1≤n):(x.tmod n+n).tmod n=x % n:=by
 have hb:=vBm (x:=x) h
 rw [Int.tmod_eq_emod_of_nonneg (by omega),Int.add_emod_right]
 have h2:=Int.mul_tdiv_add_tmod x n
 have h3:x % n=(x.tmod n+n*x.tdiv n) % n:=by rw [Int.add_comm,h2]
 rw [h3,Int.add_mul_emod_self_left]
theorem modP_range {x n:Int} (h:1≤n):0≤qVc x n∧qVc x n < n:=by
 unfold qVc
 rw [if_neg (by omega)]
 exact ⟨Int.emod_nonneg _ (by omega),Int.emod_lt_of_pos _ (by omega)⟩
set_option maxRecDepth 100000 in
theorem qMy (x n:Int) (hn:n≤4611686018427387904):Spec Tryz.prog 10 [.d (.int .i64 x),.d (.int .i64 n)] [] (fun r h'=>r=.d (.int .i64 (qVc x n))∧h'=[]):=by
 refine qAb hT Tryz.func10 rfl rfl rfl rfl ?_
 intro E hE
 refine ww ?_
 refine qAa rfl (fun h1=>?_) (fun h1=>?_)
 ·have h1':n < 1:=by simpa using h1
  have hm:qVc x n=0:=by unfold qVc;rw [if_pos h1']
  rw [hm]
  refine ww ?_
  exact qAh rfl (.refl _) rfl rfl rfl rfl ⟨rfl,rfl⟩
 ·have h1':¬ n < 1:=by simpa using h1
  have hne:n≠0:=by omega
  have hb:=vBm (x:=x) (n:=n) (by omega)
  have hw:IntKind.i64.wrap (x.tmod n+n)=x.tmod n+n:=qAf (by omega)
  have hm:(IntKind.i64.wrap (x.tmod n+n)).tmod n=qVc x n:=by rw [hw,vFs (by omega)];unfold qVc;rw [if_neg h1']
  rw [← hm]
  refine ww ?_
  exact qAh rfl (.refl _) rfl rfl rfl rfl ⟨rfl,rfl⟩
theorem numsD_length (k:IntKind) (l:List Int):(qHp k l).length=l.length:=by simp [qHp]
def dice (l:List Int) (at_:Nat):List AV:=[.d (.sl 1 (qHp .i64 l)),.d (.int .i64 (at_:Int))]
set_option maxRecDepth 100000 in
theorem vDv (l:List Int) (hl:l.length≤1000000):Spec Tryz.prog 19 [.d (.sl 1 (qHp .i64 l))] [.room] (fun r h'=>r=.ptr 0 0∧h'=[.row (dice l 0)]):=by
 refine qAb hT Tryz.func19 rfl rfl rfl rfl ?_
 intro E hE
 have hll:=numsD_length .i64 l
 unfold dice
 generalize qHp .i64 l=es at hll
 refine ww ?_
 refine qAd (qCh (es:=[]) hT rfl rfl rfl (.inl rfl) rfl (by show (([]:List (List Dat)).length+es.length)*(8+1)≤140737488355328;simp;omega)) rfl ?_
 refine qHf hT rfl rfl (by first | exact True.intro | exact (fun hh=>hh) | omega | assumption | (intro hh;rw [hh];rfl) | (intro hh;simp [gval,hh];done) | (simp;omega)) ?_
 refine qAd (boxAt_ok (i0:=0) rfl rfl rfl) rfl ?_
 refine ww ?_
 exact qAh rfl (.refl _) rfl rfl rfl rfl ⟨rfl,rfl⟩
def vCe (l:List Int) (at_:Nat) (n:Int):Int:=match l[at_]? with
 | none=>0
 | some x=>qVc x n
def vFq (l:List Int) (at_:Nat):Nat:=if at_ < l.length then at_+1 else at_
set_option maxRecDepth 100000 in
theorem vEd (l:List Int) (a:Nat) (n:Int) (hn:n≤4611686018427387904) (hl:l.length≤1000000) (ha:a≤l.length) :
  Spec Tryz.prog 20 [.ptr 0 0,.d (.int .i64 n)] [.row (dice l a)] (fun r h'=>r=.d (.int .i64 (vCe l a n))∧h'=[.row (dice l (vFq l a))]):=by
 refine qAb hT Tryz.func20 rfl rfl rfl rfl ?_
 intro E hE
 have hll:=numsD_length .i64 l
 unfold dice
 refine ww ?_
 refine qAa rfl (fun h1=>?_) (fun h1=>?_)
 ·have h1':¬ a < l.length:=by rw [hll] at h1;simp at h1;omega
  have hget:l[a]?=none:=List.getElem?_eq_none (by omega)
  have hv:vCe l a n=0:=by simp [vCe,hget]
  have hv2:vFq l a=a:=by simp [vFq,h1']
  rw [hv,hv2]
  refine ww ?_
  exact qAh rfl (.refl _) rfl rfl rfl rfl ⟨rfl,rfl⟩
 ·have h1':a < l.length:=by rw [hll] at h1;simp at h1;omega
  have hw1:IntKind.i64.wrap ((a:Int)+1)=((a+1:Nat):Int):=by rw [qAf (by omega)];simp
  have hw2:IntKind.i64.wrap (((a+1:Nat):Int)-1)=(a:Int):=by rw [qAf (by omega)];omega
  have h0:0≤IntKind.i64.wrap (IntKind.i64.wrap ((a:Int)+1)-1):=by rw [hw1,hw2];omega
  have hel:(qHp .i64 l)[(IntKind.i64.wrap (IntKind.i64.wrap ((a:Int)+1)-1)).toNat]?=some [.int .i64 l[a]]:=by rw [hw1,hw2];simp [qHp,h1']
  have hv:vCe l a n=qVc l[a] n:=by simp [vCe,h1']
  have hm:=qMy l[a] n hn
  rw [← hv] at hm
  generalize l[a]=x at hel hm
  refine ww ?_
  refine qAx (qAc (indexAddr_ok hT rfl rfl rfl rfl h0 hel)) rfl rfl ?_
  refine ww ?_
  refine qAx (qBn rfl rfl hm rfl rfl rfl) rfl rfl ?_
  refine ww ?_
  refine qAh rfl (.refl _) rfl rfl rfl rfl ⟨rfl,?_⟩
  rw [hw1]
  simp [vFq,h1']
end Tdoc
namespace Tdoc
open Go Go.Proofs
def vHm (n:Int):Int:=1+qVc n 1073741788
theorem qUh (n:Int):Spec Tryz.prog 80 [.d (.int .i64 n)] [] (fun r h'=>r=.tup [.d (.int .i64 (vHm n)),.d (.int .i64 (qSk (vHm n)))]∧h'=[]):=by
 have hm:=qMy n 1073741788 (by omega)
 have hr:=modP_range (x:=n) (n:=1073741788) (by omega)
 have hw:IntKind.i64.wrap (1+qVc n 1073741788)=vHm n:=by rw [qAf (by omega)];rfl
 have hp:=qLz (vHm n)
 refine qAb hT Tryz.func80 rfl rfl rfl rfl ?_;intro E hE
 refine ww ?_
 refine wwc hm ?_
 refine wws ?_
 rw [hw]
 refine ww ?_
 refine wwc hp ?_
 refine ww ?_
 exact wwr
def stsM:List (List Dat):=[[.str [85,84,79]],[.str [68]],[.str [88,79,77]],[.str [90,90,90]]]
def stN (n:Int):List UInt8:=[[85,84,79],[68],[88,79,77],[90,90,90]].getD (qVc n 4).toNat []
theorem stsM_at (n:Int):stsM[(qVc n 4).toNat]?=some [.str (stN n)]:=by
 have hr:=modP_range (x:=n) (n:=4) (by omega)
 unfold stN
 generalize hk:(qVc n 4).toNat=k
 have hk4:k < 4:=by omega
 match k,hk4 with
 | 0,_=>rfl
 | 1,_=>rfl
 | 2,_=>rfl
 | 3,_=>rfl
theorem qWr (n:Int):Spec Tryz.prog 24 [.d (.int .i64 n)] [] (fun r h'=>r=.d (.str (stN n))∧h'=[]):=by
 have hm:=qMy n 4 (by omega)
 have hr:=modP_range (x:=n) (n:=4) (by omega)
 have hat:=stsM_at n
 unfold stsM at hat
 refine qAb hT Tryz.func24 rfl rfl rfl rfl ?_;intro E hE
 refine ww ?_
 refine wwc hm ?_
 refine ww ?_
 refine qAd (qAc (indexAddr_ok hT rfl rfl rfl rfl hr.1 hat)) rfl ?_
 refine ww ?_
 exact wwr
end Tdoc
namespace Tdoc
open Go Go.Proofs
theorem strAt_nat (s:List UInt8) (i:Nat):qDk s (i:Int)=bI (s.getD i 0):=by
 unfold qDk bI
 rw [Int.toNat_natCast,List.getD_eq_getElem?_getD]
theorem allUp_of {s:List UInt8} (h:∀ j,j < s.length→qHr (s.getD j 0)=true):s.all qHr=true:=by
 rw [List.all_eq_true]
 intro c hc
 obtain ⟨j,hj,rfl⟩:=List.getElem_of_mem hc
 have:=h j hj
 rwa [List.getD_eq_getElem?_getD,List.getElem?_eq_getElem hj] at this
theorem allUp_not {s:List UInt8} {i:Nat} (hi:i < s.length) (h:qHr (s.getD i 0)=false):s.all qHr=false:=by
 rcases Bool.eq_false_or_eq_true (s.all qHr) with ha | ha
 ·rw [List.all_eq_true] at ha
  have:=ha s[i] (List.getElem_mem hi)
  rw [List.getD_eq_getElem?_getD,List.getElem?_eq_getElem hi] at h
  simp only [Option.getD_some] at h
  rw [this] at h;cases h
 ·exact ha
theorem qLn (s:List UInt8) (hs:s.length≤1000000000):Spec Tryz.prog 65 [.d (.str s)] [] (fun r h'=>r=.d (.bool (qCo s))∧h'=[]):=by
 refine qAb hT Tryz.func65 rfl rfl rfl rfl ?_;intro E hE
 refine ww ?_
 refine qAa rfl (fun c1=>?_) (fun c1=>?_)
 ·have:qCo s=false:=by
   unfold qCo
   rw [decide_eq_false (by simp at c1;omega)];rfl
  rw [this]
  refine ww ?_
  exact wwr
 have hlen:1≤s.length∧s.length≤3:=by simp at c1;omega
 have hsf:qCo s=s.all qHr:=by unfold qCo;rw [decide_eq_true hlen];rfl
 rw [hsf]
 refine ww ?_
 refine qAp (ι:=Nat) (fun i=>[(0,.d (.str s)),(13,.d (.int .i64 (s.length:Int))),(14,.d (.int .i64 (i:Int)))]) (fun _=>[]) (fun i=>i≤s.length∧∀ j,j < i→qHr (s.getD j 0)=true) (fun i=>s.length-i) 0 ⟨Nat.zero_le _,fun j h=>by omega⟩
  ⟨.refl _,.refl _,.refl _,trivial⟩ (HLe.refl _) ?_
 intro i ⟨hi,hup⟩
 have hat:=strAt_nat s i
 refine ww ?_
 refine qAa rfl (fun c2=>?_) (fun c2=>?_)
 ·have hi':i < s.length:=by simp at c2;omega
  refine ww ?_
  refine qAa rfl (fun c3=>?_) (fun c3=>?_)
  ·have:s.all qHr=false:=by
    refine allUp_not hi' ?_
    rw [hat] at c3
    unfold qHr
    simp only [Bool.or_eq_true,decide_eq_true_eq] at c3
    exact decide_eq_false (by omega)
   rw [this]
   refine ww ?_
   exact wwr
  refine ww ?_
  refine ⟨i+1,⟨hi',fun j hj=>?_⟩,by omega,⟨.refl _,.refl _,.int (by rw [qAf (by omega)];omega),trivial⟩,HLe.refl _⟩
  rcases Nat.lt_or_ge j i with h | h
  ·exact hup j h
  ·have:j=i:=by omega
   subst this
   rw [hat] at c3
   unfold qHr
   simp only [Bool.or_eq_false_iff,decide_eq_false_iff_not] at c3
   exact decide_eq_true (by omega)
 have hi':i=s.length:=by simp at c2;omega
 subst hi'
 rw [allUp_of hup]
 refine ww ?_
 exact wwr
theorem qKe (n:Int):Spec Tryz.prog 242 [.d (.int .i64 n)] [] (fun r h'=>r=.d (.bool (qEs n))∧h'=[]):=by
 refine qAb hT Tryz.func242 rfl rfl rfl rfl ?_;intro E hE
 refine ww ?_
 refine rq ⟨rfl,rfl⟩ rfl (.bool ?_)
 unfold qEs
 rw [Bool.eq_iff_iff]
 simp
theorem chk3 (a b d:Bool) (x y k:Int):((!a||!b||!d||!((x == y) == (k == 1)))=true)↔(a=false∨b=false∨d=false∨(decide (x=y)≠decide (k=1))):=by
 rw [show (x == y)=decide (x=y) from rfl,show (k == 1)=decide (k=1) from rfl]
 generalize decide (x=y)=u
 generalize decide (k=1)=v
 cases a <;> cases b <;> cases d <;> cases u <;> cases v <;> simp
theorem qQj (c:Nal) (hs:c.sta.length≤1000000000):Spec Tryz.prog 155 [qOy c] [] (fun r h'=>r=.d (.int .i64 (qCx c))∧h'=[]):=by
 have hst:=qLn c.sta hs
 have h1:=qKe c.num
 have h2:=qKe c.iss
 have h3:=qKe c.own
 have hel:=qFv c.key
 unfold qCx
 refine qAb hT Tryz.func155 rfl rfl rfl rfl ?_;intro E hE
 refine ww ?_
 refine wwc hst ?_
 refine ww ?_
 refine qAa rfl (fun c1=>?_) (fun c1=>?_)
 ·rw [if_pos (by simpa using c1)]
  refine ww ?_
  exact wwr
 rw [if_neg (by simpa using c1)]
 refine ww ?_
 refine qAa rfl (fun c2=>?_) (fun c2=>?_)
 ·rw [if_pos (by simp at c2;omega)]
  refine ww ?_
  exact wwr
 rw [if_neg (by simp at c2;omega)]
 refine ww ?_
 refine wwc h1 ?_
 refine ww ?_
 refine wwgc h2 ?_
 refine ww ?_
 refine wwgc h3 ?_
 refine ww ?_
 refine qAa rfl (fun c3=>?_) (fun c3=>?_)
 ·rw [if_pos ((chk3 _ _ _ _ _ _).1 c3)]
  refine ww ?_
  exact wwr
 rw [if_neg (fun h=>by rw [(chk3 _ _ _ _ _ _).2 h] at c3;cases c3)]
 refine ww ?_
 refine wwc hel ?_
 refine ww ?_
 refine qAa rfl (fun c4=>?_) (fun c4=>?_)
 ·rw [if_pos (by simpa using c4)]
  refine ww ?_
  exact wwr
 rw [if_neg (by simpa using c4)]
 refine ww ?_
 refine qAa rfl (fun c5=>?_) (fun c5=>?_)
 ·rw [if_pos (by simp at c5;omega)]
  refine ww ?_
  exact wwr
 rw [if_neg (by simp at c5;omega)]
 refine ww ?_
 exact wwr
theorem octB_at:∀ (m n k:Nat),k < m→(qAu m n)[k]?=some (UInt8.ofNat (n / 256 ^ (m-1-k) % 256))
 | 0,n,k,h=>by omega
 | m+1,n,0,h=>by rw [octB_succ];simp
 | m+1,n,k+1,h=>by
  rw [octB_succ,List.getElem?_cons_succ,octB_at m n k (by omega),show m+1-1-(k+1)=m-1-k by omega]
theorem octB_take (m n k:Nat) (h:k < m):(qAu m n).take (k+1)=(qAu m n).take k++[UInt8.ofNat (n / 256 ^ (m-1-k) % 256)]:=by
 rw [List.take_add_one,octB_at m n k h];rfl
def qQn (m:Nat) (l:List Nat) (i:Nat):List UInt8:=((l.take i).map (qAu m)).flatten
theorem wideN_succ (m:Nat) {l:List Nat} {i:Nat} (h:i < l.length):qQn m l (i+1)=qQn m l i++qAu m (l.getD i 0):=by
 unfold qQn
 rw [List.take_add_one,List.map_append,List.flatten_append,List.getElem?_eq_getElem h]
 simp [h]
theorem wideN_length (m:Nat) (l:List Nat):∀ i,i≤l.length→(qQn m l i).length=m*i
 | 0,_=>rfl
 | i+1,h=>by rw [wideN_succ m (by omega),List.length_append,wideN_length m l i (by omega),octB_length,Nat.mul_succ]
def vEz (m:Nat) (l:List Nat):List UInt8:=qQn m l l.length
theorem qIy (m:Nat) (l:List Nat) (hm:m≤7) (hl:l.length≤1000) (hn:∀ n,n∈l→n < 9223372036854775808):Spec Tryz.prog 343 [.d (.int .i64 (m:Int)),.d (.sl 1 (encNs' l))] [] (fun r h'=>r=.d (.sl 1 (qAl (vEz m l)))∧h'=[]):=by
 have hll:(encNs' l).length=l.length:=by simp [encNs']
 unfold vEz
 refine qAb hT Tryz.func343 rfl rfl rfl rfl ?_;intro E hE
 refine qAj ?_
 refine qAk (qAg ?_)
 refine wws ?_
 refine qAk (qAg ?_)
 refine wws ?_
 refine qAz 5 1 0 (es:=[]) (.inr ⟨rfl,rfl⟩) rfl ?_
 refine ww ?_
 refine qAp (ι:=Nat) (fun i=>[(0,.d (.int .i64 (m:Int))),(5,.sl 1 (qAl (qQn m l i)) (.right 0)),(9,.d (.sl 1 (encNs' l))),(10,.d (.int .i64 (l.length:Int))),(11,.d (.int .i64 (i:Int)))]) (fun i=>[.right 1 (qAl (qQn m l i)).length]) (fun i=>i≤l.length) (fun i=>l.length-i) 0 (Nat.zero_le _)
  ⟨.refl _,.refl _,.refl _,.int (by rw [hll]),.refl _,trivial⟩ (HLe.refl _) ?_
 intro i hi
 have hwl:=wideN_length m l i hi
 have hml:m*i≤7*1000:=Nat.mul_le_mul hm (by omega)
 refine ww ?_
 refine qAa rfl (fun c1=>?_) (fun c1=>?_)
 ·have hi':i < l.length:=by simp at c1;omega
  have hat:=encNs'_at hi'
  have hsu:=wideN_succ m hi'
  have hnb:l.getD i 0 < 9223372036854775808:=by
   rw [List.getD_eq_getElem?_getD,List.getElem?_eq_getElem hi'];exact hn _ (List.getElem_mem hi')
  generalize l.getD i 0=n at hat hsu hnb
  generalize qQn m l i=pre at hwl hsu ⊢
  have hol:=octB_length m n
  refine ww ?_
  refine wwi hat ?_
  refine ww ?_
  refine qAp (ι:=Nat) (fun k=>[(0,.d (.int .i64 (m:Int))),(5,.sl 1 (qAl (pre++(qAu m n).take k)) (.right 0)),(7,.d (.int .i64 (n:Int))),(8,.d (.int .i64 ((m:Int)-1-(k:Int)))),(9,.d (.sl 1 (encNs' l))),(10,.d (.int .i64 (l.length:Int))),(11,.d (.int .i64 (i:Int)))]) (fun k=>[.right 1 (qAl (pre++(qAu m n).take k)).length]) (fun k=>k≤m) (fun k=>m-k) 0 (Nat.zero_le _)
   ⟨.refl _,.slt (by rw [List.take_zero,List.append_nil]),.refl _,.int (by rw [qAf (by omega)];omega),.refl _,.refl _,.refl _,trivial⟩ ⟨⟨rfl,by rw [List.take_zero,List.append_nil]⟩,trivial⟩ ?_
  intro k hk
  have hlk:(qAl (pre++(qAu m n).take k)).length=pre.length+k:=by rw [encB_length,List.length_append,List.length_take,hol];omega
  refine ww ?_
  refine qAa rfl (fun c2=>?_) (fun c2=>?_)
  ·have hk':k < m:=by simp at c2;omega
   have hs:qAl (pre++(qAu m n).take (k+1))=qAl (pre++(qAu m n).take k)++[[.int .u8 ((UInt8.ofNat (n / 256 ^ (m-1-k) % 256)).toNat:Int)]]:=by
    rw [octB_take m n k hk',← List.append_assoc,encB_append];rfl
   have hw8:IntKind.i64.wrap (8*((m:Int)-1-(k:Int)))=((8*(m-1-k):Nat):Int):=by rw [qAf (by omega)];omega
   have hnn:0≤IntKind.i64.wrap (8*((m:Int)-1-(k:Int))):=by rw [hw8];omega
   have hbyte:IntKind.u8.wrap (Int.fdiv (n:Int) (2 ^ (min (IntKind.i64.wrap (8*((m:Int)-1-(k:Int)))).toNat IntKind.i64.bits)))=((UInt8.ofNat (n / 256 ^ (m-1-k) % 256)).toNat:Int):=by
    rw [hw8,qIe n (8*(m-1-k)) hnb,show min (8*(m-1-k)) 64=8*(m-1-k) by omega,Nat.pow_mul]
   refine ww ?_
   refine qAd (qAi (i:=0) hT rfl rfl rfl rfl rfl rfl (by show ((qAl (pre++(qAu m n).take k)).length+1)*(1+1)≤_;omega)) rfl ?_
   refine ww ?_
   exact ⟨k+1,hk',by omega,⟨.refl _,.slt (by rw [hs,← hbyte]),.refl _,.int (by rw [qAf (by omega)];omega),.refl _,.refl _,.refl _,trivial⟩,⟨⟨rfl,by rw [hs,← hbyte]⟩,trivial⟩⟩
  have hk':k=m:=by simp at c2;omega
  subst hk'
  have ht:pre++(qAu k n).take k=qQn k l (i+1):=by rw [hsu,List.take_of_length_le (by rw [hol];omega)]
  rw [ht]
  refine ww ?_
  exact ⟨i+1,hi',by omega,⟨.refl _,.refl _,.refl _,.refl _,.int (by rw [qAf (by omega)];omega),trivial⟩,HLe.refl _⟩
 have hi':i=l.length:=by simp at c1;omega
 subst hi'
 refine ww ?_
 refine rq ⟨rfl,rfl⟩ rfl AV.le.dat
end Tdoc
namespace Tdoc
open Go Go.Proofs
theorem strAt_rng (s:List UInt8) (i:Nat):0≤qDk s (i:Int)∧qDk s (i:Int) < 256:=by
 rw [strAt_nat]
 unfold bI
 have:=(s.getD i 0).toNat_lt
 omega
def scN (s:List UInt8):Nat→Int
 | 0=>7
 | i+1=>(scN s i*131+qDk s (i:Int)) % 100003
theorem scN_rng (s:List UInt8):∀ i,0≤scN s i∧scN s i < 100003
 | 0=>by unfold scN;omega
 | i+1=>by unfold scN;omega
theorem secretOf_spec (s:List UInt8) (hs:s.length≤1000000):Spec Tryz.prog 81 [.d (.str s)] [] (fun r h'=>r=.d (.int .i64 (scN s s.length+1))∧h'=[]):=by
 refine qAb hT Tryz.func81 rfl rfl rfl rfl ?_;intro E hE
 refine ww ?_
 refine qAp (ι:=Nat) (fun i=>[(0,.d (.str s)),(3,.d (.int .i64 (scN s i))),(4,.d (.int .i64 (i:Int)))]) (fun _=>[]) (fun i=>i≤s.length) (fun i=>s.length-i) 0 (Nat.zero_le _)
  ⟨.refl _,.refl _,.refl _,trivial⟩ (HLe.refl _) ?_
 intro i hi
 have hb:=strAt_rng s i
 have hr:=scN_rng s i
 have hst:(IntKind.i64.wrap (IntKind.i64.wrap (scN s i*131)+IntKind.i64.wrap (qDk s (i:Int)))).tmod 100003=scN s (i+1):=by
  rw [qAf (n:=scN s i*131) (by omega),qAf (n:=qDk s (i:Int)) (by omega),qAf (by omega),Int.tmod_eq_emod_of_nonneg (by omega)]
  rfl
 refine ww ?_
 refine qAa rfl (fun c1=>?_) (fun c1=>?_)
 ·have c1':i < s.length:=by simp at c1;omega
  refine ww ?_
  exact ⟨i+1,c1',by omega,⟨.refl _,.int hst,.int (by rw [qAf (by omega)];omega),trivial⟩,HLe.refl _⟩
 have:i=s.length:=by simp at c1;omega
 subst this
 refine ww ?_
 refine rq ⟨rfl,rfl⟩ rfl (.int ?_)
 rw [qAf (by omega)]
theorem qUp (s:List UInt8) (hs:s.length≤1000000):Spec Tryz.prog 27 [.d (.str s)] [] (fun r h'=>r=.d (.int .i64 (qSk (vHm (scN s s.length))))∧h'=[]):=by
 have h1:=secretOf_spec s hs
 have hr:=scN_rng s s.length
 have hw:IntKind.i64.wrap (scN s s.length+1-1)=scN s s.length:=by rw [qAf (by omega)];omega
 have h2:=qUh (scN s s.length)
 refine qAb hT Tryz.func27 rfl rfl rfl rfl ?_;intro E hE
 refine ww ?_
 refine wwc h1 ?_
 refine wws ?_
 rw [hw]
 refine wwc h2 ?_
 refine ww ?_
 exact wwr
theorem qXc (s:List UInt8) (hs:1≤s.length∧s.length≤20) (hall:∀ j,j < s.length→(65≤qDk s (j:Int)∧qDk s (j:Int)≤90)∨(48≤qDk s (j:Int)∧qDk s (j:Int)≤57)) :
  Spec Tryz.prog 29 [.d (.str s)] [] (fun r h'=>r=.d (.bool true)∧h'=[]):=by
 refine qAb hT Tryz.func29 rfl rfl rfl rfl ?_;intro E hE
 refine ww ?_
 refine qAa rfl (fun c1=>?_) (fun c1=>?_)
 ·exact absurd c1 (by simp;omega)
 refine ww ?_
 refine qAp (ι:=Nat) (fun i=>[(0,.d (.str s)),(13,.d (.int .i64 (s.length:Int))),(14,.d (.int .i64 (i:Int)))]) (fun _=>[]) (fun i=>i≤s.length) (fun i=>s.length-i) 0 (Nat.zero_le _)
  ⟨.refl _,.refl _,.refl _,trivial⟩ (HLe.refl _) ?_
 intro i hi
 refine ww ?_
 refine qAa rfl (fun c2=>?_) (fun c2=>?_)
 ·have c2':i < s.length:=by simp at c2;omega
  have hc:=hall i c2'
  refine ww ?_
  refine qAa rfl (fun c3=>?_) (fun c3=>?_)
  ·refine absurd c3 ?_
   simp only [Bool.and_eq_true,Bool.or_eq_true,decide_eq_true_eq]
   omega
  refine ww ?_
  exact ⟨i+1,c2',by omega,⟨.refl _,.refl _,.int (by rw [qAf (by omega)];omega),trivial⟩,HLe.refl _⟩
 refine ww ?_
 exact wwr
end Tdoc
