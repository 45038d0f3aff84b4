/- Part 15 of the proof: the texts LG KO KS KP KT KV KU KW LH. -/
import Derived.Test.YtelocejblpajcaaGreatDoorTR14
set_option maxHeartbeats 8000000
set_option maxRecDepth 100000
set_option linter.unusedVariables false
set_option linter.unusedSimpArgs false
namespace Tdoc
open Go Go.Proofs
def nsK:Nat→List (List Dat)
 | 0=>[]
 | 1=>[[Dat.int .i64 1]]
 | 2=>[[Dat.int .i64 1],[Dat.int .i64 2]]
 | 3=>[[Dat.int .i64 1],[Dat.int .i64 2],[Dat.int .i64 3]]
 | 4=>[[Dat.int .i64 1],[Dat.int .i64 2],[Dat.int .i64 3],[Dat.int .i64 14]]
 | _=>[[Dat.int .i64 1],[Dat.int .i64 2],[Dat.int .i64 3],[Dat.int .i64 14],[Dat.int .i64 15]]
def flK (G1 G2 G3 G4 G5 CM SO:List (List Dat)):Nat→List (List Dat)
 | 0=>[]
 | 1=>[[Dat.int .i64 257,.int .i64 1,.sl 1 G1,.int .i64 1,.int .i64 0]]
 | 2=>[[Dat.int .i64 257,.int .i64 1,.sl 1 G1,.int .i64 1,.int .i64 0],[Dat.int .i64 258,.int .i64 2,.sl 1 G2,.int .i64 1,.int .i64 0]]
 | 3=>[[Dat.int .i64 257,.int .i64 1,.sl 1 G1,.int .i64 1,.int .i64 0],[Dat.int .i64 258,.int .i64 2,.sl 1 G2,.int .i64 1,.int .i64 0],[Dat.int .i64 259,.int .i64 3,.sl 1 G3,.int .i64 3,.int .i64 0]]
 | 4=>[[Dat.int .i64 257,.int .i64 1,.sl 1 G1,.int .i64 1,.int .i64 0],[Dat.int .i64 258,.int .i64 2,.sl 1 G2,.int .i64 1,.int .i64 0],[Dat.int .i64 259,.int .i64 3,.sl 1 G3,.int .i64 3,.int .i64 0],[Dat.int .i64 270,.int .i64 14,.sl 1 G4,.int .i64 1,.int .i64 0]]
 | 5=>[[Dat.int .i64 257,.int .i64 1,.sl 1 G1,.int .i64 1,.int .i64 0],[Dat.int .i64 258,.int .i64 2,.sl 1 G2,.int .i64 1,.int .i64 0],[Dat.int .i64 259,.int .i64 3,.sl 1 G3,.int .i64 3,.int .i64 0],[Dat.int .i64 270,.int .i64 14,.sl 1 G4,.int .i64 1,.int .i64 0],[Dat.int .i64 271,.int .i64 15,.sl 1 G5,.int .i64 1,.int .i64 0]]
 | 6=>[[Dat.int .i64 257,.int .i64 1,.sl 1 G1,.int .i64 1,.int .i64 0],[Dat.int .i64 258,.int .i64 2,.sl 1 G2,.int .i64 1,.int .i64 0],[Dat.int .i64 259,.int .i64 3,.sl 1 G3,.int .i64 3,.int .i64 0],[Dat.int .i64 270,.int .i64 14,.sl 1 G4,.int .i64 1,.int .i64 0],[Dat.int .i64 271,.int .i64 15,.sl 1 G5,.int .i64 1,.int .i64 0],[Dat.int .i64 286,.int .i64 30,.sl 1 CM,.int .i64 1,.int .i64 0]]
 | _=>[[Dat.int .i64 257,.int .i64 1,.sl 1 G1,.int .i64 1,.int .i64 0],[Dat.int .i64 258,.int .i64 2,.sl 1 G2,.int .i64 1,.int .i64 0],[Dat.int .i64 259,.int .i64 3,.sl 1 G3,.int .i64 3,.int .i64 0],[Dat.int .i64 270,.int .i64 14,.sl 1 G4,.int .i64 1,.int .i64 0],[Dat.int .i64 271,.int .i64 15,.sl 1 G5,.int .i64 1,.int .i64 0],[Dat.int .i64 286,.int .i64 30,.sl 1 CM,.int .i64 1,.int .i64 0],[Dat.int .i64 285,.int .i64 29,.sl 1 SO,.int .i64 1,.int .i64 0]]
theorem qVt (hr:Int) (x1 x2 x3 x4 x5 li key inf:Dat) (I2 G1 G2 G3 G4 G5 K1 K2 K3 K4 K5 AC CM SO:List (List Dat)) (a:Aut)
  (hOp:Spec Tryz.prog 102 [.ptr 0 0] [.row (wE hr x1 x2 x3 x4 x5 (.d li) (.d key) (.d inf) (.d (.sl 1 [[.sl 1 G1],[.sl 1 G2],[.sl 1 G3],[.sl 1 G4],[.sl 1 G5]])) (.d (.sl 1 SO)) (.sl 5 [] .full) (.sl 2 [] .full) (zDM.map .d)),.row (qAi a)] (fun r h'=>r=.d (.sl 5 I2)∧h'=[.row (wE hr x1 x2 x3 x4 x5 (.d li) (.d key) (.d inf) (.d (.sl 1 [[.sl 1 G1],[.sl 1 G2],[.sl 1 G3],[.sl 1 G4],[.sl 1 G5]])) (.d (.sl 1 SO)) (.sl 5 [] .full) (.sl 2 [] .full) (zDM.map .d)),.row (qAi a)]))
  (hEn:Spec Tryz.prog 101 [.d (.sl 5 I2)] [] (fun r h'=>r=.tup [.d (.sl 1 AC),.I 0]∧h'=[]))
  (o1:Spec Tryz.prog 104 [.d (.sl 1 G1)] [] (fun r h'=>r=.tup [.I 1,.d (.sl 3 K1),.I 0]∧h'=[]))
  (o2:Spec Tryz.prog 104 [.d (.sl 1 G2)] [] (fun r h'=>r=.tup [.I 2,.d (.sl 3 K2),.I 0]∧h'=[]))
  (o3:Spec Tryz.prog 104 [.d (.sl 1 G3)] [] (fun r h'=>r=.tup [.I 3,.d (.sl 3 K3),.I 0]∧h'=[]))
  (o4:Spec Tryz.prog 104 [.d (.sl 1 G4)] [] (fun r h'=>r=.tup [.I 14,.d (.sl 3 K4),.I 0]∧h'=[]))
  (o5:Spec Tryz.prog 104 [.d (.sl 1 G5)] [] (fun r h'=>r=.tup [.I 15,.d (.sl 3 K5),.I 0]∧h'=[]))
  (hC:Spec Tryz.prog 106 [.d (.sl 1 (nsK 5))] [] (fun r h'=>r=.tup [.d (.sl 1 CM),.I 0]∧h'=[])) :
  Spec Tryz.prog 36 [.ptr 0 0] [.row (wE hr x1 x2 x3 x4 x5 (.d li) (.d key) (.d inf) (.d (.sl 1 [[.sl 1 G1],[.sl 1 G2],[.sl 1 G3],[.sl 1 G4],[.sl 1 G5]])) (.d (.sl 1 SO)) (.sl 5 [] .full) (.sl 2 [] .full) (zDM.map .d)),.row (qAi a)] (fun r h'=>r=.I 0∧h'=[.row (wE hr x1 x2 x3 x4 x5 (.d li) (.d key) (.d inf) (.d (.sl 1 [[.sl 1 G1],[.sl 1 G2],[.sl 1 G3],[.sl 1 G4],[.sl 1 G5]])) (.d (.sl 1 SO)) (.d (.sl 5 [[.int .i64 284,.int .i64 28,.sl 1 AC,.int .i64 0,.int .i64 0]])) (.d (.sl 2 [[.sl 1 (qAj [160,0,0,2,71,16,1]),.sl 5 (flK G1 G2 G3 G4 G5 CM SO 7)]])) (zDM.map .d)),.row (qAi a)]):=by
 have hA:=vIe
 have f1:=qFu 1 (by omega)
 rw [show qIa 1=(257,1,0) by decide] at f1
 have f2:=qFu 2 (by omega)
 rw [show qIa 2=(258,2,0) by decide] at f2
 have f3:=qFu 3 (by omega)
 rw [show qIa 3=(259,3,0) by decide] at f3
 have f4:=qFu 14 (by omega)
 rw [show qIa 14=(270,14,0) by decide] at f4
 have f5:=qFu 15 (by omega)
 rw [show qIa 15=(271,15,0) by decide] at f5
 have f6:=qFu 17 (by omega)
 rw [show qIa 17=(286,30,0) by decide] at f6
 have f7:=qFu 18 (by omega)
 rw [show qIa 18=(285,29,0) by decide] at f7
 simp only at f1 f2 f3 f4 f5 f6 f7
 refine qAb hT Tryz.func36 rfl rfl rfl rfl ?_;intro E hE
 refine qAo (qAo ?_)
 refine qAl (qAf ?_)
 refine wws ?_
 refine qAl (qAf ?_)
 refine wws ?_
 refine qAd (qBs (v:=.d (.sl 5 I2)) (H':=[.row (wE hr x1 x2 x3 x4 x5 (.d li) (.d key) (.d inf) (.d (.sl 1 [[.sl 1 G1],[.sl 1 G2],[.sl 1 G3],[.sl 1 G4],[.sl 1 G5]])) (.d (.sl 1 SO)) (.sl 5 [] .full) (.sl 2 [] .full) (zDM.map .d)),.row (qAi a),.room,.room]) rfl rfl hOp [0,1] (by decide) rfl rfl rfl rfl rfl rfl) rfl ?_
 refine wwc hEn ?_
 refine wwn ?_
 refine qAa rfl (fun q=>absurd q (by decide)) (fun q=>?_)
 refine qAp (l:=[(0,.ptr 0 0),(3,.d (.sl 1 AC))]) (h':=[.row (wE hr x1 x2 x3 x4 x5 (.d li) (.d key) (.d inf) (.d (.sl 1 [[.sl 1 G1],[.sl 1 G2],[.sl 1 G3],[.sl 1 G4],[.sl 1 G5]])) (.d (.sl 1 SO)) (.sl 5 [] .full) (.sl 2 [] .full) (zDM.map .d)),.row (qAi a),.room,.room]) yf (HLe.refl _) ?_
 refine wwe ?_
 refine qAl (qAf ?_)
 refine wwc hA ?_
 refine wws ?_
 refine qAl (qAf ?_)
 refine wws ?_
 refine qBb 6 1 2 (es:=[]) (.inr ⟨rfl,rfl⟩) rfl ?_
 refine qBy 4 1 3 5 (es:=[]) rfl rfl rfl ?_
 refine qAp (l:=[(0,.ptr 0 0),(3,.d (.sl 1 AC)),(5,.ptr 4 0),(6,.sl 1 (nsK 0) (.right 2))]) (h':=[.row (wE hr x1 x2 x3 x4 x5 (.d li) (.d key) (.d inf) (.d (.sl 1 [[.sl 1 G1],[.sl 1 G2],[.sl 1 G3],[.sl 1 G4],[.sl 1 G5]])) (.d (.sl 1 SO)) (.sl 5 [] .full) (.sl 2 [] .full) (zDM.map .d)),.row (qAi a),.right 1 0,.right 5 0,.row [.sl 1 (qAj [160,0,0,2,71,16,1]) .full,.sl 5 (flK G1 G2 G3 G4 G5 CM SO 0) (.right 3)]]) yf (HLe.refl _) ?_
 refine wwn ?_
 refine qBg (ι:=Nat) (fun i=>[(0,.ptr 0 0),(3,.d (.sl 1 AC)),(5,.ptr 4 0),(6,.sl 1 (nsK i) (.right 2)),(35,.d (.sl 1 [[.sl 1 G1],[.sl 1 G2],[.sl 1 G3],[.sl 1 G4],[.sl 1 G5]])),(36,.I 5),(37,.I (i:Int))]) (fun i=>[.row (wE hr x1 x2 x3 x4 x5 (.d li) (.d key) (.d inf) (.d (.sl 1 [[.sl 1 G1],[.sl 1 G2],[.sl 1 G3],[.sl 1 G4],[.sl 1 G5]])) (.d (.sl 1 SO)) (.sl 5 [] .full) (.sl 2 [] .full) (zDM.map .d)),.row (qAi a),.right 1 (nsK i).length,.right 5 (flK G1 G2 G3 G4 G5 CM SO i).length,.row [.sl 1 (qAj [160,0,0,2,71,16,1]) .full,.sl 5 (flK G1 G2 G3 G4 G5 CM SO i) (.right 3)]]) (fun i=>i≤5) (fun i=>5-i) 0 (by omega)
  yf (HLe.refl _) ?_
 intro i hi
 rcases (by omega:i=0∨i=1∨i=2∨i=3∨i=4∨i=5) with rfl | rfl | rfl | rfl | rfl | rfl
 ·refine wwn ?_
  refine qAa rfl (fun q=>?_) (fun q=>absurd q (by decide))
  refine wwn ?_
  refine qAd (qAc (indexAddr_ok hT rfl rfl rfl rfl (by show (0:Int)≤0;omega) rfl)) rfl ?_
  refine wwn ?_
  refine wwc o1 ?_
  refine wwn ?_
  refine qAa rfl (fun q=>absurd q (by decide)) (fun q=>?_)
  refine wwn ?_
  refine qAd (qAh (i:=2) (es2:=[[Dat.int .i64 1]]) hT rfl rfl rfl rfl rfl rfl (by show (0+1)*(8+1)≤140737488355328;omega)) rfl ?_
  refine wwn ?_
  refine wwc f1 ?_
  refine wwn ?_
  refine qAa rfl (fun q=>absurd q (by decide)) (fun q=>?_)
  refine wwn ?_
  refine qAa rfl (fun q=>absurd q (by decide)) (fun q=>?_)
  refine wwn ?_
  refine qAd (qAh (i:=3) (es2:=[[Dat.int .i64 257,.int .i64 1,.sl 1 G1,.int .i64 1,.int .i64 0]]) hT rfl rfl rfl rfl rfl rfl (by show (0+1)*(56+1)≤140737488355328;omega)) rfl ?_
  refine wwn ?_
  exact ⟨1,[_],by omega,by omega,yf,HLe.refl _,Env.below_mono hE (by simp),rfl,rfl⟩
 ·refine wwn ?_
  refine qAa rfl (fun q=>?_) (fun q=>absurd q (by decide))
  refine wwn ?_
  refine qAd (qAc (indexAddr_ok hT rfl rfl rfl rfl (by show (0:Int)≤1;omega) rfl)) rfl ?_
  refine wwn ?_
  refine wwc o2 ?_
  refine wwn ?_
  refine qAa rfl (fun q=>absurd q (by decide)) (fun q=>?_)
  refine wwn ?_
  refine qAd (qAh (i:=2) (es2:=[[Dat.int .i64 2]]) hT rfl rfl rfl rfl rfl rfl (by show (1+1)*(8+1)≤140737488355328;omega)) rfl ?_
  refine wwn ?_
  refine wwc f2 ?_
  refine wwn ?_
  refine qAa rfl (fun q=>absurd q (by decide)) (fun q=>?_)
  refine wwn ?_
  refine qAa rfl (fun q=>absurd q (by decide)) (fun q=>?_)
  refine wwn ?_
  refine qAd (qAh (i:=3) (es2:=[[Dat.int .i64 258,.int .i64 2,.sl 1 G2,.int .i64 1,.int .i64 0]]) hT rfl rfl rfl rfl rfl rfl (by show (1+1)*(56+1)≤140737488355328;omega)) rfl ?_
  refine wwn ?_
  exact ⟨2,[_],by omega,by omega,yf,HLe.refl _,Env.below_mono hE (by simp),rfl,rfl⟩
 ·refine wwn ?_
  refine qAa rfl (fun q=>?_) (fun q=>absurd q (by decide))
  refine wwn ?_
  refine qAd (qAc (indexAddr_ok hT rfl rfl rfl rfl (by show (0:Int)≤2;omega) rfl)) rfl ?_
  refine wwn ?_
  refine wwc o3 ?_
  refine wwn ?_
  refine qAa rfl (fun q=>absurd q (by decide)) (fun q=>?_)
  refine wwn ?_
  refine qAd (qAh (i:=2) (es2:=[[Dat.int .i64 3]]) hT rfl rfl rfl rfl rfl rfl (by show (2+1)*(8+1)≤140737488355328;omega)) rfl ?_
  refine wwn ?_
  refine wwc f3 ?_
  refine wwn ?_
  refine qAa rfl (fun q=>absurd q (by decide)) (fun q=>?_)
  refine wwn ?_
  refine qAa rfl (fun q=>?_) (fun q=>absurd q (by decide))
  refine wwn ?_
  refine qAd (qAh (i:=3) (es2:=[[Dat.int .i64 259,.int .i64 3,.sl 1 G3,.int .i64 3,.int .i64 0]]) hT rfl rfl rfl rfl rfl rfl (by show (2+1)*(56+1)≤140737488355328;omega)) rfl ?_
  refine wwn ?_
  exact ⟨3,[_],by omega,by omega,yf,HLe.refl _,Env.below_mono hE (by simp),rfl,rfl⟩
 ·refine wwn ?_
  refine qAa rfl (fun q=>?_) (fun q=>absurd q (by decide))
  refine wwn ?_
  refine qAd (qAc (indexAddr_ok hT rfl rfl rfl rfl (by show (0:Int)≤3;omega) rfl)) rfl ?_
  refine wwn ?_
  refine wwc o4 ?_
  refine wwn ?_
  refine qAa rfl (fun q=>absurd q (by decide)) (fun q=>?_)
  refine wwn ?_
  refine qAd (qAh (i:=2) (es2:=[[Dat.int .i64 14]]) hT rfl rfl rfl rfl rfl rfl (by show (3+1)*(8+1)≤140737488355328;omega)) rfl ?_
  refine wwn ?_
  refine wwc f4 ?_
  refine wwn ?_
  refine qAa rfl (fun q=>absurd q (by decide)) (fun q=>?_)
  refine wwn ?_
  refine qAa rfl (fun q=>absurd q (by decide)) (fun q=>?_)
  refine wwn ?_
  refine qAd (qAh (i:=3) (es2:=[[Dat.int .i64 270,.int .i64 14,.sl 1 G4,.int .i64 1,.int .i64 0]]) hT rfl rfl rfl rfl rfl rfl (by show (3+1)*(56+1)≤140737488355328;omega)) rfl ?_
  refine wwn ?_
  exact ⟨4,[_],by omega,by omega,yf,HLe.refl _,Env.below_mono hE (by simp),rfl,rfl⟩
 ·refine wwn ?_
  refine qAa rfl (fun q=>?_) (fun q=>absurd q (by decide))
  refine wwn ?_
  refine qAd (qAc (indexAddr_ok hT rfl rfl rfl rfl (by show (0:Int)≤4;omega) rfl)) rfl ?_
  refine wwn ?_
  refine wwc o5 ?_
  refine wwn ?_
  refine qAa rfl (fun q=>absurd q (by decide)) (fun q=>?_)
  refine wwn ?_
  refine qAd (qAh (i:=2) (es2:=[[Dat.int .i64 15]]) hT rfl rfl rfl rfl rfl rfl (by show (4+1)*(8+1)≤140737488355328;omega)) rfl ?_
  refine wwn ?_
  refine wwc f5 ?_
  refine wwn ?_
  refine qAa rfl (fun q=>absurd q (by decide)) (fun q=>?_)
  refine wwn ?_
  refine qAa rfl (fun q=>absurd q (by decide)) (fun q=>?_)
  refine wwn ?_
  refine qAd (qAh (i:=3) (es2:=[[Dat.int .i64 271,.int .i64 15,.sl 1 G5,.int .i64 1,.int .i64 0]]) hT rfl rfl rfl rfl rfl rfl (by show (4+1)*(56+1)≤140737488355328;omega)) rfl ?_
  refine wwn ?_
  exact ⟨5,[_],by omega,by omega,yf,HLe.refl _,Env.below_mono hE (by simp),rfl,rfl⟩
 ·refine wwn ?_
  refine qAa rfl (fun q=>absurd q (by decide)) (fun q=>?_)
  refine qAp (l:=[(0,.ptr 0 0),(3,.d (.sl 1 AC)),(5,.ptr 4 0),(6,.d (.sl 1 (nsK 5)))]) (h':=[.row (wE hr x1 x2 x3 x4 x5 (.d li) (.d key) (.d inf) (.d (.sl 1 [[.sl 1 G1],[.sl 1 G2],[.sl 1 G3],[.sl 1 G4],[.sl 1 G5]])) (.d (.sl 1 SO)) (.sl 5 [] .full) (.sl 2 [] .full) (zDM.map .d)),.row (qAi a),.dead,.right 5 5,.row [.sl 1 (qAj [160,0,0,2,71,16,1]) .full,.sl 5 (flK G1 G2 G3 G4 G5 CM SO 5) (.right 3)]]) ⟨.refl _,.refl _,.refl _,.dat,trivial⟩ ⟨ObLe.refl _,ObLe.refl _,trivial,ObLe.refl _,ObLe.refl _,trivial⟩ ?_
  refine wwn ?_
  refine wwc hC ?_
  refine wwn ?_
  refine qAa rfl (fun q=>absurd q (by decide)) (fun q=>?_)
  refine wwn ?_
  refine qAq (ι:=Nat) (fun i=>[(0,.ptr 0 0),(3,.d (.sl 1 AC)),(5,.ptr 4 0),(92,.d (.sl 1 [[.sl 1 CM],[.sl 1 SO]])),(93,.I 2),(94,.I (i:Int))]) (fun i=>[.row (wE hr x1 x2 x3 x4 x5 (.d li) (.d key) (.d inf) (.d (.sl 1 [[.sl 1 G1],[.sl 1 G2],[.sl 1 G3],[.sl 1 G4],[.sl 1 G5]])) (.d (.sl 1 SO)) (.sl 5 [] .full) (.sl 2 [] .full) (zDM.map .d)),.row (qAi a),.dead,.right 5 (flK G1 G2 G3 G4 G5 CM SO (i+5)).length,.row [.sl 1 (qAj [160,0,0,2,71,16,1]) .full,.sl 5 (flK G1 G2 G3 G4 G5 CM SO (i+5)) (.right 3)]]) (fun i=>i≤2) (fun i=>2-i) 0 (by omega)
   ⟨.refl _,.refl _,.refl _,.dat,.refl _,.refl _,trivial⟩ (HLe.refl _) ?_
  intro i hi
  rcases (by omega:i=0∨i=1∨i=2) with rfl | rfl | rfl
  ·refine wwn ?_
   refine qAa rfl (fun q=>?_) (fun q=>absurd q (by decide))
   refine wwn ?_
   refine qAd (qAc (indexAddr_ok hT rfl rfl rfl rfl (by show (0:Int)≤0;omega) rfl)) rfl ?_
   refine wwn ?_
   refine wwc f6 ?_
   refine wwn ?_
   refine qAa rfl (fun q=>absurd q (by decide)) (fun q=>?_)
   refine wwn ?_
   refine qAd (qAh (i:=3) (es2:=[[Dat.int .i64 286,.int .i64 30,.sl 1 CM,.int .i64 1,.int .i64 0]]) hT rfl rfl rfl rfl rfl rfl (by show (5+1)*(56+1)≤140737488355328;omega)) rfl ?_
   refine wwn ?_
   exact ⟨1,by omega,by omega,yf,HLe.refl _⟩
  ·refine wwn ?_
   refine qAa rfl (fun q=>?_) (fun q=>absurd q (by decide))
   refine wwn ?_
   refine qAd (qAc (indexAddr_ok hT rfl rfl rfl rfl (by show (0:Int)≤1;omega) rfl)) rfl ?_
   refine wwn ?_
   refine wwc f7 ?_
   refine wwn ?_
   refine qAa rfl (fun q=>absurd q (by decide)) (fun q=>?_)
   refine wwn ?_
   refine qAd (qAh (i:=3) (es2:=[[Dat.int .i64 285,.int .i64 29,.sl 1 SO,.int .i64 1,.int .i64 0]]) hT rfl rfl rfl rfl rfl rfl (by show (6+1)*(56+1)≤140737488355328;omega)) rfl ?_
   refine wwn ?_
   exact ⟨2,by omega,by omega,yf,HLe.refl _⟩
  ·refine wwn ?_
   refine qAa rfl (fun q=>absurd q (by decide)) (fun q=>?_)
   refine wwe ?_
   refine qAl (qAf ?_)
   refine wws ?_
   refine qAp (l:=[(0,.ptr 0 0)]) (h':=[.row (wE hr x1 x2 x3 x4 x5 (.d li) (.d key) (.d inf) (.d (.sl 1 [[.sl 1 G1],[.sl 1 G2],[.sl 1 G3],[.sl 1 G4],[.sl 1 G5]])) (.d (.sl 1 SO)) (.d (.sl 5 [[.int .i64 284,.int .i64 28,.sl 1 AC,.int .i64 0,.int .i64 0]])) (.d (.sl 2 [[.sl 1 (qAj [160,0,0,2,71,16,1]),.sl 5 (flK G1 G2 G3 G4 G5 CM SO 7)]])) (zDM.map .d)),.row (qAi a),.dead,.dead,.dead]) yf ⟨by
    show AllLe _ _
    exact ⟨.refl _,.refl _,.refl _,.refl _,.refl _,.refl _,.refl _,.refl _,.refl _,.refl _,.refl _,.refl _,.refl _,.refl _,.refl _,.refl _,.refl _,.refl _,.refl _,.refl _,.refl _,.refl _,.refl _,.refl _,.dat,.dat,AllLe.refl _⟩,ObLe.refl _,trivial,trivial,trivial,trivial⟩ ?_
   refine wwn ?_
   exact rx ⟨rfl,rfl⟩ (h4:=show (2:Nat)=2 from rfl)
def PredFi (g:FuncId) (first cap:List AV) (H:List AObj) (p:Fil→Bool) (l:List Fil):Prop :=
 ∀ c,c∈l→Spec Tryz.prog g (first++([vAt c]++cap)) H (fun r h'=>r=.d (.bool (p c))∧h'=H)
theorem qMn {l:List Fil} {g:FuncId} {first cap:List AV} {H:List AObj} {p:Fil→Bool} (hp:PredFi g first cap H p l) (hH:qEg H.length H=true) (h1:qCo H.length first=true) (h2:qCo H.length cap=true) (hl:l.length≤1000000000) :
  Spec Tryz.prog 392 [.d (.sl 5 (qBn l)),.fn (.func g) first cap] H (fun r h'=>r=.I (qQi p l)∧h'=H):=by
 refine qAb hT Tryz.func392 rfl rfl rfl rfl ?_
 intro E hE
 have hlen:=encFils_length l
 refine ww ?_
 refine qAq (ι:=Nat) (fun k=>[(0,.d (.sl 5 (qBn l))),(1,.fn (.func g) first cap),(7,.d (.int .i64 (qBn l).length)),(8,.I k)]) (fun _=>H) (fun k=>k≤l.length∧∀ j,(hj:j < k)→(hj2:j < l.length)→p l[j]=false) (fun k=>l.length-k) 0
  ⟨by omega,fun j hj=>by omega⟩ yf (HLe.refl _) ?_
 intro k ⟨hk,hb⟩
 refine ww ?_
 refine qAa rfl (fun h1'=>?_) (fun h1'=>?_)
 ·have hlt:k < l.length:=by rw [hlen] at h1';simpa using h1'
  have hel:=encFils_at hlt
  have hpk:=hp l[k] (List.getElem_mem hlt)
  generalize hc:l[k]=c at hel hpk
  obtain ⟨c1,c2,c3,c4,c5⟩:=c
  unfold qQk at hel
  simp only at hel
  refine ww ?_
  refine qAd (qAc (indexAddr_ok hT rfl rfl rfl rfl (by omega) hel)) rfl ?_
  refine ww ?_
  refine qCr (qGc (Q:=fun r h'=>r=.d (.bool (p ⟨c1,c2,c3,c4,c5⟩))∧h'=H) rfl rfl (hpk.mono (fun r h' ⟨q1,q2⟩=>⟨⟨q1,q2⟩,by rw [q1];rfl,by rw [q2];exact hH⟩)) hH rfl ?_) rfl ?_
  ·have:∀ (a b:List AV),qCo H.length a=true→qCo H.length b=true→qCo H.length (a++b)=true:=by
    intro a
    induction a with
    | nil=>intro b _ hb;exact hb
    | cons x a ih=>intro b ha hb;simp only [qCo,Bool.and_eq_true,List.cons_append] at ha ⊢;exact ⟨ha.1,ih b ha.2 hb⟩
   exact this _ _ h1 (this [_] _ (by simp [qCo,low,vAt]) h2)
  rintro v h' ⟨rfl,rfl⟩
  refine ww ?_
  refine qAa rfl (fun h2'=>?_) (fun h2'=>?_)
  ·refine ww ?_
   refine qAg rfl (.refl _) (by simp) rfl rfl hH ⟨?_,rfl⟩
   show AV.d (.int .i64 (k:Int))=_
   rw [fIdx_at hlt (by rw [hc];exact h2') (fun j hj hj2=>hb j hj hj2)]
  ·refine ww ?_
   refine ⟨k+1,⟨by omega,fun j hj hj2=>?_⟩,by omega,⟨.refl _,.refl _,.refl _,AV.le.eq ?_,trivial⟩,HLe.refl _⟩
   ·by_cases hjk:j=k
    ·subst hjk;rw [hc];exact h2'
    ·exact hb j (by omega) hj2
   ·show AV.d (.int .i64 (IntKind.i64.wrap ((k:Int)+1)))=_
    rw [qAe (by omega)];rfl
 ·have hge:k=l.length:=by rw [hlen] at h1';simp at h1';omega
  refine ww ?_
  refine qAg rfl (.refl _) (by simp) rfl rfl hH ⟨?_,rfl⟩
  show AV.d (.int .i64 (-1))=_
  rw [fIdx_none (fun j hj=>hb j (by omega) hj)]
theorem qKg {l:List Fil} {g:FuncId} {first cap:List AV} {H:List AObj} {p:Fil→Bool} (hp:PredFi g first cap H p l) (hH:qEg H.length H=true) (h1:qCo H.length first=true) (h2:qCo H.length cap=true) (hl:l.length≤1000000000) :
  Spec Tryz.prog 358 [.d (.sl 5 (qBn l)),.fn (.func g) first cap] H (fun r h'=>r=.d (.bool (l.any p))∧h'=H):=by
 refine qAb hT Tryz.func358 rfl rfl rfl rfl ?_
 intro E hE
 have hs:=qMn hp hH h1 h2 hl
 refine ww ?_
 refine qCr (qGc (Q:=fun r h'=>r=.I (qQi p l)∧h'=H) rfl rfl (hs.mono (fun r h' ⟨q1,q2⟩=>⟨⟨q1,q2⟩,by rw [q1];rfl,by rw [q2];exact hH⟩)) hH rfl ?_) rfl ?_
 ·simp [qCo,low,h1,h2]
 rintro v h' ⟨rfl,rfl⟩
 refine ww ?_
 refine qAg rfl (.refl _) (by simp) rfl rfl hH ⟨?_,rfl⟩
 show AV.d (.bool (decide (qQi p l≥0)))=_
 rw [fIdx_any]
def PredAp (g:FuncId) (first cap:List AV) (H:List AObj) (p:Apk→Bool) (l:List Apk):Prop :=
 ∀ c,c∈l→Spec Tryz.prog g (first++([vBf c]++cap)) H (fun r h'=>r=.d (.bool (p c))∧h'=H)
theorem qMo {l:List Apk} {g:FuncId} {first cap:List AV} {H:List AObj} {p:Apk→Bool} (hp:PredAp g first cap H p l) (hH:qEg H.length H=true) (h1:qCo H.length first=true) (h2:qCo H.length cap=true) (hl:l.length≤1000000000) :
  Spec Tryz.prog 359 [.d (.sl 2 (qBz l)),.fn (.func g) first cap] H (fun r h'=>r=.I (qQi p l)∧h'=H):=by
 refine qAb hT Tryz.func359 rfl rfl rfl rfl ?_
 intro E hE
 have hlen:=encApks_length l
 refine ww ?_
 refine qAq (ι:=Nat) (fun k=>[(0,.d (.sl 2 (qBz l))),(1,.fn (.func g) first cap),(7,.d (.int .i64 (qBz l).length)),(8,.I k)]) (fun _=>H) (fun k=>k≤l.length∧∀ j,(hj:j < k)→(hj2:j < l.length)→p l[j]=false) (fun k=>l.length-k) 0
  ⟨by omega,fun j hj=>by omega⟩ yf (HLe.refl _) ?_
 intro k ⟨hk,hb⟩
 refine ww ?_
 refine qAa rfl (fun h1'=>?_) (fun h1'=>?_)
 ·have hlt:k < l.length:=by rw [hlen] at h1';simpa using h1'
  have hel:=encApks_at hlt
  have hpk:=hp l[k] (List.getElem_mem hlt)
  generalize hc:l[k]=c at hel hpk
  obtain ⟨c1,c2⟩:=c
  unfold qQm at hel
  simp only at hel
  refine ww ?_
  refine qAd (qAc (indexAddr_ok hT rfl rfl rfl rfl (by omega) hel)) rfl ?_
  refine ww ?_
  refine qCr (qGc (Q:=fun r h'=>r=.d (.bool (p ⟨c1,c2⟩))∧h'=H) rfl rfl (hpk.mono (fun r h' ⟨q1,q2⟩=>⟨⟨q1,q2⟩,by rw [q1];rfl,by rw [q2];exact hH⟩)) hH rfl ?_) rfl ?_
  ·have:∀ (a b:List AV),qCo H.length a=true→qCo H.length b=true→qCo H.length (a++b)=true:=by
    intro a
    induction a with
    | nil=>intro b _ hb;exact hb
    | cons x a ih=>intro b ha hb;simp only [qCo,Bool.and_eq_true,List.cons_append] at ha ⊢;exact ⟨ha.1,ih b ha.2 hb⟩
   exact this _ _ h1 (this [_] _ (by simp [qCo,low,vBf]) h2)
  rintro v h' ⟨rfl,rfl⟩
  refine ww ?_
  refine qAa rfl (fun h2'=>?_) (fun h2'=>?_)
  ·refine ww ?_
   refine qAg rfl (.refl _) (by simp) rfl rfl hH ⟨?_,rfl⟩
   show AV.d (.int .i64 (k:Int))=_
   rw [fIdx_at hlt (by rw [hc];exact h2') (fun j hj hj2=>hb j hj hj2)]
  ·refine ww ?_
   refine ⟨k+1,⟨by omega,fun j hj hj2=>?_⟩,by omega,⟨.refl _,.refl _,.refl _,AV.le.eq ?_,trivial⟩,HLe.refl _⟩
   ·by_cases hjk:j=k
    ·subst hjk;rw [hc];exact h2'
    ·exact hb j (by omega) hj2
   ·show AV.d (.int .i64 (IntKind.i64.wrap ((k:Int)+1)))=_
    rw [qAe (by omega)];rfl
 ·have hge:k=l.length:=by rw [hlen] at h1';simp at h1';omega
  refine ww ?_
  refine qAg rfl (.refl _) (by simp) rfl rfl hH ⟨?_,rfl⟩
  show AV.d (.int .i64 (-1))=_
  rw [fIdx_none (fun j hj=>hb j (by omega) hj)]
theorem qKh {l:List Apk} {g:FuncId} {first cap:List AV} {H:List AObj} {p:Apk→Bool} (hp:PredAp g first cap H p l) (hH:qEg H.length H=true) (h1:qCo H.length first=true) (h2:qCo H.length cap=true) (hl:l.length≤1000000000) :
  Spec Tryz.prog 294 [.d (.sl 2 (qBz l)),.fn (.func g) first cap] H (fun r h'=>r=.d (.bool (l.any p))∧h'=H):=by
 refine qAb hT Tryz.func294 rfl rfl rfl rfl ?_
 intro E hE
 have hs:=qMo hp hH h1 h2 hl
 refine ww ?_
 refine qCr (qGc (Q:=fun r h'=>r=.I (qQi p l)∧h'=H) rfl rfl (hs.mono (fun r h' ⟨q1,q2⟩=>⟨⟨q1,q2⟩,by rw [q1];rfl,by rw [q2];exact hH⟩)) hH rfl ?_) rfl ?_
 ·simp [qCo,low,h1,h2]
 rintro v h' ⟨rfl,rfl⟩
 refine ww ?_
 refine qAg rfl (.refl _) (by simp) rfl rfl hH ⟨?_,rfl⟩
 show AV.d (.bool (decide (qQi p l≥0)))=_
 rw [fIdx_any]
def qMy (f:Fil):List AV:=[.d (.int .i64 f.id),.d (.int .i64 f.sho),.d (.sl 1 (qAj f.con)),.d (.int .i64 f.lev),.d (.int .i64 f.rgt)]
def qNa (a:Apk):List AV:=[.d (.sl 1 (qAj a.name)),.d (.sl 5 (qBn a.files))]
theorem vAc (f g:Fil):Spec Tryz.prog 357 ([]++([vAt g]++[.ptr 0 0])) [.row (qMy f)] (fun r h'=>r=.d (.bool (qLf f g))∧h'=[.row (qMy f)]):=by
 obtain ⟨f1,f2,f3,f4,f5⟩:=f
 obtain ⟨g1,g2,g3,g4,g5⟩:=g
 unfold vAt qMy qLf
 simp only
 refine qAb hT Tryz.func357 rfl rfl rfl rfl ?_;intro E hE
 refine qAo ?_
 refine wwe ?_
 refine qAl (qAf ?_)
 refine qAd (boxAt_ok (i0:=1) rfl rfl rfl) rfl ?_
 refine ww ?_
 exact qAg rfl (.refl _) rfl rfl rfl rfl ⟨rfl,rfl⟩
theorem sameName_spec (a b:Apk):Spec Tryz.prog 295 ([]++([vBf b]++[.ptr 0 0])) [.row (qNa a)] (fun r h'=>r=.d (.bool (a.name == b.name))∧h'=[.row (qNa a)]):=by
 have hq:=qXs a.name b.name
 generalize (a.name == b.name)=q at hq ⊢
 obtain ⟨a1,a2⟩:=a
 obtain ⟨b1,b2⟩:=b
 unfold vBf qNa
 simp only at hq ⊢
 refine qAb hT Tryz.func295 rfl rfl rfl rfl ?_;intro E hE
 refine qAo ?_
 refine wwe ?_
 refine qAl (qAf ?_)
 refine qAd (boxAt_ok (i0:=1) rfl rfl rfl) rfl ?_
 refine ww ?_
 refine wwc hq ?_
 refine ww ?_
 exact qAg rfl (.refl _) rfl rfl rfl rfl ⟨rfl,rfl⟩
theorem chkFil_spec (l:List Fil) (hl:l.length≤1000000):Spec Tryz.prog 293 [.d (.sl 5 (qBn l))] [] (fun r h'=>r=.I (qHw l)∧h'=[]):=by
 have hll:=encFils_length l
 unfold qHw
 by_cases h1:l.length > 24
 case pos =>
  rw [if_pos h1]
  refine qAb hT Tryz.func293 rfl rfl rfl rfl ?_;intro E hE
  refine ww ?_
  refine qAa rfl (fun c1=>?_) (fun c1=>?_)
  ·refine ww ?_
   exact wwr
  ·exfalso
   rw [hll] at c1
   simp at c1
   omega
 rw [if_neg h1]
 generalize hfin:qTw [] l=fin
 refine qAb hT Tryz.func293 rfl rfl rfl rfl ?_;intro E hE
 refine ww ?_
 refine qAa rfl (fun c1=>?_) (fun c1=>?_)
 ·exfalso
  rw [hll] at c1
  simp at c1
  omega
 refine ww ?_
 refine qBg (ι:=Nat) (fun i=>[(0,.d (.sl 5 (qBn l))),(10,.d (.sl 5 (qBn l))),(11,.I ((qBn l).length:Int)),(12,.I (i:Int))]) (fun _=>[])
  (fun i=>i≤l.length∧qTw (l.take i) (l.drop i)=fin) (fun i=>l.length-i) 0 ⟨by omega,by simpa using hfin⟩ yf (HLe.refl _) ?_
 rintro i ⟨hi,hg⟩
 have hwr:IntKind.i64.wrap ((i:Int)+1)=((i+1:Nat):Int):=by rw [qAe (by omega)];simp
 refine ww ?_
 refine qAa rfl (fun c2=>?_) (fun c2=>?_)
 ·have c2':i < l.length:=by rw [hll] at c2;simpa using c2
  have hel:=encFils_at c2'
  have hdr:l.drop i=l[i]::l.drop (i+1):=List.drop_eq_getElem_cons c2'
  have htk:l.take (i+1)=l.take i++[l[i]]:=List.take_succ_eq_append_getElem c2'
  have hcf:=qKg (p:=qLf l[i]) (l:=l.take i) (fun y hy=>vAc l[i] y) rfl rfl rfl (by rw [List.length_take];omega)
  rw [hdr,qTw] at hg
  have hcl:(qBn l).take ((i:Int)).toNat=qBn (l.take i):=by
   rw [Int.toNat_natCast]
   simp [qBn,List.map_take]
  generalize (l.take i).any (qLf l[i])=b2 at hcf hg
  generalize l[i]=x at hel hg htk hcf
  obtain ⟨x1,x2,x3,x4,x5⟩:=x
  have hxl:=encB_length x3
  unfold qQk at hel
  unfold qMy at hcf
  simp only at hel hg hcf
  refine ww ?_
  refine wwi hel ?_
  refine wws ?_
  refine qAl (qAf ?_)
  refine wws ?_
  refine qCf (ι:=Unit) (fun _=>[(0,.d (.sl 5 (qBn l))),(3,.I (i:Int)),(4,.ptr 0 0),(5,.I (if x4=3 then 15 else 0)),(10,.d (.sl 5 (qBn l))),(11,.I ((qBn l).length:Int)),(12,.I (i:Int))])
   (fun _=>[.row [.I x1,.I x2,.d (.sl 1 (qAj x3)),.I x4,.I x5]]) (fun _=>True) ?_ ?_
  ·refine ww ?_
   refine qAa rfl (fun c3=>?_) (fun c3=>?_)
   ·refine ww ?_
    exact ⟨(),trivial,⟨.refl _,.refl _,.refl _,.int (by rw [if_pos (by simpa using c3)]),.refl _,.refl _,.refl _,trivial⟩,HLe.refl _⟩
   ·refine ww ?_
    exact ⟨(),trivial,⟨.refl _,.refl _,.refl _,.int (by rw [if_neg (by simpa using c3)]),.refl _,.refl _,.refl _,trivial⟩,HLe.refl _⟩
  rintro ⟨⟩ -
  generalize (if x4=3 then (15:Int) else 0)=R at hg ⊢
  refine ww ?_
  refine qAa rfl (fun c3=>?_) (fun c3=>?_)
  ·refine ww ?_
   refine qAa rfl (fun c4=>?_) (fun c4=>?_)
   ·rw [if_pos (by simp at c3;omega)] at hg
    subst hg
    refine ww ?_
    exact wwr
   ·rw [c3] at c4;cases c4
  refine ww ?_
  refine qAa rfl (fun c4=>?_) (fun c4=>?_)
  ·rw [if_pos (by simp at c4;omega)] at hg
   subst hg
   refine ww ?_
   exact wwr
  rw [if_neg (by simp at c3 c4;omega)] at hg
  refine ww ?_
  refine qAa rfl (fun c5=>?_) (fun c5=>?_)
  ·refine ww ?_
   refine qAa rfl (fun c6=>?_) (fun c6=>?_)
   ·rw [if_pos (by simp at c5;omega)] at hg
    subst hg
    refine ww ?_
    exact wwr
   ·rw [c5] at c6;cases c6
  refine ww ?_
  refine qAa rfl (fun c6=>?_) (fun c6=>?_)
  ·rw [if_pos (by simp at c6;omega)] at hg
   subst hg
   refine ww ?_
   exact wwr
  rw [if_neg (by simp at c5 c6;omega)] at hg
  refine ww ?_
  refine qAa rfl (fun c7=>?_) (fun c7=>?_)
  ·rw [hxl] at c7
   rw [if_pos (by simp at c7;omega)] at hg
   subst hg
   refine ww ?_
   exact wwr
  rw [hxl] at c7
  rw [if_neg (by simp at c7;omega)] at hg
  refine ww ?_
  rw [hcl]
  refine qAd (qGd rfl rfl (hcf) [0] (by decide) rfl rfl rfl rfl rfl rfl rfl) rfl ?_
  refine ww ?_
  refine qAa rfl (fun c8=>?_) (fun c8=>?_)
  ·rw [if_pos c8] at hg
   subst hg
   refine ww ?_
   exact wwr
  rw [if_neg (by rw [c8];simp)] at hg
  refine ww ?_
  exact ⟨i+1,[_],⟨c2',by rw [htk];exact hg⟩,by omega,⟨.refl _,.refl _,.refl _,.int hwr,trivial⟩,HLe.refl _,Env.below_mono hE (by simp),rfl,rfl⟩
 ·have c2':i=l.length:=by rw [hll] at c2;simp at c2;omega
  subst c2'
  rw [List.drop_length,qTw] at hg
  subst hg
  refine ww ?_
  exact wwr
theorem validFs_spec (root:List Fil) (apps:List Apk) (hl:root.length≤1000000) (ha:apps.length≤1000000) (hf:∀ a,a∈apps→a.files.length≤1000000):Spec Tryz.prog 192 [.agg [.d (.sl 5 (qBn root)),.d (.sl 2 (qBz apps))]] [] (fun r h'=>r=.I (qJr root apps)∧h'=[]):=by
 have hll:=encApks_length apps
 have hck:=chkFil_spec root hl
 unfold qJr
 generalize hfin:qWu [] apps=fin
 refine qAb hT Tryz.func192 rfl rfl rfl rfl ?_;intro E hE
 refine ww ?_
 refine qAa rfl (fun c1=>?_) (fun c1=>?_)
 ·rw [hll] at c1
  rw [if_pos (by simp at c1;omega)]
  refine ww ?_
  exact wwr
 rw [hll] at c1
 rw [if_neg (by simp at c1;omega)]
 generalize qHw root=e at hck ⊢
 refine ww ?_
 refine wwc hck ?_
 refine ww ?_
 refine qAa rfl (fun c2=>?_) (fun c2=>?_)
 ·rw [if_pos (by simpa using c2)]
  refine ww ?_
  exact wwr
 rw [if_neg (by simpa using c2)]
 refine ww ?_
 refine qBg (ι:=Nat) (fun i=>[(1,.ptr 0 0),(18,.d (.sl 2 (qBz apps))),(19,.I ((qBz apps).length:Int)),(20,.I (i:Int))]) (fun _=>[.row [.d (.sl 5 (qBn root)),.d (.sl 2 (qBz apps))]])
  (fun i=>i≤apps.length∧qWu (apps.take i) (apps.drop i)=fin) (fun i=>apps.length-i) 0 ⟨by omega,by simpa using hfin⟩ yf (HLe.refl _) ?_
 rintro i ⟨hi,hg⟩
 have hwr:IntKind.i64.wrap ((i:Int)+1)=((i+1:Nat):Int):=by rw [qAe (by omega)];simp
 refine ww ?_
 refine qAa rfl (fun c3=>?_) (fun c3=>?_)
 ·have c3':i < apps.length:=by rw [hll] at c3;simpa using c3
  have hel:=encApks_at c3'
  have hdr:apps.drop i=apps[i]::apps.drop (i+1):=List.drop_eq_getElem_cons c3'
  have htk:apps.take (i+1)=apps.take i++[apps[i]]:=List.take_succ_eq_append_getElem c3'
  have hcf:=qKh (p:=fun b=>apps[i].name == b.name) (l:=apps.take i) (fun y hy=>sameName_spec apps[i] y) rfl rfl rfl (by rw [List.length_take];omega)
  have hcs:=chkFil_spec apps[i].files (hf _ (List.getElem_mem c3'))
  rw [hdr,qWu] at hg
  have hcl:(qBz apps).take ((i:Int)).toNat=qBz (apps.take i):=by
   rw [Int.toNat_natCast]
   simp [qBz,List.map_take]
  generalize ((apps.take i).any fun b=>apps[i].name == b.name)=b2 at hcf hg
  generalize apps[i]=x at hel hg htk hcf hcs
  obtain ⟨x1,x2⟩:=x
  have hxl:=encB_length x1
  unfold qQm at hel
  unfold qNa at hcf
  simp only at hel hg hcf hcs
  generalize qHw x2=ex at hcs hg
  refine ww ?_
  refine wwi hel ?_
  refine ww ?_
  refine qAa rfl (fun c4=>?_) (fun c4=>?_)
  ·rw [hxl] at c4
   rw [if_pos (by simp at c4;omega)] at hg
   subst hg
   refine ww ?_
   exact wwr
  rw [hxl] at c4
  rw [if_neg (by simp at c4;omega)] at hg
  refine ww ?_
  rw [hcl]
  refine ww ?_
  refine qAd (qGd rfl rfl (hcf) [1] (by decide) rfl rfl rfl rfl rfl rfl rfl) rfl ?_
  refine ww ?_
  refine qAa rfl (fun c5=>?_) (fun c5=>?_)
  ·rw [if_pos c5] at hg
   subst hg
   refine ww ?_
   exact wwr
  rw [if_neg (by rw [c5];simp)] at hg
  refine ww ?_
  refine wwc hcs ?_
  refine ww ?_
  refine qAa rfl (fun c6=>?_) (fun c6=>?_)
  ·rw [if_pos (by simpa using c6)] at hg
   subst hg
   refine ww ?_
   exact wwr
  rw [if_neg (by simpa using c6)] at hg
  refine ww ?_
  exact ⟨i+1,[_],⟨c3',by rw [htk];exact hg⟩,by omega,⟨.refl _,.refl _,.refl _,.int hwr,trivial⟩,HLe.refl _,Env.below_mono hE (by simp),rfl,rfl⟩
 ·have c3':i=apps.length:=by rw [hll] at c3;simp at c3;omega
  subst c3'
  rw [List.drop_length,qWu] at hg
  subst hg
  refine ww ?_
  exact wwr
theorem qKx (es:List (List Dat)) (hl:es.length≤1000000):Spec Tryz.prog 203 [.d (.sl 5 es)] [] (fun r h'=>r=.d (.sl 5 es)∧h'=[]):=by
 refine qAb hT Tryz.func203 rfl rfl rfl rfl ?_;intro E hE
 refine ww ?_
 refine qCr (eqNil_ok hT (fun _=>rfl) rfl rfl rfl) rfl ?_
 rintro v h' ⟨rfl,b,rfl,hb⟩
 refine ww ?_
 refine qAa rfl (fun h1=>?_) (fun h1=>?_)
 ·obtain rfl:=hb h1
  refine ww ?_
  exact qAg rfl AV.le.nils rfl rfl rfl rfl ⟨rfl,rfl⟩
 ·refine ww ?_
  refine qAd (qCz (es:=[]) hT rfl rfl rfl (.inl rfl) rfl (by show (([]:List (List Dat)).length+es.length)*(48+1)≤140737488355328;simp;omega)) rfl ?_
  refine ww ?_
  exact qAg rfl (.refl _) rfl rfl rfl rfl ⟨rfl,rfl⟩
theorem qSt (es:List (List Dat)) (hl:es.length≤1000000):Spec Tryz.prog 202 [.d (.sl 5 es)] [] (fun r h'=>r=.d (.sl 5 es)∧h'=[]):=by
 refine qAb hT Tryz.func202 rfl rfl rfl rfl ?_;intro E hE
 refine ww ?_
 refine qCr (eqNil_ok hT (fun _=>rfl) rfl rfl rfl) rfl ?_
 rintro v h' ⟨rfl,b,rfl,hb⟩
 refine ww ?_
 refine qAa rfl (fun h1=>?_) (fun h1=>?_)
 ·obtain rfl:=hb h1
  refine ww ?_
  exact qAg rfl AV.le.nils rfl rfl rfl rfl ⟨rfl,rfl⟩
 ·refine ww ?_
  refine qAd (qCz (es:=[]) hT rfl rfl rfl (.inl rfl) rfl (by show (([]:List (List Dat)).length+es.length)*(40+1)≤140737488355328;simp;omega)) rfl ?_
  refine ww ?_
  exact qAg rfl (.refl _) rfl rfl rfl rfl ⟨rfl,rfl⟩
theorem cpTrust_spec (l:List (List Dat)) (day:Int) (hl:l.length≤1000000):Spec Tryz.prog 111 [.agg [.d (.sl 5 l),.I day]] [] (fun r h'=>r=.agg [.d (.sl 5 l),.I day]∧h'=[]):=by
 have hc:=qKx l hl
 refine qAb hT Tryz.func111 rfl rfl rfl rfl ?_;intro E hE
 refine ww ?_
 refine wwc hc ?_
 refine ww ?_
 exact wwr
theorem cloneFile_spec (f:Fil) (hl:f.con.length≤1000000):Spec Tryz.prog 199 [vAt f] [] (fun r h'=>r=vAt f∧h'=[]):=by
 obtain ⟨x1,x2,x3,x4,x5⟩:=f
 have hbl:=encB_length x3
 have hc:=qCe (qAj x3) (by rw [hbl];exact hl)
 refine qAb hT Tryz.func199 rfl rfl rfl rfl ?_;intro E hE
 refine ww ?_
 refine wwc hc ?_
 refine ww ?_
 exact wwr
theorem encFils_snoc {l:List Fil} {i:Nat} (h:i < l.length):qBn (l.take (i+1))=qBn (l.take i)++[qQk l[i]]:=by
 unfold qBn;rw [List.take_succ_eq_append_getElem h,List.map_append];rfl
theorem eachFi_spec (l:List Fil) (hl:l.length≤100000) (hf:∀ a,a∈l→a.con.length≤1000000):Spec Tryz.prog 198 [.d (.sl 5 (qBn l)),.fn (.func 199) [] []] [] (fun r h'=>r=.d (.sl 5 (qBn l))∧h'=[]):=by
 have hll:=encFils_length l
 refine qAb hT Tryz.func198 rfl rfl rfl rfl ?_;intro E hE
 refine qAo ?_
 refine qAl (qAf ?_)
 refine wws ?_
 refine qAl (qAf ?_)
 refine wws ?_
 refine qBb 5 5 0 (es:=[]) (.inr ⟨rfl,rfl⟩) rfl ?_
 refine ww ?_
 refine qBg (ι:=Nat) (fun i=>[(1,.fn (.func 199) [] []),(5,.sl 5 (qBn (l.take i)) (.right 0)),(8,.d (.sl 5 (qBn l))),(9,.I ((qBn l).length:Int)),(10,.I (i:Int))]) (fun i=>[.right 5 (qBn (l.take i)).length]) (fun i=>i≤l.length) (fun i=>l.length-i) 0 (Nat.zero_le _)
  yf (HLe.refl _) ?_
 intro i hi
 have hwr:IntKind.i64.wrap ((i:Int)+1)=((i+1:Nat):Int):=by rw [qAe (by omega)];simp
 have hpl:(qBn (l.take i)).length=i:=by rw [encFils_length,List.length_take];omega
 refine ww ?_
 refine qAa rfl (fun c3=>?_) (fun c3=>?_)
 ·have c3':i < l.length:=by rw [hll] at c3;simpa using c3
  have hel:=encFils_at c3'
  have hsn:=encFils_snoc c3'
  have hcl:=cloneFile_spec l[i] (hf _ (List.getElem_mem c3'))
  generalize l[i]=x at hel hsn hcl
  obtain ⟨x1,x2,x3,x4,x5⟩:=x
  unfold qQk at hel hsn
  simp only at hel hsn
  generalize qBn (l.take i)=pre at hsn hpl ⊢
  refine ww ?_
  refine wwi hel ?_
  refine ww ?_
  refine wwc hcl ?_
  refine ww ?_
  refine qAd (qAh (i:=0) hT rfl rfl rfl rfl rfl rfl (by show (pre.length+1)*(56+1)≤_;omega)) rfl ?_
  refine ww ?_
  exact ⟨i+1,[_],c3',by omega,⟨.refl _,.slt hsn.symm,.refl _,.refl _,.int hwr,trivial⟩,⟨⟨rfl,by rw [hsn]⟩,ObLe.refl _,trivial⟩,Env.below_mono hE (by simp),rfl,rfl⟩
 ·have c3':i=l.length:=by rw [hll] at c3;simp at c3;omega
  subst c3'
  rw [List.take_length]
  refine ww ?_
  refine rq ⟨rfl,rfl⟩ rfl AV.le.dat
theorem cloneApp_spec (a:Apk) (hl:a.files.length≤100000∧a.name.length≤1000000) (hf:∀ f,f∈a.files→f.con.length≤1000000):Spec Tryz.prog 201 [vBf a] [] (fun r h'=>r=vBf a∧h'=[]):=by
 obtain ⟨x1,x2⟩:=a
 have hbl:=encB_length x1
 have hc:=qCe (qAj x1) (by rw [hbl];exact hl.2)
 have he:=eachFi_spec x2 hl.1 hf
 refine qAb hT Tryz.func201 rfl rfl rfl rfl ?_;intro E hE
 refine wwn ?_
 refine qBh (fun i=>bif Nat.beq i 1||Nat.beq i 4 then [0] else bif Nat.beq i 7 then [1] else []) (fun i=>bif Nat.beq i 7 then [1] else []) mixed (by kernel_rfl) ?_
 refine wwg ?_
 refine wwdc hc ?_
 refine wwg ?_
 refine wwdc he ?_
 refine wwg ?_
 refine ww ?_
 exact wwr
theorem encApks_snoc {l:List Apk} {i:Nat} (h:i < l.length):qBz (l.take (i+1))=qBz (l.take i)++[qQm l[i]]:=by
 unfold qBz;rw [List.take_succ_eq_append_getElem h,List.map_append];rfl
theorem eachAp_spec (l:List Apk) (hl:l.length≤100000) (hf:∀ a,a∈l→a.files.length≤100000∧a.name.length≤1000000) (hg:∀ a,a∈l→∀ f,f∈a.files→f.con.length≤1000000):Spec Tryz.prog 200 [.d (.sl 2 (qBz l)),.fn (.func 201) [] []] [] (fun r h'=>r=.d (.sl 2 (qBz l))∧h'=[]):=by
 have hll:=encApks_length l
 refine qAb hT Tryz.func200 rfl rfl rfl rfl ?_;intro E hE
 refine qAo ?_
 refine qAl (qAf ?_)
 refine wws ?_
 refine qAl (qAf ?_)
 refine wws ?_
 refine qBb 5 2 0 (es:=[]) (.inr ⟨rfl,rfl⟩) rfl ?_
 refine ww ?_
 refine qBg (ι:=Nat) (fun i=>[(1,.fn (.func 201) [] []),(5,.sl 2 (qBz (l.take i)) (.right 0)),(8,.d (.sl 2 (qBz l))),(9,.I ((qBz l).length:Int)),(10,.I (i:Int))]) (fun i=>[.right 2 (qBz (l.take i)).length]) (fun i=>i≤l.length) (fun i=>l.length-i) 0 (Nat.zero_le _)
  yf (HLe.refl _) ?_
 intro i hi
 have hwr:IntKind.i64.wrap ((i:Int)+1)=((i+1:Nat):Int):=by rw [qAe (by omega)];simp
 have hpl:(qBz (l.take i)).length=i:=by rw [encApks_length,List.length_take];omega
 refine ww ?_
 refine qAa rfl (fun c3=>?_) (fun c3=>?_)
 ·have c3':i < l.length:=by rw [hll] at c3;simpa using c3
  have hel:=encApks_at c3'
  have hsn:=encApks_snoc c3'
  have hcl:=cloneApp_spec l[i] (hf _ (List.getElem_mem c3')) (hg _ (List.getElem_mem c3'))
  generalize l[i]=x at hel hsn hcl
  obtain ⟨x1,x2⟩:=x
  unfold qQm at hel hsn
  simp only at hel hsn
  generalize qBz (l.take i)=pre at hsn hpl ⊢
  refine ww ?_
  refine wwi hel ?_
  refine ww ?_
  refine wwc hcl ?_
  refine ww ?_
  refine qAd (qAh (i:=0) hT rfl rfl rfl rfl rfl rfl (by show (pre.length+1)*(48+1)≤_;omega)) rfl ?_
  refine ww ?_
  exact ⟨i+1,[_],c3',by omega,⟨.refl _,.slt hsn.symm,.refl _,.refl _,.int hwr,trivial⟩,⟨⟨rfl,by rw [hsn]⟩,ObLe.refl _,trivial⟩,Env.below_mono hE (by simp),rfl,rfl⟩
 ·have c3':i=l.length:=by rw [hll] at c3;simp at c3;omega
  subst c3'
  rw [List.take_length]
  refine ww ?_
  refine rq ⟨rfl,rfl⟩ rfl AV.le.dat
structure PerLen (p:Per):Prop where
 root:p.root.length≤100000∧∀ f,f∈p.root→f.con.length≤1000000
 apps:p.apps.length≤100000∧(∀ a,a∈p.apps→a.files.length≤100000∧a.name.length≤1000000)∧∀ a,a∈p.apps→∀ f,f∈a.files→f.con.length≤1000000
 str:p.number.length≤1000000∧p.pin.length≤1000000∧p.puk.length≤1000000∧p.ident.length≤1000000∧p.seed.length≤1000000
 infos:p.infos.length≤1000000
 tps:p.tps.length≤1000000
def vLd:List AV:=[.sl 5 [] .full,.sl 2 [] .full,.d (.str []),.sl 1 [] .full,.sl 1 [] .full,.sl 1 [] .full,.d (.int .i64 0),.d (.int .i64 0),.d (.bool false),.sl 5 [] .full,.d (.int .i64 0),.d (.int .i64 0),.sl 5 [] .full,.d (.int .i64 0),.sl 1 [] .full,.sl 1 [] .full]
theorem clonePer_spec (p:Per) (hp:PerLen p):Spec Tryz.prog 110 [qRe p] [] (fun r h'=>r=qRe p∧h'=[]):=by
 have e1:=eachFi_spec p.root hp.root.1 hp.root.2
 have e2:=eachAp_spec p.apps hp.apps.1 hp.apps.2.1 hp.apps.2.2
 have c0:=qCe (qAj p.number) (by rw [encB_length];exact hp.str.1)
 have c1:=qCe (qAj p.pin) (by rw [encB_length];exact hp.str.2.1)
 have c2:=qCe (qAj p.puk) (by rw [encB_length];exact hp.str.2.2.1)
 have c3:=qCe (qAj p.ident) (by rw [encB_length];exact hp.str.2.2.2.1)
 have c4:=qCe (qAj p.seed) (by rw [encB_length];exact hp.str.2.2.2.2)
 have ci:=qSt (qFt p.infos) (by rw [encFs_length];exact hp.infos)
 have ct:=qKx (qCm p.tps) (by rw [encTps_length];exact hp.tps)
 clear hp
 obtain ⟨root,apps,zone,number,pin,puk,pr,ur,basic,infos,ck,ak,tps,tday,ident,seed⟩:=p
 simp only at *
 refine qAb hT Tryz.func110 rfl rfl rfl rfl ?_;intro E hE
 refine qAo ?_
 refine wwn ?_
 refine qBh (fun i=>bif Nat.beq i 2||Nat.beq i 6||Nat.beq i 10 then [1] else []) (fun i=>bif Nat.beq i 10 then [1] else []) mixed (by kernel_rfl) ?_
 refine wwg ?_
 refine wwdc e1 ?_
 refine wwg ?_
 refine wwdc e2 ?_
 refine wwg ?_
 refine qAl (qAl (qAf ?_))
 refine wws ?_
 refine qAd (buildRowAt_ok (i0:=0) hT rfl rfl rfl) rfl ?_
 refine ww ?_
 refine qAq (ι:=Nat) (fun i=>[(1,.ptr 1 0),(2,.ptr 2 0),(20,.row 0 0 5 5),(21,.I 5),(22,.I (i:Int))])
  (fun _=>[.row [.ptr 1 3,.ptr 1 4,.ptr 1 5,.ptr 1 14,.ptr 1 15],.row (qKo ⟨root,apps,zone,number,pin,puk,pr,ur,basic,infos,ck,ak,tps,tday,ident,seed⟩),.row vLd]) (fun i=>i≤5) (fun i=>5-i) 0 (Nat.zero_le _)
  yf (HLe.refl _) ?_
 intro i hi
 rcases (by omega:i=0∨i=1∨i=2∨i=3∨i=4∨i=5) with rfl | rfl | rfl | rfl | rfl | rfl
 ·refine ww ?_
  refine qAa rfl (fun q=>?_) (fun q=>absurd q (by decide))
  refine ww ?_
  refine qAd (qAc (rowAddr_ok (sz:=1) hT rfl rfl rfl rfl ⟨by decide,by decide⟩)) rfl ?_
  refine ww ?_
  refine wwc c0 ?_
  refine ww ?_
  exact ⟨1,by omega,by omega,yf,HLe.refl _⟩
 ·refine ww ?_
  refine qAa rfl (fun q=>?_) (fun q=>absurd q (by decide))
  refine ww ?_
  refine qAd (qAc (rowAddr_ok (sz:=1) hT rfl rfl rfl rfl ⟨by decide,by decide⟩)) rfl ?_
  refine ww ?_
  refine wwc c1 ?_
  refine ww ?_
  exact ⟨2,by omega,by omega,yf,HLe.refl _⟩
 ·refine ww ?_
  refine qAa rfl (fun q=>?_) (fun q=>absurd q (by decide))
  refine ww ?_
  refine qAd (qAc (rowAddr_ok (sz:=1) hT rfl rfl rfl rfl ⟨by decide,by decide⟩)) rfl ?_
  refine ww ?_
  refine wwc c2 ?_
  refine ww ?_
  exact ⟨3,by omega,by omega,yf,HLe.refl _⟩
 ·refine ww ?_
  refine qAa rfl (fun q=>?_) (fun q=>absurd q (by decide))
  refine ww ?_
  refine qAd (qAc (rowAddr_ok (sz:=1) hT rfl rfl rfl rfl ⟨by decide,by decide⟩)) rfl ?_
  refine ww ?_
  refine wwc c3 ?_
  refine ww ?_
  exact ⟨4,by omega,by omega,yf,HLe.refl _⟩
 ·refine ww ?_
  refine qAa rfl (fun q=>?_) (fun q=>absurd q (by decide))
  refine ww ?_
  refine qAd (qAc (rowAddr_ok (sz:=1) hT rfl rfl rfl rfl ⟨by decide,by decide⟩)) rfl ?_
  refine ww ?_
  refine wwc c4 ?_
  refine ww ?_
  exact ⟨5,by omega,by omega,yf,HLe.refl _⟩
 ·refine ww ?_
  refine qAa rfl (fun q=>absurd q (by decide)) (fun q=>?_)
  refine ww ?_
  refine wwc ci ?_
  refine ww ?_
  refine wwc ct ?_
  refine ww ?_
  exact wwr
theorem tDays_spec (a b:Int):Spec Tryz.prog 361 [.I a,.I b] [] (fun r h'=>r=.d (.bool (decide (0≤a)&&decide (a≤b)&&decide (b≤73048)))∧h'=[]):=by
 refine qAb hT Tryz.func361 rfl rfl rfl rfl ?_;intro E hE
 refine ww ?_
 exact wwr
theorem bI_getD (s:List UInt8) (i:Nat):qDs s (i:Int)=bI (s.getD i 0):=strAt_nat s i
theorem vEt {s:List UInt8} {i:Nat} (h:i < s.length) (hn:qJp (s.getD i 0)=false):s.all qJp=false:=by
 rw [Bool.eq_false_iff]
 intro ha
 rw [List.all_eq_true] at ha
 have:=ha (s.getD i 0) (by rw [List.getD_eq_getElem?_getD,List.getElem?_eq_getElem h];exact List.getElem_mem h)
 rw [hn] at this
 cases this
theorem vEs {s:List UInt8} (h:∀ j,j < s.length→qJp (s.getD j 0)=true):s.all qJp=true:=by
 rw [List.all_eq_true]
 intro c hc
 obtain ⟨j,hj,rfl⟩:=List.getElem_of_mem hc
 have:=h j hj
 rwa [List.getD_eq_getElem?_getD,List.getElem?_eq_getElem hj] at this
theorem tName_spec (s:List UInt8) (hs:s.length≤1000000):Spec Tryz.prog 360 [.d (.str s)] [] (fun r h'=>r=.d (.bool (qId s))∧h'=[]):=by
 have h0:=bI_getD s 0
 have hr0:0≤bI (s.getD 0 0)∧bI (s.getD 0 0) < 256:=by have:=(s.getD 0 0).toNat_lt;unfold bI;omega
 refine qAb hT Tryz.func360 rfl rfl rfl rfl ?_;intro E hE
 refine ww ?_
 refine qAa rfl (fun c1=>?_) (fun c1=>?_)
 ·rw [show qId s=false by
   unfold qId
   rw [show ((0:Nat):Int)=0 from rfl] at h0
   simp only [h0,Bool.or_eq_true,decide_eq_true_eq] at c1
   rw [Bool.and_eq_false_iff,Bool.and_eq_false_iff]
   unfold qHz
   simp only [decide_eq_false_iff_not]
   by_cases hq:1≤s.length∧s.length≤16
   ·exact .inl (.inr (by omega))
   ·exact .inl (.inl hq)]
  refine ww ?_
  exact wwr
 have c1':(1≤s.length∧s.length≤16)∧qHz (s.getD 0 0)=true:=by
  rw [show ((0:Nat):Int)=0 from rfl] at h0
  simp only [h0,Bool.or_eq_false_iff,decide_eq_false_iff_not] at c1
  unfold qHz
  simp only [decide_eq_true_eq]
  omega
 rw [show qId s=s.all qJp by unfold qId;rw [decide_eq_true c1'.1,c1'.2];rfl]
 generalize hfin:s.all qJp=fin
 refine ww ?_
 refine qAq (ι:=Nat) (fun i=>[(0,.d (.str s)),(23,.I (s.length:Int)),(24,.I (i:Int))]) (fun _=>[]) (fun i=>i≤s.length∧∀ j,j < i→qJp (s.getD j 0)=true) (fun i=>s.length-i) 0 ⟨Nat.zero_le _,fun j hj=>by omega⟩
  yf (HLe.refl _) ?_
 intro i ⟨hi,hall⟩
 have hb:=bI_getD s i
 refine ww ?_
 refine qAa rfl (fun c2=>?_) (fun c2=>?_)
 ·have c2':i < s.length:=by simp at c2;omega
  refine ww ?_
  rw [hb]
  refine ww ?_
  refine qAa rfl (fun c3=>?_) (fun c3=>?_)
  ·rw [vEt c2' (by
    unfold qJp
    simp only [Bool.and_eq_true,Bool.or_eq_true,decide_eq_true_eq] at c3
    rw [decide_eq_false_iff_not]
    omega)] at hfin
   subst hfin
   refine ww ?_
   exact wwr
  refine ww ?_
  refine ⟨i+1,⟨c2',fun j hj=>?_⟩,by omega,⟨.refl _,.refl _,.int (by rw [qAe (by omega)];omega),trivial⟩,HLe.refl _⟩
  by_cases hji:j=i
  ·subst hji
   unfold qJp
   simp only [Bool.and_eq_false_iff,Bool.or_eq_false_iff,decide_eq_false_iff_not] at c3
   rw [decide_eq_true_eq]
   omega
  ·exact hall j (by omega)
 have c2':i=s.length:=by simp at c2;omega
 subst c2'
 rw [vEs hall] at hfin
 subst hfin
 refine ww ?_
 exact wwr
theorem vAf (p:Tp) (hs:p.holder.length≤1000000):Spec Tryz.prog 297 [vLn p] [] (fun r h'=>r=.I (qJk p)∧h'=[]):=by
 have h1:=tName_spec p.holder hs
 have h2:=qFf p.key
 have h3:=tDays_spec p.frm p.til
 unfold qJk
 generalize qId p.holder=a at h1 ⊢
 generalize qDj p.key=b at h2 ⊢
 obtain ⟨ho,key,ri,fr,ti⟩:=p
 simp only at *
 refine qAb hT Tryz.func297 rfl rfl rfl rfl ?_;intro E hE
 refine ww ?_
 refine wwc h1 ?_
 refine ww ?_
 refine qAa rfl (fun c1=>?_) (fun c1=>?_)
 ·rw [if_pos (by simpa using c1)]
  refine ww ?_
  exact wwr
 rw [if_neg (by simpa using c1)]
 refine ww ?_
 refine wwc h2 ?_
 refine ww ?_
 refine qAa rfl (fun c2=>?_) (fun c2=>?_)
 ·rw [if_pos (by simpa using c2)]
  refine ww ?_
  exact wwr
 rw [if_neg (by simpa using c2)]
 refine ww ?_
 refine qAa rfl (fun c3=>?_) (fun c3=>?_)
 ·rw [if_pos (by simpa using c3)]
  refine ww ?_
  exact wwr
 rw [if_neg (by simpa using c3)]
 refine ww ?_
 refine wwc h3 ?_
 refine ww ?_
 refine qAa rfl (fun c4=>?_) (fun c4=>?_)
 ·rw [if_pos (by simp at c4;omega)]
  refine ww ?_
  exact wwr
 rw [if_neg (by simp at c4;omega)]
 refine ww ?_
 exact wwr
def PredTp (g:FuncId) (first cap:List AV) (H:List AObj) (p:Tp→Bool) (l:List Tp):Prop :=
 ∀ c,c∈l→Spec Tryz.prog g (first++([vLn c]++cap)) H (fun r h'=>r=.d (.bool (p c))∧h'=H)
theorem qMm {l:List Tp} {g:FuncId} {first cap:List AV} {H:List AObj} {p:Tp→Bool} (hp:PredTp g first cap H p l) (hH:qEg H.length H=true) (h1:qCo H.length first=true) (h2:qCo H.length cap=true) (hl:l.length≤1000000000) :
  Spec Tryz.prog 393 [.d (.sl 5 (qCm l)),.fn (.func g) first cap] H (fun r h'=>r=.I (qQi p l)∧h'=H):=by
 refine qAb hT Tryz.func393 rfl rfl rfl rfl ?_
 intro E hE
 have hlen:=encTps_length l
 refine ww ?_
 refine qAq (ι:=Nat) (fun k=>[(0,.d (.sl 5 (qCm l))),(1,.fn (.func g) first cap),(7,.d (.int .i64 (qCm l).length)),(8,.I k)]) (fun _=>H) (fun k=>k≤l.length∧∀ j,(hj:j < k)→(hj2:j < l.length)→p l[j]=false) (fun k=>l.length-k) 0
  ⟨by omega,fun j hj=>by omega⟩ yf (HLe.refl _) ?_
 intro k ⟨hk,hb⟩
 refine ww ?_
 refine qAa rfl (fun h1'=>?_) (fun h1'=>?_)
 ·have hlt:k < l.length:=by rw [hlen] at h1';simpa using h1'
  have hel:=encTps_at hlt
  have hpk:=hp l[k] (List.getElem_mem hlt)
  generalize hc:l[k]=c at hel hpk
  obtain ⟨c1,c2,c3,c4,c5⟩:=c
  unfold vAv at hel
  simp only at hel
  refine ww ?_
  refine qAd (qAc (indexAddr_ok hT rfl rfl rfl rfl (by omega) hel)) rfl ?_
  refine ww ?_
  refine qCr (qGc (Q:=fun r h'=>r=.d (.bool (p ⟨c1,c2,c3,c4,c5⟩))∧h'=H) rfl rfl (hpk.mono (fun r h' ⟨q1,q2⟩=>⟨⟨q1,q2⟩,by rw [q1];rfl,by rw [q2];exact hH⟩)) hH rfl ?_) rfl ?_
  ·have:∀ (a b:List AV),qCo H.length a=true→qCo H.length b=true→qCo H.length (a++b)=true:=by
    intro a
    induction a with
    | nil=>intro b _ hb;exact hb
    | cons x a ih=>intro b ha hb;simp only [qCo,Bool.and_eq_true,List.cons_append] at ha ⊢;exact ⟨ha.1,ih b ha.2 hb⟩
   exact this _ _ h1 (this [_] _ (by simp [qCo,low,vLn]) h2)
  rintro v h' ⟨rfl,rfl⟩
  refine ww ?_
  refine qAa rfl (fun h2'=>?_) (fun h2'=>?_)
  ·refine ww ?_
   refine qAg rfl (.refl _) (by simp) rfl rfl hH ⟨?_,rfl⟩
   show AV.d (.int .i64 (k:Int))=_
   rw [fIdx_at hlt (by rw [hc];exact h2') (fun j hj hj2=>hb j hj hj2)]
  ·refine ww ?_
   refine ⟨k+1,⟨by omega,fun j hj hj2=>?_⟩,by omega,⟨.refl _,.refl _,.refl _,AV.le.eq ?_,trivial⟩,HLe.refl _⟩
   ·by_cases hjk:j=k
    ·subst hjk;rw [hc];exact h2'
    ·exact hb j (by omega) hj2
   ·show AV.d (.int .i64 (IntKind.i64.wrap ((k:Int)+1)))=_
    rw [qAe (by omega)];rfl
 ·have hge:k=l.length:=by rw [hlen] at h1';simp at h1';omega
  refine ww ?_
  refine qAg rfl (.refl _) (by simp) rfl rfl hH ⟨?_,rfl⟩
  show AV.d (.int .i64 (-1))=_
  rw [fIdx_none (fun j hj=>hb j (by omega) hj)]
theorem qKf {l:List Tp} {g:FuncId} {first cap:List AV} {H:List AObj} {p:Tp→Bool} (hp:PredTp g first cap H p l) (hH:qEg H.length H=true) (h1:qCo H.length first=true) (h2:qCo H.length cap=true) (hl:l.length≤1000000000) :
  Spec Tryz.prog 362 [.d (.sl 5 (qCm l)),.fn (.func g) first cap] H (fun r h'=>r=.d (.bool (l.any p))∧h'=H):=by
 refine qAb hT Tryz.func362 rfl rfl rfl rfl ?_
 intro E hE
 have hs:=qMm hp hH h1 h2 hl
 refine ww ?_
 refine qCr (qGc (Q:=fun r h'=>r=.I (qQi p l)∧h'=H) rfl rfl (hs.mono (fun r h' ⟨q1,q2⟩=>⟨⟨q1,q2⟩,by rw [q1];rfl,by rw [q2];exact hH⟩)) hH rfl ?_) rfl ?_
 ·simp [qCo,low,h1,h2]
 rintro v h' ⟨rfl,rfl⟩
 refine ww ?_
 refine qAg rfl (.refl _) (by simp) rfl rfl hH ⟨?_,rfl⟩
 show AV.d (.bool (decide (qQi p l≥0)))=_
 rw [fIdx_any]
theorem vDv (s:List UInt8) (q:Tp):Spec Tryz.prog 363 ([]++([vLn q]++[.ptr 0 0])) [.row [.d (.str s)]] (fun r h'=>r=.d (.bool (q.holder == s))∧h'=[.row [.d (.str s)]]):=by
 obtain ⟨ho,key,ri,fr,ti⟩:=q
 unfold vLn
 simp only
 refine qAb hT Tryz.func363 rfl rfl rfl rfl ?_;intro E hE
 refine qAo ?_
 refine wwe ?_
 refine qAl (qAf ?_)
 refine qAd (boxAt_ok (i0:=1) rfl rfl rfl) rfl ?_
 refine ww ?_
 exact qAg rfl (.refl _) rfl rfl rfl rfl ⟨rfl,rfl⟩
theorem vHf (l:List Tp) (s:List UInt8) (hl:l.length≤1000000):Spec Tryz.prog 298 [.d (.sl 5 (qCm l)),.d (.str s)] [] (fun r h'=>r=.d (.bool (l.any fun q=>q.holder == s))∧h'=[]):=by
 have c1:=qKf (p:=fun q=>q.holder == s) (l:=l) (fun y hy=>vDv s y) rfl rfl rfl (by omega)
 generalize (l.any fun q=>q.holder == s)=b at c1 ⊢
 refine qAb hT Tryz.func298 rfl rfl rfl rfl ?_;intro E hE
 refine qAo ?_
 refine wwe ?_
 refine qAl (qAf ?_)
 refine qAd (boxAt_ok (i0:=0) rfl rfl rfl) rfl ?_
 refine ww ?_
 refine qAd (qGd rfl rfl (c1) [0] (by decide) rfl rfl rfl rfl rfl rfl rfl) rfl ?_
 refine ww ?_
 exact wwr
theorem validTr_spec (l:List Tp) (day:Int) (hl:l.length≤1000000) (hs:∀ p,p∈l→p.holder.length≤1000000):Spec Tryz.prog 194 [.agg [.d (.sl 5 (qCm l)),.I day]] [] (fun r h'=>r=.I (qDw l day)∧h'=[]):=by
 have hll:=encTps_length l
 unfold qDw
 generalize hf1:vGa l=f1
 generalize hf2:qWz [] l=f2
 refine qAb hT Tryz.func194 rfl rfl rfl rfl ?_;intro E hE
 refine ww ?_
 refine qAa rfl (fun c1=>?_) (fun c1=>?_)
 ·rw [hll] at c1
  rw [if_pos (by simp at c1;omega)]
  refine ww ?_
  exact wwr
 rw [hll] at c1
 rw [if_neg (by simp at c1;omega)]
 refine qBw ?_
 refine qCf (ι:=Unit) (fun _=>[(1,.ptr 0 0)]) (fun _=>[.row [.d (.sl 5 (qCm l)),.I day]]) (fun _=>f1=0) ?_ ?_
 ·refine ww ?_
  refine qBg (ι:=Nat) (fun i=>[(1,.ptr 0 0),(19,.d (.sl 5 (qCm l))),(20,.I ((qCm l).length:Int)),(21,.I (i:Int))]) (fun _=>[.row [.d (.sl 5 (qCm l)),.I day]])
   (fun i=>i≤l.length∧vGa (l.drop i)=f1) (fun i=>l.length-i) 0 ⟨by omega,by simpa using hf1⟩ yf (HLe.refl _) ?_
  rintro i ⟨hi,hg⟩
  have hwr:IntKind.i64.wrap ((i:Int)+1)=((i+1:Nat):Int):=by rw [qAe (by omega)];simp
  refine ww ?_
  refine qAa rfl (fun c2=>?_) (fun c2=>?_)
  ·have c2':i < l.length:=by rw [hll] at c2;simpa using c2
   have hel:=encTps_at c2'
   have hdr:l.drop i=l[i]::l.drop (i+1):=List.drop_eq_getElem_cons c2'
   have hpt:=vAf l[i] (hs _ (List.getElem_mem c2'))
   rw [hdr,vGa] at hg
   generalize l[i]=x at hel hg hpt
   obtain ⟨x1,x2,x3,x4,x5⟩:=x
   unfold vAv at hel
   simp only at hel
   generalize qJk ⟨x1,x2,x3,x4,x5⟩=e at hpt hg
   refine ww ?_
   refine wwi hel ?_
   refine ww ?_
   refine wwc hpt ?_
   refine ww ?_
   refine qAa rfl (fun c3=>?_) (fun c3=>?_)
   ·rw [if_pos (by simpa using c3)] at hg
    subst hg
    rw [if_pos (by simpa using c3)]
    refine ww ?_
    exact wwr
   rw [if_neg (by simpa using c3)] at hg
   refine ww ?_
   exact ⟨i+1,[_],⟨c2',hg⟩,by omega,⟨.refl _,.refl _,.refl _,.int hwr,trivial⟩,HLe.refl _,Env.below_mono hE (by simp),rfl,rfl⟩
  ·have c2':i=l.length:=by rw [hll] at c2;simp at c2;omega
   subst c2'
   rw [List.drop_length,vGa] at hg
   refine ww ?_
   exact ⟨(),hg.symm,yf,HLe.refl _⟩
 rintro ⟨⟩ h1
 rw [if_neg (by simpa using h1)]
 refine qCf (ι:=Unit) (fun _=>[(1,.ptr 0 0)]) (fun _=>[.row [.d (.sl 5 (qCm l)),.I day]]) (fun _=>f2=false) ?_ ?_
 ·refine ww ?_
  refine qBg (ι:=Nat) (fun i=>[(1,.ptr 0 0),(32,.d (.sl 5 (qCm l))),(33,.I ((qCm l).length:Int)),(34,.I (i:Int))]) (fun _=>[.row [.d (.sl 5 (qCm l)),.I day]])
   (fun i=>i≤l.length∧qWz (l.take i) (l.drop i)=f2) (fun i=>l.length-i) 0 ⟨by omega,by simpa using hf2⟩ yf (HLe.refl _) ?_
  rintro i ⟨hi,hg⟩
  have hwr:IntKind.i64.wrap ((i:Int)+1)=((i+1:Nat):Int):=by rw [qAe (by omega)];simp
  refine ww ?_
  refine qAa rfl (fun c2=>?_) (fun c2=>?_)
  ·have c2':i < l.length:=by rw [hll] at c2;simpa using c2
   have hel:=encTps_at c2'
   have hdr:l.drop i=l[i]::l.drop (i+1):=List.drop_eq_getElem_cons c2'
   have htk:l.take (i+1)=l.take i++[l[i]]:=List.take_succ_eq_append_getElem c2'
   have hha:=vHf (l.take i) l[i].holder (by rw [List.length_take];omega)
   have hcl:(qCm l).take ((i:Int)).toNat=qCm (l.take i):=by
    rw [Int.toNat_natCast]
    simp [qCm,List.map_take]
   rw [hdr,qWz] at hg
   generalize ((l.take i).any fun q=>q.holder == l[i].holder)=b at hha hg
   generalize l[i]=x at hel hg hha htk
   obtain ⟨x1,x2,x3,x4,x5⟩:=x
   unfold vAv at hel
   simp only at hel hha
   refine ww ?_
   refine wwi hel ?_
   refine wws ?_
   refine qAl (qBh (fun i=>bif Nat.beq i 1 then [0] else bif Nat.beq i 5 then [1] else []) (fun _=>[]) mixed (by kernel_rfl) ?_)
   refine wwg ?_
   rw [hcl]
   refine wwg ?_
   refine wwdc hha ?_
   refine wwg ?_
   refine ww ?_
   refine qAa rfl (fun c3=>?_) (fun c3=>?_)
   ·rw [c3] at hg
    simp only [Bool.true_or] at hg
    subst hg
    rw [if_pos rfl]
    refine ww ?_
    exact wwr
   rw [c3] at hg
   simp only [Bool.false_or] at hg
   rw [← htk] at hg
   refine ww ?_
   exact ⟨i+1,[_],⟨c2',hg⟩,by omega,⟨.refl _,.refl _,.refl _,.int hwr,trivial⟩,HLe.refl _,Env.below_mono hE (by simp),rfl,rfl⟩
  ·have c2':i=l.length:=by rw [hll] at c2;simp at c2;omega
   subst c2'
   rw [List.drop_length,qWz] at hg
   refine ww ?_
   exact ⟨(),hg.symm,yf,HLe.refl _⟩
 rintro ⟨⟩ h2
 rw [if_neg (by rw [h2];simp)]
 refine ww ?_
 refine qAa rfl (fun c5=>?_) (fun c5=>?_)
 ·rw [if_pos (by simpa using c5)]
  refine ww ?_
  exact wwr
 rw [if_neg (by simpa using c5)]
 refine ww ?_
 exact wwr
theorem vCp (n:Int):Int.fdiv n (2 ^ (min (16:Int).toNat IntKind.i64.bits))=n / 65536:=by
 rw [show (2 ^ (min (16:Int).toNat IntKind.i64.bits):Int)=65536 from rfl,Int.fdiv_eq_ediv_of_nonneg _ (by omega)]
theorem dayB_enc (n:Int):qAj (qPg n)=[[.int .u8 (IntKind.u8.wrap (Int.fdiv n (2 ^ (min (16:Int).toNat IntKind.i64.bits))))],[.int .u8 (IntKind.u8.wrap (Int.fdiv n (2 ^ (min (8:Int).toNat IntKind.i64.bits))))],[.int .u8 (IntKind.u8.wrap n)]]:=by
 rw [vCp,qYg,bOf_wrap,bOf_wrap,bOf_wrap];rfl
theorem qRq (n:Int):Spec Tryz.prog 299 [.I n] [] (fun r h'=>r=.sl 1 (qAj (qPg n)) .full∧h'=[]):=by
 rw [dayB_enc]
 refine qAb hT Tryz.func299 rfl rfl rfl rfl ?_;intro E hE
 refine ww ?_
 exact wwr
def trN (l:List Tp) (day:Int) (i:Nat):List UInt8:=qPg day++[bOf l.length]++((l.take i).map tpB).flatten
theorem trN_succ {l:List Tp} {day:Int} {i:Nat} (h:i < l.length):trN l day (i+1)=trN l day i++tpB l[i]:=by
 unfold trN
 rw [List.take_succ_eq_append_getElem h,List.map_append,List.flatten_append]
 simp
theorem encB_one (n:Int):qAj [bOf n]=[[.int .u8 (IntKind.u8.wrap n)]]:=by rw [bOf_wrap];rfl
theorem encB_two (n:Int):qAj [bOf (n / 256),bOf n]=[[.int .u8 (IntKind.u8.wrap (Int.fdiv n (2 ^ (min (8:Int).toNat IntKind.i64.bits))))],[.int .u8 (IntKind.u8.wrap n)]]:=by rw [qYg,bOf_wrap,bOf_wrap];rfl
theorem tpB_enc (p:Tp):qAj (tpB p)=((((qAj [bOf p.holder.length]++qAj p.holder)++qAj (qAw 4 p.key.toNat))++qAj [bOf (p.rights / 256),bOf p.rights])++qAj (qPg p.frm))++qAj (qPg p.til):=by
 unfold tpB
 rw [show bOf (p.holder.length:Int)::(p.holder++qAw 4 p.key.toNat++[bOf (p.rights / 256),bOf p.rights]++qPg p.frm++qPg p.til)=[bOf (p.holder.length:Int)]++(p.holder++qAw 4 p.key.toNat++[bOf (p.rights / 256),bOf p.rights]++qPg p.frm++qPg p.til) from rfl]
 simp only [encB_append,List.append_assoc]
theorem goTp_ok:∀ {l:List Tp},vGa l=0→∀ p,p∈l→qJk p=0
 | [],_,p,h=>by cases h
 | q::l,h0,p,h=>by
  rw [vGa] at h0
  split at h0
  ·rename_i h1;exact absurd h0 h1
  rename_i h1
  rcases List.mem_cons.1 h with rfl | h
  ·simpa using h1
  ·exact goTp_ok h0 p h
theorem pointE_ok {p:Tp} (h:qJk p=0):qId p.holder=true∧qDj p.key=true:=by
 unfold qJk at h
 split at h
 ·exact absurd h (by decide)
 split at h
 ·exact absurd h (by decide)
 rename_i h1 h2
 exact ⟨by simpa using h1,by simpa using h2⟩
theorem validTr_ok {l:List Tp} {day:Int} (h:qDw l day=0):(1≤l.length∧l.length≤2)∧(∀ p,p∈l→qJk p=0):=by
 unfold qDw at h
 split at h
 ·exact absurd h (by decide)
 split at h
 ·rename_i h1;exact absurd h h1
 rename_i h1 h2
 exact ⟨by omega,goTp_ok (by simpa using h2)⟩
theorem qNe {s:List UInt8} (h:qId s=true):s.length≤16:=by
 unfold qId at h
 simp only [Bool.and_eq_true,decide_eq_true_eq] at h
 exact h.1.1.2
theorem tpB_len (p:Tp):(tpB p).length=p.holder.length+13:=by simp [tpB,octB_length,qPg]
theorem trN_len {l:List Tp} (day:Int) (h:∀ p,p∈l→p.holder.length≤16):∀ i,i≤l.length→(trN l day i).length≤4+29*i
 | 0,_=>by simp [trN,qPg]
 | i+1,hi=>by
  rw [trN_succ (by omega),List.length_append,tpB_len]
  have h1:=trN_len day h i (by omega)
  have h2:=h _ (List.getElem_mem (show i < l.length by omega))
  omega
theorem trEnc_spec (l:List Tp) (day:Int) (hl:l.length≤1000000) (hs:∀ p,p∈l→p.holder.length≤1000000):Spec Tryz.prog 195 [.agg [.d (.sl 5 (qCm l)),.I day]] [] (fun r h'=>r=.tup [.d (.sl 1 (qAj (qMk l day).1)),.d (.int .i64 (qMk l day).2)]∧h'=[]):=by
 have hll:=encTps_length l
 have hv:=validTr_spec l day hl hs
 unfold qMk
 by_cases h0:qDw l day=0
 case neg =>
  rw [if_pos (by simpa using h0)]
  generalize qDw l day=e at hv h0 ⊢
  refine qAb hT Tryz.func195 rfl rfl rfl rfl ?_;intro E hE
  refine ww ?_
  refine wwc hv ?_
  refine ww ?_
  refine qAa rfl (fun c1=>?_) (fun c1=>?_)
  ·refine ww ?_
   exact wwr
  ·exact absurd (by simpa using c1) h0
 rw [if_neg (by simpa using h0)]
 rw [h0] at hv
 obtain ⟨hlen,hpts⟩:=validTr_ok h0
 have hnm:∀ p,p∈l→p.holder.length≤16:=fun p hp=>qNe (pointE_ok (hpts p hp)).1
 have htl:=trN_len (l:=l) day hnm
 have hd:=qRq day
 have ht0:qAj (trN l day 0)=qAj (qPg day)++[[.int .u8 (IntKind.u8.wrap (l.length:Int))]]:=by
  unfold trN
  rw [List.take_zero,List.map_nil,List.flatten_nil,List.append_nil,encB_append,encB_one]
 have htf:qKk l day=trN l day l.length:=by unfold qKk trN;rw [List.take_length]
 rw [htf]
 have hdl:(qAj (qPg day)).length=3:=rfl
 generalize qAj (qPg day)=db at hd ht0 hdl
 refine qAb hT Tryz.func195 rfl rfl rfl rfl ?_;intro E hE
 refine qAo ?_
 refine wwn ?_
 refine wwc hv ?_
 refine wwn ?_
 refine qAa rfl (fun c1=>?_) (fun c1=>?_)
 ·exact absurd c1 (by simp)
 refine wwn ?_
 refine qBh (fun i=>bif Nat.beq i 1||Nat.beq i 4 then [1] else bif Nat.beq i 8 then [0] else []) (fun i=>bif Nat.beq i 8 then [0] else []) mixed (by kernel_rfl) ?_
 refine wwg ?_
 refine wwdc hd ?_
 refine wwg ?_
 refine qAk (os:=[]) (fun k hk1 hk2=>buildSl_ok hT rfl rfl) rfl ?_
 rw [hll]
 refine qAk (v:=.sl 1 (db++[[Dat.int .u8 (IntKind.u8.wrap (l.length:Int))]]) (.right 0)) (os:=[.right 1 (db.length+1)]) (fun k hk1 hk2=>qKc (i:=0) (es2:=[[Dat.int .u8 (IntKind.u8.wrap (l.length:Int))]]) hT rfl rfl rfl (.inl rfl) (by simp) ((hk2 0 List.mem_cons_self).trans rfl) rfl (by show (db.length+1)*(1+1)≤_;omega)) rfl ?_
 refine wwg ?_
 refine wwn ?_
 refine qBg (ι:=Nat) (fun i=>[(1,.ptr 1 0),(5,.sl 1 (qAj (trN l day i)) (.right 0)),(25,.d (.sl 5 (qCm l))),(26,.I (l.length:Int)),(27,.I (i:Int))]) (fun i=>[.right 1 (qAj (trN l day i)).length,.row [.d (.sl 5 (qCm l)),.I day]])
  (fun i=>i≤l.length) (fun i=>l.length-i) 0 (Nat.zero_le _) ⟨.refl _,.slt ht0.symm,.refl _,.int (by rw [hll]),.refl _,trivial⟩ ⟨⟨rfl,by rw [ht0,List.length_append];rfl⟩,ObLe.refl _,trivial⟩ ?_
 intro i hi
 have hwr:IntKind.i64.wrap ((i:Int)+1)=((i+1:Nat):Int):=by rw [qAe (by omega)];simp
 have hpl:(qAj (trN l day i)).length≤62:=by rw [encB_length];have:=htl i hi;omega
 refine wwn ?_
 refine qAa rfl (fun c3=>?_) (fun c3=>?_)
 ·have c3':i < l.length:=by simpa using c3
  have hel:=encTps_at c3'
  have hpo:=pointE_ok (hpts _ (List.getElem_mem c3'))
  have hho:=hnm _ (List.getElem_mem c3')
  have hsn:qAj (trN l day (i+1))=qAj (trN l day i)++qAj (tpB l[i]):=by rw [trN_succ c3',encB_append]
  rw [tpB_enc,encB_one,encB_two] at hsn
  have hge:=qGf l[i].key
  rw [if_pos hpo.2,if_pos hpo.2] at hge
  have hd1:=qRq l[i].frm
  have hd2:=qRq l[i].til
  have l1:(qAj (qAw 4 l[i].key.toNat)).length=4:=by rw [encB_length,octB_length]
  have l2:(qAj (qPg l[i].frm)).length=3:=rfl
  have l3:(qAj (qPg l[i].til)).length=3:=rfl
  have l4:=encB_length l[i].holder
  clear hpo
  generalize l[i]=x at hel hho hsn hge hd1 hd2 l1 l2 l3 l4
  obtain ⟨ho,key,ri,fr,ti⟩:=x
  unfold vAv at hel
  simp only at hel hho hsn hge hd1 hd2 l1 l2 l3 l4
  simp only [← List.append_assoc] at hsn
  generalize qAj (qAw 4 key.toNat)=kb at hge hsn l1
  generalize qAj (qPg fr)=fb at hd1 hsn l2
  generalize qAj (qPg ti)=tb at hd2 hsn l3
  generalize hhb:qAj ho=hb at hsn l4
  generalize qAj (trN l day i)=pre at hsn hpl ⊢
  refine wwn ?_
  refine wwi hel ?_
  refine wwn ?_
  refine wwc hge ?_
  refine wwn ?_
  refine qAa rfl (fun c4=>?_) (fun c4=>?_)
  ·exact absurd c4 (by simp)
  refine wwn ?_
  refine qBh (fun i=>bif Nat.beq i 2||Nat.beq i 8 then [2] else bif Nat.beq i 6||Nat.beq i 9||Nat.beq i 11 then [0] else []) (fun i=>bif Nat.beq i 6||Nat.beq i 9||Nat.beq i 11 then [0] else []) mixed (by kernel_rfl) ?_
  refine wwg ?_
  refine qAk (os:=[]) (fun k hk1 hk2=>buildSl_ok hT rfl rfl) rfl ?_
  refine qAk (v:=.sl 1 (pre++[[Dat.int .u8 (IntKind.u8.wrap (ho.length:Int))]]) (.right 0)) (os:=[.right 1 (pre++[[Dat.int .u8 (IntKind.u8.wrap (ho.length:Int))]]).length]) (fun k hk1 hk2=>qAh (i:=0) (es2:=[[Dat.int .u8 (IntKind.u8.wrap (ho.length:Int))]]) hT rfl rfl rfl rfl ((hk2 0 List.mem_cons_self).trans rfl) rfl (by show ((pre).length+([[Dat.int .u8 (IntKind.u8.wrap (ho.length:Int))]]).length)*(1+1)≤_;simp only [List.length_append,List.length_cons,List.length_nil];omega)) rfl ?_
  refine wwg ?_
  refine qAk (v:=.sl 1 ((pre++[[Dat.int .u8 (IntKind.u8.wrap (ho.length:Int))]])++hb) (.right 0)) (os:=[.right 1 ((pre++[[Dat.int .u8 (IntKind.u8.wrap (ho.length:Int))]])++hb).length]) (fun k hk1 hk2=>qAh (i:=0) (es2:=hb) hT rfl rfl rfl rfl ((hk2 0 List.mem_cons_self).trans rfl) (by rw [← hhb];rfl) (by show (((pre++[[Dat.int .u8 (IntKind.u8.wrap (ho.length:Int))]])).length+(hb).length)*(1+1)≤_;simp only [List.length_append,List.length_cons,List.length_nil];omega)) rfl ?_
  refine wwg ?_
  refine qAk (v:=.sl 1 (((pre++[[Dat.int .u8 (IntKind.u8.wrap (ho.length:Int))]])++hb)++kb) (.right 0)) (os:=[.right 1 (((pre++[[Dat.int .u8 (IntKind.u8.wrap (ho.length:Int))]])++hb)++kb).length]) (fun k hk1 hk2=>qAh (i:=0) (es2:=kb) hT rfl rfl rfl rfl ((hk2 0 List.mem_cons_self).trans rfl) rfl (by show ((((pre++[[Dat.int .u8 (IntKind.u8.wrap (ho.length:Int))]])++hb)).length+(kb).length)*(1+1)≤_;simp only [List.length_append,List.length_cons,List.length_nil];omega)) rfl ?_
  refine wwg ?_
  refine wwn ?_
  refine qAd (qAh (i:=0) (es2:=[[Dat.int .u8 (IntKind.u8.wrap (Int.fdiv ri (2 ^ (min (8:Int).toNat IntKind.i64.bits))))],[Dat.int .u8 (IntKind.u8.wrap ri)]]) hT rfl rfl rfl rfl rfl rfl (by show ((((pre++[[Dat.int .u8 (IntKind.u8.wrap (ho.length:Int))]])++hb)++kb).length+2)*(1+1)≤_;simp only [List.length_append,List.length_cons,List.length_nil];omega)) rfl ?_
  refine wwn ?_
  refine qBh (fun i=>bif Nat.beq i 2||Nat.beq i 6 then [2] else bif Nat.beq i 4||Nat.beq i 8 then [0] else []) (fun i=>bif Nat.beq i 4||Nat.beq i 8 then [0] else []) mixed (by kernel_rfl) ?_
  refine wwg ?_
  refine wwdc hd1 ?_
  refine qAk (v:=.sl 1 (((((pre++[[Dat.int .u8 (IntKind.u8.wrap (ho.length:Int))]])++hb)++kb)++[[Dat.int .u8 (IntKind.u8.wrap (Int.fdiv ri (2 ^ (min (8:Int).toNat IntKind.i64.bits))))],[Dat.int .u8 (IntKind.u8.wrap ri)]])++fb) (.right 0)) (os:=[.right 1 (((((pre++[[Dat.int .u8 (IntKind.u8.wrap (ho.length:Int))]])++hb)++kb)++[[Dat.int .u8 (IntKind.u8.wrap (Int.fdiv ri (2 ^ (min (8:Int).toNat IntKind.i64.bits))))],[Dat.int .u8 (IntKind.u8.wrap ri)]])++fb).length]) (fun k hk1 hk2=>qAh (i:=0) (es2:=fb) hT rfl rfl rfl rfl ((hk2 0 List.mem_cons_self).trans rfl) rfl (by show ((((((pre++[[Dat.int .u8 (IntKind.u8.wrap (ho.length:Int))]])++hb)++kb)++[[Dat.int .u8 (IntKind.u8.wrap (Int.fdiv ri (2 ^ (min (8:Int).toNat IntKind.i64.bits))))],[Dat.int .u8 (IntKind.u8.wrap ri)]])).length+(fb).length)*(1+1)≤_;simp only [List.length_append,List.length_cons,List.length_nil];omega)) rfl ?_
  refine wwg ?_
  refine wwdc hd2 ?_
  refine qAk (v:=.sl 1 ((((((pre++[[Dat.int .u8 (IntKind.u8.wrap (ho.length:Int))]])++hb)++kb)++[[Dat.int .u8 (IntKind.u8.wrap (Int.fdiv ri (2 ^ (min (8:Int).toNat IntKind.i64.bits))))],[Dat.int .u8 (IntKind.u8.wrap ri)]])++fb)++tb) (.right 0)) (os:=[.right 1 ((((((pre++[[Dat.int .u8 (IntKind.u8.wrap (ho.length:Int))]])++hb)++kb)++[[Dat.int .u8 (IntKind.u8.wrap (Int.fdiv ri (2 ^ (min (8:Int).toNat IntKind.i64.bits))))],[Dat.int .u8 (IntKind.u8.wrap ri)]])++fb)++tb).length]) (fun k hk1 hk2=>qAh (i:=0) (es2:=tb) hT rfl rfl rfl rfl ((hk2 0 List.mem_cons_self).trans rfl) rfl (by show (((((((pre++[[Dat.int .u8 (IntKind.u8.wrap (ho.length:Int))]])++hb)++kb)++[[Dat.int .u8 (IntKind.u8.wrap (Int.fdiv ri (2 ^ (min (8:Int).toNat IntKind.i64.bits))))],[Dat.int .u8 (IntKind.u8.wrap ri)]])++fb)).length+(tb).length)*(1+1)≤_;simp only [List.length_append,List.length_cons,List.length_nil];omega)) rfl ?_
  refine wwg ?_
  rw [← hsn]
  refine wwn ?_
  exact ⟨i+1,[_],c3',by omega,⟨.refl _,.refl _,.refl _,.refl _,.int hwr,trivial⟩,HLe.refl _,Env.below_mono hE (by simp),rfl,rfl⟩
 ·have c3':i=l.length:=by simp at c3;omega
  subst c3'
  refine wwn ?_
  refine rq ⟨rfl,rfl⟩ rfl (AV.le.tup ⟨AV.le.dat,.refl _,trivial⟩)
theorem qUf (k:Int):Spec Tryz.prog 193 [.I k] [] (fun r h'=>r=.d (.bool (qRi k))∧h'=[]):=by
 have h:qRi k=(decide (k≥0)&&decide (k < 1073741789)):=by unfold qRi;rw [Bool.eq_iff_iff];simp
 rw [h]
 refine qAb hT Tryz.func193 rfl rfl rfl rfl ?_;intro E hE
 refine ww ?_
 exact wwr
theorem validP_spec (p:Per) (hp:PerLen p) (hn:∀ t,t∈p.tps→t.holder.length≤1000000):Spec Tryz.prog 107 [qRe p] [] (fun r h'=>r=.I (qTb p)∧h'=[]):=by
 have h1:=validFs_spec p.root p.apps (by have:=hp.root.1;omega) (by have:=hp.apps.1;omega) (fun a ha=>by have:=(hp.apps.2.1 a ha).1;omega)
 have h2:=qOm p.infos hp.infos
 have h3:=qUf p.ck
 have h4:=qUf p.ak
 have h5:=validTr_spec p.tps p.tday hp.tps hn
 have l1:=encB_length p.number
 have l2:=encB_length p.pin
 have l3:=encB_length p.puk
 have l4:=encB_length p.ident
 have l5:=encB_length p.seed
 unfold qTb
 clear hp hn
 generalize qJr p.root p.apps=e1 at h1 ⊢
 generalize validI p.infos=e2 at h2 ⊢
 generalize qRi p.ck=e3 at h3 ⊢
 generalize qRi p.ak=e4 at h4 ⊢
 generalize qDw p.tps p.tday=e5 at h5 ⊢
 obtain ⟨root,apps,zone,number,pin,puk,pr,ur,basic,infos,ck,ak,tps,tday,ident,seed⟩:=p
 simp only at *
 refine qAb hT Tryz.func107 rfl rfl rfl rfl ?_;intro E hE
 refine ww ?_
 refine wwc h1 ?_
 refine ww ?_
 refine qAa rfl (fun c1=>?_) (fun c1=>?_)
 ·rw [if_pos (by simpa using c1)]
  refine ww ?_
  exact wwr
 rw [if_neg (by simpa using c1)]
 refine ww ?_
 refine qAa rfl (fun c2=>?_) (fun c2=>?_)
 ·rw [l1,l2,l3] at c2
  rw [if_pos (by simp at c2;omega)]
  refine ww ?_
  exact wwr
 rw [l1,l2,l3] at c2
 rw [if_neg (by simp at c2;omega)]
 refine ww ?_
 refine qAq (ι:=Nat) (fun i=>[(1,.ptr 0 0),(40,.agg [.I pr,.I ur]),(41,.I (i:Int))]) (fun _=>[.row (qKo ⟨root,apps,zone,number,pin,puk,pr,ur,basic,infos,ck,ak,tps,tday,ident,seed⟩)])
  (fun i=>i≤2∧(1≤i→1≤pr∧pr≤15)∧(2≤i→1≤ur∧ur≤15)) (fun i=>2-i) 0 ⟨by omega,fun h=>by omega,fun h=>by omega⟩ yf (HLe.refl _) ?_
 rintro i ⟨hi,g1,g2⟩
 rcases (by omega:i=0∨i=1∨i=2) with rfl | rfl | rfl
 ·refine ww ?_
  refine qAa rfl (fun q=>?_) (fun q=>absurd q (by decide))
  refine ww ?_
  refine qAd (qAc (arrIdx_ok hT rfl rfl rfl rfl ⟨by decide,by decide⟩ rfl)) rfl ?_
  refine ww ?_
  refine qAa rfl (fun c3=>?_) (fun c3=>?_)
  ·rw [if_pos (by simp at c3;omega)]
   refine ww ?_
   exact wwr
  refine ww ?_
  exact ⟨1,⟨by omega,fun _=>by simp at c3;omega,fun h=>by omega⟩,by omega,yf,HLe.refl _⟩
 ·refine ww ?_
  refine qAa rfl (fun q=>?_) (fun q=>absurd q (by decide))
  refine ww ?_
  refine qAd (qAc (arrIdx_ok hT rfl rfl rfl rfl ⟨by decide,by decide⟩ rfl)) rfl ?_
  refine ww ?_
  refine qAa rfl (fun c3=>?_) (fun c3=>?_)
  ·rw [if_pos (by simp at c3;omega)]
   refine ww ?_
   exact wwr
  refine ww ?_
  exact ⟨2,⟨by omega,fun _=>g1 (by omega),fun _=>by simp at c3;omega⟩,by omega,yf,HLe.refl _⟩
 ·have g1:=g1 (by omega)
  have g2:=g2 (by omega)
  rw [if_neg (by omega)]
  refine ww ?_
  refine qAa rfl (fun q=>absurd q (by decide)) (fun q=>?_)
  refine ww ?_
  refine wwc h2 ?_
  refine ww ?_
  refine qAa rfl (fun c4=>?_) (fun c4=>?_)
  ·rw [if_pos (by simpa using c4)]
   refine ww ?_
   exact wwr
  rw [if_neg (by simpa using c4)]
  refine ww ?_
  refine wwc h3 ?_
  refine ww ?_
  refine wwgc h4 ?_
  refine ww ?_
  refine qAa rfl (fun c5=>?_) (fun c5=>?_)
  ·rw [if_pos (by simpa using c5)]
   refine ww ?_
   exact wwr
  rw [if_neg (by simpa using c5)]
  refine ww ?_
  refine wwc h5 ?_
  refine ww ?_
  refine qAa rfl (fun c6=>?_) (fun c6=>?_)
  ·rw [if_pos (by simpa using c6)]
   refine ww ?_
   exact wwr
  rw [if_neg (by simpa using c6)]
  refine ww ?_
  refine qAa rfl (fun c7=>?_) (fun c7=>?_)
  ·rw [l4,l5] at c7
   rw [if_pos (by simp at c7;omega)]
   refine ww ?_
   exact wwr
  rw [l4,l5] at c7
  rw [if_neg (by simp at c7;omega)]
  refine ww ?_
  exact wwr
theorem encRec_spec (pr ur:Int) (pin:List UInt8) (l:List Tp) (day:Int) (hpin:pin.length≤1000000) (hl:l.length≤1000000) (hs:∀ p,p∈l→p.holder.length≤1000000) :
  Spec Tryz.prog 108 [.agg [.I pr,.I ur,.d (.sl 1 (qAj pin)),.d (.sl 5 (qCm l)),.I day]] [] (fun r h'=>r=.tup [.d (.sl 1 (qAj (vGo pr ur pin l day).1)),.d (.int .i64 (vGo pr ur pin l day).2)]∧h'=[]):=by
 have h1:=trEnc_spec l day hl hs
 have hpl:=encB_length pin
 have htl:(qMk l day).1.length≤1000:=by
  unfold qMk
  by_cases h0:qDw l day=0
  ·rw [if_neg (by simpa using h0)]
   obtain ⟨hlen,hpts⟩:=validTr_ok h0
   have:=trN_len (l:=l) day (fun p hp=>qNe (pointE_ok (hpts p hp)).1) l.length (Nat.le_refl _)
   have htf:qKk l day=trN l day l.length:=by unfold qKk trN;rw [List.take_length]
   show (qKk l day).length≤1000
   rw [htf];omega
  ·rw [if_pos (by simpa using h0)];simp
 unfold vGo
 generalize qMk l day=R at h1 htl ⊢
 obtain ⟨R1,R2⟩:=R
 simp only at h1 htl ⊢
 refine qAb hT Tryz.func108 rfl rfl rfl rfl ?_;intro E hE
 refine ww ?_
 refine qAq (ι:=Nat) (fun i=>[(1,.ptr 0 0),(12,.agg [.I pr,.I ur]),(13,.I (i:Int))]) (fun _=>[.row [.I pr,.I ur,.d (.sl 1 (qAj pin)),.d (.sl 5 (qCm l)),.I day]])
  (fun i=>i≤2∧(1≤i→0≤pr∧pr≤15)∧(2≤i→0≤ur∧ur≤15)) (fun i=>2-i) 0 ⟨by omega,fun h=>by omega,fun h=>by omega⟩ yf (HLe.refl _) ?_
 rintro i ⟨hi,g1,g2⟩
 rcases (by omega:i=0∨i=1∨i=2) with rfl | rfl | rfl
 ·refine ww ?_
  refine qAa rfl (fun q=>?_) (fun q=>absurd q (by decide))
  refine ww ?_
  refine qAd (qAc (arrIdx_ok hT rfl rfl rfl rfl ⟨by decide,by decide⟩ rfl)) rfl ?_
  refine ww ?_
  refine qAa rfl (fun c3=>?_) (fun c3=>?_)
  ·rw [if_pos (by simp at c3;omega)]
   refine ww ?_
   exact wwr
  refine ww ?_
  exact ⟨1,⟨by omega,fun _=>by simp at c3;omega,fun h=>by omega⟩,by omega,yf,HLe.refl _⟩
 ·refine ww ?_
  refine qAa rfl (fun q=>?_) (fun q=>absurd q (by decide))
  refine ww ?_
  refine qAd (qAc (arrIdx_ok hT rfl rfl rfl rfl ⟨by decide,by decide⟩ rfl)) rfl ?_
  refine ww ?_
  refine qAa rfl (fun c3=>?_) (fun c3=>?_)
  ·rw [if_pos (by simp at c3;omega)]
   refine ww ?_
   exact wwr
  refine ww ?_
  exact ⟨2,⟨by omega,fun _=>g1 (by omega),fun _=>by simp at c3;omega⟩,by omega,yf,HLe.refl _⟩
 ·have g1:=g1 (by omega)
  have g2:=g2 (by omega)
  rw [if_neg (by omega)]
  refine ww ?_
  refine qAa rfl (fun q=>absurd q (by decide)) (fun q=>?_)
  refine ww ?_
  refine qAa rfl (fun c4=>?_) (fun c4=>?_)
  ·rw [hpl] at c4
   rw [if_pos (by simp at c4;omega)]
   refine ww ?_
   exact wwr
  rw [hpl] at c4
  have c4':pin.length≤16:=by simp at c4;omega
  rw [if_neg (by omega)]
  refine ww ?_
  refine wwc h1 ?_
  refine ww ?_
  refine qAa rfl (fun c5=>?_) (fun c5=>?_)
  ·rw [if_pos (by simpa using c5)]
   refine ww ?_
   exact wwr
  rw [if_neg (by simpa using c5)]
  have hC:=qKi [[bOf pr,bOf ur,bOf pin.length],pin,R1] (by simp) (by simp) (by simp;omega)
  have hb:qJy [[bOf pr,bOf ur,bOf pin.length],pin,R1]=[[.sl 1 [[.int .u8 (IntKind.u8.wrap pr)],[.int .u8 (IntKind.u8.wrap ur)],[.int .u8 (IntKind.u8.wrap (pin.length:Int))]]],[.sl 1 (qAj pin)],[.sl 1 (qAj R1)]]:=by
   rw [bOf_wrap,bOf_wrap,bOf_wrap];rfl
  have hf:[[bOf pr,bOf ur,bOf pin.length],pin,R1].flatten=[bOf pr,bOf ur,bOf pin.length]++pin++R1:=by simp
  rw [hb,hf] at hC
  generalize [bOf pr,bOf ur,bOf pin.length]++pin++R1=out at hC ⊢
  refine ww ?_
  rw [hpl]
  refine ww ?_
  refine wwc hC ?_
  refine ww ?_
  exact wwr
theorem vAp (n:Nat) (r:List UInt8) (hn:n < 281474976710656) (hr:r.length≤256):Spec Tryz.prog 197 [.I (n:Int),.d (.sl 1 (qAj r))] [] (fun v h'=>v=.d (.sl 1 (qAj (qQc n r)))∧h'=[]):=by
 have o1:=qDn n 6 (by omega) (by omega)
 have o2:=qDn r.length 2 (by omega) (by omega)
 have la:=octB_length 6 n
 have lb:=octB_length 2 r.length
 have hrl:=encB_length r
 unfold qQc
 generalize qAw 6 n=a at o1 la ⊢
 generalize qAw 2 r.length=b at o2 lb ⊢
 obtain ⟨K,hK⟩:∃ K:Nat,K=264:=⟨_,rfl⟩
 have hz:List.replicate 265 (AV.d (.int .u8 0))=qAn (0::List.replicate K 0):=by
  rw [show (265:Nat)=K+1 by omega,List.replicate_succ]
  simp [qAn]
 have f1:=setRun_fill [1] a (k:=K) (by omega)
 have f2:=setRun_fill ([1]++a) b (k:=K-a.length) (by omega)
 have f3:=setRun_fill ([1]++a++b) r (k:=K-a.length-b.length) (by omega)
 rw [show (([1]++a:List UInt8)).length*1=7 by simp;omega] at f2
 rw [show (([1]++a++b:List UInt8)).length*1=9 by simp;omega] at f3
 rw [show (([1]:List UInt8)).length*1=1 from rfl] at f1
 have ta:(qAj a).take 264=qAj a:=List.take_of_length_le (by rw [encB_length];omega)
 have tb:(qAj b).take 258=qAj b:=List.take_of_length_le (by rw [encB_length];omega)
 have tr:(qAj r).take 256=qAj r:=List.take_of_length_le (by rw [encB_length];omega)
 have hal:=encB_length a
 have hbl:=encB_length b
 have hfin:1::(a++b++r++List.replicate (256-r.length) 0)=[1]++a++b++r++List.replicate (K-a.length-b.length-r.length) (0:UInt8):=by
  rw [show K-a.length-b.length-r.length=256-r.length by omega];simp
 rw [hfin]
 refine qAb hT Tryz.func197 rfl rfl rfl rfl ?_;intro E hE
 refine qAl (qAf ?_)
 refine wws ?_
 refine qAl (qAf ?_)
 refine qAd (makeRow1_ok (n:=265) (z:=.d (.int .u8 0)) hT rfl rfl rfl rfl (by decide) (by decide)) rfl ?_
 rw [hz]
 refine wws ?_
 refine qAl (qAf ?_)
 refine wws ?_
 refine qAd (qAc (rowAddr_ok (sz:=1) hT rfl rfl rfl rfl ⟨by decide,by decide⟩)) rfl ?_
 refine qDp (qEw (i:=0) (off:=0) hT rfl rfl rfl rfl rfl rfl (by rw [byteAV_length];simp)) (forceS_eq _ _) ?_
 refine wws ?_
 refine qAp (l:=[(0,.I (n:Int)),(1,.d (.sl 1 (qAj r))),(5,.row 0 0 265 265)]) (h':=[.row (qAn ([1]++List.replicate K 0))]) yf (HLe.refl _) ?_
 refine qAl (qAf ?_)
 refine wws ?_
 refine wwc o1 ?_
 refine wws ?_
 refine qAl (qAf ?_)
 refine wws ?_
 refine qAd (qAc (rowCut_ok (sz:=1) (l:=1) (r:=265) hT rfl rfl rfl ⟨_,rfl⟩ rfl (by omega) (by omega))) rfl ?_
 refine wws ?_
 refine qAd (copyDat_ok (i:=0) (off:=1) (n:=264) hT rfl rfl rfl rfl rfl (by rw [byteAV_length];simp;omega)) rfl ?_
 rw [ta,f1]
 refine qDq ?_
 refine qAp (l:=[(0,.I (n:Int)),(1,.d (.sl 1 (qAj r))),(5,.row 0 0 265 265)]) (h':=[.row (qAn ([1]++a++List.replicate (K-a.length) 0))]) yf (HLe.refl _) ?_
 refine qAl (qAf ?_)
 refine wws ?_
 rw [hrl]
 refine wwc o2 ?_
 refine wws ?_
 refine qAl (qAf ?_)
 refine wws ?_
 refine qAd (qAc (rowCut_ok (sz:=1) (l:=7) (r:=265) hT rfl rfl rfl ⟨_,rfl⟩ rfl (by omega) (by omega))) rfl ?_
 refine wws ?_
 refine qAd (copyDat_ok (i:=0) (off:=7) (n:=258) hT rfl rfl rfl rfl rfl (by rw [byteAV_length];simp;omega)) rfl ?_
 rw [tb,f2]
 refine qDq ?_
 refine qAp (l:=[(0,.I (n:Int)),(1,.d (.sl 1 (qAj r))),(5,.row 0 0 265 265)]) (h':=[.row (qAn ([1]++a++b++List.replicate (K-a.length-b.length) 0))]) yf (HLe.refl _) ?_
 refine qAl (qAf ?_)
 refine wws ?_
 refine qAd (qAc (rowCut_ok (sz:=1) (l:=9) (r:=265) hT rfl rfl rfl ⟨_,rfl⟩ rfl (by omega) (by omega))) rfl ?_
 refine wws ?_
 refine qAd (copyDat_ok (i:=0) (off:=9) (n:=256) hT rfl rfl rfl rfl rfl (by rw [byteAV_length];simp;omega)) rfl ?_
 rw [tr,f3]
 refine qDq ?_
 have htl:([1]++a++b++r++List.replicate (K-a.length-b.length-r.length) (0:UInt8)).length=265:=by simp;omega
 generalize [1]++a++b++r++List.replicate (K-a.length-b.length-r.length) (0:UInt8)=tot at htl ⊢
 refine qAp (l:=[(5,.row 0 0 265 265)]) (h':=[.row (qAn tot)]) yf (HLe.refl _) ?_
 refine qKz 5 0 1 (qAj tot) rfl rfl (by rw [encB_length,htl]) (by omega) (qFe tot) ?_
 refine ww ?_
 exact wwr
theorem vMu (k:Nat):List.replicate k [Dat.int .u8 0]=qAj (List.replicate k 0):=by unfold qAj;rw [List.map_replicate];rfl
theorem vAw (r:List UInt8) (hr:r.length≤1000000):Spec Tryz.prog 109 [.d (.sl 1 (qAj r))] [] (fun v h'=>v=(if r.length > 256 then .tup [.agg [.d (.sl 1 []),.d (.sl 1 [])],.I 2] else .tup [.agg [.d (.sl 1 (qAj (qQc 0 r))),.d (.sl 1 (qAj (List.replicate 265 0)))],.I 0])∧h'=[]):=by
 have hrl:=encB_length r
 have hi:=vAp 0 r (by omega)
 by_cases h0:r.length > 256
 ·rw [if_pos h0]
  clear hi
  refine qAb hT Tryz.func109 rfl rfl rfl rfl ?_;intro E hE
  refine ww ?_
  refine qAa rfl (fun c1=>?_) (fun c1=>?_)
  ·refine ww ?_
   exact wwr
  ·rw [hrl] at c1
   simp at c1
   omega
 ·rw [if_neg h0]
  have hi:=hi (by omega)
  generalize qAj (qQc 0 r)=im at hi ⊢
  refine qAb hT Tryz.func109 rfl rfl rfl rfl ?_;intro E hE
  refine wwn ?_
  refine qAa rfl (fun c1=>?_) (fun c1=>?_)
  ·rw [hrl] at c1
   simp at c1
   omega
  refine wwn ?_
  refine qBh (fun i=>bif Nat.beq i 5 then [0] else []) (fun i=>bif Nat.beq i 5 then [0] else []) mixed (by kernel_rfl) ?_
  refine wwg ?_
  refine wwdc hi ?_
  refine wwg ?_
  refine qAk (os:=[]) (fun k hk1 hk2=>makeDat_ok (n:=265) (z:=.int .u8 0) hT rfl rfl rfl rfl (by decide) (by decide)) rfl ?_
  rw [vMu]
  generalize qAj (List.replicate 265 0)=ze
  refine wwg ?_
  refine ww ?_
  exact wwr
def vKi:List AV:=[.d (.bool false),.d (.int .i64 0),.d (.int .i64 0),.d (.int .i64 0),.d (.bool false),.d (.bool false),.d (.bool false),.d (.int .i64 0),.d (.bool false),.sl 1 [] .full,.sl 1 [] .full,.d (.int .i64 0),.d (.int .i64 0),.d (.int .i64 0),.d (.int .i64 0),.sl 1 [] .full,.d (.int .i64 0),.d (.int .i64 0),.sl 1 [] .full,.d (.int .i64 0),.d (.int .i64 0),.d (.int .i64 0),.d (.int .i64 0),.sl 1 [] .full,.sl 1 [] .full,.d (.int .i64 0),.sl 1 [] .full,.d (.str []),.d (.int .i64 0),.d (.int .i64 0),.d (.int .i64 0),.d (.int .i64 0),.d (.int .i64 0),.sl 1 [] .full,.d (.bool false),.d (.int .i64 0),.d (.int .i64 0),.d (.int .i64 0),.d (.int .i64 0),.sl 1 [] .full,.d (.int .i64 0)]
def chC (p:Per) (m0 m1:List (List Dat)):List AV:=qKo p++[.d (.sl 1 m0),.d (.sl 1 m1),.d (.sl 1 (qAj p.seed))]++vKi
abbrev tiC:TI:=⟨.struct [(0,16,true),(16,2,true),(18,1,false),(19,1,false),(20,2,true),(22,5,true),(27,1,false),(28,3,true),(31,1,false),(32,1,false),(33,12,true),(45,1,false),(46,6,true),(52,1,false),(53,1,false),(54,6,true)],60,816,vLd++[.sl 1 [] .full,.sl 1 [] .full,.sl 1 [] .full]++vKi⟩
theorem tiC_find:T.find 69=some tiC:=rfl
theorem L60 {C:List AV} (h:C.length=60):qMg T 69 C 0=some (.agg C):=loadA_agg tiC_find rfl (by rw [h];exact Nat.le_refl _) (List.take_of_length_le (by rw [List.length_drop,h];exact Nat.le_refl _))
theorem S60 {C D:List AV} (h1:D.length=60) (h2:C.length=60):qHs T 69 D 0 (.agg C)=some C:=storeA_agg tiC_find h2 (by rw [h1];exact Nat.le_refl _) (setRun_full (by rw [h1,h2]))
theorem recF_len {pr ur:Int} {pin:List UInt8} {l:List Tp} {day:Int}:(vGo pr ur pin l day).1.length≤100:=by
 unfold vGo
 split
 ·simp
 split
 ·simp
 split
 ·simp
 rename_i h1 h2 h3
 have hv:qDw l day=0:=by
  unfold qMk at h3
  by_cases h0:qDw l day=0
  ·exact h0
  ·rw [if_pos (by simpa using h0)] at h3;exact absurd (by simpa using h3) h0
 obtain ⟨hlen,hpts⟩:=validTr_ok hv
 have hl:=trN_len (l:=l) day (fun p hp=>qNe (pointE_ok (hpts p hp)).1) l.length (Nat.le_refl _)
 have htf:qKk l day=trN l day l.length:=by unfold qKk trN;rw [List.take_length]
 have he:(qMk l day).1=qKk l day:=by unfold qMk;rw [if_neg (by simpa using hv)]
 rw [he,htf]
 simp only [List.length_append,List.length_cons,List.length_nil]
 omega
theorem vKj (p:Per) (m0 m1:List (List Dat)):qUj T 69 [(0,qRe p),(1,.agg [.d (.sl 1 m0),.d (.sl 1 m1)]),(2,.d (.sl 1 (qAj p.seed)))]=some (.agg (chC p m0 m1)):=by
 kernel_rfl
def mem0 (p:Per):List UInt8:=qQc 0 (vGo p.pr p.ur p.pin p.tps p.tday).1
theorem newChip_spec (p:Per) (hp:PerLen p) (hn:∀ t,t∈p.tps→t.holder.length≤1000000) (hv:qTb p=0):Spec Tryz.prog 37 [qRe p] [] (fun r h'=>r=.tup [.agg (chC p (qAj (mem0 p)) (qAj (List.replicate 265 0))),.I 0]∧h'=[]):=by
 have h1:=validP_spec p hp hn
 rw [hv] at h1
 have h2:=encRec_spec p.pr p.ur p.pin p.tps p.tday hp.str.2.1 hp.tps hn
 have hrl:=recF_len (pr:=p.pr) (ur:=p.ur) (pin:=p.pin) (l:=p.tps) (day:=p.tday)
 have h3:=vAw (vGo p.pr p.ur p.pin p.tps p.tday).1 (by omega)
 rw [if_neg (by omega)] at h3
 have h4:=clonePer_spec p hp
 have h5:=qCe (qAj p.seed) (by rw [encB_length];exact hp.str.2.2.2.2)
 unfold mem0
 clear hp hn hv hrl
 generalize qQc 0 (vGo p.pr p.ur p.pin p.tps p.tday).1=im at h3 ⊢
 generalize vGo p.pr p.ur p.pin p.tps p.tday=R at h2 h3
 obtain ⟨R1,R2⟩:=R
 simp only at h2 h3
 generalize qAj (List.replicate 265 0)=ze at h3 ⊢
 generalize qAj im=im at h3 ⊢
 obtain ⟨root,apps,zone,number,pin,puk,pr,ur,basic,infos,ck,ak,tps,tday,ident,seed⟩:=p
 simp only at *
 refine qAb hT Tryz.func37 rfl rfl rfl rfl ?_;intro E hE
 refine qAo ?_
 refine qAl (qAf ?_)
 refine wk hT rfl rfl ?_
 refine qAd (allocAt_ok (i0:=0) (i:=tiC) hT rfl tiC_find rfl) rfl ?_
 refine wws ?_
 refine wwn ?_
 refine wwc h1 ?_
 refine wwn ?_
 refine qAa rfl (fun c1=>?_) (fun c1=>?_)
 ·exact absurd c1 (by simp)
 refine wwn ?_
 refine wwc h2 ?_
 refine wwn ?_
 refine wwc h3 ?_
 refine wwn ?_
 refine qAa rfl (fun c2=>?_) (fun c2=>?_)
 ·exact absurd c2 (by simp)
 refine wwn ?_
 refine qBh (fun i=>bif Nat.beq i 0||Nat.beq i 4 then [1] else bif Nat.beq i 2 then [2] else bif Nat.beq i 7 then [0] else []) (fun i=>bif Nat.beq i 7 then [0] else []) mixed (by kernel_rfl) ?_
 refine wwg ?_
 refine wwdc h4 ?_
 refine wwg ?_
 refine wwdc h5 ?_
 refine qAk (v:=.agg (chC ⟨root,apps,zone,number,pin,puk,pr,ur,basic,infos,ck,ak,tps,tday,ident,seed⟩ im ze)) (os:=[]) (fun k hk1 hk2=>qAc (qRz hT rfl (vKj ⟨root,apps,zone,number,pin,puk,pr,ur,basic,infos,ck,ak,tps,tday,ident,seed⟩ im ze))) rfl ?_
 refine qAk (v:=.any) (os:=[.row (chC ⟨root,apps,zone,number,pin,puk,pr,ur,basic,infos,ck,ak,tps,tday,ident,seed⟩ im ze)]) (fun k hk1 hk2=>qBq (i:=0) (off:=0) hT rfl rfl ((hk2 0 List.mem_cons_self).trans rfl) (S60 rfl rfl)) rfl ?_
 refine wwg ?_
 refine ww ?_
 exact wwr
def numM:List UInt8:=[76,48,48,48,48,65,66]
def peC (hr:Int) (x3 x4 x5 key inf root apps:Dat):List AV:=[.d root,.d apps,.d key,.sl 1 [] .full,.sl 1 [] .full,.sl 1 [] .full,.d (.int .i64 3),.d (.int .i64 10),.d (.bool true),.d inf,.d x4,.d x5,.d (.sl 5 (qDk hr)),.d (.int .i64 30000),.d (.sl 1 (qAj numM)),.d x3]
theorem vAg (hr:Int) (x1 x2 x3 x4 x5 li key inf sec root apps:Dat) (G1 G2 G3 G4 G5:List (List Dat)) (a:Aut) :
  Spec Tryz.prog 38 [.ptr 0 0] [.row (wE hr x1 x2 x3 x4 x5 (.d li) (.d key) (.d inf) (.d (.sl 1 [[.sl 1 G1],[.sl 1 G2],[.sl 1 G3],[.sl 1 G4],[.sl 1 G5]])) (.d sec) (.d root) (.d apps) (zDM.map .d)),.row (qAi a)]
   (fun r h'=>r=.agg (peC hr x3 x4 x5 key inf root apps)∧h'=[.row (wE hr x1 x2 x3 x4 x5 (.d li) (.d key) (.d inf) (.d (.sl 1 [[.sl 1 G1],[.sl 1 G2],[.sl 1 G3],[.sl 1 G4],[.sl 1 G5]])) (.d sec) (.d root) (.d apps) (zDM.map .d)),.row (qAi a)]):=by
 have hc:=cpTrust_spec (qDk hr) 30000 (by simp [qDk])
 have h4:=vJa 4 true (by decide)
 have h6:=vJa 6 true (by decide)
 refine qAb hT Tryz.func38 rfl rfl rfl rfl ?_;intro E hE
 refine qAo ?_
 refine wwn ?_
 refine qBh (fun i=>bif [3,7,12,16,21,27,32].contains i then [0] else bif Nat.beq i 34||Nat.beq i 35 then [2] else []) (fun i=>bif Nat.beq i 34||Nat.beq i 35 then [2] else []) mixed (by kernel_rfl) ?_
 refine wwg ?_
 refine wwdc hc ?_
 refine wwg ?_
 refine qAk (os:=[]) (fun k hk1 hk2=>strBytes_ok hT rfl rfl rfl) rfl ?_
 refine wwg ?_
 refine qAk (v:=.ptr 2 0) (os:=[.row vLd]) (fun k hk1 hk2=>allocAt_ok (i0:=2) (i:=⟨.struct [(0,2,true),(2,1,false),(3,1,false),(4,1,false),(5,1,false),(6,1,false),(7,1,false),(8,1,false),(9,1,false),(10,1,false),(11,1,false),(12,2,true),(14,1,false),(15,1,false)],16,280,vLd⟩) hT rfl rfl ((hk2 2 List.mem_cons_self).trans rfl)) rfl ?_
 refine wwg ?_
 refine qAp (l:=[(0,.ptr 0 0),(2,.ptr 3 0),(3,.ptr 2 0)]) (h':=[.row (wE hr x1 x2 x3 x4 x5 (.d li) (.d key) (.d inf) (.d (.sl 1 [[.sl 1 G1],[.sl 1 G2],[.sl 1 G3],[.sl 1 G4],[.sl 1 G5]])) (.d sec) (.d root) (.d apps) (zDM.map .d)),.row (qAi a),.row (peC hr x3 (.int .i64 0) (.int .i64 0) key inf root apps),.row vLd]) yf (HLe.refl _) ?_
 refine wwn ?_
 refine wwc h4 ?_
 refine wwn ?_
 refine qAa rfl (fun c1=>?_) (fun c1=>?_)
 case refine_2=>exact absurd c1 (by simp)
 refine wwn ?_
 refine wwc h6 ?_
 refine wwn ?_
 refine qAa rfl (fun c2=>?_) (fun c2=>?_)
 case refine_2=>exact absurd c2 (by simp)
 refine wwn ?_
 exact rx ⟨rfl,rfl⟩ (h4:=show (2:Nat)=2 from rfl)
end Tdoc
