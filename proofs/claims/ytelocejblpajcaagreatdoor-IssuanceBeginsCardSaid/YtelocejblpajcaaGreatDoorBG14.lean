/- Part 14 of the proof: the texts LG KO KS KP KT KV KU JN JO JP. -/
import Derived.Test.YtelocejblpajcaaGreatDoorBG13
set_option maxHeartbeats 8000000
set_option maxRecDepth 100000
set_option linter.unusedVariables false
set_option linter.unusedSimpArgs false
namespace Tdoc
open Go Go.Proofs
def nsK:Nat→List (List Dat)
 | 0=>[]
 | 1=>[[Dat.int .i64 1]]
 | 2=>[[Dat.int .i64 1],[Dat.int .i64 2]]
 | 3=>[[Dat.int .i64 1],[Dat.int .i64 2],[Dat.int .i64 3]]
 | 4=>[[Dat.int .i64 1],[Dat.int .i64 2],[Dat.int .i64 3],[Dat.int .i64 14]]
 | _=>[[Dat.int .i64 1],[Dat.int .i64 2],[Dat.int .i64 3],[Dat.int .i64 14],[Dat.int .i64 15]]
def flK (G1 G2 G3 G4 G5 CM SO:List (List Dat)):Nat→List (List Dat)
 | 0=>[]
 | 1=>[[Dat.int .i64 257,.int .i64 1,.sl 1 G1,.int .i64 1,.int .i64 0]]
 | 2=>[[Dat.int .i64 257,.int .i64 1,.sl 1 G1,.int .i64 1,.int .i64 0],[Dat.int .i64 258,.int .i64 2,.sl 1 G2,.int .i64 1,.int .i64 0]]
 | 3=>[[Dat.int .i64 257,.int .i64 1,.sl 1 G1,.int .i64 1,.int .i64 0],[Dat.int .i64 258,.int .i64 2,.sl 1 G2,.int .i64 1,.int .i64 0],[Dat.int .i64 259,.int .i64 3,.sl 1 G3,.int .i64 3,.int .i64 0]]
 | 4=>[[Dat.int .i64 257,.int .i64 1,.sl 1 G1,.int .i64 1,.int .i64 0],[Dat.int .i64 258,.int .i64 2,.sl 1 G2,.int .i64 1,.int .i64 0],[Dat.int .i64 259,.int .i64 3,.sl 1 G3,.int .i64 3,.int .i64 0],[Dat.int .i64 270,.int .i64 14,.sl 1 G4,.int .i64 1,.int .i64 0]]
 | 5=>[[Dat.int .i64 257,.int .i64 1,.sl 1 G1,.int .i64 1,.int .i64 0],[Dat.int .i64 258,.int .i64 2,.sl 1 G2,.int .i64 1,.int .i64 0],[Dat.int .i64 259,.int .i64 3,.sl 1 G3,.int .i64 3,.int .i64 0],[Dat.int .i64 270,.int .i64 14,.sl 1 G4,.int .i64 1,.int .i64 0],[Dat.int .i64 271,.int .i64 15,.sl 1 G5,.int .i64 1,.int .i64 0]]
 | 6=>[[Dat.int .i64 257,.int .i64 1,.sl 1 G1,.int .i64 1,.int .i64 0],[Dat.int .i64 258,.int .i64 2,.sl 1 G2,.int .i64 1,.int .i64 0],[Dat.int .i64 259,.int .i64 3,.sl 1 G3,.int .i64 3,.int .i64 0],[Dat.int .i64 270,.int .i64 14,.sl 1 G4,.int .i64 1,.int .i64 0],[Dat.int .i64 271,.int .i64 15,.sl 1 G5,.int .i64 1,.int .i64 0],[Dat.int .i64 286,.int .i64 30,.sl 1 CM,.int .i64 1,.int .i64 0]]
 | _=>[[Dat.int .i64 257,.int .i64 1,.sl 1 G1,.int .i64 1,.int .i64 0],[Dat.int .i64 258,.int .i64 2,.sl 1 G2,.int .i64 1,.int .i64 0],[Dat.int .i64 259,.int .i64 3,.sl 1 G3,.int .i64 3,.int .i64 0],[Dat.int .i64 270,.int .i64 14,.sl 1 G4,.int .i64 1,.int .i64 0],[Dat.int .i64 271,.int .i64 15,.sl 1 G5,.int .i64 1,.int .i64 0],[Dat.int .i64 286,.int .i64 30,.sl 1 CM,.int .i64 1,.int .i64 0],[Dat.int .i64 285,.int .i64 29,.sl 1 SO,.int .i64 1,.int .i64 0]]
theorem qVi (hr:Int) (x1 x2 x3 x4 x5 li key inf:Dat) (I2 G1 G2 G3 G4 G5 K1 K2 K3 K4 K5 AC CM SO:List (List Dat)) (a:Aut)
  (hOp:Spec Tryz.prog 102 [.ptr 0 0] [.row (wE hr x1 x2 x3 x4 x5 (.d li) (.d key) (.d inf) (.d (.sl 1 [[.sl 1 G1],[.sl 1 G2],[.sl 1 G3],[.sl 1 G4],[.sl 1 G5]])) (.d (.sl 1 SO)) (.sl 5 [] .full) (.sl 2 [] .full) (zDM.map .d)),.row (qAe a)] (fun r h'=>r=.d (.sl 5 I2)∧h'=[.row (wE hr x1 x2 x3 x4 x5 (.d li) (.d key) (.d inf) (.d (.sl 1 [[.sl 1 G1],[.sl 1 G2],[.sl 1 G3],[.sl 1 G4],[.sl 1 G5]])) (.d (.sl 1 SO)) (.sl 5 [] .full) (.sl 2 [] .full) (zDM.map .d)),.row (qAe a)]))
  (hEn:Spec Tryz.prog 101 [.d (.sl 5 I2)] [] (fun r h'=>r=.tup [.d (.sl 1 AC),.d (.int .i64 0)]∧h'=[]))
  (o1:Spec Tryz.prog 104 [.d (.sl 1 G1)] [] (fun r h'=>r=.tup [.d (.int .i64 1),.d (.sl 3 K1),.d (.int .i64 0)]∧h'=[]))
  (o2:Spec Tryz.prog 104 [.d (.sl 1 G2)] [] (fun r h'=>r=.tup [.d (.int .i64 2),.d (.sl 3 K2),.d (.int .i64 0)]∧h'=[]))
  (o3:Spec Tryz.prog 104 [.d (.sl 1 G3)] [] (fun r h'=>r=.tup [.d (.int .i64 3),.d (.sl 3 K3),.d (.int .i64 0)]∧h'=[]))
  (o4:Spec Tryz.prog 104 [.d (.sl 1 G4)] [] (fun r h'=>r=.tup [.d (.int .i64 14),.d (.sl 3 K4),.d (.int .i64 0)]∧h'=[]))
  (o5:Spec Tryz.prog 104 [.d (.sl 1 G5)] [] (fun r h'=>r=.tup [.d (.int .i64 15),.d (.sl 3 K5),.d (.int .i64 0)]∧h'=[]))
  (hC:Spec Tryz.prog 106 [.d (.sl 1 (nsK 5))] [] (fun r h'=>r=.tup [.d (.sl 1 CM),.d (.int .i64 0)]∧h'=[])) :
  Spec Tryz.prog 36 [.ptr 0 0] [.row (wE hr x1 x2 x3 x4 x5 (.d li) (.d key) (.d inf) (.d (.sl 1 [[.sl 1 G1],[.sl 1 G2],[.sl 1 G3],[.sl 1 G4],[.sl 1 G5]])) (.d (.sl 1 SO)) (.sl 5 [] .full) (.sl 2 [] .full) (zDM.map .d)),.row (qAe a)] (fun r h'=>r=.d (.int .i64 0)∧h'=[.row (wE hr x1 x2 x3 x4 x5 (.d li) (.d key) (.d inf) (.d (.sl 1 [[.sl 1 G1],[.sl 1 G2],[.sl 1 G3],[.sl 1 G4],[.sl 1 G5]])) (.d (.sl 1 SO)) (.d (.sl 5 [[.int .i64 284,.int .i64 28,.sl 1 AC,.int .i64 0,.int .i64 0]])) (.d (.sl 2 [[.sl 1 (qAl [160,0,0,2,71,16,1]),.sl 5 (flK G1 G2 G3 G4 G5 CM SO 7)]])) (zDM.map .d)),.row (qAe a)]):=by
 have hA:=vHb
 have f1:=qFn 1 (by omega)
 rw [show qHs 1=(257,1,0) by decide] at f1
 have f2:=qFn 2 (by omega)
 rw [show qHs 2=(258,2,0) by decide] at f2
 have f3:=qFn 3 (by omega)
 rw [show qHs 3=(259,3,0) by decide] at f3
 have f4:=qFn 14 (by omega)
 rw [show qHs 14=(270,14,0) by decide] at f4
 have f5:=qFn 15 (by omega)
 rw [show qHs 15=(271,15,0) by decide] at f5
 have f6:=qFn 17 (by omega)
 rw [show qHs 17=(286,30,0) by decide] at f6
 have f7:=qFn 18 (by omega)
 rw [show qHs 18=(285,29,0) by decide] at f7
 simp only at f1 f2 f3 f4 f5 f6 f7
 refine qAb hT Tryz.func36 rfl rfl rfl rfl ?_;intro E hE
 refine qAj (qAj ?_)
 refine qAk (qAg ?_)
 refine wws ?_
 refine qAk (qAg ?_)
 refine wws ?_
 refine qAd (qBx (v:=.d (.sl 5 I2)) (H':=[.row (wE hr x1 x2 x3 x4 x5 (.d li) (.d key) (.d inf) (.d (.sl 1 [[.sl 1 G1],[.sl 1 G2],[.sl 1 G3],[.sl 1 G4],[.sl 1 G5]])) (.d (.sl 1 SO)) (.sl 5 [] .full) (.sl 2 [] .full) (zDM.map .d)),.row (qAe a),.room,.room]) rfl rfl hOp [0,1] (by decide) rfl rfl rfl rfl rfl rfl) rfl ?_
 refine wwc hEn ?_
 refine wwn ?_
 refine qAa rfl (fun q=>absurd q (by decide)) (fun q=>?_)
 refine qAo (l:=[(0,.ptr 0 0),(3,.d (.sl 1 AC))]) (h':=[.row (wE hr x1 x2 x3 x4 x5 (.d li) (.d key) (.d inf) (.d (.sl 1 [[.sl 1 G1],[.sl 1 G2],[.sl 1 G3],[.sl 1 G4],[.sl 1 G5]])) (.d (.sl 1 SO)) (.sl 5 [] .full) (.sl 2 [] .full) (zDM.map .d)),.row (qAe a),.room,.room]) ⟨.refl _,.refl _,trivial⟩ (HLe.refl _) ?_
 refine wwe ?_
 refine qAk (qAg ?_)
 refine wwc hA ?_
 refine wws ?_
 refine qAk (qAg ?_)
 refine wws ?_
 refine qAz 6 1 2 (es:=[]) (.inr ⟨rfl,rfl⟩) rfl ?_
 refine qCe 4 1 3 5 (es:=[]) rfl rfl rfl ?_
 refine qAo (l:=[(0,.ptr 0 0),(3,.d (.sl 1 AC)),(5,.ptr 4 0),(6,.sl 1 (nsK 0) (.right 2))]) (h':=[.row (wE hr x1 x2 x3 x4 x5 (.d li) (.d key) (.d inf) (.d (.sl 1 [[.sl 1 G1],[.sl 1 G2],[.sl 1 G3],[.sl 1 G4],[.sl 1 G5]])) (.d (.sl 1 SO)) (.sl 5 [] .full) (.sl 2 [] .full) (zDM.map .d)),.row (qAe a),.right 1 0,.right 5 0,.row [.sl 1 (qAl [160,0,0,2,71,16,1]) .full,.sl 5 (flK G1 G2 G3 G4 G5 CM SO 0) (.right 3)]]) ⟨.refl _,.refl _,.refl _,.refl _,trivial⟩ (HLe.refl _) ?_
 refine wwn ?_
 refine qBt (ι:=Nat) (fun i=>[(0,.ptr 0 0),(3,.d (.sl 1 AC)),(5,.ptr 4 0),(6,.sl 1 (nsK i) (.right 2)),(35,.d (.sl 1 [[.sl 1 G1],[.sl 1 G2],[.sl 1 G3],[.sl 1 G4],[.sl 1 G5]])),(36,.d (.int .i64 5)),(37,.d (.int .i64 (i:Int)))]) (fun i=>[.row (wE hr x1 x2 x3 x4 x5 (.d li) (.d key) (.d inf) (.d (.sl 1 [[.sl 1 G1],[.sl 1 G2],[.sl 1 G3],[.sl 1 G4],[.sl 1 G5]])) (.d (.sl 1 SO)) (.sl 5 [] .full) (.sl 2 [] .full) (zDM.map .d)),.row (qAe a),.right 1 (nsK i).length,.right 5 (flK G1 G2 G3 G4 G5 CM SO i).length,.row [.sl 1 (qAl [160,0,0,2,71,16,1]) .full,.sl 5 (flK G1 G2 G3 G4 G5 CM SO i) (.right 3)]]) (fun i=>i≤5) (fun i=>5-i) 0 (by omega)
  ⟨.refl _,.refl _,.refl _,.refl _,.refl _,.refl _,.refl _,trivial⟩ (HLe.refl _) ?_
 intro i hi
 rcases (by omega:i=0∨i=1∨i=2∨i=3∨i=4∨i=5) with rfl | rfl | rfl | rfl | rfl | rfl
 ·refine wwn ?_
  refine qAa rfl (fun q=>?_) (fun q=>absurd q (by decide))
  refine wwn ?_
  refine qAd (qAc (indexAddr_ok hT rfl rfl rfl rfl (by show (0:Int)≤0;omega) rfl)) rfl ?_
  refine wwn ?_
  refine wwc o1 ?_
  refine wwn ?_
  refine qAa rfl (fun q=>absurd q (by decide)) (fun q=>?_)
  refine wwn ?_
  refine qAd (qAi (i:=2) (es2:=[[Dat.int .i64 1]]) hT rfl rfl rfl rfl rfl rfl (by show (0+1)*(8+1)≤140737488355328;omega)) rfl ?_
  refine wwn ?_
  refine wwc f1 ?_
  refine wwn ?_
  refine qAa rfl (fun q=>absurd q (by decide)) (fun q=>?_)
  refine wwn ?_
  refine qAa rfl (fun q=>absurd q (by decide)) (fun q=>?_)
  refine wwn ?_
  refine qAd (qAi (i:=3) (es2:=[[Dat.int .i64 257,.int .i64 1,.sl 1 G1,.int .i64 1,.int .i64 0]]) hT rfl rfl rfl rfl rfl rfl (by show (0+1)*(56+1)≤140737488355328;omega)) rfl ?_
  refine wwn ?_
  exact ⟨1,[_],by omega,by omega,⟨.refl _,.refl _,.refl _,.refl _,.refl _,.refl _,.refl _,trivial⟩,HLe.refl _,Env.below_mono hE (by simp),rfl,rfl⟩
 ·refine wwn ?_
  refine qAa rfl (fun q=>?_) (fun q=>absurd q (by decide))
  refine wwn ?_
  refine qAd (qAc (indexAddr_ok hT rfl rfl rfl rfl (by show (0:Int)≤1;omega) rfl)) rfl ?_
  refine wwn ?_
  refine wwc o2 ?_
  refine wwn ?_
  refine qAa rfl (fun q=>absurd q (by decide)) (fun q=>?_)
  refine wwn ?_
  refine qAd (qAi (i:=2) (es2:=[[Dat.int .i64 2]]) hT rfl rfl rfl rfl rfl rfl (by show (1+1)*(8+1)≤140737488355328;omega)) rfl ?_
  refine wwn ?_
  refine wwc f2 ?_
  refine wwn ?_
  refine qAa rfl (fun q=>absurd q (by decide)) (fun q=>?_)
  refine wwn ?_
  refine qAa rfl (fun q=>absurd q (by decide)) (fun q=>?_)
  refine wwn ?_
  refine qAd (qAi (i:=3) (es2:=[[Dat.int .i64 258,.int .i64 2,.sl 1 G2,.int .i64 1,.int .i64 0]]) hT rfl rfl rfl rfl rfl rfl (by show (1+1)*(56+1)≤140737488355328;omega)) rfl ?_
  refine wwn ?_
  exact ⟨2,[_],by omega,by omega,⟨.refl _,.refl _,.refl _,.refl _,.refl _,.refl _,.refl _,trivial⟩,HLe.refl _,Env.below_mono hE (by simp),rfl,rfl⟩
 ·refine wwn ?_
  refine qAa rfl (fun q=>?_) (fun q=>absurd q (by decide))
  refine wwn ?_
  refine qAd (qAc (indexAddr_ok hT rfl rfl rfl rfl (by show (0:Int)≤2;omega) rfl)) rfl ?_
  refine wwn ?_
  refine wwc o3 ?_
  refine wwn ?_
  refine qAa rfl (fun q=>absurd q (by decide)) (fun q=>?_)
  refine wwn ?_
  refine qAd (qAi (i:=2) (es2:=[[Dat.int .i64 3]]) hT rfl rfl rfl rfl rfl rfl (by show (2+1)*(8+1)≤140737488355328;omega)) rfl ?_
  refine wwn ?_
  refine wwc f3 ?_
  refine wwn ?_
  refine qAa rfl (fun q=>absurd q (by decide)) (fun q=>?_)
  refine wwn ?_
  refine qAa rfl (fun q=>?_) (fun q=>absurd q (by decide))
  refine wwn ?_
  refine qAd (qAi (i:=3) (es2:=[[Dat.int .i64 259,.int .i64 3,.sl 1 G3,.int .i64 3,.int .i64 0]]) hT rfl rfl rfl rfl rfl rfl (by show (2+1)*(56+1)≤140737488355328;omega)) rfl ?_
  refine wwn ?_
  exact ⟨3,[_],by omega,by omega,⟨.refl _,.refl _,.refl _,.refl _,.refl _,.refl _,.refl _,trivial⟩,HLe.refl _,Env.below_mono hE (by simp),rfl,rfl⟩
 ·refine wwn ?_
  refine qAa rfl (fun q=>?_) (fun q=>absurd q (by decide))
  refine wwn ?_
  refine qAd (qAc (indexAddr_ok hT rfl rfl rfl rfl (by show (0:Int)≤3;omega) rfl)) rfl ?_
  refine wwn ?_
  refine wwc o4 ?_
  refine wwn ?_
  refine qAa rfl (fun q=>absurd q (by decide)) (fun q=>?_)
  refine wwn ?_
  refine qAd (qAi (i:=2) (es2:=[[Dat.int .i64 14]]) hT rfl rfl rfl rfl rfl rfl (by show (3+1)*(8+1)≤140737488355328;omega)) rfl ?_
  refine wwn ?_
  refine wwc f4 ?_
  refine wwn ?_
  refine qAa rfl (fun q=>absurd q (by decide)) (fun q=>?_)
  refine wwn ?_
  refine qAa rfl (fun q=>absurd q (by decide)) (fun q=>?_)
  refine wwn ?_
  refine qAd (qAi (i:=3) (es2:=[[Dat.int .i64 270,.int .i64 14,.sl 1 G4,.int .i64 1,.int .i64 0]]) hT rfl rfl rfl rfl rfl rfl (by show (3+1)*(56+1)≤140737488355328;omega)) rfl ?_
  refine wwn ?_
  exact ⟨4,[_],by omega,by omega,⟨.refl _,.refl _,.refl _,.refl _,.refl _,.refl _,.refl _,trivial⟩,HLe.refl _,Env.below_mono hE (by simp),rfl,rfl⟩
 ·refine wwn ?_
  refine qAa rfl (fun q=>?_) (fun q=>absurd q (by decide))
  refine wwn ?_
  refine qAd (qAc (indexAddr_ok hT rfl rfl rfl rfl (by show (0:Int)≤4;omega) rfl)) rfl ?_
  refine wwn ?_
  refine wwc o5 ?_
  refine wwn ?_
  refine qAa rfl (fun q=>absurd q (by decide)) (fun q=>?_)
  refine wwn ?_
  refine qAd (qAi (i:=2) (es2:=[[Dat.int .i64 15]]) hT rfl rfl rfl rfl rfl rfl (by show (4+1)*(8+1)≤140737488355328;omega)) rfl ?_
  refine wwn ?_
  refine wwc f5 ?_
  refine wwn ?_
  refine qAa rfl (fun q=>absurd q (by decide)) (fun q=>?_)
  refine wwn ?_
  refine qAa rfl (fun q=>absurd q (by decide)) (fun q=>?_)
  refine wwn ?_
  refine qAd (qAi (i:=3) (es2:=[[Dat.int .i64 271,.int .i64 15,.sl 1 G5,.int .i64 1,.int .i64 0]]) hT rfl rfl rfl rfl rfl rfl (by show (4+1)*(56+1)≤140737488355328;omega)) rfl ?_
  refine wwn ?_
  exact ⟨5,[_],by omega,by omega,⟨.refl _,.refl _,.refl _,.refl _,.refl _,.refl _,.refl _,trivial⟩,HLe.refl _,Env.below_mono hE (by simp),rfl,rfl⟩
 ·refine wwn ?_
  refine qAa rfl (fun q=>absurd q (by decide)) (fun q=>?_)
  refine qAo (l:=[(0,.ptr 0 0),(3,.d (.sl 1 AC)),(5,.ptr 4 0),(6,.d (.sl 1 (nsK 5)))]) (h':=[.row (wE hr x1 x2 x3 x4 x5 (.d li) (.d key) (.d inf) (.d (.sl 1 [[.sl 1 G1],[.sl 1 G2],[.sl 1 G3],[.sl 1 G4],[.sl 1 G5]])) (.d (.sl 1 SO)) (.sl 5 [] .full) (.sl 2 [] .full) (zDM.map .d)),.row (qAe a),.dead,.right 5 5,.row [.sl 1 (qAl [160,0,0,2,71,16,1]) .full,.sl 5 (flK G1 G2 G3 G4 G5 CM SO 5) (.right 3)]]) ⟨.refl _,.refl _,.refl _,.dat,trivial⟩ ⟨ObLe.refl _,ObLe.refl _,trivial,ObLe.refl _,ObLe.refl _,trivial⟩ ?_
  refine wwn ?_
  refine wwc hC ?_
  refine wwn ?_
  refine qAa rfl (fun q=>absurd q (by decide)) (fun q=>?_)
  refine wwn ?_
  refine qAp (ι:=Nat) (fun i=>[(0,.ptr 0 0),(3,.d (.sl 1 AC)),(5,.ptr 4 0),(92,.d (.sl 1 [[.sl 1 CM],[.sl 1 SO]])),(93,.d (.int .i64 2)),(94,.d (.int .i64 (i:Int)))]) (fun i=>[.row (wE hr x1 x2 x3 x4 x5 (.d li) (.d key) (.d inf) (.d (.sl 1 [[.sl 1 G1],[.sl 1 G2],[.sl 1 G3],[.sl 1 G4],[.sl 1 G5]])) (.d (.sl 1 SO)) (.sl 5 [] .full) (.sl 2 [] .full) (zDM.map .d)),.row (qAe a),.dead,.right 5 (flK G1 G2 G3 G4 G5 CM SO (i+5)).length,.row [.sl 1 (qAl [160,0,0,2,71,16,1]) .full,.sl 5 (flK G1 G2 G3 G4 G5 CM SO (i+5)) (.right 3)]]) (fun i=>i≤2) (fun i=>2-i) 0 (by omega)
   ⟨.refl _,.refl _,.refl _,.dat,.refl _,.refl _,trivial⟩ (HLe.refl _) ?_
  intro i hi
  rcases (by omega:i=0∨i=1∨i=2) with rfl | rfl | rfl
  ·refine wwn ?_
   refine qAa rfl (fun q=>?_) (fun q=>absurd q (by decide))
   refine wwn ?_
   refine qAd (qAc (indexAddr_ok hT rfl rfl rfl rfl (by show (0:Int)≤0;omega) rfl)) rfl ?_
   refine wwn ?_
   refine wwc f6 ?_
   refine wwn ?_
   refine qAa rfl (fun q=>absurd q (by decide)) (fun q=>?_)
   refine wwn ?_
   refine qAd (qAi (i:=3) (es2:=[[Dat.int .i64 286,.int .i64 30,.sl 1 CM,.int .i64 1,.int .i64 0]]) hT rfl rfl rfl rfl rfl rfl (by show (5+1)*(56+1)≤140737488355328;omega)) rfl ?_
   refine wwn ?_
   exact ⟨1,by omega,by omega,⟨.refl _,.refl _,.refl _,.refl _,.refl _,.refl _,trivial⟩,HLe.refl _⟩
  ·refine wwn ?_
   refine qAa rfl (fun q=>?_) (fun q=>absurd q (by decide))
   refine wwn ?_
   refine qAd (qAc (indexAddr_ok hT rfl rfl rfl rfl (by show (0:Int)≤1;omega) rfl)) rfl ?_
   refine wwn ?_
   refine wwc f7 ?_
   refine wwn ?_
   refine qAa rfl (fun q=>absurd q (by decide)) (fun q=>?_)
   refine wwn ?_
   refine qAd (qAi (i:=3) (es2:=[[Dat.int .i64 285,.int .i64 29,.sl 1 SO,.int .i64 1,.int .i64 0]]) hT rfl rfl rfl rfl rfl rfl (by show (6+1)*(56+1)≤140737488355328;omega)) rfl ?_
   refine wwn ?_
   exact ⟨2,by omega,by omega,⟨.refl _,.refl _,.refl _,.refl _,.refl _,.refl _,trivial⟩,HLe.refl _⟩
  ·refine wwn ?_
   refine qAa rfl (fun q=>absurd q (by decide)) (fun q=>?_)
   refine wwe ?_
   refine qAk (qAg ?_)
   refine wws ?_
   refine qAo (l:=[(0,.ptr 0 0)]) (h':=[.row (wE hr x1 x2 x3 x4 x5 (.d li) (.d key) (.d inf) (.d (.sl 1 [[.sl 1 G1],[.sl 1 G2],[.sl 1 G3],[.sl 1 G4],[.sl 1 G5]])) (.d (.sl 1 SO)) (.d (.sl 5 [[.int .i64 284,.int .i64 28,.sl 1 AC,.int .i64 0,.int .i64 0]])) (.d (.sl 2 [[.sl 1 (qAl [160,0,0,2,71,16,1]),.sl 5 (flK G1 G2 G3 G4 G5 CM SO 7)]])) (zDM.map .d)),.row (qAe a),.dead,.dead,.dead]) ⟨.refl _,trivial⟩ ⟨by
    show AllLe _ _
    exact ⟨.refl _,.refl _,.refl _,.refl _,.refl _,.refl _,.refl _,.refl _,.refl _,.refl _,.refl _,.refl _,.refl _,.refl _,.refl _,.refl _,.refl _,.refl _,.refl _,.refl _,.refl _,.refl _,.refl _,.refl _,.dat,.dat,AllLe.refl _⟩,ObLe.refl _,trivial,trivial,trivial,trivial⟩ ?_
   refine wwn ?_
   exact rx ⟨rfl,rfl⟩ (h4:=show (2:Nat)=2 from rfl)
end Tdoc
namespace Tdoc
open Go Go.Proofs
def PredFi (g:FuncId) (first cap:List AV) (H:List AObj) (p:Fil→Bool) (l:List Fil):Prop :=
 ∀ c,c∈l→Spec Tryz.prog g (first++([qZy c]++cap)) H (fun r h'=>r=.d (.bool (p c))∧h'=H)
theorem qMm {l:List Fil} {g:FuncId} {first cap:List AV} {H:List AObj} {p:Fil→Bool} (hp:PredFi g first cap H p l) (hH:qEb H.length H=true) (h1:qCw H.length first=true) (h2:qCw H.length cap=true) (hl:l.length≤1000000000) :
  Spec Tryz.prog 392 [.d (.sl 5 (qBj l)),.fn (.func g) first cap] H (fun r h'=>r=.d (.int .i64 (qQb p l))∧h'=H):=by
 refine qAb hT Tryz.func392 rfl rfl rfl rfl ?_
 intro E hE
 have hlen:=encFils_length l
 refine ww ?_
 refine qAp (ι:=Nat) (fun k=>[(0,.d (.sl 5 (qBj l))),(1,.fn (.func g) first cap),(7,.d (.int .i64 (qBj l).length)),(8,.d (.int .i64 k))]) (fun _=>H) (fun k=>k≤l.length∧∀ j,(hj:j < k)→(hj2:j < l.length)→p l[j]=false) (fun k=>l.length-k) 0
  ⟨by omega,fun j hj=>by omega⟩ ⟨.refl _,.refl _,.refl _,.refl _,trivial⟩ (HLe.refl _) ?_
 intro k ⟨hk,hb⟩
 refine ww ?_
 refine qAa rfl (fun h1'=>?_) (fun h1'=>?_)
 ·have hlt:k < l.length:=by rw [hlen] at h1';simpa using h1'
  have hel:=encFils_at hlt
  have hpk:=hp l[k] (List.getElem_mem hlt)
  generalize hc:l[k]=c at hel hpk
  obtain ⟨c1,c2,c3,c4,c5⟩:=c
  unfold qQd at hel
  simp only at hel
  refine ww ?_
  refine qAd (qAc (indexAddr_ok hT rfl rfl rfl rfl (by omega) hel)) rfl ?_
  refine ww ?_
  refine qCr (qFs (Q:=fun r h'=>r=.d (.bool (p ⟨c1,c2,c3,c4,c5⟩))∧h'=H) rfl rfl (hpk.mono (fun r h' ⟨q1,q2⟩=>⟨⟨q1,q2⟩,by rw [q1];rfl,by rw [q2];exact hH⟩)) hH rfl ?_) rfl ?_
  ·have:∀ (a b:List AV),qCw H.length a=true→qCw H.length b=true→qCw H.length (a++b)=true:=by
    intro a
    induction a with
    | nil=>intro b _ hb;exact hb
    | cons x a ih=>intro b ha hb;simp only [qCw,Bool.and_eq_true,List.cons_append] at ha ⊢;exact ⟨ha.1,ih b ha.2 hb⟩
   exact this _ _ h1 (this [_] _ (by simp [qCw,low,qZy]) h2)
  rintro v h' ⟨rfl,rfl⟩
  refine ww ?_
  refine qAa rfl (fun h2'=>?_) (fun h2'=>?_)
  ·refine ww ?_
   refine qAh rfl (.refl _) (by simp) rfl rfl hH ⟨?_,rfl⟩
   show AV.d (.int .i64 (k:Int))=_
   rw [fIdx_at hlt (by rw [hc];exact h2') (fun j hj hj2=>hb j hj hj2)]
  ·refine ww ?_
   refine ⟨k+1,⟨by omega,fun j hj hj2=>?_⟩,by omega,⟨.refl _,.refl _,.refl _,AV.le.eq ?_,trivial⟩,HLe.refl _⟩
   ·by_cases hjk:j=k
    ·subst hjk;rw [hc];exact h2'
    ·exact hb j (by omega) hj2
   ·show AV.d (.int .i64 (IntKind.i64.wrap ((k:Int)+1)))=_
    rw [qAf (by omega)];rfl
 ·have hge:k=l.length:=by rw [hlen] at h1';simp at h1';omega
  refine ww ?_
  refine qAh rfl (.refl _) (by simp) rfl rfl hH ⟨?_,rfl⟩
  show AV.d (.int .i64 (-1))=_
  rw [fIdx_none (fun j hj=>hb j (by omega) hj)]
theorem qKh {l:List Fil} {g:FuncId} {first cap:List AV} {H:List AObj} {p:Fil→Bool} (hp:PredFi g first cap H p l) (hH:qEb H.length H=true) (h1:qCw H.length first=true) (h2:qCw H.length cap=true) (hl:l.length≤1000000000) :
  Spec Tryz.prog 358 [.d (.sl 5 (qBj l)),.fn (.func g) first cap] H (fun r h'=>r=.d (.bool (l.any p))∧h'=H):=by
 refine qAb hT Tryz.func358 rfl rfl rfl rfl ?_
 intro E hE
 have hs:=qMm hp hH h1 h2 hl
 refine ww ?_
 refine qCr (qFs (Q:=fun r h'=>r=.d (.int .i64 (qQb p l))∧h'=H) rfl rfl (hs.mono (fun r h' ⟨q1,q2⟩=>⟨⟨q1,q2⟩,by rw [q1];rfl,by rw [q2];exact hH⟩)) hH rfl ?_) rfl ?_
 ·simp [qCw,low,h1,h2]
 rintro v h' ⟨rfl,rfl⟩
 refine ww ?_
 refine qAh rfl (.refl _) (by simp) rfl rfl hH ⟨?_,rfl⟩
 show AV.d (.bool (decide (qQb p l≥0)))=_
 rw [fIdx_any]
def PredAp (g:FuncId) (first cap:List AV) (H:List AObj) (p:Apk→Bool) (l:List Apk):Prop :=
 ∀ c,c∈l→Spec Tryz.prog g (first++([vAk c]++cap)) H (fun r h'=>r=.d (.bool (p c))∧h'=H)
theorem qMn {l:List Apk} {g:FuncId} {first cap:List AV} {H:List AObj} {p:Apk→Bool} (hp:PredAp g first cap H p l) (hH:qEb H.length H=true) (h1:qCw H.length first=true) (h2:qCw H.length cap=true) (hl:l.length≤1000000000) :
  Spec Tryz.prog 359 [.d (.sl 2 (qBu l)),.fn (.func g) first cap] H (fun r h'=>r=.d (.int .i64 (qQb p l))∧h'=H):=by
 refine qAb hT Tryz.func359 rfl rfl rfl rfl ?_
 intro E hE
 have hlen:=encApks_length l
 refine ww ?_
 refine qAp (ι:=Nat) (fun k=>[(0,.d (.sl 2 (qBu l))),(1,.fn (.func g) first cap),(7,.d (.int .i64 (qBu l).length)),(8,.d (.int .i64 k))]) (fun _=>H) (fun k=>k≤l.length∧∀ j,(hj:j < k)→(hj2:j < l.length)→p l[j]=false) (fun k=>l.length-k) 0
  ⟨by omega,fun j hj=>by omega⟩ ⟨.refl _,.refl _,.refl _,.refl _,trivial⟩ (HLe.refl _) ?_
 intro k ⟨hk,hb⟩
 refine ww ?_
 refine qAa rfl (fun h1'=>?_) (fun h1'=>?_)
 ·have hlt:k < l.length:=by rw [hlen] at h1';simpa using h1'
  have hel:=encApks_at hlt
  have hpk:=hp l[k] (List.getElem_mem hlt)
  generalize hc:l[k]=c at hel hpk
  obtain ⟨c1,c2⟩:=c
  unfold qQe at hel
  simp only at hel
  refine ww ?_
  refine qAd (qAc (indexAddr_ok hT rfl rfl rfl rfl (by omega) hel)) rfl ?_
  refine ww ?_
  refine qCr (qFs (Q:=fun r h'=>r=.d (.bool (p ⟨c1,c2⟩))∧h'=H) rfl rfl (hpk.mono (fun r h' ⟨q1,q2⟩=>⟨⟨q1,q2⟩,by rw [q1];rfl,by rw [q2];exact hH⟩)) hH rfl ?_) rfl ?_
  ·have:∀ (a b:List AV),qCw H.length a=true→qCw H.length b=true→qCw H.length (a++b)=true:=by
    intro a
    induction a with
    | nil=>intro b _ hb;exact hb
    | cons x a ih=>intro b ha hb;simp only [qCw,Bool.and_eq_true,List.cons_append] at ha ⊢;exact ⟨ha.1,ih b ha.2 hb⟩
   exact this _ _ h1 (this [_] _ (by simp [qCw,low,vAk]) h2)
  rintro v h' ⟨rfl,rfl⟩
  refine ww ?_
  refine qAa rfl (fun h2'=>?_) (fun h2'=>?_)
  ·refine ww ?_
   refine qAh rfl (.refl _) (by simp) rfl rfl hH ⟨?_,rfl⟩
   show AV.d (.int .i64 (k:Int))=_
   rw [fIdx_at hlt (by rw [hc];exact h2') (fun j hj hj2=>hb j hj hj2)]
  ·refine ww ?_
   refine ⟨k+1,⟨by omega,fun j hj hj2=>?_⟩,by omega,⟨.refl _,.refl _,.refl _,AV.le.eq ?_,trivial⟩,HLe.refl _⟩
   ·by_cases hjk:j=k
    ·subst hjk;rw [hc];exact h2'
    ·exact hb j (by omega) hj2
   ·show AV.d (.int .i64 (IntKind.i64.wrap ((k:Int)+1)))=_
    rw [qAf (by omega)];rfl
 ·have hge:k=l.length:=by rw [hlen] at h1';simp at h1';omega
  refine ww ?_
  refine qAh rfl (.refl _) (by simp) rfl rfl hH ⟨?_,rfl⟩
  show AV.d (.int .i64 (-1))=_
  rw [fIdx_none (fun j hj=>hb j (by omega) hj)]
theorem qKi {l:List Apk} {g:FuncId} {first cap:List AV} {H:List AObj} {p:Apk→Bool} (hp:PredAp g first cap H p l) (hH:qEb H.length H=true) (h1:qCw H.length first=true) (h2:qCw H.length cap=true) (hl:l.length≤1000000000) :
  Spec Tryz.prog 294 [.d (.sl 2 (qBu l)),.fn (.func g) first cap] H (fun r h'=>r=.d (.bool (l.any p))∧h'=H):=by
 refine qAb hT Tryz.func294 rfl rfl rfl rfl ?_
 intro E hE
 have hs:=qMn hp hH h1 h2 hl
 refine ww ?_
 refine qCr (qFs (Q:=fun r h'=>r=.d (.int .i64 (qQb p l))∧h'=H) rfl rfl (hs.mono (fun r h' ⟨q1,q2⟩=>⟨⟨q1,q2⟩,by rw [q1];rfl,by rw [q2];exact hH⟩)) hH rfl ?_) rfl ?_
 ·simp [qCw,low,h1,h2]
 rintro v h' ⟨rfl,rfl⟩
 refine ww ?_
 refine qAh rfl (.refl _) (by simp) rfl rfl hH ⟨?_,rfl⟩
 show AV.d (.bool (decide (qQb p l≥0)))=_
 rw [fIdx_any]
def qMv (f:Fil):List AV:=[.d (.int .i64 f.id),.d (.int .i64 f.sho),.d (.sl 1 (qAl f.con)),.d (.int .i64 f.lev),.d (.int .i64 f.rgt)]
def qMx (a:Apk):List AV:=[.d (.sl 1 (qAl a.name)),.d (.sl 5 (qBj a.files))]
theorem qZf (f g:Fil):Spec Tryz.prog 357 ([]++([qZy g]++[.ptr 0 0])) [.row (qMv f)] (fun r h'=>r=.d (.bool (qLf f g))∧h'=[.row (qMv f)]):=by
 obtain ⟨f1,f2,f3,f4,f5⟩:=f
 obtain ⟨g1,g2,g3,g4,g5⟩:=g
 unfold qZy qMv qLf
 simp only
 refine qAb hT Tryz.func357 rfl rfl rfl rfl ?_;intro E hE
 refine qAj ?_
 refine wwe ?_
 refine qAk (qAg ?_)
 refine qAd (boxAt_ok (i0:=1) rfl rfl rfl) rfl ?_
 refine ww ?_
 exact qAh rfl (.refl _) rfl rfl rfl rfl ⟨rfl,rfl⟩
theorem sameName_spec (a b:Apk):Spec Tryz.prog 295 ([]++([vAk b]++[.ptr 0 0])) [.row (qMx a)] (fun r h'=>r=.d (.bool (a.name == b.name))∧h'=[.row (qMx a)]):=by
 have hq:=qXb a.name b.name
 generalize (a.name == b.name)=q at hq ⊢
 obtain ⟨a1,a2⟩:=a
 obtain ⟨b1,b2⟩:=b
 unfold vAk qMx
 simp only at hq ⊢
 refine qAb hT Tryz.func295 rfl rfl rfl rfl ?_;intro E hE
 refine qAj ?_
 refine wwe ?_
 refine qAk (qAg ?_)
 refine qAd (boxAt_ok (i0:=1) rfl rfl rfl) rfl ?_
 refine ww ?_
 refine wwc hq ?_
 refine ww ?_
 exact qAh rfl (.refl _) rfl rfl rfl rfl ⟨rfl,rfl⟩
theorem chkFil_spec (l:List Fil) (hl:l.length≤1000000):Spec Tryz.prog 293 [.d (.sl 5 (qBj l))] [] (fun r h'=>r=.d (.int .i64 (qHm l))∧h'=[]):=by
 have hll:=encFils_length l
 unfold qHm
 by_cases h1:l.length > 24
 case pos =>
  rw [if_pos h1]
  refine qAb hT Tryz.func293 rfl rfl rfl rfl ?_;intro E hE
  refine ww ?_
  refine qAa rfl (fun c1=>?_) (fun c1=>?_)
  ·refine ww ?_
   exact wwr
  ·exfalso
   rw [hll] at c1
   simp at c1
   omega
 rw [if_neg h1]
 generalize hfin:qTl [] l=fin
 refine qAb hT Tryz.func293 rfl rfl rfl rfl ?_;intro E hE
 refine ww ?_
 refine qAa rfl (fun c1=>?_) (fun c1=>?_)
 ·exfalso
  rw [hll] at c1
  simp at c1
  omega
 refine ww ?_
 refine qBt (ι:=Nat) (fun i=>[(0,.d (.sl 5 (qBj l))),(10,.d (.sl 5 (qBj l))),(11,.d (.int .i64 ((qBj l).length:Int))),(12,.d (.int .i64 (i:Int)))]) (fun _=>[])
  (fun i=>i≤l.length∧qTl (l.take i) (l.drop i)=fin) (fun i=>l.length-i) 0 ⟨by omega,by simpa using hfin⟩ ⟨.refl _,.refl _,.refl _,.refl _,trivial⟩ (HLe.refl _) ?_
 rintro i ⟨hi,hg⟩
 have hwr:IntKind.i64.wrap ((i:Int)+1)=((i+1:Nat):Int):=by rw [qAf (by omega)];simp
 refine ww ?_
 refine qAa rfl (fun c2=>?_) (fun c2=>?_)
 ·have c2':i < l.length:=by rw [hll] at c2;simpa using c2
  have hel:=encFils_at c2'
  have hdr:l.drop i=l[i]::l.drop (i+1):=List.drop_eq_getElem_cons c2'
  have htk:l.take (i+1)=l.take i++[l[i]]:=List.take_succ_eq_append_getElem c2'
  have hcf:=qKh (p:=qLf l[i]) (l:=l.take i) (fun y hy=>qZf l[i] y) rfl rfl rfl (by rw [List.length_take];omega)
  rw [hdr,qTl] at hg
  have hcl:(qBj l).take ((i:Int)).toNat=qBj (l.take i):=by
   rw [Int.toNat_natCast]
   simp [qBj,List.map_take]
  generalize (l.take i).any (qLf l[i])=b2 at hcf hg
  generalize l[i]=x at hel hg htk hcf
  obtain ⟨x1,x2,x3,x4,x5⟩:=x
  have hxl:=encB_length x3
  unfold qQd at hel
  unfold qMv at hcf
  simp only at hel hg hcf
  refine ww ?_
  refine wwi hel ?_
  refine wws ?_
  refine qAk (qAg ?_)
  refine wws ?_
  refine qCd (ι:=Unit) (fun _=>[(0,.d (.sl 5 (qBj l))),(3,.d (.int .i64 (i:Int))),(4,.ptr 0 0),(5,.d (.int .i64 (if x4=3 then 15 else 0))),(10,.d (.sl 5 (qBj l))),(11,.d (.int .i64 ((qBj l).length:Int))),(12,.d (.int .i64 (i:Int)))])
   (fun _=>[.row [.d (.int .i64 x1),.d (.int .i64 x2),.d (.sl 1 (qAl x3)),.d (.int .i64 x4),.d (.int .i64 x5)]]) (fun _=>True) ?_ ?_
  ·refine ww ?_
   refine qAa rfl (fun c3=>?_) (fun c3=>?_)
   ·refine ww ?_
    exact ⟨(),trivial,⟨.refl _,.refl _,.refl _,.int (by rw [if_pos (by simpa using c3)]),.refl _,.refl _,.refl _,trivial⟩,HLe.refl _⟩
   ·refine ww ?_
    exact ⟨(),trivial,⟨.refl _,.refl _,.refl _,.int (by rw [if_neg (by simpa using c3)]),.refl _,.refl _,.refl _,trivial⟩,HLe.refl _⟩
  rintro ⟨⟩ -
  generalize (if x4=3 then (15:Int) else 0)=R at hg ⊢
  refine ww ?_
  refine qAa rfl (fun c3=>?_) (fun c3=>?_)
  ·refine ww ?_
   refine qAa rfl (fun c4=>?_) (fun c4=>?_)
   ·rw [if_pos (by simp at c3;omega)] at hg
    subst hg
    refine ww ?_
    exact wwr
   ·rw [c3] at c4;cases c4
  refine ww ?_
  refine qAa rfl (fun c4=>?_) (fun c4=>?_)
  ·rw [if_pos (by simp at c4;omega)] at hg
   subst hg
   refine ww ?_
   exact wwr
  rw [if_neg (by simp at c3 c4;omega)] at hg
  refine ww ?_
  refine qAa rfl (fun c5=>?_) (fun c5=>?_)
  ·refine ww ?_
   refine qAa rfl (fun c6=>?_) (fun c6=>?_)
   ·rw [if_pos (by simp at c5;omega)] at hg
    subst hg
    refine ww ?_
    exact wwr
   ·rw [c5] at c6;cases c6
  refine ww ?_
  refine qAa rfl (fun c6=>?_) (fun c6=>?_)
  ·rw [if_pos (by simp at c6;omega)] at hg
   subst hg
   refine ww ?_
   exact wwr
  rw [if_neg (by simp at c5 c6;omega)] at hg
  refine ww ?_
  refine qAa rfl (fun c7=>?_) (fun c7=>?_)
  ·rw [hxl] at c7
   rw [if_pos (by simp at c7;omega)] at hg
   subst hg
   refine ww ?_
   exact wwr
  rw [hxl] at c7
  rw [if_neg (by simp at c7;omega)] at hg
  refine ww ?_
  rw [hcl]
  refine qAd (qFt rfl rfl (hcf) [0] (by decide) rfl rfl rfl rfl rfl rfl rfl) rfl ?_
  refine ww ?_
  refine qAa rfl (fun c8=>?_) (fun c8=>?_)
  ·rw [if_pos c8] at hg
   subst hg
   refine ww ?_
   exact wwr
  rw [if_neg (by rw [c8];simp)] at hg
  refine ww ?_
  exact ⟨i+1,[_],⟨c2',by rw [htk];exact hg⟩,by omega,⟨.refl _,.refl _,.refl _,.int hwr,trivial⟩,HLe.refl _,Env.below_mono hE (by simp),rfl,rfl⟩
 ·have c2':i=l.length:=by rw [hll] at c2;simp at c2;omega
  subst c2'
  rw [List.drop_length,qTl] at hg
  subst hg
  refine ww ?_
  exact wwr
theorem validFs_spec (root:List Fil) (apps:List Apk) (hl:root.length≤1000000) (ha:apps.length≤1000000) (hf:∀ a,a∈apps→a.files.length≤1000000):Spec Tryz.prog 192 [.agg [.d (.sl 5 (qBj root)),.d (.sl 2 (qBu apps))]] [] (fun r h'=>r=.d (.int .i64 (qJq root apps))∧h'=[]):=by
 have hll:=encApks_length apps
 have hck:=chkFil_spec root hl
 unfold qJq
 generalize hfin:qWh [] apps=fin
 refine qAb hT Tryz.func192 rfl rfl rfl rfl ?_;intro E hE
 refine ww ?_
 refine qAa rfl (fun c1=>?_) (fun c1=>?_)
 ·rw [hll] at c1
  rw [if_pos (by simp at c1;omega)]
  refine ww ?_
  exact wwr
 rw [hll] at c1
 rw [if_neg (by simp at c1;omega)]
 generalize qHm root=e at hck ⊢
 refine ww ?_
 refine wwc hck ?_
 refine ww ?_
 refine qAa rfl (fun c2=>?_) (fun c2=>?_)
 ·rw [if_pos (by simpa using c2)]
  refine ww ?_
  exact wwr
 rw [if_neg (by simpa using c2)]
 refine ww ?_
 refine qBt (ι:=Nat) (fun i=>[(1,.ptr 0 0),(18,.d (.sl 2 (qBu apps))),(19,.d (.int .i64 ((qBu apps).length:Int))),(20,.d (.int .i64 (i:Int)))]) (fun _=>[.row [.d (.sl 5 (qBj root)),.d (.sl 2 (qBu apps))]])
  (fun i=>i≤apps.length∧qWh (apps.take i) (apps.drop i)=fin) (fun i=>apps.length-i) 0 ⟨by omega,by simpa using hfin⟩ ⟨.refl _,.refl _,.refl _,.refl _,trivial⟩ (HLe.refl _) ?_
 rintro i ⟨hi,hg⟩
 have hwr:IntKind.i64.wrap ((i:Int)+1)=((i+1:Nat):Int):=by rw [qAf (by omega)];simp
 refine ww ?_
 refine qAa rfl (fun c3=>?_) (fun c3=>?_)
 ·have c3':i < apps.length:=by rw [hll] at c3;simpa using c3
  have hel:=encApks_at c3'
  have hdr:apps.drop i=apps[i]::apps.drop (i+1):=List.drop_eq_getElem_cons c3'
  have htk:apps.take (i+1)=apps.take i++[apps[i]]:=List.take_succ_eq_append_getElem c3'
  have hcf:=qKi (p:=fun b=>apps[i].name == b.name) (l:=apps.take i) (fun y hy=>sameName_spec apps[i] y) rfl rfl rfl (by rw [List.length_take];omega)
  have hcs:=chkFil_spec apps[i].files (hf _ (List.getElem_mem c3'))
  rw [hdr,qWh] at hg
  have hcl:(qBu apps).take ((i:Int)).toNat=qBu (apps.take i):=by
   rw [Int.toNat_natCast]
   simp [qBu,List.map_take]
  generalize ((apps.take i).any fun b=>apps[i].name == b.name)=b2 at hcf hg
  generalize apps[i]=x at hel hg htk hcf hcs
  obtain ⟨x1,x2⟩:=x
  have hxl:=encB_length x1
  unfold qQe at hel
  unfold qMx at hcf
  simp only at hel hg hcf hcs
  generalize qHm x2=ex at hcs hg
  refine ww ?_
  refine wwi hel ?_
  refine ww ?_
  refine qAa rfl (fun c4=>?_) (fun c4=>?_)
  ·rw [hxl] at c4
   rw [if_pos (by simp at c4;omega)] at hg
   subst hg
   refine ww ?_
   exact wwr
  rw [hxl] at c4
  rw [if_neg (by simp at c4;omega)] at hg
  refine ww ?_
  rw [hcl]
  refine ww ?_
  refine qAd (qFt rfl rfl (hcf) [1] (by decide) rfl rfl rfl rfl rfl rfl rfl) rfl ?_
  refine ww ?_
  refine qAa rfl (fun c5=>?_) (fun c5=>?_)
  ·rw [if_pos c5] at hg
   subst hg
   refine ww ?_
   exact wwr
  rw [if_neg (by rw [c5];simp)] at hg
  refine ww ?_
  refine wwc hcs ?_
  refine ww ?_
  refine qAa rfl (fun c6=>?_) (fun c6=>?_)
  ·rw [if_pos (by simpa using c6)] at hg
   subst hg
   refine ww ?_
   exact wwr
  rw [if_neg (by simpa using c6)] at hg
  refine ww ?_
  exact ⟨i+1,[_],⟨c3',by rw [htk];exact hg⟩,by omega,⟨.refl _,.refl _,.refl _,.int hwr,trivial⟩,HLe.refl _,Env.below_mono hE (by simp),rfl,rfl⟩
 ·have c3':i=apps.length:=by rw [hll] at c3;simp at c3;omega
  subst c3'
  rw [List.drop_length,qWh] at hg
  subst hg
  refine ww ?_
  exact wwr
end Tdoc
namespace Tdoc
open Go Go.Proofs
theorem qKz (es:List (List Dat)) (hl:es.length≤1000000):Spec Tryz.prog 203 [.d (.sl 5 es)] [] (fun r h'=>r=.d (.sl 5 es)∧h'=[]):=by
 refine qAb hT Tryz.func203 rfl rfl rfl rfl ?_;intro E hE
 refine ww ?_
 refine qCr (eqNil_ok hT (fun _=>rfl) rfl rfl rfl) rfl ?_
 rintro v h' ⟨rfl,b,rfl,hb⟩
 refine ww ?_
 refine qAa rfl (fun h1=>?_) (fun h1=>?_)
 ·obtain rfl:=hb h1
  refine ww ?_
  exact qAh rfl AV.le.nils rfl rfl rfl rfl ⟨rfl,rfl⟩
 ·refine ww ?_
  refine qAd (qCh (es:=[]) hT rfl rfl rfl (.inl rfl) rfl (by show (([]:List (List Dat)).length+es.length)*(48+1)≤140737488355328;simp;omega)) rfl ?_
  refine ww ?_
  exact qAh rfl (.refl _) rfl rfl rfl rfl ⟨rfl,rfl⟩
theorem qSf (es:List (List Dat)) (hl:es.length≤1000000):Spec Tryz.prog 202 [.d (.sl 5 es)] [] (fun r h'=>r=.d (.sl 5 es)∧h'=[]):=by
 refine qAb hT Tryz.func202 rfl rfl rfl rfl ?_;intro E hE
 refine ww ?_
 refine qCr (eqNil_ok hT (fun _=>rfl) rfl rfl rfl) rfl ?_
 rintro v h' ⟨rfl,b,rfl,hb⟩
 refine ww ?_
 refine qAa rfl (fun h1=>?_) (fun h1=>?_)
 ·obtain rfl:=hb h1
  refine ww ?_
  exact qAh rfl AV.le.nils rfl rfl rfl rfl ⟨rfl,rfl⟩
 ·refine ww ?_
  refine qAd (qCh (es:=[]) hT rfl rfl rfl (.inl rfl) rfl (by show (([]:List (List Dat)).length+es.length)*(40+1)≤140737488355328;simp;omega)) rfl ?_
  refine ww ?_
  exact qAh rfl (.refl _) rfl rfl rfl rfl ⟨rfl,rfl⟩
theorem cpTrust_spec (l:List (List Dat)) (day:Int) (hl:l.length≤1000000):Spec Tryz.prog 111 [.agg [.d (.sl 5 l),.d (.int .i64 day)]] [] (fun r h'=>r=.agg [.d (.sl 5 l),.d (.int .i64 day)]∧h'=[]):=by
 have hc:=qKz l hl
 refine qAb hT Tryz.func111 rfl rfl rfl rfl ?_;intro E hE
 refine ww ?_
 refine wwc hc ?_
 refine ww ?_
 exact wwr
theorem cloneFile_spec (f:Fil) (hl:f.con.length≤1000000):Spec Tryz.prog 199 [qZy f] [] (fun r h'=>r=qZy f∧h'=[]):=by
 obtain ⟨x1,x2,x3,x4,x5⟩:=f
 have hbl:=encB_length x3
 have hc:=qCb (qAl x3) (by rw [hbl];exact hl)
 refine qAb hT Tryz.func199 rfl rfl rfl rfl ?_;intro E hE
 refine ww ?_
 refine wwc hc ?_
 refine ww ?_
 exact wwr
theorem encFils_snoc {l:List Fil} {i:Nat} (h:i < l.length):qBj (l.take (i+1))=qBj (l.take i)++[qQd l[i]]:=by
 unfold qBj;rw [List.take_succ_eq_append_getElem h,List.map_append];rfl
theorem eachFi_spec (l:List Fil) (hl:l.length≤100000) (hf:∀ a,a∈l→a.con.length≤1000000):Spec Tryz.prog 198 [.d (.sl 5 (qBj l)),.fn (.func 199) [] []] [] (fun r h'=>r=.d (.sl 5 (qBj l))∧h'=[]):=by
 have hll:=encFils_length l
 refine qAb hT Tryz.func198 rfl rfl rfl rfl ?_;intro E hE
 refine qAj ?_
 refine qAk (qAg ?_)
 refine wws ?_
 refine qAk (qAg ?_)
 refine wws ?_
 refine qAz 5 5 0 (es:=[]) (.inr ⟨rfl,rfl⟩) rfl ?_
 refine ww ?_
 refine qBt (ι:=Nat) (fun i=>[(1,.fn (.func 199) [] []),(5,.sl 5 (qBj (l.take i)) (.right 0)),(8,.d (.sl 5 (qBj l))),(9,.d (.int .i64 ((qBj l).length:Int))),(10,.d (.int .i64 (i:Int)))]) (fun i=>[.right 5 (qBj (l.take i)).length]) (fun i=>i≤l.length) (fun i=>l.length-i) 0 (Nat.zero_le _)
  ⟨.refl _,.refl _,.refl _,.refl _,.refl _,trivial⟩ (HLe.refl _) ?_
 intro i hi
 have hwr:IntKind.i64.wrap ((i:Int)+1)=((i+1:Nat):Int):=by rw [qAf (by omega)];simp
 have hpl:(qBj (l.take i)).length=i:=by rw [encFils_length,List.length_take];omega
 refine ww ?_
 refine qAa rfl (fun c3=>?_) (fun c3=>?_)
 ·have c3':i < l.length:=by rw [hll] at c3;simpa using c3
  have hel:=encFils_at c3'
  have hsn:=encFils_snoc c3'
  have hcl:=cloneFile_spec l[i] (hf _ (List.getElem_mem c3'))
  generalize l[i]=x at hel hsn hcl
  obtain ⟨x1,x2,x3,x4,x5⟩:=x
  unfold qQd at hel hsn
  simp only at hel hsn
  generalize qBj (l.take i)=pre at hsn hpl ⊢
  refine ww ?_
  refine wwi hel ?_
  refine ww ?_
  refine wwc hcl ?_
  refine ww ?_
  refine qAd (qAi (i:=0) hT rfl rfl rfl rfl rfl rfl (by show (pre.length+1)*(56+1)≤_;omega)) rfl ?_
  refine ww ?_
  exact ⟨i+1,[_],c3',by omega,⟨.refl _,.slt hsn.symm,.refl _,.refl _,.int hwr,trivial⟩,⟨⟨rfl,by rw [hsn]⟩,ObLe.refl _,trivial⟩,Env.below_mono hE (by simp),rfl,rfl⟩
 ·have c3':i=l.length:=by rw [hll] at c3;simp at c3;omega
  subst c3'
  rw [List.take_length]
  refine ww ?_
  refine rq ⟨rfl,rfl⟩ rfl AV.le.dat
theorem cloneApp_spec (a:Apk) (hl:a.files.length≤100000∧a.name.length≤1000000) (hf:∀ f,f∈a.files→f.con.length≤1000000):Spec Tryz.prog 201 [vAk a] [] (fun r h'=>r=vAk a∧h'=[]):=by
 obtain ⟨x1,x2⟩:=a
 have hbl:=encB_length x1
 have hc:=qCb (qAl x1) (by rw [hbl];exact hl.2)
 have he:=eachFi_spec x2 hl.1 hf
 refine qAb hT Tryz.func201 rfl rfl rfl rfl ?_;intro E hE
 refine wwn ?_
 refine qAw (fun i=>bif Nat.beq i 1||Nat.beq i 4 then [0] else bif Nat.beq i 7 then [1] else []) (fun i=>bif Nat.beq i 7 then [1] else []) mixed (by kernel_rfl) ?_
 refine wwg ?_
 refine wwdc hc ?_
 refine wwg ?_
 refine wwdc he ?_
 refine wwg ?_
 refine ww ?_
 exact wwr
theorem encApks_snoc {l:List Apk} {i:Nat} (h:i < l.length):qBu (l.take (i+1))=qBu (l.take i)++[qQe l[i]]:=by
 unfold qBu;rw [List.take_succ_eq_append_getElem h,List.map_append];rfl
theorem eachAp_spec (l:List Apk) (hl:l.length≤100000) (hf:∀ a,a∈l→a.files.length≤100000∧a.name.length≤1000000) (hg:∀ a,a∈l→∀ f,f∈a.files→f.con.length≤1000000):Spec Tryz.prog 200 [.d (.sl 2 (qBu l)),.fn (.func 201) [] []] [] (fun r h'=>r=.d (.sl 2 (qBu l))∧h'=[]):=by
 have hll:=encApks_length l
 refine qAb hT Tryz.func200 rfl rfl rfl rfl ?_;intro E hE
 refine qAj ?_
 refine qAk (qAg ?_)
 refine wws ?_
 refine qAk (qAg ?_)
 refine wws ?_
 refine qAz 5 2 0 (es:=[]) (.inr ⟨rfl,rfl⟩) rfl ?_
 refine ww ?_
 refine qBt (ι:=Nat) (fun i=>[(1,.fn (.func 201) [] []),(5,.sl 2 (qBu (l.take i)) (.right 0)),(8,.d (.sl 2 (qBu l))),(9,.d (.int .i64 ((qBu l).length:Int))),(10,.d (.int .i64 (i:Int)))]) (fun i=>[.right 2 (qBu (l.take i)).length]) (fun i=>i≤l.length) (fun i=>l.length-i) 0 (Nat.zero_le _)
  ⟨.refl _,.refl _,.refl _,.refl _,.refl _,trivial⟩ (HLe.refl _) ?_
 intro i hi
 have hwr:IntKind.i64.wrap ((i:Int)+1)=((i+1:Nat):Int):=by rw [qAf (by omega)];simp
 have hpl:(qBu (l.take i)).length=i:=by rw [encApks_length,List.length_take];omega
 refine ww ?_
 refine qAa rfl (fun c3=>?_) (fun c3=>?_)
 ·have c3':i < l.length:=by rw [hll] at c3;simpa using c3
  have hel:=encApks_at c3'
  have hsn:=encApks_snoc c3'
  have hcl:=cloneApp_spec l[i] (hf _ (List.getElem_mem c3')) (hg _ (List.getElem_mem c3'))
  generalize l[i]=x at hel hsn hcl
  obtain ⟨x1,x2⟩:=x
  unfold qQe at hel hsn
  simp only at hel hsn
  generalize qBu (l.take i)=pre at hsn hpl ⊢
  refine ww ?_
  refine wwi hel ?_
  refine ww ?_
  refine wwc hcl ?_
  refine ww ?_
  refine qAd (qAi (i:=0) hT rfl rfl rfl rfl rfl rfl (by show (pre.length+1)*(48+1)≤_;omega)) rfl ?_
  refine ww ?_
  exact ⟨i+1,[_],c3',by omega,⟨.refl _,.slt hsn.symm,.refl _,.refl _,.int hwr,trivial⟩,⟨⟨rfl,by rw [hsn]⟩,ObLe.refl _,trivial⟩,Env.below_mono hE (by simp),rfl,rfl⟩
 ·have c3':i=l.length:=by rw [hll] at c3;simp at c3;omega
  subst c3'
  rw [List.take_length]
  refine ww ?_
  refine rq ⟨rfl,rfl⟩ rfl AV.le.dat
structure PerLen (p:Per):Prop where
 root:p.root.length≤100000∧∀ f,f∈p.root→f.con.length≤1000000
 apps:p.apps.length≤100000∧(∀ a,a∈p.apps→a.files.length≤100000∧a.name.length≤1000000)∧∀ a,a∈p.apps→∀ f,f∈a.files→f.con.length≤1000000
 str:p.number.length≤1000000∧p.pin.length≤1000000∧p.puk.length≤1000000∧p.ident.length≤1000000∧p.seed.length≤1000000
 infos:p.infos.length≤1000000
 tps:p.tps.length≤1000000
def vJy:List AV:=[.sl 5 [] .full,.sl 2 [] .full,.d (.str []),.sl 1 [] .full,.sl 1 [] .full,.sl 1 [] .full,.d (.int .i64 0),.d (.int .i64 0),.d (.bool false),.sl 5 [] .full,.d (.int .i64 0),.d (.int .i64 0),.sl 5 [] .full,.d (.int .i64 0),.sl 1 [] .full,.sl 1 [] .full]
theorem clonePer_spec (p:Per) (hp:PerLen p):Spec Tryz.prog 110 [qQt p] [] (fun r h'=>r=qQt p∧h'=[]):=by
 have e1:=eachFi_spec p.root hp.root.1 hp.root.2
 have e2:=eachAp_spec p.apps hp.apps.1 hp.apps.2.1 hp.apps.2.2
 have c0:=qCb (qAl p.number) (by rw [encB_length];exact hp.str.1)
 have c1:=qCb (qAl p.pin) (by rw [encB_length];exact hp.str.2.1)
 have c2:=qCb (qAl p.puk) (by rw [encB_length];exact hp.str.2.2.1)
 have c3:=qCb (qAl p.ident) (by rw [encB_length];exact hp.str.2.2.2.1)
 have c4:=qCb (qAl p.seed) (by rw [encB_length];exact hp.str.2.2.2.2)
 have ci:=qSf (qFm p.infos) (by rw [encFs_length];exact hp.infos)
 have ct:=qKz (qCp p.tps) (by rw [encTps_length];exact hp.tps)
 clear hp
 obtain ⟨root,apps,zone,number,pin,puk,pr,ur,basic,infos,ck,ak,tps,tday,ident,seed⟩:=p
 simp only at *
 refine qAb hT Tryz.func110 rfl rfl rfl rfl ?_;intro E hE
 refine qAj ?_
 refine wwn ?_
 refine qAw (fun i=>bif Nat.beq i 2||Nat.beq i 6||Nat.beq i 10 then [1] else []) (fun i=>bif Nat.beq i 10 then [1] else []) mixed (by kernel_rfl) ?_
 refine wwg ?_
 refine wwdc e1 ?_
 refine wwg ?_
 refine wwdc e2 ?_
 refine wwg ?_
 refine qAk (qAk (qAg ?_))
 refine wws ?_
 refine qAd (buildRowAt_ok (i0:=0) hT rfl rfl rfl) rfl ?_
 refine ww ?_
 refine qAp (ι:=Nat) (fun i=>[(1,.ptr 1 0),(2,.ptr 2 0),(20,.row 0 0 5 5),(21,.d (.int .i64 5)),(22,.d (.int .i64 (i:Int)))])
  (fun _=>[.row [.ptr 1 3,.ptr 1 4,.ptr 1 5,.ptr 1 14,.ptr 1 15],.row (qKq ⟨root,apps,zone,number,pin,puk,pr,ur,basic,infos,ck,ak,tps,tday,ident,seed⟩),.row vJy]) (fun i=>i≤5) (fun i=>5-i) 0 (Nat.zero_le _)
  ⟨.refl _,.refl _,.refl _,.refl _,.refl _,trivial⟩ (HLe.refl _) ?_
 intro i hi
 rcases (by omega:i=0∨i=1∨i=2∨i=3∨i=4∨i=5) with rfl | rfl | rfl | rfl | rfl | rfl
 ·refine ww ?_
  refine qAa rfl (fun q=>?_) (fun q=>absurd q (by decide))
  refine ww ?_
  refine qAd (qAc (rowAddr_ok (sz:=1) hT rfl rfl rfl rfl ⟨by decide,by decide⟩)) rfl ?_
  refine ww ?_
  refine wwc c0 ?_
  refine ww ?_
  exact ⟨1,by omega,by omega,⟨.refl _,.refl _,.refl _,.refl _,.refl _,trivial⟩,HLe.refl _⟩
 ·refine ww ?_
  refine qAa rfl (fun q=>?_) (fun q=>absurd q (by decide))
  refine ww ?_
  refine qAd (qAc (rowAddr_ok (sz:=1) hT rfl rfl rfl rfl ⟨by decide,by decide⟩)) rfl ?_
  refine ww ?_
  refine wwc c1 ?_
  refine ww ?_
  exact ⟨2,by omega,by omega,⟨.refl _,.refl _,.refl _,.refl _,.refl _,trivial⟩,HLe.refl _⟩
 ·refine ww ?_
  refine qAa rfl (fun q=>?_) (fun q=>absurd q (by decide))
  refine ww ?_
  refine qAd (qAc (rowAddr_ok (sz:=1) hT rfl rfl rfl rfl ⟨by decide,by decide⟩)) rfl ?_
  refine ww ?_
  refine wwc c2 ?_
  refine ww ?_
  exact ⟨3,by omega,by omega,⟨.refl _,.refl _,.refl _,.refl _,.refl _,trivial⟩,HLe.refl _⟩
 ·refine ww ?_
  refine qAa rfl (fun q=>?_) (fun q=>absurd q (by decide))
  refine ww ?_
  refine qAd (qAc (rowAddr_ok (sz:=1) hT rfl rfl rfl rfl ⟨by decide,by decide⟩)) rfl ?_
  refine ww ?_
  refine wwc c3 ?_
  refine ww ?_
  exact ⟨4,by omega,by omega,⟨.refl _,.refl _,.refl _,.refl _,.refl _,trivial⟩,HLe.refl _⟩
 ·refine ww ?_
  refine qAa rfl (fun q=>?_) (fun q=>absurd q (by decide))
  refine ww ?_
  refine qAd (qAc (rowAddr_ok (sz:=1) hT rfl rfl rfl rfl ⟨by decide,by decide⟩)) rfl ?_
  refine ww ?_
  refine wwc c4 ?_
  refine ww ?_
  exact ⟨5,by omega,by omega,⟨.refl _,.refl _,.refl _,.refl _,.refl _,trivial⟩,HLe.refl _⟩
 ·refine ww ?_
  refine qAa rfl (fun q=>absurd q (by decide)) (fun q=>?_)
  refine ww ?_
  refine wwc ci ?_
  refine ww ?_
  refine wwc ct ?_
  refine ww ?_
  exact wwr
end Tdoc
namespace Tdoc
open Go Go.Proofs
theorem tDays_spec (a b:Int):Spec Tryz.prog 361 [.d (.int .i64 a),.d (.int .i64 b)] [] (fun r h'=>r=.d (.bool (decide (0≤a)&&decide (a≤b)&&decide (b≤73048)))∧h'=[]):=by
 refine qAb hT Tryz.func361 rfl rfl rfl rfl ?_;intro E hE
 refine ww ?_
 exact wwr
theorem bI_getD (s:List UInt8) (i:Nat):qDk s (i:Int)=bI (s.getD i 0):=strAt_nat s i
theorem vDq {s:List UInt8} {i:Nat} (h:i < s.length) (hn:qJo (s.getD i 0)=false):s.all qJo=false:=by
 rw [Bool.eq_false_iff]
 intro ha
 rw [List.all_eq_true] at ha
 have:=ha (s.getD i 0) (by rw [List.getD_eq_getElem?_getD,List.getElem?_eq_getElem h];exact List.getElem_mem h)
 rw [hn] at this
 cases this
theorem vDp {s:List UInt8} (h:∀ j,j < s.length→qJo (s.getD j 0)=true):s.all qJo=true:=by
 rw [List.all_eq_true]
 intro c hc
 obtain ⟨j,hj,rfl⟩:=List.getElem_of_mem hc
 have:=h j hj
 rwa [List.getD_eq_getElem?_getD,List.getElem?_eq_getElem hj] at this
theorem tName_spec (s:List UInt8) (hs:s.length≤1000000):Spec Tryz.prog 360 [.d (.str s)] [] (fun r h'=>r=.d (.bool (qHw s))∧h'=[]):=by
 have h0:=bI_getD s 0
 have hr0:0≤bI (s.getD 0 0)∧bI (s.getD 0 0) < 256:=by have:=(s.getD 0 0).toNat_lt;unfold bI;omega
 refine qAb hT Tryz.func360 rfl rfl rfl rfl ?_;intro E hE
 refine ww ?_
 refine qAa rfl (fun c1=>?_) (fun c1=>?_)
 ·rw [show qHw s=false by
   unfold qHw
   rw [show ((0:Nat):Int)=0 from rfl] at h0
   simp only [h0,Bool.or_eq_true,decide_eq_true_eq] at c1
   rw [Bool.and_eq_false_iff,Bool.and_eq_false_iff]
   unfold qHr
   simp only [decide_eq_false_iff_not]
   by_cases hq:1≤s.length∧s.length≤16
   ·exact .inl (.inr (by omega))
   ·exact .inl (.inl hq)]
  refine ww ?_
  exact wwr
 have c1':(1≤s.length∧s.length≤16)∧qHr (s.getD 0 0)=true:=by
  rw [show ((0:Nat):Int)=0 from rfl] at h0
  simp only [h0,Bool.or_eq_false_iff,decide_eq_false_iff_not] at c1
  unfold qHr
  simp only [decide_eq_true_eq]
  omega
 rw [show qHw s=s.all qJo by unfold qHw;rw [decide_eq_true c1'.1,c1'.2];rfl]
 generalize hfin:s.all qJo=fin
 refine ww ?_
 refine qAp (ι:=Nat) (fun i=>[(0,.d (.str s)),(23,.d (.int .i64 (s.length:Int))),(24,.d (.int .i64 (i:Int)))]) (fun _=>[]) (fun i=>i≤s.length∧∀ j,j < i→qJo (s.getD j 0)=true) (fun i=>s.length-i) 0 ⟨Nat.zero_le _,fun j hj=>by omega⟩
  ⟨.refl _,.refl _,.refl _,trivial⟩ (HLe.refl _) ?_
 intro i ⟨hi,hall⟩
 have hb:=bI_getD s i
 refine ww ?_
 refine qAa rfl (fun c2=>?_) (fun c2=>?_)
 ·have c2':i < s.length:=by simp at c2;omega
  refine ww ?_
  rw [hb]
  refine ww ?_
  refine qAa rfl (fun c3=>?_) (fun c3=>?_)
  ·rw [vDq c2' (by
    unfold qJo
    simp only [Bool.and_eq_true,Bool.or_eq_true,decide_eq_true_eq] at c3
    rw [decide_eq_false_iff_not]
    omega)] at hfin
   subst hfin
   refine ww ?_
   exact wwr
  refine ww ?_
  refine ⟨i+1,⟨c2',fun j hj=>?_⟩,by omega,⟨.refl _,.refl _,.int (by rw [qAf (by omega)];omega),trivial⟩,HLe.refl _⟩
  by_cases hji:j=i
  ·subst hji
   unfold qJo
   simp only [Bool.and_eq_false_iff,Bool.or_eq_false_iff,decide_eq_false_iff_not] at c3
   rw [decide_eq_true_eq]
   omega
  ·exact hall j (by omega)
 have c2':i=s.length:=by simp at c2;omega
 subst c2'
 rw [vDp hall] at hfin
 subst hfin
 refine ww ?_
 exact wwr
theorem qZk (p:Tp) (hs:p.holder.length≤1000000):Spec Tryz.prog 297 [vKi p] [] (fun r h'=>r=.d (.int .i64 (qJj p))∧h'=[]):=by
 have h1:=tName_spec p.holder hs
 have h2:=qFv p.key
 have h3:=tDays_spec p.frm p.til
 unfold qJj
 generalize qHw p.holder=a at h1 ⊢
 generalize qDe p.key=b at h2 ⊢
 obtain ⟨ho,key,ri,fr,ti⟩:=p
 simp only at *
 refine qAb hT Tryz.func297 rfl rfl rfl rfl ?_;intro E hE
 refine ww ?_
 refine wwc h1 ?_
 refine ww ?_
 refine qAa rfl (fun c1=>?_) (fun c1=>?_)
 ·rw [if_pos (by simpa using c1)]
  refine ww ?_
  exact wwr
 rw [if_neg (by simpa using c1)]
 refine ww ?_
 refine wwc h2 ?_
 refine ww ?_
 refine qAa rfl (fun c2=>?_) (fun c2=>?_)
 ·rw [if_pos (by simpa using c2)]
  refine ww ?_
  exact wwr
 rw [if_neg (by simpa using c2)]
 refine ww ?_
 refine qAa rfl (fun c3=>?_) (fun c3=>?_)
 ·rw [if_pos (by simpa using c3)]
  refine ww ?_
  exact wwr
 rw [if_neg (by simpa using c3)]
 refine ww ?_
 refine wwc h3 ?_
 refine ww ?_
 refine qAa rfl (fun c4=>?_) (fun c4=>?_)
 ·rw [if_pos (by simp at c4;omega)]
  refine ww ?_
  exact wwr
 rw [if_neg (by simp at c4;omega)]
 refine ww ?_
 exact wwr
def PredTp (g:FuncId) (first cap:List AV) (H:List AObj) (p:Tp→Bool) (l:List Tp):Prop :=
 ∀ c,c∈l→Spec Tryz.prog g (first++([vKi c]++cap)) H (fun r h'=>r=.d (.bool (p c))∧h'=H)
theorem qMl {l:List Tp} {g:FuncId} {first cap:List AV} {H:List AObj} {p:Tp→Bool} (hp:PredTp g first cap H p l) (hH:qEb H.length H=true) (h1:qCw H.length first=true) (h2:qCw H.length cap=true) (hl:l.length≤1000000000) :
  Spec Tryz.prog 393 [.d (.sl 5 (qCp l)),.fn (.func g) first cap] H (fun r h'=>r=.d (.int .i64 (qQb p l))∧h'=H):=by
 refine qAb hT Tryz.func393 rfl rfl rfl rfl ?_
 intro E hE
 have hlen:=encTps_length l
 refine ww ?_
 refine qAp (ι:=Nat) (fun k=>[(0,.d (.sl 5 (qCp l))),(1,.fn (.func g) first cap),(7,.d (.int .i64 (qCp l).length)),(8,.d (.int .i64 k))]) (fun _=>H) (fun k=>k≤l.length∧∀ j,(hj:j < k)→(hj2:j < l.length)→p l[j]=false) (fun k=>l.length-k) 0
  ⟨by omega,fun j hj=>by omega⟩ ⟨.refl _,.refl _,.refl _,.refl _,trivial⟩ (HLe.refl _) ?_
 intro k ⟨hk,hb⟩
 refine ww ?_
 refine qAa rfl (fun h1'=>?_) (fun h1'=>?_)
 ·have hlt:k < l.length:=by rw [hlen] at h1';simpa using h1'
  have hel:=encTps_at hlt
  have hpk:=hp l[k] (List.getElem_mem hlt)
  generalize hc:l[k]=c at hel hpk
  obtain ⟨c1,c2,c3,c4,c5⟩:=c
  unfold vAa at hel
  simp only at hel
  refine ww ?_
  refine qAd (qAc (indexAddr_ok hT rfl rfl rfl rfl (by omega) hel)) rfl ?_
  refine ww ?_
  refine qCr (qFs (Q:=fun r h'=>r=.d (.bool (p ⟨c1,c2,c3,c4,c5⟩))∧h'=H) rfl rfl (hpk.mono (fun r h' ⟨q1,q2⟩=>⟨⟨q1,q2⟩,by rw [q1];rfl,by rw [q2];exact hH⟩)) hH rfl ?_) rfl ?_
  ·have:∀ (a b:List AV),qCw H.length a=true→qCw H.length b=true→qCw H.length (a++b)=true:=by
    intro a
    induction a with
    | nil=>intro b _ hb;exact hb
    | cons x a ih=>intro b ha hb;simp only [qCw,Bool.and_eq_true,List.cons_append] at ha ⊢;exact ⟨ha.1,ih b ha.2 hb⟩
   exact this _ _ h1 (this [_] _ (by simp [qCw,low,vKi]) h2)
  rintro v h' ⟨rfl,rfl⟩
  refine ww ?_
  refine qAa rfl (fun h2'=>?_) (fun h2'=>?_)
  ·refine ww ?_
   refine qAh rfl (.refl _) (by simp) rfl rfl hH ⟨?_,rfl⟩
   show AV.d (.int .i64 (k:Int))=_
   rw [fIdx_at hlt (by rw [hc];exact h2') (fun j hj hj2=>hb j hj hj2)]
  ·refine ww ?_
   refine ⟨k+1,⟨by omega,fun j hj hj2=>?_⟩,by omega,⟨.refl _,.refl _,.refl _,AV.le.eq ?_,trivial⟩,HLe.refl _⟩
   ·by_cases hjk:j=k
    ·subst hjk;rw [hc];exact h2'
    ·exact hb j (by omega) hj2
   ·show AV.d (.int .i64 (IntKind.i64.wrap ((k:Int)+1)))=_
    rw [qAf (by omega)];rfl
 ·have hge:k=l.length:=by rw [hlen] at h1';simp at h1';omega
  refine ww ?_
  refine qAh rfl (.refl _) (by simp) rfl rfl hH ⟨?_,rfl⟩
  show AV.d (.int .i64 (-1))=_
  rw [fIdx_none (fun j hj=>hb j (by omega) hj)]
theorem qKg {l:List Tp} {g:FuncId} {first cap:List AV} {H:List AObj} {p:Tp→Bool} (hp:PredTp g first cap H p l) (hH:qEb H.length H=true) (h1:qCw H.length first=true) (h2:qCw H.length cap=true) (hl:l.length≤1000000000) :
  Spec Tryz.prog 362 [.d (.sl 5 (qCp l)),.fn (.func g) first cap] H (fun r h'=>r=.d (.bool (l.any p))∧h'=H):=by
 refine qAb hT Tryz.func362 rfl rfl rfl rfl ?_
 intro E hE
 have hs:=qMl hp hH h1 h2 hl
 refine ww ?_
 refine qCr (qFs (Q:=fun r h'=>r=.d (.int .i64 (qQb p l))∧h'=H) rfl rfl (hs.mono (fun r h' ⟨q1,q2⟩=>⟨⟨q1,q2⟩,by rw [q1];rfl,by rw [q2];exact hH⟩)) hH rfl ?_) rfl ?_
 ·simp [qCw,low,h1,h2]
 rintro v h' ⟨rfl,rfl⟩
 refine ww ?_
 refine qAh rfl (.refl _) (by simp) rfl rfl hH ⟨?_,rfl⟩
 show AV.d (.bool (decide (qQb p l≥0)))=_
 rw [fIdx_any]
theorem vCt (s:List UInt8) (q:Tp):Spec Tryz.prog 363 ([]++([vKi q]++[.ptr 0 0])) [.row [.d (.str s)]] (fun r h'=>r=.d (.bool (q.holder == s))∧h'=[.row [.d (.str s)]]):=by
 obtain ⟨ho,key,ri,fr,ti⟩:=q
 unfold vKi
 simp only
 refine qAb hT Tryz.func363 rfl rfl rfl rfl ?_;intro E hE
 refine qAj ?_
 refine wwe ?_
 refine qAk (qAg ?_)
 refine qAd (boxAt_ok (i0:=1) rfl rfl rfl) rfl ?_
 refine ww ?_
 exact qAh rfl (.refl _) rfl rfl rfl rfl ⟨rfl,rfl⟩
theorem vGa (l:List Tp) (s:List UInt8) (hl:l.length≤1000000):Spec Tryz.prog 298 [.d (.sl 5 (qCp l)),.d (.str s)] [] (fun r h'=>r=.d (.bool (l.any fun q=>q.holder == s))∧h'=[]):=by
 have c1:=qKg (p:=fun q=>q.holder == s) (l:=l) (fun y hy=>vCt s y) rfl rfl rfl (by omega)
 generalize (l.any fun q=>q.holder == s)=b at c1 ⊢
 refine qAb hT Tryz.func298 rfl rfl rfl rfl ?_;intro E hE
 refine qAj ?_
 refine wwe ?_
 refine qAk (qAg ?_)
 refine qAd (boxAt_ok (i0:=0) rfl rfl rfl) rfl ?_
 refine ww ?_
 refine qAd (qFt rfl rfl (c1) [0] (by decide) rfl rfl rfl rfl rfl rfl rfl) rfl ?_
 refine ww ?_
 exact wwr
theorem validTr_spec (l:List Tp) (day:Int) (hl:l.length≤1000000) (hs:∀ p,p∈l→p.holder.length≤1000000):Spec Tryz.prog 194 [.agg [.d (.sl 5 (qCp l)),.d (.int .i64 day)]] [] (fun r h'=>r=.d (.int .i64 (qDo l day))∧h'=[]):=by
 have hll:=encTps_length l
 unfold qDo
 generalize hf1:vEv l=f1
 generalize hf2:qWl [] l=f2
 refine qAb hT Tryz.func194 rfl rfl rfl rfl ?_;intro E hE
 refine ww ?_
 refine qAa rfl (fun c1=>?_) (fun c1=>?_)
 ·rw [hll] at c1
  rw [if_pos (by simp at c1;omega)]
  refine ww ?_
  exact wwr
 rw [hll] at c1
 rw [if_neg (by simp at c1;omega)]
 refine qBv ?_
 refine qCd (ι:=Unit) (fun _=>[(1,.ptr 0 0)]) (fun _=>[.row [.d (.sl 5 (qCp l)),.d (.int .i64 day)]]) (fun _=>f1=0) ?_ ?_
 ·refine ww ?_
  refine qBt (ι:=Nat) (fun i=>[(1,.ptr 0 0),(19,.d (.sl 5 (qCp l))),(20,.d (.int .i64 ((qCp l).length:Int))),(21,.d (.int .i64 (i:Int)))]) (fun _=>[.row [.d (.sl 5 (qCp l)),.d (.int .i64 day)]])
   (fun i=>i≤l.length∧vEv (l.drop i)=f1) (fun i=>l.length-i) 0 ⟨by omega,by simpa using hf1⟩ ⟨.refl _,.refl _,.refl _,.refl _,trivial⟩ (HLe.refl _) ?_
  rintro i ⟨hi,hg⟩
  have hwr:IntKind.i64.wrap ((i:Int)+1)=((i+1:Nat):Int):=by rw [qAf (by omega)];simp
  refine ww ?_
  refine qAa rfl (fun c2=>?_) (fun c2=>?_)
  ·have c2':i < l.length:=by rw [hll] at c2;simpa using c2
   have hel:=encTps_at c2'
   have hdr:l.drop i=l[i]::l.drop (i+1):=List.drop_eq_getElem_cons c2'
   have hpt:=qZk l[i] (hs _ (List.getElem_mem c2'))
   rw [hdr,vEv] at hg
   generalize l[i]=x at hel hg hpt
   obtain ⟨x1,x2,x3,x4,x5⟩:=x
   unfold vAa at hel
   simp only at hel
   generalize qJj ⟨x1,x2,x3,x4,x5⟩=e at hpt hg
   refine ww ?_
   refine wwi hel ?_
   refine ww ?_
   refine wwc hpt ?_
   refine ww ?_
   refine qAa rfl (fun c3=>?_) (fun c3=>?_)
   ·rw [if_pos (by simpa using c3)] at hg
    subst hg
    rw [if_pos (by simpa using c3)]
    refine ww ?_
    exact wwr
   rw [if_neg (by simpa using c3)] at hg
   refine ww ?_
   exact ⟨i+1,[_],⟨c2',hg⟩,by omega,⟨.refl _,.refl _,.refl _,.int hwr,trivial⟩,HLe.refl _,Env.below_mono hE (by simp),rfl,rfl⟩
  ·have c2':i=l.length:=by rw [hll] at c2;simp at c2;omega
   subst c2'
   rw [List.drop_length,vEv] at hg
   refine ww ?_
   exact ⟨(),hg.symm,⟨.refl _,trivial⟩,HLe.refl _⟩
 rintro ⟨⟩ h1
 rw [if_neg (by simpa using h1)]
 refine qCd (ι:=Unit) (fun _=>[(1,.ptr 0 0)]) (fun _=>[.row [.d (.sl 5 (qCp l)),.d (.int .i64 day)]]) (fun _=>f2=false) ?_ ?_
 ·refine ww ?_
  refine qBt (ι:=Nat) (fun i=>[(1,.ptr 0 0),(32,.d (.sl 5 (qCp l))),(33,.d (.int .i64 ((qCp l).length:Int))),(34,.d (.int .i64 (i:Int)))]) (fun _=>[.row [.d (.sl 5 (qCp l)),.d (.int .i64 day)]])
   (fun i=>i≤l.length∧qWl (l.take i) (l.drop i)=f2) (fun i=>l.length-i) 0 ⟨by omega,by simpa using hf2⟩ ⟨.refl _,.refl _,.refl _,.refl _,trivial⟩ (HLe.refl _) ?_
  rintro i ⟨hi,hg⟩
  have hwr:IntKind.i64.wrap ((i:Int)+1)=((i+1:Nat):Int):=by rw [qAf (by omega)];simp
  refine ww ?_
  refine qAa rfl (fun c2=>?_) (fun c2=>?_)
  ·have c2':i < l.length:=by rw [hll] at c2;simpa using c2
   have hel:=encTps_at c2'
   have hdr:l.drop i=l[i]::l.drop (i+1):=List.drop_eq_getElem_cons c2'
   have htk:l.take (i+1)=l.take i++[l[i]]:=List.take_succ_eq_append_getElem c2'
   have hha:=vGa (l.take i) l[i].holder (by rw [List.length_take];omega)
   have hcl:(qCp l).take ((i:Int)).toNat=qCp (l.take i):=by
    rw [Int.toNat_natCast]
    simp [qCp,List.map_take]
   rw [hdr,qWl] at hg
   generalize ((l.take i).any fun q=>q.holder == l[i].holder)=b at hha hg
   generalize l[i]=x at hel hg hha htk
   obtain ⟨x1,x2,x3,x4,x5⟩:=x
   unfold vAa at hel
   simp only at hel hha
   refine ww ?_
   refine wwi hel ?_
   refine wws ?_
   refine qAk (qAw (fun i=>bif Nat.beq i 1 then [0] else bif Nat.beq i 5 then [1] else []) (fun _=>[]) mixed (by kernel_rfl) ?_)
   refine wwg ?_
   rw [hcl]
   refine wwg ?_
   refine wwdc hha ?_
   refine wwg ?_
   refine ww ?_
   refine qAa rfl (fun c3=>?_) (fun c3=>?_)
   ·rw [c3] at hg
    simp only [Bool.true_or] at hg
    subst hg
    rw [if_pos rfl]
    refine ww ?_
    exact wwr
   rw [c3] at hg
   simp only [Bool.false_or] at hg
   rw [← htk] at hg
   refine ww ?_
   exact ⟨i+1,[_],⟨c2',hg⟩,by omega,⟨.refl _,.refl _,.refl _,.int hwr,trivial⟩,HLe.refl _,Env.below_mono hE (by simp),rfl,rfl⟩
  ·have c2':i=l.length:=by rw [hll] at c2;simp at c2;omega
   subst c2'
   rw [List.drop_length,qWl] at hg
   refine ww ?_
   exact ⟨(),hg.symm,⟨.refl _,trivial⟩,HLe.refl _⟩
 rintro ⟨⟩ h2
 rw [if_neg (by rw [h2];simp)]
 refine ww ?_
 refine qAa rfl (fun c5=>?_) (fun c5=>?_)
 ·rw [if_pos (by simpa using c5)]
  refine ww ?_
  exact wwr
 rw [if_neg (by simpa using c5)]
 refine ww ?_
 exact wwr
end Tdoc
namespace Tdoc
open Go Go.Proofs
theorem vBq (n:Int):Int.fdiv n (2 ^ (min (16:Int).toNat IntKind.i64.bits))=n / 65536:=by
 rw [show (2 ^ (min (16:Int).toNat IntKind.i64.bits):Int)=65536 from rfl,Int.fdiv_eq_ediv_of_nonneg _ (by omega)]
theorem dayB_enc (n:Int):qAl (qOz n)=[[.int .u8 (IntKind.u8.wrap (Int.fdiv n (2 ^ (min (16:Int).toNat IntKind.i64.bits))))],[.int .u8 (IntKind.u8.wrap (Int.fdiv n (2 ^ (min (8:Int).toNat IntKind.i64.bits))))],[.int .u8 (IntKind.u8.wrap n)]]:=by
 rw [vBq,qXq,bOf_wrap,bOf_wrap,bOf_wrap];rfl
theorem qRh (n:Int):Spec Tryz.prog 299 [.d (.int .i64 n)] [] (fun r h'=>r=.sl 1 (qAl (qOz n)) .full∧h'=[]):=by
 rw [dayB_enc]
 refine qAb hT Tryz.func299 rfl rfl rfl rfl ?_;intro E hE
 refine ww ?_
 exact wwr
def trN (l:List Tp) (day:Int) (i:Nat):List UInt8:=qOz day++[bOf l.length]++((l.take i).map tpB).flatten
theorem trN_succ {l:List Tp} {day:Int} {i:Nat} (h:i < l.length):trN l day (i+1)=trN l day i++tpB l[i]:=by
 unfold trN
 rw [List.take_succ_eq_append_getElem h,List.map_append,List.flatten_append]
 simp
theorem encB_one (n:Int):qAl [bOf n]=[[.int .u8 (IntKind.u8.wrap n)]]:=by rw [bOf_wrap];rfl
theorem encB_two (n:Int):qAl [bOf (n / 256),bOf n]=[[.int .u8 (IntKind.u8.wrap (Int.fdiv n (2 ^ (min (8:Int).toNat IntKind.i64.bits))))],[.int .u8 (IntKind.u8.wrap n)]]:=by rw [qXq,bOf_wrap,bOf_wrap];rfl
theorem tpB_enc (p:Tp):qAl (tpB p)=((((qAl [bOf p.holder.length]++qAl p.holder)++qAl (qAu 4 p.key.toNat))++qAl [bOf (p.rights / 256),bOf p.rights])++qAl (qOz p.frm))++qAl (qOz p.til):=by
 unfold tpB
 rw [show bOf (p.holder.length:Int)::(p.holder++qAu 4 p.key.toNat++[bOf (p.rights / 256),bOf p.rights]++qOz p.frm++qOz p.til)=[bOf (p.holder.length:Int)]++(p.holder++qAu 4 p.key.toNat++[bOf (p.rights / 256),bOf p.rights]++qOz p.frm++qOz p.til) from rfl]
 simp only [encB_append,List.append_assoc]
theorem goTp_ok:∀ {l:List Tp},vEv l=0→∀ p,p∈l→qJj p=0
 | [],_,p,h=>by cases h
 | q::l,h0,p,h=>by
  rw [vEv] at h0
  split at h0
  ·rename_i h1;exact absurd h0 h1
  rename_i h1
  rcases List.mem_cons.1 h with rfl | h
  ·simpa using h1
  ·exact goTp_ok h0 p h
theorem pointE_ok {p:Tp} (h:qJj p=0):qHw p.holder=true∧qDe p.key=true:=by
 unfold qJj at h
 split at h
 ·exact absurd h (by decide)
 split at h
 ·exact absurd h (by decide)
 rename_i h1 h2
 exact ⟨by simpa using h1,by simpa using h2⟩
theorem validTr_ok {l:List Tp} {day:Int} (h:qDo l day=0):(1≤l.length∧l.length≤2)∧(∀ p,p∈l→qJj p=0):=by
 unfold qDo at h
 split at h
 ·exact absurd h (by decide)
 split at h
 ·rename_i h1;exact absurd h h1
 rename_i h1 h2
 exact ⟨by omega,goTp_ok (by simpa using h2)⟩
theorem qNb {s:List UInt8} (h:qHw s=true):s.length≤16:=by
 unfold qHw at h
 simp only [Bool.and_eq_true,decide_eq_true_eq] at h
 exact h.1.1.2
theorem tpB_len (p:Tp):(tpB p).length=p.holder.length+13:=by simp [tpB,octB_length,qOz]
theorem trN_len {l:List Tp} (day:Int) (h:∀ p,p∈l→p.holder.length≤16):∀ i,i≤l.length→(trN l day i).length≤4+29*i
 | 0,_=>by simp [trN,qOz]
 | i+1,hi=>by
  rw [trN_succ (by omega),List.length_append,tpB_len]
  have h1:=trN_len day h i (by omega)
  have h2:=h _ (List.getElem_mem (show i < l.length by omega))
  omega
theorem trEnc_spec (l:List Tp) (day:Int) (hl:l.length≤1000000) (hs:∀ p,p∈l→p.holder.length≤1000000):Spec Tryz.prog 195 [.agg [.d (.sl 5 (qCp l)),.d (.int .i64 day)]] [] (fun r h'=>r=.tup [.d (.sl 1 (qAl (qMi l day).1)),.d (.int .i64 (qMi l day).2)]∧h'=[]):=by
 have hll:=encTps_length l
 have hv:=validTr_spec l day hl hs
 unfold qMi
 by_cases h0:qDo l day=0
 case neg =>
  rw [if_pos (by simpa using h0)]
  generalize qDo l day=e at hv h0 ⊢
  refine qAb hT Tryz.func195 rfl rfl rfl rfl ?_;intro E hE
  refine ww ?_
  refine wwc hv ?_
  refine ww ?_
  refine qAa rfl (fun c1=>?_) (fun c1=>?_)
  ·refine ww ?_
   exact wwr
  ·exact absurd (by simpa using c1) h0
 rw [if_neg (by simpa using h0)]
 rw [h0] at hv
 obtain ⟨hlen,hpts⟩:=validTr_ok h0
 have hnm:∀ p,p∈l→p.holder.length≤16:=fun p hp=>qNb (pointE_ok (hpts p hp)).1
 have htl:=trN_len (l:=l) day hnm
 have hd:=qRh day
 have ht0:qAl (trN l day 0)=qAl (qOz day)++[[.int .u8 (IntKind.u8.wrap (l.length:Int))]]:=by
  unfold trN
  rw [List.take_zero,List.map_nil,List.flatten_nil,List.append_nil,encB_append,encB_one]
 have htf:qKm l day=trN l day l.length:=by unfold qKm trN;rw [List.take_length]
 rw [htf]
 have hdl:(qAl (qOz day)).length=3:=rfl
 generalize qAl (qOz day)=db at hd ht0 hdl
 refine qAb hT Tryz.func195 rfl rfl rfl rfl ?_;intro E hE
 refine qAj ?_
 refine wwn ?_
 refine wwc hv ?_
 refine wwn ?_
 refine qAa rfl (fun c1=>?_) (fun c1=>?_)
 ·exact absurd c1 (by simp)
 refine wwn ?_
 refine qAw (fun i=>bif Nat.beq i 1||Nat.beq i 4 then [1] else bif Nat.beq i 8 then [0] else []) (fun i=>bif Nat.beq i 8 then [0] else []) mixed (by kernel_rfl) ?_
 refine wwg ?_
 refine wwdc hd ?_
 refine wwg ?_
 refine qAm (os:=[]) (fun k hk1 hk2=>buildSl_ok hT rfl rfl) rfl ?_
 rw [hll]
 refine qAm (v:=.sl 1 (db++[[Dat.int .u8 (IntKind.u8.wrap (l.length:Int))]]) (.right 0)) (os:=[.right 1 (db.length+1)]) (fun k hk1 hk2=>qKc (i:=0) (es2:=[[Dat.int .u8 (IntKind.u8.wrap (l.length:Int))]]) hT rfl rfl rfl (.inl rfl) (by simp) ((hk2 0 List.mem_cons_self).trans rfl) rfl (by show (db.length+1)*(1+1)≤_;omega)) rfl ?_
 refine wwg ?_
 refine wwn ?_
 refine qBt (ι:=Nat) (fun i=>[(1,.ptr 1 0),(5,.sl 1 (qAl (trN l day i)) (.right 0)),(25,.d (.sl 5 (qCp l))),(26,.d (.int .i64 (l.length:Int))),(27,.d (.int .i64 (i:Int)))]) (fun i=>[.right 1 (qAl (trN l day i)).length,.row [.d (.sl 5 (qCp l)),.d (.int .i64 day)]])
  (fun i=>i≤l.length) (fun i=>l.length-i) 0 (Nat.zero_le _) ⟨.refl _,.slt ht0.symm,.refl _,.int (by rw [hll]),.refl _,trivial⟩ ⟨⟨rfl,by rw [ht0,List.length_append];rfl⟩,ObLe.refl _,trivial⟩ ?_
 intro i hi
 have hwr:IntKind.i64.wrap ((i:Int)+1)=((i+1:Nat):Int):=by rw [qAf (by omega)];simp
 have hpl:(qAl (trN l day i)).length≤62:=by rw [encB_length];have:=htl i hi;omega
 refine wwn ?_
 refine qAa rfl (fun c3=>?_) (fun c3=>?_)
 ·have c3':i < l.length:=by simpa using c3
  have hel:=encTps_at c3'
  have hpo:=pointE_ok (hpts _ (List.getElem_mem c3'))
  have hho:=hnm _ (List.getElem_mem c3')
  have hsn:qAl (trN l day (i+1))=qAl (trN l day i)++qAl (tpB l[i]):=by rw [trN_succ c3',encB_append]
  rw [tpB_enc,encB_one,encB_two] at hsn
  have hge:=qFu l[i].key
  rw [if_pos hpo.2,if_pos hpo.2] at hge
  have hd1:=qRh l[i].frm
  have hd2:=qRh l[i].til
  have l1:(qAl (qAu 4 l[i].key.toNat)).length=4:=by rw [encB_length,octB_length]
  have l2:(qAl (qOz l[i].frm)).length=3:=rfl
  have l3:(qAl (qOz l[i].til)).length=3:=rfl
  have l4:=encB_length l[i].holder
  clear hpo
  generalize l[i]=x at hel hho hsn hge hd1 hd2 l1 l2 l3 l4
  obtain ⟨ho,key,ri,fr,ti⟩:=x
  unfold vAa at hel
  simp only at hel hho hsn hge hd1 hd2 l1 l2 l3 l4
  simp only [← List.append_assoc] at hsn
  generalize qAl (qAu 4 key.toNat)=kb at hge hsn l1
  generalize qAl (qOz fr)=fb at hd1 hsn l2
  generalize qAl (qOz ti)=tb at hd2 hsn l3
  generalize hhb:qAl ho=hb at hsn l4
  generalize qAl (trN l day i)=pre at hsn hpl ⊢
  refine wwn ?_
  refine wwi hel ?_
  refine wwn ?_
  refine wwc hge ?_
  refine wwn ?_
  refine qAa rfl (fun c4=>?_) (fun c4=>?_)
  ·exact absurd c4 (by simp)
  refine wwn ?_
  refine qAw (fun i=>bif Nat.beq i 2||Nat.beq i 8 then [2] else bif Nat.beq i 6||Nat.beq i 9||Nat.beq i 11 then [0] else []) (fun i=>bif Nat.beq i 6||Nat.beq i 9||Nat.beq i 11 then [0] else []) mixed (by kernel_rfl) ?_
  refine wwg ?_
  refine qAm (os:=[]) (fun k hk1 hk2=>buildSl_ok hT rfl rfl) rfl ?_
  refine qAm (v:=.sl 1 (pre++[[Dat.int .u8 (IntKind.u8.wrap (ho.length:Int))]]) (.right 0)) (os:=[.right 1 (pre++[[Dat.int .u8 (IntKind.u8.wrap (ho.length:Int))]]).length]) (fun k hk1 hk2=>qAi (i:=0) (es2:=[[Dat.int .u8 (IntKind.u8.wrap (ho.length:Int))]]) hT rfl rfl rfl rfl ((hk2 0 List.mem_cons_self).trans rfl) rfl (by show ((pre).length+([[Dat.int .u8 (IntKind.u8.wrap (ho.length:Int))]]).length)*(1+1)≤_;simp only [List.length_append,List.length_cons,List.length_nil];omega)) rfl ?_
  refine wwg ?_
  refine qAm (v:=.sl 1 ((pre++[[Dat.int .u8 (IntKind.u8.wrap (ho.length:Int))]])++hb) (.right 0)) (os:=[.right 1 ((pre++[[Dat.int .u8 (IntKind.u8.wrap (ho.length:Int))]])++hb).length]) (fun k hk1 hk2=>qAi (i:=0) (es2:=hb) hT rfl rfl rfl rfl ((hk2 0 List.mem_cons_self).trans rfl) (by rw [← hhb];rfl) (by show (((pre++[[Dat.int .u8 (IntKind.u8.wrap (ho.length:Int))]])).length+(hb).length)*(1+1)≤_;simp only [List.length_append,List.length_cons,List.length_nil];omega)) rfl ?_
  refine wwg ?_
  refine qAm (v:=.sl 1 (((pre++[[Dat.int .u8 (IntKind.u8.wrap (ho.length:Int))]])++hb)++kb) (.right 0)) (os:=[.right 1 (((pre++[[Dat.int .u8 (IntKind.u8.wrap (ho.length:Int))]])++hb)++kb).length]) (fun k hk1 hk2=>qAi (i:=0) (es2:=kb) hT rfl rfl rfl rfl ((hk2 0 List.mem_cons_self).trans rfl) rfl (by show ((((pre++[[Dat.int .u8 (IntKind.u8.wrap (ho.length:Int))]])++hb)).length+(kb).length)*(1+1)≤_;simp only [List.length_append,List.length_cons,List.length_nil];omega)) rfl ?_
  refine wwg ?_
  refine wwn ?_
  refine qAd (qAi (i:=0) (es2:=[[Dat.int .u8 (IntKind.u8.wrap (Int.fdiv ri (2 ^ (min (8:Int).toNat IntKind.i64.bits))))],[Dat.int .u8 (IntKind.u8.wrap ri)]]) hT rfl rfl rfl rfl rfl rfl (by show ((((pre++[[Dat.int .u8 (IntKind.u8.wrap (ho.length:Int))]])++hb)++kb).length+2)*(1+1)≤_;simp only [List.length_append,List.length_cons,List.length_nil];omega)) rfl ?_
  refine wwn ?_
  refine qAw (fun i=>bif Nat.beq i 2||Nat.beq i 6 then [2] else bif Nat.beq i 4||Nat.beq i 8 then [0] else []) (fun i=>bif Nat.beq i 4||Nat.beq i 8 then [0] else []) mixed (by kernel_rfl) ?_
  refine wwg ?_
  refine wwdc hd1 ?_
  refine qAm (v:=.sl 1 (((((pre++[[Dat.int .u8 (IntKind.u8.wrap (ho.length:Int))]])++hb)++kb)++[[Dat.int .u8 (IntKind.u8.wrap (Int.fdiv ri (2 ^ (min (8:Int).toNat IntKind.i64.bits))))],[Dat.int .u8 (IntKind.u8.wrap ri)]])++fb) (.right 0)) (os:=[.right 1 (((((pre++[[Dat.int .u8 (IntKind.u8.wrap (ho.length:Int))]])++hb)++kb)++[[Dat.int .u8 (IntKind.u8.wrap (Int.fdiv ri (2 ^ (min (8:Int).toNat IntKind.i64.bits))))],[Dat.int .u8 (IntKind.u8.wrap ri)]])++fb).length]) (fun k hk1 hk2=>qAi (i:=0) (es2:=fb) hT rfl rfl rfl rfl ((hk2 0 List.mem_cons_self).trans rfl) rfl (by show ((((((pre++[[Dat.int .u8 (IntKind.u8.wrap (ho.length:Int))]])++hb)++kb)++[[Dat.int .u8 (IntKind.u8.wrap (Int.fdiv ri (2 ^ (min (8:Int).toNat IntKind.i64.bits))))],[Dat.int .u8 (IntKind.u8.wrap ri)]])).length+(fb).length)*(1+1)≤_;simp only [List.length_append,List.length_cons,List.length_nil];omega)) rfl ?_
  refine wwg ?_
  refine wwdc hd2 ?_
  refine qAm (v:=.sl 1 ((((((pre++[[Dat.int .u8 (IntKind.u8.wrap (ho.length:Int))]])++hb)++kb)++[[Dat.int .u8 (IntKind.u8.wrap (Int.fdiv ri (2 ^ (min (8:Int).toNat IntKind.i64.bits))))],[Dat.int .u8 (IntKind.u8.wrap ri)]])++fb)++tb) (.right 0)) (os:=[.right 1 ((((((pre++[[Dat.int .u8 (IntKind.u8.wrap (ho.length:Int))]])++hb)++kb)++[[Dat.int .u8 (IntKind.u8.wrap (Int.fdiv ri (2 ^ (min (8:Int).toNat IntKind.i64.bits))))],[Dat.int .u8 (IntKind.u8.wrap ri)]])++fb)++tb).length]) (fun k hk1 hk2=>qAi (i:=0) (es2:=tb) hT rfl rfl rfl rfl ((hk2 0 List.mem_cons_self).trans rfl) rfl (by show (((((((pre++[[Dat.int .u8 (IntKind.u8.wrap (ho.length:Int))]])++hb)++kb)++[[Dat.int .u8 (IntKind.u8.wrap (Int.fdiv ri (2 ^ (min (8:Int).toNat IntKind.i64.bits))))],[Dat.int .u8 (IntKind.u8.wrap ri)]])++fb)).length+(tb).length)*(1+1)≤_;simp only [List.length_append,List.length_cons,List.length_nil];omega)) rfl ?_
  refine wwg ?_
  rw [← hsn]
  refine wwn ?_
  exact ⟨i+1,[_],c3',by omega,⟨.refl _,.refl _,.refl _,.refl _,.int hwr,trivial⟩,HLe.refl _,Env.below_mono hE (by simp),rfl,rfl⟩
 ·have c3':i=l.length:=by simp at c3;omega
  subst c3'
  refine wwn ?_
  refine rq ⟨rfl,rfl⟩ rfl (AV.le.tup ⟨AV.le.dat,.refl _,trivial⟩)
end Tdoc
namespace Tdoc
open Go Go.Proofs
theorem qTv (k:Int):Spec Tryz.prog 193 [.d (.int .i64 k)] [] (fun r h'=>r=.d (.bool (qQz k))∧h'=[]):=by
 have h:qQz k=(decide (k≥0)&&decide (k < 1073741789)):=by unfold qQz;rw [Bool.eq_iff_iff];simp
 rw [h]
 refine qAb hT Tryz.func193 rfl rfl rfl rfl ?_;intro E hE
 refine ww ?_
 exact wwr
theorem validP_spec (p:Per) (hp:PerLen p) (hn:∀ t,t∈p.tps→t.holder.length≤1000000):Spec Tryz.prog 107 [qQt p] [] (fun r h'=>r=.d (.int .i64 (qSo p))∧h'=[]):=by
 have h1:=validFs_spec p.root p.apps (by have:=hp.root.1;omega) (by have:=hp.apps.1;omega) (fun a ha=>by have:=(hp.apps.2.1 a ha).1;omega)
 have h2:=qOh p.infos hp.infos
 have h3:=qTv p.ck
 have h4:=qTv p.ak
 have h5:=validTr_spec p.tps p.tday hp.tps hn
 have l1:=encB_length p.number
 have l2:=encB_length p.pin
 have l3:=encB_length p.puk
 have l4:=encB_length p.ident
 have l5:=encB_length p.seed
 unfold qSo
 clear hp hn
 generalize qJq p.root p.apps=e1 at h1 ⊢
 generalize validI p.infos=e2 at h2 ⊢
 generalize qQz p.ck=e3 at h3 ⊢
 generalize qQz p.ak=e4 at h4 ⊢
 generalize qDo p.tps p.tday=e5 at h5 ⊢
 obtain ⟨root,apps,zone,number,pin,puk,pr,ur,basic,infos,ck,ak,tps,tday,ident,seed⟩:=p
 simp only at *
 refine qAb hT Tryz.func107 rfl rfl rfl rfl ?_;intro E hE
 refine ww ?_
 refine wwc h1 ?_
 refine ww ?_
 refine qAa rfl (fun c1=>?_) (fun c1=>?_)
 ·rw [if_pos (by simpa using c1)]
  refine ww ?_
  exact wwr
 rw [if_neg (by simpa using c1)]
 refine ww ?_
 refine qAa rfl (fun c2=>?_) (fun c2=>?_)
 ·rw [l1,l2,l3] at c2
  rw [if_pos (by simp at c2;omega)]
  refine ww ?_
  exact wwr
 rw [l1,l2,l3] at c2
 rw [if_neg (by simp at c2;omega)]
 refine ww ?_
 refine qAp (ι:=Nat) (fun i=>[(1,.ptr 0 0),(40,.agg [.d (.int .i64 pr),.d (.int .i64 ur)]),(41,.d (.int .i64 (i:Int)))]) (fun _=>[.row (qKq ⟨root,apps,zone,number,pin,puk,pr,ur,basic,infos,ck,ak,tps,tday,ident,seed⟩)])
  (fun i=>i≤2∧(1≤i→1≤pr∧pr≤15)∧(2≤i→1≤ur∧ur≤15)) (fun i=>2-i) 0 ⟨by omega,fun h=>by omega,fun h=>by omega⟩ ⟨.refl _,.refl _,.refl _,trivial⟩ (HLe.refl _) ?_
 rintro i ⟨hi,g1,g2⟩
 rcases (by omega:i=0∨i=1∨i=2) with rfl | rfl | rfl
 ·refine ww ?_
  refine qAa rfl (fun q=>?_) (fun q=>absurd q (by decide))
  refine ww ?_
  refine qAd (qAc (arrIdx_ok hT rfl rfl rfl rfl ⟨by decide,by decide⟩ rfl)) rfl ?_
  refine ww ?_
  refine qAa rfl (fun c3=>?_) (fun c3=>?_)
  ·rw [if_pos (by simp at c3;omega)]
   refine ww ?_
   exact wwr
  refine ww ?_
  exact ⟨1,⟨by omega,fun _=>by simp at c3;omega,fun h=>by omega⟩,by omega,⟨.refl _,.refl _,.refl _,trivial⟩,HLe.refl _⟩
 ·refine ww ?_
  refine qAa rfl (fun q=>?_) (fun q=>absurd q (by decide))
  refine ww ?_
  refine qAd (qAc (arrIdx_ok hT rfl rfl rfl rfl ⟨by decide,by decide⟩ rfl)) rfl ?_
  refine ww ?_
  refine qAa rfl (fun c3=>?_) (fun c3=>?_)
  ·rw [if_pos (by simp at c3;omega)]
   refine ww ?_
   exact wwr
  refine ww ?_
  exact ⟨2,⟨by omega,fun _=>g1 (by omega),fun _=>by simp at c3;omega⟩,by omega,⟨.refl _,.refl _,.refl _,trivial⟩,HLe.refl _⟩
 ·have g1:=g1 (by omega)
  have g2:=g2 (by omega)
  rw [if_neg (by omega)]
  refine ww ?_
  refine qAa rfl (fun q=>absurd q (by decide)) (fun q=>?_)
  refine ww ?_
  refine wwc h2 ?_
  refine ww ?_
  refine qAa rfl (fun c4=>?_) (fun c4=>?_)
  ·rw [if_pos (by simpa using c4)]
   refine ww ?_
   exact wwr
  rw [if_neg (by simpa using c4)]
  refine ww ?_
  refine wwc h3 ?_
  refine ww ?_
  refine wwgc h4 ?_
  refine ww ?_
  refine qAa rfl (fun c5=>?_) (fun c5=>?_)
  ·rw [if_pos (by simpa using c5)]
   refine ww ?_
   exact wwr
  rw [if_neg (by simpa using c5)]
  refine ww ?_
  refine wwc h5 ?_
  refine ww ?_
  refine qAa rfl (fun c6=>?_) (fun c6=>?_)
  ·rw [if_pos (by simpa using c6)]
   refine ww ?_
   exact wwr
  rw [if_neg (by simpa using c6)]
  refine ww ?_
  refine qAa rfl (fun c7=>?_) (fun c7=>?_)
  ·rw [l4,l5] at c7
   rw [if_pos (by simp at c7;omega)]
   refine ww ?_
   exact wwr
  rw [l4,l5] at c7
  rw [if_neg (by simp at c7;omega)]
  refine ww ?_
  exact wwr
theorem encRec_spec (pr ur:Int) (pin:List UInt8) (l:List Tp) (day:Int) (hpin:pin.length≤1000000) (hl:l.length≤1000000) (hs:∀ p,p∈l→p.holder.length≤1000000) :
  Spec Tryz.prog 108 [.agg [.d (.int .i64 pr),.d (.int .i64 ur),.d (.sl 1 (qAl pin)),.d (.sl 5 (qCp l)),.d (.int .i64 day)]] [] (fun r h'=>r=.tup [.d (.sl 1 (qAl (vFh pr ur pin l day).1)),.d (.int .i64 (vFh pr ur pin l day).2)]∧h'=[]):=by
 have h1:=trEnc_spec l day hl hs
 have hpl:=encB_length pin
 have htl:(qMi l day).1.length≤1000:=by
  unfold qMi
  by_cases h0:qDo l day=0
  ·rw [if_neg (by simpa using h0)]
   obtain ⟨hlen,hpts⟩:=validTr_ok h0
   have:=trN_len (l:=l) day (fun p hp=>qNb (pointE_ok (hpts p hp)).1) l.length (Nat.le_refl _)
   have htf:qKm l day=trN l day l.length:=by unfold qKm trN;rw [List.take_length]
   show (qKm l day).length≤1000
   rw [htf];omega
  ·rw [if_pos (by simpa using h0)];simp
 unfold vFh
 generalize qMi l day=R at h1 htl ⊢
 obtain ⟨R1,R2⟩:=R
 simp only at h1 htl ⊢
 refine qAb hT Tryz.func108 rfl rfl rfl rfl ?_;intro E hE
 refine ww ?_
 refine qAp (ι:=Nat) (fun i=>[(1,.ptr 0 0),(12,.agg [.d (.int .i64 pr),.d (.int .i64 ur)]),(13,.d (.int .i64 (i:Int)))]) (fun _=>[.row [.d (.int .i64 pr),.d (.int .i64 ur),.d (.sl 1 (qAl pin)),.d (.sl 5 (qCp l)),.d (.int .i64 day)]])
  (fun i=>i≤2∧(1≤i→0≤pr∧pr≤15)∧(2≤i→0≤ur∧ur≤15)) (fun i=>2-i) 0 ⟨by omega,fun h=>by omega,fun h=>by omega⟩ ⟨.refl _,.refl _,.refl _,trivial⟩ (HLe.refl _) ?_
 rintro i ⟨hi,g1,g2⟩
 rcases (by omega:i=0∨i=1∨i=2) with rfl | rfl | rfl
 ·refine ww ?_
  refine qAa rfl (fun q=>?_) (fun q=>absurd q (by decide))
  refine ww ?_
  refine qAd (qAc (arrIdx_ok hT rfl rfl rfl rfl ⟨by decide,by decide⟩ rfl)) rfl ?_
  refine ww ?_
  refine qAa rfl (fun c3=>?_) (fun c3=>?_)
  ·rw [if_pos (by simp at c3;omega)]
   refine ww ?_
   exact wwr
  refine ww ?_
  exact ⟨1,⟨by omega,fun _=>by simp at c3;omega,fun h=>by omega⟩,by omega,⟨.refl _,.refl _,.refl _,trivial⟩,HLe.refl _⟩
 ·refine ww ?_
  refine qAa rfl (fun q=>?_) (fun q=>absurd q (by decide))
  refine ww ?_
  refine qAd (qAc (arrIdx_ok hT rfl rfl rfl rfl ⟨by decide,by decide⟩ rfl)) rfl ?_
  refine ww ?_
  refine qAa rfl (fun c3=>?_) (fun c3=>?_)
  ·rw [if_pos (by simp at c3;omega)]
   refine ww ?_
   exact wwr
  refine ww ?_
  exact ⟨2,⟨by omega,fun _=>g1 (by omega),fun _=>by simp at c3;omega⟩,by omega,⟨.refl _,.refl _,.refl _,trivial⟩,HLe.refl _⟩
 ·have g1:=g1 (by omega)
  have g2:=g2 (by omega)
  rw [if_neg (by omega)]
  refine ww ?_
  refine qAa rfl (fun q=>absurd q (by decide)) (fun q=>?_)
  refine ww ?_
  refine qAa rfl (fun c4=>?_) (fun c4=>?_)
  ·rw [hpl] at c4
   rw [if_pos (by simp at c4;omega)]
   refine ww ?_
   exact wwr
  rw [hpl] at c4
  have c4':pin.length≤16:=by simp at c4;omega
  rw [if_neg (by omega)]
  refine ww ?_
  refine wwc h1 ?_
  refine ww ?_
  refine qAa rfl (fun c5=>?_) (fun c5=>?_)
  ·rw [if_pos (by simpa using c5)]
   refine ww ?_
   exact wwr
  rw [if_neg (by simpa using c5)]
  have hC:=qKj [[bOf pr,bOf ur,bOf pin.length],pin,R1] (by simp) (by simp) (by simp;omega)
  have hb:qJy [[bOf pr,bOf ur,bOf pin.length],pin,R1]=[[.sl 1 [[.int .u8 (IntKind.u8.wrap pr)],[.int .u8 (IntKind.u8.wrap ur)],[.int .u8 (IntKind.u8.wrap (pin.length:Int))]]],[.sl 1 (qAl pin)],[.sl 1 (qAl R1)]]:=by
   rw [bOf_wrap,bOf_wrap,bOf_wrap];rfl
  have hf:[[bOf pr,bOf ur,bOf pin.length],pin,R1].flatten=[bOf pr,bOf ur,bOf pin.length]++pin++R1:=by simp
  rw [hb,hf] at hC
  generalize [bOf pr,bOf ur,bOf pin.length]++pin++R1=out at hC ⊢
  refine ww ?_
  rw [hpl]
  refine ww ?_
  refine wwc hC ?_
  refine ww ?_
  exact wwr
end Tdoc
namespace Tdoc
open Go Go.Proofs
theorem qZu (n:Nat) (r:List UInt8) (hn:n < 281474976710656) (hr:r.length≤256):Spec Tryz.prog 197 [.d (.int .i64 (n:Int)),.d (.sl 1 (qAl r))] [] (fun v h'=>v=.d (.sl 1 (qAl (qPv n r)))∧h'=[]):=by
 have o1:=qDi n 6 (by omega) (by omega)
 have o2:=qDi r.length 2 (by omega) (by omega)
 have la:=octB_length 6 n
 have lb:=octB_length 2 r.length
 have hrl:=encB_length r
 unfold qPv
 generalize qAu 6 n=a at o1 la ⊢
 generalize qAu 2 r.length=b at o2 lb ⊢
 obtain ⟨K,hK⟩:∃ K:Nat,K=264:=⟨_,rfl⟩
 have hz:List.replicate 265 (AV.d (.int .u8 0))=qAn (0::List.replicate K 0):=by
  rw [show (265:Nat)=K+1 by omega,List.replicate_succ]
  simp [qAn]
 have f1:=setRun_fill [1] a (k:=K) (by omega)
 have f2:=setRun_fill ([1]++a) b (k:=K-a.length) (by omega)
 have f3:=setRun_fill ([1]++a++b) r (k:=K-a.length-b.length) (by omega)
 rw [show (([1]++a:List UInt8)).length*1=7 by simp;omega] at f2
 rw [show (([1]++a++b:List UInt8)).length*1=9 by simp;omega] at f3
 rw [show (([1]:List UInt8)).length*1=1 from rfl] at f1
 have ta:(qAl a).take 264=qAl a:=List.take_of_length_le (by rw [encB_length];omega)
 have tb:(qAl b).take 258=qAl b:=List.take_of_length_le (by rw [encB_length];omega)
 have tr:(qAl r).take 256=qAl r:=List.take_of_length_le (by rw [encB_length];omega)
 have hal:=encB_length a
 have hbl:=encB_length b
 have hfin:1::(a++b++r++List.replicate (256-r.length) 0)=[1]++a++b++r++List.replicate (K-a.length-b.length-r.length) (0:UInt8):=by
  rw [show K-a.length-b.length-r.length=256-r.length by omega];simp
 rw [hfin]
 refine qAb hT Tryz.func197 rfl rfl rfl rfl ?_;intro E hE
 refine qAk (qAg ?_)
 refine wws ?_
 refine qAk (qAg ?_)
 refine qAd (makeRow1_ok (n:=265) (z:=.d (.int .u8 0)) hT rfl rfl rfl rfl (by decide) (by decide)) rfl ?_
 rw [hz]
 refine wws ?_
 refine qAk (qAg ?_)
 refine wws ?_
 refine qAd (qAc (rowAddr_ok (sz:=1) hT rfl rfl rfl rfl ⟨by decide,by decide⟩)) rfl ?_
 refine qCc (qEv (i:=0) (off:=0) hT rfl rfl rfl rfl rfl rfl (by rw [byteAV_length];simp)) (forceS_eq _ _) ?_
 refine wws ?_
 refine qAo (l:=[(0,.d (.int .i64 (n:Int))),(1,.d (.sl 1 (qAl r))),(5,.row 0 0 265 265)]) (h':=[.row (qAn ([1]++List.replicate K 0))]) ⟨.refl _,.refl _,.refl _,trivial⟩ (HLe.refl _) ?_
 refine qAk (qAg ?_)
 refine wws ?_
 refine wwc o1 ?_
 refine wws ?_
 refine qAk (qAg ?_)
 refine wws ?_
 refine qAd (qAc (rowCut_ok (sz:=1) (l:=1) (r:=265) hT rfl rfl rfl ⟨_,rfl⟩ rfl (by omega) (by omega))) rfl ?_
 refine wws ?_
 refine qAd (copyDat_ok (i:=0) (off:=1) (n:=264) hT rfl rfl rfl rfl rfl (by rw [byteAV_length];simp;omega)) rfl ?_
 rw [ta,f1]
 refine qCi ?_
 refine qAo (l:=[(0,.d (.int .i64 (n:Int))),(1,.d (.sl 1 (qAl r))),(5,.row 0 0 265 265)]) (h':=[.row (qAn ([1]++a++List.replicate (K-a.length) 0))]) ⟨.refl _,.refl _,.refl _,trivial⟩ (HLe.refl _) ?_
 refine qAk (qAg ?_)
 refine wws ?_
 rw [hrl]
 refine wwc o2 ?_
 refine wws ?_
 refine qAk (qAg ?_)
 refine wws ?_
 refine qAd (qAc (rowCut_ok (sz:=1) (l:=7) (r:=265) hT rfl rfl rfl ⟨_,rfl⟩ rfl (by omega) (by omega))) rfl ?_
 refine wws ?_
 refine qAd (copyDat_ok (i:=0) (off:=7) (n:=258) hT rfl rfl rfl rfl rfl (by rw [byteAV_length];simp;omega)) rfl ?_
 rw [tb,f2]
 refine qCi ?_
 refine qAo (l:=[(0,.d (.int .i64 (n:Int))),(1,.d (.sl 1 (qAl r))),(5,.row 0 0 265 265)]) (h':=[.row (qAn ([1]++a++b++List.replicate (K-a.length-b.length) 0))]) ⟨.refl _,.refl _,.refl _,trivial⟩ (HLe.refl _) ?_
 refine qAk (qAg ?_)
 refine wws ?_
 refine qAd (qAc (rowCut_ok (sz:=1) (l:=9) (r:=265) hT rfl rfl rfl ⟨_,rfl⟩ rfl (by omega) (by omega))) rfl ?_
 refine wws ?_
 refine qAd (copyDat_ok (i:=0) (off:=9) (n:=256) hT rfl rfl rfl rfl rfl (by rw [byteAV_length];simp;omega)) rfl ?_
 rw [tr,f3]
 refine qCi ?_
 have htl:([1]++a++b++r++List.replicate (K-a.length-b.length-r.length) (0:UInt8)).length=265:=by simp;omega
 generalize [1]++a++b++r++List.replicate (K-a.length-b.length-r.length) (0:UInt8)=tot at htl ⊢
 refine qAo (l:=[(5,.row 0 0 265 265)]) (h':=[.row (qAn tot)]) ⟨.refl _,trivial⟩ (HLe.refl _) ?_
 refine qLa 5 0 1 (qAl tot) rfl rfl (by rw [encB_length,htl]) (by omega) (qFa tot) ?_
 refine ww ?_
 exact wwr
theorem vLi (k:Nat):List.replicate k [Dat.int .u8 0]=qAl (List.replicate k 0):=by unfold qAl;rw [List.map_replicate];rfl
theorem vAb (r:List UInt8) (hr:r.length≤1000000):Spec Tryz.prog 109 [.d (.sl 1 (qAl r))] [] (fun v h'=>v=(if r.length > 256 then .tup [.agg [.d (.sl 1 []),.d (.sl 1 [])],.d (.int .i64 2)] else .tup [.agg [.d (.sl 1 (qAl (qPv 0 r))),.d (.sl 1 (qAl (List.replicate 265 0)))],.d (.int .i64 0)])∧h'=[]):=by
 have hrl:=encB_length r
 have hi:=qZu 0 r (by omega)
 by_cases h0:r.length > 256
 ·rw [if_pos h0]
  clear hi
  refine qAb hT Tryz.func109 rfl rfl rfl rfl ?_;intro E hE
  refine ww ?_
  refine qAa rfl (fun c1=>?_) (fun c1=>?_)
  ·refine ww ?_
   exact wwr
  ·rw [hrl] at c1
   simp at c1
   omega
 ·rw [if_neg h0]
  have hi:=hi (by omega)
  generalize qAl (qPv 0 r)=im at hi ⊢
  refine qAb hT Tryz.func109 rfl rfl rfl rfl ?_;intro E hE
  refine wwn ?_
  refine qAa rfl (fun c1=>?_) (fun c1=>?_)
  ·rw [hrl] at c1
   simp at c1
   omega
  refine wwn ?_
  refine qAw (fun i=>bif Nat.beq i 5 then [0] else []) (fun i=>bif Nat.beq i 5 then [0] else []) mixed (by kernel_rfl) ?_
  refine wwg ?_
  refine wwdc hi ?_
  refine wwg ?_
  refine qAm (os:=[]) (fun k hk1 hk2=>makeDat_ok (n:=265) (z:=.int .u8 0) hT rfl rfl rfl rfl (by decide) (by decide)) rfl ?_
  rw [vLi]
  generalize qAl (List.replicate 265 0)=ze
  refine wwg ?_
  refine ww ?_
  exact wwr
end Tdoc
namespace Tdoc
open Go Go.Proofs
def qEo (sta:List UInt8) (next:Nat) (kind:Int) (issuer own k:Nat) (day u t:Int):Nal:=⟨sta,kind,next,issuer,own,qJu k,day,qDg day u,qDg day t,0,0⟩
theorem certF_N (a:Aut) (kind:Int) (issuer own k:Nat) (day u t:Int):qHu a kind issuer own k day u t=qEo a.sta a.next kind issuer own k day u t:=rfl
theorem signersF_eq (a:Aut) (day:Int):qBq a day={ a with signer:=qBr (a.secs.getD (a.secs.length-1) 0) (qEo a.sta a.next 3 a.secs.length (1000+a.next) (qDr a.seed) day 90 3740),lister:=qBr (a.secs.getD (a.secs.length-1) 0) (qEo a.sta (a.next+1) 4 a.secs.length (1000+(a.next+1)) (qDr (qAv a.seed)) day 365 730),sk:=qDr a.seed,lk:=qDr (qAv a.seed),next:=a.next+1+1,seed:=qAv (qAv a.seed) }:=rfl
theorem qLy (a:Aut) (ha:AutOk a) (hn:a.next≤98) (hs:1≤a.secs.length∧a.secs.length≤100) (day:Int) (hday:0≤day∧day≤73048) :
  Spec Tryz.prog 68 [.ptr 0 0,.d (.int .i64 day)] (qKb a) (fun r h'=>r=.d (.int .i64 0)∧h'=qKb (qBq a day)):=by
 rw [signersF_eq]
 have hnx:=ha.next
 have hst:=ha.sta
 have hlast:=ha.last hs.1
 have hr1:=secS_range a.seed
 have hr2:=secS_range (qAv a.seed)
 have hs1:=qIa a (by have:=ha.seed;omega)
 have hsl:(qAv a.seed).length=32:=sumW_length _
 have hs2:∀ b:Aut,b.seed=qAv a.seed→Spec Tryz.prog 86 [.ptr 0 0] (qKb b) (fun r h'=>r=.d (.int .i64 (qDr (qAv a.seed):Int))∧h'=qKb { b with seed:=qAv (qAv a.seed) }):=fun b hb=>by
  have h:=qIa b (by rw [hb];omega)
  rw [hb] at h
  exact h
 obtain ⟨sta,roots,links,secs,signer,lister,sk,lk,next,list,rev,defs,seed⟩:=a
 simp only at *
 clear ha
 generalize qAv (qAv seed)=n2 at *
 generalize qDr (qAv seed)=k2 at *
 generalize qAv seed=n1 at *
 generalize qDr seed=k1 at *
 have hi1:=qIp ⟨sta,roots,links,secs,signer,lister,k1,lk,next,list,rev,defs,n1⟩ 3 secs.length (1000+next) k1 day 90 3740 (by show next≤_;omega) (by show 1≤secs.length∧secs.length≤secs.length∧secs.length≤1000;omega) hr1 hday (by omega) hlast
  (certF_chk hst (by show 1≤next∧next≤1000000;omega) (by omega) (by omega) (by omega) ⟨fun h=>by omega,fun h=>by omega⟩ hr1 hday (by omega))
 rw [certF_N] at hi1
 simp only at hi1
 generalize qBr (secs.getD (secs.length-1) 0) (qEo sta next 3 secs.length (1000+next) k1 day 90 3740)=c1 at *
 have hi2:=qIp ⟨sta,roots,links,secs,c1,lister,k1,k2,next+1,list,rev,defs,n2⟩ 4 secs.length (1000+(next+1)) k2 day 365 730 (by show next+1≤_;omega) (by show 1≤secs.length∧secs.length≤secs.length∧secs.length≤1000;omega) hr2 hday (by omega) hlast
  (certF_chk hst (by show 1≤next+1∧next+1≤1000000;omega) (by omega) (by omega) (by omega) ⟨fun h=>by omega,fun h=>by omega⟩ hr2 hday (by omega))
 rw [certF_N] at hi2
 simp only at hi2
 generalize qBr (secs.getD (secs.length-1) 0) (qEo sta (next+1) 4 secs.length (1000+(next+1)) k2 day 365 730)=c2 at *
 have hs2:=hs2 ⟨sta,roots,links,secs,c1,lister,k1,lk,next+1,list,rev,defs,n1⟩ rfl
 simp only at hs2
 have hlen:=encNs'_len secs
 have ew1:IntKind.i64.wrap (1000+(next:Int))=((1000+next:Nat):Int):=by rw [qAf (by omega)];omega
 have ew3:IntKind.i64.wrap (1000+((next+1:Nat):Int))=((1000+(next+1):Nat):Int):=by rw [qAf (by omega)];omega
 clear hlast hr1 hr2 hst
 refine qAb hT Tryz.func68 rfl rfl rfl rfl ?_;intro E hE
 refine ww ?_
 refine qAd (qBx (v:=.d (.int .i64 (k1:Int))) (H':=qKb ⟨sta,roots,links,secs,signer,lister,sk,lk,next,list,rev,defs,n1⟩) rfl rfl hs1 [0,1,2,3] (by decide) rfl rfl rfl rfl rfl rfl) rfl ?_
 refine wws ?_
 refine qAo (l:=[(0,.ptr 0 0),(1,.d (.int .i64 day))]) (h':=qKb ⟨sta,roots,links,secs,signer,lister,k1,lk,next,list,rev,defs,n1⟩) ⟨.refl _,.refl _,trivial⟩ (HLe.refl _) ?_
 refine qAk (qAk (qAw (fun i=>bif Nat.beq i 5||Nat.beq i 10||Nat.beq i 15||Nat.beq i 23 then [0] else bif Nat.beq i 17 then [0,1,2,3] else []) (fun i=>bif Nat.beq i 17 then [0,1,2,3] else bif Nat.beq i 23 then [0] else []) mixed (by kernel_rfl) ?_))
 refine wwg ?_
 rw [hlen,ew1]
 refine qAm (v:=.tup [qOy c1,.d (.int .i64 0)]) (os:=qKb ⟨sta,roots,links,secs,signer,lister,k1,lk,next+1,list,rev,defs,n1⟩) (fun k hk1 hk2=>qBx rfl rfl hi1 [0,1,2,3] (by decide)
  (by show [k[0]?,k[1]?,k[2]?,k[3]?]=_;rw [hk2 0 (by decide),hk2 1 (by decide),hk2 2 (by decide),hk2 3 (by decide)];rfl) rfl rfl rfl rfl rfl) rfl ?_
 refine wwg ?_
 refine qAo (l:=[(0,.ptr 0 0),(1,.d (.int .i64 day)),(5,.d (.int .i64 0))]) (h':=qKb ⟨sta,roots,links,secs,c1,lister,k1,lk,next+1,list,rev,defs,n1⟩) ⟨.refl _,.refl _,.refl _,trivial⟩ (HLe.refl _) ?_
 refine ww ?_
 refine qAa rfl (fun q1=>?_) (fun q1=>?_)
 ·exact absurd q1 (by simp)
 refine qBv ?_
 refine qAk (qAg ?_)
 refine wws ?_
 refine qAd (qBx (v:=.d (.int .i64 (k2:Int))) (H':=qKb ⟨sta,roots,links,secs,c1,lister,k1,lk,next+1,list,rev,defs,n2⟩) rfl rfl hs2 [0,1,2,3] (by decide) rfl rfl rfl rfl rfl rfl) rfl ?_
 refine wws ?_
 refine qAo (l:=[(0,.ptr 0 0),(1,.d (.int .i64 day))]) (h':=qKb ⟨sta,roots,links,secs,c1,lister,k1,k2,next+1,list,rev,defs,n2⟩) ⟨.refl _,.refl _,trivial⟩ (HLe.refl _) ?_
 refine qAk (qAw (fun i=>bif Nat.beq i 5||Nat.beq i 10||Nat.beq i 15||Nat.beq i 23 then [0] else bif Nat.beq i 17 then [0,1,2,3] else []) (fun i=>bif Nat.beq i 17 then [0,1,2,3] else bif Nat.beq i 23 then [0] else []) mixed (by kernel_rfl) ?_)
 refine wwg ?_
 rw [hlen,ew3]
 refine qAm (v:=.tup [qOy c2,.d (.int .i64 0)]) (os:=qKb ⟨sta,roots,links,secs,c1,lister,k1,k2,next+1+1,list,rev,defs,n2⟩) (fun k hk1 hk2=>qBx rfl rfl hi2 [0,1,2,3] (by decide)
  (by show [k[0]?,k[1]?,k[2]?,k[3]?]=_;rw [hk2 0 (by decide),hk2 1 (by decide),hk2 2 (by decide),hk2 3 (by decide)];rfl) rfl rfl rfl rfl rfl) rfl ?_
 refine wwg ?_
 refine qAo (l:=[(0,.ptr 0 0),(1,.d (.int .i64 day)),(5,.d (.int .i64 0))]) (h':=qKb ⟨sta,roots,links,secs,c1,c2,k1,k2,next+1+1,list,rev,defs,n2⟩) ⟨.refl _,.refl _,.refl _,trivial⟩ (HLe.refl _) ?_
 refine ww ?_
 exact wwr
end Tdoc
namespace Tdoc
open Go Go.Proofs
theorem rootF_eq (a:Aut) (day:Int):qCv a day={ a with secs:=a.secs++[qDr a.seed],seed:=qAv a.seed,roots:=a.roots++[qBr (qDr a.seed) (qEo a.sta a.next 1 (a.secs.length+1) (a.secs.length+1) (qDr a.seed) day 1825 5475)],next:=a.next+1 }:=rfl
theorem encNs'_snoc (l:List Nat) (k:Nat):encNs' (l++[k])=encNs' l++[[.int .i64 (k:Int)]]:=by unfold encNs';rw [List.map_append];rfl
theorem encNls_snoc (l:List Nal) (c:Nal):qBb (l++[c])=qBb l++[qJh c]:=by unfold qBb;rw [List.map_append];rfl
theorem encNls_len (l:List Nal):(qBb l).length=l.length:=by simp [qBb]
theorem getD_snoc (l:List Nat) (k:Nat):(l++[k]).getD (l.length+1-1) 0=k:=by simp [List.getD_eq_getElem?_getD]
theorem qSz (a:Aut) (ha:AutOk a) (hn:a.next≤98) (hs:a.secs.length≤100∧a.roots.length≤100) (day:Int) (hday:0≤day∧day≤73048) :
  Spec Tryz.prog 67 [.ptr 0 0,.d (.int .i64 day)] (qKb a) (fun r h'=>r=.d (.int .i64 0)∧h'=qKb (qCv a day)):=by
 rw [rootF_eq]
 have hnx:=ha.next
 have hst:=ha.sta
 have hr1:=secS_range a.seed
 have hs1:=qIa a (by have:=ha.seed;omega)
 obtain ⟨sta,roots,links,secs,signer,lister,sk,lk,next,list,rev,defs,seed⟩:=a
 simp only at *
 clear ha
 generalize qAv seed=n1 at *
 generalize qDr seed=k1 at *
 have hgd:=getD_snoc secs k1
 have hll:(secs++[k1]).length=secs.length+1:=by simp
 have hi1:=qIp ⟨sta,roots,links,secs++[k1],signer,lister,sk,lk,next,list,rev,defs,n1⟩ 1 (secs.length+1) (secs.length+1) k1 day 1825 5475 (by show next≤_;omega) (by show 1≤secs.length+1∧secs.length+1≤(secs++[k1]).length∧(secs++[k1]).length≤1000;omega) hr1 hday (by omega)
  (by show 1≤(secs++[k1]).getD (secs.length+1-1) 0∧(secs++[k1]).getD (secs.length+1-1) 0 < qG;rw [hgd];exact hr1)
  (certF_chk hst (by show 1≤next∧next≤1000000;omega) (by omega) (by omega) (by omega) ⟨fun _=>rfl,fun _=>rfl⟩ hr1 hday (by omega))
 rw [certF_N] at hi1
 simp only at hi1
 rw [hgd] at hi1
 generalize qBr k1 (qEo sta next 1 (secs.length+1) (secs.length+1) k1 day 1825 5475)=c1 at *
 have hlen:(encNs' (secs++[k1])).length=secs.length+1:=by rw [encNs'_len,hll]
 have hlen0:=encNs'_len secs
 have hlr:=encNls_len roots
 have hsn:=encNs'_snoc secs k1
 have hsr:=encNls_snoc roots c1
 clear hr1 hst hgd
 refine qAb hT Tryz.func67 rfl rfl rfl rfl ?_;intro E hE
 refine qAk (qAg ?_)
 refine wws ?_
 refine qAk (qAg ?_)
 refine wws ?_
 refine qAd (qBx (v:=.d (.int .i64 (k1:Int))) (H':=qKb ⟨sta,roots,links,secs,signer,lister,sk,lk,next,list,rev,defs,n1⟩) rfl rfl hs1 [0,1,2,3] (by decide) rfl rfl rfl rfl rfl rfl) rfl ?_
 refine wws ?_
 refine qAk (qAg ?_)
 refine wws ?_
 refine qAd (qAi (i:=1) hT rfl rfl rfl rfl rfl rfl (by show ((encNs' secs).length+1)*(8+1)≤_;omega)) rfl ?_
 refine wws ?_
 refine qAo (l:=[(0,.ptr 0 0),(1,.d (.int .i64 day)),(5,.d (.int .i64 (k1:Int)))]) (h':=qKb ⟨sta,roots,links,secs++[k1],signer,lister,sk,lk,next,list,rev,defs,n1⟩) ⟨.refl _,.refl _,.refl _,trivial⟩
  ⟨ObLe.row (by show _=vJp _ _ _ (.sl 1 (encNs' (secs++[k1])) (.right 1));rw [hsn];rfl),⟨rfl,by rw [hsn]⟩,ObLe.refl _,ObLe.refl _,trivial⟩ ?_
 refine qAk (qAg ?_)
 refine wws ?_
 refine qAo (l:=[(0,.ptr 0 0),(1,.d (.int .i64 day)),(5,.d (.int .i64 (k1:Int))),(6,.d (.int .i64 ((secs.length+1:Nat):Int)))]) (h':=qKb ⟨sta,roots,links,secs++[k1],signer,lister,sk,lk,next,list,rev,defs,n1⟩) ⟨.refl _,.refl _,.refl _,.int (by rw [hlen]),trivial⟩ (HLe.refl _) ?_
 refine qAk (qAg ?_)
 refine wws ?_
 refine qAd (qBx (v:=.tup [qOy c1,.d (.int .i64 0)]) (H':=qKb ⟨sta,roots,links,secs++[k1],signer,lister,sk,lk,next+1,list,rev,defs,n1⟩) rfl rfl hi1 [0,1,2,3] (by decide) rfl rfl rfl rfl rfl rfl) rfl ?_
 refine wws ?_
 refine qAo (l:=[(0,.ptr 0 0),(7,.ptr 4 0),(8,.d (.int .i64 0))]) (h':=qKb ⟨sta,roots,links,secs++[k1],signer,lister,sk,lk,next+1,list,rev,defs,n1⟩++[.row (qBi c1)]) ⟨.refl _,.refl _,.refl _,trivial⟩ (HLe.refl _) ?_
 refine qAk (qAw (fun i=>bif Nat.beq i 4||Nat.beq i 10 then [0] else bif Nat.beq i 5 then [4] else bif Nat.beq i 7 then [2] else []) (fun i=>bif Nat.beq i 7 then [2] else bif Nat.beq i 10 then [0] else []) mixed (by kernel_rfl) ?_)
 refine wwg ?_
 refine qAm (os:=[]) (fun k hk1 hk2=>buildSl_ok hT rfl rfl) rfl ?_
 refine qAm (v:=.sl 11 (qBb roots++[qJh c1]) (.right 2)) (os:=[.right 11 (qBb roots++[qJh c1]).length]) (fun k hk1 hk2=>qAi (i:=2) (es2:=[qJh c1]) hT rfl rfl rfl rfl ((hk2 2 List.mem_cons_self).trans rfl) rfl (by show ((qBb roots).length+1)*(96+1)≤_;omega)) rfl ?_
 rw [← hsr]
 refine wwg ?_
 refine ww ?_
 exact wwr
end Tdoc
namespace Tdoc
open Go Go.Proofs
def aut1 (sta seed:List UInt8):Aut:=⟨sta,[],[],[],nl0,nl0,0,0,1,1,[],[],seed⟩
theorem beginF_eq (sta seed:List UInt8) (day:Int):qUb sta seed day=qBq (qCv (aut1 sta seed) day) day:=rfl
theorem beginA_eq (sta seed:List UInt8) (day:Int):qIi sta seed day=if qCo sta=false then (aut0,60) else if day < 0∨73048 < day then (aut0,8) else (qUb sta seed day,0):=rfl
theorem qRu {sta seed:List UInt8} (h:qCo sta=true) (hs:seed.length≤1000):AutOk (aut1 sta seed):=⟨h,by show 1≤1∧1≤100;omega,(fun k hk=>by cases hk),hs⟩
def vJo (a:Aut):List AObj:=[.row (vJp a (.sl 11 (qBb a.roots) (.right 3)) (.sl 11 (qBb a.links) (.right 4)) (.sl 1 (encNs' a.secs) (.right 2))),.right 1 (encNs' a.secs).length,.right 11 (qBb a.roots).length,.right 11 (qBb a.links).length]
def qEc (sta:List UInt8) (n:Int) (sd:AV):List AV:=[.d (.str sta),.sl 11 [] .full,.sl 11 [] .full,.sl 1 [] .full]++qBi nl0++qBi nl0++[.d (.int .i64 0),.d (.int .i64 0),.d (.int .i64 n),.d (.int .i64 n),.sl 1 [] .full,.sl 5 [] .full,sd]
theorem autZ_le (sta seed:List UInt8):ObLe (.row ((((qEc sta 1 (.d (.sl 1 (qAl seed)))).set 3 (.sl 1 [] (.right 2))).set 1 (.sl 11 [] (.right 3))).set 2 (.sl 11 [] (.right 4)))) (.row (vJp (aut1 sta seed) (.sl 11 (qBb (aut1 sta seed).roots) (.right 3)) (.sl 11 (qBb (aut1 sta seed).links) (.right 4)) (.sl 1 (encNs' (aut1 sta seed).secs) (.right 2)))):=by
 show AllLe _ _
 repeat' (first | exact trivial | exact AV.le.refl _ | exact AV.le.dat | refine ⟨?_,?_⟩)
theorem autC_le (a:Aut):ObLe (.row (vJp a (.sl 11 (qBb a.roots) (.right 3)) (.sl 11 (qBb a.links) (.right 4)) (.sl 1 (encNs' a.secs) (.right 2)))) (.row (qAe a)):=by
 show AllLe _ _
 exact ⟨.refl _,.dat,.dat,.dat,AllLe.refl _⟩
theorem autL (a:Aut):qMe T 38 (qAe a) 0=some (.agg (qAe a)):=loadA_agg (i:=(T.find 38).getD ⟨.str,0,0,[]⟩) rfl rfl (by show 0+33≤33;omega) (List.take_of_length_le (Nat.le_refl 33))
theorem autS (a:Aut):qHh T 38 (qEc [] 0 (.sl 1 [] .full)) 0 (.agg (qAe a))=some (qAe a):=storeA_agg (i:=(T.find 38).getD ⟨.str,0,0,[]⟩) rfl rfl (by show 0+33≤33;omega) (setRun_full rfl)
theorem qXf (sta seed:List UInt8) (day:Int) (hsta:sta.length≤1000000000) (hseed:seed.length≤1000) (h1:qCo sta=true) (hday:0≤day∧day≤73048):Spec Tryz.prog 15 [.d (.str sta),.d (.sl 1 (qAl seed)),.d (.int .i64 day)] [] (fun r h'=>r=.tup [qEp (qUb sta seed day),.d (.int .i64 0)]∧h'=[]):=by
 have hst:=qLn sta hsta
 rw [h1] at hst
 rw [beginF_eq]
 have hok:=qRu h1 hseed
 have hro:=rootF_ok hok (by show 1≤99;omega) day
 have hrt:=qSz (aut1 sta seed) hok (by show 1≤98;omega) (by show 0≤100∧0≤100;omega) day hday
 have hcl:=qCb (qAl seed) (by rw [encB_length];omega)
 have hl1:(qCv (aut1 sta seed) day).secs.length=(aut1 sta seed).secs.length+1:=hro.2.1
 have hn1:(qCv (aut1 sta seed) day).next=(aut1 sta seed).next+1:=hro.2.2
 rw [show (aut1 sta seed).secs.length=0 from rfl] at hl1
 rw [show (aut1 sta seed).next=1 from rfl] at hn1
 have hok1:=hro.1
 clear hro
 generalize qCv (aut1 sta seed) day=A1 at hrt hok1 hl1 hn1 ⊢
 have hct:=qLy A1 hok1 (by omega) (by omega) day hday
 generalize qBq A1 day=A2 at hct ⊢
 refine qAb hT Tryz.func15 rfl rfl rfl rfl ?_;intro E hE
 refine ww ?_
 refine wwc hst ?_
 refine ww ?_
 refine qAa rfl (fun c1=>?_) (fun c1=>?_)
 ·exact absurd c1 (by simp)
 refine ww ?_
 refine qAa rfl (fun c2=>?_) (fun c2=>?_)
 ·exact absurd c2 (by simp;omega)
 refine ww ?_
 refine wwc hcl ?_
 refine wk hT rfl rfl ?_
 refine wk hT rfl rfl ?_
 refine qCc (storeAgg_ok (i:=1) (off:=0) (cs:=qEc sta 1 (.d (.sl 1 (qAl seed)))) hT rfl rfl rfl rfl rfl rfl (by decide) (setRun_full rfl)) rfl ?_
 refine qCi ?_
 refine qAj (qAj (qAj ?_))
 refine qCe 1 3 2 1 rfl rfl rfl ?_
 refine qCe 1 1 3 11 rfl rfl rfl ?_
 refine qCe 1 2 4 11 rfl rfl rfl ?_
 refine qAo (l:=[(2,.d (.int .i64 day)),(6,.ptr 0 0),(8,.ptr 1 0)]) (h':=.row (qEc [] 0 (.sl 1 [] .full))::vJo (aut1 sta seed)) ⟨.refl _,.refl _,.refl _,trivial⟩ ⟨ObLe.row rfl,autZ_le sta seed,ObLe.refl _,ObLe.refl _,ObLe.refl _,trivial⟩ ?_
 clear hcl hst h1 hok hok1
 generalize aut1 sta seed=A0 at *
 refine qAk (qAk (qAg ?_))
 refine wws ?_
 refine qAd (qBx (v:=.d (.int .i64 0)) (H':=.row (qEc [] 0 (.sl 1 [] .full))::vJo A1) rfl rfl hrt [1,2,3,4] (by decide) rfl rfl rfl rfl rfl rfl) rfl ?_
 refine ww ?_
 refine qAa rfl (fun c3=>?_) (fun c3=>?_)
 ·exact absurd c3 (by simp)
 refine qBv ?_
 refine qAk (qAk (qAg ?_))
 refine wws ?_
 refine qAd (qBx (v:=.d (.int .i64 0)) (H':=.row (qEc [] 0 (.sl 1 [] .full))::vJo A2) rfl rfl hct [1,2,3,4] (by decide) rfl rfl rfl rfl rfl rfl) rfl ?_
 refine ww ?_
 refine qAa rfl (fun c4=>?_) (fun c4=>?_)
 ·exact absurd c4 (by simp)
 refine qBv ?_
 refine qAo (l:=[(6,.ptr 0 0),(8,.ptr 1 0)]) (h':=[.row (qEc [] 0 (.sl 1 [] .full)),.row (qAe A2),.dead,.dead,.dead]) ⟨.refl _,.refl _,trivial⟩ ⟨ObLe.refl _,autC_le A2,trivial,trivial,trivial,trivial⟩ ?_
 refine qAk (qAg ?_)
 refine qAd (qBy (i:=1) (off:=0) hT rfl rfl rfl (autL A2)) rfl ?_
 refine qCc (qBe (i:=0) (off:=0) hT rfl rfl rfl (autS A2)) (forceS_eq _ _) ?_
 refine ww ?_
 refine rq ⟨rfl,rfl⟩ rfl (.refl _)
theorem qLo (sta seed:List UInt8) (day:Int) (hsta:sta.length≤1000000000) (hseed:seed.length≤1000):Spec Tryz.prog 15 [.d (.str sta),.d (.sl 1 (qAl seed)),.d (.int .i64 day)] [] (fun r h'=>r=.tup [qEp (qIi sta seed day).1,.d (.int .i64 (qIi sta seed day).2)]∧h'=[]):=by
 have hst:=qLn sta hsta
 rw [beginA_eq]
 by_cases h1:qCo sta=true
 ·rw [if_neg (by rw [h1];simp)]
  by_cases h2:day < 0∨73048 < day
  ·rw [if_pos h2]
   rw [h1] at hst
   refine qAb hT Tryz.func15 rfl rfl rfl rfl ?_;intro E hE
   refine ww ?_
   refine wwc hst ?_
   refine ww ?_
   refine qAa rfl (fun c1=>?_) (fun c1=>?_)
   ·exact absurd c1 (by simp)
   refine ww ?_
   refine qAa rfl (fun c2=>?_) (fun c2=>?_)
   ·refine ww ?_
    exact wwr
   ·exact absurd c2 (by simp;omega)
  ·rw [if_neg h2]
   exact qXf sta seed day hsta hseed h1 (by omega)
 ·rw [if_pos (by simpa using h1)]
  rw [show qCo sta=false by simpa using h1] at hst
  refine qAb hT Tryz.func15 rfl rfl rfl rfl ?_;intro E hE
  refine ww ?_
  refine wwc hst ?_
  refine ww ?_
  refine qAa rfl (fun c1=>?_) (fun c1=>?_)
  ·refine ww ?_
   exact wwr
  ·exact absurd c1 (by simp)
end Tdoc
