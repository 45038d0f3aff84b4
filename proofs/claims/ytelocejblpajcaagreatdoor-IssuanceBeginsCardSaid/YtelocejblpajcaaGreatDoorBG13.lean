/- Part 13 of the proof: the texts KE KF KG KX JI JK JL JM LA KY LB LC LD LE LF. -/
import Derived.Test.YtelocejblpajcaaGreatDoorBG12
set_option maxHeartbeats 8000000
set_option maxRecDepth 100000
set_option linter.unusedVariables false
set_option linter.unusedSimpArgs false
namespace Tdoc
open Go Go.Proofs
theorem Next0 (n:Int) (hn:n≤4611686018427387904):Spec Tryz.prog 20 [.ptr 0 0,.d (.int .i64 n)] [.row (dice [] 0)] (fun r h'=>r=.d (.int .i64 0)∧h'=[.row (dice [] 0)]):=vEd [] 0 n hn (by simp) (by simp)
theorem Two0:Spec Tryz.prog 26 [.d (.int .i64 0)] [] (fun r h'=>r=.d (.str [48,48])∧h'=[]):=by
 have hm:=qMy 0 100 (by omega)
 rw [show qVc 0 100=0 from rfl] at hm
 refine qAb hT Tryz.func26 rfl rfl rfl rfl ?_;intro E hE
 refine ww ?_
 refine wwc hm ?_
 refine ww ?_
 refine qHf hT rfl rfl (by intro e he;simp at he;rcases he with rfl | rfl <;> exact ⟨_,rfl⟩) ?_
 refine ww ?_
 refine rq ⟨rfl,rfl⟩ rfl (.refl _)
def qVz:List AV:=[.d (.str []),.d (.str []),.d (.str []),.d (.str []),.d (.str []),.d (.str []),.d (.int .i64 0),.sl 1 [] .full,.d (.bool false),.sl 5 [] .full,.d (.int .i64 0),.sl 1 [] .full]
def qJv (ex:Int) (pr:AV) (ch:Bool) (tr:AV) (td:Int):List AV:=[.d (.str [76,48,48,48,48,65,66]),.d (.str [69,82,73,75,83,83,79,78]),.d (.str [65,78,78,65,32,77,65,82,73,65]),.d (.str [85,84,79]),.d (.str [55,52,48,56,49,50]),.d (.str [70]),.d (.int .i64 ex),pr,.d (.bool ch),tr,.d (.int .i64 td),.sl 1 [] .full]
def prC:Nat→AV
 | 2=>.sl 1 [] .full
 | 3=>.sl 1 [[.int .i64 2]] (.right 3)
 | 4=>.sl 1 [[.int .i64 2],[.int .i64 3]] (.right 3)
 | 5=>.sl 1 [[.int .i64 2],[.int .i64 3],[.int .i64 4]] (.right 3)
 | 6=>.sl 1 [[.int .i64 2],[.int .i64 3],[.int .i64 4],[.int .i64 5]] (.right 3)
 | _=>.sl 1 [[.int .i64 2],[.int .i64 3],[.int .i64 4],[.int .i64 5],[.int .i64 6]] (.right 3)
def prR:Nat→AObj
 | 2=>.room
 | 3=>.right 1 1
 | 4=>.right 1 2
 | 5=>.right 1 3
 | 6=>.right 1 4
 | _=>.right 1 5
def qFy:List (List Dat):=[[.int .i64 2],[.int .i64 3],[.int .i64 4],[.int .i64 5],[.int .i64 6]]
def qDf (h:Int):List (List Dat):=[[.str [82,79,79,84,49],.int .i64 h,.int .i64 15,.int .i64 0,.int .i64 73048]]
def qRc:Int:=qSk (vHm (scN [82,79,79,84,49] 5))
theorem Order0:Spec Tryz.prog 9 [.nils] [] (fun r h'=>r=.agg (qJv 39500 (.d (.sl 1 qFy)) false (.d (.sl 5 (qDf qRc))) 30000)∧h'=[]):=by
 have hh:Spec Tryz.prog 27 [.d (.str [82,79,79,84,49])] [] (fun r h'=>r=.d (.int .i64 qRc)∧h'=[]):=qUp [82,79,79,84,49] (by simp)
 generalize qRc=hr at hh ⊢
 have hroll:=vDv [] (by simp)
 have hst:=qWr 0
 rw [show stN 0=[85,84,79] from rfl] at hst
 refine qAb hT Tryz.func9 rfl rfl rfl rfl ?_;intro E hE
 refine qAj (qAj (qAj (qAj ?_)))
 refine qAk (qAg ?_)
 refine qAd (allocAt_ok (i0:=1) (i:=⟨.struct [(0,1,false),(1,1,false),(2,1,false),(3,1,false),(4,1,false),(5,1,false),(6,1,false),(7,1,false),(8,1,false),(9,2,true),(11,1,false)],12,192,qVz⟩) hT rfl rfl rfl) rfl ?_
 refine qCi ?_
 refine qAo (l:=[(0,.d (.sl 1 (qHp .i64 []))),(2,.ptr 1 0)]) (h':=[.room,.row qVz,.room,.room]) ⟨.nils,.refl _,trivial⟩ (HLe.refl _) ?_
 refine qAk (qAg ?_)
 refine wk hT rfl rfl ?_
 refine qAd (qBx (v:=.ptr 0 0) (H':=[.row (dice [] 0),.row qVz,.room,.room]) rfl rfl hroll [0] (by decide) rfl rfl rfl rfl rfl rfl) rfl ?_
 refine wws ?_
 refine qAo (l:=[(2,.ptr 1 0),(3,.ptr 0 0)]) (h':=[.row (dice [] 0),.row qVz,.room,.room]) ⟨.refl _,.refl _,trivial⟩ (HLe.refl _) ?_
 refine qAk (qAw (fun i=>bif [1,5,11,16,20,24,30,34,39].contains i then [0] else bif Nat.beq i 42||Nat.beq i 43 then [2] else []) (fun i=>bif [1,5,11,16,20,24,30,34,39].contains i then [0] else bif Nat.beq i 42||Nat.beq i 43 then [2] else []) mixed (by kernel_rfl) ?_)
 refine wwg ?_
 refine qAm (v:=.d (.int .i64 0)) (os:=[.row (dice [] 0)]) (fun k hk1 hk2=>qBx rfl rfl (Next0 100 (by omega)) [0] (by decide) (by show [k[0]?]=_;rw [hk2 0 (by decide)];rfl) rfl rfl rfl rfl rfl) rfl ?_
 refine wwg ?_
 refine wwdc Two0 ?_
 refine qBo hT (fun _=>rfl) rfl rfl (by decide) ?_
 refine wwg ?_
 refine qAm (v:=.d (.int .i64 0)) (os:=[.row (dice [] 0)]) (fun k hk1 hk2=>qBx rfl rfl (Next0 100 (by omega)) [0] (by decide) (by show [k[0]?]=_;rw [hk2 0 (by decide)];rfl) rfl rfl rfl rfl rfl) rfl ?_
 refine wwg ?_
 refine wwdc Two0 ?_
 refine qBo hT (fun _=>rfl) rfl rfl (by decide) ?_
 refine qBo hT (fun _=>rfl) rfl rfl (by decide) ?_
 refine qAm (os:=[]) (fun k hk1 hk2=>buildSl_ok hT rfl rfl) rfl ?_
 refine wwg ?_
 refine qAm (v:=.d (.int .i64 0)) (os:=[.row (dice [] 0)]) (fun k hk1 hk2=>qBx rfl rfl (Next0 3 (by omega)) [0] (by decide) (by show [k[0]?]=_;rw [hk2 0 (by decide)];rfl) rfl rfl rfl rfl rfl) rfl ?_
 refine qAm (os:=[]) (fun k hk1 hk2=>qAc (indexAddr_ok hT rfl rfl rfl rfl (by omega) rfl)) rfl ?_
 refine wwg ?_
 refine qAm (os:=[]) (fun k hk1 hk2=>buildSl_ok hT rfl rfl) rfl ?_
 refine wwg ?_
 refine qAm (v:=.d (.int .i64 0)) (os:=[.row (dice [] 0)]) (fun k hk1 hk2=>qBx rfl rfl (Next0 3 (by omega)) [0] (by decide) (by show [k[0]?]=_;rw [hk2 0 (by decide)];rfl) rfl rfl rfl rfl rfl) rfl ?_
 refine qAm (os:=[]) (fun k hk1 hk2=>qAc (indexAddr_ok hT rfl rfl rfl rfl (by omega) rfl)) rfl ?_
 refine wwg ?_
 refine qAm (v:=.d (.int .i64 0)) (os:=[.row (dice [] 0)]) (fun k hk1 hk2=>qBx rfl rfl (Next0 3 (by omega)) [0] (by decide) (by show [k[0]?]=_;rw [hk2 0 (by decide)];rfl) rfl rfl rfl rfl rfl) rfl ?_
 refine wwdc hst ?_
 refine wwg ?_
 refine qAm (os:=[]) (fun k hk1 hk2=>buildSl_ok hT rfl rfl) rfl ?_
 refine wwg ?_
 refine qAm (v:=.d (.int .i64 0)) (os:=[.row (dice [] 0)]) (fun k hk1 hk2=>qBx rfl rfl (Next0 2 (by omega)) [0] (by decide) (by show [k[0]?]=_;rw [hk2 0 (by decide)];rfl) rfl rfl rfl rfl rfl) rfl ?_
 refine qAm (os:=[]) (fun k hk1 hk2=>qAc (indexAddr_ok hT rfl rfl rfl rfl (by omega) rfl)) rfl ?_
 refine wwg ?_
 refine qBo hT (fun _=>rfl) rfl rfl (by decide) ?_
 refine wwg ?_
 refine qAm (os:=[]) (fun k hk1 hk2=>buildSl_ok hT rfl rfl) rfl ?_
 refine wwg ?_
 refine qAm (v:=.d (.int .i64 0)) (os:=[.row (dice [] 0)]) (fun k hk1 hk2=>qBx rfl rfl (Next0 3 (by omega)) [0] (by decide) (by show [k[0]?]=_;rw [hk2 0 (by decide)];rfl) rfl rfl rfl rfl rfl) rfl ?_
 refine qAm (os:=[]) (fun k hk1 hk2=>qAc (indexAddr_ok hT rfl rfl rfl rfl (by omega) rfl)) rfl ?_
 refine wwg ?_
 refine qAm (v:=.d (.int .i64 0)) (os:=[.row (dice [] 0)]) (fun k hk1 hk2=>qBx rfl rfl (Next0 8 (by omega)) [0] (by decide) (by show [k[0]?]=_;rw [hk2 0 (by decide)];rfl) rfl rfl rfl rfl rfl) rfl ?_
 refine wwg ?_
 refine qAm (v:=.d (.int .i64 0)) (os:=[.row (dice [] 0)]) (fun k hk1 hk2=>qBx rfl rfl (Next0 4 (by omega)) [0] (by decide) (by show [k[0]?]=_;rw [hk2 0 (by decide)];rfl) rfl rfl rfl rfl rfl) rfl ?_
 refine wwg ?_
 refine qAm (v:=.ptr 2 0) (os:=[.row qVz]) (fun k hk1 hk2=>allocAt_ok (i0:=2) (i:=⟨.struct [(0,1,false),(1,1,false),(2,1,false),(3,1,false),(4,1,false),(5,1,false),(6,1,false),(7,1,false),(8,1,false),(9,2,true),(11,1,false)],12,192,qVz⟩) hT rfl rfl ((hk2 2 List.mem_cons_self).trans rfl)) rfl ?_
 refine qAm (v:=.any) (os:=[.row (qJv 39500 (.sl 1 [] .full) false (.sl 5 [] .full) 0)]) (fun k hk1 hk2=>qBe (i:=2) (off:=0) hT rfl rfl ((hk2 2 List.mem_cons_self).trans rfl) rfl) rfl ?_
 refine wwg ?_
 refine qAo (l:=[(2,.ptr 1 0),(3,.ptr 0 0),(4,.ptr 2 0)]) (h':=[.row (dice [] 0),.row qVz,.row (qJv 39500 (.sl 1 [] .full) false (.sl 5 [] .full) 0),.room]) ⟨.refl _,.refl _,.refl _,trivial⟩ (HLe.refl _) ?_
 refine ww ?_
 refine qAp (ι:=Nat) (fun i=>[(2,.ptr 1 0),(3,.ptr 0 0),(4,.ptr 2 0),(5,.d (.int .i64 (i:Int)))]) (fun i=>[.row (dice [] 0),.row qVz,.row (qJv 39500 (prC i) false (.sl 5 [] .full) 0),prR i]) (fun i=>2≤i∧i≤7) (fun i=>7-i) 2 (by omega)
  ⟨.refl _,.refl _,.refl _,.refl _,trivial⟩ (HLe.refl _) ?_
 intro i hi
 by_cases h7:i=7
 ·subst h7
  refine ww ?_
  refine qAa rfl (fun c1=>absurd c1 (by decide)) (fun c1=>?_)
  refine ww ?_
  refine qAd (qBx (v:=.d (.int .i64 0)) (H':=[.row (dice [] 0),.row qVz,.row (qJv 39500 (prC 7) false (.sl 5 [] .full) 0),prR 7]) rfl rfl (Next0 4 (by omega)) [0] (by decide) rfl rfl rfl rfl rfl rfl) rfl ?_
  refine ww ?_
  refine qAa rfl (fun c=>absurd c (by decide)) (fun c=>?_)
  refine ww ?_
  refine qAd (qBx (v:=.d (.int .i64 0)) (H':=[.row (dice [] 0),.row qVz,.row (qJv 39500 (prC 7) false (.sl 5 [] .full) 0),prR 7]) rfl rfl (Next0 8 (by omega)) [0] (by decide) rfl rfl rfl rfl rfl rfl) rfl ?_
  refine ww ?_
  refine qAa rfl (fun c=>absurd c (by decide)) (fun c=>?_)
  refine ww ?_
  refine wwc hh ?_
  refine ww ?_
  exact wwr
 rcases (by omega:i=2∨i=3∨i=4∨i=5∨i=6) with rfl | rfl | rfl | rfl | rfl
 ·refine ww ?_
  refine qAa rfl (fun c1=>?_) (fun c1=>absurd c1 (by decide))
  refine ww ?_
  refine qAd (qBx (v:=.d (.int .i64 0)) (H':=[.row (dice [] 0),.row qVz,.row (qJv 39500 (prC 2) false (.sl 5 [] .full) 0),prR 2]) rfl rfl (Next0 4 (by omega)) [0] (by decide) rfl rfl rfl rfl rfl rfl) rfl ?_
  refine ww ?_
  refine qAa rfl (fun c2=>?_) (fun c2=>absurd c2 (by decide))
  refine ww ?_
  refine qAd (qCl (i:=3) (es2:=[[.int .i64 2]]) hT rfl rfl rfl (.inl rfl) (by simp) rfl rfl (by decide)) rfl ?_
  refine ww ?_
  exact ⟨3,by omega,by omega,⟨.refl _,.refl _,.refl _,.refl _,trivial⟩,HLe.refl _⟩
 ·refine ww ?_
  refine qAa rfl (fun c1=>?_) (fun c1=>absurd c1 (by decide))
  refine ww ?_
  refine qAd (qBx (v:=.d (.int .i64 0)) (H':=[.row (dice [] 0),.row qVz,.row (qJv 39500 (prC 3) false (.sl 5 [] .full) 0),prR 3]) rfl rfl (Next0 4 (by omega)) [0] (by decide) rfl rfl rfl rfl rfl rfl) rfl ?_
  refine ww ?_
  refine qAa rfl (fun c2=>?_) (fun c2=>absurd c2 (by decide))
  refine ww ?_
  refine qAd (qDz (i:=3) (es2:=[[.int .i64 3]]) hT rfl rfl rfl rfl rfl rfl (by decide)) rfl ?_
  refine ww ?_
  exact ⟨4,by omega,by omega,⟨.refl _,.refl _,.refl _,.refl _,trivial⟩,HLe.refl _⟩
 ·refine ww ?_
  refine qAa rfl (fun c1=>?_) (fun c1=>absurd c1 (by decide))
  refine ww ?_
  refine qAd (qBx (v:=.d (.int .i64 0)) (H':=[.row (dice [] 0),.row qVz,.row (qJv 39500 (prC 4) false (.sl 5 [] .full) 0),prR 4]) rfl rfl (Next0 4 (by omega)) [0] (by decide) rfl rfl rfl rfl rfl rfl) rfl ?_
  refine ww ?_
  refine qAa rfl (fun c2=>?_) (fun c2=>absurd c2 (by decide))
  refine ww ?_
  refine qAd (qDz (i:=3) (es2:=[[.int .i64 4]]) hT rfl rfl rfl rfl rfl rfl (by decide)) rfl ?_
  refine ww ?_
  exact ⟨5,by omega,by omega,⟨.refl _,.refl _,.refl _,.refl _,trivial⟩,HLe.refl _⟩
 ·refine ww ?_
  refine qAa rfl (fun c1=>?_) (fun c1=>absurd c1 (by decide))
  refine ww ?_
  refine qAd (qBx (v:=.d (.int .i64 0)) (H':=[.row (dice [] 0),.row qVz,.row (qJv 39500 (prC 5) false (.sl 5 [] .full) 0),prR 5]) rfl rfl (Next0 4 (by omega)) [0] (by decide) rfl rfl rfl rfl rfl rfl) rfl ?_
  refine ww ?_
  refine qAa rfl (fun c2=>?_) (fun c2=>absurd c2 (by decide))
  refine ww ?_
  refine qAd (qDz (i:=3) (es2:=[[.int .i64 5]]) hT rfl rfl rfl rfl rfl rfl (by decide)) rfl ?_
  refine ww ?_
  exact ⟨6,by omega,by omega,⟨.refl _,.refl _,.refl _,.refl _,trivial⟩,HLe.refl _⟩
 ·refine ww ?_
  refine qAa rfl (fun c1=>?_) (fun c1=>absurd c1 (by decide))
  refine ww ?_
  refine qAd (qBx (v:=.d (.int .i64 0)) (H':=[.row (dice [] 0),.row qVz,.row (qJv 39500 (prC 6) false (.sl 5 [] .full) 0),prR 6]) rfl rfl (Next0 4 (by omega)) [0] (by decide) rfl rfl rfl rfl rfl rfl) rfl ?_
  refine ww ?_
  refine qAa rfl (fun c2=>?_) (fun c2=>absurd c2 (by decide))
  refine ww ?_
  refine qAd (qDz (i:=3) (es2:=[[.int .i64 6]]) hT rfl rfl rfl rfl rfl rfl (by decide)) rfl ?_
  refine ww ?_
  exact ⟨7,by omega,by omega,⟨.refl _,.refl _,.refl _,.refl _,trivial⟩,HLe.refl _⟩
end Tdoc
namespace Tdoc
open Go Go.Proofs
theorem Good0:Spec Tryz.prog 23 [.nils] [] (fun r h'=>r=.agg (qJv 44000 (.d (.sl 1 qFy)) true (.d (.sl 5 (qDf qRc))) 30000)∧h'=[]):=by
 have ho:=Order0
 generalize qRc=hr at ho ⊢
 refine qAb hT Tryz.func23 rfl rfl rfl rfl ?_;intro E hE
 refine ww ?_
 refine wwc ho ?_
 refine ww ?_
 exact wwr
end Tdoc
namespace Tdoc
open Go Go.Proofs
theorem vHb:Spec Tryz.prog 103 [] [] (fun r h'=>r=.sl 1 (qAl [160,0,0,2,71,16,1]) .full∧h'=[]):=by
 refine qAb hT Tryz.func103 rfl rfl rfl rfl ?_;intro E hE
 refine ww ?_
 exact wwr
theorem hasI_spec (l:List Int) (v:Int) (hl:l.length≤1000000):Spec Tryz.prog 90 [.d (.sl 1 (qNy l)),.d (.int .i64 v)] [] (fun r h'=>r=.d (.bool (l.any fun x=>v == x))∧h'=[]):=by
 have h:=qPg l v hl
 generalize (l.any fun x=>v == x)=b at h ⊢
 refine qAb hT Tryz.func90 rfl rfl rfl rfl ?_;intro E hE
 refine ww ?_
 refine wwc h ?_
 refine ww ?_
 exact wwr
theorem defects0 (ex:Int) (pr:List (List Dat)) (ch:Bool) (tr:List (List Dat)) (td n:Int):Spec Tryz.prog 28 [.agg (qJv ex (.d (.sl 1 pr)) ch (.d (.sl 5 tr)) td),.d (.int .i64 n)] [] (fun r h'=>r=.nils∧h'=[]):=by
 refine qAb hT Tryz.func28 rfl rfl rfl rfl ?_;intro E hE
 refine ww ?_
 refine qAp (ι:=Nat) (fun i=>[(5,.nils),(11,.d (.int .i64 0)),(12,.d (.int .i64 0))]) (fun i=>[.row (qJv ex (.d (.sl 1 pr)) ch (.d (.sl 5 tr)) td)]) (fun i=>True) (fun i=>0) 0 trivial
  ⟨.refl _,.refl _,.refl _,trivial⟩ (HLe.refl _) ?_
 intro i hi
 refine ww ?_
 refine qAa rfl (fun c=>absurd c (by decide)) (fun c=>?_)
 refine ww ?_
 exact wwr
end Tdoc
namespace Tdoc
open Go Go.Proofs
def dM:Nat→Int
 | 0=>172
 | 1=>141
 | 2=>112
 | 3=>81
 | 4=>51
 | _=>20
theorem Parts44:Spec Tryz.prog 162 [.d (.int .i64 44000)] [] (fun r h'=>r=.tup [.d (.int .i64 2020),.d (.int .i64 6),.d (.int .i64 20),.d (.int .i64 0)]∧h'=[]):=by
 have hv:=qHa 44000
 rw [show qMj 44000=true by decide] at hv
 have hb1:=beforeP_spec 121 (by omega)
 rw [show (1900+((121:Nat):Int))=2021 from rfl,show qCt 121=44195 by decide +kernel] at hb1
 have hb0:=beforeP_spec 120 (by omega)
 rw [show (1900+((120:Nat):Int))=2020 from rfl,show qCt 120=43829 by decide +kernel] at hb0
 have d1:=daysP_spec 2020 1 (by omega) (by omega)
 rw [show qGi 2020 1=31 by decide] at d1
 have d2:=daysP_spec 2020 2 (by omega) (by omega)
 rw [show qGi 2020 2=29 by decide] at d2
 have d3:=daysP_spec 2020 3 (by omega) (by omega)
 rw [show qGi 2020 3=31 by decide] at d3
 have d4:=daysP_spec 2020 4 (by omega) (by omega)
 rw [show qGi 2020 4=30 by decide] at d4
 have d5:=daysP_spec 2020 5 (by omega) (by omega)
 rw [show qGi 2020 5=31 by decide] at d5
 have d6:=daysP_spec 2020 6 (by omega) (by omega)
 rw [show qGi 2020 6=30 by decide] at d6
 refine qAb hT Tryz.func162 rfl rfl rfl rfl ?_;intro E hE
 refine ww ?_
 refine wwc hv ?_
 refine ww ?_
 refine qAa rfl (fun c1=>?_) (fun c1=>?_)
 ·exact absurd c1 (by simp)
 refine ww ?_
 refine qAp (ι:=Nat) (fun i=>[(0,.d (.int .i64 44000)),(2,.d (.int .i64 2020)),(3,.d (.int .i64 1))]) (fun i=>[]) (fun i=>True) (fun i=>0) 0 trivial
  ⟨.refl _,.refl _,.refl _,trivial⟩ (HLe.refl _) ?_
 intro i hi
 refine ww ?_
 refine wwgc hb1 ?_
 refine ww ?_
 refine qAa rfl (fun c2=>?_) (fun c2=>?_)
 ·exact absurd c2 (by simp)
 refine ww ?_
 refine wwc hb0 ?_
 refine ww ?_
 refine qAp (ι:=Nat) (fun i=>[(2,.d (.int .i64 2020)),(3,.d (.int .i64 ((i:Int)+1))),(4,.d (.int .i64 (dM i)))]) (fun i=>[]) (fun i=>i≤5) (fun i=>5-i) 0 (by omega)
  ⟨.refl _,.refl _,.refl _,trivial⟩ (HLe.refl _) ?_
 intro i hi
 rcases (by omega:i=0∨i=1∨i=2∨i=3∨i=4∨i=5) with rfl | rfl | rfl | rfl | rfl | rfl
 ·refine ww ?_
  refine wwc d1 ?_
  refine ww ?_
  refine qAa rfl (fun q=>?_) (fun q=>absurd q (by decide))
  refine ww ?_
  refine wwc d1 ?_
  refine ww ?_
  exact ⟨1,by omega,by omega,⟨.refl _,.refl _,.refl _,trivial⟩,HLe.refl _⟩
 ·refine ww ?_
  refine wwc d2 ?_
  refine ww ?_
  refine qAa rfl (fun q=>?_) (fun q=>absurd q (by decide))
  refine ww ?_
  refine wwc d2 ?_
  refine ww ?_
  exact ⟨2,by omega,by omega,⟨.refl _,.refl _,.refl _,trivial⟩,HLe.refl _⟩
 ·refine ww ?_
  refine wwc d3 ?_
  refine ww ?_
  refine qAa rfl (fun q=>?_) (fun q=>absurd q (by decide))
  refine ww ?_
  refine wwc d3 ?_
  refine ww ?_
  exact ⟨3,by omega,by omega,⟨.refl _,.refl _,.refl _,trivial⟩,HLe.refl _⟩
 ·refine ww ?_
  refine wwc d4 ?_
  refine ww ?_
  refine qAa rfl (fun q=>?_) (fun q=>absurd q (by decide))
  refine ww ?_
  refine wwc d4 ?_
  refine ww ?_
  exact ⟨4,by omega,by omega,⟨.refl _,.refl _,.refl _,trivial⟩,HLe.refl _⟩
 ·refine ww ?_
  refine wwc d5 ?_
  refine ww ?_
  refine qAa rfl (fun q=>?_) (fun q=>absurd q (by decide))
  refine ww ?_
  refine wwc d5 ?_
  refine ww ?_
  exact ⟨5,by omega,by omega,⟨.refl _,.refl _,.refl _,trivial⟩,HLe.refl _⟩
 ·refine ww ?_
  refine wwc d6 ?_
  refine ww ?_
  refine qAa rfl (fun q=>absurd q (by decide)) (fun q=>?_)
  refine ww ?_
  exact wwr
def fmE:Nat→List (List Dat)
 | 0=>[]
 | 1=>[[.int .u8 50],[.int .u8 48]]
 | 2=>[[.int .u8 50],[.int .u8 48],[.int .u8 48],[.int .u8 54]]
 | _=>[[.int .u8 50],[.int .u8 48],[.int .u8 48],[.int .u8 54],[.int .u8 50],[.int .u8 48]]
theorem Format44:Spec Tryz.prog 87 [.d (.int .i64 44000)] [] (fun r h'=>r=.tup [.d (.str exM),.d (.int .i64 0)]∧h'=[]):=by
 have hp:=Parts44
 refine qAb hT Tryz.func87 rfl rfl rfl rfl ?_;intro E hE
 refine qAj ?_
 refine qAk (qAg ?_)
 refine wws ?_
 refine qAk (qAg ?_)
 refine wws ?_
 refine wwc hp ?_
 refine ww ?_
 refine qAa rfl (fun c1=>?_) (fun c1=>?_)
 ·exact absurd c1 (by simp)
 refine wwe ?_
 refine qAk (qAg ?_)
 refine wws ?_
 refine qAz 8 1 0 (es:=[]) (.inr ⟨rfl,rfl⟩) rfl ?_
 refine ww ?_
 refine qAp (ι:=Nat) (fun i=>[(8,.sl 1 (fmE i) (.right 0)),(25,.agg [.d (.int .i64 20),.d (.int .i64 6),.d (.int .i64 20)]),(26,.d (.int .i64 (i:Int)))]) (fun i=>[.right 1 (fmE i).length]) (fun i=>i≤3) (fun i=>3-i) 0 (by omega)
  ⟨.refl _,.refl _,.refl _,trivial⟩ (HLe.refl _) ?_
 intro i hi
 rcases (by omega:i=0∨i=1∨i=2∨i=3) with rfl | rfl | rfl | rfl
 ·refine ww ?_
  refine qAa rfl (fun q=>?_) (fun q=>absurd q (by decide))
  refine ww ?_
  refine qAd (qAc (arrIdx_ok hT rfl rfl rfl rfl ⟨by decide,by decide⟩ rfl)) rfl ?_
  refine ww ?_
  refine qAd (qAi (i:=0) (es2:=[[Dat.int .u8 50],[.int .u8 48]]) hT rfl rfl rfl rfl rfl rfl (by decide)) rfl ?_
  refine ww ?_
  exact ⟨1,by omega,by omega,⟨.refl _,.refl _,.refl _,trivial⟩,HLe.refl _⟩
 ·refine ww ?_
  refine qAa rfl (fun q=>?_) (fun q=>absurd q (by decide))
  refine ww ?_
  refine qAd (qAc (arrIdx_ok hT rfl rfl rfl rfl ⟨by decide,by decide⟩ rfl)) rfl ?_
  refine ww ?_
  refine qAd (qAi (i:=0) (es2:=[[Dat.int .u8 48],[.int .u8 54]]) hT rfl rfl rfl rfl rfl rfl (by decide)) rfl ?_
  refine ww ?_
  exact ⟨2,by omega,by omega,⟨.refl _,.refl _,.refl _,trivial⟩,HLe.refl _⟩
 ·refine ww ?_
  refine qAa rfl (fun q=>?_) (fun q=>absurd q (by decide))
  refine ww ?_
  refine qAd (qAc (arrIdx_ok hT rfl rfl rfl rfl ⟨by decide,by decide⟩ rfl)) rfl ?_
  refine ww ?_
  refine qAd (qAi (i:=0) (es2:=[[Dat.int .u8 50],[.int .u8 48]]) hT rfl rfl rfl rfl rfl rfl (by decide)) rfl ?_
  refine ww ?_
  exact ⟨3,by omega,by omega,⟨.refl _,.refl _,.refl _,trivial⟩,HLe.refl _⟩
 ·refine ww ?_
  refine qAa rfl (fun q=>absurd q (by decide)) (fun q=>?_)
  refine ww ?_
  refine qHf hT rfl rfl (by intro e he;simp [fmE] at he;rcases he with rfl | rfl | rfl | rfl | rfl | rfl <;> exact ⟨_,rfl⟩) ?_
  refine ww ?_
  exact wwr
end Tdoc
namespace Tdoc
open Go Go.Proofs
theorem chk0 {c:Nal} (h:qCx c=0):qCo c.sta=true∧(1≤c.kind∧c.kind≤4)∧(1≤c.num∧c.num≤1073741824)∧(1≤c.iss∧c.iss≤1073741824)∧(1≤c.own∧c.own≤1073741824)∧qDe c.key=true∧0≤c.frm∧c.frm≤c.unt∧c.unt≤c.til∧c.til≤73048:=by
 unfold qCx at h
 split at h
 ·cases h
 rename_i h1
 split at h
 ·cases h
 rename_i h2
 split at h
 ·cases h
 rename_i h3
 split at h
 ·cases h
 rename_i h4
 split at h
 ·cases h
 rename_i h5
 simp only [not_or,Bool.not_eq_false] at h1 h3 h4
 have a1:1≤c.num∧c.num≤1073741824:=of_decide_eq_true h3.1
 have a2:1≤c.iss∧c.iss≤1073741824:=of_decide_eq_true h3.2.1
 have a3:1≤c.own∧c.own≤1073741824:=of_decide_eq_true h3.2.2.1
 exact ⟨h1,by omega,a1,a2,a3,h4,by omega,by omega,by omega,by omega⟩
theorem stateF_len {s:List UInt8} (h:qCo s=true):s.length≤3:=by
 unfold qCo at h
 rw [Bool.and_eq_true] at h
 exact (of_decide_eq_true h.1).2
theorem wide1 (m n:Nat):vEz m [n]=qAu m n:=by
 show ([qAu m n]:List (List UInt8)).flatten=_
 simp
theorem wide3 (m a b c:Nat):vEz m [a,b,c]=qAu m a++qAu m b++qAu m c:=by
 show ([qAu m a,qAu m b,qAu m c]:List (List UInt8)).flatten=_
 simp
theorem vLt {n:Nat} (h:n < 256):IntKind.u8.wrap (n:Int)=((UInt8.ofNat n).toNat:Int):=by rw [wrapu8 (by omega),toNat_ofNat h]
theorem qPr (c:Nal) (h:qCx c=0):Spec Tryz.prog 275 [qOy c] [] (fun r h'=>r=.tup [nAV (qBf c),.d (.int .i64 0)]∧h'=[]):=by
 obtain ⟨q1,q2,q3,q4,q5,q6,q7⟩:=chk0 h
 have hkr:=elemG_range q6
 have hge:=qFu c.key
 rw [if_pos q6,if_pos q6] at hge
 obtain ⟨sta,kind,num,iss,own,key,frm,unt,til,sE,sS⟩:=c
 simp only at q1 q2 q3 q4 q5 q6 q7 hkr hge
 clear h
 obtain ⟨kind,rfl⟩:=Int.eq_ofNat_of_zero_le (show 0≤kind by omega)
 obtain ⟨num,rfl⟩:=Int.eq_ofNat_of_zero_le (show 0≤num by omega)
 obtain ⟨iss,rfl⟩:=Int.eq_ofNat_of_zero_le (show 0≤iss by omega)
 obtain ⟨own,rfl⟩:=Int.eq_ofNat_of_zero_le (show 0≤own by omega)
 obtain ⟨key,rfl⟩:=Int.eq_ofNat_of_zero_le (show 0≤key by omega)
 obtain ⟨frm,rfl⟩:=Int.eq_ofNat_of_zero_le (show 0≤frm by omega)
 obtain ⟨unt,rfl⟩:=Int.eq_ofNat_of_zero_le (show 0≤unt by omega)
 obtain ⟨til,rfl⟩:=Int.eq_ofNat_of_zero_le (show 0≤til by omega)
 rw [Int.toNat_natCast] at hge
 have w1:=qIy 4 [num] (by omega) (by simp) (fun n hn=>by simp at hn;omega)
 have w2:=qIy 4 [iss] (by omega) (by simp) (fun n hn=>by simp at hn;omega)
 have w3:=qIy 4 [own] (by omega) (by simp) (fun n hn=>by simp at hn;omega)
 have w4:=qIy 3 [frm,unt,til] (by omega) (by simp) (fun n hn=>by simp at hn;omega)
 rw [wide1] at w1 w2 w3
 rw [wide3] at w4
 have hbd:qBf ⟨sta,(kind:Int),(num:Int),(iss:Int),(own:Int),(key:Int),(frm:Int),(unt:Int),(til:Int),sE,sS⟩=.mk 48 [] [.mk 19 sta [],.mk 129 [UInt8.ofNat kind] [],.mk 130 (qAu 4 num) [],.mk 131 (qAu 4 iss) [],.mk 132 (qAu 4 own) [],.mk 133 (qAu 4 key) [],.mk 134 (qAu 3 frm++qAu 3 unt++qAu 3 til) []]:=rfl
 rw [hbd]
 have hkb:=vLt (n:=kind) (by omega)
 generalize qAu 4 num=b1 at w1 ⊢
 generalize qAu 4 iss=b2 at w2 ⊢
 generalize qAu 4 own=b3 at w3 ⊢
 generalize qAu 4 key=b4 at hge ⊢
 generalize qAu 3 frm++qAu 3 unt++qAu 3 til=b5 at w4 ⊢
 refine qAb hT Tryz.func275 rfl rfl rfl rfl ?_;intro E hE
 refine ww ?_
 refine wwc hge ?_
 refine ww ?_
 refine qAa rfl (fun c1=>?_) (fun c1=>?_)
 ·exact absurd c1 (by simp)
 refine qBv ?_
 refine wwn ?_
 refine qBm (fun i=>bif Nat.beq i 37 then [1] else [0]) (fun i=>bif Nat.beq i 37 then [1] else []) mixed (by kernel_rfl) ?_
 refine wwg ?_
 refine qAm (os:=[]) (fun k hk1 hk2=>strBytes_ok hT rfl rfl rfl) rfl ?_
 refine wwg ?_
 refine qAm (os:=[]) (fun k hk1 hk2=>buildSl_ok hT rfl rfl) rfl ?_
 refine wwg ?_
 refine qAm (os:=[]) (fun k hk1 hk2=>buildSl_ok hT rfl rfl) rfl ?_
 refine wwdc w1 ?_
 refine wwg ?_
 refine qAm (os:=[]) (fun k hk1 hk2=>buildSl_ok hT rfl rfl) rfl ?_
 refine wwdc w2 ?_
 refine wwg ?_
 refine qAm (os:=[]) (fun k hk1 hk2=>buildSl_ok hT rfl rfl) rfl ?_
 refine wwdc w3 ?_
 refine wwg ?_
 refine qAm (os:=[]) (fun k hk1 hk2=>buildSl_ok hT rfl rfl) rfl ?_
 refine wwdc w4 ?_
 refine wwg ?_
 refine qAm (os:=[]) (fun k hk1 hk2=>buildSl_ok hT rfl rfl) rfl ?_
 refine wwg ?_
 refine ww ?_
 refine rq ⟨rfl,rfl⟩ rfl (AV.le.tup ⟨AV.le.agg ⟨.refl _,AV.le.dat' rfl,AV.le.dat' ?_,trivial⟩,.refl _,trivial⟩)
 rw [hkb]
 rfl
theorem qRr {c:Nal} (h:qCx c=0):qJx [qBf c]:=by
 have hl:=stateF_len (chk0 h).1
 unfold qBf
 refine ⟨⟨⟨by omega,by omega⟩,by simp,by simp,?_⟩,trivial⟩
 refine ⟨?_,?_,?_,?_,?_,?_,?_,trivial⟩ <;> refine ⟨⟨by omega,by omega⟩,?_,by simp,trivial⟩ <;> (try simp [octB_length]) <;> omega
theorem qOc (c:Nal):qAt [qBf c]≤20:=by simp [qBf,qAt,qCf]
theorem bytesNl_eq (c:Nal):qOb c=if qCx c≠0 then ([],qCx c) else (wrL [qBf c],0):=rfl
theorem vAq (c:Nal) (hs:c.sta.length≤1000000000):Spec Tryz.prog 241 [qOy c] [] (fun r h'=>r=.tup [.d (.sl 1 (qAl (qOb c).1)),.d (.int .i64 (qOb c).2)]∧h'=[]):=by
 have hck:=qQj c hs
 rw [bytesNl_eq]
 by_cases hc:qCx c=0
 ·have htr:=qPr c hc
  have hbl:=qIu c (stateF_len (chk0 hc).1)
  have hen:=qFo [qBf c] (by simp) (qRr hc) (Nat.le_trans (qOc c) (by omega)) (by omega)
  rw [qYk c (stateF_len (chk0 hc).1)] at hen
  rw [hc] at hck
  rw [if_neg (by simpa using hc)]
  generalize hB:qBf c=B at htr hen
  obtain ⟨bt,bv,bk⟩:=B
  simp only at hen ⊢
  refine qAb hT Tryz.func241 rfl rfl rfl rfl ?_;intro E hE
  refine ww ?_
  refine wwc hck ?_
  refine ww ?_
  refine qAa rfl (fun c1=>?_) (fun c1=>?_)
  ·exact absurd c1 (by simp)
  refine ww ?_
  refine wwc htr ?_
  refine ww ?_
  refine qAa rfl (fun c2=>?_) (fun c2=>?_)
  ·exact absurd c2 (by simp)
  refine ww ?_
  refine wwc hen ?_
  refine ww ?_
  exact wwr
 ·rw [if_pos hc]
  generalize qCx c=e at hck hc
  refine qAb hT Tryz.func241 rfl rfl rfl rfl ?_;intro E hE
  refine ww ?_
  refine wwc hck ?_
  refine ww ?_
  refine qAa rfl (fun c1=>?_) (fun c1=>?_)
  ·refine ww ?_
   exact wwr
  ·exact absurd c1 (by simpa using hc)
def vEu (k:Int) (c:Nal):Nal×Int:=if qCx c≠0 then (nl0,qCx c) else if qLt k=false then (nl0,3) else (qBr k.toNat c,0)
theorem qWy (k:Int) (c:Nal) (hs:c.sta.length≤1000000000):Spec Tryz.prog 154 [.d (.int .i64 k),qOy c] [] (fun r h'=>r=.tup [qOy (vEu k c).1,.d (.int .i64 (vEu k c).2)]∧h'=[]):=by
 have hbd:=vAq c hs
 rw [bytesNl_eq] at hbd
 unfold vEu
 by_cases hc:qCx c=0
 ·rw [if_neg (by simpa using hc)] at hbd ⊢
  simp only at hbd
  have hbl:=qIu c (stateF_len (chk0 hc).1)
  have hsg:=qUf k (wrL [qBf c]) (by omega)
  by_cases hk:qLt k=true
  ·rw [if_neg (by simp [hk])]
   rw [show qKp k=0 by unfold qKp;rw [if_pos hk],show qSu k (wrL [qBf c])=(((qGq k.toNat (wrL [qBf c])).1:Nat):Int) by unfold qSu;rw [if_pos hk],show qSs k (wrL [qBf c])=(((qGq k.toNat (wrL [qBf c])).2:Nat):Int) by unfold qSs;rw [if_pos hk]] at hsg
   have hii:qBr k.toNat c={ c with sE:=((qGq k.toNat (wrL [qBf c])).1:Nat),sS:=((qGq k.toNat (wrL [qBf c])).2:Nat) }:=rfl
   rw [hii]
   generalize (((qGq k.toNat (wrL [qBf c])).1:Nat):Int)=x at hsg ⊢
   generalize (((qGq k.toNat (wrL [qBf c])).2:Nat):Int)=y at hsg ⊢
   generalize wrL [qBf c]=B at hbd hsg
   clear hii hc hbl
   refine qAb hT Tryz.func154 rfl rfl rfl rfl ?_;intro E hE
   refine ww ?_
   refine wwc hbd ?_
   refine ww ?_
   refine qAa rfl (fun c1=>?_) (fun c1=>?_)
   ·exact absurd c1 (by simp)
   refine ww ?_
   refine wwc hsg ?_
   refine ww ?_
   refine qAa rfl (fun c2=>?_) (fun c2=>?_)
   ·exact absurd c2 (by simp)
   refine ww ?_
   exact wwr
  ·rw [if_pos (by simpa using hk)]
   rw [show qKp k=3 by unfold qKp;rw [if_neg hk],show qSu k (wrL [qBf c])=0 by unfold qSu;rw [if_neg hk],show qSs k (wrL [qBf c])=0 by unfold qSs;rw [if_neg hk]] at hsg
   generalize wrL [qBf c]=B at hbd hsg
   clear hc hbl
   refine qAb hT Tryz.func154 rfl rfl rfl rfl ?_;intro E hE
   refine ww ?_
   refine wwc hbd ?_
   refine ww ?_
   refine qAa rfl (fun c1=>?_) (fun c1=>?_)
   ·exact absurd c1 (by simp)
   refine ww ?_
   refine wwc hsg ?_
   refine ww ?_
   refine qAa rfl (fun c2=>?_) (fun c2=>?_)
   ·refine ww ?_
    exact wwr
   ·exact absurd c2 (by simp)
 ·rw [if_pos hc] at hbd ⊢
  simp only at hbd
  generalize qCx c=e at hbd hc
  refine qAb hT Tryz.func154 rfl rfl rfl rfl ?_;intro E hE
  refine ww ?_
  refine wwc hbd ?_
  refine ww ?_
  refine qAa rfl (fun c1=>?_) (fun c1=>?_)
  ·refine ww ?_
   exact wwr
  ·exact absurd c1 (by simpa using hc)
end Tdoc
namespace Tdoc
open Go Go.Proofs
theorem qHb (s:List UInt8) (hs:s.length≤1000000000):Spec Tryz.prog 69 [.d (.str s)] [] (fun r h'=>r=.d (.bool (qCo s))∧h'=[]):=by
 refine qAb hT Tryz.func69 rfl rfl rfl rfl ?_;intro E hE
 refine ww ?_
 refine qAp (ι:=Nat) (fun i=>[(0,.d (.str s)),(3,.d (.int .i64 (i:Int)))]) (fun _=>[]) (fun i=>i≤s.length∧∀ j,j < i→qHr (s.getD j 0)=true) (fun i=>s.length-i) 0 ⟨Nat.zero_le _,fun j h=>by omega⟩
  ⟨.refl _,.refl _,trivial⟩ (HLe.refl _) ?_
 intro i ⟨hi,hup⟩
 have hat:=strAt_nat s i
 refine ww ?_
 refine qAa rfl (fun c2=>?_) (fun c2=>?_)
 ·have hi':i < s.length:=by simp at c2;omega
  refine ww ?_
  refine qAa rfl (fun c3=>?_) (fun c3=>?_)
  ·have:s.all qHr=false:=by
    refine allUp_not hi' ?_
    rw [hat] at c3
    unfold qHr
    simp only [Bool.or_eq_true,decide_eq_true_eq] at c3
    exact decide_eq_false (by omega)
   rw [show qCo s=false by unfold qCo;rw [this,Bool.and_false]]
   refine ww ?_
   exact wwr
  refine ww ?_
  refine ⟨i+1,⟨hi',fun j hj=>?_⟩,by omega,⟨.refl _,.int (by rw [qAf (by omega)];omega),trivial⟩,HLe.refl _⟩
  rcases Nat.lt_or_ge j i with h | h
  ·exact hup j h
  ·have:j=i:=by omega
   subst this
   rw [hat] at c3
   unfold qHr
   simp only [Bool.or_eq_false_iff,decide_eq_false_iff_not] at c3
   exact decide_eq_true (by omega)
 have hi':i=s.length:=by simp at c2;omega
 subst hi'
 have hall:=allUp_of hup
 refine ww ?_
 refine rq ⟨rfl,rfl⟩ rfl (.bool ?_)
 unfold qCo
 rw [hall,Bool.and_true,Bool.eq_iff_iff]
 simp
 try omega
theorem qFz (n:Int):Spec Tryz.prog 312 [.d (.int .i64 n)] [] (fun r h'=>r=.d (.bool (qEs n))∧h'=[]):=by
 refine qAb hT Tryz.func312 rfl rfl rfl rfl ?_;intro E hE
 refine ww ?_
 refine rq ⟨rfl,rfl⟩ rfl (.bool ?_)
 unfold qEs
 rw [Bool.eq_iff_iff]
 simp
theorem qSg (c:Nal) (hs:c.sta.length≤1000000000):Spec Tryz.prog 227 [qOy c] [] (fun r h'=>r=.d (.int .i64 (qCx c))∧h'=[]):=by
 have hst:=qHb c.sta hs
 have h1:=qFz c.num
 have h2:=qFz c.iss
 have h3:=qFz c.own
 have hel:=qKx c.key
 unfold qCx
 refine qAb hT Tryz.func227 rfl rfl rfl rfl ?_;intro E hE
 refine ww ?_
 refine wwc hst ?_
 refine ww ?_
 refine qAa rfl (fun c1=>?_) (fun c1=>?_)
 ·rw [if_pos (by simpa using c1)]
  refine ww ?_
  exact wwr
 rw [if_neg (by simpa using c1)]
 refine ww ?_
 refine qAa rfl (fun c2=>?_) (fun c2=>?_)
 ·rw [if_pos (by simp at c2;omega)]
  refine ww ?_
  exact wwr
 rw [if_neg (by simp at c2;omega)]
 refine ww ?_
 refine wwc h1 ?_
 refine ww ?_
 refine wwgc h2 ?_
 refine ww ?_
 refine wwgc h3 ?_
 refine ww ?_
 refine qAa rfl (fun c3=>?_) (fun c3=>?_)
 ·rw [if_pos ((chk3 _ _ _ _ _ _).1 c3)]
  refine ww ?_
  exact wwr
 rw [if_neg (fun h=>by rw [(chk3 _ _ _ _ _ _).2 h] at c3;cases c3)]
 refine ww ?_
 refine wwc hel ?_
 refine ww ?_
 refine qAa rfl (fun c4=>?_) (fun c4=>?_)
 ·rw [if_pos (by simpa using c4)]
  refine ww ?_
  exact wwr
 rw [if_neg (by simpa using c4)]
 refine ww ?_
 refine qAa rfl (fun c5=>?_) (fun c5=>?_)
 ·rw [if_pos (by simp at c5;omega)]
  refine ww ?_
  exact wwr
 rw [if_neg (by simp at c5;omega)]
 refine ww ?_
 exact wwr
theorem qDj (n m:Nat) (hm:m≤7) (hn:n < 9223372036854775808):Spec Tryz.prog 313 [.d (.int .i64 (n:Int)),.d (.int .i64 (m:Int))] [] (fun r h'=>r=.sl 1 (qAl (qAu m n)) .full∧h'=[]):=by
 refine qAb hT Tryz.func313 rfl rfl rfl rfl ?_;intro E hE
 refine ww ?_
 refine qAd (makeRow_ok (n:=m) hT rfl rfl rfl rfl (by show 1*m≤_;omega) (by omega)) rfl ?_
 rw [vBf]
 refine ww ?_
 refine qAp (ι:=Nat) (fun i=>[(0,.d (.int .i64 ((n / 256 ^ i:Nat):Int))),(5,.row 0 0 m m),(6,.d (.int .i64 ((m:Int)-1-(i:Int))))]) (fun i=>[.row (qAn (List.replicate (m-i) 0++qAu i n))])
  (fun i=>i≤m) (fun i=>m-i) 0 (by omega) ⟨.int (by simp),.refl _,.int (by rw [qAf (by omega)];omega),trivial⟩ ⟨by simp [qAu];exact ObLe.refl _,trivial⟩ ?_
 intro i hi
 have hle:n / 256 ^ i≤n:=Nat.div_le_self _ _
 have hsu:n / 256 ^ i / 256=n / 256 ^ (i+1):=by rw [Nat.div_div_eq_div_mul,Nat.pow_succ]
 have hoc:=octB_succ i n
 generalize n / 256 ^ i=q at hle hsu hoc ⊢
 refine ww ?_
 refine qAa rfl (fun h3=>?_) (fun h3=>?_)
 ·have h3':i < m:=by simp at h3;omega
  have hby:IntKind.u8.wrap (Int.tmod (q:Int) 256)=((UInt8.ofNat (q % 256)).toNat:Int):=by
   rw [show Int.tmod (q:Int) 256=((q % 256:Nat):Int) from rfl,wrapu8 (by omega),toNat_ofNat (Nat.mod_lt _ (by omega))]
  have hrow:(qAn (List.replicate (m-i) 0++qAu i n)).set (m-1-i) (AV.d (.int .u8 (IntKind.u8.wrap (Int.tmod (q:Int) 256))))=qAn (List.replicate (m-(i+1)) 0++qAu (i+1) n):=by
   rw [hby,hoc,show m-i=(m-(i+1))+1 by omega,show m-1-i=m-(i+1) by omega]
   have:=qQr (0:UInt8) (UInt8.ofNat (q % 256)) (qAu i n) (m-(i+1))
   rw [← this]
   simp [qAn,List.map_set]
  have hlen:(qAn (List.replicate (m-i) 0++qAu i n)).length=m:=by rw [byteAV_length];simp [octB_length];omega
  generalize qAn (List.replicate (m-i) 0++qAu i n)=row at hrow hlen
  refine ww ?_
  refine qAd (qAc (rowAddr_ok (sz:=1) hT rfl rfl rfl rfl (by omega))) rfl ?_
  refine qCc (qEv hT rfl rfl rfl rfl rfl rfl (by show 0+((m:Int)-1-(i:Int)).toNat*1 < row.length;rw [hlen];omega)) rfl ?_
  refine ww ?_
  refine ⟨i+1,by omega,by omega,⟨.int ?_,.refl _,.int (by rw [qAf (by omega)];omega),trivial⟩,⟨?_,trivial⟩⟩
  ·rw [show Int.tdiv (q:Int) 256=((q / 256:Nat):Int) from rfl,hsu,qAf (by omega)]
  ·rw [← hrow]
   exact ObLe.row (by rw [show 0+((m:Int)-1-(i:Int)).toNat*1=m-1-i by omega];rfl)
 ·have h3':i=m:=by simp at h3;omega
  subst h3'
  rw [Nat.sub_self,List.replicate_zero,List.nil_append]
  refine wwe ?_
  refine vBa 5 0 1 (qAl (qAu i n)) rfl rfl (by rw [encB_length,octB_length]) (qFa _) ?_
  refine ww ?_
  exact wwr
theorem qDx (t:Int) (b:List UInt8):Spec Tryz.prog 229 [.d (.int .i64 t),.d (.sl 1 (qAl b))] [] (fun r h'=>r=nAV (.mk t b [])∧h'=[]):=by
 refine qAb hT Tryz.func229 rfl rfl rfl rfl ?_;intro E hE
 refine ww ?_
 refine rq ⟨rfl,rfl⟩ rfl (AV.le.agg ⟨.refl _,.refl _,AV.le.dat' rfl,trivial⟩)
end Tdoc
namespace Tdoc
open Go Go.Proofs
theorem bodyR_spec29 (c:Nal) (h:qCx c=0):Spec Tryz.prog 228 [qOy c] [] (fun r h'=>r=nAV (qBf c)∧h'=[]):=by
 obtain ⟨q1,q2,q3,q4,q5,q6,q7⟩:=chk0 h
 have hkr:=elemG_range q6
 have hge:=qUk c.key
 rw [if_pos q6,if_pos q6] at hge
 obtain ⟨sta,kind,num,iss,own,key,frm,unt,til,sE,sS⟩:=c
 simp only at q1 q2 q3 q4 q5 q6 q7 hkr hge
 clear h
 obtain ⟨kind,rfl⟩:=Int.eq_ofNat_of_zero_le (show 0≤kind by omega)
 obtain ⟨num,rfl⟩:=Int.eq_ofNat_of_zero_le (show 0≤num by omega)
 obtain ⟨iss,rfl⟩:=Int.eq_ofNat_of_zero_le (show 0≤iss by omega)
 obtain ⟨own,rfl⟩:=Int.eq_ofNat_of_zero_le (show 0≤own by omega)
 obtain ⟨key,rfl⟩:=Int.eq_ofNat_of_zero_le (show 0≤key by omega)
 obtain ⟨frm,rfl⟩:=Int.eq_ofNat_of_zero_le (show 0≤frm by omega)
 obtain ⟨unt,rfl⟩:=Int.eq_ofNat_of_zero_le (show 0≤unt by omega)
 obtain ⟨til,rfl⟩:=Int.eq_ofNat_of_zero_le (show 0≤til by omega)
 rw [Int.toNat_natCast] at hge
 have v1:=qDj num 4 (by omega) (by omega)
 have v2:=qDj iss 4 (by omega) (by omega)
 have v3:=qDj own 4 (by omega) (by omega)
 have v4:=qDj kind 1 (by omega) (by omega)
 have v5:=qDj frm 3 (by omega) (by omega)
 have v6:=qDj unt 3 (by omega) (by omega)
 have v7:=qDj til 3 (by omega) (by omega)
 rw [show qAu 1 kind=[UInt8.ofNat kind] by show [UInt8.ofNat (kind % 256)]=_;rw [Nat.mod_eq_of_lt (by omega)]] at v4
 have hbd:qBf ⟨sta,(kind:Int),(num:Int),(iss:Int),(own:Int),(key:Int),(frm:Int),(unt:Int),(til:Int),sE,sS⟩=.mk 48 [] [.mk 19 sta [],.mk 129 [UInt8.ofNat kind] [],.mk 130 (qAu 4 num) [],.mk 131 (qAu 4 iss) [],.mk 132 (qAu 4 own) [],.mk 133 (qAu 4 key) [],.mk 134 (qAu 3 frm++qAu 3 unt++qAu 3 til) []]:=rfl
 rw [hbd]
 have l5:=octB_length 3 frm
 have l6:=octB_length 3 unt
 have l7:=octB_length 3 til
 generalize qAu 4 num=b1 at v1 ⊢
 generalize qAu 4 iss=b2 at v2 ⊢
 generalize qAu 4 own=b3 at v3 ⊢
 generalize qAu 4 key=b4 at hge ⊢
 generalize qAu 3 frm=b5 at v5 l5 ⊢
 generalize qAu 3 unt=b6 at v6 l6 ⊢
 generalize qAu 3 til=b7 at v7 l7 ⊢
 refine qAb hT Tryz.func228 rfl rfl rfl rfl ?_;intro E hE
 refine ww ?_
 refine wwc hge ?_
 refine wws ?_
 refine qAj ?_
 refine qAk (qBm (fun i=>bif Nat.beq i 6||Nat.beq i 10 then [2] else [0]) (fun i=>bif Nat.beq i 6||Nat.beq i 10 then [2] else []) mixed (by kernel_rfl) ?_)
 refine wwg ?_
 refine wwdc v5 ?_
 refine wwg ?_
 refine wwdc v6 ?_
 refine qAm (v:=.sl 1 (qAl b5++qAl b6) (.right 2)) (os:=[.right 1 ((qAl b5).length+(qAl b6).length)]) (fun k hk1 hk2=>qKc (i:=2) hT rfl rfl rfl (.inl rfl) (by simp) ((hk2 2 List.mem_cons_self).trans rfl) rfl (by show ((qAl b5).length+(qAl b6).length)*(1+1)≤_;rw [encB_length,encB_length];omega)) rfl ?_
 refine wwg ?_
 refine wwdc v7 ?_
 refine qAm (v:=.sl 1 ((qAl b5++qAl b6)++qAl b7) (.right 2)) (os:=[.right 1 ((qAl b5++qAl b6)++qAl b7).length]) (fun k hk1 hk2=>qAi (i:=2) hT rfl rfl rfl rfl (by rw [List.length_append];exact (hk2 2 List.mem_cons_self).trans rfl) rfl (by show ((qAl b5++qAl b6).length+(qAl b7).length)*(1+1)≤_;rw [List.length_append,encB_length,encB_length,encB_length];omega)) rfl ?_
 refine wwg ?_
 rw [← encB_append,← encB_append]
 refine qAo (l:=[(1,.ptr 0 0),(2,.ptr 1 0),(3,.d (.sl 1 (qAl b4))),(5,.d (.sl 1 (qAl (b5++b6++b7))))]) (h':=[.row (qBi ⟨sta,(kind:Int),(num:Int),(iss:Int),(own:Int),(key:Int),(frm:Int),(unt:Int),(til:Int),sE,sS⟩),.row [.d (.int .i64 0),.sl 1 [] .full,.sl 3 [] .full],.dead])
  ⟨.refl _,.refl _,.refl _,.dat,trivial⟩ ⟨ObLe.refl _,ObLe.refl _,trivial,trivial⟩ ?_
 refine qAk (qBm (fun i=>bif Nat.beq i 26 then [1] else [0]) (fun i=>bif Nat.beq i 26 then [1] else []) mixed (by kernel_rfl) ?_)
 refine wwg ?_
 refine qAm (os:=[]) (fun k hk1 hk2=>strBytes_ok hT rfl rfl rfl) rfl ?_
 refine wwdc (qDx 19 sta) ?_
 refine wwg ?_
 refine wwdc v4 ?_
 refine wwdc (qDx 129 [UInt8.ofNat kind]) ?_
 refine wwg ?_
 refine wwdc v1 ?_
 refine wwdc (qDx 130 b1) ?_
 refine wwg ?_
 refine wwdc v2 ?_
 refine wwdc (qDx 131 b2) ?_
 refine wwg ?_
 refine wwdc v3 ?_
 refine wwdc (qDx 132 b3) ?_
 refine wwg ?_
 refine wwdc (qDx 133 b4) ?_
 refine wwg ?_
 refine wwdc (qDx 134 (b5++b6++b7)) ?_
 refine qAm (os:=[]) (fun k hk1 hk2=>buildSl_ok hT rfl rfl) rfl ?_
 refine wwg ?_
 refine ww ?_
 refine rq ⟨rfl,rfl⟩ rfl (AV.le.agg ⟨.refl _,AV.le.dat' rfl,AV.le.dat' rfl,trivial⟩)
theorem qUw (c:Nal) (hs:c.sta.length≤1000000000):Spec Tryz.prog 151 [qOy c] [] (fun r h'=>r=.tup [.d (.sl 1 (qAl (qOb c).1)),.d (.int .i64 (qOb c).2)]∧h'=[]):=by
 have hck:=qSg c hs
 rw [bytesNl_eq]
 by_cases hc:qCx c=0
 ·have htr:=bodyR_spec29 c hc
  have hbl:=qIu c (stateF_len (chk0 hc).1)
  have hen:=qUq [qBf c] (by simp) (qRr hc) (Nat.le_trans (qOc c) (by omega))
  rw [qYk c (stateF_len (chk0 hc).1)] at hen
  rw [hc] at hck
  rw [if_neg (by simpa using hc)]
  generalize hB:qBf c=B at htr hen
  obtain ⟨bt,bv,bk⟩:=B
  simp only at hen ⊢
  refine qAb hT Tryz.func151 rfl rfl rfl rfl ?_;intro E hE
  refine ww ?_
  refine wwc hck ?_
  refine ww ?_
  refine qAa rfl (fun c1=>?_) (fun c1=>?_)
  ·exact absurd c1 (by simp)
  refine ww ?_
  refine wwc htr ?_
  refine ww ?_
  refine wwc hen ?_
  refine ww ?_
  exact wwr
 ·rw [if_pos hc]
  generalize qCx c=e at hck hc
  refine qAb hT Tryz.func151 rfl rfl rfl rfl ?_;intro E hE
  refine ww ?_
  refine wwc hck ?_
  refine ww ?_
  refine qAa rfl (fun c1=>?_) (fun c1=>?_)
  ·refine ww ?_
   exact wwr
  ·exact absurd c1 (by simpa using hc)
theorem qSd (k:Int) (c:Nal) (hs:c.sta.length≤1000000000):Spec Tryz.prog 70 [.d (.int .i64 k),qOy c] [] (fun r h'=>r=.tup [qOy (vEu k c).1,.d (.int .i64 (vEu k c).2)]∧h'=[]):=by
 have hbd:=qUw c hs
 rw [bytesNl_eq] at hbd
 unfold vEu
 by_cases hc:qCx c=0
 ·rw [if_neg (by simpa using hc)] at hbd ⊢
  simp only at hbd
  have hbl:=qIu c (stateF_len (chk0 hc).1)
  have hsg:=vAn k (wrL [qBf c]) (by omega)
  by_cases hk:qLt k=true
  ·rw [if_neg (by simp [hk])]
   rw [show qKp k=0 by unfold qKp;rw [if_pos hk],show qSu k (wrL [qBf c])=(((qGq k.toNat (wrL [qBf c])).1:Nat):Int) by unfold qSu;rw [if_pos hk],show qSs k (wrL [qBf c])=(((qGq k.toNat (wrL [qBf c])).2:Nat):Int) by unfold qSs;rw [if_pos hk]] at hsg
   have hii:qBr k.toNat c={ c with sE:=((qGq k.toNat (wrL [qBf c])).1:Nat),sS:=((qGq k.toNat (wrL [qBf c])).2:Nat) }:=rfl
   rw [hii]
   generalize (((qGq k.toNat (wrL [qBf c])).1:Nat):Int)=x at hsg ⊢
   generalize (((qGq k.toNat (wrL [qBf c])).2:Nat):Int)=y at hsg ⊢
   generalize wrL [qBf c]=B at hbd hsg
   clear hii hc hbl
   refine qAb hT Tryz.func70 rfl rfl rfl rfl ?_;intro E hE
   refine ww ?_
   refine wwc hbd ?_
   refine ww ?_
   refine qAa rfl (fun c1=>?_) (fun c1=>?_)
   ·exact absurd c1 (by simp)
   refine ww ?_
   refine wwc hsg ?_
   refine ww ?_
   refine qAa rfl (fun c2=>?_) (fun c2=>?_)
   ·exact absurd c2 (by simp)
   refine ww ?_
   exact wwr
  ·rw [if_pos (by simpa using hk)]
   rw [show qKp k=3 by unfold qKp;rw [if_neg hk],show qSu k (wrL [qBf c])=0 by unfold qSu;rw [if_neg hk],show qSs k (wrL [qBf c])=0 by unfold qSs;rw [if_neg hk]] at hsg
   generalize wrL [qBf c]=B at hbd hsg
   clear hc hbl
   refine qAb hT Tryz.func70 rfl rfl rfl rfl ?_;intro E hE
   refine ww ?_
   refine wwc hbd ?_
   refine ww ?_
   refine qAa rfl (fun c1=>?_) (fun c1=>?_)
   ·exact absurd c1 (by simp)
   refine ww ?_
   refine wwc hsg ?_
   refine ww ?_
   refine qAa rfl (fun c2=>?_) (fun c2=>?_)
   ·refine ww ?_
    exact wwr
   ·exact absurd c2 (by simp)
 ·rw [if_pos hc] at hbd ⊢
  simp only at hbd
  generalize qCx c=e at hbd hc
  refine qAb hT Tryz.func70 rfl rfl rfl rfl ?_;intro E hE
  refine ww ?_
  refine wwc hbd ?_
  refine ww ?_
  refine qAa rfl (fun c1=>?_) (fun c1=>?_)
  ·refine ww ?_
   exact wwr
  ·exact absurd c1 (by simpa using hc)
end Tdoc
namespace Tdoc
open Go Go.Proofs
def qKb (a:Aut):List AObj:=[.row (vJp a (.sl 11 (qBb a.roots) (.right 2)) (.sl 11 (qBb a.links) (.right 3)) (.sl 1 (encNs' a.secs) (.right 1))),.right 1 (encNs' a.secs).length,.right 11 (qBb a.roots).length,.right 11 (qBb a.links).length]
theorem qPu (day n:Int) (hd:0≤day∧day≤73048) (hn:0≤n∧n≤100000):Spec Tryz.prog 153 [.d (.int .i64 day),.d (.int .i64 n)] [] (fun r h'=>r=.d (.int .i64 (qDg day n))∧h'=[]):=by
 refine qAb hT Tryz.func153 rfl rfl rfl rfl ?_;intro E hE
 refine ww ?_
 refine qAd (qAc (qQx (t2:=#[]) rfl rfl rfl)) rfl ?_
 refine ww ?_
 refine qAd (qAc (qQx (t2:=#[]) rfl rfl rfl)) rfl ?_
 refine ww ?_
 refine rq ⟨rfl,rfl⟩ rfl (.int ?_)
 unfold qDg
 have e:(if (73048:Int) < day then (73048:Int) else day)=day:=if_neg (by omega)
 simp only [e]
 rw [qAf (by omega)]
 split <;> omega
theorem qIa (a:Aut) (hs:a.seed.length≤500000):Spec Tryz.prog 86 [.ptr 0 0] (qKb a) (fun r h'=>r=.d (.int .i64 (qDr a.seed:Int))∧h'=qKb { a with seed:=qAv a.seed }):=by
 have hd:=qOj a.seed hs
 generalize hk:qDr a.seed=k at hd ⊢
 generalize hx:qAv a.seed=nx at hd ⊢
 obtain ⟨sta,roots,links,secs,signer,lister,sk,lk,next,list,rev,defs,seed⟩:=a
 simp only at hd ⊢
 refine qAb hT Tryz.func86 rfl rfl rfl rfl ?_;intro E hE
 refine ww ?_
 refine wwc hd ?_
 refine ww ?_
 exact wwr
theorem encNs'_len (l:List Nat):(encNs' l).length=l.length:=by simp [encNs']
theorem qIp (a:Aut) (kind:Int) (issuer own k:Nat) (day u t:Int) (hnx:a.next≤1000000) (hiss:1≤issuer∧issuer≤a.secs.length∧a.secs.length≤1000) (hk:1≤k∧k < qG) (hday:0≤day∧day≤73048) (hu:0≤u∧u≤100000∧0≤t∧t≤100000)
  (hsec:1≤a.secs.getD (issuer-1) 0∧a.secs.getD (issuer-1) 0 < qG) (hchk:qCx (qHu a kind issuer own k day u t)=0) :
  Spec Tryz.prog 73 [.ptr 0 0,.d (.int .i64 kind),.d (.int .i64 (issuer:Int)),.d (.int .i64 (own:Int)),.d (.int .i64 (k:Int)),.d (.int .i64 day),.d (.int .i64 u),.d (.int .i64 t)] (qKb a)
   (fun r h'=>r=.tup [qOy (qBr (a.secs.getD (issuer-1) 0) (qHu a kind issuer own k day u t)),.d (.int .i64 0)]∧h'=qKb { a with next:=a.next+1 }):=by
 have hp:=qHd (k:Int)
 have hsk:=secF_nat hk
 rw [show qSk (k:Int)=((qJu k:Nat):Int) by unfold qSk;rw [if_pos hsk,Int.toNat_natCast],show qKp (k:Int)=0 by unfold qKp;rw [if_pos hsk]] at hp
 have hl1:=qPu day u hday ⟨hu.1,hu.2.1⟩
 have hl2:=qPu day t hday ⟨hu.2.2.1,hu.2.2.2⟩
 have hcert:qHu a kind issuer own k day u t=⟨a.sta,kind,(a.next:Int),(issuer:Int),(own:Int),((qJu k:Nat):Int),day,qDg day u,qDg day t,0,0⟩:=rfl
 have hsl:=stateF_len (chk0 hchk).1
 have hsx:=secF_nat hsec
 have his:=qWy ((a.secs.getD (issuer-1) 0:Nat):Int) (qHu a kind issuer own k day u t) (by show a.sta.length≤_;have:(qHu a kind issuer own k day u t).sta=a.sta:=rfl;rw [this] at hsl;omega)
 rw [show vEu ((a.secs.getD (issuer-1) 0:Nat):Int) (qHu a kind issuer own k day u t)=(qBr (a.secs.getD (issuer-1) 0) (qHu a kind issuer own k day u t),0) by unfold vEu;rw [if_neg (by simpa using hchk),if_neg (by rw [hsx];simp),Int.toNat_natCast]] at his
 simp only at his
 have hat:=encNs'_at (l:=a.secs) (i:=issuer-1) (by omega)
 have hw1:IntKind.i64.wrap ((issuer:Int)-1)=((issuer-1:Nat):Int):=by rw [qAf (by omega)];omega
 generalize qBr (a.secs.getD (issuer-1) 0) (qHu a kind issuer own k day u t)=fin at his ⊢
 rw [hcert] at his
 generalize a.secs.getD (issuer-1) 0=sx at his hat
 generalize ((qJu k:Nat):Int)=pk at hp his
 generalize qDg day u=d1 at hl1 his
 generalize qDg day t=d2 at hl2 his
 clear hcert hsx hsl hchk
 obtain ⟨sta,roots,links,secs,signer,lister,sk,lk,next,list,rev,defs,seed⟩:=a
 simp only at *
 have hwn:IntKind.i64.wrap ((next:Int)+1)=((next+1:Nat):Int):=by rw [qAf (by omega)];omega
 refine qAb hT Tryz.func73 rfl rfl rfl rfl ?_;intro E hE
 refine ww ?_
 refine wwc hp ?_
 refine ww ?_
 refine qAa rfl (fun c1=>?_) (fun c1=>?_)
 ·exact absurd c1 (by simp)
 refine qBv ?_
 refine qAj ?_
 refine qAk (qBm (fun i=>bif Nat.beq i 20||Nat.beq i 21 then [5] else [0]) (fun i=>bif Nat.beq i 20||Nat.beq i 21 then [5] else []) mixed (by kernel_rfl) ?_)
 refine wwg ?_
 refine wwdc hl1 ?_
 refine wwg ?_
 refine wwdc hl2 ?_
 refine wwg ?_
 refine qAm (v:=.ptr 5 0) (os:=[.row (qBi nl0)]) (fun kk hk1 hk2=>allocAt_ok (i0:=5) (i:=⟨.struct [(0,1,false),(1,1,false),(2,1,false),(3,1,false),(4,1,false),(5,1,false),(6,1,false),(7,1,false),(8,1,false),(9,2,true)],11,96,qBi nl0⟩) hT rfl rfl ((hk2 5 List.mem_cons_self).trans rfl)) rfl ?_
 refine wwg ?_
 refine qAo (l:=[(0,.ptr 0 0),(2,.d (.int .i64 (issuer:Int))),(16,.ptr 4 0),(20,.ptr 5 0)]) (h':=qKb ⟨sta,roots,links,secs,signer,lister,sk,lk,next,list,rev,defs,seed⟩++[.row (qBi nl0),.row (qBi ⟨sta,kind,(next:Int),(issuer:Int),(own:Int),pk,day,d1,d2,0,0⟩)])
  ⟨.refl _,.refl _,.refl _,.refl _,trivial⟩ (HLe.refl _) ?_
 refine qAk (qAk (qBm (fun i=>bif Nat.beq i 3 then [0] else bif Nat.beq i 8||Nat.beq i 13 then [5] else []) (fun i=>bif Nat.beq i 13 then [5] else []) mixed (by kernel_rfl) ?_))
 refine wwg ?_
 refine qAm (os:=[]) (fun k hk1 hk2=>qAc (indexAddr_ok hT rfl rfl rfl rfl (by rw [hw1];omega) (by rw [hw1,Int.toNat_natCast];exact hat))) rfl ?_
 refine wwg ?_
 refine wwdc his ?_
 refine wwg ?_
 refine qAo (l:=[(0,.ptr 0 0),(16,.ptr 4 0),(19,.d (.int .i64 0)),(20,.ptr 5 0)]) (h':=qKb ⟨sta,roots,links,secs,signer,lister,sk,lk,next,list,rev,defs,seed⟩++[.row (qBi nl0),.row (qBi fin)])
  ⟨.refl _,.refl _,.refl _,.refl _,trivial⟩ (HLe.refl _) ?_
 refine ww ?_
 refine qAa rfl (fun c2=>?_) (fun c2=>?_)
 ·exact absurd c2 (by simp)
 refine qBv ?_
 refine qAk (qAg ?_)
 refine wws ?_
 rw [hwn]
 refine ww ?_
 exact wwr
end Tdoc
namespace Tdoc
open Go Go.Proofs
theorem randomD_spec (a:Aut) (n:Nat) (hs:a.seed.length≤500000) (hn:1≤n∧n≤1024):Spec Tryz.prog 85 [.ptr 0 0,.d (.int .i64 (n:Int))] [.row (qAe a)] (fun r h'=>r=.d (.sl 1 (qAl (qEj a.seed n)))∧h'=[.row (qAe { a with seed:=qAv a.seed })]):=by
 have hd:=qUr a.seed n hs hn.1 hn.2
 generalize qEj a.seed n=k at hd ⊢
 generalize hx:qAv a.seed=nx at hd ⊢
 obtain ⟨sta,roots,links,secs,signer,lister,sk,lk,next,list,rev,defs,seed⟩:=a
 simp only at hd ⊢
 refine qAb hT Tryz.func85 rfl rfl rfl rfl ?_;intro E hE
 refine ww ?_
 refine wwc hd ?_
 refine ww ?_
 exact wwr
theorem secretD_spec (a:Aut) (hs:a.seed.length≤500000):Spec Tryz.prog 86 [.ptr 0 0] [.row (qAe a)] (fun r h'=>r=.d (.int .i64 (qDr a.seed:Int))∧h'=[.row (qAe { a with seed:=qAv a.seed })]):=by
 have hd:=qOj a.seed hs
 generalize hk:qDr a.seed=k at hd ⊢
 generalize hx:qAv a.seed=nx at hd ⊢
 obtain ⟨sta,roots,links,secs,signer,lister,sk,lk,next,list,rev,defs,seed⟩:=a
 simp only at hd ⊢
 refine qAb hT Tryz.func86 rfl rfl rfl rfl ?_;intro E hE
 refine ww ?_
 refine wwc hd ?_
 refine ww ?_
 exact wwr
def wC (hr:Int) (ap fa fi sd ck ak li key inf grp sec root apps:AV) (zc:List AV):List AV :=
 qJv 44000 (.d (.sl 1 qFy)) true (.d (.sl 5 (qDf hr))) 30000++[ap,.d (.int .i64 40010),fa,fi,sd,ck,ak,li,key,inf,grp,sec,root,apps]++zc
def zC0:List AV:=[.d (.int .i64 0),.d (.str []),.d (.str []),.d (.str []),.d (.str []),.d (.str []),.d (.str []),.d (.str []),.d (.str []),.d (.str []),.d (.str []),.d (.str [])]
def wZ (hr:Int):List AV:=wC hr (.ptr 1 0) (.sl 1 [] .full) (.sl 1 [] .full) (.sl 1 [] .full) (.d (.int .i64 0)) (.d (.int .i64 0)) (.sl 1 [] .full) (.d (.str [])) (.sl 5 [] .full) (.sl 1 [] .full) (.sl 1 [] .full) (.sl 5 [] .full) (.sl 2 [] .full) zC0
def wD (hr:Int) (fa fi sd:List UInt8) (ck ak:Nat) (li key inf grp sec root apps:AV) (zc:List AV):List AV:=wC hr (.ptr 1 0) (.d (.sl 1 (qAl fa))) (.d (.sl 1 (qAl fi))) (.d (.sl 1 (qAl sd))) (.d (.int .i64 (ck:Int))) (.d (.int .i64 (ak:Int))) li key inf grp sec root apps zc
def seed5 (s:List UInt8):List UInt8:=qAv (qAv (qAv (qAv (qAv s))))
theorem nextS_len (s:List UInt8):(qAv s).length=32:=sumW_length _
theorem vAd (hr:Int) (a:Aut) (hs:a.seed.length≤500000):Spec Tryz.prog 31 [.ptr 0 0] [.row (wZ hr),.row (qAe a)]
  (fun r h'=>r=.d (.int .i64 0)∧h'=[.row (wD hr (qEj a.seed 16) (qEj (qAv a.seed) 16) (qEj (qAv (qAv a.seed)) 32) (qDr (qAv (qAv (qAv a.seed)))) (qDr (qAv (qAv (qAv (qAv a.seed))))) (.sl 1 [] .full) (.d (.str [])) (.sl 5 [] .full) (.sl 1 [] .full) (.sl 1 [] .full) (.sl 5 [] .full) (.sl 2 [] .full) zC0),.row (qAe { a with seed:=seed5 a.seed })]):=by
 have e (s:List UInt8):=nextS_len s
 have r1:=randomD_spec a 16 hs (by omega)
 have r2:=randomD_spec { a with seed:=qAv a.seed } 16 (by show (qAv a.seed).length≤_;rw [e];omega) (by omega)
 have r3:=randomD_spec { a with seed:=qAv (qAv a.seed) } 32 (by show (qAv _).length≤_;rw [e];omega) (by omega)
 have r4:=secretD_spec { a with seed:=qAv (qAv (qAv a.seed)) } (by show (qAv _).length≤_;rw [e];omega)
 have r5:=secretD_spec { a with seed:=qAv (qAv (qAv (qAv a.seed))) } (by show (qAv _).length≤_;rw [e];omega)
 unfold seed5
 simp only at r1 r2 r3 r4 r5
 clear e
 generalize qEj a.seed 16=x1 at r1 ⊢
 generalize qAv a.seed=s1 at r1 r2 r3 r4 r5 ⊢
 generalize qEj s1 16=x2 at r2 ⊢
 generalize qAv s1=s2 at r2 r3 r4 r5 ⊢
 generalize qEj s2 32=x3 at r3 ⊢
 generalize qAv s2=s3 at r3 r4 r5 ⊢
 generalize qDr s3=x4 at r4 ⊢
 generalize qAv s3=s4 at r4 r5 ⊢
 generalize qDr s4=x5 at r5 ⊢
 generalize qAv s4=s5 at r5 ⊢
 obtain ⟨sta,roots,links,secs,signer,lister,sk,lk,next,list,rev,defs,seed⟩:=a
 simp only at r1 r2 r3 r4 r5 ⊢
 refine qAb hT Tryz.func31 rfl rfl rfl rfl ?_;intro E hE
 refine wwn ?_
 refine qAw (fun i=>bif Nat.beq i 6||Nat.beq i 11||Nat.beq i 16 then [0] else bif Nat.beq i 7||Nat.beq i 12||Nat.beq i 17 then [1] else bif Nat.beq i 20||Nat.beq i 23||Nat.beq i 26 then [0] else [])
  (fun i=>bif Nat.beq i 7||Nat.beq i 12||Nat.beq i 17 then [1] else bif Nat.beq i 20||Nat.beq i 23||Nat.beq i 26 then [0] else []) mixed (by kernel_rfl) ?_
 refine wwg ?_
 refine qAm (v:=.d (.sl 1 (qAl x1))) (os:=[.row (qAe ⟨sta,roots,links,secs,signer,lister,sk,lk,next,list,rev,defs,s1⟩)]) (fun k hk1 hk2=>qBx rfl rfl r1 [1] (by decide) (by show [k[1]?]=_;rw [hk2 1 (by decide)];rfl) rfl rfl rfl rfl rfl) rfl ?_
 refine wwg ?_
 refine qAm (v:=.d (.sl 1 (qAl x2))) (os:=[.row (qAe ⟨sta,roots,links,secs,signer,lister,sk,lk,next,list,rev,defs,s2⟩)]) (fun k hk1 hk2=>qBx rfl rfl r2 [1] (by decide) (by show [k[1]?]=_;rw [hk2 1 (by decide)];rfl) rfl rfl rfl rfl rfl) rfl ?_
 refine wwg ?_
 refine qAm (v:=.d (.sl 1 (qAl x3))) (os:=[.row (qAe ⟨sta,roots,links,secs,signer,lister,sk,lk,next,list,rev,defs,s3⟩)]) (fun k hk1 hk2=>qBx rfl rfl r3 [1] (by decide) (by show [k[1]?]=_;rw [hk2 1 (by decide)];rfl) rfl rfl rfl rfl rfl) rfl ?_
 refine qBo hT (fun _=>rfl) rfl rfl True.intro ?_
 refine qBo hT (fun _=>rfl) rfl rfl True.intro ?_
 refine qAm (v:=.any) (os:=[.row (wC hr (.ptr 1 0) (.d (.sl 1 (qAl x1))) (.sl 1 [] .full) (.sl 1 [] .full) (.d (.int .i64 0)) (.d (.int .i64 0)) (.sl 1 [] .full) (.d (.str [])) (.sl 5 [] .full) (.sl 1 [] .full) (.sl 1 [] .full) (.sl 5 [] .full) (.sl 2 [] .full) zC0)]) (fun k hk1 hk2=>qBe (i:=0) (off:=14) hT rfl rfl ((hk2 0 List.mem_cons_self).trans rfl) rfl) rfl ?_
 refine qBo hT (fun _=>rfl) rfl rfl True.intro ?_
 refine qBo hT (fun _=>rfl) rfl rfl True.intro ?_
 refine qAm (v:=.any) (os:=[.row (wC hr (.ptr 1 0) (.d (.sl 1 (qAl x1))) (.d (.sl 1 (qAl x2))) (.sl 1 [] .full) (.d (.int .i64 0)) (.d (.int .i64 0)) (.sl 1 [] .full) (.d (.str [])) (.sl 5 [] .full) (.sl 1 [] .full) (.sl 1 [] .full) (.sl 5 [] .full) (.sl 2 [] .full) zC0)]) (fun k hk1 hk2=>qBe (i:=0) (off:=15) hT rfl rfl ((hk2 0 List.mem_cons_self).trans rfl) rfl) rfl ?_
 refine qBo hT (fun _=>rfl) rfl rfl True.intro ?_
 refine qBo hT (fun _=>rfl) rfl rfl True.intro ?_
 refine qAm (v:=.any) (os:=[.row (wC hr (.ptr 1 0) (.d (.sl 1 (qAl x1))) (.d (.sl 1 (qAl x2))) (.d (.sl 1 (qAl x3))) (.d (.int .i64 0)) (.d (.int .i64 0)) (.sl 1 [] .full) (.d (.str [])) (.sl 5 [] .full) (.sl 1 [] .full) (.sl 1 [] .full) (.sl 5 [] .full) (.sl 2 [] .full) zC0)]) (fun k hk1 hk2=>qBe (i:=0) (off:=16) hT rfl rfl ((hk2 0 List.mem_cons_self).trans rfl) rfl) rfl ?_
 refine wwg ?_
 refine qAo (l:=[(0,.ptr 0 0)]) (h':=[.row (wC hr (.ptr 1 0) (.d (.sl 1 (qAl x1))) (.d (.sl 1 (qAl x2))) (.d (.sl 1 (qAl x3))) (.d (.int .i64 0)) (.d (.int .i64 0)) (.sl 1 [] .full) (.d (.str [])) (.sl 5 [] .full) (.sl 1 [] .full) (.sl 1 [] .full) (.sl 5 [] .full) (.sl 2 [] .full) zC0),.row (qAe ⟨sta,roots,links,secs,signer,lister,sk,lk,next,list,rev,defs,s3⟩)]) ⟨.refl _,trivial⟩ (HLe.refl _) ?_
 refine qAk (qAw (fun i=>bif Nat.beq i 5||Nat.beq i 10 then [0] else bif Nat.beq i 6||Nat.beq i 11 then [1] else bif Nat.beq i 14||Nat.beq i 17 then [0] else [])
  (fun i=>bif Nat.beq i 6||Nat.beq i 11 then [1] else bif Nat.beq i 14||Nat.beq i 17 then [0] else []) mixed (by kernel_rfl) ?_)
 refine wwg ?_
 refine qAm (v:=.d (.int .i64 (x4:Int))) (os:=[.row (qAe ⟨sta,roots,links,secs,signer,lister,sk,lk,next,list,rev,defs,s4⟩)]) (fun k hk1 hk2=>qBx rfl rfl r4 [1] (by decide) (by show [k[1]?]=_;rw [hk2 1 (by decide)];rfl) rfl rfl rfl rfl rfl) rfl ?_
 refine wwg ?_
 refine qAm (v:=.d (.int .i64 (x5:Int))) (os:=[.row (qAe ⟨sta,roots,links,secs,signer,lister,sk,lk,next,list,rev,defs,s5⟩)]) (fun k hk1 hk2=>qBx rfl rfl r5 [1] (by decide) (by show [k[1]?]=_;rw [hk2 1 (by decide)];rfl) rfl rfl rfl rfl rfl) rfl ?_
 refine qBo hT (fun _=>rfl) rfl rfl True.intro ?_
 refine qBo hT (fun _=>rfl) rfl rfl True.intro ?_
 refine qAm (v:=.any) (os:=[.row (wC hr (.ptr 1 0) (.d (.sl 1 (qAl x1))) (.d (.sl 1 (qAl x2))) (.d (.sl 1 (qAl x3))) (.d (.int .i64 (x4:Int))) (.d (.int .i64 0)) (.sl 1 [] .full) (.d (.str [])) (.sl 5 [] .full) (.sl 1 [] .full) (.sl 1 [] .full) (.sl 5 [] .full) (.sl 2 [] .full) zC0)]) (fun k hk1 hk2=>qBe (i:=0) (off:=17) hT rfl rfl ((hk2 0 List.mem_cons_self).trans rfl) rfl) rfl ?_
 refine qBo hT (fun _=>rfl) rfl rfl True.intro ?_
 refine qBo hT (fun _=>rfl) rfl rfl True.intro ?_
 refine qAm (v:=.any) (os:=[.row (wC hr (.ptr 1 0) (.d (.sl 1 (qAl x1))) (.d (.sl 1 (qAl x2))) (.d (.sl 1 (qAl x3))) (.d (.int .i64 (x4:Int))) (.d (.int .i64 (x5:Int))) (.sl 1 [] .full) (.d (.str [])) (.sl 5 [] .full) (.sl 1 [] .full) (.sl 1 [] .full) (.sl 5 [] .full) (.sl 2 [] .full) zC0)]) (fun k hk1 hk2=>qBe (i:=0) (off:=18) hT rfl rfl ((hk2 0 List.mem_cons_self).trans rfl) rfl) rfl ?_
 refine wwg ?_
 refine qAo (l:=[(0,.ptr 0 0)]) (h':=[.row (wD hr x1 x2 x3 x4 x5 (.sl 1 [] .full) (.d (.str [])) (.sl 5 [] .full) (.sl 1 [] .full) (.sl 1 [] .full) (.sl 5 [] .full) (.sl 2 [] .full) zC0),.row (qAe ⟨sta,roots,links,secs,signer,lister,sk,lk,next,list,rev,defs,s5⟩)]) ⟨.refl _,trivial⟩ (HLe.refl _) ?_
 refine ww ?_
 exact rx ⟨rfl,rfl⟩ (h4:=show (2:Nat)=2 from rfl)
end Tdoc
namespace Tdoc
open Go Go.Proofs
def num9:List UInt8:=[76,48,48,48,48,65,66,60,60]
def keyM:List UInt8:=num9++(qBs num9).1++zM.bir++(qBs zM.bir).1++exM++(qBs exM).1
theorem vEf:Spec Tryz.prog 89 [zAV zM] [] (fun r h'=>r=.tup [.d (.str keyM),.d (.int .i64 0)]∧h'=[]):=by
 have hv:=qOd zM zM_len
 rw [zM_valid] at hv
 have hr:=qEl 2 (by omega)
 have h1:=digitP_spec num9 (by decide)
 have h2:=digitP_spec zM.bir (by decide)
 have h3:=digitP_spec exM (by decide)
 have l1:(qBs num9).1.length≤1:=by decide
 have l2:(qBs zM.bir).1.length≤1:=by decide
 have l3:(qBs exM).1.length≤1:=by decide
 have q1:zM.num.length=7:=rfl
 have q2:zM.bir.length=6:=rfl
 have q3:zM.exp.length=6:=rfl
 have q4:(List.replicate 2 (60:UInt8)).length=2:=rfl
 unfold keyM
 generalize (qBs num9).1=d1 at h1 l1 ⊢
 generalize (qBs zM.bir).1=d2 at h2 l2 ⊢
 generalize (qBs exM).1=d3 at h3 l3 ⊢
 refine qAb hT Tryz.func89 rfl rfl rfl rfl ?_;intro E hE
 refine wwn ?_
 refine wwc hv ?_
 refine wwn ?_
 refine qAa rfl (fun c1=>?_) (fun c1=>?_)
 ·exact absurd c1 (by simp)
 refine wwn ?_
 refine qAw (fun i=>bif Nat.beq i 1||Nat.beq i 3 then [0] else []) (fun i=>[]) mixed (by kernel_rfl) ?_
 refine wwg ?_
 refine qAm (os:=[]) (fun k hk1 hk2=>qAc (vIs (t2:=#[]) rfl rfl rfl)) rfl ?_
 refine wwdc hr ?_
 refine wwg ?_
 refine qAk (qAw (fun i=>bif Nat.beq i 5||Nat.beq i 8||Nat.beq i 12||Nat.beq i 15 then [0] else []) (fun i=>[]) mixed (by kernel_rfl) ?_)
 refine wwg ?_
 refine wwdc h1 ?_
 refine wwg ?_
 refine wwdc h2 ?_
 refine wwg ?_
 refine wwdc h3 ?_
 refine wwg ?_
 refine ww ?_
 exact wwr
end Tdoc
namespace Tdoc
open Go Go.Proofs
def wE (hr:Int) (x1 x2 x3 x4 x5:Dat) (li key inf grp sec root apps:AV) (zc:List AV):List AV:=wC hr (.ptr 1 0) (.d x1) (.d x2) (.d x3) (.d x4) (.d x5) li key inf grp sec root apps zc
theorem qVr (hr:Int) (x1 x2 x3 x4 x5:Dat) (a:Aut) (hsta:a.sta=[85,84,79]):Spec Tryz.prog 32 [.ptr 0 0] [.row (wE hr x1 x2 x3 x4 x5 (.sl 1 [] .full) (.d (.str [])) (.sl 5 [] .full) (.sl 1 [] .full) (.sl 1 [] .full) (.sl 5 [] .full) (.sl 2 [] .full) zC0),.row (qAe a)]
  (fun r h'=>r=.d (.int .i64 0)∧h'=[.row (wE hr x1 x2 x3 x4 x5 (.d (.sl 1 (qGl (qCq zM)))) (.d (.str keyM)) (.sl 5 [] .full) (.sl 1 [] .full) (.sl 1 [] .full) (.sl 5 [] .full) (.sl 2 [] .full) (qLr zM)),.row (qAe a)]):=by
 have hf:=Format44
 have hb:=qOo zM zM_len zM_valid rfl
 have hk:=vEf
 generalize qGl (qCq zM)=LN at hb ⊢
 generalize keyM=KM at hk ⊢
 obtain ⟨sta,roots,links,secs,signer,lister,sk,lk,next,list,rev,defs,seed⟩:=a
 simp only at hsta
 subst hsta
 refine qAb hT Tryz.func32 rfl rfl rfl rfl ?_;intro E hE
 refine wwn ?_
 refine wwc hf ?_
 refine wwn ?_
 refine qAa rfl (fun c1=>?_) (fun c1=>?_)
 ·exact absurd c1 (by simp)
 refine qAo (l:=[(0,.ptr 0 0),(3,.d (.str exM))]) (h':=[.row (wE hr x1 x2 x3 x4 x5 (.sl 1 [] .full) (.d (.str [])) (.sl 5 [] .full) (.sl 1 [] .full) (.sl 1 [] .full) (.sl 5 [] .full) (.sl 2 [] .full) zC0),.row (qAe ⟨[85,84,79],roots,links,secs,signer,lister,sk,lk,next,list,rev,defs,seed⟩)]) ⟨.refl _,.refl _,trivial⟩ (HLe.refl _) ?_
 refine wwn ?_
 refine qAw (fun i=>bif [4,12,17,22,27,32,37,42].contains i then [0] else bif Nat.beq i 7 then [1] else []) (fun i=>bif Nat.beq i 42 then [0] else []) mixed (by kernel_rfl) ?_
 refine wwg ?_
 refine qAo (l:=[(0,.ptr 0 0)]) (h':=[.row (wE hr x1 x2 x3 x4 x5 (.sl 1 [] .full) (.d (.str [])) (.sl 5 [] .full) (.sl 1 [] .full) (.sl 1 [] .full) (.sl 5 [] .full) (.sl 2 [] .full) (qLr zM)),.row (qAe ⟨[85,84,79],roots,links,secs,signer,lister,sk,lk,next,list,rev,defs,seed⟩)]) ⟨.refl _,trivial⟩ (HLe.refl _) ?_
 refine wwn ?_
 refine wwc hb ?_
 refine wwn ?_
 refine qAa rfl (fun c2=>?_) (fun c2=>?_)
 ·exact absurd c2 (by simp)
 refine qAo (l:=[(0,.ptr 0 0)]) (h':=[.row (wE hr x1 x2 x3 x4 x5 (.d (.sl 1 LN)) (.d (.str [])) (.sl 5 [] .full) (.sl 1 [] .full) (.sl 1 [] .full) (.sl 5 [] .full) (.sl 2 [] .full) (qLr zM)),.row (qAe ⟨[85,84,79],roots,links,secs,signer,lister,sk,lk,next,list,rev,defs,seed⟩)]) ⟨.refl _,trivial⟩ (HLe.refl _) ?_
 refine wwn ?_
 refine wwc hk ?_
 refine wwn ?_
 exact rx ⟨rfl,rfl⟩ (h4:=show (2:Nat)=2 from rfl)
end Tdoc
namespace Tdoc
open Go Go.Proofs
def qVe (P:Int):Nat→List (List Dat)
 | 0=>[]
 | 1=>[[Dat.int .i64 2,.int .i64 1,.int .i64 0,.int .i64 0,.int .i64 0]]
 | 2=>[[Dat.int .i64 2,.int .i64 1,.int .i64 0,.int .i64 0,.int .i64 0],[Dat.int .i64 3,.int .i64 1,.int .i64 0,.int .i64 0,.int .i64 0]]
 | 3=>[[Dat.int .i64 2,.int .i64 1,.int .i64 0,.int .i64 0,.int .i64 0],[Dat.int .i64 3,.int .i64 1,.int .i64 0,.int .i64 0,.int .i64 0],[Dat.int .i64 4,.int .i64 1,.int .i64 0,.int .i64 P,.int .i64 1]]
 | 4=>[[Dat.int .i64 2,.int .i64 1,.int .i64 0,.int .i64 0,.int .i64 0],[Dat.int .i64 3,.int .i64 1,.int .i64 0,.int .i64 0,.int .i64 0],[Dat.int .i64 4,.int .i64 1,.int .i64 0,.int .i64 P,.int .i64 1],[Dat.int .i64 5,.int .i64 1,.int .i64 0,.int .i64 0,.int .i64 0]]
 | _=>[[Dat.int .i64 2,.int .i64 1,.int .i64 0,.int .i64 0,.int .i64 0],[Dat.int .i64 3,.int .i64 1,.int .i64 0,.int .i64 0,.int .i64 0],[Dat.int .i64 4,.int .i64 1,.int .i64 0,.int .i64 P,.int .i64 1],[Dat.int .i64 5,.int .i64 1,.int .i64 0,.int .i64 0,.int .i64 0],[Dat.int .i64 6,.int .i64 1,.int .i64 0,.int .i64 0,.int .i64 0]]
theorem infK_doc (P:Int):qVe P 5=qFm (qEq P):=rfl
theorem vHv (v:Int) (b:Bool) (hb:([2,3,4,5,6].any fun x=>v == x)=b):Spec Tryz.prog 90 [.d (.sl 1 qFy),.d (.int .i64 v)] [] (fun r h'=>r=.d (.bool b)∧h'=[]):=by
 have h:=hasI_spec [2,3,4,5,6] v (by simp)
 rw [hb] at h
 exact h
theorem vLg (v:Int):Spec Tryz.prog 90 [.d (.sl 1 []),.d (.int .i64 v)] [] (fun r h'=>r=.d (.bool false)∧h'=[]):=hasI_spec [] v (by simp)
theorem qVq (hr:Int) (x1 x2 x3 x5:Dat) (ck:Int) (hck:qLt ck=true) (li key:Dat) (a:Aut) (zc:List Dat) (hz:zc.length=12):Spec Tryz.prog 33 [.ptr 0 0] [.row (wE hr x1 x2 x3 (.int .i64 ck) x5 (.d li) (.d key) (.sl 5 [] .full) (.sl 1 [] .full) (.sl 1 [] .full) (.sl 5 [] .full) (.sl 2 [] .full) (zc.map .d)),.row (qAe a)]
  (fun r h'=>r=.d (.int .i64 0)∧h'=[.row (wE hr x1 x2 x3 (.int .i64 ck) x5 (.d li) (.d key) (.d (.sl 5 (qFm (qEq (qSk ck))))) (.sl 1 [] .full) (.sl 1 [] .full) (.sl 5 [] .full) (.sl 2 [] .full) (zc.map .d)),.row (qAe a)]):=by
 have hp:=qHd ck
 rw [show qKp ck=0 by unfold qKp;rw [if_pos hck]] at hp
 rw [← infK_doc]
 generalize qSk ck=P at hp ⊢
 match zc,hz with
 | [z1,z2,z3,z4,z5,z6,z7,z8,z9,z10,z11,z12],_ =>
 have h2:=vHv 2 true (by decide)
 have h3:=vHv 3 true (by decide)
 have h4:=vHv 4 true (by decide)
 have h5:=vHv 5 true (by decide)
 have h6:=vHv 6 true (by decide)
 refine qAb hT Tryz.func33 rfl rfl rfl rfl ?_;intro E hE
 refine qAj ?_
 refine qCe 0 21 2 5 (es:=[]) rfl rfl rfl ?_
 refine qAo (l:=[(0,.ptr 0 0)]) (h':=[.row (wE hr x1 x2 x3 (.int .i64 ck) x5 (.d li) (.d key) (.sl 5 (qVe P 0) (.right 2)) (.sl 1 [] .full) (.sl 1 [] .full) (.sl 5 [] .full) (.sl 2 [] .full) ([z1,z2,z3,z4,z5,z6,z7,z8,z9,z10,z11,z12].map .d)),.row (qAe a),.right 5 0]) ⟨.refl _,trivial⟩ (HLe.refl _) ?_
 refine wwn ?_
 refine qBt (ι:=Nat) (fun k=>[(0,.ptr 0 0),(3,.d (.int .i64 ((k:Int)+2)))]) (fun k=>[.row (wE hr x1 x2 x3 (.int .i64 ck) x5 (.d li) (.d key) (.sl 5 (qVe P k) (.right 2)) (.sl 1 [] .full) (.sl 1 [] .full) (.sl 5 [] .full) (.sl 2 [] .full) ([z1,z2,z3,z4,z5,z6,z7,z8,z9,z10,z11,z12].map .d)),.row (qAe a),.right 5 (qVe P k).length]) (fun k=>k≤5) (fun k=>5-k) 0 (by omega)
  ⟨.refl _,.refl _,trivial⟩ (HLe.refl _) ?_
 intro k hk
 rcases (by omega:k=0∨k=1∨k=2∨k=3∨k=4∨k=5) with rfl | rfl | rfl | rfl | rfl | rfl
 ·refine wwn ?_
  refine qAa rfl (fun q=>?_) (fun q=>absurd q (by decide))
  refine wwn ?_
  refine wwc h2 ?_
  refine wwn ?_
  refine qAa rfl (fun q=>absurd q (by decide)) (fun q=>?_)
  refine wwn ?_
  refine qAa rfl (fun q=>absurd q (by decide)) (fun q=>?_)
  refine wwn ?_
  refine qAw (fun i=>bif Nat.beq i 4||Nat.beq i 10 then [0] else bif Nat.beq i 5 then [3] else bif Nat.beq i 7 then [2] else []) (fun i=>bif Nat.beq i 10 then [0] else bif Nat.beq i 7 then [2] else []) mixed (by kernel_rfl) ?_
  refine wwg ?_
  refine qAm (os:=[]) (fun k hk1 hk2=>buildSl_ok hT rfl rfl) rfl ?_
  refine qAm (v:=.sl 5 (qVe P 1) (.right 2)) (os:=[.right 5 1]) (fun k hk1 hk2=>qAi (i:=2) (es2:=[[Dat.int .i64 2,.int .i64 1,.int .i64 0,.int .i64 0,.int .i64 0]]) hT rfl rfl rfl rfl ((hk2 2 List.mem_cons_self).trans rfl) rfl (by show (0+1)*(40+1)≤140737488355328;omega)) rfl ?_
  refine wwg ?_
  refine wwn ?_
  exact ⟨1,[_],by omega,by omega,⟨.refl _,.refl _,trivial⟩,HLe.refl _,Env.below_mono hE (by simp),rfl,rfl⟩
 ·refine wwn ?_
  refine qAa rfl (fun q=>?_) (fun q=>absurd q (by decide))
  refine wwn ?_
  refine wwc h3 ?_
  refine wwn ?_
  refine qAa rfl (fun q=>absurd q (by decide)) (fun q=>?_)
  refine wwn ?_
  refine qAa rfl (fun q=>absurd q (by decide)) (fun q=>?_)
  refine wwn ?_
  refine qAw (fun i=>bif Nat.beq i 4||Nat.beq i 10 then [0] else bif Nat.beq i 5 then [3] else bif Nat.beq i 7 then [2] else []) (fun i=>bif Nat.beq i 10 then [0] else bif Nat.beq i 7 then [2] else []) mixed (by kernel_rfl) ?_
  refine wwg ?_
  refine qAm (os:=[]) (fun k hk1 hk2=>buildSl_ok hT rfl rfl) rfl ?_
  refine qAm (v:=.sl 5 (qVe P 2) (.right 2)) (os:=[.right 5 2]) (fun k hk1 hk2=>qAi (i:=2) (es2:=[[Dat.int .i64 3,.int .i64 1,.int .i64 0,.int .i64 0,.int .i64 0]]) hT rfl rfl rfl rfl ((hk2 2 List.mem_cons_self).trans rfl) rfl (by show (1+1)*(40+1)≤140737488355328;omega)) rfl ?_
  refine wwg ?_
  refine wwn ?_
  exact ⟨2,[_],by omega,by omega,⟨.refl _,.refl _,trivial⟩,HLe.refl _,Env.below_mono hE (by simp),rfl,rfl⟩
 ·refine wwn ?_
  refine qAa rfl (fun q=>?_) (fun q=>absurd q (by decide))
  refine wwn ?_
  refine wwc h4 ?_
  refine wwn ?_
  refine qAa rfl (fun q=>absurd q (by decide)) (fun q=>?_)
  refine wwn ?_
  refine qAa rfl (fun q=>?_) (fun q=>absurd q (by decide))
  refine wwn ?_
  refine wwc hp ?_
  refine wwn ?_
  refine qAa rfl (fun q=>absurd q (by decide)) (fun q=>?_)
  refine wwn ?_
  refine qAw (fun i=>bif Nat.beq i 4||Nat.beq i 10 then [0] else bif Nat.beq i 5 then [3] else bif Nat.beq i 7 then [2] else []) (fun i=>bif Nat.beq i 10 then [0] else bif Nat.beq i 7 then [2] else []) mixed (by kernel_rfl) ?_
  refine wwg ?_
  refine qAm (os:=[]) (fun k hk1 hk2=>buildSl_ok hT rfl rfl) rfl ?_
  refine qAm (v:=.sl 5 (qVe P 3) (.right 2)) (os:=[.right 5 3]) (fun k hk1 hk2=>qAi (i:=2) (es2:=[[Dat.int .i64 4,.int .i64 1,.int .i64 0,.int .i64 P,.int .i64 1]]) hT rfl rfl rfl rfl ((hk2 2 List.mem_cons_self).trans rfl) rfl (by show (2+1)*(40+1)≤140737488355328;omega)) rfl ?_
  refine wwg ?_
  refine wwn ?_
  exact ⟨3,[_],by omega,by omega,⟨.refl _,.refl _,trivial⟩,HLe.refl _,Env.below_mono hE (by simp),rfl,rfl⟩
 ·refine wwn ?_
  refine qAa rfl (fun q=>?_) (fun q=>absurd q (by decide))
  refine wwn ?_
  refine wwc h5 ?_
  refine wwn ?_
  refine qAa rfl (fun q=>absurd q (by decide)) (fun q=>?_)
  refine wwn ?_
  refine qAa rfl (fun q=>absurd q (by decide)) (fun q=>?_)
  refine wwn ?_
  refine qAw (fun i=>bif Nat.beq i 4||Nat.beq i 10 then [0] else bif Nat.beq i 5 then [3] else bif Nat.beq i 7 then [2] else []) (fun i=>bif Nat.beq i 10 then [0] else bif Nat.beq i 7 then [2] else []) mixed (by kernel_rfl) ?_
  refine wwg ?_
  refine qAm (os:=[]) (fun k hk1 hk2=>buildSl_ok hT rfl rfl) rfl ?_
  refine qAm (v:=.sl 5 (qVe P 4) (.right 2)) (os:=[.right 5 4]) (fun k hk1 hk2=>qAi (i:=2) (es2:=[[Dat.int .i64 5,.int .i64 1,.int .i64 0,.int .i64 0,.int .i64 0]]) hT rfl rfl rfl rfl ((hk2 2 List.mem_cons_self).trans rfl) rfl (by show (3+1)*(40+1)≤140737488355328;omega)) rfl ?_
  refine wwg ?_
  refine wwn ?_
  exact ⟨4,[_],by omega,by omega,⟨.refl _,.refl _,trivial⟩,HLe.refl _,Env.below_mono hE (by simp),rfl,rfl⟩
 ·refine wwn ?_
  refine qAa rfl (fun q=>?_) (fun q=>absurd q (by decide))
  refine wwn ?_
  refine wwc h6 ?_
  refine wwn ?_
  refine qAa rfl (fun q=>absurd q (by decide)) (fun q=>?_)
  refine wwn ?_
  refine qAa rfl (fun q=>absurd q (by decide)) (fun q=>?_)
  refine wwn ?_
  refine qAw (fun i=>bif Nat.beq i 4||Nat.beq i 10 then [0] else bif Nat.beq i 5 then [3] else bif Nat.beq i 7 then [2] else []) (fun i=>bif Nat.beq i 10 then [0] else bif Nat.beq i 7 then [2] else []) mixed (by kernel_rfl) ?_
  refine wwg ?_
  refine qAm (os:=[]) (fun k hk1 hk2=>buildSl_ok hT rfl rfl) rfl ?_
  refine qAm (v:=.sl 5 (qVe P 5) (.right 2)) (os:=[.right 5 5]) (fun k hk1 hk2=>qAi (i:=2) (es2:=[[Dat.int .i64 6,.int .i64 1,.int .i64 0,.int .i64 0,.int .i64 0]]) hT rfl rfl rfl rfl ((hk2 2 List.mem_cons_self).trans rfl) rfl (by show (4+1)*(40+1)≤140737488355328;omega)) rfl ?_
  refine wwg ?_
  refine wwn ?_
  exact ⟨5,[_],by omega,by omega,⟨.refl _,.refl _,trivial⟩,HLe.refl _,Env.below_mono hE (by simp),rfl,rfl⟩
 ·refine wwn ?_
  refine qAa rfl (fun q=>absurd q (by decide)) (fun q=>?_)
  refine qAo (l:=[(0,.ptr 0 0)]) (h':=[.row (wE hr x1 x2 x3 (.int .i64 ck) x5 (.d li) (.d key) (.d (.sl 5 (qVe P 5))) (.sl 1 [] .full) (.sl 1 [] .full) (.sl 5 [] .full) (.sl 2 [] .full) ([z1,z2,z3,z4,z5,z6,z7,z8,z9,z10,z11,z12].map .d)),.row (qAe a),.dead]) ⟨.refl _,trivial⟩ ⟨by
   show AllLe _ _
   exact ⟨.refl _,.refl _,.refl _,.refl _,.refl _,.refl _,.refl _,.refl _,.refl _,.refl _,.refl _,.refl _,.refl _,.refl _,.refl _,.refl _,.refl _,.refl _,.refl _,.refl _,.refl _,.dat,AllLe.refl _⟩,ObLe.refl _,trivial,trivial⟩ ?_
  refine wwn ?_
  exact rx ⟨rfl,rfl⟩ (h4:=show (2:Nat)=2 from rfl)
end Tdoc
namespace Tdoc
open Go Go.Proofs
def zDM:List Dat:=[.int .i64 3,.str [80],.str [85,84,79],.str [69,82,73,75,83,83,79,78],.str [65,78,78,65,32,77,65,82,73,65],.str [76,48,48,48,48,65,66],.str [85,84,79],.str [55,52,48,56,49,50],.str [70],.str exM,.str [],.str []]
theorem zDM_eq:qLr zM=zDM.map .d:=rfl
theorem vDs (hr:Int) (x1 x2 x3 x4 x5:Dat) (li key inf:Dat) (zc:List Dat) (hz:zc.length=12) (a:Aut) (gs b:List (List Dat)) (e:Int) (hg:gs.length≤1000):Spec Tryz.prog 92 [.ptr 0 0,.d (.sl 1 b),.d (.int .i64 e)] [.row (wE hr x1 x2 x3 x4 x5 (.d li) (.d key) (.d inf) (.sl 1 gs (.right 2)) (.sl 1 [] .full) (.sl 5 [] .full) (.sl 2 [] .full) (zc.map .d)),.row (qAe a),.right 1 gs.length]
  (fun r h'=>r=.d (.int .i64 e)∧h'=[.row (wE hr x1 x2 x3 x4 x5 (.d li) (.d key) (.d inf) (.sl 1 (gs++[[Dat.sl 1 b]]) (.right 2)) (.sl 1 [] .full) (.sl 5 [] .full) (.sl 2 [] .full) (zc.map .d)),.row (qAe a),.right 1 (gs++[[Dat.sl 1 b]]).length]):=by
 match zc,hz with
 | [z1,z2,z3,z4,z5,z6,z7,z8,z9,z10,z11,z12],_ =>
 refine qAb hT Tryz.func92 rfl rfl rfl rfl ?_;intro E hE
 refine wwn ?_
 refine qAd (qAi (i:=2) (es2:=[[Dat.sl 1 b]]) hT rfl rfl rfl rfl rfl rfl (by show (gs.length+1)*(24+1)≤_;omega)) rfl ?_
 refine wwn ?_
 exact rx ⟨rfl,rfl⟩ (h4:=show (3:Nat)=3 from rfl)
theorem qRi (hr:Int) (FA FI INF G1 G2 G3 G4 G5:List (List Dat)) (x3 x4:Dat) (ak P:Int) (li key:Dat) (a:Aut)
  (hz:Spec Tryz.prog 93 [.agg (zDM.map .d)] [] (fun r h'=>r=.tup [.d (.sl 1 G1),.d (.int .i64 0)]∧h'=[]))
  (hb2:Spec Tryz.prog 94 [.d (.int .i64 2),.d (.sl 7 [[.int .i64 1,.int .i64 0,.int .i64 40010,.int .i64 73048,.int .i64 1,.int .i64 50,.sl 1 FA]])] [] (fun r h'=>r=.tup [.d (.sl 1 G2),.d (.int .i64 0)]∧h'=[]))
  (hb3:Spec Tryz.prog 94 [.d (.int .i64 3),.d (.sl 7 [[.int .i64 2,.int .i64 1,.int .i64 40010,.int .i64 73048,.int .i64 1,.int .i64 50,.sl 1 FI]])] [] (fun r h'=>r=.tup [.d (.sl 1 G3),.d (.int .i64 0)]∧h'=[]))
  (hi:Spec Tryz.prog 95 [.d (.sl 5 INF)] [] (fun r h'=>r=.tup [.d (.sl 1 G4),.d (.int .i64 0)]∧h'=[]))
  (hp:Spec Tryz.prog 91 [.d (.int .i64 ak)] [] (fun r h'=>r=.tup [.d (.int .i64 P),.d (.int .i64 0)]∧h'=[]))
  (ha:Spec Tryz.prog 96 [.d (.int .i64 P)] [] (fun r h'=>r=.tup [.d (.sl 1 G5),.d (.int .i64 0)]∧h'=[])) :
  Spec Tryz.prog 34 [.ptr 0 0] [.row (wE hr (.sl 1 FA) (.sl 1 FI) x3 x4 (.int .i64 ak) (.d li) (.d key) (.d (.sl 5 INF)) (.sl 1 [] .full) (.sl 1 [] .full) (.sl 5 [] .full) (.sl 2 [] .full) (zDM.map .d)),.row (qAe a)] (fun r h'=>r=.d (.int .i64 0)∧h'=[.row (wE hr (.sl 1 FA) (.sl 1 FI) x3 x4 (.int .i64 ak) (.d li) (.d key) (.d (.sl 5 INF)) (.d (.sl 1 [[.sl 1 G1],[.sl 1 G2],[.sl 1 G3],[.sl 1 G4],[.sl 1 G5]])) (.sl 1 [] .full) (.sl 5 [] .full) (.sl 2 [] .full) (zDM.map .d)),.row (qAe a)]):=by
 have hh:=vHv 6 true (by decide)
 have add:=fun (gs b:List (List Dat)) (hg:gs.length≤1000)=>vDs hr (.sl 1 FA) (.sl 1 FI) x3 x4 (.int .i64 ak) li key (.sl 5 INF) zDM rfl a gs b 0 hg
 refine qAb hT Tryz.func34 rfl rfl rfl rfl ?_;intro E hE
 refine qAj (qAj (qAj ?_))
 refine qCe 0 22 2 1 (es:=[]) rfl rfl rfl ?_
 refine qAo (l:=[(0,.ptr 0 0)]) (h':=[.row (wE hr (.sl 1 FA) (.sl 1 FI) x3 x4 (.int .i64 ak) (.d li) (.d key) (.d (.sl 5 INF)) (.sl 1 [] (.right 2)) (.sl 1 [] .full) (.sl 5 [] .full) (.sl 2 [] .full) (zDM.map .d)),.row (qAe a),.right 1 0,.room,.room]) ⟨.refl _,trivial⟩ (HLe.refl _) ?_
 refine wwn ?_
 refine wwc hz ?_
 refine wwn ?_
 refine qAd (qBx (v:=.d (.int .i64 0)) (H':=[.row (wE hr (.sl 1 FA) (.sl 1 FI) x3 x4 (.int .i64 ak) (.d li) (.d key) (.d (.sl 5 INF)) (.sl 1 [[.sl 1 G1]] (.right 2)) (.sl 1 [] .full) (.sl 5 [] .full) (.sl 2 [] .full) (zDM.map .d)),.row (qAe a),.right 1 1,.room,.room]) rfl rfl (add [] G1 (by simp)) [0,1,2] (by decide) rfl rfl rfl rfl rfl rfl) rfl ?_
 refine wwn ?_
 refine qAa rfl (fun c1=>?_) (fun c1=>?_)
 ·exact absurd c1 (by simp)
 refine qAo (l:=[(0,.ptr 0 0)]) (h':=[.row (wE hr (.sl 1 FA) (.sl 1 FI) x3 x4 (.int .i64 ak) (.d li) (.d key) (.d (.sl 5 INF)) (.sl 1 [[.sl 1 G1]] (.right 2)) (.sl 1 [] .full) (.sl 5 [] .full) (.sl 2 [] .full) (zDM.map .d)),.row (qAe a),.right 1 1,.room,.room]) ⟨.refl _,trivial⟩ (HLe.refl _) ?_
 refine wwn ?_
 refine qAw (fun i=>bif Nat.beq i 3||Nat.beq i 7 then [0] else bif Nat.beq i 9||Nat.beq i 10 then [3] else []) (fun i=>bif Nat.beq i 9||Nat.beq i 10 then [3] else []) mixed (by kernel_rfl) ?_
 refine wwg ?_
 refine qAm (v:=.ptr 3 0) (os:=[.row [.d (.int .i64 0),.d (.int .i64 0),.d (.int .i64 0),.d (.int .i64 0),.d (.int .i64 0),.d (.int .i64 0),.sl 1 [] .full]]) (fun k hk1 hk2=>allocAt_ok (i0:=3) (i:=⟨.struct [(0,1,false),(1,1,false),(2,1,false),(3,1,false),(4,1,false),(5,1,false),(6,1,false)],7,72,[.d (.int .i64 0),.d (.int .i64 0),.d (.int .i64 0),.d (.int .i64 0),.d (.int .i64 0),.d (.int .i64 0),.sl 1 [] .full]⟩) hT rfl rfl ((hk2 3 List.mem_cons_self).trans rfl)) rfl ?_
 refine wwg ?_
 refine qAo (l:=[(0,.ptr 0 0),(4,.ptr 3 0)]) (h':=[.row (wE hr (.sl 1 FA) (.sl 1 FI) x3 x4 (.int .i64 ak) (.d li) (.d key) (.d (.sl 5 INF)) (.sl 1 [[.sl 1 G1]] (.right 2)) (.sl 1 [] .full) (.sl 5 [] .full) (.sl 2 [] .full) (zDM.map .d)),.row (qAe a),.right 1 1,.row [.d (.int .i64 1),.d (.int .i64 0),.d (.int .i64 40010),.d (.int .i64 73048),.d (.int .i64 1),.d (.int .i64 50),.d (.sl 1 FA)],.room]) ⟨.refl _,.refl _,trivial⟩ (HLe.refl _) ?_
 refine wwn ?_
 refine wwc hb2 ?_
 refine wwn ?_
 refine qAd (qBx (v:=.d (.int .i64 0)) (H':=[.row (wE hr (.sl 1 FA) (.sl 1 FI) x3 x4 (.int .i64 ak) (.d li) (.d key) (.d (.sl 5 INF)) (.sl 1 [[.sl 1 G1],[.sl 1 G2]] (.right 2)) (.sl 1 [] .full) (.sl 5 [] .full) (.sl 2 [] .full) (zDM.map .d)),.row (qAe a),.right 1 2,.row [.d (.int .i64 1),.d (.int .i64 0),.d (.int .i64 40010),.d (.int .i64 73048),.d (.int .i64 1),.d (.int .i64 50),.d (.sl 1 FA)],.room]) rfl rfl (add [[.sl 1 G1]] G2 (by simp)) [0,1,2] (by decide) rfl rfl rfl rfl rfl rfl) rfl ?_
 refine wwn ?_
 refine qAa rfl (fun c2=>?_) (fun c2=>?_)
 ·exact absurd c2 (by simp)
 refine qAo (l:=[(0,.ptr 0 0)]) (h':=[.row (wE hr (.sl 1 FA) (.sl 1 FI) x3 x4 (.int .i64 ak) (.d li) (.d key) (.d (.sl 5 INF)) (.sl 1 [[.sl 1 G1],[.sl 1 G2]] (.right 2)) (.sl 1 [] .full) (.sl 5 [] .full) (.sl 2 [] .full) (zDM.map .d)),.row (qAe a),.right 1 2,.row [.d (.int .i64 1),.d (.int .i64 0),.d (.int .i64 40010),.d (.int .i64 73048),.d (.int .i64 1),.d (.int .i64 50),.d (.sl 1 FA)],.room]) ⟨.refl _,trivial⟩ (HLe.refl _) ?_
 refine wwn ?_
 refine qAw (fun i=>bif Nat.beq i 3||Nat.beq i 7 then [0] else bif Nat.beq i 9||Nat.beq i 10 then [4] else []) (fun i=>bif Nat.beq i 9||Nat.beq i 10 then [4] else []) mixed (by kernel_rfl) ?_
 refine wwg ?_
 refine qAm (v:=.ptr 4 0) (os:=[.row [.d (.int .i64 0),.d (.int .i64 0),.d (.int .i64 0),.d (.int .i64 0),.d (.int .i64 0),.d (.int .i64 0),.sl 1 [] .full]]) (fun k hk1 hk2=>allocAt_ok (i0:=4) (i:=⟨.struct [(0,1,false),(1,1,false),(2,1,false),(3,1,false),(4,1,false),(5,1,false),(6,1,false)],7,72,[.d (.int .i64 0),.d (.int .i64 0),.d (.int .i64 0),.d (.int .i64 0),.d (.int .i64 0),.d (.int .i64 0),.sl 1 [] .full]⟩) hT rfl rfl ((hk2 4 List.mem_cons_self).trans rfl)) rfl ?_
 refine wwg ?_
 refine qAo (l:=[(0,.ptr 0 0),(6,.ptr 4 0)]) (h':=[.row (wE hr (.sl 1 FA) (.sl 1 FI) x3 x4 (.int .i64 ak) (.d li) (.d key) (.d (.sl 5 INF)) (.sl 1 [[.sl 1 G1],[.sl 1 G2]] (.right 2)) (.sl 1 [] .full) (.sl 5 [] .full) (.sl 2 [] .full) (zDM.map .d)),.row (qAe a),.right 1 2,.row [.d (.int .i64 1),.d (.int .i64 0),.d (.int .i64 40010),.d (.int .i64 73048),.d (.int .i64 1),.d (.int .i64 50),.d (.sl 1 FA)],.row [.d (.int .i64 2),.d (.int .i64 1),.d (.int .i64 40010),.d (.int .i64 73048),.d (.int .i64 1),.d (.int .i64 50),.d (.sl 1 FI)]]) ⟨.refl _,.refl _,trivial⟩ (HLe.refl _) ?_
 refine wwn ?_
 refine wwc hb3 ?_
 refine wwn ?_
 refine qAd (qBx (v:=.d (.int .i64 0)) (H':=[.row (wE hr (.sl 1 FA) (.sl 1 FI) x3 x4 (.int .i64 ak) (.d li) (.d key) (.d (.sl 5 INF)) (.sl 1 [[.sl 1 G1],[.sl 1 G2],[.sl 1 G3]] (.right 2)) (.sl 1 [] .full) (.sl 5 [] .full) (.sl 2 [] .full) (zDM.map .d)),.row (qAe a),.right 1 3,.row [.d (.int .i64 1),.d (.int .i64 0),.d (.int .i64 40010),.d (.int .i64 73048),.d (.int .i64 1),.d (.int .i64 50),.d (.sl 1 FA)],.row [.d (.int .i64 2),.d (.int .i64 1),.d (.int .i64 40010),.d (.int .i64 73048),.d (.int .i64 1),.d (.int .i64 50),.d (.sl 1 FI)]]) rfl rfl (add [[.sl 1 G1],[.sl 1 G2]] G3 (by simp)) [0,1,2] (by decide) rfl rfl rfl rfl rfl rfl) rfl ?_
 refine wwn ?_
 refine qAa rfl (fun c3=>?_) (fun c3=>?_)
 ·exact absurd c3 (by simp)
 refine qAo (l:=[(0,.ptr 0 0)]) (h':=[.row (wE hr (.sl 1 FA) (.sl 1 FI) x3 x4 (.int .i64 ak) (.d li) (.d key) (.d (.sl 5 INF)) (.sl 1 [[.sl 1 G1],[.sl 1 G2],[.sl 1 G3]] (.right 2)) (.sl 1 [] .full) (.sl 5 [] .full) (.sl 2 [] .full) (zDM.map .d)),.row (qAe a),.right 1 3,.row [.d (.int .i64 1),.d (.int .i64 0),.d (.int .i64 40010),.d (.int .i64 73048),.d (.int .i64 1),.d (.int .i64 50),.d (.sl 1 FA)],.row [.d (.int .i64 2),.d (.int .i64 1),.d (.int .i64 40010),.d (.int .i64 73048),.d (.int .i64 1),.d (.int .i64 50),.d (.sl 1 FI)]]) ⟨.refl _,trivial⟩ (HLe.refl _) ?_
 refine wwn ?_
 refine wwc hi ?_
 refine wwn ?_
 refine qAd (qBx (v:=.d (.int .i64 0)) (H':=[.row (wE hr (.sl 1 FA) (.sl 1 FI) x3 x4 (.int .i64 ak) (.d li) (.d key) (.d (.sl 5 INF)) (.sl 1 [[.sl 1 G1],[.sl 1 G2],[.sl 1 G3],[.sl 1 G4]] (.right 2)) (.sl 1 [] .full) (.sl 5 [] .full) (.sl 2 [] .full) (zDM.map .d)),.row (qAe a),.right 1 4,.row [.d (.int .i64 1),.d (.int .i64 0),.d (.int .i64 40010),.d (.int .i64 73048),.d (.int .i64 1),.d (.int .i64 50),.d (.sl 1 FA)],.row [.d (.int .i64 2),.d (.int .i64 1),.d (.int .i64 40010),.d (.int .i64 73048),.d (.int .i64 1),.d (.int .i64 50),.d (.sl 1 FI)]]) rfl rfl (add [[.sl 1 G1],[.sl 1 G2],[.sl 1 G3]] G4 (by simp)) [0,1,2] (by decide) rfl rfl rfl rfl rfl rfl) rfl ?_
 refine wwn ?_
 refine qAa rfl (fun c4=>?_) (fun c4=>?_)
 ·exact absurd c4 (by simp)
 refine qAo (l:=[(0,.ptr 0 0)]) (h':=[.row (wE hr (.sl 1 FA) (.sl 1 FI) x3 x4 (.int .i64 ak) (.d li) (.d key) (.d (.sl 5 INF)) (.sl 1 [[.sl 1 G1],[.sl 1 G2],[.sl 1 G3],[.sl 1 G4]] (.right 2)) (.sl 1 [] .full) (.sl 5 [] .full) (.sl 2 [] .full) (zDM.map .d)),.row (qAe a),.right 1 4,.row [.d (.int .i64 1),.d (.int .i64 0),.d (.int .i64 40010),.d (.int .i64 73048),.d (.int .i64 1),.d (.int .i64 50),.d (.sl 1 FA)],.row [.d (.int .i64 2),.d (.int .i64 1),.d (.int .i64 40010),.d (.int .i64 73048),.d (.int .i64 1),.d (.int .i64 50),.d (.sl 1 FI)]]) ⟨.refl _,trivial⟩ (HLe.refl _) ?_
 refine wwn ?_
 refine wwc hh ?_
 refine wwn ?_
 refine qAa rfl (fun c5=>?_) (fun c5=>?_)
 ·exact absurd c5 (by simp)
 refine wwn ?_
 refine wwc hp ?_
 refine wwn ?_
 refine qAa rfl (fun c6=>?_) (fun c6=>?_)
 ·exact absurd c6 (by simp)
 refine qAo (l:=[(0,.ptr 0 0),(9,.d (.int .i64 P))]) (h':=[.row (wE hr (.sl 1 FA) (.sl 1 FI) x3 x4 (.int .i64 ak) (.d li) (.d key) (.d (.sl 5 INF)) (.sl 1 [[.sl 1 G1],[.sl 1 G2],[.sl 1 G3],[.sl 1 G4]] (.right 2)) (.sl 1 [] .full) (.sl 5 [] .full) (.sl 2 [] .full) (zDM.map .d)),.row (qAe a),.right 1 4,.row [.d (.int .i64 1),.d (.int .i64 0),.d (.int .i64 40010),.d (.int .i64 73048),.d (.int .i64 1),.d (.int .i64 50),.d (.sl 1 FA)],.row [.d (.int .i64 2),.d (.int .i64 1),.d (.int .i64 40010),.d (.int .i64 73048),.d (.int .i64 1),.d (.int .i64 50),.d (.sl 1 FI)]]) ⟨.refl _,.refl _,trivial⟩ (HLe.refl _) ?_
 refine qBv ?_
 refine qAk (qAg ?_)
 refine wws ?_
 refine wwc ha ?_
 refine wws ?_
 refine qAd (qBx (v:=.d (.int .i64 0)) (H':=[.row (wE hr (.sl 1 FA) (.sl 1 FI) x3 x4 (.int .i64 ak) (.d li) (.d key) (.d (.sl 5 INF)) (.sl 1 [[.sl 1 G1],[.sl 1 G2],[.sl 1 G3],[.sl 1 G4],[.sl 1 G5]] (.right 2)) (.sl 1 [] .full) (.sl 5 [] .full) (.sl 2 [] .full) (zDM.map .d)),.row (qAe a),.right 1 5,.row [.d (.int .i64 1),.d (.int .i64 0),.d (.int .i64 40010),.d (.int .i64 73048),.d (.int .i64 1),.d (.int .i64 50),.d (.sl 1 FA)],.row [.d (.int .i64 2),.d (.int .i64 1),.d (.int .i64 40010),.d (.int .i64 73048),.d (.int .i64 1),.d (.int .i64 50),.d (.sl 1 FI)]]) rfl rfl (add [[.sl 1 G1],[.sl 1 G2],[.sl 1 G3],[.sl 1 G4]] G5 (by simp)) [0,1,2] (by decide) rfl rfl rfl rfl rfl rfl) rfl ?_
 refine wws ?_
 refine qAo (l:=[(2,.d (.int .i64 0))]) (h':=[.row (wE hr (.sl 1 FA) (.sl 1 FI) x3 x4 (.int .i64 ak) (.d li) (.d key) (.d (.sl 5 INF)) (.d (.sl 1 [[.sl 1 G1],[.sl 1 G2],[.sl 1 G3],[.sl 1 G4],[.sl 1 G5]])) (.sl 1 [] .full) (.sl 5 [] .full) (.sl 2 [] .full) (zDM.map .d)),.row (qAe a),.dead,.dead,.dead]) ⟨.refl _,trivial⟩ ⟨by
   show AllLe _ _
   exact ⟨.refl _,.refl _,.refl _,.refl _,.refl _,.refl _,.refl _,.refl _,.refl _,.refl _,.refl _,.refl _,.refl _,.refl _,.refl _,.refl _,.refl _,.refl _,.refl _,.refl _,.refl _,.refl _,.dat,AllLe.refl _⟩,ObLe.refl _,trivial,trivial,trivial,trivial⟩ ?_
 refine qUy ?_
 exact rx ⟨rfl,rfl⟩ (h4:=show (2:Nat)=2 from rfl)
end Tdoc
namespace Tdoc
open Go Go.Proofs
theorem qZe (hr:Int) (x1 x2 x3 x4 x5 li key inf s1 s2 s3 s4 s5:Dat) (G1 G2 G3 G4 G5 C SO:List (List Dat)) (a:Aut)
  (hEn:Spec Tryz.prog 97 [qOy a.signer] [] (fun r h'=>r=.tup [.d (.sl 1 C),.d (.int .i64 0)]∧h'=[]))
  (hM:Spec Tryz.prog 98 [.d (.int .i64 (a.sk:Int)),.d (.sl 1 C),.d (.sl 1 [[.sl 1 G1],[.sl 1 G2],[.sl 1 G3],[.sl 1 G4],[.sl 1 G5]])] [] (fun r h'=>r=.tup [.agg [.d s1,.d s2,.d s3,.d s4,.d s5],.d (.int .i64 0)]∧h'=[]))
  (hS:Spec Tryz.prog 99 [.agg [.d s1,.d s2,.d s3,.d s4,.d s5]] [] (fun r h'=>r=.tup [.d (.sl 1 SO),.d (.int .i64 0)]∧h'=[])) :
  Spec Tryz.prog 35 [.ptr 0 0] [.row (wE hr x1 x2 x3 x4 x5 (.d li) (.d key) (.d inf) (.d (.sl 1 [[.sl 1 G1],[.sl 1 G2],[.sl 1 G3],[.sl 1 G4],[.sl 1 G5]])) (.sl 1 [] .full) (.sl 5 [] .full) (.sl 2 [] .full) (zDM.map .d)),.row (qAe a)] (fun r h'=>r=.d (.int .i64 0)∧h'=[.row (wE hr x1 x2 x3 x4 x5 (.d li) (.d key) (.d inf) (.d (.sl 1 [[.sl 1 G1],[.sl 1 G2],[.sl 1 G3],[.sl 1 G4],[.sl 1 G5]])) (.d (.sl 1 SO)) (.sl 5 [] .full) (.sl 2 [] .full) (zDM.map .d)),.row (qAe a)]):=by
 have f4:=vLg 4
 have f1:=vLg 1
 have f2:=vLg 2
 obtain ⟨sta,roots,links,secs,⟨y1,y2,y3,y4,y5,y6,y7,y8,y9,y10,y11⟩,lister,sk,lk,next,list,rev,defs,seed⟩:=a
 simp only at hM
 refine qAb hT Tryz.func35 rfl rfl rfl rfl ?_;intro E hE
 refine qAj ?_
 refine wwn ?_
 refine qAd (qAc (indexAddr_ok hT rfl rfl rfl rfl (by show (0:Int)≤0;omega) rfl)) rfl ?_
 refine wwn ?_
 refine wwc f4 ?_
 refine wwn ?_
 refine qAa rfl (fun c1=>?_) (fun c1=>?_)
 ·exact absurd c1 (by simp)
 refine qAo (l:=[(0,.ptr 0 0)]) (h':=[.row (wE hr x1 x2 x3 x4 x5 (.d li) (.d key) (.d inf) (.d (.sl 1 [[.sl 1 G1],[.sl 1 G2],[.sl 1 G3],[.sl 1 G4],[.sl 1 G5]])) (.sl 1 [] .full) (.sl 5 [] .full) (.sl 2 [] .full) (zDM.map .d)),.row (qAe ⟨sta,roots,links,secs,⟨y1,y2,y3,y4,y5,y6,y7,y8,y9,y10,y11⟩,lister,sk,lk,next,list,rev,defs,seed⟩),.room]) ⟨.refl _,trivial⟩ (HLe.refl _) ?_
 refine wwn ?_
 refine wwc hEn ?_
 refine wwn ?_
 refine qAa rfl (fun c2=>?_) (fun c2=>?_)
 ·exact absurd c2 (by simp)
 refine qAo (l:=[(0,.ptr 0 0),(5,.d (.sl 1 C))]) (h':=[.row (wE hr x1 x2 x3 x4 x5 (.d li) (.d key) (.d inf) (.d (.sl 1 [[.sl 1 G1],[.sl 1 G2],[.sl 1 G3],[.sl 1 G4],[.sl 1 G5]])) (.sl 1 [] .full) (.sl 5 [] .full) (.sl 2 [] .full) (zDM.map .d)),.row (qAe ⟨sta,roots,links,secs,⟨y1,y2,y3,y4,y5,y6,y7,y8,y9,y10,y11⟩,lister,sk,lk,next,list,rev,defs,seed⟩),.room]) ⟨.refl _,.refl _,trivial⟩ (HLe.refl _) ?_
 refine wwn ?_
 refine qAw (fun i=>bif Nat.beq i 3||Nat.beq i 11 then [0] else bif Nat.beq i 6 then [1] else bif Nat.beq i 16||Nat.beq i 17 then [2] else []) (fun i=>bif Nat.beq i 16||Nat.beq i 17 then [2] else []) mixed (by kernel_rfl) ?_
 refine wwg ?_
 refine wwdc hM ?_
 refine wwg ?_
 refine qAm (v:=.ptr 2 0) (os:=[.row [.d (.int .i64 0),.sl 2 [] .full,.sl 1 [] .full,.d (.int .i64 0),.d (.int .i64 0)]]) (fun k hk1 hk2=>allocAt_ok (i0:=2) (i:=⟨.struct [(0,1,false),(1,1,false),(2,1,false),(3,2,true)],5,72,[.d (.int .i64 0),.sl 2 [] .full,.sl 1 [] .full,.d (.int .i64 0),.d (.int .i64 0)]⟩) hT rfl rfl ((hk2 2 List.mem_cons_self).trans rfl)) rfl ?_
 refine wwg ?_
 refine qAo (l:=[(0,.ptr 0 0),(6,.d (.int .i64 0)),(7,.ptr 2 0)]) (h':=[.row (wE hr x1 x2 x3 x4 x5 (.d li) (.d key) (.d inf) (.d (.sl 1 [[.sl 1 G1],[.sl 1 G2],[.sl 1 G3],[.sl 1 G4],[.sl 1 G5]])) (.sl 1 [] .full) (.sl 5 [] .full) (.sl 2 [] .full) (zDM.map .d)),.row (qAe ⟨sta,roots,links,secs,⟨y1,y2,y3,y4,y5,y6,y7,y8,y9,y10,y11⟩,lister,sk,lk,next,list,rev,defs,seed⟩),.row [.d s1,.d s2,.d s3,.d s4,.d s5]]) ⟨.refl _,.refl _,.refl _,trivial⟩ (HLe.refl _) ?_
 refine wwn ?_
 refine qAa rfl (fun c3=>?_) (fun c3=>?_)
 ·exact absurd c3 (by simp)
 refine wwn ?_
 refine wwc hS ?_
 refine wwn ?_
 refine qAa rfl (fun c4=>?_) (fun c4=>?_)
 ·exact absurd c4 (by simp)
 refine qAo (l:=[(0,.ptr 0 0)]) (h':=[.row (wE hr x1 x2 x3 x4 x5 (.d li) (.d key) (.d inf) (.d (.sl 1 [[.sl 1 G1],[.sl 1 G2],[.sl 1 G3],[.sl 1 G4],[.sl 1 G5]])) (.d (.sl 1 SO)) (.sl 5 [] .full) (.sl 2 [] .full) (zDM.map .d)),.row (qAe ⟨sta,roots,links,secs,⟨y1,y2,y3,y4,y5,y6,y7,y8,y9,y10,y11⟩,lister,sk,lk,next,list,rev,defs,seed⟩),.row [.d s1,.d s2,.d s3,.d s4,.d s5]]) ⟨.refl _,trivial⟩ (HLe.refl _) ?_
 refine wwn ?_
 refine qAd (qAc (indexAddr_ok hT rfl rfl rfl rfl (by show (0:Int)≤1;omega) rfl)) rfl ?_
 refine wwn ?_
 refine wwc f1 ?_
 refine wwn ?_
 refine qAa rfl (fun c5=>?_) (fun c5=>?_)
 ·exact absurd c5 (by simp)
 refine wwn ?_
 refine wwc f2 ?_
 refine wwn ?_
 refine qAa rfl (fun c6=>?_) (fun c6=>?_)
 ·exact absurd c6 (by simp)
 refine wwn ?_
 exact rx ⟨rfl,rfl⟩ (h4:=show (2:Nat)=2 from rfl)
end Tdoc
namespace Tdoc
open Go Go.Proofs
def opK:Nat→List (List Dat)
 | 0=>[]
 | 1=>[[Dat.int .i64 2,.int .i64 1,.int .i64 0,.int .i64 0,.int .i64 0]]
 | _=>[[Dat.int .i64 2,.int .i64 1,.int .i64 0,.int .i64 0,.int .i64 0],[.int .i64 3,.int .i64 1,.int .i64 0,.int .i64 0,.int .i64 0]]
theorem qZm (hr P:Int) (x1 x2 x3 x4 x5 li key:Dat) (G1 G2 G3 G4 G5 SO:List (List Dat)) (a:Aut):Spec Tryz.prog 102 [.ptr 0 0] [.row (wE hr x1 x2 x3 x4 x5 (.d li) (.d key) (.d (.sl 5 (qVe P 5))) (.d (.sl 1 [[.sl 1 G1],[.sl 1 G2],[.sl 1 G3],[.sl 1 G4],[.sl 1 G5]])) (.d (.sl 1 SO)) (.sl 5 [] .full) (.sl 2 [] .full) (zDM.map .d)),.row (qAe a)] (fun r h'=>r=.d (.sl 5 (opK 5))∧h'=[.row (wE hr x1 x2 x3 x4 x5 (.d li) (.d key) (.d (.sl 5 (qVe P 5))) (.d (.sl 1 [[.sl 1 G1],[.sl 1 G2],[.sl 1 G3],[.sl 1 G4],[.sl 1 G5]])) (.d (.sl 1 SO)) (.sl 5 [] .full) (.sl 2 [] .full) (zDM.map .d)),.row (qAe a)]):=by
 have f5:=Spec.args (args:=[.sl 1 [] .full,.d (.int .i64 5)]) (by exact ⟨.dat,.refl _,trivial⟩) (vLg 5)
 refine qAb hT Tryz.func102 rfl rfl rfl rfl ?_;intro E hE
 refine qAj ?_
 refine qAk (qAg ?_)
 refine wws ?_
 refine qAk (qAg ?_)
 refine wws ?_
 refine qAz 3 5 2 (es:=[]) (.inr ⟨rfl,rfl⟩) rfl ?_
 refine qAo (l:=[(0,.ptr 0 0),(3,.sl 5 (opK 0) (.right 2))]) (h':=[.row (wE hr x1 x2 x3 x4 x5 (.d li) (.d key) (.d (.sl 5 (qVe P 5))) (.d (.sl 1 [[.sl 1 G1],[.sl 1 G2],[.sl 1 G3],[.sl 1 G4],[.sl 1 G5]])) (.d (.sl 1 SO)) (.sl 5 [] .full) (.sl 2 [] .full) (zDM.map .d)),.row (qAe a),.right 5 0]) ⟨.refl _,.refl _,trivial⟩ (HLe.refl _) ?_
 refine wwn ?_
 refine qBt (ι:=Nat) (fun i=>[(0,.ptr 0 0),(3,.sl 5 (opK i) (.right 2)),(9,.d (.sl 5 (qVe P 5))),(10,.d (.int .i64 5)),(11,.d (.int .i64 (i:Int)))]) (fun i=>[.row (wE hr x1 x2 x3 x4 x5 (.d li) (.d key) (.d (.sl 5 (qVe P 5))) (.d (.sl 1 [[.sl 1 G1],[.sl 1 G2],[.sl 1 G3],[.sl 1 G4],[.sl 1 G5]])) (.d (.sl 1 SO)) (.sl 5 [] .full) (.sl 2 [] .full) (zDM.map .d)),.row (qAe a),.right 5 (opK i).length]) (fun i=>i≤5) (fun i=>5-i) 0 (by omega)
  ⟨.refl _,.refl _,.refl _,.refl _,.refl _,trivial⟩ (HLe.refl _) ?_
 intro i hi
 rcases (by omega:i=0∨i=1∨i=2∨i=3∨i=4∨i=5) with rfl | rfl | rfl | rfl | rfl | rfl
 ·refine wwn ?_
  refine qAa rfl (fun q=>?_) (fun q=>absurd q (by decide))
  refine wwn ?_
  refine qAd (qAc (indexAddr_ok hT rfl rfl rfl rfl (by show (0:Int)≤0;omega) rfl)) rfl ?_
  refine wwn ?_
  refine wwgc f5 ?_
  refine wwn ?_
  refine qAa rfl (fun q=>?_) (fun q=>absurd q (by decide))
  refine wwn ?_
  refine qAd (qAi (i:=2) (es2:=[[Dat.int .i64 2,.int .i64 1,.int .i64 0,.int .i64 0,.int .i64 0]]) hT rfl rfl rfl rfl rfl rfl (by show (0+1)*(40+1)≤140737488355328;omega)) rfl ?_
  refine wwn ?_
  exact ⟨1,[_],by omega,by omega,⟨.refl _,.refl _,.refl _,.refl _,.refl _,trivial⟩,HLe.refl _,Env.below_mono hE (by simp),rfl,rfl⟩
 ·refine wwn ?_
  refine qAa rfl (fun q=>?_) (fun q=>absurd q (by decide))
  refine wwn ?_
  refine qAd (qAc (indexAddr_ok hT rfl rfl rfl rfl (by show (0:Int)≤1;omega) rfl)) rfl ?_
  refine wwn ?_
  refine wwgc f5 ?_
  refine wwn ?_
  refine qAa rfl (fun q=>?_) (fun q=>absurd q (by decide))
  refine wwn ?_
  refine qAd (qAi (i:=2) (es2:=[[Dat.int .i64 3,.int .i64 1,.int .i64 0,.int .i64 0,.int .i64 0]]) hT rfl rfl rfl rfl rfl rfl (by show (1+1)*(40+1)≤140737488355328;omega)) rfl ?_
  refine wwn ?_
  exact ⟨2,[_],by omega,by omega,⟨.refl _,.refl _,.refl _,.refl _,.refl _,trivial⟩,HLe.refl _,Env.below_mono hE (by simp),rfl,rfl⟩
 ·refine wwn ?_
  refine qAa rfl (fun q=>?_) (fun q=>absurd q (by decide))
  refine wwn ?_
  refine qAd (qAc (indexAddr_ok hT rfl rfl rfl rfl (by show (0:Int)≤2;omega) rfl)) rfl ?_
  refine wwn ?_
  refine qDc (v:=.d (.bool false)) rfl rfl rfl (fun hg=>absurd hg (by decide)) ?_
  refine wwn ?_
  refine qAa rfl (fun q=>absurd q (by decide)) (fun q=>?_)
  refine wwn ?_
  exact ⟨3,[_],by omega,by omega,⟨.refl _,.refl _,.refl _,.refl _,.refl _,trivial⟩,HLe.refl _,Env.below_mono hE (by simp),rfl,rfl⟩
 ·refine wwn ?_
  refine qAa rfl (fun q=>?_) (fun q=>absurd q (by decide))
  refine wwn ?_
  refine qAd (qAc (indexAddr_ok hT rfl rfl rfl rfl (by show (0:Int)≤3;omega) rfl)) rfl ?_
  refine wwn ?_
  refine qDc (v:=.d (.bool false)) rfl rfl rfl (fun hg=>absurd hg (by decide)) ?_
  refine wwn ?_
  refine qAa rfl (fun q=>absurd q (by decide)) (fun q=>?_)
  refine wwn ?_
  exact ⟨4,[_],by omega,by omega,⟨.refl _,.refl _,.refl _,.refl _,.refl _,trivial⟩,HLe.refl _,Env.below_mono hE (by simp),rfl,rfl⟩
 ·refine wwn ?_
  refine qAa rfl (fun q=>?_) (fun q=>absurd q (by decide))
  refine wwn ?_
  refine qAd (qAc (indexAddr_ok hT rfl rfl rfl rfl (by show (0:Int)≤4;omega) rfl)) rfl ?_
  refine wwn ?_
  refine qDc (v:=.d (.bool false)) rfl rfl rfl (fun hg=>absurd hg (by decide)) ?_
  refine wwn ?_
  refine qAa rfl (fun q=>absurd q (by decide)) (fun q=>?_)
  refine wwn ?_
  exact ⟨5,[_],by omega,by omega,⟨.refl _,.refl _,.refl _,.refl _,.refl _,trivial⟩,HLe.refl _,Env.below_mono hE (by simp),rfl,rfl⟩
 ·refine wwn ?_
  refine qAa rfl (fun q=>absurd q (by decide)) (fun q=>?_)
  refine qAo (l:=[(3,.d (.sl 5 (opK 5)))]) (h':=[.row (wE hr x1 x2 x3 x4 x5 (.d li) (.d key) (.d (.sl 5 (qVe P 5))) (.d (.sl 1 [[.sl 1 G1],[.sl 1 G2],[.sl 1 G3],[.sl 1 G4],[.sl 1 G5]])) (.d (.sl 1 SO)) (.sl 5 [] .full) (.sl 2 [] .full) (zDM.map .d)),.row (qAe a),.dead]) ⟨.dat,trivial⟩ ⟨ObLe.refl _,ObLe.refl _,trivial,trivial⟩ ?_
  refine wwn ?_
  exact rx ⟨rfl,rfl⟩ (h4:=show (2:Nat)=2 from rfl)
end Tdoc
