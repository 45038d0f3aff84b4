/- Part 16 of the proof: the texts LI KK KL KM KN KQ KR LJ KZ LK KB LL MP. -/
import Derived.Test.YtelocejblpajcaaGreatDoorTR15
set_option maxHeartbeats 8000000
set_option maxRecDepth 100000
set_option linter.unusedVariables false
set_option linter.unusedSimpArgs false
namespace Tdoc
open Go Go.Proofs
abbrev zF:List AV:=[.fn (.func 31) [.ptr 7 0] [],.fn (.func 32) [.ptr 7 0] [],.fn (.func 33) [.ptr 7 0] [],.fn (.func 34) [.ptr 7 0] [],.fn (.func 35) [.ptr 7 0] [],.fn (.func 36) [.ptr 7 0] []]
abbrev zQ (h:Int):List AV:=qJv 44000 (.d (.sl 1 qGj)) true (.d (.sl 5 (qDk h))) 30000
def vAz (li key:Dat) (p:Per) (m0 m1:List (List Dat)):List AV:=[.d li,.d key]++chC p m0 m1
def qRp:List AV:=[.sl 1 [] .full,.d (.str [])]++(vLd++[.sl 1 [] .full,.sl 1 [] .full,.sl 1 [] .full]++vKi)
abbrev tiD:TI:=⟨.struct [(0,1,false),(1,1,false),(2,60,true)],62,856,qRp⟩
theorem tiD_find:T.find 71=some tiD:=rfl
theorem S62 {C D:List AV} (h1:D.length=62) (h2:C.length=62):qHs T 71 D 0 (.agg C)=some C:=storeA_agg tiD_find h2 (by rw [h1];exact Nat.le_refl _) (setRun_full (by rw [h1,h2]))
theorem vHm (li key:Dat) (p:Per) (m0 m1:List (List Dat)):qUj T 71 [(0,.d li),(1,.d key),(2,.agg (chC p m0 m1))]=some (.agg (vAz li key p m0 m1)):=by
 kernel_rfl
def wM (hr:Int) (x1 x2 x3 x4 x5 li key inf grp sec root apps:AV) (zc:List AV):List AV:=wC hr (.ptr 0 0) x1 x2 x3 x4 x5 li key inf grp sec root apps zc
def wM0 (hr:Int):List AV:=wM hr (.sl 1 [] .full) (.sl 1 [] .full) (.sl 1 [] .full) (.d (.int .i64 0)) (.d (.int .i64 0)) (.sl 1 [] .full) (.d (.str [])) (.sl 5 [] .full) (.sl 1 [] .full) (.sl 1 [] .full) (.sl 5 [] .full) (.sl 2 [] .full) zC0
def wK (hr:Int) (x1 x2 x3 x4 x5 li key inf root apps:Dat) (G1 G2 G3 G4 G5 SO:List (List Dat)):Nat→List AV
 | 0=>wM0 hr
 | 1=>wM hr (.d x1) (.d x2) (.d x3) (.d x4) (.d x5) (.sl 1 [] .full) (.d (.str [])) (.sl 5 [] .full) (.sl 1 [] .full) (.sl 1 [] .full) (.sl 5 [] .full) (.sl 2 [] .full) zC0
 | 2=>wM hr (.d x1) (.d x2) (.d x3) (.d x4) (.d x5) (.d li) (.d key) (.sl 5 [] .full) (.sl 1 [] .full) (.sl 1 [] .full) (.sl 5 [] .full) (.sl 2 [] .full) (zDM.map .d)
 | 3=>wM hr (.d x1) (.d x2) (.d x3) (.d x4) (.d x5) (.d li) (.d key) (.d inf) (.sl 1 [] .full) (.sl 1 [] .full) (.sl 5 [] .full) (.sl 2 [] .full) (zDM.map .d)
 | 4=>wM hr (.d x1) (.d x2) (.d x3) (.d x4) (.d x5) (.d li) (.d key) (.d inf) (.d (.sl 1 [[.sl 1 G1],[.sl 1 G2],[.sl 1 G3],[.sl 1 G4],[.sl 1 G5]])) (.sl 1 [] .full) (.sl 5 [] .full) (.sl 2 [] .full) (zDM.map .d)
 | 5=>wM hr (.d x1) (.d x2) (.d x3) (.d x4) (.d x5) (.d li) (.d key) (.d inf) (.d (.sl 1 [[.sl 1 G1],[.sl 1 G2],[.sl 1 G3],[.sl 1 G4],[.sl 1 G5]])) (.d (.sl 1 SO)) (.sl 5 [] .full) (.sl 2 [] .full) (zDM.map .d)
 | _=>wM hr (.d x1) (.d x2) (.d x3) (.d x4) (.d x5) (.d li) (.d key) (.d inf) (.d (.sl 1 [[.sl 1 G1],[.sl 1 G2],[.sl 1 G3],[.sl 1 G4],[.sl 1 G5]])) (.d (.sl 1 SO)) (.d root) (.d apps) (zDM.map .d)
def aK2 (a b:Aut):Nat→Aut
 | 0=>a
 | _=>b
theorem vAk (hr:Int) (x1 x2 x3 x4 x5 li key inf root apps:Dat) (G1 G2 G3 G4 G5 SO M0 M1:List (List Dat)) (a b:Aut) (p:Per) (hdf:a.defs=[]) (hdg:b.defs=[]) (hsc:1≤a.secs.length) (hln:a.roots.length≤100∧a.links.length≤100∧a.secs.length≤100∧a.rev.length≤1000000∧a.seed.length≤1000) (hdt:a.signer.frm≤40010∧40010≤a.signer.unt)
  (s0:Spec Tryz.prog 31 [.ptr 0 0] [.row (wZ hr),.row (qAi a)] (fun r h'=>r=.I 0∧h'=[.row (wE hr x1 x2 x3 x4 x5 (.sl 1 [] .full) (.d (.str [])) (.sl 5 [] .full) (.sl 1 [] .full) (.sl 1 [] .full) (.sl 5 [] .full) (.sl 2 [] .full) zC0),.row (qAi b)]))
  (s1:Spec Tryz.prog 32 [.ptr 0 0] [.row (wE hr x1 x2 x3 x4 x5 (.sl 1 [] .full) (.d (.str [])) (.sl 5 [] .full) (.sl 1 [] .full) (.sl 1 [] .full) (.sl 5 [] .full) (.sl 2 [] .full) zC0),.row (qAi b)] (fun r h'=>r=.I 0∧h'=[.row (wE hr x1 x2 x3 x4 x5 (.d li) (.d key) (.sl 5 [] .full) (.sl 1 [] .full) (.sl 1 [] .full) (.sl 5 [] .full) (.sl 2 [] .full) (zDM.map .d)),.row (qAi b)]))
  (s2:Spec Tryz.prog 33 [.ptr 0 0] [.row (wE hr x1 x2 x3 x4 x5 (.d li) (.d key) (.sl 5 [] .full) (.sl 1 [] .full) (.sl 1 [] .full) (.sl 5 [] .full) (.sl 2 [] .full) (zDM.map .d)),.row (qAi b)] (fun r h'=>r=.I 0∧h'=[.row (wE hr x1 x2 x3 x4 x5 (.d li) (.d key) (.d inf) (.sl 1 [] .full) (.sl 1 [] .full) (.sl 5 [] .full) (.sl 2 [] .full) (zDM.map .d)),.row (qAi b)]))
  (s3:Spec Tryz.prog 34 [.ptr 0 0] [.row (wE hr x1 x2 x3 x4 x5 (.d li) (.d key) (.d inf) (.sl 1 [] .full) (.sl 1 [] .full) (.sl 5 [] .full) (.sl 2 [] .full) (zDM.map .d)),.row (qAi b)] (fun r h'=>r=.I 0∧h'=[.row (wE hr x1 x2 x3 x4 x5 (.d li) (.d key) (.d inf) (.d (.sl 1 [[.sl 1 G1],[.sl 1 G2],[.sl 1 G3],[.sl 1 G4],[.sl 1 G5]])) (.sl 1 [] .full) (.sl 5 [] .full) (.sl 2 [] .full) (zDM.map .d)),.row (qAi b)]))
  (s4:Spec Tryz.prog 35 [.ptr 0 0] [.row (wE hr x1 x2 x3 x4 x5 (.d li) (.d key) (.d inf) (.d (.sl 1 [[.sl 1 G1],[.sl 1 G2],[.sl 1 G3],[.sl 1 G4],[.sl 1 G5]])) (.sl 1 [] .full) (.sl 5 [] .full) (.sl 2 [] .full) (zDM.map .d)),.row (qAi b)] (fun r h'=>r=.I 0∧h'=[.row (wE hr x1 x2 x3 x4 x5 (.d li) (.d key) (.d inf) (.d (.sl 1 [[.sl 1 G1],[.sl 1 G2],[.sl 1 G3],[.sl 1 G4],[.sl 1 G5]])) (.d (.sl 1 SO)) (.sl 5 [] .full) (.sl 2 [] .full) (zDM.map .d)),.row (qAi b)]))
  (s5:Spec Tryz.prog 36 [.ptr 0 0] [.row (wE hr x1 x2 x3 x4 x5 (.d li) (.d key) (.d inf) (.d (.sl 1 [[.sl 1 G1],[.sl 1 G2],[.sl 1 G3],[.sl 1 G4],[.sl 1 G5]])) (.d (.sl 1 SO)) (.sl 5 [] .full) (.sl 2 [] .full) (zDM.map .d)),.row (qAi b)] (fun r h'=>r=.I 0∧h'=[.row (wE hr x1 x2 x3 x4 x5 (.d li) (.d key) (.d inf) (.d (.sl 1 [[.sl 1 G1],[.sl 1 G2],[.sl 1 G3],[.sl 1 G4],[.sl 1 G5]])) (.d (.sl 1 SO)) (.d root) (.d apps) (zDM.map .d)),.row (qAi b)]))
  (s6:Spec Tryz.prog 38 [.ptr 0 0] [.row (wE hr x1 x2 x3 x4 x5 (.d li) (.d key) (.d inf) (.d (.sl 1 [[.sl 1 G1],[.sl 1 G2],[.sl 1 G3],[.sl 1 G4],[.sl 1 G5]])) (.d (.sl 1 SO)) (.d root) (.d apps) (zDM.map .d)),.row (qAi b)] (fun r h'=>r=.agg (peC hr x3 x4 x5 key inf root apps)∧h'=[.row (wE hr x1 x2 x3 x4 x5 (.d li) (.d key) (.d inf) (.d (.sl 1 [[.sl 1 G1],[.sl 1 G2],[.sl 1 G3],[.sl 1 G4],[.sl 1 G5]])) (.d (.sl 1 SO)) (.d root) (.d apps) (zDM.map .d)),.row (qAi b)]))
  (hle:AV.le (.agg (peC hr x3 x4 x5 key inf root apps)) (qRe p))
  (s7:Spec Tryz.prog 37 [qRe p] [] (fun r h'=>r=.tup [.agg (chC p M0 M1),.I 0]∧h'=[])) :
  Spec Tryz.prog 11 [qLl a,.agg (zQ hr),.I 40010] [] (fun r h'=>r=.tup [qLl b,.agg (vAz li key p M0 M1),.I 0]∧h'=[]):=by
 have hd:=defects0 44000 qGj true (qDk hr) 30000 a.signer.num
 have hdoc:=qXt numM (by decide) (by decide)
 have hcp:=qQs a ⟨by omega,by omega,by omega,by omega,by rw [hdf];simp,by omega⟩
 have hsl:=encNs'_len a.secs
 have hdl:(qQl a.defs).length=0:=by rw [hdf];rfl
 have hdl2:(qQl b.defs).length=0:=by rw [hdg];rfl
 clear hdf hdg
 obtain ⟨FN,hFN⟩:∃ FN:List AV,FN=zF:=⟨_,rfl⟩
 refine qAb hT Tryz.func11 rfl rfl rfl rfl ?_;intro E hE
 refine qAo (qAo (qAo (qAo (qAo (qAo (qAo (qAo (qAo (qAo ?_)))))))))
 refine qAl (qAf ?_)
 refine qAd (boxAt_ok (i0:=0) (cs:=qAi a) rfl rfl rfl) rfl ?_
 refine qAd (boxAt_ok (i0:=6) (cs:=zQ hr) rfl rfl rfl) rfl ?_
 refine qAd (allocAt_ok (i0:=4) (i:=tiA) hT rfl tiA_find rfl) rfl ?_
 refine qAd (allocAt_ok (i0:=5) (i:=tiD) hT rfl tiD_find rfl) rfl ?_
 refine wws ?_
 refine qAp (l:=[(2,.I 40010),(3,.ptr 0 0),(4,.ptr 6 0),(6,.ptr 4 0),(7,.ptr 5 0)]) (h':=[.row (qAi a),.room,.room,.room,.row (qIb [] 0 (.sl 1 [] .full)),.row qRp,.row (zQ hr),.room,.room,.room]) yf (HLe.refl _) ?_
 refine qAl (qAf ?_)
 refine wws ?_
 refine wwc hd ?_
 refine wws ?_
 refine wwn ?_
 refine qAa rfl (fun c1=>?_) (fun c1=>?_)
 ·exfalso
  rw [hsl] at c1
  generalize a.secs.length=n at *
  simp at c1
  omega
 refine wwn ?_
 refine qAa rfl (fun c2=>?_) (fun c2=>?_)
 ·exact absurd c2 (by simp)
 refine wwn ?_
 refine qAa rfl (fun c3=>?_) (fun c3=>?_)
 ·exact absurd c3 (by simp;omega)
 refine wwn ?_
 refine wwc hdoc ?_
 refine wwn ?_
 refine qAa rfl (fun c4=>?_) (fun c4=>?_)
 ·exact absurd c4 (by simp)
 refine wwn ?_
 rw [hdl]
 refine qAa rfl (fun c5=>?_) (fun c5=>?_)
 ·exact absurd c5 (by decide)
 refine wwn ?_
 refine qAa rfl (fun c6=>?_) (fun c6=>?_)
 ·exact absurd c6 (by simp)
 refine qAp (l:=[(2,.I 40010),(3,.ptr 0 0),(4,.ptr 6 0),(6,.ptr 4 0),(7,.ptr 5 0),(9,.nils)]) (h':=[.row (qAi a),.room,.room,.room,.row (qIb [] 0 (.sl 1 [] .full)),.row qRp,.row (zQ hr),.room,.room,.room]) yf (HLe.refl _) ?_
 refine wwe ?_
 refine qAl (qAf ?_)
 refine qAd (qDg (i:=0) (off:=0) hT rfl rfl rfl (L38 (C:=qAi a) rfl)) rfl ?_
 refine qAd (qBs (v:=.agg (vEr a 1 2 3)) (H':=[.row (qAi a),.right 1 (encNs' a.secs).length,.right 11 (qAm a.roots).length,.right 11 (qAm a.links).length,.row (qIb [] 0 (.sl 1 [] .full)),.row qRp,.row (zQ hr),.room,.room,.room]) rfl rfl hcp [1,2,3] (by decide) rfl rfl rfl rfl rfl rfl) rfl ?_
 refine qDp (qBq (i:=0) (off:=0) hT rfl rfl rfl (S38 (C:=vEr a 1 2 3) rfl rfl)) (forceS_eq _ _) ?_
 refine qDq ?_
 refine qAp (l:=[(2,.I 40010),(3,.ptr 0 0),(4,.ptr 6 0),(6,.ptr 4 0),(7,.ptr 5 0),(9,.nils)]) (h':=[.row (qAi a),.dead,.dead,.dead,.row (qIb [] 0 (.sl 1 [] .full)),.row qRp,.row (zQ hr),.room,.room,.room]) yf ⟨autR_le a,trivial,trivial,trivial,ObLe.refl _,ObLe.refl _,ObLe.refl _,ObLe.refl _,ObLe.refl _,ObLe.refl _,trivial⟩ ?_
 refine qAl (qAf ?_)
 refine wk hT rfl rfl ?_
 refine wk hT rfl rfl ?_
 refine wk hT rfl rfl ?_
 refine qAd (boxAt_ok (i0:=7) (cs:=wM0 hr) rfl rfl rfl) rfl ?_
 refine wws ?_
 refine qAp (l:=[(3,.ptr 0 0),(6,.ptr 4 0),(7,.ptr 5 0),(9,.nils),(11,.ptr 7 0)]) (h':=[.row (qAi a),.dead,.dead,.dead,.row (qIb [] 0 (.sl 1 [] .full)),.row qRp,.row (zQ hr),.row (wM0 hr),.room,.room]) yf (HLe.refl _) ?_
 refine qAl (qAl (qAf ?_))
 refine wws ?_
 refine qAd (buildRowAt_ok (i0:=8) hT rfl rfl rfl) rfl ?_
 refine wws ?_
 refine qAp (l:=[(3,.ptr 0 0),(6,.ptr 4 0),(7,.ptr 5 0),(9,.nils),(11,.ptr 7 0),(92,.row 8 0 6 6),(93,.I 6),(94,.I 0)]) (h':=[.row (qAi a),.dead,.dead,.dead,.row (qIb [] 0 (.sl 1 [] .full)),.row qRp,.row (zQ hr),.row (wK hr x1 x2 x3 x4 x5 li key inf root apps G1 G2 G3 G4 G5 SO 0),.row FN,.room]) yf (by rw [hFN];exact HLe.refl _) ?_
 refine qDt ?_
 refine qAq (ι:=Nat) (fun i=>[(3,.ptr 0 0),(6,.ptr 4 0),(7,.ptr 5 0),(9,.nils),(11,.ptr 7 0),(92,.row 8 0 6 6),(93,.I 6),(94,.I (i:Int))]) (fun i=>[.row (qAi (aK2 a b i)),.dead,.dead,.dead,.row (qIb [] 0 (.sl 1 [] .full)),.row qRp,.row (zQ hr),.row (wK hr x1 x2 x3 x4 x5 li key inf root apps G1 G2 G3 G4 G5 SO i),.row FN,.room]) (fun i=>i≤6) (fun i=>6-i) 0 (by omega)
  yf (HLe.refl _) ?_
 intro i hi
 rcases (by omega:i=0∨i=1∨i=2∨i=3∨i=4∨i=5∨i=6) with rfl | rfl | rfl | rfl | rfl | rfl | rfl
 ·refine wwn ?_
  refine qAa rfl (fun q=>?_) (fun q=>absurd q (by decide))
  refine wwn ?_
  refine qAd (qAc (rowAddr_ok (sz:=1) hT rfl rfl rfl rfl ⟨by decide,by decide⟩)) rfl ?_
  rw [hFN]
  refine wwn ?_
  refine qAd (qBs (v:=.I 0) (H':=[.row (qAi (aK2 a b 1)),.dead,.dead,.dead,.row (qIb [] 0 (.sl 1 [] .full)),.row qRp,.row (zQ hr),.row (wK hr x1 x2 x3 x4 x5 li key inf root apps G1 G2 G3 G4 G5 SO 1),.row zF,.room]) rfl rfl s0 [7,0] (by decide) rfl rfl rfl rfl rfl rfl) rfl ?_
  refine wwn ?_
  refine qAa rfl (fun q=>absurd q (by decide)) (fun q=>?_)
  refine wwn ?_
  exact ⟨1,by omega,by omega,yf,HLe.refl _⟩
 ·refine wwn ?_
  refine qAa rfl (fun q=>?_) (fun q=>absurd q (by decide))
  refine wwn ?_
  refine qAd (qAc (rowAddr_ok (sz:=1) hT rfl rfl rfl rfl ⟨by decide,by decide⟩)) rfl ?_
  rw [hFN]
  refine wwn ?_
  refine qAd (qBs (v:=.I 0) (H':=[.row (qAi (aK2 a b 2)),.dead,.dead,.dead,.row (qIb [] 0 (.sl 1 [] .full)),.row qRp,.row (zQ hr),.row (wK hr x1 x2 x3 x4 x5 li key inf root apps G1 G2 G3 G4 G5 SO 2),.row zF,.room]) rfl rfl s1 [7,0] (by decide) rfl rfl rfl rfl rfl rfl) rfl ?_
  refine wwn ?_
  refine qAa rfl (fun q=>absurd q (by decide)) (fun q=>?_)
  refine wwn ?_
  exact ⟨2,by omega,by omega,yf,HLe.refl _⟩
 ·refine wwn ?_
  refine qAa rfl (fun q=>?_) (fun q=>absurd q (by decide))
  refine wwn ?_
  refine qAd (qAc (rowAddr_ok (sz:=1) hT rfl rfl rfl rfl ⟨by decide,by decide⟩)) rfl ?_
  rw [hFN]
  refine wwn ?_
  refine qAd (qBs (v:=.I 0) (H':=[.row (qAi (aK2 a b 3)),.dead,.dead,.dead,.row (qIb [] 0 (.sl 1 [] .full)),.row qRp,.row (zQ hr),.row (wK hr x1 x2 x3 x4 x5 li key inf root apps G1 G2 G3 G4 G5 SO 3),.row zF,.room]) rfl rfl s2 [7,0] (by decide) rfl rfl rfl rfl rfl rfl) rfl ?_
  refine wwn ?_
  refine qAa rfl (fun q=>absurd q (by decide)) (fun q=>?_)
  refine wwn ?_
  exact ⟨3,by omega,by omega,yf,HLe.refl _⟩
 ·refine wwn ?_
  refine qAa rfl (fun q=>?_) (fun q=>absurd q (by decide))
  refine wwn ?_
  refine qAd (qAc (rowAddr_ok (sz:=1) hT rfl rfl rfl rfl ⟨by decide,by decide⟩)) rfl ?_
  rw [hFN]
  refine wwn ?_
  refine qAd (qBs (v:=.I 0) (H':=[.row (qAi (aK2 a b 4)),.dead,.dead,.dead,.row (qIb [] 0 (.sl 1 [] .full)),.row qRp,.row (zQ hr),.row (wK hr x1 x2 x3 x4 x5 li key inf root apps G1 G2 G3 G4 G5 SO 4),.row zF,.room]) rfl rfl s3 [7,0] (by decide) rfl rfl rfl rfl rfl rfl) rfl ?_
  refine wwn ?_
  refine qAa rfl (fun q=>absurd q (by decide)) (fun q=>?_)
  refine wwn ?_
  exact ⟨4,by omega,by omega,yf,HLe.refl _⟩
 ·refine wwn ?_
  refine qAa rfl (fun q=>?_) (fun q=>absurd q (by decide))
  refine wwn ?_
  refine qAd (qAc (rowAddr_ok (sz:=1) hT rfl rfl rfl rfl ⟨by decide,by decide⟩)) rfl ?_
  rw [hFN]
  refine wwn ?_
  refine qAd (qBs (v:=.I 0) (H':=[.row (qAi (aK2 a b 5)),.dead,.dead,.dead,.row (qIb [] 0 (.sl 1 [] .full)),.row qRp,.row (zQ hr),.row (wK hr x1 x2 x3 x4 x5 li key inf root apps G1 G2 G3 G4 G5 SO 5),.row zF,.room]) rfl rfl s4 [7,0] (by decide) rfl rfl rfl rfl rfl rfl) rfl ?_
  refine wwn ?_
  refine qAa rfl (fun q=>absurd q (by decide)) (fun q=>?_)
  refine wwn ?_
  exact ⟨5,by omega,by omega,yf,HLe.refl _⟩
 ·refine wwn ?_
  refine qAa rfl (fun q=>?_) (fun q=>absurd q (by decide))
  refine wwn ?_
  refine qAd (qAc (rowAddr_ok (sz:=1) hT rfl rfl rfl rfl ⟨by decide,by decide⟩)) rfl ?_
  rw [hFN]
  refine wwn ?_
  refine qAd (qBs (v:=.I 0) (H':=[.row (qAi (aK2 a b 6)),.dead,.dead,.dead,.row (qIb [] 0 (.sl 1 [] .full)),.row qRp,.row (zQ hr),.row (wK hr x1 x2 x3 x4 x5 li key inf root apps G1 G2 G3 G4 G5 SO 6),.row zF,.room]) rfl rfl s5 [7,0] (by decide) rfl rfl rfl rfl rfl rfl) rfl ?_
  refine wwn ?_
  refine qAa rfl (fun q=>absurd q (by decide)) (fun q=>?_)
  refine wwn ?_
  exact ⟨6,by omega,by omega,yf,HLe.refl _⟩
 ·refine wwn ?_
  refine qAa rfl (fun q=>absurd q (by decide)) (fun q=>?_)
  refine qAp (l:=[(3,.ptr 0 0),(6,.ptr 4 0),(7,.ptr 5 0),(9,.nils),(11,.ptr 7 0)]) (h':=[.row (qAi b),.dead,.dead,.dead,.row (qIb [] 0 (.sl 1 [] .full)),.row qRp,.dead,.row (wK hr x1 x2 x3 x4 x5 li key inf root apps G1 G2 G3 G4 G5 SO 6),.dead,.room]) yf ⟨ObLe.refl _,trivial,trivial,trivial,ObLe.refl _,ObLe.refl _,trivial,ObLe.refl _,trivial,ObLe.refl _,trivial⟩ ?_
  refine wwe ?_
  refine qAl (qAf ?_)
  refine wws ?_
  refine qAd (qBs (v:=.agg (peC hr x3 x4 x5 key inf root apps)) (H':=[.row (qAi b),.dead,.dead,.dead,.row (qIb [] 0 (.sl 1 [] .full)),.row qRp,.dead,.row (wK hr x1 x2 x3 x4 x5 li key inf root apps G1 G2 G3 G4 G5 SO 6),.dead,.room]) rfl rfl s6 [7,0] (by decide) rfl rfl rfl rfl rfl rfl) rfl ?_
  refine qAd (qKa rfl rfl s7 rfl (by exact ⟨hle,trivial⟩) rfl rfl) rfl ?_
  refine wk hT rfl rfl ?_
  refine wk hT rfl rfl ?_
  refine wk hT rfl rfl ?_
  refine qAd (allocAt_ok (i0:=9) (i:=tiC) hT rfl tiC_find rfl) rfl ?_
  refine qDp (qBq (i:=9) (off:=0) hT rfl rfl rfl (S60 (C:=chC p M0 M1) rfl rfl)) (forceS_eq _ _) ?_
  refine wws ?_
  refine qAp (l:=[(3,.ptr 0 0),(6,.ptr 4 0),(7,.ptr 5 0),(9,.nils),(11,.ptr 7 0),(10,.I 0),(15,.ptr 9 0)]) (h':=[.row (qAi b),.dead,.dead,.dead,.row (qIb [] 0 (.sl 1 [] .full)),.row qRp,.dead,.row (wK hr x1 x2 x3 x4 x5 li key inf root apps G1 G2 G3 G4 G5 SO 6),.dead,.row (chC p M0 M1)]) yf (HLe.refl _) ?_
  refine wwn ?_
  refine qAa rfl (fun q=>absurd q (by decide)) (fun q=>?_)
  refine wwe ?_
  refine qAl (qAf ?_)
  refine wws ?_
  refine qAd (appendNone_ok hT rfl rfl rfl rfl rfl) rfl ?_
  refine wws ?_
  refine qAp (l:=[(3,.ptr 0 0),(6,.ptr 4 0),(7,.ptr 5 0),(11,.ptr 7 0),(15,.ptr 9 0)]) (h':=[.row (qAi b),.dead,.dead,.dead,.row (qIb [] 0 (.sl 1 [] .full)),.row qRp,.dead,.row (wK hr x1 x2 x3 x4 x5 li key inf root apps G1 G2 G3 G4 G5 SO 6),.dead,.row (chC p M0 M1)]) yf (HLe.refl _) ?_
  refine qAl (qBh (fun i=>bif Nat.beq i 0 then [0] else bif Nat.beq i 4||Nat.beq i 8 then [7] else bif Nat.beq i 9 then [9] else bif Nat.beq i 11 then [4] else bif Nat.beq i 12 then [5] else []) (fun i=>bif Nat.beq i 11 then [4] else bif Nat.beq i 12 then [5] else []) mixed (by kernel_rfl) ?_)
  refine qAk (v:=.agg (qAi b)) (os:=[]) (fun k hk1 hk2=>qDg (i:=0) (off:=0) hT rfl rfl ((hk2 0 List.mem_cons_self).trans rfl) (L38 (C:=qAi b) rfl)) rfl ?_
  refine qBt hT (fun _=>rfl) rfl rfl True.intro ?_
  refine qBt hT (fun _=>rfl) rfl rfl True.intro ?_
  refine qBt hT (fun _=>rfl) rfl rfl True.intro ?_
  refine qSx hT rfl rfl rfl rfl (by first | exact List.mem_cons_self | exact sm) rfl ?_
  refine qBt hT (fun _=>rfl) rfl rfl True.intro ?_
  refine qBt hT (fun _=>rfl) rfl rfl True.intro ?_
  refine qBt hT (fun _=>rfl) rfl rfl True.intro ?_
  refine qSx hT rfl rfl rfl rfl (by first | exact List.mem_cons_self | exact sm) rfl ?_
  refine qAk (v:=.agg (chC p M0 M1)) (os:=[]) (fun k hk1 hk2=>qDg (i:=9) (off:=0) hT rfl rfl ((hk2 9 List.mem_cons_self).trans rfl) (L60 (C:=chC p M0 M1) rfl)) rfl ?_
  refine qAk (v:=.agg (vAz li key p M0 M1)) (os:=[]) (fun k hk1 hk2=>qAc (qRz hT rfl (vHm li key p M0 M1))) rfl ?_
  refine qAk (v:=.any) (os:=[.row (qAi b)]) (fun k hk1 hk2=>qBq (i:=4) (off:=0) hT rfl rfl ((hk2 4 List.mem_cons_self).trans rfl) (S38 (C:=qAi b) rfl rfl)) rfl ?_
  refine qAk (v:=.any) (os:=[.row (vAz li key p M0 M1)]) (fun k hk1 hk2=>qBq (i:=5) (off:=0) hT rfl rfl ((hk2 5 List.mem_cons_self).trans rfl) (S62 (C:=vAz li key p M0 M1) rfl rfl)) rfl ?_
  refine wwg ?_
  refine qAp (l:=[(6,.ptr 4 0),(7,.ptr 5 0),(8,.I 0)]) (h':=[.dead,.dead,.dead,.dead,.row (qAi b),.row (vAz li key p M0 M1),.dead,.dead,.dead,.dead]) yf ⟨trivial,trivial,trivial,trivial,ObLe.refl _,ObLe.refl _,trivial,trivial,trivial,trivial,trivial⟩ ?_
  refine qQu ?_
  refine ⟨.tup [qLl b,.agg (vAz li key p M0 M1),.I 0],.tup [qLl b,.agg (vAz li key p M0 M1),.I 0],[],?_,fun _ _ h=>h,rfl,rfl,?_,rfl,rfl,rfl⟩
  ·kernel_rfl
  ·kernel_rfl
def sgA (a b:List UInt8):Nat→List UInt8
 | 0=>[]
 | 1=>a
 | _=>a++b
theorem sigOk_nat {e:Int} (h:qFx e=true):∃ n:Nat,e=(n:Int)∧n < 1073741789:=by
 unfold qFx at h
 simp at h
 exact ⟨e.toNat,by omega,by omega⟩
theorem sEnc_spec (e s:Int):Spec Tryz.prog 187 [.agg [.I e,.I s]] [] (fun r h'=>r=.tup [.d (.sl 1 (qAj (qTg e s).1)),.d (.int .i64 (qTg e s).2)]∧h'=[]):=by
 have h1:=qKu e
 have h2:=qKu s
 have o1:qFx e=true→Spec Tryz.prog 245 [.I e,.I 4] [] (fun r h'=>r=.tup [.d (.sl 1 (qAj (qAw 4 e.toNat))),.I 0]∧h'=[]):=fun h=>by
  obtain ⟨n,rfl,hn⟩:=sigOk_nat h
  exact qDn n 4 (by omega) (by omega)
 have o2:qFx s=true→Spec Tryz.prog 245 [.I s,.I 4] [] (fun r h'=>r=.tup [.d (.sl 1 (qAj (qAw 4 s.toNat))),.I 0]∧h'=[]):=fun h=>by
  obtain ⟨n,rfl,hn⟩:=sigOk_nat h
  exact qDn n 4 (by omega) (by omega)
 have l1:(qAj (qAw 4 e.toNat)).length=4:=by rw [encB_length,octB_length]
 have l2:(qAj (qAw 4 s.toNat)).length=4:=by rw [encB_length,octB_length]
 have hap:=encB_append (qAw 4 e.toNat) (qAw 4 s.toNat)
 unfold qTg qNh
 generalize qAw 4 e.toNat=a at *
 generalize qAw 4 s.toNat=b at *
 generalize qFx e=c at *
 generalize qFx s=d at *
 refine qAb hT Tryz.func187 rfl rfl rfl rfl ?_;intro E hE
 refine qAo ?_
 refine qAl (qAf ?_)
 refine wws ?_
 refine qAl (qAf ?_)
 refine wws ?_
 refine qBb 4 1 0 (es:=[]) (.inr ⟨rfl,rfl⟩) rfl ?_
 refine ww ?_
 refine qAq (ι:=Nat) (fun i=>[(4,.sl 1 (qAj (sgA a b i)) (.right 0)),(13,.agg [.I e,.I s]),(14,.I (i:Int))]) (fun i=>[.right 1 (qAj (sgA a b i)).length,.row [.I e,.I s]])
  (fun i=>i≤2∧(1≤i→c=true)∧(2≤i→d=true)) (fun i=>2-i) 0 ⟨by omega,fun h=>by omega,fun h=>by omega⟩ yf (HLe.refl _) ?_
 rintro i ⟨hi,g1,g2⟩
 rcases (by omega:i=0∨i=1∨i=2) with rfl | rfl | rfl
 ·refine ww ?_
  refine qAa rfl (fun q=>?_) (fun q=>?_)
  ·refine ww ?_
   refine qAd (qAc (arrIdx_ok hT rfl rfl rfl rfl ⟨by decide,by decide⟩ rfl)) rfl ?_
   refine ww ?_
   refine wwc h1 ?_
   refine ww ?_
   refine qAa rfl (fun q1=>?_) (fun q1=>?_)
   ·rw [if_pos (.inl (by simpa using q1))]
    refine ww ?_
    refine rq ⟨rfl,rfl⟩ rfl (AV.le.tup ⟨.nils,.refl _,trivial⟩)
   have hc:c=true:=by simpa using q1
   have ho:=o1 hc
   refine ww ?_
   refine wwc ho ?_
   refine ww ?_
   refine qAd (qAh (i:=0) hT rfl rfl rfl rfl rfl rfl (by show (0+(qAj a).length)*(1+1)≤_;omega)) rfl ?_
   refine ww ?_
   exact ⟨1,⟨by omega,fun _=>hc,fun h=>by omega⟩,by omega,yf,HLe.refl _⟩
  ·exact absurd q (by simp)
 ·refine ww ?_
  refine qAa rfl (fun q=>?_) (fun q=>?_)
  ·refine ww ?_
   refine qAd (qAc (arrIdx_ok hT rfl rfl rfl rfl ⟨by decide,by decide⟩ rfl)) rfl ?_
   refine ww ?_
   refine wwc h2 ?_
   refine ww ?_
   refine qAa rfl (fun q1=>?_) (fun q1=>?_)
   ·rw [if_pos (.inr (by simpa using q1))]
    refine ww ?_
    refine rq ⟨rfl,rfl⟩ rfl (AV.le.tup ⟨.nils,.refl _,trivial⟩)
   have hd:d=true:=by simpa using q1
   have ho:=o2 hd
   refine ww ?_
   refine wwc ho ?_
   refine ww ?_
   refine qAd (qAh (i:=0) hT rfl rfl rfl rfl rfl rfl (by show ((qAj a).length+(qAj b).length)*(1+1)≤_;omega)) rfl ?_
   refine ww ?_
   exact ⟨2,⟨by omega,fun _=>g1 (by omega),fun _=>hd⟩,by omega,⟨.slt hap.symm,.refl _,.refl _,trivial⟩,⟨⟨rfl,by show (qAj a++qAj b).length=(qAj (a++b)).length;rw [hap]⟩,ObLe.refl _,trivial⟩⟩
  ·exact absurd q (by simp)
 ·have hc:=g1 (by omega)
  have hd:=g2 (by omega)
  rw [if_neg (by simp [hc,hd])]
  refine ww ?_
  refine qAa rfl (fun q=>?_) (fun q=>?_)
  ·exact absurd q (by simp)
  refine ww ?_
  refine rq ⟨rfl,rfl⟩ rfl (AV.le.tup ⟨AV.le.dat,.refl _,trivial⟩)
theorem soValid_spec (s:Sec) (hl:s.hs.length≤1000000):Spec Tryz.prog 186 [vCt s] [] (fun r h'=>r=.I (vCg s)∧h'=[]):=by
 have h1:=soCheck_spec s hl
 have h2:=qQn s.cert
 have h3:=sEnc_spec s.sE s.sS
 unfold vCg
 generalize qUh s=e at h1 ⊢
 generalize qHx s.cert=c at h2 ⊢
 generalize qTg s.sE s.sS=f at h3 ⊢
 obtain ⟨f1,f2⟩:=f
 obtain ⟨ver,hs,cert,sE,sS⟩:=s
 simp only at *
 refine qAb hT Tryz.func186 rfl rfl rfl rfl ?_;intro E hE
 refine ww ?_
 refine wwc h1 ?_
 refine ww ?_
 refine qAa rfl (fun c1=>?_) (fun c1=>?_)
 ·rw [if_pos (by simpa using c1)]
  refine ww ?_
  exact wwr
 rw [if_neg (by simpa using c1)]
 refine ww ?_
 refine wwc h2 ?_
 refine ww ?_
 refine qAa rfl (fun c2=>?_) (fun c2=>?_)
 ·rw [if_pos (by simpa using c2)]
  refine ww ?_
  exact wwr
 rw [if_neg (by simpa using c2)]
 refine ww ?_
 refine wwc h3 ?_
 refine ww ?_
 refine qAa rfl (fun c3=>?_) (fun c3=>?_)
 ·rw [if_pos (by simpa using c3)]
  refine ww ?_
  exact wwr
 rw [if_neg (by simpa using c3)]
 refine ww ?_
 exact wwr
theorem goH_ok:∀ {l:List (Int×List UInt8)} {b:Int},goH b l=0→∀ h,h∈l→1≤h.1∧h.1≤16∧h.2.length=32
 | [],_,_,h,hh=>by cases hh
 | x::l,b,h0,h,hh=>by
  rw [goH] at h0
  split at h0
  ·exact absurd h0 (by decide)
  split at h0
  ·exact absurd h0 (by decide)
  split at h0
  ·exact absurd h0 (by decide)
  rcases List.mem_cons.1 hh with rfl | hh
  ·exact ⟨by omega,by omega,by omega⟩
  ·exact goH_ok h0 h hh
theorem chkS_ok {s:Sec} (h:qUh s=0):s.hs.length≤16∧∀ x,x∈s.hs→x.2.length=32:=by
 unfold qUh at h
 split at h
 ·exact absurd h (by decide)
 split at h
 ·exact absurd h (by decide)
 exact ⟨by omega,fun x hx=>(goH_ok h x hx).2.2⟩
theorem vKe (h:Int×List UInt8) (hd:h.2.length=32) (r:List Node):(wrL (qFs h::r)).length≤70+(wrL r).length:=by
 have a:=wrL_cons_length 48 [] [.mk 2 [bOf h.1] [],.mk 4 h.2 []] r
 have b:=wrL_cons_length 2 [bOf h.1] [] [.mk 4 h.2 []]
 have c:=wrL_cons_length 4 h.2 [] []
 have h0:(wrL ([]:List Node)).length=0:=rfl
 unfold qFs
 simp only [List.length_nil,List.length_cons] at a b
 omega
theorem qYt:∀ {l:List (Int×List UInt8)},(∀ x,x∈l→x.2.length=32)→(wrL (l.map qFs)).length≤70*l.length∧qAu (l.map qFs)=3*l.length∧qJx (l.map qFs)
 | [],_=>⟨Nat.le_refl _,rfl,trivial⟩
 | x::l,h=>by
  have hx:=h x (by simp)
  obtain ⟨i1,i2,i3⟩:=qYt fun y hy=>h y (List.mem_cons_of_mem _ hy)
  have hw:=vKe x hx (l.map qFs)
  refine ⟨by simp only [List.map_cons,List.length_cons];omega,?_,?_,i3⟩
  ·simp only [List.map_cons,List.length_cons,qAu,i2]
   simp only [qFs,qCg,qAu]
   omega
  ·unfold qFs
   exact ⟨by omega,by simp,by simp,⟨by omega,by simp,by simp,trivial⟩,⟨by omega,by rw [hx];omega,by simp,trivial⟩,trivial⟩
theorem msgN_facts {s:Sec} (h:qUh s=0):qJx [qTq s]∧qAu [qTq s]≤51∧(wrL [qTq s]).length≤1200∧qBj [qTq s]=(wrL [qTq s],0):=by
 obtain ⟨h1,h2⟩:=chkS_ok h
 obtain ⟨i1,i2,i3⟩:=qYt h2
 have hs:qAu [qTq s]≤51:=by simp only [qTq,qAu,qCg,i2];omega
 have hw:(wrL [qTq s]).length≤1200:=by
  have a:=wrL_cons_length 48 [] [.mk 2 [bOf s.ver] [],.mk 48 [] (s.hs.map qFs)] []
  have b:=wrL_cons_length 2 [bOf s.ver] [] [.mk 48 [] (s.hs.map qFs)]
  have c:=wrL_cons_length 48 [] (s.hs.map qFs) []
  have h0:(wrL ([]:List Node)).length=0:=rfl
  unfold qTq
  simp only [List.length_nil,List.length_cons] at a b c
  omega
 have hc:(qDz 1 [qTq s] 0).1=0:=by
  refine chkL_of fun m hm=>?_
  rw [List.mem_singleton.1 hm]
  unfold qTq
  refine qHe (by decide) (by decide) (by omega) fun n hn=>?_
  simp only [List.mem_cons,List.not_mem_nil,or_false] at hn
  rcases hn with rfl | rfl
  ·exact qJc (by decide) (by decide) (by omega)
  refine qHe (by decide) (by decide) (by omega) fun n hn=>?_
  obtain ⟨x,_,rfl⟩:=List.mem_map.1 hn
  unfold qFs
  refine qHe (by decide) (by decide) (by omega) fun n hn=>?_
  simp only [List.mem_cons,List.not_mem_nil,or_false] at hn
  rcases hn with rfl | rfl <;> exact qJc (by decide) (by decide) (by omega)
 have hcnt:=(chkL_count 1 [qTq s] 0).1
 refine ⟨?_,hs,hw,?_⟩
 ·unfold qTq
  exact ⟨⟨by omega,by simp,by simp,⟨by omega,by simp,by simp,trivial⟩,⟨by omega,by simp,by simp;omega,i3⟩,trivial⟩,trivial⟩
 ·unfold qBj
  rw [if_neg (by rw [hc];simp),if_neg (by omega),if_neg (by omega)]
theorem hashN_enc (g:Int) (d:List UInt8):qIc (qFs (g,d))=[.int .i64 48,.sl 1 [],.sl 3 [qIc (.mk 2 [bOf g] []),[.int .i64 4,.sl 1 (qAj d),.sl 3 []]]]:=rfl
theorem hashN_snoc {l:List (Int×List UInt8)} {i:Nat} (h:i < l.length):encNs ((l.take (i+1)).map qFs)=encNs ((l.take i).map qFs)++[qIc (qFs l[i])]:=by
 rw [List.take_succ_eq_append_getElem h,List.map_append,encNs_append];rfl
theorem soMsg_spec (s:Sec) (hl:s.hs.length≤1000000):Spec Tryz.prog 184 [vCt s] [] (fun r h'=>r=.tup [.d (.sl 1 (qAj (qLg s).1)),.d (.int .i64 (qLg s).2)]∧h'=[]):=by
 have h1:=soCheck_spec s hl
 unfold qLg
 by_cases hc:qUh s=0
 ·rw [if_neg (by simpa using hc)]
  rw [hc] at h1
  obtain ⟨f1,f2,f3,f4⟩:=msgN_facts hc
  have h16:=(chkS_ok hc).1
  have henc:=qFv [qTq s] (by simp) f1 (by omega) (by omega)
  generalize qBj [qTq s]=R at henc ⊢
  obtain ⟨R1,R2⟩:=R
  simp only at henc ⊢
  clear f1 f2 f3 f4 hc
  obtain ⟨ver,hs,cert,sE,sS⟩:=s
  have hll:=encHs_length hs
  have hN:encNs [qTq ⟨ver,hs,cert,sE,sS⟩]=[[.int .i64 48,.sl 1 [],.sl 3 [qIc (.mk 2 [bOf ver] []),[.int .i64 48,.sl 1 [],.sl 3 (encNs (hs.map qFs))]]]]:=rfl
  rw [hN] at henc
  have hone:=qYo ver
  simp only at h16 hl
  refine qAb hT Tryz.func184 rfl rfl rfl rfl ?_;intro E hE
  refine qAo ?_
  refine qAl (qAf ?_)
  refine wws ?_
  refine qAl ?_
  refine ww ?_
  refine wwc h1 ?_
  refine ww ?_
  refine qAa rfl (fun c1=>?_) (fun c1=>?_)
  ·exact absurd c1 (by simp)
  refine wwe ?_
  refine qAl (qAf ?_)
  refine wws ?_
  refine qAl (qAf ?_)
  refine wws ?_
  refine qBy 2 2 0 3 (es:=[]) rfl rfl rfl ?_
  refine ww ?_
  refine qBg (ι:=Nat) (fun i=>[(1,.ptr 1 0),(5,.fn (.func 283) [] []),(6,.ptr 2 0),(16,.d (.sl 2 (qFi hs))),(17,.I ((qFi hs).length:Int)),(18,.I (i:Int))])
   (fun i=>[.right 3 (encNs ((hs.take i).map qFs)).length,.row (qMs ⟨ver,hs,cert,sE,sS⟩),.row [.I 48,.sl 1 [] .full,.sl 3 (encNs ((hs.take i).map qFs)) (.right 0)]]) (fun i=>i≤hs.length) (fun i=>hs.length-i) 0 (Nat.zero_le _)
   yf (HLe.refl _) ?_
  intro i hi
  have hwr:IntKind.i64.wrap ((i:Int)+1)=((i+1:Nat):Int):=by rw [qAe (by omega)];simp
  have hpl:(encNs ((hs.take i).map qFs)).length=i:=by rw [encNs_length,List.length_map,List.length_take];omega
  refine ww ?_
  refine qAa rfl (fun c3=>?_) (fun c3=>?_)
  ·have c3':i < hs.length:=by rw [hll] at c3;simpa using c3
   have hel:=encHs_at c3'
   have hsn:=hashN_snoc c3'
   generalize hs[i]=x at hel hsn
   obtain ⟨g,d⟩:=x
   have hg:=qYo g
   rw [hashN_enc] at hsn
   have e2:qIc (.mk 2 [bOf g] [])=[Dat.int .i64 2,.sl 1 (qAj [bOf g]),.sl 3 []]:=rfl
   rw [e2] at hg hsn
   unfold vLf at hel
   simp only at hel
   generalize qAj d=db at hel hsn
   generalize qAj [bOf g]=gb at hg hsn
   generalize encNs ((hs.take i).map qFs)=pre at hsn hpl ⊢
   refine ww ?_
   refine wwi hel ?_
   refine wwn ?_
   refine qBh (fun i=>bif Nat.beq i 1||Nat.beq i 14 then [2] else bif Nat.beq i 4||Nat.beq i 7 then [3] else bif Nat.beq i 12 then [0] else []) (fun i=>bif Nat.beq i 14 then [2] else bif Nat.beq i 12 then [0] else []) mixed (by kernel_rfl) ?_
   refine wwg ?_
   refine wwdc hg ?_
   refine wwg ?_
   refine qAk (os:=[]) (fun k hk1 hk2=>buildSl_ok hT rfl rfl) rfl ?_
   refine wwg ?_
   refine qAk (os:=[]) (fun k hk1 hk2=>buildSl_ok hT rfl rfl) rfl ?_
   refine qAk (v:=.sl 3 (pre++[[Dat.int .i64 48,.sl 1 [],.sl 3 [[.int .i64 2,.sl 1 gb,.sl 3 []],[.int .i64 4,.sl 1 db,.sl 3 []]]]]) (.right 0)) (os:=[.right 3 (pre++[[Dat.int .i64 48,.sl 1 [],.sl 3 [[.int .i64 2,.sl 1 gb,.sl 3 []],[.int .i64 4,.sl 1 db,.sl 3 []]]]]).length]) (fun k hk1 hk2=>qAh (i:=0) (es2:=[[Dat.int .i64 48,.sl 1 [],.sl 3 [[.int .i64 2,.sl 1 gb,.sl 3 []],[.int .i64 4,.sl 1 db,.sl 3 []]]]]) hT rfl rfl rfl rfl ((hk2 0 List.mem_cons_self).trans rfl) rfl (by show (pre.length+1)*(56+1)≤_;omega)) rfl ?_
   refine wwg ?_
   rw [← hsn]
   refine ww ?_
   exact ⟨i+1,[_],c3',by omega,⟨.refl _,.refl _,.refl _,.refl _,.refl _,.int hwr,trivial⟩,HLe.refl _,Env.below_mono hE (by simp),rfl,rfl⟩
  ·have c3':i=hs.length:=by rw [hll] at c3;simp at c3;omega
   subst c3'
   rw [List.take_length]
   generalize encNs (hs.map qFs)=pre at henc ⊢
   refine wwn ?_
   refine qBh (fun i=>bif Nat.beq i 2 then [1] else bif Nat.beq i 4 then [2] else []) (fun _=>[]) mixed (by kernel_rfl) ?_
   have e2:qIc (.mk 2 [bOf ver] [])=[Dat.int .i64 2,.sl 1 (qAj [bOf ver]),.sl 3 []]:=rfl
   rw [e2] at hone henc
   generalize qAj [bOf ver]=vb at hone henc
   refine wwg ?_
   refine wwdc hone ?_
   refine wwg ?_
   refine qAk (os:=[]) (fun k hk1 hk2=>buildSl_ok hT rfl rfl) rfl ?_
   refine wwg ?_
   refine qAk (os:=[]) (fun k hk1 hk2=>buildSl_ok hT rfl rfl) rfl ?_
   refine wwdc henc ?_
   refine wwg ?_
   refine ww ?_
   exact wwr
 ·rw [if_pos (by simpa using hc)]
  generalize qUh s=e at h1 hc ⊢
  obtain ⟨ver,hs,cert,sE,sS⟩:=s
  refine qAb hT Tryz.func184 rfl rfl rfl rfl ?_;intro E hE
  refine ww ?_
  refine wwc h1 ?_
  refine ww ?_
  refine qAa rfl (fun c1=>?_) (fun c1=>?_)
  ·refine ww ?_
   exact wwr
  ·exact absurd (by simpa using c1) hc
def qDa (c:Nal):Node:=.mk 48 [] [qBk c,.mk 3 (qNh c.sE c.sS) []]
def qLd (c:Nal):Node×Int:=if qCu c≠0 then (.mk 0 [] [],qCu c) else if (qTg c.sE c.sS).2≠0 then (.mk 0 [] [],(qTg c.sE c.sS).2) else (qDa c,0)
def qNp (c:Nal):List UInt8×Int:=if (qLd c).2≠0 then ([],(qLd c).2) else qBj [qDa c]
theorem sigF_eq {e s:Int} (h:(qTg e s).2=0):qTg e s=(qNh e s,0):=by
 unfold qTg at h ⊢
 split at h
 ·exact absurd h (by decide)
 ·rename_i h1;rw [if_neg h1]
theorem treeNl_facts {c:Nal} (h:qCu c=0):qJx [qDa c]∧qAu [qDa c]≤30∧(wrL [qDa c]).length≤300∧qBj [qDa c]=(wrL [qDa c],0):=by
 have b1:=qSb h
 have b2:=qOh c
 have b3:=qHh c (stateF_len (chk0 h).1)
 have hsz:qAu [qDa c]≤30:=by
  simp only [qDa,qAu,qCg] at b2 ⊢
  omega
 have hw:(wrL [qDa c]).length≤300:=by
  have a:=wrL_cons_length 48 [] [qBk c,.mk 3 (qNh c.sE c.sS) []] []
  have b:=congrArg List.length (wrL_append [qBk c] [.mk 3 (qNh c.sE c.sS) []])
  have d:=wrL_cons_length 3 (qNh c.sE c.sS) [] []
  have h0:(wrL ([]:List Node)).length=0:=rfl
  have e:[qBk c]++[Node.mk 3 (qNh c.sE c.sS) []]=[qBk c,.mk 3 (qNh c.sE c.sS) []]:=rfl
  rw [e,List.length_append] at b
  rw [sigB_length] at d
  unfold qDa
  simp only [List.length_nil] at a
  omega
 have hc:(qDz 1 [qDa c] 0).1=0:=by
  refine chkL_of fun m hm=>?_
  rw [List.mem_singleton.1 hm]
  unfold qDa
  refine qHe (by decide) (by decide) (by omega) fun n hn=>?_
  simp only [List.mem_cons,List.not_mem_nil,or_false] at hn
  rcases hn with rfl | rfl
  ·unfold qBk
   refine qHe (by decide) (by decide) (by omega) fun n hn=>?_
   simp only [List.mem_cons,List.not_mem_nil,or_false] at hn
   rcases hn with rfl | rfl | rfl | rfl | rfl | rfl | rfl <;> exact qJc (by decide) (by decide) (by omega)
  ·exact qJc (by decide) (by decide) (by omega)
 have hcnt:=(chkL_count 1 [qDa c] 0).1
 refine ⟨?_,hsz,hw,?_⟩
 ·unfold qDa
  exact ⟨⟨by omega,by simp,by simp,b1.1,⟨by omega,by rw [sigB_length];omega,by simp,trivial⟩,trivial⟩,trivial⟩
 ·unfold qBj
  rw [if_neg (by rw [hc];simp),if_neg (by omega),if_neg (by omega)]
theorem nTree_spec (c:Nal) (hs:c.sta.length≤1000000000):Spec Tryz.prog 180 [qEb c] [] (fun r h'=>r=.tup [nAV (qLd c).1,.d (.int .i64 (qLd c).2)]∧h'=[]):=by
 have h1:=qLq c hs
 have h2:=sEnc_spec c.sE c.sS
 have h3:=qPy c
 have hsg:=@sigF_eq c.sE c.sS
 unfold qLd qDa
 generalize qCu c=e at h1 h3 ⊢
 generalize qTg c.sE c.sS=f at h2 hsg ⊢
 generalize qBk c=B at h3 ⊢
 obtain ⟨f1,f2⟩:=f
 obtain ⟨bt,bv,bk⟩:=B
 obtain ⟨sta,kind,num,iss,own,key,frm,unt,til,sE,sS⟩:=c
 simp only at *
 refine qAb hT Tryz.func180 rfl rfl rfl rfl ?_;intro E hE
 refine ww ?_
 refine wwc h1 ?_
 refine ww ?_
 refine qAa rfl (fun c1=>?_) (fun c1=>?_)
 ·rw [if_pos (by simpa using c1)]
  refine ww ?_
  refine rq ⟨rfl,rfl⟩ rfl (AV.le.tup ⟨AV.le.agg ⟨.refl _,AV.le.dat' rfl,AV.le.dat' rfl,trivial⟩,.refl _,trivial⟩)
 rw [if_neg (by simpa using c1)]
 refine ww ?_
 refine wwc h2 ?_
 refine ww ?_
 refine qAa rfl (fun c2=>?_) (fun c2=>?_)
 ·rw [if_pos (by simpa using c2)]
  refine ww ?_
  refine rq ⟨rfl,rfl⟩ rfl (AV.le.tup ⟨AV.le.agg ⟨.refl _,AV.le.dat' rfl,AV.le.dat' rfl,trivial⟩,.refl _,trivial⟩)
 rw [if_neg (by simpa using c2)]
 have hf:=hsg (by simpa using c2)
 simp only [Prod.mk.injEq] at hf
 obtain ⟨rfl,rfl⟩:=hf
 have h4:=h3 (by simpa using c1)
 refine ww ?_
 refine wwc h4 ?_
 refine ww ?_
 refine qAa rfl (fun c3=>?_) (fun c3=>?_)
 ·exact absurd c3 (by simp)
 refine ww ?_
 refine rq ⟨rfl,rfl⟩ rfl (AV.le.tup ⟨AV.le.agg ⟨.refl _,AV.le.dat' rfl,AV.le.dat' rfl,trivial⟩,.refl _,trivial⟩)
theorem nEncode_spec (c:Nal) (hs:c.sta.length≤1000000000):Spec Tryz.prog 97 [qEb c] [] (fun r h'=>r=.tup [.d (.sl 1 (qAj (qNp c).1)),.d (.int .i64 (qNp c).2)]∧h'=[]):=by
 have h1:=nTree_spec c hs
 have henc:(qLd c).2=0→Spec Tryz.prog 181 [.d (.sl 3 (encNs [qDa c]))] [] (fun r h'=>r=.tup [.d (.sl 1 (qAj (qBj [qDa c]).1)),.d (.int .i64 (qBj [qDa c]).2)]∧h'=[]):=fun h=>by
  have hc:qCu c=0:=by
   unfold qLd at h
   split at h
   ·rename_i hn;exact absurd h hn
   ·rename_i hn;simpa using hn
  obtain ⟨f1,f2,f3,f4⟩:=treeNl_facts hc
  exact qFv [qDa c] (by simp) f1 (by omega) (by omega)
 have hTr:(qLd c).2=0→(qLd c).1=qDa c:=fun h=>by
  unfold qLd at h ⊢
  split at h
  ·rename_i hn;exact absurd h hn
  split at h
  ·rename_i hn;exact absurd h hn
  ·rename_i hn hm;rw [if_neg hn,if_neg hm]
 unfold qNp
 generalize qBj [qDa c]=R at henc ⊢
 generalize qDa c=B at henc hTr
 generalize qLd c=F at h1 henc hTr ⊢
 obtain ⟨F1,F2⟩:=F
 obtain ⟨R1,R2⟩:=R
 obtain ⟨bt,bv,bk⟩:=F1
 obtain ⟨sta,kind,num,iss,own,key,frm,unt,til,sE,sS⟩:=c
 simp only at *
 refine qAb hT Tryz.func97 rfl rfl rfl rfl ?_;intro E hE
 refine ww ?_
 refine wwc h1 ?_
 refine ww ?_
 refine qAa rfl (fun c1=>?_) (fun c1=>?_)
 ·rw [if_pos (by simpa using c1)]
  refine ww ?_
  exact wwr
 rw [if_neg (by simpa using c1)]
 have h0:F2=0:=by simpa using c1
 have hb:=hTr h0
 subst hb
 have he:=henc h0
 refine ww ?_
 refine wwc he ?_
 refine ww ?_
 exact wwr
theorem vJw (a:Nat) (h:a < 4611686018427387904):IntKind.i64.wrap (Int.fdiv (IntKind.u64.wrap (IntKind.i64.wrap (a:Int))) (2 ^ (min (1:Int).toNat IntKind.u64.bits)))=((a / 2:Nat):Int):=by
 rw [qAe (n:=(a:Int)) (by omega),wrapu64 (by omega),show Int.fdiv (a:Int) (2 ^ (min (1:Int).toNat IntKind.u64.bits))=((a / 2 ^ 1:Nat):Int) from qDy a 1,qAe (by omega)]
theorem vDu (g n:Int) (d:List (List Dat)) (hg : -1000≤g∧g≤1000) (hn : -1000≤n∧n≤1000):Spec Tryz.prog 279 [.agg [.I g,.d (.sl 1 d)],.I n] [] (fun r h'=>r=.I (g-n)∧h'=[]):=by
 have hw:IntKind.i64.wrap (g-n)=g-n:=qAe (by omega)
 refine qAb hT Tryz.func279 rfl rfl rfl rfl ?_;intro E hE
 refine ww ?_
 refine rq ⟨rfl,rfl⟩ rfl (.int hw)
theorem bsEnd_spec (l:List (Int×List UInt8)) (n:Int) (hl:l.length≤1000) (hn : -1000≤n∧n≤1000) (hlt:∀ x,x∈l→-1000≤x.1∧x.1 < n):Spec Tryz.prog 278 [.d (.sl 2 (qFi l)),.I n,.fn (.func 279) [] []] []
  (fun r h'=>r=.tup [.I (l.length:Int),.d (.bool false)]∧h'=[]):=by
 have hll:=encHs_length l
 refine qAb hT Tryz.func278 rfl rfl rfl rfl ?_;intro E hE
 refine ww ?_
 refine qAq (ι:=Nat) (fun i=>[(0,.d (.sl 2 (qFi l))),(1,.I n),(2,.fn (.func 279) [] []),(8,.I (l.length:Int)),(9,.I (i:Int)),(10,.I (l.length:Int))]) (fun _=>[]) (fun i=>i≤l.length) (fun i=>l.length-i) 0 (Nat.zero_le _)
  ⟨.refl _,.refl _,.refl _,.int (by rw [hll]),.refl _,.int (by rw [hll]),trivial⟩ (HLe.refl _) ?_
 intro i hi
 refine ww ?_
 refine qAa rfl (fun c1=>?_) (fun c1=>?_)
 ·have hi':i < l.length:=by simpa using c1
  have hm:=vJw (i+l.length) (by omega)
  have hlt2:(i+l.length) / 2 < l.length:=by omega
  have hel:=encHs_at hlt2
  have hx:=hlt l[(i+l.length) / 2] (List.getElem_mem hlt2)
  generalize l[(i+l.length) / 2]=x at hel hx
  obtain ⟨g,d⟩:=x
  unfold vLf at hel
  simp only at hel hx
  have hc:=vDu g n (qAj d) (by omega) hn
  rw [show (((i+l.length:Nat)):Int)=(i:Int)+(l.length:Int) by omega] at hm
  generalize hmm:(i+l.length) / 2=m at hm hlt2 hel
  refine ww ?_
  rw [hm]
  refine ww ?_
  refine wwi hel ?_
  refine ww ?_
  refine wwc hc ?_
  refine ww ?_
  refine qAa rfl (fun c2=>?_) (fun c2=>?_)
  ·refine ww ?_
   exact ⟨m+1,by omega,by omega,⟨.refl _,.refl _,.refl _,.refl _,.int (by rw [qAe (by omega)];omega),.refl _,trivial⟩,HLe.refl _⟩
  ·exact absurd c2 (by simp;omega)
 have hi':i=l.length:=by simp at c1;omega
 subst hi'
 refine ww ?_
 have hcf:decide (((l.length:Nat):Int) < ((l.length:Nat):Int))=false:=by simp
 refine wwk hcf ?_
 refine rq ⟨rfl,rfl⟩ rfl (AV.le.tup ⟨.refl _,.bool (by simp),trivial⟩)
theorem insEnd_spec (l:List (Int×List UInt8)) (g:Int) (d:List (List Dat)) (hl:l.length≤1000):Spec Tryz.prog 280 [.sl 2 (qFi l) (.right 0),.I (l.length:Int),.d (.sl 2 [[Dat.int .i64 g,.sl 1 d]])] [.right 2 (qFi l).length]
  (fun r h'=>r=.sl 2 (qFi l++[[Dat.int .i64 g,.sl 1 d]]) (.right 0)∧h'=[.right 2 (qFi l++[[Dat.int .i64 g,.sl 1 d]]).length]):=by
 have hll:=encHs_length l
 refine qAb hT Tryz.func280 rfl rfl rfl rfl ?_;intro E hE
 refine ww ?_
 refine qAa rfl (fun q1=>?_) (fun q1=>?_)
 ·exact absurd q1 (by simp)
 refine ww ?_
 refine qAa rfl (fun q2=>?_) (fun q2=>?_)
 ·refine ww ?_
  refine qAd (qAh (i:=0) (es2:=[[Dat.int .i64 g,.sl 1 d]]) hT rfl rfl rfl rfl rfl rfl (by show ((qFi l).length+1)*(32+1)≤_;omega)) rfl ?_
  refine ww ?_
  exact wwr
 ·exact absurd q2 (by rw [hll];simp)
structure FilesOk (gs:List (List UInt8)) (ns:List Int):Prop where
 grp:∀ i,i < gs.length→GrpOk (gs.getD i []) (ns.getD i 0)∧1≤ns.getD i 0∧ns.getD i 0≤16
 asc:∀ j i,j < i→i < gs.length→ns.getD j 0 < ns.getD i 0
def hk (gs:List (List UInt8)) (ns:List Int):Nat→List (Int×List UInt8)
 | 0=>[]
 | i+1=>hk gs ns i++[(ns.getD i 0,qLa (gs.getD i []))]
theorem qIk (gs:List (List UInt8)) (ns:List Int):∀ i,(hk gs ns i).length=i
 | 0=>rfl
 | i+1=>by rw [hk,List.length_append,qIk gs ns i];rfl
theorem vDt {gs:List (List UInt8)} {ns:List Int}:∀ {i:Nat} {x:Int×List UInt8},x∈hk gs ns i→∃ j,j < i∧x=(ns.getD j 0,qLa (gs.getD j []))
 | 0,x,h=>by cases h
 | i+1,x,h=>by
  rw [hk] at h
  rcases List.mem_append.1 h with h | h
  ·obtain ⟨j,hj,he⟩:=vDt h;exact ⟨j,by omega,he⟩
  ·exact ⟨i,by omega,List.mem_singleton.1 h⟩
theorem goH_append:∀ {l:List (Int×List UInt8)} {b:Int} {x:Int×List UInt8},goH b l=0→(∀ y,y∈l→y.1 < x.1)→b < x.1→1≤x.1→x.1≤16→x.2.length=32→goH b (l++[x])=0
 | [],b,x,_,_,h1,h2,h3,h4=>by
  show goH b [x]=0
  rw [goH,if_neg (by omega),if_neg (by omega),if_neg (by omega)];rfl
 | y::l,b,x,h0,hy,h1,h2,h3,h4=>by
  rw [goH] at h0
  split at h0
  ·exact absurd h0 (by decide)
  split at h0
  ·exact absurd h0 (by decide)
  split at h0
  ·exact absurd h0 (by decide)
  rename_i q1 q2 q3
  rw [List.cons_append,goH,if_neg q1,if_neg q2,if_neg q3]
  exact goH_append h0 (fun z hz=>hy z (List.mem_cons_of_mem _ hz)) (hy y (by simp)) h2 h3 h4
theorem vKd {gs:List (List UInt8)} {ns:List Int} (ok:FilesOk gs ns):∀ i,i≤gs.length→goH 0 (hk gs ns i)=0
 | 0,_=>rfl
 | i+1,hi=>by
  obtain ⟨_,g1,g2⟩:=ok.grp i (by omega)
  rw [hk]
  refine goH_append (vKd ok i (by omega)) (fun y hy=>?_) (by show 0 < ns.getD i 0;omega) g1 g2 (by show (qLa _).length=32;rw [sumW_length])
  obtain ⟨j,hj,rfl⟩:=vDt hy
  exact ok.asc j i hj (by omega)
theorem soHashes_spec (gs:List (List UInt8)) (ns:List Int) (ok:FilesOk gs ns) (hl:gs.length≤100):Spec Tryz.prog 182 [.d (.sl 1 (qJy gs))] [] (fun r h'=>r=.tup [.d (.sl 2 (qFi (hk gs ns gs.length))),.I 0]∧h'=[]):=by
 have hll:=encBs_length gs
 refine qAb hT Tryz.func182 rfl rfl rfl rfl ?_;intro E hE
 refine qAo ?_
 refine qAl (qAf ?_)
 refine wws ?_
 refine qAl (qAf ?_)
 refine wws ?_
 refine qBb 4 2 0 (es:=[]) (.inr ⟨rfl,rfl⟩) rfl ?_
 refine ww ?_
 refine qAq (ι:=Nat) (fun i=>[(4,.sl 2 (qFi (hk gs ns i)) (.right 0)),(12,.d (.sl 1 (qJy gs))),(13,.I (gs.length:Int)),(14,.I (i:Int))]) (fun i=>[.right 2 (qFi (hk gs ns i)).length]) (fun i=>i≤gs.length) (fun i=>gs.length-i) 0 (Nat.zero_le _)
  ⟨.refl _,.refl _,.int (by rw [hll]),.refl _,trivial⟩ (HLe.refl _) ?_
 intro i hi
 refine ww ?_
 refine qAa rfl (fun c1=>?_) (fun c1=>?_)
 ·have hi':i < gs.length:=by simpa using c1
  have hat:=encBs_at hi'
  obtain ⟨⟨⟨k,hop⟩,hlen⟩,g1,g2⟩:=ok.grp i hi'
  have hasc:=fun j hj=>ok.asc j i hj hi'
  have hkl:=qIk gs ns i
  have hmem:∀ x,x∈hk gs ns i→-1000≤x.1∧x.1 < ns.getD i 0:=fun x hx=>by
   obtain ⟨j,hj,rfl⟩:=vDt hx
   have h1:=(ok.grp j (by omega)).2.1
   have h2:=hasc j hj
   exact ⟨by show -1000≤ns.getD j 0;omega,h2⟩
  have hsu:qFi (hk gs ns (i+1))=qFi (hk gs ns i)++[[.int .i64 (ns.getD i 0),.sl 1 (qAj (qLa (gs.getD i [])))]]:=by rw [hk];simp [qFi,vLf]
  generalize gs.getD i []=b at hat hop hlen hsu
  generalize ns.getD i 0=n at hop g1 g2 hmem hsu
  generalize hk gs ns i=pre at hkl hmem hsu ⊢
  have hO:=qUw b (by omega)
  rw [hop] at hO
  simp only at hO
  have hS:=qSi b (by omega)
  have hB:=bsEnd_spec pre n (by omega) (by omega) hmem
  have hI:=insEnd_spec pre n (qAj (qLa b)) (by omega)
  generalize qAj (qLa b)=sb at hS hI hsu
  rw [← hsu] at hI
  generalize hnx:qFi (hk gs ns (i+1))=nxt at hI
  have hJ:=Spec.args (args:=[.sl 2 (qFi pre) (.right 0),.I (pre.length:Int),.sl 2 [[Dat.int .i64 n,.sl 1 sb]] .full]) (by exact ⟨.refl _,.refl _,AV.le.dat,trivial⟩) hI
  refine ww ?_
  refine wwi hat ?_
  refine ww ?_
  refine wwc hO ?_
  refine ww ?_
  refine qAa rfl (fun c2=>?_) (fun c2=>?_)
  ·exact absurd c2 (by simp)
  refine ww ?_
  refine qAa rfl (fun c3=>?_) (fun c3=>?_)
  ·exact absurd c3 (by simp;omega)
  refine ww ?_
  refine qAd (vKm rfl rfl hB rfl rfl rfl) rfl ?_
  refine ww ?_
  refine qAa rfl (fun c4=>?_) (fun c4=>?_)
  ·exact absurd c4 (by simp)
  refine ww ?_
  refine wwc hS ?_
  refine ww ?_
  refine qAd (qBs (v:=.sl 2 nxt (.right 0)) (H':=[.right 2 nxt.length]) rfl rfl hJ [0] (by decide) rfl rfl rfl rfl rfl rfl) rfl ?_
  refine ww ?_
  exact ⟨i+1,hi',by omega,⟨.slt hnx.symm,.refl _,.refl _,.int (by rw [qAe (by omega)];omega),trivial⟩,⟨⟨rfl,by rw [hnx]⟩,trivial⟩⟩
 have hi':i=gs.length:=by simp at c1;omega
 subst hi'
 refine ww ?_
 refine rq ⟨rfl,rfl⟩ rfl (AV.le.tup ⟨AV.le.dat,.refl _,trivial⟩)
def vLc (k:Int) (cert:List UInt8) (hs:List (Int×List UInt8)):Sec:=⟨1,hs,cert,vCo k (qLg ⟨1,hs,cert,0,0⟩).1,vCn k (qLg ⟨1,hs,cert,0,0⟩).1⟩
theorem soMake_spec (k:Int) (cert:List UInt8) (gs:List (List UInt8)) (ns:List Int) (ok:FilesOk gs ns) (hl:1≤gs.length∧gs.length≤16) (hk:qNi k=true) (hc:qHx cert=true) :
  Spec Tryz.prog 98 [.I k,.d (.sl 1 (qAj cert)),.d (.sl 1 (qJy gs))] [] (fun r h'=>r=.tup [vCt (vLc k cert (Tdoc.hk gs ns gs.length)),.I 0]∧h'=[]):=by
 have hll:=encBs_length gs
 have hH:=soHashes_spec gs ns ok (by omega)
 have hkl:=qIk gs ns gs.length
 have hgo:=vKd ok gs.length (Nat.le_refl _)
 unfold vLc
 generalize Tdoc.hk gs ns gs.length=hs at hH hkl hgo ⊢
 have hchk:qUh ⟨1,hs,cert,0,0⟩=0:=by
  unfold qUh
  simp only
  rw [if_neg (by omega),if_neg (by omega)]
  exact hgo
 have hf:=msgN_facts hchk
 have hM:=soMsg_spec ⟨1,hs,cert,0,0⟩ (by show hs.length≤_;omega)
 have hml:(qLg ⟨1,hs,cert,0,0⟩).1.length≤1200:=by
  unfold qLg
  rw [if_neg (by simpa using hchk),hf.2.2.2]
  exact hf.2.2.1
 generalize qLg ⟨1,hs,cert,0,0⟩=M at hM hml ⊢
 obtain ⟨M1,M2⟩:=M
 simp only at hM hml ⊢
 have hS:=qUp k M1 (by omega)
 rw [show qPd k=0 by unfold qPd;rw [if_pos hk]] at hS
 generalize vCo k M1=sE at hS ⊢
 generalize vCn k M1=sS at hS ⊢
 have hC:=qQn cert
 rw [hc] at hC
 have hcl:cert.length≤1024:=by unfold qHx at hc;simp at hc;omega
 have hcb:=encB_length cert
 have hD:=qCe (qAj cert) (by omega)
 refine qAb hT Tryz.func98 rfl rfl rfl rfl ?_;intro E hE
 refine ww ?_
 refine wwc hH ?_
 refine ww ?_
 refine qAa rfl (fun c1=>?_) (fun c1=>?_)
 ·exact absurd c1 (by simp)
 refine ww ?_
 refine wwgc hC ?_
 refine ww ?_
 refine qAa rfl (fun c2=>?_) (fun c2=>?_)
 ·exfalso
  rw [hll] at c2
  generalize gs.length=n at *
  simp at c2
  omega
 refine ww ?_
 refine wwc hD ?_
 refine ww ?_
 refine wwc hM ?_
 refine ww ?_
 refine wwc hS ?_
 refine ww ?_
 refine qAa rfl (fun c3=>?_) (fun c3=>?_)
 ·exact absurd c3 (by simp)
 refine ww ?_
 exact wwr
def kdN (b:List UInt8):Node:=.mk 4 b []
theorem kdN_snoc {l:List (List UInt8)} {i:Nat} (h:i < l.length):encNs ((l.take (i+1)).map kdN)=encNs ((l.take i).map kdN)++[[.int .i64 4,.sl 1 (qAj (l.getD i [])),.sl 3 []]]:=by
 rw [List.take_succ_eq_append_getElem h,List.map_append,encNs_append]
 have:l.getD i []=l[i]:=by simp [h]
 rw [this];rfl
theorem valS_ok {s:Sec} (h:vCg s=0):qUh s=0∧qHx s.cert=true∧(qTg s.sE s.sS).2=0:=by
 unfold vCg at h
 split at h
 ·rename_i h1;exact absurd h h1
 split at h
 ·exact absurd h (by decide)
 split at h
 ·exact absurd h (by decide)
 rename_i h1 h2 h3
 exact ⟨by simpa using h1,by simpa using h2,by simpa using h3⟩
theorem soN_facts {m c g:List UInt8} (hm:m.length≤1200) (hc:c.length≤1024) (hg:g.length=8):qJx [Node.mk 48 [] ([m,c,g].map kdN)]∧qAu [Node.mk 48 [] ([m,c,g].map kdN)]≤10∧(wrL [Node.mk 48 [] ([m,c,g].map kdN)]).length≤2400∧(qDz 2 [Node.mk 48 [] ([m,c,g].map kdN)] 0).1=0:=by
 refine ⟨⟨⟨by omega,by simp,by simp,⟨by omega,by omega,by simp,trivial⟩,⟨by omega,by omega,by simp,trivial⟩,⟨by omega,by omega,by simp,trivial⟩,trivial⟩,trivial⟩,by simp [qAu,qCg,kdN],?_,?_⟩
 ·have a:=wrL_cons_length 48 [] ([m,c,g].map kdN) []
  have b1:=wrL_cons_length 4 m [] ([c,g].map kdN)
  have b2:=wrL_cons_length 4 c [] ([g].map kdN)
  have b3:=wrL_cons_length 4 g [] []
  have h0:(wrL ([]:List Node)).length=0:=rfl
  simp only [List.map_cons,List.map_nil,kdN,List.length_nil] at *
  omega
 ·refine chkL_of fun x hx=>?_
  rw [List.mem_singleton.1 hx]
  refine qHe (by decide) (by decide) (by omega) fun n hn=>?_
  simp only [List.map_cons,List.map_nil,List.mem_cons,List.not_mem_nil,or_false] at hn
  rcases hn with rfl | rfl | rfl <;> exact qJc (by decide) (by decide) (by omega)
theorem soEncode_spec (s:Sec) (hl:s.hs.length≤1000000):Spec Tryz.prog 99 [vCt s] [] (fun r h'=>r=.tup [.d (.sl 1 (qAj (qWy s).1)),.d (.int .i64 (qWy s).2)]∧h'=[]):=by
 have h1:=soValid_spec s hl
 unfold qWy
 by_cases hv:vCg s=0
 ·rw [if_neg (by simpa using hv)]
  rw [hv] at h1
  obtain ⟨v1,v2,v3⟩:=valS_ok hv
  have hM:=soMsg_spec s hl
  have hG:=sEnc_spec s.sE s.sS
  rw [sigF_eq v3] at hG
  have hf:=msgN_facts v1
  have hml:(qLg s).1.length≤1200:=by
   unfold qLg
   rw [if_neg (by simpa using v1),hf.2.2.2]
   exact hf.2.2.1
  have hm0:(qLg s).2=0:=by
   unfold qLg
   rw [if_neg (by simpa using v1),hf.2.2.2]
  have hcl:s.cert.length≤1024:=by unfold qHx at v2;simp at v2;omega
  obtain ⟨f1,f2,f3,f4⟩:=soN_facts hml hcl (sigB_length s.sE s.sS)
  have hW:=qGv 18 (by omega) [.mk 48 [] ([(qLg s).1,s.cert,qNh s.sE s.sS].map kdN)] (by simp) f1 (by omega) (by omega)
  have hso:soN s=.mk 48 [] ([(qLg s).1,s.cert,qNh s.sE s.sS].map kdN):=rfl
  rw [hso]
  clear f1 f2 f3 f4 hf hso
  have hN:encNs [.mk 48 [] ([(qLg s).1,s.cert,qNh s.sE s.sS].map kdN)]=[[.int .i64 48,.sl 1 [],.sl 3 (encNs ([(qLg s).1,s.cert,qNh s.sE s.sS].map kdN))]]:=rfl
  rw [hN] at hW
  generalize qEf 18 [.mk 48 [] ([(qLg s).1,s.cert,qNh s.sE s.sS].map kdN)]=W at hW ⊢
  obtain ⟨W1,W2⟩:=W
  simp only at hW hG ⊢
  have hbl:[(qLg s).1,s.cert,qNh s.sE s.sS].length=3:=rfl
  have hbe:qJy [(qLg s).1,s.cert,qNh s.sE s.sS]=[[.sl 1 (qAj (qLg s).1)],[.sl 1 (qAj s.cert)],[.sl 1 (qAj (qNh s.sE s.sS))]]:=rfl
  generalize [(qLg s).1,s.cert,qNh s.sE s.sS]=bs at hW hbl hbe
  generalize qLg s=M at hM hbe hml hm0
  obtain ⟨M1,M2⟩:=M
  simp only at hm0
  subst hm0
  generalize qNh s.sE s.sS=sg at hG hbe
  obtain ⟨ver,hs,cert,sE,sS⟩:=s
  simp only at *
  clear h1
  have h1:=soValid_spec ⟨ver,hs,cert,sE,sS⟩ hl
  rw [hv] at h1
  refine qAb hT Tryz.func99 rfl rfl rfl rfl ?_;intro E hE
  refine qAo ?_
  refine qAl (qAf ?_)
  refine wws ?_
  refine qAl ?_
  refine ww ?_
  refine wwc h1 ?_
  refine ww ?_
  refine qAa rfl (fun c1=>?_) (fun c1=>?_)
  ·exact absurd c1 (by simp)
  refine wwe ?_
  refine qAl (qAf ?_)
  refine wws ?_
  refine wwc hM ?_
  refine wws ?_
  refine qAl (qAf ?_)
  refine wws ?_
  refine wwc hG ?_
  refine wws ?_
  refine qAl (qAf ?_)
  refine wws ?_
  refine qBy 2 2 0 3 (es:=[]) rfl rfl rfl ?_
  refine ww ?_
  refine qAq (ι:=Nat) (fun i=>[(9,.ptr 2 0),(33,.d (.sl 1 (qJy bs))),(34,.I 3),(35,.I (i:Int))])
   (fun i=>[.right 3 (encNs ((bs.take i).map kdN)).length,.row (qMs ⟨ver,hs,cert,sE,sS⟩),.row [.I 48,.sl 1 [] .full,.sl 3 (encNs ((bs.take i).map kdN)) (.right 0)]]) (fun i=>i≤3) (fun i=>3-i) 0 (Nat.zero_le _)
   ⟨.refl _,AV.le.dat' hbe.symm,.refl _,.refl _,trivial⟩ (HLe.refl _) ?_
  intro i hi
  have hpl:(encNs ((bs.take i).map kdN)).length=i:=by rw [encNs_length,List.length_map,List.length_take];omega
  refine ww ?_
  refine qAa rfl (fun c3=>?_) (fun c3=>?_)
  ·have hi':i < 3:=by simp at c3;omega
   have hat:=encBs_at (l:=bs) (i:=i) (by omega)
   have hsn:=kdN_snoc (l:=bs) (i:=i) (by omega)
   generalize qAj (bs.getD i [])=bb at hat hsn
   have hbl2:(qJy bs).length=3:=by rw [encBs_length,hbl]
   generalize encNs ((bs.take i).map kdN)=pre at hsn hpl ⊢
   refine ww ?_
   refine wwi hat ?_
   refine ww ?_
   refine qAd (qAh (i:=0) (es2:=[[Dat.int .i64 4,.sl 1 bb,.sl 3 []]]) hT rfl rfl rfl rfl rfl rfl (by show (pre.length+1)*(56+1)≤_;omega)) rfl ?_
   rw [← hsn]
   refine ww ?_
   exact ⟨i+1,hi',by omega,⟨.refl _,.refl _,.refl _,.int (by rw [qAe (by omega)];omega),trivial⟩,HLe.refl _⟩
  have hi':i=3:=by simp at c3;omega
  subst hi'
  rw [List.take_of_length_le (by omega)]
  generalize encNs (bs.map kdN)=pre at hW ⊢
  refine ww ?_
  refine wwc hW ?_
  refine ww ?_
  exact wwr
 ·rw [if_pos (by simpa using hv)]
  generalize vCg s=e at h1 hv ⊢
  obtain ⟨ver,hs,cert,sE,sS⟩:=s
  refine qAb hT Tryz.func99 rfl rfl rfl rfl ?_;intro E hE
  refine ww ?_
  refine wwc h1 ?_
  refine ww ?_
  refine qAa rfl (fun c1=>?_) (fun c1=>?_)
  ·refine ww ?_
   exact wwr
  ·exact absurd (by simpa using c1) hv
theorem wrap18 {k:List Node} (hc:(qDz 2 k 0).1=0) (hs:qAu k≤250) (hw:(wrL k).length≤4000):(qEf 18 k).2=0:=by
 have t1:(qMr 18).2=0:=by decide
 have t3:qCs (qMr 18).1=true:=by decide
 have t4:qBd (qMr 18).1=true:=by decide
 have hwr:qEf 18 k=qBj [.mk (qMr 18).1 [] k]:=by unfold qEf;rw [if_neg (by rw [t1];simp)]
 generalize (qMr 18).1=t at t3 t4 hwr
 have hch:(qDz 1 [.mk t [] k] 0).1=0:=chkL_of fun m hm=>by
  rw [List.mem_singleton.1 hm,qGm,if_neg (by simp [t3]),if_neg (by simp [t4]),if_neg (by omega),chkL_any (1+1) k (0+1) 0]
  exact hc
 have hsz:qAu [.mk t [] k]≤256:=by simp only [qAu,qCg];omega
 have hln:(wrL [.mk t [] k]).length≤4096:=by
  have h3:=wrL_cons_length t [] k []
  have h4:(wrL ([]:List Node)).length=0:=rfl
  simp only [List.length_nil] at h3
  omega
 have hcnt:=(chkL_count 1 [.mk t [] k] 0).1
 rw [hwr]
 unfold qBj
 rw [if_neg (by rw [hch];simp),if_neg (by omega),if_neg (by omega)]
theorem qZv (k:List Node):(qEf 18 k).1.length≤4096:=by
 unfold qEf
 split
 ·simp
 ·unfold qBj
  split
  ·simp
  split
  ·simp
  split
  ·simp
  ·simp only;omega
theorem sigF_ok {e s:Int} (h1:qFx e=true) (h2:qFx s=true):(qTg e s).2=0:=by
 unfold qTg
 rw [if_neg (by simp [h1,h2])]
theorem sigOk_of {n:Nat} (h:n < qG):qFx (n:Int)=true:=by
 have:=qG_val
 exact decide_eq_true (by omega)
theorem encSo_ok {s:Sec} (hv:vCg s=0):(qWy s).2=0∧(qWy s).1.length≤4096:=by
 obtain ⟨v1,v2,v3⟩:=valS_ok hv
 have hf:=msgN_facts v1
 have hml:(qLg s).1.length≤1200:=by
  unfold qLg
  rw [if_neg (by simpa using v1),hf.2.2.2]
  exact hf.2.2.1
 have hcl:s.cert.length≤1024:=by unfold qHx at v2;simp at v2;omega
 obtain ⟨f1,f2,f3,f4⟩:=soN_facts hml hcl (sigB_length s.sE s.sS)
 have hso:soN s=.mk 48 [] ([(qLg s).1,s.cert,qNh s.sE s.sS].map kdN):=rfl
 unfold qWy
 rw [if_neg (by rw [hv];simp),hso]
 exact ⟨wrap18 f4 (by omega) (by omega),qZv _⟩
theorem soMk_val {k:Int} {cert:List UInt8} {gs:List (List UInt8)} {ns:List Int} (ok:FilesOk gs ns) (hl:1≤gs.length∧gs.length≤16) (hc:qHx cert=true) (hk':qNi k=true):vCg (vLc k cert (hk gs ns gs.length))=0:=by
 have hkl:=qIk gs ns gs.length
 have hgo:=vKd ok gs.length (Nat.le_refl _)
 unfold vLc
 generalize hk gs ns gs.length=hs at hkl hgo ⊢
 generalize (qLg ⟨1,hs,cert,0,0⟩).1=M
 have hr:=signS_range k.toNat M
 have e1:qFx (vCo k M)=true:=by unfold vCo;rw [if_pos hk'];exact sigOk_of hr.1
 have e2:qFx (vCn k M)=true:=by unfold vCn;rw [if_pos hk'];exact sigOk_of hr.2
 have hchk:qUh ⟨1,hs,cert,vCo k M,vCn k M⟩=0:=by
  unfold qUh
  simp only
  rw [if_neg (by omega),if_neg (by omega)]
  exact hgo
 unfold vCg
 rw [if_neg (by rw [hchk];simp)]
 simp only
 rw [if_neg (by rw [hc];simp),if_neg (by rw [sigF_ok e1 e2];simp)]
theorem vGw {c:Nal} (h:qCu c=0) (hg:(qTg c.sE c.sS).2=0):(qNp c).2=0∧qHx (qNp c).1=true:=by
 obtain ⟨f1,f2,f3,f4⟩:=treeNl_facts h
 have ht:(qLd c).2=0:=by unfold qLd;rw [if_neg (by rw [h];simp),if_neg (by rw [hg];simp)]
 unfold qNp
 rw [if_neg (by rw [ht];simp),f4]
 refine ⟨rfl,decide_eq_true ⟨?_,by simp only;omega⟩⟩
 show 1≤(wrL [qDa c]).length
 unfold qDa
 simp only [wrL,wrN,List.length_append]
 have:1≤(qLe 48).length:=by decide
 first | omega | (split <;> simp only [List.length_append] <;> omega)
structure StartA (a:Aut):Prop where
 good:GoodA a
 sta:a.sta=[85,84,79]
 roots:a.roots.length=1
 links:a.links.length≤1
 secs:a.secs.length=1
 next:a.next=4
 sk:1≤a.sk∧a.sk < qG
 chk:qCu a.signer=0
 sig:(qTg a.signer.sE a.signer.sS).2=0
 day:a.signer.frm=40000∧a.signer.unt=40090
 nst:a.signer.sta.length≤1000
theorem vLo (seed:List UInt8) (hs:seed.length≤1000):StartA (qIq [85,84,79] seed 40000).1∧(qIq [85,84,79] seed 40000).2=0:=by
 have hin:=beginA_inv [85,84,79] seed 40000 hs
 have hst:qCw [85,84,79]=true:=by decide
 rw [beginA_eq,if_neg (by rw [hst];simp),if_neg (by omega),beginF_eq] at hin ⊢
 simp only at hin ⊢
 have hok:=qSe hst hs
 have hr:=rootF_ok hok (by show 1≤99;omega) 40000
 have hn:(aut1 [85,84,79] seed).next=1:=rfl
 have hl:(aut1 [85,84,79] seed).secs.length=0:=rfl
 rw [hn,hl] at hr
 have hroots:(qCb (aut1 [85,84,79] seed) 40000).roots.length=1:=rfl
 have hlinks:(qCb (aut1 [85,84,79] seed) 40000).links.length=0:=rfl
 have hsta:(qCb (aut1 [85,84,79] seed) 40000).sta=[85,84,79]:=rfl
 generalize qCb (aut1 [85,84,79] seed) 40000=R at hin hr hroots hlinks hsta ⊢
 obtain ⟨hR,hsl,hnx⟩:=hr
 have hsg:=signersF_ok hR (by omega) 40000
 have hgood:GoodA (qAz R 40000):=by
  refine hin.resolve_right fun h=>?_
  have:(qAz R 40000).next=0:=by rw [h];rfl
  omega
 have hsr:=secS_range R.seed
 have hsgn:(qAz R 40000).signer=qBm (R.secs.getD (R.secs.length-1) 0) (qEc R 3 R.secs.length (1000+R.next) (qCn R.seed) 40000 90 3740):=rfl
 have hchk:qCu (qEc R 3 R.secs.length (1000+R.next) (qCn R.seed) 40000 90 3740)=0 :=
  certF_chk hR.sta (by omega) (by omega) (by omega) (by omega) (by omega) hsr (by omega) (by omega)
 refine ⟨⟨hgood,hsta,hroots,by show R.links.length≤1;omega,by rw [hsg.2.1];omega,by rw [hsg.2.2];omega,hsr,?_,?_,?_,?_⟩,trivial⟩
 ·rw [hsgn];exact vDr hchk
 ·rw [hsgn]
  have:=signS_range (R.secs.getD (R.secs.length-1) 0) (wrL [qBk (qEc R 3 R.secs.length (1000+R.next) (qCn R.seed) 40000 90 3740)])
  exact sigF_ok (sigOk_of this.1) (sigOk_of this.2)
 ·rw [hsgn];exact ⟨rfl,rfl⟩
 ·rw [hsgn];show R.sta.length≤1000;rw [hsta];decide
theorem holdR_elem:qDj qRl=true:=by
 unfold qRl
 generalize scN [82,79,79,84,49] 5=n
 have h:qNi (vIr n)=true:=by
  have:=modP_range (x:=n) (n:=1073741788) (by omega)
  unfold vIr
  exact decide_eq_true (by omega)
 unfold qVm
 rw [if_pos h]
 obtain ⟨k,hk1,hk2⟩:=secF_get h
 rw [hk1,Int.toNat_natCast]
 exact pubS_elem hk2
theorem pubI_elem {k:Nat} (h:1≤k∧k < qG):qDj (qVm (k:Int))=true:=by
 unfold qVm
 rw [if_pos (secF_nat h),Int.toNat_natCast]
 exact pubS_elem h
theorem drawS_len16 (s:List UInt8):(qFj s 16).length=16:=by
 rw [drawS_one s 16 (by omega) (by omega),List.length_take,sumW_length];rfl
theorem drawS_len32 (s:List UInt8):(qFj s 32).length=32:=by
 rw [drawS_one s 32 (by omega) (by omega),List.length_take,sumW_length];rfl
theorem keyM_len:keyM.length≤64:=by decide
def qQh (g1 g2 g3 g4 g5 cm so:List UInt8):List Fil:=[⟨257,1,g1,1,0⟩,⟨258,2,g2,1,0⟩,⟨259,3,g3,3,0⟩,⟨270,14,g4,1,0⟩,⟨271,15,g5,1,0⟩,⟨286,30,cm,1,0⟩,⟨285,29,so,1,0⟩]
def qWh (hr:Int) (ac g1 g2 g3 g4 g5 cm so sd:List UInt8) (x4 x5:Nat) (P:Int):Per :=
 ⟨[⟨284,28,ac,0,0⟩],[⟨[160,0,0,2,71,16,1],qQh g1 g2 g3 g4 g5 cm so⟩],keyM,[],[],[],3,10,true,qEs P,x4,x5,[⟨[82,79,79,84,49],hr,15,0,73048⟩],30000,numM,sd⟩
theorem perM_len {hr:Int} {ac g1 g2 g3 g4 g5 cm so sd:List UInt8} {x4 x5:Nat} {P:Int} (ha:ac.length≤4096) (h1:g1.length≤4096) (h2:g2.length≤4096) (h3:g3.length≤4096) (h4:g4.length≤4096) (h5:g5.length≤4096) (h6:cm.length≤4096) (h7:so.length≤4096) (h8:sd.length=32):PerLen (qWh hr ac g1 g2 g3 g4 g5 cm so sd x4 x5 P):=by
 refine ⟨⟨by simp [qWh],fun f hf=>?_⟩,⟨by simp [qWh],fun a ha=>?_,fun a ha f hf=>?_⟩,⟨by simp [qWh],by simp [qWh],by simp [qWh],by show numM.length≤_;decide,by show sd.length≤_;omega⟩,by simp [qWh,qEs],by simp [qWh]⟩
 ·rw [List.mem_singleton.1 hf];simp only;omega
 ·rw [List.mem_singleton.1 ha];simp [qQh]
 ·rw [List.mem_singleton.1 ha] at hf
  simp only [qQh,List.mem_cons,List.not_mem_nil,or_false] at hf
  rcases hf with rfl | rfl | rfl | rfl | rfl | rfl | rfl <;> simp only <;> omega
theorem perM_valid {hr:Int} (hhr:qDj hr=true) {ac g1 g2 g3 g4 g5 cm so sd:List UInt8} {x4 x5:Nat} {P:Int} (ha:ac.length≤4096) (h1:g1.length≤4096) (h2:g2.length≤4096) (h3:g3.length≤4096) (h4:g4.length≤4096) (h5:g5.length≤4096) (h6:cm.length≤4096) (h7:so.length≤4096) (h8:sd.length=32) (k4:1≤x4∧x4 < qG) (k5:1≤x5∧x5 < qG) (hP:qDj P=true):qTb (qWh hr ac g1 g2 g3 g4 g5 cm so sd x4 x5 P)=0:=by
 have hr1:qHw [⟨284,28,ac,0,0⟩]=0:=by
  have:¬ 4096 < ac.length:=by omega
  simp [qHw,qTw,this]
 have hr2:qHw (qQh g1 g2 g3 g4 g5 cm so)=0:=by
  have a1:¬ 4096 < g1.length:=by omega
  have a2:¬ 4096 < g2.length:=by omega
  have a3:¬ 4096 < g3.length:=by omega
  have a4:¬ 4096 < g4.length:=by omega
  have a5:¬ 4096 < g5.length:=by omega
  have a6:¬ 4096 < cm.length:=by omega
  have a7:¬ 4096 < so.length:=by omega
  simp [qHw,qQh,qTw,qLf,a1,a2,a3,a4,a5,a6,a7]
 have hfs:qJr [⟨284,28,ac,0,0⟩] [⟨[160,0,0,2,71,16,1],qQh g1 g2 g3 g4 g5 cm so⟩]=0:=by
  simp [qJr,hr1,hr2,qWu]
 have hq:=qG_val
 have htr:qDw [⟨[82,79,79,84,49],hr,15,0,73048⟩] 30000=0:=by
  have hnm:qId [82,79,79,84,49]=true:=by decide
  simp [qDw,vGa,qJk,hnm,hhr,qWz]
 have hk4:qRi ((x4:Nat):Int)=true:=decide_eq_true (by omega)
 have hk5:qRi ((x5:Nat):Int)=true:=decide_eq_true (by omega)
 unfold qTb qWh
 simp only
 rw [if_neg (by rw [hfs];simp),if_neg (by have:=keyM_len;simp;omega),if_neg (by omega),if_neg (by rw [infDoc_valid hP];simp),if_neg (by rw [hk4,hk5];simp),if_neg (by rw [htr];simp),if_neg (by rw [h8];show ¬ (numM.length < 1∨numM.length > 32∨32 > 64);decide)]
theorem vBg (z:Zon) (hz:vJe z) (h0:validZ z=0) (h3:z.fmt=3):Spec Tryz.prog 93 [zAV z] [] (fun r h'=>r=.tup [.d (.sl 1 (qAj (qPb z).1)),.d (.int .i64 (qPb z).2)]∧h'=[]):=by
 have hb:=qOu z hz h0 h3
 obtain ⟨hl1,hl2⟩:=buildZ_len hz
 unfold qPb
 rw [if_neg (by simp [h0])]
 generalize qCp z=ls at hb hl1 hl2
 have hll:=encSs_length ls
 have hw:=qGv 1 (by omega) [.mk 24351 ls.flatten []] (by simp) ⟨⟨by omega,by omega,by simp,trivial⟩,trivial⟩ (by simp [qAu,qCg]) (by have h1:=wrL_one_le 24351 ls.flatten [];have h2:(wrL ([]:List Node)).length=0:=rfl;omega)
 generalize qEf 1 [.mk 24351 ls.flatten []]=w at hw
 obtain ⟨w,we⟩:=w
 simp only at hw ⊢
 obtain ⟨fmt,kind,state,sur,giv,num,nat,bir,sex,exp,opt,sec⟩:=z
 unfold zAV qLu at hb ⊢
 simp only at hb ⊢
 refine qAb hT Tryz.func93 rfl rfl rfl rfl ?_;intro E hE
 refine ww ?_
 refine wwc hb ?_
 refine ww ?_
 refine qAa rfl (fun c1=>?_) (fun c1=>?_)
 ·exact absurd c1 (by simp)
 refine ww ?_
 refine qAo ?_
 refine qBb 6 1 1 (es:=[]) (.inr ⟨rfl,rfl⟩) rfl ?_
 refine qAq (ι:=Nat) (fun i=>[(17,.d (.sl 1 (qGu ls))),(18,.d (.int .i64 (qGu ls).length)),(6,.sl 1 (qAj (ls.take i).flatten) (.right 1)),(19,.I (i:Int))]) (fun i=>[.dead,.right 1 (qAj (ls.take i).flatten).length]) (fun i=>i≤ls.length) (fun i=>ls.length-i) 0 (by omega) yf ⟨trivial,.refl _,trivial⟩ ?_
 intro i hi
 have hwr:IntKind.i64.wrap ((i:Int)+1)=((i+1:Nat):Int):=by rw [qAe (by omega)];simp
 refine ww ?_
 refine qAa rfl (fun c2=>?_) (fun c2=>?_)
 ·have c2':i < ls.length:=by rw [hll] at c2;simpa using c2
  have hel:(qGu ls)[((i:Int)).toNat]?=some [.str ls[i]]:=by simp [qGu,c2']
  have htk:(ls.take (i+1)).flatten=(ls.take i).flatten++ls[i]:=by rw [List.take_succ_eq_append_getElem c2',List.flatten_append,List.flatten_cons,List.flatten_nil,List.append_nil]
  have hle:(ls.take i).flatten.length+(ls[i]).length≤200000:=by
   have h2:ls.flatten=(ls.take (i+1)).flatten++(ls.drop (i+1)).flatten:=by rw [← List.flatten_append,List.take_append_drop]
   rw [h2,htk,List.length_append,List.length_append] at hl1
   omega
  have heb:qAj (ls.take i).flatten++(ls[i].map fun b=>[Dat.int .u8 (b.toNat:Int)])=qAj (ls.take (i+1)).flatten:=by rw [htk];simp [qAj]
  have hbl:=encB_length (ls.take i).flatten
  generalize ls[i]=x at hel htk hle heb
  refine ww ?_
  refine wwi hel ?_
  refine ww ?_
  refine qAd (qAh (i:=1) hT rfl rfl rfl rfl rfl rfl (by show ((qAj (ls.take i).flatten).length+(x.map fun b=>[Dat.int .u8 (b.toNat:Int)]).length)*(1+1)≤_;rw [hbl,List.length_map];omega)) rfl ?_
  refine ww ?_
  exact ⟨i+1,by omega,by omega,⟨.refl _,.refl _,.eq (congrArg (fun q=>AV.sl 1 q (.right 1)) heb),.int hwr,trivial⟩,⟨trivial,⟨rfl,congrArg List.length heb⟩,trivial⟩⟩
 ·have c2':i=ls.length:=by rw [hll] at c2;simp at c2;omega
  subst c2'
  rw [List.take_length]
  refine ww ?_
  refine wwc hw ?_
  refine ww ?_
  exact wwr
theorem qNk {b:List UInt8} {n:Int} (h:GrpOk b n):∃ K,Spec Tryz.prog 104 [.d (.sl 1 (qAj b))] [] (fun r h'=>r=.tup [.I n,.d (.sl 3 K),.I 0]∧h'=[]):=by
 obtain ⟨k,hk⟩:=h.op
 have:=qUw b (by have:=h.len;omega)
 rw [hk] at this
 exact ⟨encNs k,this⟩
theorem gsM_ok {g1 g2 g3 g4 g5:List UInt8} (o1:GrpOk g1 1) (o2:GrpOk g2 2) (o3:GrpOk g3 3) (o4:GrpOk g4 14) (o5:GrpOk g5 15):FilesOk [g1,g2,g3,g4,g5] [1,2,3,14,15]:=by
 refine ⟨fun i hi=>?_,fun j i hj hi=>?_⟩
 ·have hi:i < 5:=hi
  have:i=0∨i=1∨i=2∨i=3∨i=4:=by omega
  rcases this with rfl | rfl | rfl | rfl | rfl
  ·exact ⟨o1,by decide,by decide⟩
  ·exact ⟨o2,by decide,by decide⟩
  ·exact ⟨o3,by decide,by decide⟩
  ·exact ⟨o4,by decide,by decide⟩
  ·exact ⟨o5,by decide,by decide⟩
 ·have hi:i < 5:=hi
  have:i=0∨i=1∨i=2∨i=3∨i=4:=by omega
  have:j=0∨j=1∨j=2∨j=3∨j=4:=by omega
  rcases this with rfl | rfl | rfl | rfl | rfl <;> rcases ‹i=0∨_› with rfl | rfl | rfl | rfl | rfl <;> first | omega | decide
theorem peC_le (hr:Int) (ac g1 g2 g3 g4 g5 cm so sd:List UInt8) (x4 x5:Nat) (P:Int) :
  AV.le (.agg (peC hr (.sl 1 (qAj sd)) (.int .i64 (x4:Int)) (.int .i64 (x5:Int)) (.str keyM) (.sl 5 (qFt (qEs P))) (.sl 5 [[.int .i64 284,.int .i64 28,.sl 1 (qAj ac),.int .i64 0,.int .i64 0]]) (.sl 2 [[.sl 1 (qAj [160,0,0,2,71,16,1]),.sl 5 (flK (qAj g1) (qAj g2) (qAj g3) (qAj g4) (qAj g5) (qAj cm) (qAj so) 7)]])))
   (qRe (qWh hr ac g1 g2 g3 g4 g5 cm so sd x4 x5 P)):=by
 unfold qRe qKo peC qWh
 exact AV.le.agg ⟨.refl _,.refl _,.refl _,.dat,.dat,.dat,.refl _,.refl _,.refl _,.refl _,.refl _,.refl _,.refl _,.refl _,.refl _,.refl _,trivial⟩
theorem vJy (hr:Int) (hhr:qDj hr=true) {a:Aut} (h:StartA a):∃ (b:Aut) (p:Per) (M0 M1:List (List Dat)),p.apps.length=1 ∧
  Spec Tryz.prog 11 [qLl a,.agg (zQ hr),.I 40010] [] (fun r h'=>r=.tup [qLl b,.agg (vAz (.sl 1 (qGu (qCp zM))) (.str keyM) p M0 M1),.I 0]∧h'=[]):=by
 have hsd:a.seed.length≤1000:=h.good.ok.seed
 have hrv:a.rev.length=0:=by rw [h.good.rev];rfl
 have hlk:=h.links
 have hrt:=h.roots
 have hsc:=h.secs
 have hdf:=h.good.defs
 have hdy:=h.day
 have d0:=vAy hr a (by omega)
 have l1:=drawS_len16 a.seed
 have l2:=drawS_len16 (qBe a.seed)
 have l3:=drawS_len32 (qBe (qBe a.seed))
 have k4:=secS_range (qBe (qBe (qBe a.seed)))
 have k5:=secS_range (qBe (qBe (qBe (qBe a.seed))))
 generalize qFj a.seed 16=fa at d0 l1
 generalize qFj (qBe a.seed) 16=fi at d0 l2
 generalize qFj (qBe (qBe a.seed)) 32=sd at d0 l3
 generalize qCn (qBe (qBe (qBe a.seed)))=x4 at d0 k4
 generalize qCn (qBe (qBe (qBe (qBe a.seed))))=x5 at d0 k5
 have b1:({ a with seed:=seed5 a.seed }:Aut).sta=[85,84,79]:=h.sta
 have b2:qCu ({ a with seed:=seed5 a.seed }:Aut).signer=0:=h.chk
 have b3:(qTg ({ a with seed:=seed5 a.seed }:Aut).signer.sE ({ a with seed:=seed5 a.seed }:Aut).signer.sS).2=0:=h.sig
 have b4:1≤({ a with seed:=seed5 a.seed }:Aut).sk∧({ a with seed:=seed5 a.seed }:Aut).sk < qG:=h.sk
 have b5:({ a with seed:=seed5 a.seed }:Aut).defs=[]:=h.good.defs
 have b6:({ a with seed:=seed5 a.seed }:Aut).signer.sta.length≤1000:=h.nst
 clear h
 generalize ({ a with seed:=seed5 a.seed }:Aut)=b at d0 b1 b2 b3 b4 b5 b6
 have s1:=qWd hr (.sl 1 (qAj fa)) (.sl 1 (qAj fi)) (.sl 1 (qAj sd)) (.int .i64 (x4:Int)) (.int .i64 (x5:Int)) b b1
 rw [zDM_eq] at s1
 have s2:=qWc hr (.sl 1 (qAj fa)) (.sl 1 (qAj fi)) (.sl 1 (qAj sd)) (.int .i64 (x5:Int)) (x4:Int) (secF_nat k4) (.sl 1 (qGu (qCp zM))) (.str keyM) b zDM rfl
 have e4:=pubI_elem k4
 have e5:=pubI_elem k5
 have hP:=qHm (x5:Int)
 rw [show qPd (x5:Int)=0 by unfold qPd;rw [if_pos (secF_nat k5)]] at hP
 generalize qVm (x4:Int)=P4 at s2 e4
 generalize qVm (x5:Int)=P5 at hP e5
 have hz:=vBg zM zM_len zM_valid rfl
 have z0:=zM_open
 have hb2:=bioP_spec 2 (by omega) [vAu fa] (by simp)
 have hb3:=bioP_spec 3 (by omega) [vAs fi] (by simp)
 have f0:=faceM_open l1
 have f1:=fingM_open l2
 have hi:=infosP_spec (qEs P4) (by simp [qEs])
 have i0:=infDoc_open e4
 have hA:=qXx P5
 have a0:=vHx e5
 rw [z0.1] at hz
 rw [f0.1] at hb2
 rw [f1.1] at hb3
 rw [i0.1] at hi
 rw [a0.1] at hA
 have o1:=z0.2
 have o2:=f0.2
 have o3:=f1.2
 have o4:=i0.2
 have o5:=a0.2
 clear z0 f0 f1 i0 a0
 generalize (qPb zM).1=g1 at hz o1
 generalize (vBd 2 [vAu fa]).1=g2 at hb2 o2
 generalize (vBd 3 [vAs fi]).1=g3 at hb3 o3
 generalize (infosF (qEs P4)).1=g4 at hi o4
 generalize (qIr P5).1=g5 at hA o5
 have s3:=qRr hr (qAj fa) (qAj fi) (qFt (qEs P4)) (qAj g1) (qAj g2) (qAj g3) (qAj g4) (qAj g5) (.sl 1 (qAj sd)) (.int .i64 (x4:Int)) (x5:Int) P5 (.sl 1 (qGu (qCp zM))) (.str keyM) b hz hb2 hb3 hi hP hA
 have hN:=nEncode_spec b.signer (by omega)
 have n0:=vGw b2 b3
 rw [n0.1] at hN
 have n1:=n0.2
 generalize (qNp b.signer).1=ct at hN n1
 have hfo:=gsM_ok o1 o2 o3 o4 o5
 have hM:=soMake_spec (b.sk:Int) ct [g1,g2,g3,g4,g5] [1,2,3,14,15] hfo (by simp) (secF_nat b4) n1
 have v0:=soMk_val hfo (by simp) n1 (secF_nat b4)
 have v1:(vLc (b.sk:Int) ct (hk [g1,g2,g3,g4,g5] [1,2,3,14,15] [g1,g2,g3,g4,g5].length)).hs.length≤1000000:=by
  show (hk _ _ _).length≤_
  rw [qIk];simp
 generalize vLc (b.sk:Int) ct (hk [g1,g2,g3,g4,g5] [1,2,3,14,15] [g1,g2,g3,g4,g5].length)=S at hM v0 v1
 have hS:=soEncode_spec S v1
 have w0:=encSo_ok v0
 rw [w0.1] at hS
 have w1:=w0.2
 generalize (qWy S).1=so at hS w1
 have s4:=vAb hr (.sl 1 (qAj fa)) (.sl 1 (qAj fi)) (.sl 1 (qAj sd)) (.int .i64 (x4:Int)) (.int .i64 (x5:Int)) (.sl 1 (qGu (qCp zM))) (.str keyM) (.sl 5 (qFt (qEs P4))) (.int .i64 S.ver) (.sl 2 (qFi S.hs)) (.sl 1 (qAj S.cert)) (.int .i64 S.sE) (.int .i64 S.sS) (qAj g1) (qAj g2) (qAj g3) (qAj g4) (qAj g5) (qAj ct) (qAj so) b hN hM hS
 have hop:=vAh hr P4 (.sl 1 (qAj fa)) (.sl 1 (qAj fi)) (.sl 1 (qAj sd)) (.int .i64 (x4:Int)) (.int .i64 (x5:Int)) (.sl 1 (qGu (qCp zM))) (.str keyM) (qAj g1) (qAj g2) (qAj g3) (qAj g4) (qAj g5) (qAj so) b
 rw [infK_doc] at hop
 have hI:=encIP_spec inf2 (by decide)
 have i1:=encI_ok vAo (by decide)
 rw [i1.1] at hI
 have i2:=i1.2
 generalize (qUb inf2).1=ac at hI i2
 have hCm:=qXv [1,2,3,14,15] (by decide)
 have c1:=comM
 rw [c1.1] at hCm
 have c2:=c1.2
 generalize (qLk [1,2,3,14,15]).1=cm at hCm c2
 obtain ⟨K1,p1⟩:=qNk o1
 obtain ⟨K2,p2⟩:=qNk o2
 obtain ⟨K3,p3⟩:=qNk o3
 obtain ⟨K4,p4⟩:=qNk o4
 obtain ⟨K5,p5⟩:=qNk o5
 have s5:=qVt hr (.sl 1 (qAj fa)) (.sl 1 (qAj fi)) (.sl 1 (qAj sd)) (.int .i64 (x4:Int)) (.int .i64 (x5:Int)) (.sl 1 (qGu (qCp zM))) (.str keyM) (.sl 5 (qFt (qEs P4))) (opK 5) (qAj g1) (qAj g2) (qAj g3) (qAj g4) (qAj g5) K1 K2 K3 K4 K5 (qAj ac) (qAj cm) (qAj so) b hop hI p1 p2 p3 p4 p5 hCm
 have s6:=vAg hr (.sl 1 (qAj fa)) (.sl 1 (qAj fi)) (.sl 1 (qAj sd)) (.int .i64 (x4:Int)) (.int .i64 (x5:Int)) (.sl 1 (qGu (qCp zM))) (.str keyM) (.sl 5 (qFt (qEs P4))) (.sl 1 (qAj so)) (.sl 5 [[.int .i64 284,.int .i64 28,.sl 1 (qAj ac),.int .i64 0,.int .i64 0]]) (.sl 2 [[.sl 1 (qAj [160,0,0,2,71,16,1]),.sl 5 (flK (qAj g1) (qAj g2) (qAj g3) (qAj g4) (qAj g5) (qAj cm) (qAj so) 7)]]) (qAj g1) (qAj g2) (qAj g3) (qAj g4) (qAj g5) b
 have hle:=peC_le hr ac g1 g2 g3 g4 g5 cm so sd x4 x5 P4
 have hpl:=perM_len (hr:=hr) (x4:=x4) (x5:=x5) (P:=P4) i2 o1.len o2.len o3.len o4.len o5.len c2 w1 l3
 have hpv:=perM_valid hhr i2 o1.len o2.len o3.len o4.len o5.len c2 w1 l3 k4 k5 e4
 have hap:(qWh hr ac g1 g2 g3 g4 g5 cm so sd x4 x5 P4).apps.length=1:=rfl
 have hho:∀ t,t∈(qWh hr ac g1 g2 g3 g4 g5 cm so sd x4 x5 P4).tps→t.holder.length≤1000000:=fun t ht=>by
  rw [List.mem_singleton.1 ht];simp
 generalize qWh hr ac g1 g2 g3 g4 g5 cm so sd x4 x5 P4=p at hle hpl hpv hap hho
 have s7:=newChip_spec p hpl hho hpv
 exact ⟨b,p,_,_,hap,vAk hr (.sl 1 (qAj fa)) (.sl 1 (qAj fi)) (.sl 1 (qAj sd)) (.int .i64 (x4:Int)) (.int .i64 (x5:Int)) (.sl 1 (qGu (qCp zM))) (.str keyM) (.sl 5 (qFt (qEs P4))) (.sl 5 [[.int .i64 284,.int .i64 28,.sl 1 (qAj ac),.int .i64 0,.int .i64 0]]) (.sl 2 [[.sl 1 (qAj [160,0,0,2,71,16,1]),.sl 5 (flK (qAj g1) (qAj g2) (qAj g3) (qAj g4) (qAj g5) (qAj cm) (qAj so) 7)]]) (qAj g1) (qAj g2) (qAj g3) (qAj g4) (qAj g5) (qAj so) _ _ a b p hdf b5 (by omega) (by omega) (by omega) d0 s1 s2 s3 s4 s5 s6 hle s7⟩
theorem qUm:Spec Tryz.prog 7 [] [] (fun r h'=>r=.d (.bool true)∧h'=[]):=by
 have hb:=qLr [85,84,79] [115,101,101,100] 40000 (by simp) (by simp)
 obtain ⟨hs,he⟩:=vLo [115,101,101,100] (by simp)
 rw [he] at hb
 generalize (qIq [85,84,79] [115,101,101,100] 40000).1=a at hb hs
 have hg:=Good0
 have hm:=vJy qRl holdR_elem hs
 generalize qRl=hr at hg hm
 obtain ⟨b,p,M0,M1,hap,hm⟩:=hm
 have hu:=qLr [117,116,111,112,105,97] [] 40000 (by simp) (by simp)
 rw [show qIq [117,116,111,112,105,97] [] 40000=(aut0,60) by rw [beginA_eq,if_pos (by decide)]] at hu
 have hll:(qGu (qCp zM)).length=2:=by rw [encSs_length];exact zM_lines.1
 generalize qGu (qCp zM)=LN at hll hm
 generalize keyM=KM at hm
 have hrl:(qAm a.roots).length=1:=by simp only [qAm,List.length_map];exact hs.roots
 have hnx:=hs.next
 have hal:(qBz p.apps).length=1:=by rw [encApks_length];exact hap
 clear hs hap he
 obtain ⟨sta,roots,links,secs,signer,lister,sk,lk,next,list,rev,defs,seed⟩:=a
 simp only at hrl hnx
 subst hnx
 refine qAb hT Tryz.func7 rfl rfl rfl rfl ?_;intro E hE
 refine qAo (qAo (qAo (qAo (qAo ?_))))
 refine qAl (qAf ?_)
 refine wws ?_
 refine qAl (qAf ?_)
 refine qAd (buildCB_ok (i0:=0) (s:=[115,101,101,100]) hT rfl rfl rfl) rfl ?_
 refine qAd (markCB_ok hT rfl rfl rfl rfl rfl) rfl ?_
 refine wwc hb ?_
 refine wk hT rfl rfl ?_
 refine wk hT rfl rfl ?_
 refine wk hT rfl rfl ?_
 refine qAd (allocAt_ok (i0:=1) (i:=tiA) hT rfl tiA_find rfl) rfl ?_
 refine qDp (qBq (i:=1) (off:=0) hT rfl rfl rfl (S38 (C:=qAi ⟨sta,roots,links,secs,signer,lister,sk,lk,4,list,rev,defs,seed⟩) rfl rfl)) (forceS_eq _ _) ?_
 refine wk hT rfl rfl ?_
 refine qDq ?_
 refine qAp (l:=[(1,.ptr 1 0),(2,.I 0)]) (h':=[.dead,.row (qAi ⟨sta,roots,links,secs,signer,lister,sk,lk,4,list,rev,defs,seed⟩),.room,.room,.room]) yf ⟨trivial,ObLe.refl _,ObLe.refl _,ObLe.refl _,ObLe.refl _,trivial⟩ ?_
 refine qAl (qBh (fun i=>bif Nat.beq i 0 then [1] else bif Nat.beq i 7||Nat.beq i 9 then [2] else bif Nat.beq i 8||Nat.beq i 10 then [3] else []) (fun i=>bif Nat.beq i 7||Nat.beq i 9 then [2] else bif Nat.beq i 8||Nat.beq i 10 then [3] else []) mixed (by kernel_rfl) ?_)
 refine qAk (v:=.agg (qAi ⟨sta,roots,links,secs,signer,lister,sk,lk,4,list,rev,defs,seed⟩)) (os:=[]) (fun k hk1 hk2=>qDg (i:=1) (off:=0) hT rfl rfl ((hk2 1 List.mem_cons_self).trans rfl) (L38 (C:=qAi ⟨sta,roots,links,secs,signer,lister,sk,lk,4,list,rev,defs,seed⟩) rfl)) rfl ?_
 refine wwdc hg ?_
 refine wwdc hm ?_
 refine qBt hT (fun _=>rfl) rfl rfl True.intro ?_
 refine qBt hT (fun _=>rfl) rfl rfl True.intro ?_
 refine qBt hT (fun _=>rfl) rfl rfl True.intro ?_
 refine qBt hT (fun _=>rfl) rfl rfl True.intro ?_
 refine qAk (v:=.ptr 2 0) (os:=[.row (qIb [] 0 (.sl 1 [] .full))]) (fun kk hk1 hk2=>allocAt_ok (i0:=2) (i:=tiA) hT rfl tiA_find ((hk2 2 List.mem_cons_self).trans rfl)) rfl ?_
 refine qAk (v:=.ptr 3 0) (os:=[.row qRp]) (fun kk hk1 hk2=>allocAt_ok (i0:=3) (i:=tiD) hT rfl tiD_find ((hk2 3 List.mem_cons_self).trans rfl)) rfl ?_
 refine qAk (v:=.any) (os:=[.row (qAi b)]) (fun k hk1 hk2=>qBq (i:=2) (off:=0) hT rfl rfl ((hk2 2 List.mem_cons_self).trans rfl) (S38 (C:=qAi b) rfl rfl)) rfl ?_
 refine qAk (v:=.any) (os:=[.row (vAz (.sl 1 LN) (.str KM) p M0 M1)]) (fun k hk1 hk2=>qBq (i:=3) (off:=0) hT rfl rfl ((hk2 3 List.mem_cons_self).trans rfl) (S62 (C:=vAz (.sl 1 LN) (.str KM) p M0 M1) rfl rfl)) rfl ?_
 refine wwg ?_
 refine qAp (l:=[(1,.ptr 1 0),(2,.I 0),(4,.ptr 3 0),(5,.I 0)]) (h':=[.dead,.row (qAi ⟨sta,roots,links,secs,signer,lister,sk,lk,4,list,rev,defs,seed⟩),.dead,.row (vAz (.sl 1 LN) (.str KM) p M0 M1),.room]) yf ⟨trivial,ObLe.refl _,trivial,ObLe.refl _,ObLe.refl _,trivial⟩ ?_
 refine qAl (qAf ?_)
 refine wwc hu ?_
 refine wk hT rfl rfl ?_
 refine wk hT rfl rfl ?_
 refine wk hT rfl rfl ?_
 refine qAd (allocAt_ok (i0:=4) (i:=tiA) hT rfl tiA_find rfl) rfl ?_
 refine qDp (qBq (i:=4) (off:=0) hT rfl rfl rfl (S38 (C:=qAi aut0) rfl rfl)) (forceS_eq _ _) ?_
 refine wk hT rfl rfl ?_
 refine qDq ?_
 refine qAp (l:=[(1,.ptr 1 0),(2,.I 0),(4,.ptr 3 0),(5,.I 0),(7,.I 60)]) (h':=[.dead,.row (qAi ⟨sta,roots,links,secs,signer,lister,sk,lk,4,list,rev,defs,seed⟩),.dead,.row (vAz (.sl 1 LN) (.str KM) p M0 M1),.dead]) yf ⟨trivial,ObLe.refl _,trivial,ObLe.refl _,trivial,trivial⟩ ?_
 refine qAl (qAf ?_)
 refine wws ?_
 refine ww ?_
 refine rq ⟨rfl,rfl⟩ rfl (.bool ?_)
 simp only [hrl,hll,hal]
 rfl
theorem encNls_app (a b:List Nal):qAm (a++b)=qAm a++qAm b:=by simp [qAm]
theorem Tru.roll {a:Aut} {day:Int} (h:Tru a day):RollOk a:=h.good.roll
theorem issuanceTrusted_spec (l:List Int):Spec Tryz.prog 5 [.d (.sl 1 (qFd l))] [] (fun r h'=>r=.d (.bool true)∧h'=[]):=by
 have hli:=vBm l
 have hns:qHb .i64 l=qFd l:=rfl
 rw [hns] at hli
 have hawk:=qUm
 have hb:=qLr utoS [1,2] 40000 (by decide) (by simp)
 obtain ⟨a,he,ht,hn1⟩:=vEq (seed:=[1,2]) (by simp)
 rw [he] at hb
 simp only at hb
 clear he
 unfold utoS at hb
 refine qAb hT Tryz.func5 rfl rfl rfl rfl ?_;intro E hE
 refine qAo (qAo ?_)
 refine ww ?_
 refine wwc hli ?_
 refine ww ?_
 refine qAa rfl (fun c1=>?_) (fun c1=>?_)
 ·refine ww ?_
  refine wwc hawk ?_
  refine ww ?_
  exact wwr
 have hl80:l.length≤80:=by simpa using c1
 have hlen:l.length≤1000000:=by omega
 have hro:=qUr l hlen
 rw [hns] at hro
 refine qBw ?_
 refine qAl (qAf ?_)
 refine qAd (buildSl_ok hT rfl rfl) rfl ?_
 refine wwc hb ?_
 refine wk hT rfl rfl ?_
 refine wk hT rfl rfl ?_
 refine wk hT rfl rfl ?_
 refine qAd (allocAt_ok (i0:=0) (i:=tiA) hT rfl tiA_find rfl) rfl ?_
 refine qDp (qBq (i:=0) (off:=0) hT rfl rfl rfl (S38 (C:=qAi a) rfl rfl)) (forceS_eq _ _) ?_
 refine wk hT rfl rfl ?_
 refine qDq ?_
 refine qAp (l:=[(0,.d (.sl 1 (qFd l))),(3,.ptr 0 0),(4,.I 0)]) (h':=[.row (qAi a),.room]) yf (HLe.refl _) ?_
 refine qAl (qAf ?_)
 refine wws ?_
 refine qAl (qAf ?_)
 refine wws ?_
 refine qAd (qBs (v:=.ptr 1 0) (H':=[.row (qAi a),.row (dice l 0)]) rfl rfl hro [1] (by decide) rfl rfl rfl rfl rfl rfl) rfl ?_
 refine wws ?_
 refine qAl ?_
 have hq:=qOq l 0 6 (by omega) hlen (by omega)
 have hqr:=nextV_range (l:=l) (a:=0) (n:=6) (by omega)
 generalize qPf l 0 6=v0 at hq hqr
 obtain ⟨i0,rfl⟩:=Int.eq_ofNat_of_zero_le hqr.1
 refine qAl (qAf ?_)
 refine wws ?_
 refine qAd (qBs (v:=.I (i0:Int)) (H':=[.row (qAi a),.row (dice l (qNo l 0))]) rfl rfl hq [1] (by decide) rfl rfl rfl rfl rfl rfl) rfl ?_
 refine wws ?_
 refine qDt ?_
 refine qBg (ι:=Nat×Nat×Int×Aut) (fun x=>[(3,.ptr 0 0),(4,.I 0),(5,.I x.2.2.1),(6,.ptr 1 0),(7,.I (x.1:Int))]) (fun x=>[.row (qAi x.2.2.2),.row (dice l x.2.1)])
  (fun x=>Tru x.2.2.2 x.2.2.1∧40000≤x.2.2.1∧x.2.2.1+60*x.1≤40360∧x.2.2.2.secs.length+x.1≤6∧x.2.1≤l.length) (fun x=>x.1) (i0,qNo l 0,40000,a) ⟨ht,by simp only;omega,by simp only;omega,by simp only;omega,nextA_le (by omega)⟩ yf (HLe.refl _) ?_
 rintro ⟨i,p,day,A⟩ ⟨hA,hd1,hd2,hi6,hp⟩
 simp only at hA hd1 hd2 hi6 hp ⊢
 clear hb ht hq hro hli hn1 hqr hns
 refine ww ?_
 refine qAa rfl (fun c2=>?_) (fun c2=>?_)
 ·have c2':1≤i:=by simp at c2;omega
  have hq:=qOq l p 60 (by omega) hlen hp
  have hqr:=nextV_range (l:=l) (a:=p) (n:=60) (by omega)
  generalize qPf l p 60=v at hq hqr
  have hwd:IntKind.i64.wrap (day+v)=day+v:=qAe (by omega)
  have hwi:IntKind.i64.wrap ((i:Int)-1)=((i-1:Nat):Int):=by rw [qAe (by omega)];omega
  obtain ⟨B,hB,hBt,hBn⟩:=vGl hA (day:=day+v) (by omega) (by omega)
  have hr:=qSl A (.inl hA.roll) (by have:=hA.good.n;omega) (day+v)
  rw [hB] at hr
  simp only at hr
  refine qBw ?_
  refine qAo ?_
  refine qAl ?_
  refine qDt ?_
  refine qAl (qAf ?_)
  refine wws ?_
  refine qAd (qBs (v:=.I v) (H':=[.row (qAi A),.row (dice l (qNo l p)),.room]) rfl rfl hq [1] (by decide) rfl rfl rfl rfl rfl rfl) rfl ?_
  refine wws ?_
  rw [hwd]
  refine wws ?_
  refine qAl (qAf ?_)
  refine qAd (qDg (i:=0) (off:=0) hT rfl rfl rfl (L38 (C:=qAi A) rfl)) rfl ?_
  refine wk hT rfl rfl ?_
  refine wwc hr ?_
  refine wk hT rfl rfl ?_
  refine wk hT rfl rfl ?_
  refine wk hT rfl rfl ?_
  refine qAd (allocAt_ok (i0:=2) (i:=tiA) hT rfl tiA_find rfl) rfl ?_
  refine qDp (qBq (i:=2) (off:=0) hT rfl rfl rfl (S38 (C:=qAi B) rfl rfl)) (forceS_eq _ _) ?_
  refine wk hT rfl rfl ?_
  refine qDq ?_
  refine qAp (l:=[(3,.ptr 0 0),(4,.I 0),(5,.I (day+v)),(6,.ptr 1 0),(7,.I (i:Int)),(8,.ptr 2 0),(9,.I 0)]) (h':=[.row (qAi A),.row (dice l (qNo l p)),.row (qAi B)]) yf (HLe.refl _) ?_
  refine qAl (qAl (qAf ?_))
  refine wws ?_
  refine qAa rfl (fun c3=>?_) (fun c3=>?_)
  ·simp at c3
  refine qBw ?_
  refine qAf ?_
  refine qAd (qDg (i:=2) (off:=0) hT rfl rfl rfl (L38 (C:=qAi B) rfl)) rfl ?_
  refine qDp (qBq (i:=0) (off:=0) hT rfl rfl rfl (S38 (C:=qAi B) rfl rfl)) (forceS_eq _ _) ?_
  refine ww ?_
  exact ⟨(i-1,qNo l p,day+v,B),[_],⟨hBt,by simp only;omega,by simp only;omega,by simp only;omega,nextA_le hp⟩,by simp only;omega,⟨.refl _,.refl _,.refl _,.refl _,.int hwi,trivial⟩,HLe.refl _,Env.below_mono hE (by simp),rfl,rfl⟩
 have hi0:i=0:=by simp at c2;omega
 subst hi0
 have hnr:=hA.nr
 have hnl:=hA.nl
 have hgn:=hA.good.n
 obtain ⟨r0,R1,hroots⟩:∃ r0 R1,A.roots=r0::R1:=by
  cases hr:A.roots with
  | nil=>rw [hr] at hnr;simp at hnr;omega
  | cons x y=>exact ⟨x,y,rfl⟩
 have hr0:A.roots[0]?=some r0:=by rw [hroots];rfl
 obtain ⟨o1,s1⟩:=hA.signer
 obtain ⟨o2,s2⟩:=hA.lister
 have hp1:=vDe hA (by omega) hr0 s1 (by decide)
 have hp2:=vDe hA (by omega) hr0 s2 (by decide)
 obtain ⟨rl,hrl⟩:∃ rl,A.roots[A.roots.length-1]?=some rl:=⟨A.roots[A.roots.length-1]'(by omega),List.getElem?_eq_getElem _⟩
 have hrr:=rootR_of hA hrl
 have hrx:=encNls_get? hrl
 have hdist:∀ (i k:Nat) (x y:Nal),k < i→(qPk A)[i]?=some x→(qPk A)[k]?=some y→x.num≠y.num:=fun i k x y hk hx hy=>by
  rw [vEu hA hx,vEu hA hy]
  have:=(List.getElem?_eq_some_iff.1 hx).1
  rw [vEv hA] at this
  exact serNo_ne hgn.1 this hk
 have hall:qAm (qPk A)=qAm A.roots++qAm A.links++[qCt A.signer,qCt A.lister]:=by
  unfold qPk
  rw [encNls_app,encNls_app]
  rfl
 have hln1:((qAm (r0::A.links++[A.signer])).length:Int)=(A.secs.length:Int)+1:=by
  rw [encNls_len2];simp;omega
 have hln2:((qAm (r0::A.links++[A.lister])).length:Int)=(A.secs.length:Int)+1:=by
  rw [encNls_len2];simp;omega
 have hsl:((encNs' A.secs).length:Int)=(A.secs.length:Int):=by rw [encNs'_len]
 have hw1:IntKind.i64.wrap (((encNs' A.secs).length:Int)+1)=(A.secs.length:Int)+1:=by rw [hsl,qAe (by omega)]
 have hrlen:=encNls_len2 A.roots
 have hllen:=encNls_len2 A.links
 have hlall:=encNls_len2 (qPk A)
 have hlall2:=vEv hA
 have htk:(qAm A.roots).take 1=qAm [r0]:=by rw [hroots];rfl
 have hwl:IntKind.i64.wrap (((qAm A.roots).length:Int)-1)=((A.roots.length-1:Nat):Int):=by rw [hrlen,qAe (by omega)];omega
 generalize qAm (r0::A.links++[A.signer])=P1 at hp1 hln1
 generalize qAm (r0::A.links++[A.lister])=P2 at hp2 hln2
 generalize qPk A=ALL at hdist hall hlall hlall2
 clear s1 s2 hroots hr0 hA hrl
 obtain ⟨sta,roots,links,secs,signer,lister,sk,lk,next,list,rev,defs,seed⟩:=A
 simp only at *
 refine ww ?_
 refine qAa rfl (fun c3=>?_) (fun c3=>?_)
 ·rw [hrlen] at c3
  have c3:(roots.length:Int)=0:=by simpa only [beq_iff_eq] using c3
  omega
 refine qBw ?_
 refine qAl (wx mixed ?_)
 refine wws ?_
 refine wwc hp1 ?_
 refine ww ?_
 refine wwc hp2 ?_
 refine ww ?_
 refine qAa rfl (fun c4=>?_) (fun c4=>?_)
 ·rw [hw1,hln1,hln2] at c4
  simp at c4
 refine qBw ?_
 refine qAo ?_
 refine qAl (qBh (fun i=>bif Nat.beq i 3||Nat.beq i 6||Nat.beq i 12 then [2] else [0]) (fun i=>bif Nat.beq i 3||Nat.beq i 6||Nat.beq i 12 then [2] else []) mixed (by kernel_rfl) ?_)
 refine qAk (os:=[]) (fun k hk1 hk2=>buildSl_ok hT rfl rfl) rfl ?_
 refine wwg ?_
 refine qAk (v:=.sl 11 (qAm roots) (.right 2)) (os:=[.right 11 (qAm roots).length]) (fun k hk1 hk2=>qDm (i:=2) hT rfl rfl rfl (.inl rfl) (by simp) ((hk2 2 List.mem_cons_self).trans rfl) rfl (by show (qAm roots).length*(96+1)≤_;rw [hrlen];omega)) rfl ?_
 refine wwg ?_
 refine qAk (v:=.sl 11 (qAm roots++qAm links) (.right 2)) (os:=[.right 11 (qAm roots++qAm links).length]) (fun k hk1 hk2=>qAh (i:=2) hT rfl rfl rfl rfl ((hk2 2 List.mem_cons_self).trans rfl) rfl (by show ((qAm roots).length+(qAm links).length)*(96+1)≤_;rw [hrlen,hllen];omega)) rfl ?_
 refine wwg ?_
 refine qAk (os:=[]) (fun k hk1 hk2=>buildSl_ok hT rfl rfl) rfl ?_
 refine qAk (v:=.sl 11 (qAm roots++qAm links++[qCt signer,qCt lister]) (.right 2)) (os:=[.right 11 (qAm roots++qAm links++[qCt signer,qCt lister]).length]) (fun k hk1 hk2=>qAh (i:=2) hT rfl rfl rfl rfl ((hk2 2 List.mem_cons_self).trans rfl) rfl (by show ((qAm roots++qAm links).length+2)*(96+1)≤_;rw [List.length_append,hrlen,hllen];omega)) rfl ?_
 refine wwg ?_
 refine qAp (l:=[(3,.ptr 0 0),(14,.d (.sl 11 (qAm ALL)))]) (h':=[.row (qAi ⟨sta,roots,links,secs,signer,lister,sk,lk,next,list,rev,defs,seed⟩),.dead,.dead]) ⟨.refl _,.dat' hall.symm,trivial⟩ ⟨ObLe.refl _,trivial,trivial,trivial⟩ ?_
 refine ww ?_
 refine qBg (ι:=Nat) (fun i=>[(3,.ptr 0 0),(14,.d (.sl 11 (qAm ALL))),(15,.I (i:Int))]) (fun _=>[.row (qAi ⟨sta,roots,links,secs,signer,lister,sk,lk,next,list,rev,defs,seed⟩),.dead,.dead]) (fun i=>i≤ALL.length) (fun i=>ALL.length-i) 0 (by omega) yf (HLe.refl _) ?_
 intro i hi
 have hwi:IntKind.i64.wrap ((i:Int)+1)=((i+1:Nat):Int):=by rw [qAe (by omega)];simp
 refine ww ?_
 refine qAa rfl (fun c5=>?_) (fun c5=>?_)
 ·have c5':i < ALL.length:=by rw [hlall] at c5;simpa using c5
  obtain ⟨x,hx⟩:∃ x,ALL[i]?=some x:=⟨ALL[i],List.getElem?_eq_getElem _⟩
  have hex:(qAm ALL)[((i:Int)).toNat]?=some (qCt x):=by rw [Int.toNat_natCast];exact encNls_get? hx
  refine ww ?_
  refine qBg (ι:=Nat) (fun k=>[(3,.ptr 0 0),(14,.d (.sl 11 (qAm ALL))),(15,.I (i:Int)),(16,.I (k:Int))]) (fun _=>[.row (qAi ⟨sta,roots,links,secs,signer,lister,sk,lk,next,list,rev,defs,seed⟩),.dead,.dead]) (fun k=>k≤i) (fun k=>i-k) 0 (by omega) yf (HLe.refl _) ?_
  intro k hk
  have hwk:IntKind.i64.wrap ((k:Int)+1)=((k+1:Nat):Int):=by rw [qAe (by omega)];simp
  refine ww ?_
  refine qAa rfl (fun c6=>?_) (fun c6=>?_)
  ·have c6':k < i:=by simpa using c6
   obtain ⟨y,hy⟩:∃ y,ALL[k]?=some y:=⟨ALL[k]'(by omega),List.getElem?_eq_getElem _⟩
   have hey:(qAm ALL)[((k:Int)).toNat]?=some (qCt y):=by rw [Int.toNat_natCast];exact encNls_get? hy
   have hne:=hdist i k x y c6' hx hy
   obtain ⟨x1,x2,x3,x4,x5,x6,x7,x8,x9,x10,x11⟩:=x
   obtain ⟨y1,y2,y3,y4,y5,y6,y7,y8,y9,y10,y11⟩:=y
   unfold qCt at hex hey
   simp only at hex hey hne
   refine ww ?_
   refine wwi hex ?_
   refine ww ?_
   refine wwi hey ?_
   refine ww ?_
   refine qAa rfl (fun c7=>?_) (fun c7=>?_)
   ·simp at c7;exact absurd c7 hne
   refine ww ?_
   exact ⟨k+1,[],by omega,by omega,⟨.refl _,.refl _,.refl _,.int hwk,trivial⟩,HLe.refl _,Env.below_mono hE (by simp),rfl,rfl⟩
  ·refine ww ?_
   exact ⟨i+1,[],by omega,by omega,⟨.refl _,.refl _,.int hwi,trivial⟩,HLe.refl _,Env.below_mono hE (by simp),rfl,rfl⟩
 refine ww ?_
 rw [hwl]
 obtain ⟨x1,x2,x3,x4,x5,x6,x7,x8,x9,x10,x11⟩:=rl
 unfold qCt at hrx
 unfold qEb qAv at hrr
 simp only at hrx hrr
 refine wwi hrx ?_
 refine ww ?_
 refine wwc hrr ?_
 refine ww ?_
 refine wwgc hawk ?_
 refine ww ?_
 exact wwr
end Tdoc
