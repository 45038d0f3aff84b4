/- Part 10 of the proof: the texts CX CY HJ HK HS Z7 Z8 Z9 ZK0 NV HT OJ OJ2 HU. -/
import Derived.Test.YtijghnaidinliaaGreatDoorCR9
set_option maxHeartbeats 8000000
set_option maxRecDepth 100000
set_option linter.unusedVariables false
set_option linter.unusedSimpArgs false
namespace Tdoc
open Go Go.Proofs
theorem imageB_facts (r:List UInt8) (hr:r.length≤256):(qCo 0 r).length=265∧(qCo 0 r).getD 0 0=1∧((qCo 0 r).drop 1).take 6=qBk 6 0∧nbN (((qCo 0 r).drop 7).take 2)=r.length∧((qCo 0 r).drop 9).take r.length=r:=by
 unfold qCo
 have l6:=octB_length 6 0
 have l2:=octB_length 2 r.length
 have e1:(1::(qBk 6 0++qBk 2 r.length++r++List.replicate (256-r.length) (0:UInt8))).drop 1=qBk 6 0++(qBk 2 r.length++(r++List.replicate (256-r.length) 0)):=by simp
 have e7:(1::(qBk 6 0++qBk 2 r.length++r++List.replicate (256-r.length) (0:UInt8))).drop 7=qBk 2 r.length++(r++List.replicate (256-r.length) 0):=by
  rw [show (7:Nat)=1+6 from rfl,← List.drop_drop,e1]
  exact List.drop_left' l6
 have e9:(1::(qBk 6 0++qBk 2 r.length++r++List.replicate (256-r.length) (0:UInt8))).drop 9=r++List.replicate (256-r.length) 0:=by
  rw [show (9:Nat)=7+2 from rfl,← List.drop_drop,e7]
  exact List.drop_left' l2
 refine ⟨by simp [l6,l2];omega,rfl,by rw [e1];exact List.take_left' l6,?_,by rw [e9];exact List.take_left⟩
 rw [e7,List.take_left' l2]
 show nbV (qBk 2 r.length)=r.length
 rw [octB_succ,octB_succ,show qBk 0 r.length=[] from rfl]
 show nbV [_,_]=_
 rw [nbV2]
 simp only [UInt8.toNat_ofNat']
 omega
theorem zeros_facts:(List.replicate 265 (0:UInt8)).length=265∧(List.replicate 265 (0:UInt8)).getD 0 0=0:=⟨List.length_replicate,rfl⟩
theorem qOh (r:List UInt8) (hr:r.length≤256):Spec Tryz.prog 128 [.d (.sl 1 (qAe (qCo 0 r)))] [] (fun v h'=>v=.tup [.agg [.I 0,.d (.sl 1 (qAe r))],.d (.bool true)]∧h'=[]):=by
 obtain ⟨h1,h2,h3,h4,h5⟩:=imageB_facts r hr
 exact readOn_spec _ r h1 h2 h3 h4 hr h5
theorem qMk (m0 m1 r:List UInt8) (hm:m0=qCo 0 r) (hz:m1=List.replicate 265 0) (hr:r.length≤256) :
  Spec Tryz.prog 97 [.agg [.d (.sl 1 (qAe m0)),.d (.sl 1 (qAe m1))]] [] (fun v h'=>v=.tup [.I 0,.agg [.I 0,.d (.sl 1 (qAe r))],.d (.bool true)]∧h'=[]):=by
 have h1:=qOh r hr
 have h2:=readOff_spec (List.replicate 265 (0:UInt8)) zeros_facts.1 zeros_facts.2
 rw [← hm] at h1
 rw [← hz] at h2
 clear hm hz
 refine qAa hT Tryz.func97 rfl rfl rfl rfl ?_;intro E hE
 refine ww ?_
 first | refine qAd (qAc (arrPtr_ok hT rfl rfl rfl rfl (by decide))) rfl ?_ | refine qAz (qAc (arrPtr_ok hT rfl rfl rfl rfl (by decide))) rfl rfl ?_
 refine ww ?_
 refine wwc h1 ?_
 refine ww ?_
 first | refine qAd (qAc (arrPtr_ok hT rfl rfl rfl rfl (by decide))) rfl ?_ | refine qAz (qAc (arrPtr_ok hT rfl rfl rfl rfl (by decide))) rfl rfl ?_
 refine ww ?_
 refine wwc h2 ?_
 refine ww ?_
 refine qAb rfl (fun c1=>?_) (fun c1=>?_)
 ·exact absurd c1 (by simp)
 refine wwn ?_
 refine qCd (fun i=>bif Nat.beq i 0 then [2] else bif Nat.beq i 3 then [1] else []) (fun i=>bif Nat.beq i 3 then [1] else []) mixed (by kernel_rfl) ?_
 refine wwg ?_
 refine ww ?_
 exact wwr
theorem qOm (m0 m1 r:List UInt8) (hm:m0=qCo 0 r) (hz:m1=List.replicate 265 0) (hr:r.length≤256) :
  Spec Tryz.prog 56 [.agg [.d (.sl 1 (qAe m0)),.d (.sl 1 (qAe m1))]] [] (fun v h'=>v=.tup [.d (.sl 1 (qAe r)),.I 0]∧h'=[]):=by
 have h1:=qMk m0 m1 r hm hz hr
 clear hm hz
 refine qAa hT Tryz.func56 rfl rfl rfl rfl ?_;intro E hE
 refine ww ?_
 refine wwc h1 ?_
 refine ww ?_
 refine qAb rfl (fun c1=>?_) (fun c1=>?_)
 ·exact absurd c1 (by simp)
 refine ww ?_
 exact wwr
theorem qQj (p:Per) (m0 m1 seed:List UInt8) (on:Bool) (pa pf:Int) (nonce r:List UInt8) (hm:m0=qCo 0 r) (hz:m1=List.replicate 265 0) (hr:r.length≤256) :
  Spec Tryz.prog 24 [.agg (chG p m0 m1 seed on pa pf nonce)] [] (fun v h'=>v=qUa (qEx r)∧h'=[]):=by
 have h1:=qOm m0 m1 r hm hz hr
 have h2:=decRc_spec r (by omega)
 clear hm hz
 generalize qEx r=o at h2 ⊢
 cases o with
 | none =>
  simp only [qUa] at h2 ⊢
  refine qAa hT Tryz.func24 rfl rfl rfl rfl ?_;intro E hE
  refine qAj ?_
  refine qAl (qAg ?_)
  refine qAd (boxAt_ok (i0:=0) (cs:=chG p m0 m1 seed on pa pf nonce) rfl rfl rfl) rfl ?_
  refine ww ?_
  refine wwc h1 ?_
  refine ww ?_
  refine qAb rfl (fun c1=>?_) (fun c1=>?_)
  ·exact absurd c1 (by simp)
  refine ww ?_
  refine wwc h2 ?_
  refine ww ?_
  exact wwr
 | some w =>
  obtain ⟨pr,ur,pin,l,day⟩:=w
  simp only [qUa] at h2 ⊢
  refine qAa hT Tryz.func24 rfl rfl rfl rfl ?_;intro E hE
  refine qAj ?_
  refine qAl (qAg ?_)
  refine qAd (boxAt_ok (i0:=0) (cs:=chG p m0 m1 seed on pa pf nonce) rfl rfl rfl) rfl ?_
  refine ww ?_
  refine wwc h1 ?_
  refine ww ?_
  refine qAb rfl (fun c1=>?_) (fun c1=>?_)
  ·exact absurd c1 (by simp)
  refine ww ?_
  refine wwc h2 ?_
  refine ww ?_
  exact wwr
def maB (p:Per) (m0 m1:List UInt8) (pr ur:Int) (pin:List UInt8) (l:List Tp) (day cut:Int):List AV :=
 chG p m0 m1 p.seed true (-1) (-1) []++(qCg pr ur pin l day++[.I cut,.I 0,.d (.bool false),.d (.bool false),.sl 1 [] .full])
theorem maB_le (p:Per) (m0 m1:List UInt8) (pr ur:Int) (pin:List UInt8) (l:List Tp) (day cut:Int):AllLe (maB p m0 m1 pr ur pin l day cut) (maC p m0 m1 p.seed [] pr ur pin l day cut []):=by
 unfold maB maC
 exact ⟨.refl _,.refl _,.refl _,.refl _,.refl _,.refl _,.refl _,.refl _,.refl _,.refl _,.refl _,.refl _,.refl _,.refl _,.refl _,.refl _,.refl _,.refl _,.refl _,.refl _,.refl _,.refl _,.refl _,.refl _,.refl _,.refl _,.refl _,.refl _,.refl _,.refl _,.refl _,.refl _,.refl _,.refl _,.refl _,.refl _,.refl _,.refl _,.refl _,.refl _,.refl _,.refl _,.refl _,.refl _,.refl _,.refl _,.refl _,.refl _,.refl _,.refl _,.refl _,.refl _,.refl _,.refl _,.refl _,.refl _,.refl _,.refl _,.refl _,.refl _,.refl _,.refl _,.refl _,.refl _,.refl _,.refl _,.refl _,.refl _,.refl _,.dat,trivial⟩
theorem qUh (p:Per) (m0 m1:List UInt8) (pr ur:Int) (pin:List UInt8) (l:List Tp) (day cut:Int) :
  qHw T 121 [(0,.agg (chG p m0 m1 p.seed true (-1) (-1) [])),(1,.agg (qCg pr ur pin l day)),(2,.I cut)]=some (.agg (maB p m0 m1 pr ur pin l day cut)):=by
 kernel_rfl
theorem qWb (p:Per) (m0 m1 seed nonce:List UInt8) (pr ur:Int) (pin:List UInt8) (l:List Tp) (day cut:Int) (old:List UInt8):qFr T 71 (maC p m0 m1 seed nonce pr ur pin l day cut old) 0=some (.agg (chG p m0 m1 seed true (-1) (-1) nonce)):=by
 refine loadA_agg tiC_find rfl ?_ ?_
 ·show 0+60≤70
  omega
 ·unfold maC
  exact List.take_left' rfl
theorem qMr (p:Per) (hp:PerLen p) (m0 m1 r:List UInt8) (pr ur:Int) (pin:List UInt8) (l:List Tp) (day:Int) (hm:m0=qCo 0 r) (hz:m1=List.replicate 265 0) (hr:r.length≤256) (hd:qEx r=some (pr,ur,pin,l,day)) (hs:p.seed.length≤500000) :
  Spec Tryz.prog 29 [.agg (chG p m0 m1 p.seed true (-1) (-1) []),.agg (comCells 0 132 0 0 [] 8),.I (-1)] []
   (fun v h'=>v=.tup [.agg (chG p m0 m1 (qEp p.seed) true (-1) (-1) (qCj p.seed 8)),.agg [.d (.sl 1 (qAe (qCj p.seed 8))),.I 36864],.d (.bool true)]∧h'=[]):=by
 have hk:=qQj p m0 m1 p.seed true (-1) (-1) [] r hm hz hr
 rw [hd] at hk
 simp only [qUa] at hk
 have hcl:=qIx p hp m0 m1 true (-1) (-1) [] (by rw [hm,(imageB_facts r hr).1];omega) (by rw [hz,zeros_facts.1];omega) (by simp)
 have ha:=answerM_spec p m0 m1 p.seed pr ur pin l day (-1) [] hs
 have hB:=qUh p m0 m1 pr ur pin l day (-1)
 have hBle:=maB_le p m0 m1 pr ur pin l day (-1)
 generalize qCj p.seed 8=out at ha ⊢
 generalize qEp p.seed=nx at ha ⊢
 clear hm hz hr hd hs hp
 refine qAa hT Tryz.func29 rfl rfl rfl rfl ?_;intro E hE
 refine qAj (qAj (qAj ?_))
 refine qAl (qAg ?_)
 refine qAd (boxAt_ok (i0:=0) (cs:=chG p m0 m1 p.seed true (-1) (-1) []) rfl rfl rfl) rfl ?_
 refine wk hT rfl rfl ?_
 refine qAd (allocAt_ok (i0:=1) (i:=tiC) hT rfl tiC_find rfl) rfl ?_
 refine wws ?_
 refine qAl (qAg ?_)
 refine qAd (qBv (i:=0) (off:=0) hT rfl rfl rfl (L60 (C:=chG p m0 m1 p.seed true (-1) (-1) []) rfl)) rfl ?_
 refine wwc hk ?_
 refine wws ?_
 refine wwn ?_
 refine qAb rfl (fun c1=>?_) (fun c1=>?_)
 ·exact absurd c1 (by simp)
 refine wwe ?_
 refine qAl ?_
 refine qCd (fun i=>bif Nat.beq i 0 then [0] else bif Nat.beq i 2 then [5] else bif Nat.beq i 5 then [2] else []) (fun i=>bif Nat.beq i 5 then [2] else []) mixed (by kernel_rfl) ?_
 refine qAk (os:=[]) (fun k hk1 hk2=>qBv (i:=0) (off:=0) hT rfl rfl ((hk2 0 List.mem_cons_self).trans rfl) (L60 (C:=chG p m0 m1 p.seed true (-1) (-1) []) rfl)) rfl ?_
 refine qAk (os:=[]) (fun k hk1 hk2=>qEv rfl rfl hcl rfl rfl rfl) rfl ?_
 refine qKc hT rfl rfl rfl rfl (by first | exact List.mem_cons_self | exact sm) rfl ?_
 refine qDx hT (fun _=>rfl) rfl rfl True.intro ?_
 refine qAk (os:=[]) (fun k hk1 hk2=>qAc (qEo hT rfl hB)) rfl ?_
 refine qAk (v:=.ptr 2 0) (os:=[.row (maB p m0 m1 pr ur pin l day (-1))]) (fun k hk1 hk2=>boxAt_ok (i0:=2) (cs:=maB p m0 m1 pr ur pin l day (-1)) rfl rfl ((hk2 2 List.mem_cons_self).trans rfl)) rfl ?_
 refine qDx hT (fun _=>rfl) rfl rfl True.intro ?_
 refine qFv ?_
 refine qBb (l:=[(2,.I (-1)),(4,.ptr 3 0),(6,.ptr 1 0),(7,.ptr 4 0),(11,.ptr 2 0)]) (h':=[.dead,.row tiC.zero,.row (maC p m0 m1 p.seed [] pr ur pin l day (-1) []),.row (comCells 0 132 0 0 [] 8),.row [.sl 1 [] .full,.I 0],.dead]) yf ⟨trivial,ObLe.refl _,hBle,ObLe.refl _,ObLe.refl _,trivial,trivial⟩ ?_
 refine qAl (qAg ?_)
 refine wk hT rfl rfl ?_
 refine wk hT rfl rfl ?_
 refine qAd (qBe (v:=.agg [.d (.sl 1 (qAe out)),.I 36864]) (H':=[.dead,.row tiC.zero,.row (maC p m0 m1 nx out pr ur pin l day (-1) []),.row (comCells 0 132 0 0 [] 8),.row [.sl 1 [] .full,.I 0],.dead]) rfl rfl ha [2] (by decide) rfl rfl rfl rfl rfl rfl rfl) rfl ?_
 refine wws ?_
 refine wwn ?_
 refine qAb rfl (fun c2=>?_) (fun c2=>?_)
 ·exact absurd c2 (by simp)
 refine wwe ?_
 refine qAl ?_
 refine qCd (fun i=>bif Nat.beq i 3 then [2] else bif Nat.beq i 4 then [6] else bif Nat.beq i 5 then [1] else bif Nat.beq i 6 then [4] else []) (fun i=>bif Nat.beq i 5 then [1] else bif Nat.beq i 6 then [4] else []) mixed (by kernel_rfl) ?_
 refine qDx hT (fun _=>rfl) rfl rfl True.intro ?_
 refine qDx hT (fun _=>rfl) rfl rfl True.intro ?_
 refine qDx hT (fun _=>rfl) rfl rfl True.intro ?_
 refine qAk (v:=.agg (chG p m0 m1 nx true (-1) (-1) out)) (os:=[]) (fun k hk1 hk2=>qBv (i:=2) (off:=0) hT rfl rfl ((hk2 2 List.mem_cons_self).trans rfl) (qWb p m0 m1 nx out pr ur pin l day (-1) [])) rfl ?_
 refine qKc hT rfl rfl rfl rfl (by first | exact List.mem_cons_self | exact sm) rfl ?_
 refine qAk (v:=.any) (os:=[.row (chG p m0 m1 nx true (-1) (-1) out)]) (fun k hk1 hk2=>qBi (i:=1) (off:=0) hT rfl rfl ((hk2 1 List.mem_cons_self).trans rfl) (S60 (C:=chG p m0 m1 nx true (-1) (-1) out) rfl rfl)) rfl ?_
 refine wwg ?_
 refine wwn ?_
 exact wwr
theorem perE_valid:qFf perE=0:=by kernel_rfl
theorem perE_rec:(qIg perE.pr perE.ur perE.pin perE.tps perE.tday).2=0:=by kernel_rfl
theorem qLf:Spec Tryz.prog 6 [] [] (fun r h'=>r=.d (.bool true)∧h'=[]):=by
 have hR:=Spec.args (args:=[.nils]) (by exact ⟨AV.le.nils,trivial⟩) (qLm [] (by simp))
 have hM:=makeNil_spec
 obtain ⟨t,ht1,ht2⟩:=perE_ok.tps
 have hN:=Spec.args (args:=[.agg (qSh perE)]) (by exact ⟨perT_le perE,trivial⟩) (newP_spec perE perE_ok.len (fun t' h=>by rw [ht1] at h;rw [List.mem_singleton.1 h];omega))
 have hrec:=recF_back perE_rec
 have hrl:=recF_len (pr:=perE.pr) (ur:=perE.ur) (pin:=perE.pin) (l:=perE.tps) (day:=perE.tday)
 rw [perE_valid] at hN
 unfold qWp at hN
 rw [if_pos perE_valid] at hN
 obtain ⟨m0,hm0⟩:∃ m,m=mem0 perE:=⟨_,rfl⟩
 obtain ⟨m1,hm1⟩:∃ m,m=List.replicate 265 (0:UInt8):=⟨_,rfl⟩
 rw [← hm0,← hm1] at hN
 have hl0:m0.length=265:=by rw [hm0];exact (imageB_facts _ (by omega)).1
 have hP:=powerC_spec perE perE_ok.len m0 m1 false 0 0 [] (by omega) (by rw [hm1];simp) (by simp)
 have hA:=Spec.args (args:=[.agg (chG perE m0 m1 perE.seed true (-1) (-1) []),.agg [.I 0,.I 132,.I 0,.I 0,.sl 1 [] .full,.I 8],.I (-1)])
  (by exact ⟨.refl _,AV.le.agg ⟨.refl _,.refl _,.refl _,.refl _,.dat,.refl _,trivial⟩,.refl _,trivial⟩) (qMr perE perE_ok.len m0 m1 _ _ _ _ _ _ hm0 hm1 (by omega) hrec (by have:=perE_ok.sd;omega))
 have hdl:(qCj perE.seed 8).length=8:=by kernel_rfl
 have hS:=qDs (qCj perE.seed 8) (by omega)
 generalize qCj perE.seed 8=dr at hA hdl hS
 generalize qEp perE.seed=nx at hA
 generalize perE.seed=sd at hN hP hA
 clear hrec hrl hm0 hm1 ht1
 generalize perE=p at hN hP hA hM
 refine qAa hT Tryz.func6 rfl rfl rfl rfl ?_;intro E hE
 refine qAj (qAj (qAj (qAj ?_)))
 refine qAl (qAg ?_)
 refine wws ?_
 refine qAl (qAg ?_)
 refine qAd (qBe (v:=.ptr 0 0) (H':=[.row (qAn [] 0),.room,.room,.room]) rfl rfl hR [0] (by decide) rfl rfl rfl rfl rfl rfl rfl) rfl ?_
 refine qAd (qBe (v:=.agg (qSh p)) (H':=[.row (qAn [] 0),.room,.room,.room]) rfl rfl hM [0] (by decide) rfl rfl rfl rfl rfl rfl rfl) rfl ?_
 refine qAd (allocAt_ok (i0:=1) (i:=(T.find 50).getD ⟨.str,0,0,[]⟩) hT rfl rfl rfl) rfl ?_
 refine qBp (qBi (i:=1) (off:=0) hT rfl rfl rfl (S16 (C:=qSh p) rfl rfl)) (forceS_eq _ _) ?_
 refine qCc ?_
 refine qAl (qAg ?_)
 refine qAd (qBv (i:=1) (off:=0) hT rfl rfl rfl (L16 (C:=qSh p) rfl)) rfl ?_
 refine wwc hN ?_
 refine wk hT rfl rfl ?_
 refine wk hT rfl rfl ?_
 refine wk hT rfl rfl ?_
 refine qAd (allocAt_ok (i0:=2) (i:=tiC) hT rfl tiC_find rfl) rfl ?_
 refine qBp (qBi (i:=2) (off:=0) hT rfl rfl rfl (S60 (C:=chG p m0 m1 sd false 0 0 []) rfl rfl)) (forceS_eq _ _) ?_
 refine wws ?_
 refine qBb (l:=[(2,.ptr 2 0),(3,.I 0)]) (h':=[.row (qAn [] 0),.dead,.row (chG p m0 m1 sd false 0 0 []),.room]) yf ⟨ObLe.refl _,trivial,ObLe.refl _,ObLe.refl _,trivial⟩ ?_
 refine qAl (qAg ?_)
 refine qAd (qBv (i:=2) (off:=0) hT rfl rfl rfl (L60 (C:=chG p m0 m1 sd false 0 0 []) rfl)) rfl ?_
 refine wwc hP ?_
 refine wk hT rfl rfl ?_
 refine wwc hA ?_
 refine wk hT rfl rfl ?_
 refine wk hT rfl rfl ?_
 refine wk hT rfl rfl ?_
 refine wk hT rfl rfl ?_
 refine qAd (allocAt_ok (i0:=3) (i:=(T.find 81).getD ⟨.str,0,0,[]⟩) hT rfl rfl rfl) rfl ?_
 refine qBp (qBi (i:=2) (off:=0) hT rfl rfl rfl (S60 (C:=chG p m0 m1 nx true (-1) (-1) dr) rfl rfl)) (forceS_eq _ _) ?_
 refine wws ?_
 refine qBb (l:=[(2,.ptr 2 0),(3,.I 0),(4,.ptr 3 0),(5,.d (.bool true))]) (h':=[.row (qAn [] 0),.dead,.row (chG p m0 m1 nx true (-1) (-1) dr),.row [.d (.sl 1 (qAe dr)),.I 36864]]) yf ⟨ObLe.refl _,trivial,ObLe.refl _,ObLe.refl _,trivial⟩ ?_
 clear hN hP hA hM hR
 have hel:=encB_length dr
 refine wwn ?_
 rw [show ((0:Int) == 0)=true from rfl]
 refine qBa hT rfl rfl (fun _=>rfl) ?_
 refine wwn ?_
 refine qBa hT rfl rfl (fun _=>rfl) ?_
 refine wwn ?_
 rw [show ((qAe dr).length:Int)=8 by omega]
 refine qBa hT rfl rfl (fun _=>rfl) ?_
 refine wwn ?_
 refine qBa hT rfl rfl (fun _=>rfl) ?_
 refine wwn ?_
 refine wwgc hS ?_
 refine qBa hT rfl rfl (fun _=>rfl) ?_
 refine wwn ?_
 exact qEe ⟨rfl,rfl⟩ rfl (.bool (by decide)) rfl rfl rfl rfl
theorem qJa (L:List Int) (hL:L.length≤1000000) (a:Nat) (ha:a≤L.length):∃ (x:Int→Int) (b:Nat),nxV L a=x∧nxA L a=b∧b≤L.length∧(∀ n,1≤n→0≤x n∧x n < n) ∧
  ∀ n,1≤n→n≤4611686018427387904→Spec Tryz.prog 30 [.ptr 0 0,.I n] [.row (qAn L a)] (fun r h'=>r=.I (x n)∧h'=[.row (qAn L b)]) :=
 ⟨_,_,rfl,rfl,nxA_le ha,fun n h=>nxV_range h,fun n h1 h2=>qAq L hL a ha n h1 h2⟩
def pkI (T:List Int) (x:Int):Int:=T.getD x.toNat 0
theorem pkI_at {T:List Int} {x:Int} (h:0≤x∧x < (T.length:Int)):(T.map fun s=>[Dat.int .i64 s])[x.toNat]?=some [.int .i64 (pkI T x)]:=by
 have hl:x.toNat < T.length:=by omega
 simp [pkI,hl]
structure Rcd where
 pr:Int
 ur:Int
 pin:List UInt8
 tps:List Tp
 day:Int
def qJh (r:Rcd):AV:=.agg (qCg r.pr r.ur r.pin r.tps r.day)
def RcdOk (L:List Int) (x:Rcd×Nat):Prop:=(x.1.pin.length≤17∧x.1.tps.length≤2∧∀ t,t∈x.1.tps→t.holder.length≤16)∧x.2≤L.length
theorem qHj (L:List Int) (hL:L.length≤1000000) (a:Nat) (ha:a≤L.length) :
  Spec Tryz.prog 9 [.ptr 0 0] [.row (qAn L a)] (fun r h'=>∃ x:Rcd×Nat,RcdOk L x∧r=qJh x.1∧h'=[.row (qAn L x.2)]):=by
 have hM:=qQe L hL a ha
 refine qAa hT Tryz.func9 rfl rfl rfl rfl ?_;intro E hE
 refine qAj (qAj (qAj ?_))
 refine qAl (qAg ?_)
 refine qAd (allocAt_ok (i0:=1) (i:=(T.find 27).getD ⟨.str,0,0,[]⟩) hT rfl rfl rfl) rfl ?_
 refine wws ?_
 refine qAl (qAg ?_)
 refine wk hT rfl rfl ?_
 refine qFd (qQz rfl rfl (hM) [0] (by decide) rfl rfl rfl rfl (fun _=>rfl) (fun _=>rfl) (fun _=>rfl)) rfl ?_
 rintro ⟨p,a1⟩ ⟨hp,ha1⟩
 simp only at hp ha1 ⊢
 obtain ⟨t,ht1,ht2⟩:=hp.tps
 clear hM
 have hN1:=qAq L hL a1 ha1 16 (by omega) (by omega)
 have ha2:=nxA_le ha1
 generalize nxV L a1 16=v1 at hN1
 generalize nxA L a1=a2 at hN1 ha2
 have hN2:=qAq L hL a2 ha2 16 (by omega) (by omega)
 have ha3:=nxA_le ha2
 generalize nxV L a2 16=v2 at hN2
 generalize nxA L a2=a3 at hN2 ha3
 have hB:=qBw L hL a3 ha3 16 (by omega)
 have hbl:=(byF_ok (n:=16) ha3).1
 have ha4:=(byF_ok (n:=16) ha3).2
 generalize byF L a3 16=q at hB hbl ha4
 obtain ⟨pin,a4⟩:=q
 simp only at hB hbl ha4
 obtain ⟨v,a5,e1,e2,ha5,hv,hN3⟩:=qJa L hL a4 ha4
 obtain ⟨y,a6,e3,e4,ha6,hy,hN4⟩:=qJa L hL a5 ha5
 have hB5:=qBw L hL a5 ha5 17 (by omega)
 have hbl5:=(byF_ok (n:=17) ha5).1
 have ha7:=(byF_ok (n:=17) ha5).2
 generalize byF L a5 17=q at hB5 hbl5 ha7
 obtain ⟨pin5,a7⟩:=q
 simp only at hB5 hbl5 ha7
 refine qAd (allocAt_ok (i0:=2) (i:=(T.find 50).getD ⟨.str,0,0,[]⟩) hT rfl rfl rfl) rfl ?_
 refine qBp (qBi (i:=2) (off:=0) hT rfl rfl rfl (S16 (C:=qSh p) rfl rfl)) (forceS_eq _ _) ?_
 refine qCc ?_
 have hN3:=hN3 6 (by omega) (by omega)
 refine qAl (qBh (fun i=>bif Nat.beq i 1||Nat.beq i 3||Nat.beq i 5 then [0] else bif Nat.beq i 7 then [2] else bif Nat.beq i 9||Nat.beq i 10 then [3] else []) (fun i=>bif Nat.beq i 1||Nat.beq i 3||Nat.beq i 5 then [0] else bif Nat.beq i 9||Nat.beq i 10 then [3] else []) mixed (by kernel_rfl) ?_)
 refine wwg ?_
 refine qAk (v:=.I v1) (os:=[.row (qAn L a2)]) (fun k hk1 hk2=>qAy rfl rfl hN1 [0] (by decide) (by show [k[0]?]=[some _];rw [hk2 0 List.mem_cons_self];rfl) rfl rfl rfl rfl rfl rfl) rfl ?_
 refine wwg ?_
 refine qAk (v:=.I v2) (os:=[.row (qAn L a3)]) (fun k hk1 hk2=>qAy rfl rfl hN2 [0] (by decide) (by show [k[0]?]=[some _];rw [hk2 0 List.mem_cons_self];rfl) rfl rfl rfl rfl rfl rfl) rfl ?_
 refine wwg ?_
 refine qAk (v:=.d (.sl 1 (qAe pin))) (os:=[.row (qAn L a4)]) (fun k hk1 hk2=>qAy rfl rfl hB [0] (by decide) (by show [k[0]?]=[some _];rw [hk2 0 List.mem_cons_self];rfl) rfl rfl rfl rfl rfl rfl) rfl ?_
 refine wwg ?_
 refine qAk (v:=.ptr 3 0) (os:=[.row ((T.find 27).getD ⟨.str,0,0,[]⟩).zero]) (fun k hk1 hk2=>allocAt_ok (i0:=3) (i:=(T.find 27).getD ⟨.str,0,0,[]⟩) hT rfl rfl ((hk2 3 List.mem_cons_self).trans rfl)) rfl ?_
 refine wwg ?_
 refine qBb (l:=[(0,.ptr 0 0),(2,.ptr 1 0),(4,.ptr 3 0)]) (h':=[.row (qAn L a4),.row [.I 0,.I 0,.sl 1 [] .full,.sl 5 [] .full,.I 0],.dead,.row [.I v1,.I v2,.d (.sl 1 (qAe pin)),.sl 5 (qAm p.tps) .full,.I p.tday]]) yf ⟨ObLe.refl _,ObLe.refl _,trivial,ObLe.refl _,trivial⟩ ?_
 have ht3:∀ t',t'∈p.tps→t'.holder.length≤16:=fun t' h=>by rw [ht1] at h;rw [List.mem_singleton.1 h];exact ht2
 have ht4:p.tps.length≤2:=by rw [ht1];simp
 have hel:(qAm p.tps)[0]?=some (qCr t):=by rw [ht1];rfl
 have hpt:qAm (p.tps++[t])=qAm p.tps++[qCr t]:=by simp [qAm]
 have hptl:=encTps_length p.tps
 have ht5:(p.tps++[t]).length≤2:=by rw [ht1];simp
 have ht6:∀ t',t'∈p.tps++[t]→t'.holder.length≤16:=fun t' h=>by
  rcases List.mem_append.1 h with h | h
  ·exact ht3 t' h
  ·rw [List.mem_singleton.1 h];exact ht2
 generalize p.tps=tps at ht3 ht4 hel hpt hptl ht5 ht6 ⊢
 generalize p.tday=tday
 clear hN1 hN2 hB hp e1 e2 e3 e4 ht1
 refine ww ?_
 refine qAd (qAy rfl rfl (hN3) [0] (by decide) rfl rfl rfl rfl rfl rfl rfl) rfl ?_
 refine ww ?_
 refine qAb rfl (fun c0=>?_) (fun c0=>?_)
 ·have hN4:=hN4 18 (by omega) (by omega)
  refine ww ?_
  refine qAd (qAy rfl rfl (hN4) [0] (by decide) rfl rfl rfl rfl rfl rfl rfl) rfl ?_
  refine ww ?_
  exact rq ⟨(⟨IntKind.i64.wrap (y 18-1),v2,pin,tps,tday⟩,a6),⟨⟨by simp only;omega,ht4,ht3⟩,ha6⟩,rfl,rfl⟩ rfl (AV.le.agg ⟨.refl _,.refl _,.refl _,.dat,.refl _,trivial⟩)
 refine ww ?_
 refine qAb rfl (fun c1=>?_) (fun c1=>?_)
 ·refine ww ?_
  refine qAd (qAy rfl rfl (hB5) [0] (by decide) rfl rfl rfl rfl rfl rfl rfl) rfl ?_
  refine ww ?_
  exact rq ⟨(⟨v1,v2,pin5,tps,tday⟩,a7),⟨⟨by simp only;omega,ht4,ht3⟩,ha7⟩,rfl,rfl⟩ rfl (AV.le.agg ⟨.refl _,.refl _,.refl _,.dat,.refl _,trivial⟩)
 refine ww ?_
 refine qAb rfl (fun c2=>?_) (fun c2=>?_)
 ·have hy3:=hy 3 (by omega)
  have hat:=pkI_at (T:=[-1,73048,73049]) hy3
  have hN4:=hN4 3 (by omega) (by omega)
  refine ww ?_
  refine qAd (qAy rfl rfl (hN4) [0] (by decide) rfl rfl rfl rfl rfl rfl rfl) rfl ?_
  refine ww ?_
  refine wwi hat ?_
  refine ww ?_
  exact rq ⟨(⟨v1,v2,pin,tps,pkI [-1,73048,73049] (y 3)⟩,a6),⟨⟨by simp only;omega,ht4,ht3⟩,ha6⟩,rfl,rfl⟩ rfl (AV.le.agg ⟨.refl _,.refl _,.refl _,.dat,.refl _,trivial⟩)
 refine ww ?_
 refine qAb rfl (fun c3=>?_) (fun c3=>?_)
 ·refine wwn ?_
  refine qBh (fun i=>bif Nat.beq i 2||Nat.beq i 5||Nat.beq i 12 then [3] else []) (fun i=>bif Nat.beq i 12 then [3] else []) mixed (by kernel_rfl) ?_
  refine wwg ?_
  refine qIb (indexAddr_ok (i:=0) hT rfl rfl rfl rfl (by omega) hel) rfl rfl ?_
  refine wwg ?_
  refine qAk (os:=[]) (fun k hk1 hk2=>buildSl_ok hT rfl rfl) rfl ?_
  refine qAk (v:=.d (.sl 5 (qAm tps++[qCr t]))) (os:=[]) (fun k hk1 hk2=>qBn (es:=qAm tps) (es2:=[qCr t]) hT rfl rfl rfl (.inl rfl) rfl (by show ((qAm tps).length+1)*(48+1)≤_;omega)) rfl ?_
  refine wwg ?_
  refine ww ?_
  exact rq ⟨(⟨v1,v2,pin,tps++[t],tday⟩,a5),⟨⟨by simp only;omega,ht5,ht6⟩,ha5⟩,rfl,rfl⟩ rfl (AV.le.agg ⟨.refl _,.refl _,.refl _,AV.le.eq (by rw [hpt]),.refl _,trivial⟩)
 refine ww ?_
 exact rq ⟨(⟨v1,v2,pin,tps,tday⟩,a5),⟨⟨by simp only;omega,ht4,ht3⟩,ha5⟩,rfl,rfl⟩ rfl (AV.le.agg ⟨.refl _,.refl _,.refl _,.dat,.refl _,trivial⟩)
theorem encB_flat (b:List UInt8):qAu (qAe b)=qAr b:=by
 unfold qAu qAe qAr
 induction b with
 | nil=>rfl
 | cons c b ih=>simp only [List.map_cons,List.flatten_cons,List.map_append,ih];rfl
theorem byteAV_opt (b:List UInt8) (j:Nat):(qAr b)[j]?=(b[j]?).map fun c=>AV.d (.int .u8 (c.toNat:Int)):=by simp [qAr]
theorem rowDat_bytes {cells:List AV} {b:List UInt8} (h:∀ (i:Nat) (c:UInt8),b[i]?=some c→cells[i]?=some (.d (.int .u8 (c.toNat:Int)))):RowDat cells 0 1 (qAe b):=by
 refine ⟨fun e he=>?_,fun i e j d he hd=>?_⟩
 ·obtain ⟨c,_,rfl⟩:=List.mem_map.1 he
  rfl
 ·unfold qAe at he
  rw [List.getElem?_map,Option.map_eq_some_iff] at he
  obtain ⟨c,hc,rfl⟩:=he
  cases j with
  | succ j=>simp at hd
  | zero =>
   simp at hd
   subst hd
   exact ⟨_,by rw [show 0+(i*1+0)=i by omega];exact h i c hc,rfl⟩
def SpoilP (L:List Int) (b:List UInt8) (x:List UInt8×Nat):Prop:=x.1.length≤b.length+1∧x.2≤L.length
theorem qRf (L:List Int) (hL:L.length≤1000000) (a:Nat) (ha:a≤L.length) :
  Spec Tryz.prog 11 [.ptr 0 0,.d (.sl 1 (qAe []))] [.row (qAn L a)] (fun r h'=>∃ x,SpoilP L [] x∧r=.d (.sl 1 (qAe x.1))∧h'=[.row (qAn L x.2)]):=by
 have hN:=qAq L hL a ha 256 (by omega) (by omega)
 have hA:=nxA_le ha
 refine qAa hT Tryz.func11 rfl rfl rfl rfl ?_;intro E hE
 refine ww ?_
 refine qAd (qBn (es:=[]) (es2:=[]) hT rfl rfl rfl (.inr ⟨rfl,rfl⟩) rfl (by decide)) rfl ?_
 refine ww ?_
 refine qAb rfl (fun c1=>?_) (fun c1=>?_)
 ·refine ww ?_
  refine qAd (qAy (H':=[.row (qAn L (nxA L a))]) rfl rfl hN [0] (by decide) rfl rfl rfl rfl rfl rfl rfl) rfl ?_
  refine ww ?_
  exact rq ⟨([bOf (nxV L a 256)],nxA L a),⟨by simp,hA⟩,rfl,rfl⟩ rfl (AV.le.trans AV.le.dat (AV.le.eq (by rw [bOf_wrap];rfl)))
 ·exact absurd c1 (by decide)
theorem qRg (L:List Int) (hL:L.length≤1000000) (a:Nat) (ha:a≤L.length) (b:List UInt8) (hb:b.length≤1000000) (hb0:b≠[]) (h2:nxV L (nxA L a) 4=2) :
  Spec Tryz.prog 11 [.ptr 0 0,.d (.sl 1 (qAe b))] [.row (qAn L a)] (fun r h'=>∃ x,SpoilP L b x∧r=.d (.sl 1 (qAe x.1))∧h'=[.row (qAn L x.2)]):=by
 have hbl:=encB_length b
 have hpos:0 < b.length:=List.length_pos_iff.2 hb0
 have hA:=nxA_le ha
 have hA2:=nxA_le hA
 have hN1:=qAq L hL a ha ((qAe b).length:Int) (by omega) (by omega)
 have hv1:=nxV_range (L:=L) (a:=a) (n:=((qAe b).length:Int)) (by omega)
 have hN2:=qAq L hL (nxA L a) hA 4 (by omega) (by omega)
 rw [h2] at hN2
 obtain ⟨k,hk⟩:∃ k:Nat,nxV L a ((qAe b).length:Int)=(k:Int):=⟨(nxV L a ((qAe b).length:Int)).toNat,by omega⟩
 rw [hk] at hN1 hv1
 have hkl:k < b.length:=by omega
 have hwk:IntKind.i64.wrap ((k:Int)+1)=((k+1:Nat):Int):=by rw [qAf (by omega)];simp
 have hne:qAe b≠[]:=by intro h;rw [h] at hbl;simp at hbl;omega
 have hfl:(qAu (qAe b)).length=b.length:=by rw [encB_flat,byteAV_length]
 have hrow:RowDat (qBl (qAu (qAe b)) (k*1) (((qAu (qAe b)).drop (k+1)).take (((qAe b).length-(k+1))*1))) 0 1 (qAe (b.eraseIdx k)):=by
  refine rowDat_bytes fun i c hi=>?_
  have hil:i < b.length-1:=by have:=(List.getElem?_eq_some_iff.1 hi).1;rw [List.length_eraseIdx] at this;split at this <;> omega
  have htl:(((qAu (qAe b)).drop (k+1)).take (((qAe b).length-(k+1))*1)).length=b.length-(k+1):=by rw [List.length_take,List.length_drop,hfl,hbl];omega
  rw [setRun_at _ _ _ _ (by rw [htl,hfl];omega),htl,List.getElem?_take,List.getElem?_drop,encB_flat,byteAV_opt,byteAV_opt]
  rw [List.getElem?_eraseIdx] at hi
  split at hi
  ·rw [if_neg (by omega),hi];rfl
  ·rw [if_pos (by omega),if_pos (by rw [hbl];omega),show k+1+(i-k*1)=i+1 by omega,hi];rfl
 have hel:(qAe (b.eraseIdx k)).length=k+((qAe b).length-(k+1)):=by rw [encB_length,List.length_eraseIdx,if_pos hkl,hbl];omega
 generalize nxA L (nxA L a)=a2 at hN2 hA2
 generalize nxA L a=a1 at hN1 hN2 hA
 refine qAa hT Tryz.func11 rfl rfl rfl rfl ?_;intro E hE
 refine qAj ?_
 refine ww ?_
 refine qFd (appFresh_ok (i0:=1) hT rfl rfl rfl (.inr rfl) rfl hne (by show (qAe b).length*(1+1)≤_;omega) rfl) rfl ?_
 intro cap hcap
 have hf1:k+((qAe b).length-(k+1))≤cap:=by omega
 have hf2:(k+((qAe b).length-(k+1)))*1≤(qAu (qAe b)).length:=by rw [hfl];omega
 have hf3:(if cap=k+1 then 0 else k+1)+((qAe b).length-(k+1))*1≤(qAu (qAe b)).length:=by rw [hfl];split <;> omega
 have hdr:(List.take (((qAe b).length-(k+1))*1) (List.drop (if cap=k+1 then 0 else k+1) (qAu (qAe b))))=(List.take (((qAe b).length-(k+1))*1) (List.drop (k+1) (qAu (qAe b)))):=by
  split
  ·rw [show (qAe b).length-(k+1)=0 by omega];simp
  ·rfl
 refine ww ?_
 refine qAb rfl (fun c1=>?_) (fun c1=>?_)
 ·exact absurd c1 (by simp;omega)
 refine ww ?_
 refine qAd (qAy (H':=[.row (qAn L a1),.row (qAu (qAe b))]) rfl rfl hN1 [0] (by decide) rfl rfl rfl rfl rfl rfl rfl) rfl ?_
 refine ww ?_
 refine qAd (qAy (H':=[.row (qAn L a2),.row (qAu (qAe b))]) rfl rfl hN2 [0] (by decide) rfl rfl rfl rfl rfl rfl rfl) rfl ?_
 refine ww ?_
 refine qAb rfl (fun c2=>?_) (fun c2=>?_)
 ·exact absurd c2 (by decide)
 refine ww ?_
 refine qAb rfl (fun c3=>?_) (fun c3=>?_)
 ·exact absurd c3 (by decide)
 refine ww ?_
 refine qAb rfl (fun c4=>?_) (fun c4=>?_)
 ·refine wwn ?_
  refine qCd (fun i=>bif Nat.beq i 7 then [1] else []) (fun i=>bif Nat.beq i 7 then [1] else []) mixed (by kernel_rfl) ?_
  refine wwg ?_
  refine qIb (qMe (sz:=1) (v:=.row 1 0 k cap) (l:=0) (r:=k) hT rfl rfl rfl rfl ⟨_,rfl⟩ (by omega) (by omega) (by simp)) rfl rfl ?_
  refine wwg ?_
  refine qIb (qMe (sz:=1) (v:=.row 1 (if cap=k+1 then 0 else k+1) ((qAe b).length-(k+1)) (cap-(k+1))) (l:=k+1) (r:=(qAe b).length) hT rfl rfl rfl ⟨.i64,by rw [← hwk];rfl⟩ rfl (by omega) (by omega) (by simp)) rfl rfl ?_
  refine qAk (os:=[.row (qBl (qAu (qAe b)) (k*1) (((qAu (qAe b)).drop (k+1)).take (((qAe b).length-(k+1))*1)))]) (fun kk hk1 hk2=>by rw [← hdr];exact appSelf_ok (i:=1) (n:=k) (cap:=cap) (off2:=if cap=k+1 then 0 else k+1) (m:=(qAe b).length-(k+1)) (cap2:=cap-(k+1)) (cells:=qAu (qAe b)) hT rfl rfl rfl rfl rfl ((hk2 1 List.mem_cons_self).trans rfl) hf1 hf2 hf3) rfl ?_
  refine wwg ?_
  refine qEk 5 1 1 (qAe (b.eraseIdx k)) rfl rfl hel (by omega) hrow ?_
  refine ww ?_
  exact rq ⟨(b.eraseIdx k,a2),⟨by rw [List.length_eraseIdx];split <;> omega,hA2⟩,rfl,rfl⟩ rfl (.refl _)
 ·exact absurd c4 (by decide)
theorem rowDat_self (b:List UInt8):RowDat (qAu (qAe b)) 0 1 (qAe b):=rowDat_bytes fun i c hi=>by rw [encB_flat,byteAV_opt,hi];rfl
theorem rowDat_set (b:List UInt8) (k:Nat) (n:Int):RowDat ((qAu (qAe b)).set k (.d (.int .u8 (IntKind.u8.wrap n)))) 0 1 (qAe (b.set k (bOf n))):=by
 refine rowDat_bytes fun i c hi=>?_
 rw [encB_flat,List.getElem?_set]
 rw [List.getElem?_set] at hi
 split at hi
 ·rename_i h
  subst h
  split at hi
  ·rename_i h
   cases hi
   rw [if_pos rfl,if_pos (by rw [byteAV_length];exact h),bOf_wrap]
  ·cases hi
 ·rename_i h
  rw [if_neg h,byteAV_opt,hi]
  rfl
theorem rowDat_app (b:List UInt8) (n:Int):RowDat (qAu (qAe b)++qAu [[.int .u8 (IntKind.u8.wrap n)]]) 0 1 (qAe (b++[bOf n])):=by
 refine rowDat_bytes fun i c hi=>?_
 have:qAu [[Dat.int .u8 (IntKind.u8.wrap n)]]=qAr [bOf n]:=by show [AV.d (.int .u8 (IntKind.u8.wrap n))]=_;rw [bOf_wrap];rfl
 rw [this,encB_flat,show qAr b++qAr [bOf n]=qAr (b++[bOf n]) by simp [qAr],byteAV_opt,hi]
 rfl
theorem qRh (L:List Int) (hL:L.length≤1000000) (a:Nat) (ha:a≤L.length) (b:List UInt8) (hb:b.length≤1000000) (hb0:b≠[]) (h2:nxV L (nxA L a) 4≠2) :
  Spec Tryz.prog 11 [.ptr 0 0,.d (.sl 1 (qAe b))] [.row (qAn L a)] (fun r h'=>∃ x,SpoilP L b x∧r=.d (.sl 1 (qAe x.1))∧h'=[.row (qAn L x.2)]):=by
 have hbl:=encB_length b
 have hpos:0 < b.length:=List.length_pos_iff.2 hb0
 have hA:=nxA_le ha
 have hA2:=nxA_le hA
 have hA3:=nxA_le hA2
 have hN1:=qAq L hL a ha ((qAe b).length:Int) (by omega) (by omega)
 have hv1:=nxV_range (L:=L) (a:=a) (n:=((qAe b).length:Int)) (by omega)
 have hN2:=qAq L hL (nxA L a) hA 4 (by omega) (by omega)
 have hv2:=nxV_range (L:=L) (a:=nxA L a) (n:=4) (by omega)
 have hN3:=qAq L hL (nxA L (nxA L a)) hA2 256 (by omega) (by omega)
 have hN4:=qAq L hL (nxA L (nxA L a)) hA2 8 (by omega) (by omega)
 have hv4:=nxV_range (L:=L) (a:=nxA L (nxA L a)) (n:=8) (by omega)
 obtain ⟨k,hk⟩:∃ k:Nat,nxV L a ((qAe b).length:Int)=(k:Int):=⟨(nxV L a ((qAe b).length:Int)).toNat,by omega⟩
 rw [hk] at hN1 hv1
 have hkl:k < b.length:=by omega
 have hfl:(qAu (qAe b)).length=b.length:=by rw [encB_flat,byteAV_length]
 have hcell:(qAu (qAe b))[k*1]?=some (.d (.int .u8 ((b[k]).toNat:Int))):=by rw [Nat.mul_one,encB_flat,byteAV_opt];simp [hkl]
 have hself:=rowDat_self b
 generalize hw3:nxV L (nxA L (nxA L a)) 256=v3 at hN3
 generalize hw4:nxV L (nxA L (nxA L a)) 8=v4 at hN4 hv4
 generalize nxA L (nxA L (nxA L a))=a3 at hN3 hN4 hA3
 generalize nxA L (nxA L a)=a2 at hN2 hN3 hN4 hA2
 generalize nxV L (nxA L a) 4=v at hN2 hv2 h2
 generalize nxA L a=a1 at hN1 hN2 hA
 have hlt:k*1 < (qAu (qAe b)).length:=by omega
 have hlt':((k:Int)).toNat*1 < (qAu (qAe b)).length:=by omega
 have hset:∀ n:Int,RowDat ((qAu (qAe b)).set (((k:Int)).toNat*1) (.d (.int .u8 (IntKind.u8.wrap n)))) 0 1 (qAe (b.set k (bOf n))):=fun n=>by rw [show ((k:Int)).toNat*1=k by simp];exact rowDat_set b k n
 have hw0:0≤IntKind.u64.wrap v4:=by simp only [IntKind.wrap,IntKind.signed,IntKind.bits];simp;omega
 have happ:=fun n=>rowDat_app b n
 generalize (b[k]).toNat=bk at hcell
 refine qAa hT Tryz.func11 rfl rfl rfl rfl ?_;intro E hE
 refine qAj ?_
 refine ww ?_
 refine qAd (bufApp0_ok (i:=1) hT rfl rfl rfl (.inr rfl) (by intro h;cases h) rfl rfl (by show (qAe b).length*(1+1)≤_;omega)) rfl ?_
 refine ww ?_
 refine qAb rfl (fun c1=>?_) (fun c1=>?_)
 ·exact absurd c1 (by simpa [hbl] using hb0)
 refine ww ?_
 refine qAd (qAy (H':=[.row (qAn L a1),.buf 1 (qAe b).length (qAu (qAe b))]) rfl rfl hN1 [0] (by decide) rfl rfl rfl rfl rfl rfl rfl) rfl ?_
 refine ww ?_
 refine qAd (qAy (H':=[.row (qAn L a2),.buf 1 (qAe b).length (qAu (qAe b))]) rfl rfl hN2 [0] (by decide) rfl rfl rfl rfl rfl rfl rfl) rfl ?_
 refine ww ?_
 refine qAb rfl (fun c2=>?_) (fun c2=>?_)
 ·refine ww ?_
  refine qAd (qAy (H':=[.row (qAn L a3),.buf 1 (qAe b).length (qAu (qAe b))]) rfl rfl hN3 [0] (by decide) rfl rfl rfl rfl rfl rfl rfl) rfl ?_
  refine ww ?_
  refine qAd (qAc (bufAddr_ok (sz:=1) hT rfl rfl rfl rfl (by omega))) rfl ?_
  refine ww ?_
  refine qBp (qLe hT rfl rfl rfl rfl rfl rfl rfl hlt rfl) rfl ?_
  refine wws ?_
  refine qEj 5 1 1 (qAe (b.set k (bOf v3))) rfl rfl (by rw [encB_length,List.length_set,hbl]) (hset v3) rfl ?_
  refine ww ?_
  exact rq ⟨(b.set k (bOf v3),a3),⟨by simp,hA3⟩,rfl,rfl⟩ rfl AV.le.dat
 refine ww ?_
 refine qAb rfl (fun c3=>?_) (fun c3=>?_)
 ·refine wwn ?_
  refine qCd (fun i=>bif Nat.beq i 3 then [1] else bif Nat.beq i 5 then [0] else bif Nat.beq i 10 then [1] else []) (fun i=>bif Nat.beq i 5 then [0] else bif Nat.beq i 10 then [1] else []) mixed (by kernel_rfl) ?_
  refine wwg ?_
  refine qIb (bufAddr_ok (sz:=1) hT rfl rfl rfl rfl (by omega)) rfl rfl ?_
  refine qAk (v:=.d (.int .u8 (bk:Int))) (os:=[]) (fun kk hk1 hk2=>bufLoad_ok hT rfl rfl ((hk2 1 List.mem_cons_self).trans rfl) rfl rfl hcell) rfl ?_
  refine wwg ?_
  refine qAk (os:=[.row (qAn L a3)]) (fun kk hk1 hk2=>qAy rfl rfl hN4 [0] (by decide) (by show [kk[0]?]=[some _];rw [hk2 0 List.mem_cons_self];rfl) rfl rfl rfl rfl rfl rfl) rfl ?_
  refine wwg ?_
  refine qIb (bufAddr_ok (sz:=1) hT rfl rfl rfl rfl (by omega)) rfl rfl ?_
  refine qAk (v:=.any) (os:=[.buf 1 (qAe b).length ((qAu (qAe b)).set (((k:Int)).toNat*1) (.d (.int .u8 (IntKind.u8.wrap ((BitVec.ofInt IntKind.u8.bits (bk:Int) ^^^ BitVec.ofInt IntKind.u8.bits (IntKind.u8.wrap (1*2 ^ min (IntKind.u64.wrap v4).toNat IntKind.u8.bits))).toNat:Int)))))]) (fun kk hk1 hk2=>by refine qLe (t:=5) (x:=.tmp 47) (y:=.tmp 46) (vy:=.d (.int .u8 (IntKind.u8.wrap ((BitVec.ofInt IntKind.u8.bits (bk:Int) ^^^ BitVec.ofInt IntKind.u8.bits (IntKind.u8.wrap (1*2 ^ min (IntKind.u64.wrap v4).toNat IntKind.u8.bits))).toNat:Int)))) hT rfl rfl rfl ?_ rfl rfl rfl hlt' rfl;exact (hk2 1 List.mem_cons_self).trans rfl) rfl ?_
  refine wwg ?_
  refine qEj 5 1 1 (qAe (b.set k (bOf ((BitVec.ofInt IntKind.u8.bits (bk:Int) ^^^ BitVec.ofInt IntKind.u8.bits (IntKind.u8.wrap (1*2 ^ min (IntKind.u64.wrap v4).toNat IntKind.u8.bits))).toNat:Int)))) rfl rfl (by rw [encB_length,List.length_set,hbl]) (hset _) rfl ?_
  refine ww ?_
  exact rq ⟨(b.set k (bOf ((BitVec.ofInt IntKind.u8.bits (bk:Int) ^^^ BitVec.ofInt IntKind.u8.bits (IntKind.u8.wrap (1*2 ^ min (IntKind.u64.wrap v4).toNat IntKind.u8.bits))).toNat:Int)),a3),⟨by simp,hA3⟩,rfl,rfl⟩ rfl AV.le.dat
 refine ww ?_
 refine qAb rfl (fun c4=>?_) (fun c4=>?_)
 ·exact absurd (by simpa using c4) h2
 refine ww ?_
 refine qAd (qAy (H':=[.row (qAn L a3),.buf 1 (qAe b).length (qAu (qAe b))]) rfl rfl hN3 [0] (by decide) rfl rfl rfl rfl rfl rfl rfl) rfl ?_
 refine ww ?_
 refine qAd (bufApp_ok hT rfl rfl rfl rfl rfl rfl (by show ((qAe b).length+1)*(1+1)≤_;omega)) rfl ?_
 refine wws ?_
 refine qEj 5 1 1 (qAe (b++[bOf v3])) rfl rfl (by rw [encB_length,List.length_append,hbl];rfl) (happ v3) rfl ?_
 refine ww ?_
 exact rq ⟨(b++[bOf v3],a3),⟨by simp,hA3⟩,rfl,rfl⟩ rfl AV.le.dat
theorem qPe (L:List Int) (hL:L.length≤1000000) (a:Nat) (ha:a≤L.length) (b:List UInt8) (hb:b.length≤1000000) :
  Spec Tryz.prog 11 [.ptr 0 0,.d (.sl 1 (qAe b))] [.row (qAn L a)] (fun r h'=>∃ x,SpoilP L b x∧r=.d (.sl 1 (qAe x.1))∧h'=[.row (qAn L x.2)]):=by
 by_cases h0:b=[]
 ·subst h0;exact qRf L hL a ha
 ·by_cases h2:nxV L (nxA L a) 4=2
  ·exact qRg L hL a ha b hb h0 h2
  ·exact qRh L hL a ha b hb h0 h2
theorem encTr_two {l:List Tp} {d:Int} {b:List UInt8} (h:qBg l d=(b,0)):l.length≤2:=by
 have hz:qBc l d=0:=by
  unfold qBg at h
  split at h
  ·rename_i hne
   exact absurd (congrArg Prod.snd h) hne
  ·rename_i hne
   simpa using hne
 unfold qBc at hz
 split at hz
 ·cases hz
 ·omega
theorem decRc_bnd {b:List UInt8} {pr ur:Int} {pin:List UInt8} {l:List Tp} {day:Int} (h:qEx b=some (pr,ur,pin,l,day)):pin.length≤16∧l.length≤2:=by
 unfold qEx at h
 split at h
 ·cases h
 ·rename_i hn
  split at h
  ·cases h
  ·rename_i l' d' hd
   simp only [Option.some.injEq,Prod.mk.injEq] at h
   obtain ⟨-,-,rfl,rfl,rfl⟩:=h
   refine ⟨by rw [List.length_take];omega,?_⟩
   unfold qCq at hd
   split at hd
   ·cases hd
   ·split at hd
    ·cases hd
    ·split at hd
     ·simp only [Option.some.injEq,Prod.mk.injEq] at hd
      obtain ⟨rfl,rfl⟩:=hd
      rename_i hv
      exact encTr_two hv
     ·cases hd
theorem qTo (o:Option (Int×Int×List UInt8×List Tp×Int)) (hb:∀ pr ur pin l day,o=some (pr,ur,pin,l,day)→pin.length≤16∧l.length≤2) :
  ∃ (x:Rcd) (e:Int),qUa o=.tup [qJh x,.I e]∧x.pin.length≤16∧x.tps.length≤2∧∀ pr ur pin l day,o=some (pr,ur,pin,l,day)→e=0∧x=⟨pr,ur,pin,l,day⟩:=by
 cases o with
 | none=>exact ⟨⟨0,0,[],[],0⟩,1,rfl,by simp,by simp,fun _ _ _ _ _ h=>by cases h⟩
 | some q =>
  obtain ⟨pr,ur,pin,l,day⟩:=q
  obtain ⟨h1,h2⟩:=hb _ _ _ _ _ rfl
  exact ⟨⟨pr,ur,pin,l,day⟩,0,rfl,h1,h2,fun _ _ _ _ _ h=>by cases h;exact ⟨rfl,rfl⟩⟩
structure RIn (x:Rcd) (b:List UInt8):Prop where
 pin:x.pin.length≤9223372036854775807
 tps:x.tps.length≤9223372036854775807
 hold:∀ t,t∈x.tps→t.holder.length≤9223372036854775807
 b:b.length≤9223372036854775807
theorem chipRecords_spec (x:Rcd) (b:List UInt8) (t:List Int) (hin:RIn x b) :
  Spec Tryz.prog 3 [qJh x,.d (.sl 1 (qAe b)),.d (.sl 1 (qLy t))] [] (fun r h'=>r=.d (.bool true)∧h'=[]):=by
 have hAw:=qLf
 have hLi:=qPg t
 by_cases hl:t.length≤400
 ·have hR:=qLm t (by omega)
  have hO:=qEi t (by omega) 0 (Nat.zero_le _) 2 (by omega) (by omega)
  have ha1:=nxA_le (L:=t) (a:=0) (Nat.zero_le _)
  have hRec:=qHj t (by omega) _ ha1
  generalize nxV t 0 2=v at hO
  generalize nxA t 0=a1 at hO ha1 hRec
  rw [decide_eq_true hl] at hLi
  unfold qJh
  refine qAa hT Tryz.func3 rfl rfl rfl rfl ?_;intro E hE
  refine qAj (qAj (qAj (qAj (qAj ?_))))
  refine qAl (qAg ?_)
  refine qAd (boxAt_ok (i0:=1) (cs:=qCg x.pr x.ur x.pin x.tps x.day) rfl rfl rfl) rfl ?_
  refine wws ?_
  refine wwn ?_
  refine wwc hLi ?_
  refine wwn ?_
  refine qAb rfl (fun c0=>?_) (fun c0=>?_)
  ·exact absurd c0 (by simp)
  refine wwn ?_
  refine qAd (qBe (v:=.ptr 0 0) (H':=[.row (qAn t 0),.row (qCg x.pr x.ur x.pin x.tps x.day),.room,.room,.room]) rfl rfl hR [0] (by decide) rfl rfl rfl rfl rfl rfl rfl) rfl ?_
  refine wws ?_
  refine qAl (qId (Q:=fun e τ h=>e=.normal∧∃ (x:Rcd) (b:List UInt8),RIn x b∧SubL τ [(1,.d (.sl 1 (qAe b))),(3,.ptr 1 0)]∧HLe h [.dead,.row (qCg x.pr x.ur x.pin x.tps x.day),.room,.room,.room]) ?_ ?_)
  ·refine wwn ?_
   refine qAd (qAy rfl rfl (hO) [0] (by decide) rfl rfl rfl rfl rfl rfl rfl) rfl ?_
   refine wwn ?_
   refine qAb rfl (fun c1=>?_) (fun c1=>?_)
   ·refine qAl (qAg ?_)
    refine wk hT rfl rfl ?_
    refine qFd (qQz rfl rfl (hRec) [0] (by decide) rfl rfl rfl rfl (fun _=>rfl) (fun _=>rfl) (fun _=>rfl)) rfl ?_
    rintro ⟨x1,a2⟩ ⟨⟨p1,p2,p3⟩,ha2⟩
    simp only at p1 p2 p3 ha2 ⊢
    unfold qJh
    refine wws ?_
    refine qAl (qAg ?_)
    refine wk hT rfl rfl ?_
    refine qFd (qQz rfl rfl (qHj t (by omega) a2 ha2) [0] (by decide) rfl rfl rfl rfl (fun _=>rfl) (fun _=>rfl) (fun _=>rfl)) rfl ?_
    rintro ⟨x2,a3⟩ ⟨⟨q1,q2,q3⟩,ha3⟩
    simp only at q1 q2 q3 ha3 ⊢
    have hE:=encRec28_spec x2.pr x2.ur x2.pin x2.tps x2.day (by omega) (by omega) (fun t' h=>by have:=q3 t' h;omega)
    have hrl:=recF_len (pr:=x2.pr) (ur:=x2.ur) (pin:=x2.pin) (l:=x2.tps) (day:=x2.day)
    generalize qIg x2.pr x2.ur x2.pin x2.tps x2.day=f2 at hE hrl
    obtain ⟨b2,e2⟩:=f2
    simp only at hE hrl
    have hO2:=qEi t (by omega) a3 ha3 2 (by omega) (by omega)
    have ha4:=nxA_le ha3
    generalize nxV t a3 2=v2 at hO2
    generalize nxA t a3=a4 at hO2 ha4
    have hSp:=qPe t (by omega) a4 ha4 b2 (by omega)
    have hin1:RIn x1 b2:=⟨by omega,by omega,fun t' h=>by have:=p3 t' h;omega,by omega⟩
    unfold qJh qCg
    refine wwc hE ?_
    refine wws ?_
    refine wwn ?_
    refine qAd (qAy rfl rfl (hO2) [0] (by decide) rfl rfl rfl rfl rfl rfl rfl) rfl ?_
    refine wwn ?_
    refine qAb rfl (fun c2=>?_) (fun c2=>?_)
    ·refine qAg ?_
     refine wk hT rfl rfl ?_
     refine wk hT rfl rfl ?_
     refine qFd (qQz rfl rfl (hSp) [0] (by decide) rfl rfl rfl rfl (fun _=>rfl) (fun _=>rfl) (fun _=>rfl)) rfl ?_
     rintro ⟨b3,a5⟩ ⟨r1,r2⟩
     simp only at r1 r2 ⊢
     refine wws ?_
     exact ⟨by first | rfl | trivial,x1,b3,⟨hin1.pin,hin1.tps,hin1.hold,by omega⟩,yf,⟨trivial,ObLe.refl _,ObLe.refl _,ObLe.refl _,ObLe.refl _,trivial⟩⟩
    ·refine wwe ?_
     exact ⟨by first | rfl | trivial,x1,b2,hin1,yf,⟨trivial,ObLe.refl _,ObLe.refl _,ObLe.refl _,ObLe.refl _,trivial⟩⟩
   ·refine wwe ?_
    exact ⟨rfl,x,b,hin,yf,⟨trivial,ObLe.refl _,ObLe.refl _,ObLe.refl _,ObLe.refl _,trivial⟩⟩
  ·clear hin hO hRec hR
   rintro e τ h ⟨rfl,x,b,hin,t1,t2⟩
   refine qBb t1 t2 ?_
   have hE1:=encRec_spec x.pr x.ur x.pin x.tps x.day hin.pin hin.tps hin.hold
   have hE2:=encRec28_spec x.pr x.ur x.pin x.tps x.day hin.pin hin.tps hin.hold
   have hD1:=decRc_spec b hin.b
   have hD2:=decRc28_spec b hin.b
   have hrl:=recF_len (pr:=x.pr) (ur:=x.ur) (pin:=x.pin) (l:=x.tps) (day:=x.day)
   have hD3:=decRc_spec (qIg x.pr x.ur x.pin x.tps x.day).1 (by omega)
   have hbk:=recF_back (pr:=x.pr) (ur:=x.ur) (pin:=x.pin) (l:=x.tps) (day:=x.day)
   obtain ⟨z,g,z1,z2,z3,z4⟩:=qTo (qEx b) (fun _ _ _ _ _ h=>decRc_bnd h)
   obtain ⟨w,i,w1,w2,w3,w4⟩:=qTo (qEx (qIg x.pr x.ur x.pin x.tps x.day).1) (fun _ _ _ _ _ h=>decRc_bnd h)
   rw [z1] at hD1 hD2
   rw [w1] at hD3
   have hw:(qIg x.pr x.ur x.pin x.tps x.day).2=0→i=0∧w=x:=fun h=>w4 _ _ _ _ _ (hbk h)
   clear z1 z4 w1 w4 hbk hin
   have hS1:=qDs (qIg x.pr x.ur x.pin x.tps x.day).1 (by omega)
   have hS2:=sameRc_self z.pr z.ur z.pin z.tps z.day (by omega) (by omega)
   have hS3:=sameRc_self w.pr w.ur w.pin w.tps w.day (by omega) (by omega)
   generalize qIg x.pr x.ur x.pin x.tps x.day=f at hE1 hE2 hrl hD3 hw hS1
   obtain ⟨y,e⟩:=f
   simp only at hE1 hE2 hrl hD3 hw hS1
   unfold qJh at hD1 hD2 hD3
   unfold qCg at hD1 hD2 hD3 hS2 hS3 ⊢
   refine wwn ?_
   refine wwc hE1 ?_
   refine wwn ?_
   refine wwc hE2 ?_
   refine wwn ?_
   refine wwc hD1 ?_
   refine wwn ?_
   refine wwc hD2 ?_
   refine wwn ?_
   refine wwc hD3 ?_
   refine wwn ?_
   have hgg:(g == g)=true:=by simp
   by_cases he:e=0
   ·obtain ⟨rfl,rfl⟩:=hw he
    subst he
    refine wwc hAw ?_
    refine wwn ?_
    try refine qBa hT rfl rfl (fun _=>rfl) ?_
    try refine wwn ?_
    refine wwgc hS1 ?_
    refine wwn ?_
    try refine qBa hT rfl rfl (fun _=>rfl) ?_
    try refine wwn ?_
    try rw [hgg]
    try refine qBa hT rfl rfl (fun _=>rfl) ?_
    try refine wwn ?_
    refine wwgc hS2 ?_
    refine wwn ?_
    try refine qBa hT rfl rfl (fun _=>rfl) ?_
    try refine wwn ?_
    refine wwgc hS3 ?_
    refine wwn ?_
    exact qEe ⟨rfl,rfl⟩ rfl (.bool (by decide)) rfl rfl rfl rfl
   ·refine wwc hAw ?_
    refine wwn ?_
    have hee:(e == e)=true:=by simp
    try rw [hee]
    try refine qBa hT rfl rfl (fun _=>rfl) ?_
    try refine wwn ?_
    refine wwgc hS1 ?_
    refine wwn ?_
    try refine qBa hT rfl rfl (fun _=>rfl) ?_
    try refine wwn ?_
    try rw [hgg]
    try refine qBa hT rfl rfl (fun _=>rfl) ?_
    try refine wwn ?_
    refine wwgc hS2 ?_
    refine wwn ?_
    try refine qBa hT rfl rfl (fun _=>rfl) ?_
    try refine wwn ?_
    have hne:(e != 0)=true:=by simpa using he
    rw [hne]
    refine qNv (.d (.bool false)) rfl rfl rfl rfl ?_
    refine wwn ?_
    refine qNv (.d (.bool false)) rfl rfl rfl rfl ?_
    refine wwn ?_
    exact qEe ⟨rfl,rfl⟩ rfl (.bool (by simp)) rfl rfl rfl rfl
 ·rw [decide_eq_false hl] at hLi
  unfold qJh
  refine qAa hT Tryz.func3 rfl rfl rfl rfl ?_;intro E hE
  refine qAj ?_
  refine qAl (qAg ?_)
  refine qAd (boxAt_ok (i0:=0) (cs:=qCg x.pr x.ur x.pin x.tps x.day) rfl rfl rfl) rfl ?_
  refine wws ?_
  refine wwn ?_
  refine wwc hLi ?_
  refine wwn ?_
  refine qAb rfl (fun c0=>?_) (fun c0=>?_)
  ·refine wwn ?_
   refine wwc hAw ?_
   refine wwn ?_
   exact wwr
  ·exact absurd c0 (by simp)
end Tdoc
