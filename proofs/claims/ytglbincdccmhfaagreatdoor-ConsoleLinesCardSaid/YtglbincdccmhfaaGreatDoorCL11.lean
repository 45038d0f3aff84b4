/- Part 11 of the proof: the texts UX. -/
import Derived.Test.YtglbincdccmhfaaGreatDoorCL10
set_option maxHeartbeats 8000000
set_option maxRecDepth 100000
set_option linter.unusedVariables false
set_option linter.unusedSimpArgs false
namespace Tdoc
open Go Go.Proofs
theorem keepR1_spec (a b n:Int) (st tx nu su gi na bi se:List UInt8) (ex:Int) (pr:List Int) (ba:Bool) (pt:Nat) (td:Int) (fa cu:List Int) (fl:List Flp) (P:List (List Dat)):Spec Tryz.prog 20 [.agg (qBn ⟨1,a,b,n,st,tx,nu,su,gi,na,bi,se,ex,pr,ba,pt,td,fa,cu,fl⟩ P)] [] (fun r h'=>r=.agg (qBn (qBk ⟨1,a,b,n,st,tx,nu,su,gi,na,bi,se,ex,pr,ba,pt,td,fa,cu,fl⟩) [])∧h'=[]):=by
 rw [show qBk ⟨1,a,b,n,st,tx,nu,su,gi,na,bi,se,ex,pr,ba,pt,td,fa,cu,fl⟩=(⟨1,0,0,n,[],[],[],[],[],[],[],[],0,[],false,0,0,[],[],[]⟩:Akt) from rfl]
 unfold qBn
 simp only
 generalize encI pr=epr
 generalize encI fa=efa
 generalize encI cu=ecu
 generalize qAp fl=efl
 refine qAb hT Tryz.func20 rfl rfl rfl rfl ?_;intro E hE
 refine qAg (qAd ?_)
 refine wws ?_
 refine qAg (qAd ?_)
 refine wws ?_
 refine qAk (l:=[(1,.ptr 0 0),(2,.ptr 1 0),(3,.ptr 2 0)]) (h':=[.row [.I 1,.I a,.I b,.I n,.d (.str st),.d (.str tx),.d (.str nu),.d (.str su),.d (.str gi),.d (.str na),.d (.str bi),.d (.str se),.I ex,.d (.sl 1 epr),.d (.bool ba),.d (.sl 5 P),.I td,.d (.sl 1 efa),.d (.sl 1 ecu),.d (.sl 3 efl)],.row (qJi 0),.row [.I 1,.I 0,.I 0,.I 0,.d (.str []),.d (.str []),.d (.str []),.d (.str []),.d (.str []),.d (.str []),.d (.str []),.d (.str []),.I 0,.sl 1 [] .full,.d (.bool false),.sl 5 [] .full,.I 0,.sl 1 [] .full,.sl 1 [] .full,.sl 3 [] .full]]) yf (HLe.refl _) ?_
 refine wwn ?_
 refine qAa rfl (fun q=>?_) (fun q=>absurd q (by decide))
 refine qAd ?_
 refine wws ?_
 refine wwe ?_
 refine qAg (qAd ?_)
 refine qAe (qAn (i:=2) (off:=0) hT rfl rfl rfl (qEf rfl)) rfl ?_
 refine qBh (qAw (i:=1) (off:=0) hT rfl rfl rfl (qMm rfl rfl)) (forceS_eq _ _) ?_
 refine ww ?_
 refine rq ⟨rfl,rfl⟩ rfl ?_
 exact AV.le.agg ⟨.refl _,.refl _,.refl _,.refl _,.refl _,.refl _,.refl _,.refl _,.refl _,.refl _,.refl _,.refl _,.refl _,.dat' rfl,.refl _,.dat' rfl,.refl _,.dat' rfl,.dat' rfl,.dat' rfl,trivial⟩
theorem keepR2_spec (a b n:Int) (st tx nu su gi na bi se:List UInt8) (ex:Int) (pr:List Int) (ba:Bool) (pt:Nat) (td:Int) (fa cu:List Int) (fl:List Flp) (P:List (List Dat)):Spec Tryz.prog 20 [.agg (qBn ⟨2,a,b,n,st,tx,nu,su,gi,na,bi,se,ex,pr,ba,pt,td,fa,cu,fl⟩ P)] [] (fun r h'=>r=.agg (qBn (qBk ⟨2,a,b,n,st,tx,nu,su,gi,na,bi,se,ex,pr,ba,pt,td,fa,cu,fl⟩) [])∧h'=[]):=by
 rw [show qBk ⟨2,a,b,n,st,tx,nu,su,gi,na,bi,se,ex,pr,ba,pt,td,fa,cu,fl⟩=(⟨2,0,0,0,st,tx,[],[],[],[],[],[],0,[],false,0,0,[],[],[]⟩:Akt) from rfl]
 unfold qBn
 simp only
 generalize encI pr=epr
 generalize encI fa=efa
 generalize encI cu=ecu
 generalize qAp fl=efl
 refine qAb hT Tryz.func20 rfl rfl rfl rfl ?_;intro E hE
 refine qAg (qAd ?_)
 refine wws ?_
 refine qAg (qAd ?_)
 refine wws ?_
 refine qAk (l:=[(1,.ptr 0 0),(2,.ptr 1 0),(3,.ptr 2 0)]) (h':=[.row [.I 2,.I a,.I b,.I n,.d (.str st),.d (.str tx),.d (.str nu),.d (.str su),.d (.str gi),.d (.str na),.d (.str bi),.d (.str se),.I ex,.d (.sl 1 epr),.d (.bool ba),.d (.sl 5 P),.I td,.d (.sl 1 efa),.d (.sl 1 ecu),.d (.sl 3 efl)],.row (qJi 0),.row [.I 2,.I 0,.I 0,.I 0,.d (.str []),.d (.str []),.d (.str []),.d (.str []),.d (.str []),.d (.str []),.d (.str []),.d (.str []),.I 0,.sl 1 [] .full,.d (.bool false),.sl 5 [] .full,.I 0,.sl 1 [] .full,.sl 1 [] .full,.sl 3 [] .full]]) yf (HLe.refl _) ?_
 refine wwn ?_
 refine qAa rfl (fun q=>absurd q (by decide)) (fun q=>?_)
 refine wwn ?_
 refine qAa rfl (fun q=>?_) (fun q=>absurd q (by decide))
 refine wwn ?_
 refine qAa rfl (fun q=>?_) (fun q=>absurd q (by decide))
 refine qAq (fun i=>bif Nat.beq i 1||Nat.beq i 3 then [0] else bif Nat.beq i 5||Nat.beq i 7 then [2] else []) (fun i=>bif Nat.beq i 5||Nat.beq i 7 then [2] else []) mixed (by kernel_rfl) ?_
 refine wwg ?_
 refine wwe ?_
 refine qAg (qAd ?_)
 refine qAe (qAn (i:=2) (off:=0) hT rfl rfl rfl (qEf rfl)) rfl ?_
 refine qBh (qAw (i:=1) (off:=0) hT rfl rfl rfl (qMm rfl rfl)) (forceS_eq _ _) ?_
 refine ww ?_
 refine rq ⟨rfl,rfl⟩ rfl ?_
 exact AV.le.agg ⟨.refl _,.refl _,.refl _,.refl _,.refl _,.refl _,.refl _,.refl _,.refl _,.refl _,.refl _,.refl _,.refl _,.dat' rfl,.refl _,.dat' rfl,.refl _,.dat' rfl,.dat' rfl,.dat' rfl,trivial⟩
theorem keepR3_spec (a b n:Int) (st tx nu su gi na bi se:List UInt8) (ex:Int) (pr:List Int) (ba:Bool) (pt:Nat) (td:Int) (fa cu:List Int) (fl:List Flp) (P:List (List Dat)):Spec Tryz.prog 20 [.agg (qBn ⟨3,a,b,n,st,tx,nu,su,gi,na,bi,se,ex,pr,ba,pt,td,fa,cu,fl⟩ P)] [] (fun r h'=>r=.agg (qBn (qBk ⟨3,a,b,n,st,tx,nu,su,gi,na,bi,se,ex,pr,ba,pt,td,fa,cu,fl⟩) [])∧h'=[]):=by
 rw [show qBk ⟨3,a,b,n,st,tx,nu,su,gi,na,bi,se,ex,pr,ba,pt,td,fa,cu,fl⟩=(⟨3,a,0,0,[],[],[],[],[],[],[],[],0,[],false,0,0,[],[],[]⟩:Akt) from rfl]
 unfold qBn
 simp only
 generalize encI pr=epr
 generalize encI fa=efa
 generalize encI cu=ecu
 generalize qAp fl=efl
 refine qAb hT Tryz.func20 rfl rfl rfl rfl ?_;intro E hE
 refine qAg (qAd ?_)
 refine wws ?_
 refine qAg (qAd ?_)
 refine wws ?_
 refine qAk (l:=[(1,.ptr 0 0),(2,.ptr 1 0),(3,.ptr 2 0)]) (h':=[.row [.I 3,.I a,.I b,.I n,.d (.str st),.d (.str tx),.d (.str nu),.d (.str su),.d (.str gi),.d (.str na),.d (.str bi),.d (.str se),.I ex,.d (.sl 1 epr),.d (.bool ba),.d (.sl 5 P),.I td,.d (.sl 1 efa),.d (.sl 1 ecu),.d (.sl 3 efl)],.row (qJi 0),.row [.I 3,.I 0,.I 0,.I 0,.d (.str []),.d (.str []),.d (.str []),.d (.str []),.d (.str []),.d (.str []),.d (.str []),.d (.str []),.I 0,.sl 1 [] .full,.d (.bool false),.sl 5 [] .full,.I 0,.sl 1 [] .full,.sl 1 [] .full,.sl 3 [] .full]]) yf (HLe.refl _) ?_
 refine wwn ?_
 refine qAa rfl (fun q=>absurd q (by decide)) (fun q=>?_)
 refine wwn ?_
 refine qAa rfl (fun q=>absurd q (by decide)) (fun q=>?_)
 refine wwn ?_
 refine qAa rfl (fun q=>absurd q (by decide)) (fun q=>?_)
 refine wwn ?_
 refine qAa rfl (fun q=>?_) (fun q=>absurd q (by decide))
 refine qAd ?_
 refine wws ?_
 refine wwe ?_
 refine qAg (qAd ?_)
 refine qAe (qAn (i:=2) (off:=0) hT rfl rfl rfl (qEf rfl)) rfl ?_
 refine qBh (qAw (i:=1) (off:=0) hT rfl rfl rfl (qMm rfl rfl)) (forceS_eq _ _) ?_
 refine ww ?_
 refine rq ⟨rfl,rfl⟩ rfl ?_
 exact AV.le.agg ⟨.refl _,.refl _,.refl _,.refl _,.refl _,.refl _,.refl _,.refl _,.refl _,.refl _,.refl _,.refl _,.refl _,.dat' rfl,.refl _,.dat' rfl,.refl _,.dat' rfl,.dat' rfl,.dat' rfl,trivial⟩
theorem keepR4_spec (a b n:Int) (st tx nu su gi na bi se:List UInt8) (ex:Int) (pr:List Int) (ba:Bool) (pt:Nat) (td:Int) (fa cu:List Int) (fl:List Flp) (P:List (List Dat)):Spec Tryz.prog 20 [.agg (qBn ⟨4,a,b,n,st,tx,nu,su,gi,na,bi,se,ex,pr,ba,pt,td,fa,cu,fl⟩ P)] [] (fun r h'=>r=.agg (qBn (qBk ⟨4,a,b,n,st,tx,nu,su,gi,na,bi,se,ex,pr,ba,pt,td,fa,cu,fl⟩) [])∧h'=[]):=by
 rw [show qBk ⟨4,a,b,n,st,tx,nu,su,gi,na,bi,se,ex,pr,ba,pt,td,fa,cu,fl⟩=(⟨4,a,0,0,[],[],nu,su,gi,na,bi,se,ex,pr,ba,0,0,fa,[],[]⟩:Akt) from rfl]
 unfold qBn
 simp only
 generalize encI pr=epr
 generalize encI fa=efa
 generalize encI cu=ecu
 generalize qAp fl=efl
 refine qAb hT Tryz.func20 rfl rfl rfl rfl ?_;intro E hE
 refine qAg (qAd ?_)
 refine wws ?_
 refine qAg (qAd ?_)
 refine wws ?_
 refine qAk (l:=[(1,.ptr 0 0),(2,.ptr 1 0),(3,.ptr 2 0)]) (h':=[.row [.I 4,.I a,.I b,.I n,.d (.str st),.d (.str tx),.d (.str nu),.d (.str su),.d (.str gi),.d (.str na),.d (.str bi),.d (.str se),.I ex,.d (.sl 1 epr),.d (.bool ba),.d (.sl 5 P),.I td,.d (.sl 1 efa),.d (.sl 1 ecu),.d (.sl 3 efl)],.row (qJi 0),.row [.I 4,.I 0,.I 0,.I 0,.d (.str []),.d (.str []),.d (.str []),.d (.str []),.d (.str []),.d (.str []),.d (.str []),.d (.str []),.I 0,.sl 1 [] .full,.d (.bool false),.sl 5 [] .full,.I 0,.sl 1 [] .full,.sl 1 [] .full,.sl 3 [] .full]]) yf (HLe.refl _) ?_
 refine wwn ?_
 refine qAa rfl (fun q=>absurd q (by decide)) (fun q=>?_)
 refine wwn ?_
 refine qAa rfl (fun q=>absurd q (by decide)) (fun q=>?_)
 refine wwn ?_
 refine qAa rfl (fun q=>absurd q (by decide)) (fun q=>?_)
 refine wwn ?_
 refine qAa rfl (fun q=>absurd q (by decide)) (fun q=>?_)
 refine wwn ?_
 refine qAa rfl (fun q=>?_) (fun q=>absurd q (by decide))
 refine qAg ?_
 refine qAq (fun i=>bif Nat.beq i 1||Nat.beq i 3 then [0] else bif Nat.beq i 5||Nat.beq i 7 then [2] else []) (fun i=>bif Nat.beq i 5||Nat.beq i 7 then [2] else []) mixed (by kernel_rfl) ?_
 refine wwg ?_
 refine qAd ?_
 refine wws ?_
 refine wwe ?_
 refine qAg (qAd ?_)
 refine qAe (qAn (i:=2) (off:=0) hT rfl rfl rfl (qEf rfl)) rfl ?_
 refine qBh (qAw (i:=1) (off:=0) hT rfl rfl rfl (qMm rfl rfl)) (forceS_eq _ _) ?_
 refine ww ?_
 refine rq ⟨rfl,rfl⟩ rfl ?_
 exact AV.le.agg ⟨.refl _,.refl _,.refl _,.refl _,.refl _,.refl _,.refl _,.refl _,.refl _,.refl _,.refl _,.refl _,.refl _,.refl _,.refl _,.dat' rfl,.refl _,.refl _,.dat' rfl,.dat' rfl,trivial⟩
theorem keepR5_spec (a b n:Int) (st tx nu su gi na bi se:List UInt8) (ex:Int) (pr:List Int) (ba:Bool) (pt:Nat) (td:Int) (fa cu:List Int) (fl:List Flp) (P:List (List Dat)):Spec Tryz.prog 20 [.agg (qBn ⟨5,a,b,n,st,tx,nu,su,gi,na,bi,se,ex,pr,ba,pt,td,fa,cu,fl⟩ P)] [] (fun r h'=>r=.agg (qBn (qBk ⟨5,a,b,n,st,tx,nu,su,gi,na,bi,se,ex,pr,ba,pt,td,fa,cu,fl⟩) [])∧h'=[]):=by
 rw [show qBk ⟨5,a,b,n,st,tx,nu,su,gi,na,bi,se,ex,pr,ba,pt,td,fa,cu,fl⟩=(⟨5,a,b,0,[],[],[],[],[],[],[],[],0,[],false,0,0,[],[],[]⟩:Akt) from rfl]
 unfold qBn
 simp only
 generalize encI pr=epr
 generalize encI fa=efa
 generalize encI cu=ecu
 generalize qAp fl=efl
 refine qAb hT Tryz.func20 rfl rfl rfl rfl ?_;intro E hE
 refine qAg (qAd ?_)
 refine wws ?_
 refine qAg (qAd ?_)
 refine wws ?_
 refine qAk (l:=[(1,.ptr 0 0),(2,.ptr 1 0),(3,.ptr 2 0)]) (h':=[.row [.I 5,.I a,.I b,.I n,.d (.str st),.d (.str tx),.d (.str nu),.d (.str su),.d (.str gi),.d (.str na),.d (.str bi),.d (.str se),.I ex,.d (.sl 1 epr),.d (.bool ba),.d (.sl 5 P),.I td,.d (.sl 1 efa),.d (.sl 1 ecu),.d (.sl 3 efl)],.row (qJi 0),.row [.I 5,.I 0,.I 0,.I 0,.d (.str []),.d (.str []),.d (.str []),.d (.str []),.d (.str []),.d (.str []),.d (.str []),.d (.str []),.I 0,.sl 1 [] .full,.d (.bool false),.sl 5 [] .full,.I 0,.sl 1 [] .full,.sl 1 [] .full,.sl 3 [] .full]]) yf (HLe.refl _) ?_
 refine wwn ?_
 refine qAa rfl (fun q=>absurd q (by decide)) (fun q=>?_)
 refine wwn ?_
 refine qAa rfl (fun q=>absurd q (by decide)) (fun q=>?_)
 refine wwn ?_
 refine qAa rfl (fun q=>absurd q (by decide)) (fun q=>?_)
 refine wwn ?_
 refine qAa rfl (fun q=>absurd q (by decide)) (fun q=>?_)
 refine wwn ?_
 refine qAa rfl (fun q=>absurd q (by decide)) (fun q=>?_)
 refine wwn ?_
 refine qAa rfl (fun q=>?_) (fun q=>absurd q (by decide))
 refine wwn ?_
 refine qAa rfl (fun q=>?_) (fun q=>absurd q (by decide))
 refine qAq (fun i=>bif Nat.beq i 1||Nat.beq i 3 then [0] else bif Nat.beq i 5||Nat.beq i 7 then [2] else []) (fun i=>bif Nat.beq i 5||Nat.beq i 7 then [2] else []) mixed (by kernel_rfl) ?_
 refine wwg ?_
 refine wwe ?_
 refine qAg (qAd ?_)
 refine qAe (qAn (i:=2) (off:=0) hT rfl rfl rfl (qEf rfl)) rfl ?_
 refine qBh (qAw (i:=1) (off:=0) hT rfl rfl rfl (qMm rfl rfl)) (forceS_eq _ _) ?_
 refine ww ?_
 refine rq ⟨rfl,rfl⟩ rfl ?_
 exact AV.le.agg ⟨.refl _,.refl _,.refl _,.refl _,.refl _,.refl _,.refl _,.refl _,.refl _,.refl _,.refl _,.refl _,.refl _,.dat' rfl,.refl _,.dat' rfl,.refl _,.dat' rfl,.dat' rfl,.dat' rfl,trivial⟩
theorem keepR6_spec (a b n:Int) (st tx nu su gi na bi se:List UInt8) (ex:Int) (pr:List Int) (ba:Bool) (pt:Nat) (td:Int) (fa cu:List Int) (fl:List Flp) (P:List (List Dat)):Spec Tryz.prog 20 [.agg (qBn ⟨6,a,b,n,st,tx,nu,su,gi,na,bi,se,ex,pr,ba,pt,td,fa,cu,fl⟩ P)] [] (fun r h'=>r=.agg (qBn (qBk ⟨6,a,b,n,st,tx,nu,su,gi,na,bi,se,ex,pr,ba,pt,td,fa,cu,fl⟩) [])∧h'=[]):=by
 rw [show qBk ⟨6,a,b,n,st,tx,nu,su,gi,na,bi,se,ex,pr,ba,pt,td,fa,cu,fl⟩=(⟨6,a,b,0,[],[],[],[],[],[],[],[],0,[],false,0,0,[],[],[]⟩:Akt) from rfl]
 unfold qBn
 simp only
 generalize encI pr=epr
 generalize encI fa=efa
 generalize encI cu=ecu
 generalize qAp fl=efl
 refine qAb hT Tryz.func20 rfl rfl rfl rfl ?_;intro E hE
 refine qAg (qAd ?_)
 refine wws ?_
 refine qAg (qAd ?_)
 refine wws ?_
 refine qAk (l:=[(1,.ptr 0 0),(2,.ptr 1 0),(3,.ptr 2 0)]) (h':=[.row [.I 6,.I a,.I b,.I n,.d (.str st),.d (.str tx),.d (.str nu),.d (.str su),.d (.str gi),.d (.str na),.d (.str bi),.d (.str se),.I ex,.d (.sl 1 epr),.d (.bool ba),.d (.sl 5 P),.I td,.d (.sl 1 efa),.d (.sl 1 ecu),.d (.sl 3 efl)],.row (qJi 0),.row [.I 6,.I 0,.I 0,.I 0,.d (.str []),.d (.str []),.d (.str []),.d (.str []),.d (.str []),.d (.str []),.d (.str []),.d (.str []),.I 0,.sl 1 [] .full,.d (.bool false),.sl 5 [] .full,.I 0,.sl 1 [] .full,.sl 1 [] .full,.sl 3 [] .full]]) yf (HLe.refl _) ?_
 refine wwn ?_
 refine qAa rfl (fun q=>absurd q (by decide)) (fun q=>?_)
 refine wwn ?_
 refine qAa rfl (fun q=>absurd q (by decide)) (fun q=>?_)
 refine wwn ?_
 refine qAa rfl (fun q=>absurd q (by decide)) (fun q=>?_)
 refine wwn ?_
 refine qAa rfl (fun q=>absurd q (by decide)) (fun q=>?_)
 refine wwn ?_
 refine qAa rfl (fun q=>absurd q (by decide)) (fun q=>?_)
 refine wwn ?_
 refine qAa rfl (fun q=>absurd q (by decide)) (fun q=>?_)
 refine wwn ?_
 refine qAa rfl (fun q=>?_) (fun q=>absurd q (by decide))
 refine wwn ?_
 refine qAa rfl (fun q=>?_) (fun q=>absurd q (by decide))
 refine qAq (fun i=>bif Nat.beq i 1||Nat.beq i 3 then [0] else bif Nat.beq i 5||Nat.beq i 7 then [2] else []) (fun i=>bif Nat.beq i 5||Nat.beq i 7 then [2] else []) mixed (by kernel_rfl) ?_
 refine wwg ?_
 refine wwe ?_
 refine qAg (qAd ?_)
 refine qAe (qAn (i:=2) (off:=0) hT rfl rfl rfl (qEf rfl)) rfl ?_
 refine qBh (qAw (i:=1) (off:=0) hT rfl rfl rfl (qMm rfl rfl)) (forceS_eq _ _) ?_
 refine ww ?_
 refine rq ⟨rfl,rfl⟩ rfl ?_
 exact AV.le.agg ⟨.refl _,.refl _,.refl _,.refl _,.refl _,.refl _,.refl _,.refl _,.refl _,.refl _,.refl _,.refl _,.refl _,.dat' rfl,.refl _,.dat' rfl,.refl _,.dat' rfl,.dat' rfl,.dat' rfl,trivial⟩
theorem keepR7_spec (a b n:Int) (st tx nu su gi na bi se:List UInt8) (ex:Int) (pr:List Int) (ba:Bool) (pt:Nat) (td:Int) (fa cu:List Int) (fl:List Flp) (P:List (List Dat)):Spec Tryz.prog 20 [.agg (qBn ⟨7,a,b,n,st,tx,nu,su,gi,na,bi,se,ex,pr,ba,pt,td,fa,cu,fl⟩ P)] [] (fun r h'=>r=.agg (qBn (qBk ⟨7,a,b,n,st,tx,nu,su,gi,na,bi,se,ex,pr,ba,pt,td,fa,cu,fl⟩) [])∧h'=[]):=by
 rw [show qBk ⟨7,a,b,n,st,tx,nu,su,gi,na,bi,se,ex,pr,ba,pt,td,fa,cu,fl⟩=(⟨7,a,b,n,[],[],[],[],[],[],[],[],0,[],false,0,0,[],[],[]⟩:Akt) from rfl]
 unfold qBn
 simp only
 generalize encI pr=epr
 generalize encI fa=efa
 generalize encI cu=ecu
 generalize qAp fl=efl
 refine qAb hT Tryz.func20 rfl rfl rfl rfl ?_;intro E hE
 refine qAg (qAd ?_)
 refine wws ?_
 refine qAg (qAd ?_)
 refine wws ?_
 refine qAk (l:=[(1,.ptr 0 0),(2,.ptr 1 0),(3,.ptr 2 0)]) (h':=[.row [.I 7,.I a,.I b,.I n,.d (.str st),.d (.str tx),.d (.str nu),.d (.str su),.d (.str gi),.d (.str na),.d (.str bi),.d (.str se),.I ex,.d (.sl 1 epr),.d (.bool ba),.d (.sl 5 P),.I td,.d (.sl 1 efa),.d (.sl 1 ecu),.d (.sl 3 efl)],.row (qJi 0),.row [.I 7,.I 0,.I 0,.I 0,.d (.str []),.d (.str []),.d (.str []),.d (.str []),.d (.str []),.d (.str []),.d (.str []),.d (.str []),.I 0,.sl 1 [] .full,.d (.bool false),.sl 5 [] .full,.I 0,.sl 1 [] .full,.sl 1 [] .full,.sl 3 [] .full]]) yf (HLe.refl _) ?_
 refine wwn ?_
 refine qAa rfl (fun q=>absurd q (by decide)) (fun q=>?_)
 refine wwn ?_
 refine qAa rfl (fun q=>absurd q (by decide)) (fun q=>?_)
 refine wwn ?_
 refine qAa rfl (fun q=>absurd q (by decide)) (fun q=>?_)
 refine wwn ?_
 refine qAa rfl (fun q=>absurd q (by decide)) (fun q=>?_)
 refine wwn ?_
 refine qAa rfl (fun q=>absurd q (by decide)) (fun q=>?_)
 refine wwn ?_
 refine qAa rfl (fun q=>absurd q (by decide)) (fun q=>?_)
 refine wwn ?_
 refine qAa rfl (fun q=>absurd q (by decide)) (fun q=>?_)
 refine wwn ?_
 refine qAa rfl (fun q=>absurd q (by decide)) (fun q=>?_)
 refine wwn ?_
 refine qAa rfl (fun q=>?_) (fun q=>absurd q (by decide))
 refine qAq (fun i=>bif Nat.beq i 1||Nat.beq i 3||Nat.beq i 5 then [0] else bif Nat.beq i 7||Nat.beq i 9||Nat.beq i 11 then [2] else []) (fun i=>bif Nat.beq i 7||Nat.beq i 9||Nat.beq i 11 then [2] else []) mixed (by kernel_rfl) ?_
 refine wwg ?_
 refine wwe ?_
 refine qAg (qAd ?_)
 refine qAe (qAn (i:=2) (off:=0) hT rfl rfl rfl (qEf rfl)) rfl ?_
 refine qBh (qAw (i:=1) (off:=0) hT rfl rfl rfl (qMm rfl rfl)) (forceS_eq _ _) ?_
 refine ww ?_
 refine rq ⟨rfl,rfl⟩ rfl ?_
 exact AV.le.agg ⟨.refl _,.refl _,.refl _,.refl _,.refl _,.refl _,.refl _,.refl _,.refl _,.refl _,.refl _,.refl _,.refl _,.dat' rfl,.refl _,.dat' rfl,.refl _,.dat' rfl,.dat' rfl,.dat' rfl,trivial⟩
theorem keepR8_spec (a b n:Int) (st tx nu su gi na bi se:List UInt8) (ex:Int) (pr:List Int) (ba:Bool) (pt:Nat) (td:Int) (fa cu:List Int) (fl:List Flp) (P:List (List Dat)):Spec Tryz.prog 20 [.agg (qBn ⟨8,a,b,n,st,tx,nu,su,gi,na,bi,se,ex,pr,ba,pt,td,fa,cu,fl⟩ P)] [] (fun r h'=>r=.agg (qBn (qBk ⟨8,a,b,n,st,tx,nu,su,gi,na,bi,se,ex,pr,ba,pt,td,fa,cu,fl⟩) [])∧h'=[]):=by
 rw [show qBk ⟨8,a,b,n,st,tx,nu,su,gi,na,bi,se,ex,pr,ba,pt,td,fa,cu,fl⟩=(⟨8,a,b,0,[],[],[],[],[],[],[],[],0,[],false,0,0,[],[],[]⟩:Akt) from rfl]
 unfold qBn
 simp only
 generalize encI pr=epr
 generalize encI fa=efa
 generalize encI cu=ecu
 generalize qAp fl=efl
 refine qAb hT Tryz.func20 rfl rfl rfl rfl ?_;intro E hE
 refine qAg (qAd ?_)
 refine wws ?_
 refine qAg (qAd ?_)
 refine wws ?_
 refine qAk (l:=[(1,.ptr 0 0),(2,.ptr 1 0),(3,.ptr 2 0)]) (h':=[.row [.I 8,.I a,.I b,.I n,.d (.str st),.d (.str tx),.d (.str nu),.d (.str su),.d (.str gi),.d (.str na),.d (.str bi),.d (.str se),.I ex,.d (.sl 1 epr),.d (.bool ba),.d (.sl 5 P),.I td,.d (.sl 1 efa),.d (.sl 1 ecu),.d (.sl 3 efl)],.row (qJi 0),.row [.I 8,.I 0,.I 0,.I 0,.d (.str []),.d (.str []),.d (.str []),.d (.str []),.d (.str []),.d (.str []),.d (.str []),.d (.str []),.I 0,.sl 1 [] .full,.d (.bool false),.sl 5 [] .full,.I 0,.sl 1 [] .full,.sl 1 [] .full,.sl 3 [] .full]]) yf (HLe.refl _) ?_
 refine wwn ?_
 refine qAa rfl (fun q=>absurd q (by decide)) (fun q=>?_)
 refine wwn ?_
 refine qAa rfl (fun q=>absurd q (by decide)) (fun q=>?_)
 refine wwn ?_
 refine qAa rfl (fun q=>absurd q (by decide)) (fun q=>?_)
 refine wwn ?_
 refine qAa rfl (fun q=>absurd q (by decide)) (fun q=>?_)
 refine wwn ?_
 refine qAa rfl (fun q=>absurd q (by decide)) (fun q=>?_)
 refine wwn ?_
 refine qAa rfl (fun q=>absurd q (by decide)) (fun q=>?_)
 refine wwn ?_
 refine qAa rfl (fun q=>absurd q (by decide)) (fun q=>?_)
 refine wwn ?_
 refine qAa rfl (fun q=>?_) (fun q=>absurd q (by decide))
 refine qAq (fun i=>bif Nat.beq i 1||Nat.beq i 3 then [0] else bif Nat.beq i 5||Nat.beq i 7 then [2] else []) (fun i=>bif Nat.beq i 5||Nat.beq i 7 then [2] else []) mixed (by kernel_rfl) ?_
 refine wwg ?_
 refine wwe ?_
 refine qAg (qAd ?_)
 refine qAe (qAn (i:=2) (off:=0) hT rfl rfl rfl (qEf rfl)) rfl ?_
 refine qBh (qAw (i:=1) (off:=0) hT rfl rfl rfl (qMm rfl rfl)) (forceS_eq _ _) ?_
 refine ww ?_
 refine rq ⟨rfl,rfl⟩ rfl ?_
 exact AV.le.agg ⟨.refl _,.refl _,.refl _,.refl _,.refl _,.refl _,.refl _,.refl _,.refl _,.refl _,.refl _,.refl _,.refl _,.dat' rfl,.refl _,.dat' rfl,.refl _,.dat' rfl,.dat' rfl,.dat' rfl,trivial⟩
theorem keepR9_spec (a b n:Int) (st tx nu su gi na bi se:List UInt8) (ex:Int) (pr:List Int) (ba:Bool) (pt:Nat) (td:Int) (fa cu:List Int) (fl:List Flp) (P:List (List Dat)):Spec Tryz.prog 20 [.agg (qBn ⟨9,a,b,n,st,tx,nu,su,gi,na,bi,se,ex,pr,ba,pt,td,fa,cu,fl⟩ P)] [] (fun r h'=>r=.agg (qBn (qBk ⟨9,a,b,n,st,tx,nu,su,gi,na,bi,se,ex,pr,ba,pt,td,fa,cu,fl⟩) [])∧h'=[]):=by
 rw [show qBk ⟨9,a,b,n,st,tx,nu,su,gi,na,bi,se,ex,pr,ba,pt,td,fa,cu,fl⟩=(⟨9,a,0,0,[],tx,[],[],[],[],[],[],0,[],false,0,0,[],[],[]⟩:Akt) from rfl]
 unfold qBn
 simp only
 generalize encI pr=epr
 generalize encI fa=efa
 generalize encI cu=ecu
 generalize qAp fl=efl
 refine qAb hT Tryz.func20 rfl rfl rfl rfl ?_;intro E hE
 refine qAg (qAd ?_)
 refine wws ?_
 refine qAg (qAd ?_)
 refine wws ?_
 refine qAk (l:=[(1,.ptr 0 0),(2,.ptr 1 0),(3,.ptr 2 0)]) (h':=[.row [.I 9,.I a,.I b,.I n,.d (.str st),.d (.str tx),.d (.str nu),.d (.str su),.d (.str gi),.d (.str na),.d (.str bi),.d (.str se),.I ex,.d (.sl 1 epr),.d (.bool ba),.d (.sl 5 P),.I td,.d (.sl 1 efa),.d (.sl 1 ecu),.d (.sl 3 efl)],.row (qJi 0),.row [.I 9,.I 0,.I 0,.I 0,.d (.str []),.d (.str []),.d (.str []),.d (.str []),.d (.str []),.d (.str []),.d (.str []),.d (.str []),.I 0,.sl 1 [] .full,.d (.bool false),.sl 5 [] .full,.I 0,.sl 1 [] .full,.sl 1 [] .full,.sl 3 [] .full]]) yf (HLe.refl _) ?_
 refine wwn ?_
 refine qAa rfl (fun q=>absurd q (by decide)) (fun q=>?_)
 refine wwn ?_
 refine qAa rfl (fun q=>absurd q (by decide)) (fun q=>?_)
 refine wwn ?_
 refine qAa rfl (fun q=>absurd q (by decide)) (fun q=>?_)
 refine wwn ?_
 refine qAa rfl (fun q=>absurd q (by decide)) (fun q=>?_)
 refine wwn ?_
 refine qAa rfl (fun q=>absurd q (by decide)) (fun q=>?_)
 refine wwn ?_
 refine qAa rfl (fun q=>absurd q (by decide)) (fun q=>?_)
 refine wwn ?_
 refine qAa rfl (fun q=>absurd q (by decide)) (fun q=>?_)
 refine wwn ?_
 refine qAa rfl (fun q=>absurd q (by decide)) (fun q=>?_)
 refine wwn ?_
 refine qAa rfl (fun q=>absurd q (by decide)) (fun q=>?_)
 refine wwn ?_
 refine qAa rfl (fun q=>?_) (fun q=>absurd q (by decide))
 refine qAq (fun i=>bif Nat.beq i 1||Nat.beq i 3 then [0] else bif Nat.beq i 5||Nat.beq i 7 then [2] else []) (fun i=>bif Nat.beq i 5||Nat.beq i 7 then [2] else []) mixed (by kernel_rfl) ?_
 refine wwg ?_
 refine wwe ?_
 refine qAg (qAd ?_)
 refine qAe (qAn (i:=2) (off:=0) hT rfl rfl rfl (qEf rfl)) rfl ?_
 refine qBh (qAw (i:=1) (off:=0) hT rfl rfl rfl (qMm rfl rfl)) (forceS_eq _ _) ?_
 refine ww ?_
 refine rq ⟨rfl,rfl⟩ rfl ?_
 exact AV.le.agg ⟨.refl _,.refl _,.refl _,.refl _,.refl _,.refl _,.refl _,.refl _,.refl _,.refl _,.refl _,.refl _,.refl _,.dat' rfl,.refl _,.dat' rfl,.refl _,.dat' rfl,.dat' rfl,.dat' rfl,trivial⟩
theorem keepR10_spec (a b n:Int) (st tx nu su gi na bi se:List UInt8) (ex:Int) (pr:List Int) (ba:Bool) (pt:Nat) (td:Int) (fa cu:List Int) (fl:List Flp) (P:List (List Dat)):Spec Tryz.prog 20 [.agg (qBn ⟨10,a,b,n,st,tx,nu,su,gi,na,bi,se,ex,pr,ba,pt,td,fa,cu,fl⟩ P)] [] (fun r h'=>r=.agg (qBn (qBk ⟨10,a,b,n,st,tx,nu,su,gi,na,bi,se,ex,pr,ba,pt,td,fa,cu,fl⟩) [])∧h'=[]):=by
 rw [show qBk ⟨10,a,b,n,st,tx,nu,su,gi,na,bi,se,ex,pr,ba,pt,td,fa,cu,fl⟩=(⟨10,a,b,0,[],[],[],[],[],[],[],[],0,[],false,0,0,[],cu,fl⟩:Akt) from rfl]
 unfold qBn
 simp only
 generalize encI pr=epr
 generalize encI fa=efa
 generalize encI cu=ecu
 generalize qAp fl=efl
 refine qAb hT Tryz.func20 rfl rfl rfl rfl ?_;intro E hE
 refine qAg (qAd ?_)
 refine wws ?_
 refine qAg (qAd ?_)
 refine wws ?_
 refine qAk (l:=[(1,.ptr 0 0),(2,.ptr 1 0),(3,.ptr 2 0)]) (h':=[.row [.I 10,.I a,.I b,.I n,.d (.str st),.d (.str tx),.d (.str nu),.d (.str su),.d (.str gi),.d (.str na),.d (.str bi),.d (.str se),.I ex,.d (.sl 1 epr),.d (.bool ba),.d (.sl 5 P),.I td,.d (.sl 1 efa),.d (.sl 1 ecu),.d (.sl 3 efl)],.row (qJi 0),.row [.I 10,.I 0,.I 0,.I 0,.d (.str []),.d (.str []),.d (.str []),.d (.str []),.d (.str []),.d (.str []),.d (.str []),.d (.str []),.I 0,.sl 1 [] .full,.d (.bool false),.sl 5 [] .full,.I 0,.sl 1 [] .full,.sl 1 [] .full,.sl 3 [] .full]]) yf (HLe.refl _) ?_
 refine wwn ?_
 refine qAa rfl (fun q=>absurd q (by decide)) (fun q=>?_)
 refine wwn ?_
 refine qAa rfl (fun q=>absurd q (by decide)) (fun q=>?_)
 refine wwn ?_
 refine qAa rfl (fun q=>absurd q (by decide)) (fun q=>?_)
 refine wwn ?_
 refine qAa rfl (fun q=>absurd q (by decide)) (fun q=>?_)
 refine wwn ?_
 refine qAa rfl (fun q=>absurd q (by decide)) (fun q=>?_)
 refine wwn ?_
 refine qAa rfl (fun q=>absurd q (by decide)) (fun q=>?_)
 refine wwn ?_
 refine qAa rfl (fun q=>absurd q (by decide)) (fun q=>?_)
 refine wwn ?_
 refine qAa rfl (fun q=>absurd q (by decide)) (fun q=>?_)
 refine wwn ?_
 refine qAa rfl (fun q=>absurd q (by decide)) (fun q=>?_)
 refine wwn ?_
 refine qAa rfl (fun q=>absurd q (by decide)) (fun q=>?_)
 refine wwn ?_
 refine qAa rfl (fun q=>?_) (fun q=>absurd q (by decide))
 refine qAq (fun i=>bif Nat.beq i 1||Nat.beq i 3||Nat.beq i 5 then [0] else bif Nat.beq i 7||Nat.beq i 9||Nat.beq i 11 then [2] else []) (fun i=>bif Nat.beq i 7||Nat.beq i 9||Nat.beq i 11 then [2] else []) mixed (by kernel_rfl) ?_
 refine wwg ?_
 refine wwe ?_
 refine qAg (qAd ?_)
 refine qAe (qAn (i:=2) (off:=0) hT rfl rfl rfl (qEf rfl)) rfl ?_
 refine qBh (qAw (i:=1) (off:=0) hT rfl rfl rfl (qMm rfl rfl)) (forceS_eq _ _) ?_
 refine ww ?_
 refine rq ⟨rfl,rfl⟩ rfl ?_
 exact AV.le.agg ⟨.refl _,.refl _,.refl _,.refl _,.refl _,.refl _,.refl _,.refl _,.refl _,.refl _,.refl _,.refl _,.refl _,.dat' rfl,.refl _,.dat' rfl,.refl _,.dat' rfl,.refl _,.refl _,trivial⟩
theorem keepR11_spec (a b n:Int) (st tx nu su gi na bi se:List UInt8) (ex:Int) (pr:List Int) (ba:Bool) (pt:Nat) (td:Int) (fa cu:List Int) (fl:List Flp) (P:List (List Dat)):Spec Tryz.prog 20 [.agg (qBn ⟨11,a,b,n,st,tx,nu,su,gi,na,bi,se,ex,pr,ba,pt,td,fa,cu,fl⟩ P)] [] (fun r h'=>r=.agg (qBn (qBk ⟨11,a,b,n,st,tx,nu,su,gi,na,bi,se,ex,pr,ba,pt,td,fa,cu,fl⟩) [])∧h'=[]):=by
 rw [show qBk ⟨11,a,b,n,st,tx,nu,su,gi,na,bi,se,ex,pr,ba,pt,td,fa,cu,fl⟩=(⟨11,0,0,0,st,tx,[],[],[],[],[],[],0,[],false,0,0,[],[],[]⟩:Akt) from rfl]
 unfold qBn
 simp only
 generalize encI pr=epr
 generalize encI fa=efa
 generalize encI cu=ecu
 generalize qAp fl=efl
 refine qAb hT Tryz.func20 rfl rfl rfl rfl ?_;intro E hE
 refine qAg (qAd ?_)
 refine wws ?_
 refine qAg (qAd ?_)
 refine wws ?_
 refine qAk (l:=[(1,.ptr 0 0),(2,.ptr 1 0),(3,.ptr 2 0)]) (h':=[.row [.I 11,.I a,.I b,.I n,.d (.str st),.d (.str tx),.d (.str nu),.d (.str su),.d (.str gi),.d (.str na),.d (.str bi),.d (.str se),.I ex,.d (.sl 1 epr),.d (.bool ba),.d (.sl 5 P),.I td,.d (.sl 1 efa),.d (.sl 1 ecu),.d (.sl 3 efl)],.row (qJi 0),.row [.I 11,.I 0,.I 0,.I 0,.d (.str []),.d (.str []),.d (.str []),.d (.str []),.d (.str []),.d (.str []),.d (.str []),.d (.str []),.I 0,.sl 1 [] .full,.d (.bool false),.sl 5 [] .full,.I 0,.sl 1 [] .full,.sl 1 [] .full,.sl 3 [] .full]]) yf (HLe.refl _) ?_
 refine wwn ?_
 refine qAa rfl (fun q=>absurd q (by decide)) (fun q=>?_)
 refine wwn ?_
 refine qAa rfl (fun q=>absurd q (by decide)) (fun q=>?_)
 refine wwn ?_
 refine qAa rfl (fun q=>?_) (fun q=>absurd q (by decide))
 refine qAq (fun i=>bif Nat.beq i 1||Nat.beq i 3 then [0] else bif Nat.beq i 5||Nat.beq i 7 then [2] else []) (fun i=>bif Nat.beq i 5||Nat.beq i 7 then [2] else []) mixed (by kernel_rfl) ?_
 refine wwg ?_
 refine wwe ?_
 refine qAg (qAd ?_)
 refine qAe (qAn (i:=2) (off:=0) hT rfl rfl rfl (qEf rfl)) rfl ?_
 refine qBh (qAw (i:=1) (off:=0) hT rfl rfl rfl (qMm rfl rfl)) (forceS_eq _ _) ?_
 refine ww ?_
 refine rq ⟨rfl,rfl⟩ rfl ?_
 exact AV.le.agg ⟨.refl _,.refl _,.refl _,.refl _,.refl _,.refl _,.refl _,.refl _,.refl _,.refl _,.refl _,.refl _,.refl _,.dat' rfl,.refl _,.dat' rfl,.refl _,.dat' rfl,.dat' rfl,.dat' rfl,trivial⟩
end Tdoc
