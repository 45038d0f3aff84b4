/- Part 12 of the proof: the texts UY SB SC SD UQ SE. -/
import Derived.Test.YtglbincdccmhfaaGreatDoorCL11
set_option maxHeartbeats 8000000
set_option maxRecDepth 100000
set_option linter.unusedVariables false
set_option linter.unusedSimpArgs false
namespace Tdoc
open Go Go.Proofs
theorem lineK_fin {x:Akt} (hk:1≤x.kind∧x.kind≤11):lineK x=if decide (x=qBk x) then (if (qGk x).2 then (qGk x).1 else []) else []:=by
 by_cases h:x=qBk x
 ·rw [decide_eq_true h,if_pos rfl]
  exact lineK_R hk h
 ·rw [decide_eq_false h]
  exact lineK_no fun hh=>h hh.2.1
theorem qTv (a b n:Int) (st tx nu su gi na bi se:List UInt8) (ex:Int) (pr:List Int) (ba:Bool) (pt:Nat) (td:Int) (fa cu:List Int) (fl:List Flp) (P:List (List Dat)) (hx:ActLen ⟨1,a,b,n,st,tx,nu,su,gi,na,bi,se,ex,pr,ba,pt,td,fa,cu,fl⟩ P):Spec Tryz.prog 7 [.agg (qBn ⟨1,a,b,n,st,tx,nu,su,gi,na,bi,se,ex,pr,ba,pt,td,fa,cu,fl⟩ P)] [] (fun r h'=>r=.d (.str (lineK ⟨1,a,b,n,st,tx,nu,su,gi,na,bi,se,ex,pr,ba,pt,td,fa,cu,fl⟩))∧h'=[]):=by
 have hK:=keepR1_spec a b n st tx nu su gi na bi se ex pr ba pt td fa cu fl P
 have hn:=hx.nums
 have ht:=hx.txts
 have hS:=qBx ⟨1,a,b,n,st,tx,nu,su,gi,na,bi,se,ex,pr,ba,pt,td,fa,cu,fl⟩ (qBk ⟨1,a,b,n,st,tx,nu,su,gi,na,bi,se,ex,pr,ba,pt,td,fa,cu,fl⟩) P [] hx.pts rfl (by simp only at hn ⊢;omega) (by simp only at hn ⊢;omega) (by simp only at hn ⊢;omega) (by simp only at hn ⊢;omega)
 simp only at hn ht
 rw [lineK_fin (show 1≤(1:Int)∧(1:Int)≤11 by omega)]
 have hnk:=nameR_at (show 1≤(1:Int)∧(1:Int)≤11 by omega)
 have b0:=@qCo 1
 obtain ⟨p0,hp0⟩:∃ p,p=((qBc 1,true):List UInt8×Bool):=⟨_,rfl⟩
 have b0:p0.1.length≤10:=by rw [hp0];exact b0
 obtain ⟨p1,hp1⟩:∃ p,p=lnF p0 (.num n):=⟨_,rfl⟩
 have b1:p1.1.length≤211310:=by
  have:=lnF_len (p:=p0) (f:=.num n) (trivial)
  rw [hp1];omega
 have m1:Spec Tryz.prog 21 [.ptr 0 0,.I n] [.row (lnO p0)] (fun r h'=>r=.tup []∧h'=[.row (lnO p1)]):=by rw [hp1];exact numLR_spec p0 _ (by omega)
 have hl:qGk ⟨1,a,b,n,st,tx,nu,su,gi,na,bi,se,ex,pr,ba,pt,td,fa,cu,fl⟩=p1:=by rw [hp1,hp0];rfl
 rw [hl]
 have hp0':p0=(p0.1,true):=by rw [hp0]
 have hnk:(qAi ([]::qBy))[(1:Int).toNat]?=some [.str p0.1]:=by rw [hp0];exact hnk
 clear hl hp1 hp0 hn ht hx b0 b1
 generalize decide (⟨1,a,b,n,st,tx,nu,su,gi,na,bi,se,ex,pr,ba,pt,td,fa,cu,fl⟩=qBk ⟨1,a,b,n,st,tx,nu,su,gi,na,bi,se,ex,pr,ba,pt,td,fa,cu,fl⟩)=sb at hS ⊢
 generalize qBk ⟨1,a,b,n,st,tx,nu,su,gi,na,bi,se,ex,pr,ba,pt,td,fa,cu,fl⟩=y at hK hS
 obtain ⟨k',a',b',n',st',tx',nu',su',gi',na',bi',se',ex',pr',ba',pt',td',fa',cu',fl'⟩:=y
 unfold qBn at *
 simp only at *
 refine qAb hT Tryz.func7 rfl rfl rfl rfl ?_;intro E hE
 refine qAt ?_
 refine qAg (qAd ?_)
 refine wws ?_
 refine ww ?_
 refine wwgc namesR_spec ?_
 refine wg hT rfl rfl rfl rfl rfl ?_
 refine wg hT rfl rfl rfl rfl rfl ?_
 refine wd hT rfl rfl rfl ?_
 refine wd hT rfl rfl rfl ?_
 refine qBl (v:=.agg [.I 1,.I a,.I b,.I n,.d (.str st),.d (.str tx),.d (.str nu),.d (.str su),.d (.str gi),.d (.str na),.d (.str bi),.d (.str se),.I ex,.d (.sl 1 (encI pr)),.d (.bool ba),.d (.sl 5 P),.I td,.d (.sl 1 (encI fa)),.d (.sl 1 (encI cu)),.d (.sl 3 (qAp fl))]) rfl rfl rfl rfl (fun hg=>⟨(sg (C:=True) hg).1,qAn (i:=1) (off:=0) hT rfl rfl rfl (qEf rfl)⟩) ?_
 refine qBl (v:=.agg [.I 1,.I a,.I b,.I n,.d (.str st),.d (.str tx),.d (.str nu),.d (.str su),.d (.str gi),.d (.str na),.d (.str bi),.d (.str se),.I ex,.d (.sl 1 (encI pr)),.d (.bool ba),.d (.sl 5 P),.I td,.d (.sl 1 (encI fa)),.d (.sl 1 (encI cu)),.d (.sl 3 (qAp fl))]) rfl rfl rfl rfl (fun hg=>⟨(sg (C:=True) hg).1,qAn (i:=1) (off:=0) hT rfl rfl rfl (qEf rfl)⟩) ?_
 refine wwgc hK ?_
 refine wwgc hS ?_
 refine ww ?_
 cases sb with
 | false =>
  refine qAa rfl (fun q=>?_) (fun q=>absurd q (by decide))
  refine ww ?_
  exact wwr
 | true =>
  refine qAa rfl (fun q=>absurd q (by decide)) (fun q=>?_)
  clear hK hS q
  refine wwn ?_
  refine qAq (fun i=>bif Nat.beq i 2 then [1] else bif Nat.beq i 6 then [0] else []) (fun i=>bif Nat.beq i 6 then [0] else []) mixed (by kernel_rfl) ?_
  refine wwdc namesR_spec ?_
  refine wwg ?_
  refine qAj (os:=[]) (fun k hk hr=>qAc (indexAddr_ok hT rfl rfl rfl rfl (by omega) hnk)) rfl ?_
  refine wwg ?_
  refine qAj (os:=[.row (lnO (p0.1,true))]) (v:=.ptr 0 0) (fun k hk hr=>boxAt_ok (i0:=0) (cs:=lnO (p0.1,true)) rfl rfl ((hr 0 (List.mem_singleton.2 rfl)).trans rfl)) rfl ?_
  rw [← hp0']
  refine wwg ?_
  refine qAg (qAd ?_)
  refine wws ?_
  refine qAk (l:=[(1,.ptr 1 0),(3,.ptr 0 0),(4,.ptr 2 0)]) (h':=[.row (lnO p0),.row [.I 1,.I a,.I b,.I n,.d (.str st),.d (.str tx),.d (.str nu),.d (.str su),.d (.str gi),.d (.str na),.d (.str bi),.d (.str se),.I ex,.d (.sl 1 (encI pr)),.d (.bool ba),.d (.sl 5 P),.I td,.d (.sl 1 (encI fa)),.d (.sl 1 (encI cu)),.d (.sl 3 (qAp fl))],.row [.d (.str nu),.d (.str su),.d (.str gi),.d (.str na),.d (.str bi),.d (.str se),.I ex,.d (.sl 1 (encI pr)),.d (.bool ba),.d (.sl 5 P),.I td,.d (.sl 1 (encI fa))]]) yf (HLe.refl _) ?_
  refine wwn ?_
  refine qAa rfl (fun q=>?_) (fun q=>absurd q (by decide))
  refine wwn ?_
  refine qAe (qAl (H':=[.row (lnO p1),.row [.I 1,.I a,.I b,.I n,.d (.str st),.d (.str tx),.d (.str nu),.d (.str su),.d (.str gi),.d (.str na),.d (.str bi),.d (.str se),.I ex,.d (.sl 1 (encI pr)),.d (.bool ba),.d (.sl 5 P),.I td,.d (.sl 1 (encI fa)),.d (.sl 1 (encI cu)),.d (.sl 3 (qAp fl))],.row [.d (.str nu),.d (.str su),.d (.str gi),.d (.str na),.d (.str bi),.d (.str se),.I ex,.d (.sl 1 (encI pr)),.d (.bool ba),.d (.sl 5 P),.I td,.d (.sl 1 (encI fa))]]) rfl rfl m1 [0] (by decide) rfl rfl rfl rfl rfl rfl rfl) rfl ?_
  refine wwn ?_
  refine qAa rfl (fun q=>absurd q (by decide)) (fun q=>?_)
  refine wwn ?_
  refine qAa rfl (fun q=>absurd q (by decide)) (fun q=>?_)
  refine wwn ?_
  obtain ⟨z,ok⟩:=p1
  unfold lnO
  refine ww ?_
  cases ok with
  | false =>
   refine qAa rfl (fun q=>?_) (fun q=>absurd q (by simp))
   refine ww ?_
   exact wwr
  | true =>
   refine qAa rfl (fun q=>absurd q (by simp)) (fun q=>?_)
   refine ww ?_
   exact wwr
theorem qTu (a b n:Int) (st tx nu su gi na bi se:List UInt8) (ex:Int) (pr:List Int) (ba:Bool) (pt:Nat) (td:Int) (fa cu:List Int) (fl:List Flp) (P:List (List Dat)) (hx:ActLen ⟨2,a,b,n,st,tx,nu,su,gi,na,bi,se,ex,pr,ba,pt,td,fa,cu,fl⟩ P):Spec Tryz.prog 7 [.agg (qBn ⟨2,a,b,n,st,tx,nu,su,gi,na,bi,se,ex,pr,ba,pt,td,fa,cu,fl⟩ P)] [] (fun r h'=>r=.d (.str (lineK ⟨2,a,b,n,st,tx,nu,su,gi,na,bi,se,ex,pr,ba,pt,td,fa,cu,fl⟩))∧h'=[]):=by
 have hK:=keepR2_spec a b n st tx nu su gi na bi se ex pr ba pt td fa cu fl P
 have hn:=hx.nums
 have ht:=hx.txts
 have hS:=qBx ⟨2,a,b,n,st,tx,nu,su,gi,na,bi,se,ex,pr,ba,pt,td,fa,cu,fl⟩ (qBk ⟨2,a,b,n,st,tx,nu,su,gi,na,bi,se,ex,pr,ba,pt,td,fa,cu,fl⟩) P [] hx.pts rfl (by simp only at hn ⊢;omega) (by simp only at hn ⊢;omega) (by simp only at hn ⊢;omega) (by simp only at hn ⊢;omega)
 simp only at hn ht
 rw [lineK_fin (show 1≤(2:Int)∧(2:Int)≤11 by omega)]
 have hnk:=nameR_at (show 1≤(2:Int)∧(2:Int)≤11 by omega)
 have b0:=@qCo 2
 obtain ⟨p0,hp0⟩:∃ p,p=((qBc 2,true):List UInt8×Bool):=⟨_,rfl⟩
 have b0:p0.1.length≤10:=by rw [hp0];exact b0
 obtain ⟨p1,hp1⟩:∃ p,p=lnF p0 (.txt st):=⟨_,rfl⟩
 have b1:p1.1.length≤211310:=by
  have:=lnF_len (p:=p0) (f:=.txt st) (show st.length≤12000 by omega)
  rw [hp1];omega
 have m1:Spec Tryz.prog 22 [.ptr 0 0,.d (.str st)] [.row (lnO p0)] (fun r h'=>r=.tup []∧h'=[.row (lnO p1)]):=by rw [hp1];exact textLR_spec p0 _ (by omega) (by omega)
 obtain ⟨p2,hp2⟩:∃ p,p=lnF p1 (.txt tx):=⟨_,rfl⟩
 have b2:p2.1.length≤422610:=by
  have:=lnF_len (p:=p1) (f:=.txt tx) (show tx.length≤12000 by omega)
  rw [hp2];omega
 have m2:Spec Tryz.prog 22 [.ptr 0 0,.d (.str tx)] [.row (lnO p1)] (fun r h'=>r=.tup []∧h'=[.row (lnO p2)]):=by rw [hp2];exact textLR_spec p1 _ (by omega) (by omega)
 have hl:qGk ⟨2,a,b,n,st,tx,nu,su,gi,na,bi,se,ex,pr,ba,pt,td,fa,cu,fl⟩=p2:=by rw [hp2,hp1,hp0];rfl
 rw [hl]
 have hp0':p0=(p0.1,true):=by rw [hp0]
 have hnk:(qAi ([]::qBy))[(2:Int).toNat]?=some [.str p0.1]:=by rw [hp0];exact hnk
 clear hl hp2 hp1 hp0 hn ht hx b0 b1 b2
 generalize decide (⟨2,a,b,n,st,tx,nu,su,gi,na,bi,se,ex,pr,ba,pt,td,fa,cu,fl⟩=qBk ⟨2,a,b,n,st,tx,nu,su,gi,na,bi,se,ex,pr,ba,pt,td,fa,cu,fl⟩)=sb at hS ⊢
 generalize qBk ⟨2,a,b,n,st,tx,nu,su,gi,na,bi,se,ex,pr,ba,pt,td,fa,cu,fl⟩=y at hK hS
 obtain ⟨k',a',b',n',st',tx',nu',su',gi',na',bi',se',ex',pr',ba',pt',td',fa',cu',fl'⟩:=y
 unfold qBn at *
 simp only at *
 refine qAb hT Tryz.func7 rfl rfl rfl rfl ?_;intro E hE
 refine qAt ?_
 refine qAg (qAd ?_)
 refine wws ?_
 refine ww ?_
 refine wwgc namesR_spec ?_
 refine wg hT rfl rfl rfl rfl rfl ?_
 refine wg hT rfl rfl rfl rfl rfl ?_
 refine wd hT rfl rfl rfl ?_
 refine wd hT rfl rfl rfl ?_
 refine qBl (v:=.agg [.I 2,.I a,.I b,.I n,.d (.str st),.d (.str tx),.d (.str nu),.d (.str su),.d (.str gi),.d (.str na),.d (.str bi),.d (.str se),.I ex,.d (.sl 1 (encI pr)),.d (.bool ba),.d (.sl 5 P),.I td,.d (.sl 1 (encI fa)),.d (.sl 1 (encI cu)),.d (.sl 3 (qAp fl))]) rfl rfl rfl rfl (fun hg=>⟨(sg (C:=True) hg).1,qAn (i:=1) (off:=0) hT rfl rfl rfl (qEf rfl)⟩) ?_
 refine qBl (v:=.agg [.I 2,.I a,.I b,.I n,.d (.str st),.d (.str tx),.d (.str nu),.d (.str su),.d (.str gi),.d (.str na),.d (.str bi),.d (.str se),.I ex,.d (.sl 1 (encI pr)),.d (.bool ba),.d (.sl 5 P),.I td,.d (.sl 1 (encI fa)),.d (.sl 1 (encI cu)),.d (.sl 3 (qAp fl))]) rfl rfl rfl rfl (fun hg=>⟨(sg (C:=True) hg).1,qAn (i:=1) (off:=0) hT rfl rfl rfl (qEf rfl)⟩) ?_
 refine wwgc hK ?_
 refine wwgc hS ?_
 refine ww ?_
 cases sb with
 | false =>
  refine qAa rfl (fun q=>?_) (fun q=>absurd q (by decide))
  refine ww ?_
  exact wwr
 | true =>
  refine qAa rfl (fun q=>absurd q (by decide)) (fun q=>?_)
  clear hK hS q
  refine wwn ?_
  refine qAq (fun i=>bif Nat.beq i 2 then [1] else bif Nat.beq i 6 then [0] else []) (fun i=>bif Nat.beq i 6 then [0] else []) mixed (by kernel_rfl) ?_
  refine wwdc namesR_spec ?_
  refine wwg ?_
  refine qAj (os:=[]) (fun k hk hr=>qAc (indexAddr_ok hT rfl rfl rfl rfl (by omega) hnk)) rfl ?_
  refine wwg ?_
  refine qAj (os:=[.row (lnO (p0.1,true))]) (v:=.ptr 0 0) (fun k hk hr=>boxAt_ok (i0:=0) (cs:=lnO (p0.1,true)) rfl rfl ((hr 0 (List.mem_singleton.2 rfl)).trans rfl)) rfl ?_
  rw [← hp0']
  refine wwg ?_
  refine qAg (qAd ?_)
  refine wws ?_
  refine qAk (l:=[(1,.ptr 1 0),(3,.ptr 0 0),(4,.ptr 2 0)]) (h':=[.row (lnO p0),.row [.I 2,.I a,.I b,.I n,.d (.str st),.d (.str tx),.d (.str nu),.d (.str su),.d (.str gi),.d (.str na),.d (.str bi),.d (.str se),.I ex,.d (.sl 1 (encI pr)),.d (.bool ba),.d (.sl 5 P),.I td,.d (.sl 1 (encI fa)),.d (.sl 1 (encI cu)),.d (.sl 3 (qAp fl))],.row [.d (.str nu),.d (.str su),.d (.str gi),.d (.str na),.d (.str bi),.d (.str se),.I ex,.d (.sl 1 (encI pr)),.d (.bool ba),.d (.sl 5 P),.I td,.d (.sl 1 (encI fa))]]) yf (HLe.refl _) ?_
  refine wwn ?_
  refine qAa rfl (fun q=>absurd q (by decide)) (fun q=>?_)
  refine wwn ?_
  refine qAa rfl (fun q=>?_) (fun q=>absurd q (by decide))
  refine wwn ?_
  refine qAe (qAl (H':=[.row (lnO p1),.row [.I 2,.I a,.I b,.I n,.d (.str st),.d (.str tx),.d (.str nu),.d (.str su),.d (.str gi),.d (.str na),.d (.str bi),.d (.str se),.I ex,.d (.sl 1 (encI pr)),.d (.bool ba),.d (.sl 5 P),.I td,.d (.sl 1 (encI fa)),.d (.sl 1 (encI cu)),.d (.sl 3 (qAp fl))],.row [.d (.str nu),.d (.str su),.d (.str gi),.d (.str na),.d (.str bi),.d (.str se),.I ex,.d (.sl 1 (encI pr)),.d (.bool ba),.d (.sl 5 P),.I td,.d (.sl 1 (encI fa))]]) rfl rfl m1 [0] (by decide) rfl rfl rfl rfl rfl rfl rfl) rfl ?_
  refine wwn ?_
  refine qAe (qAl (H':=[.row (lnO p2),.row [.I 2,.I a,.I b,.I n,.d (.str st),.d (.str tx),.d (.str nu),.d (.str su),.d (.str gi),.d (.str na),.d (.str bi),.d (.str se),.I ex,.d (.sl 1 (encI pr)),.d (.bool ba),.d (.sl 5 P),.I td,.d (.sl 1 (encI fa)),.d (.sl 1 (encI cu)),.d (.sl 3 (qAp fl))],.row [.d (.str nu),.d (.str su),.d (.str gi),.d (.str na),.d (.str bi),.d (.str se),.I ex,.d (.sl 1 (encI pr)),.d (.bool ba),.d (.sl 5 P),.I td,.d (.sl 1 (encI fa))]]) rfl rfl m2 [0] (by decide) rfl rfl rfl rfl rfl rfl rfl) rfl ?_
  refine wwn ?_
  refine qAa rfl (fun q=>absurd q (by decide)) (fun q=>?_)
  refine wwn ?_
  refine qAa rfl (fun q=>absurd q (by decide)) (fun q=>?_)
  refine wwn ?_
  obtain ⟨z,ok⟩:=p2
  unfold lnO
  refine ww ?_
  cases ok with
  | false =>
   refine qAa rfl (fun q=>?_) (fun q=>absurd q (by simp))
   refine ww ?_
   exact wwr
  | true =>
   refine qAa rfl (fun q=>absurd q (by simp)) (fun q=>?_)
   refine ww ?_
   exact wwr
theorem qTt (a b n:Int) (st tx nu su gi na bi se:List UInt8) (ex:Int) (pr:List Int) (ba:Bool) (pt:Nat) (td:Int) (fa cu:List Int) (fl:List Flp) (P:List (List Dat)) (hx:ActLen ⟨3,a,b,n,st,tx,nu,su,gi,na,bi,se,ex,pr,ba,pt,td,fa,cu,fl⟩ P):Spec Tryz.prog 7 [.agg (qBn ⟨3,a,b,n,st,tx,nu,su,gi,na,bi,se,ex,pr,ba,pt,td,fa,cu,fl⟩ P)] [] (fun r h'=>r=.d (.str (lineK ⟨3,a,b,n,st,tx,nu,su,gi,na,bi,se,ex,pr,ba,pt,td,fa,cu,fl⟩))∧h'=[]):=by
 have hK:=keepR3_spec a b n st tx nu su gi na bi se ex pr ba pt td fa cu fl P
 have hn:=hx.nums
 have ht:=hx.txts
 have hS:=qBx ⟨3,a,b,n,st,tx,nu,su,gi,na,bi,se,ex,pr,ba,pt,td,fa,cu,fl⟩ (qBk ⟨3,a,b,n,st,tx,nu,su,gi,na,bi,se,ex,pr,ba,pt,td,fa,cu,fl⟩) P [] hx.pts rfl (by simp only at hn ⊢;omega) (by simp only at hn ⊢;omega) (by simp only at hn ⊢;omega) (by simp only at hn ⊢;omega)
 simp only at hn ht
 rw [lineK_fin (show 1≤(3:Int)∧(3:Int)≤11 by omega)]
 have hnk:=nameR_at (show 1≤(3:Int)∧(3:Int)≤11 by omega)
 have b0:=@qCo 3
 obtain ⟨p0,hp0⟩:∃ p,p=((qBc 3,true):List UInt8×Bool):=⟨_,rfl⟩
 have b0:p0.1.length≤10:=by rw [hp0];exact b0
 obtain ⟨p1,hp1⟩:∃ p,p=lnF p0 (.num a):=⟨_,rfl⟩
 have b1:p1.1.length≤211310:=by
  have:=lnF_len (p:=p0) (f:=.num a) (trivial)
  rw [hp1];omega
 have m1:Spec Tryz.prog 21 [.ptr 0 0,.I a] [.row (lnO p0)] (fun r h'=>r=.tup []∧h'=[.row (lnO p1)]):=by rw [hp1];exact numLR_spec p0 _ (by omega)
 have hl:qGk ⟨3,a,b,n,st,tx,nu,su,gi,na,bi,se,ex,pr,ba,pt,td,fa,cu,fl⟩=p1:=by rw [hp1,hp0];rfl
 rw [hl]
 have hp0':p0=(p0.1,true):=by rw [hp0]
 have hnk:(qAi ([]::qBy))[(3:Int).toNat]?=some [.str p0.1]:=by rw [hp0];exact hnk
 clear hl hp1 hp0 hn ht hx b0 b1
 generalize decide (⟨3,a,b,n,st,tx,nu,su,gi,na,bi,se,ex,pr,ba,pt,td,fa,cu,fl⟩=qBk ⟨3,a,b,n,st,tx,nu,su,gi,na,bi,se,ex,pr,ba,pt,td,fa,cu,fl⟩)=sb at hS ⊢
 generalize qBk ⟨3,a,b,n,st,tx,nu,su,gi,na,bi,se,ex,pr,ba,pt,td,fa,cu,fl⟩=y at hK hS
 obtain ⟨k',a',b',n',st',tx',nu',su',gi',na',bi',se',ex',pr',ba',pt',td',fa',cu',fl'⟩:=y
 unfold qBn at *
 simp only at *
 refine qAb hT Tryz.func7 rfl rfl rfl rfl ?_;intro E hE
 refine qAt ?_
 refine qAg (qAd ?_)
 refine wws ?_
 refine ww ?_
 refine wwgc namesR_spec ?_
 refine wg hT rfl rfl rfl rfl rfl ?_
 refine wg hT rfl rfl rfl rfl rfl ?_
 refine wd hT rfl rfl rfl ?_
 refine wd hT rfl rfl rfl ?_
 refine qBl (v:=.agg [.I 3,.I a,.I b,.I n,.d (.str st),.d (.str tx),.d (.str nu),.d (.str su),.d (.str gi),.d (.str na),.d (.str bi),.d (.str se),.I ex,.d (.sl 1 (encI pr)),.d (.bool ba),.d (.sl 5 P),.I td,.d (.sl 1 (encI fa)),.d (.sl 1 (encI cu)),.d (.sl 3 (qAp fl))]) rfl rfl rfl rfl (fun hg=>⟨(sg (C:=True) hg).1,qAn (i:=1) (off:=0) hT rfl rfl rfl (qEf rfl)⟩) ?_
 refine qBl (v:=.agg [.I 3,.I a,.I b,.I n,.d (.str st),.d (.str tx),.d (.str nu),.d (.str su),.d (.str gi),.d (.str na),.d (.str bi),.d (.str se),.I ex,.d (.sl 1 (encI pr)),.d (.bool ba),.d (.sl 5 P),.I td,.d (.sl 1 (encI fa)),.d (.sl 1 (encI cu)),.d (.sl 3 (qAp fl))]) rfl rfl rfl rfl (fun hg=>⟨(sg (C:=True) hg).1,qAn (i:=1) (off:=0) hT rfl rfl rfl (qEf rfl)⟩) ?_
 refine wwgc hK ?_
 refine wwgc hS ?_
 refine ww ?_
 cases sb with
 | false =>
  refine qAa rfl (fun q=>?_) (fun q=>absurd q (by decide))
  refine ww ?_
  exact wwr
 | true =>
  refine qAa rfl (fun q=>absurd q (by decide)) (fun q=>?_)
  clear hK hS q
  refine wwn ?_
  refine qAq (fun i=>bif Nat.beq i 2 then [1] else bif Nat.beq i 6 then [0] else []) (fun i=>bif Nat.beq i 6 then [0] else []) mixed (by kernel_rfl) ?_
  refine wwdc namesR_spec ?_
  refine wwg ?_
  refine qAj (os:=[]) (fun k hk hr=>qAc (indexAddr_ok hT rfl rfl rfl rfl (by omega) hnk)) rfl ?_
  refine wwg ?_
  refine qAj (os:=[.row (lnO (p0.1,true))]) (v:=.ptr 0 0) (fun k hk hr=>boxAt_ok (i0:=0) (cs:=lnO (p0.1,true)) rfl rfl ((hr 0 (List.mem_singleton.2 rfl)).trans rfl)) rfl ?_
  rw [← hp0']
  refine wwg ?_
  refine qAg (qAd ?_)
  refine wws ?_
  refine qAk (l:=[(1,.ptr 1 0),(3,.ptr 0 0),(4,.ptr 2 0)]) (h':=[.row (lnO p0),.row [.I 3,.I a,.I b,.I n,.d (.str st),.d (.str tx),.d (.str nu),.d (.str su),.d (.str gi),.d (.str na),.d (.str bi),.d (.str se),.I ex,.d (.sl 1 (encI pr)),.d (.bool ba),.d (.sl 5 P),.I td,.d (.sl 1 (encI fa)),.d (.sl 1 (encI cu)),.d (.sl 3 (qAp fl))],.row [.d (.str nu),.d (.str su),.d (.str gi),.d (.str na),.d (.str bi),.d (.str se),.I ex,.d (.sl 1 (encI pr)),.d (.bool ba),.d (.sl 5 P),.I td,.d (.sl 1 (encI fa))]]) yf (HLe.refl _) ?_
  refine wwn ?_
  refine qAa rfl (fun q=>absurd q (by decide)) (fun q=>?_)
  refine wwn ?_
  refine qAa rfl (fun q=>absurd q (by decide)) (fun q=>?_)
  refine wwn ?_
  refine qAa rfl (fun q=>absurd q (by decide)) (fun q=>?_)
  refine wwn ?_
  refine qAa rfl (fun q=>?_) (fun q=>absurd q (by decide))
  refine wwn ?_
  refine qAe (qAl (H':=[.row (lnO p1),.row [.I 3,.I a,.I b,.I n,.d (.str st),.d (.str tx),.d (.str nu),.d (.str su),.d (.str gi),.d (.str na),.d (.str bi),.d (.str se),.I ex,.d (.sl 1 (encI pr)),.d (.bool ba),.d (.sl 5 P),.I td,.d (.sl 1 (encI fa)),.d (.sl 1 (encI cu)),.d (.sl 3 (qAp fl))],.row [.d (.str nu),.d (.str su),.d (.str gi),.d (.str na),.d (.str bi),.d (.str se),.I ex,.d (.sl 1 (encI pr)),.d (.bool ba),.d (.sl 5 P),.I td,.d (.sl 1 (encI fa))]]) rfl rfl m1 [0] (by decide) rfl rfl rfl rfl rfl rfl rfl) rfl ?_
  refine wwn ?_
  refine qAa rfl (fun q=>absurd q (by decide)) (fun q=>?_)
  refine wwn ?_
  refine qAa rfl (fun q=>absurd q (by decide)) (fun q=>?_)
  refine wwn ?_
  obtain ⟨z,ok⟩:=p1
  unfold lnO
  refine ww ?_
  cases ok with
  | false =>
   refine qAa rfl (fun q=>?_) (fun q=>absurd q (by simp))
   refine ww ?_
   exact wwr
  | true =>
   refine qAa rfl (fun q=>absurd q (by simp)) (fun q=>?_)
   refine ww ?_
   exact wwr
theorem qTs (a b n:Int) (st tx nu su gi na bi se:List UInt8) (ex:Int) (pr:List Int) (ba:Bool) (pt:Nat) (td:Int) (fa cu:List Int) (fl:List Flp) (P:List (List Dat)) (hx:ActLen ⟨4,a,b,n,st,tx,nu,su,gi,na,bi,se,ex,pr,ba,pt,td,fa,cu,fl⟩ P):Spec Tryz.prog 7 [.agg (qBn ⟨4,a,b,n,st,tx,nu,su,gi,na,bi,se,ex,pr,ba,pt,td,fa,cu,fl⟩ P)] [] (fun r h'=>r=.d (.str (lineK ⟨4,a,b,n,st,tx,nu,su,gi,na,bi,se,ex,pr,ba,pt,td,fa,cu,fl⟩))∧h'=[]):=by
 have hK:=keepR4_spec a b n st tx nu su gi na bi se ex pr ba pt td fa cu fl P
 have hn:=hx.nums
 have ht:=hx.txts
 have hS:=qBx ⟨4,a,b,n,st,tx,nu,su,gi,na,bi,se,ex,pr,ba,pt,td,fa,cu,fl⟩ (qBk ⟨4,a,b,n,st,tx,nu,su,gi,na,bi,se,ex,pr,ba,pt,td,fa,cu,fl⟩) P [] hx.pts rfl (by simp only at hn ⊢;omega) (by simp only at hn ⊢;omega) (by simp only at hn ⊢;omega) (by simp only at hn ⊢;omega)
 simp only at hn ht
 rw [lineK_fin (show 1≤(4:Int)∧(4:Int)≤11 by omega)]
 have hnk:=nameR_at (show 1≤(4:Int)∧(4:Int)≤11 by omega)
 have b0:=@qCo 4
 obtain ⟨p0,hp0⟩:∃ p,p=((qBc 4,true):List UInt8×Bool):=⟨_,rfl⟩
 have b0:p0.1.length≤10:=by rw [hp0];exact b0
 obtain ⟨p1,hp1⟩:∃ p,p=lnF p0 (.num a):=⟨_,rfl⟩
 have b1:p1.1.length≤211310:=by
  have:=lnF_len (p:=p0) (f:=.num a) (trivial)
  rw [hp1];omega
 have m1:Spec Tryz.prog 21 [.ptr 0 0,.I a] [.row (lnO p0)] (fun r h'=>r=.tup []∧h'=[.row (lnO p1)]):=by rw [hp1];exact numLR_spec p0 _ (by omega)
 obtain ⟨p2,hp2⟩:∃ p,p=lnF p1 (.txt nu):=⟨_,rfl⟩
 have b2:p2.1.length≤422610:=by
  have:=lnF_len (p:=p1) (f:=.txt nu) (show nu.length≤12000 by omega)
  rw [hp2];omega
 have m2:Spec Tryz.prog 22 [.ptr 0 0,.d (.str nu)] [.row (lnO p1)] (fun r h'=>r=.tup []∧h'=[.row (lnO p2)]):=by rw [hp2];exact textLR_spec p1 _ (by omega) (by omega)
 obtain ⟨p3,hp3⟩:∃ p,p=lnF p2 (.txt su):=⟨_,rfl⟩
 have b3:p3.1.length≤633910:=by
  have:=lnF_len (p:=p2) (f:=.txt su) (show su.length≤12000 by omega)
  rw [hp3];omega
 have m3:Spec Tryz.prog 22 [.ptr 0 0,.d (.str su)] [.row (lnO p2)] (fun r h'=>r=.tup []∧h'=[.row (lnO p3)]):=by rw [hp3];exact textLR_spec p2 _ (by omega) (by omega)
 obtain ⟨p4,hp4⟩:∃ p,p=lnF p3 (.txt gi):=⟨_,rfl⟩
 have b4:p4.1.length≤845210:=by
  have:=lnF_len (p:=p3) (f:=.txt gi) (show gi.length≤12000 by omega)
  rw [hp4];omega
 have m4:Spec Tryz.prog 22 [.ptr 0 0,.d (.str gi)] [.row (lnO p3)] (fun r h'=>r=.tup []∧h'=[.row (lnO p4)]):=by rw [hp4];exact textLR_spec p3 _ (by omega) (by omega)
 obtain ⟨p5,hp5⟩:∃ p,p=lnF p4 (.txt na):=⟨_,rfl⟩
 have b5:p5.1.length≤1056510:=by
  have:=lnF_len (p:=p4) (f:=.txt na) (show na.length≤12000 by omega)
  rw [hp5];omega
 have m5:Spec Tryz.prog 22 [.ptr 0 0,.d (.str na)] [.row (lnO p4)] (fun r h'=>r=.tup []∧h'=[.row (lnO p5)]):=by rw [hp5];exact textLR_spec p4 _ (by omega) (by omega)
 obtain ⟨p6,hp6⟩:∃ p,p=lnF p5 (.txt bi):=⟨_,rfl⟩
 have b6:p6.1.length≤1267810:=by
  have:=lnF_len (p:=p5) (f:=.txt bi) (show bi.length≤12000 by omega)
  rw [hp6];omega
 have m6:Spec Tryz.prog 22 [.ptr 0 0,.d (.str bi)] [.row (lnO p5)] (fun r h'=>r=.tup []∧h'=[.row (lnO p6)]):=by rw [hp6];exact textLR_spec p5 _ (by omega) (by omega)
 obtain ⟨p7,hp7⟩:∃ p,p=lnF p6 (.txt se):=⟨_,rfl⟩
 have b7:p7.1.length≤1479110:=by
  have:=lnF_len (p:=p6) (f:=.txt se) (show se.length≤12000 by omega)
  rw [hp7];omega
 have m7:Spec Tryz.prog 22 [.ptr 0 0,.d (.str se)] [.row (lnO p6)] (fun r h'=>r=.tup []∧h'=[.row (lnO p7)]):=by rw [hp7];exact textLR_spec p6 _ (by omega) (by omega)
 obtain ⟨p8,hp8⟩:∃ p,p=lnF p7 (.num ex):=⟨_,rfl⟩
 have b8:p8.1.length≤1690410:=by
  have:=lnF_len (p:=p7) (f:=.num ex) (trivial)
  rw [hp8];omega
 have m8:Spec Tryz.prog 21 [.ptr 0 0,.I ex] [.row (lnO p7)] (fun r h'=>r=.tup []∧h'=[.row (lnO p8)]):=by rw [hp8];exact numLR_spec p7 _ (by omega)
 obtain ⟨p9,hp9⟩:∃ p,p=lnF p8 (.flg ba):=⟨_,rfl⟩
 have b9:p9.1.length≤1901710:=by
  have:=lnF_len (p:=p8) (f:=.flg ba) (trivial)
  rw [hp9];omega
 have q9:=yesR_spec ba
 have m9:Spec Tryz.prog 23 [.ptr 0 0,.d (.str (if ba then [121,101,115] else [110,111])),.d (.bool true)] [.row (lnO p8)] (fun r h'=>r=.tup []∧h'=[.row (lnO p9)]):=by rw [hp9];exact addR_spec p8 _ _ (by omega) (by split <;> simp)
 obtain ⟨p10,hp10⟩:∃ p,p=lnF p9 (.nums pr):=⟨_,rfl⟩
 have b10:p10.1.length≤2113010:=by
  have:=lnF_len (p:=p9) (f:=.nums pr) (show pr.length≤3200 by omega)
  rw [hp10];omega
 have m10:Spec Tryz.prog 26 [.ptr 0 0,.d (.sl 1 (encI pr))] [.row (lnO p9)] (fun r h'=>r=.tup []∧h'=[.row (lnO p10)]):=by rw [hp10];exact numsLR_spec p9 _ (by omega) (by omega)
 obtain ⟨p11,hp11⟩:∃ p,p=lnF p10 (.nums fa):=⟨_,rfl⟩
 have b11:p11.1.length≤2324310:=by
  have:=lnF_len (p:=p10) (f:=.nums fa) (show fa.length≤3200 by omega)
  rw [hp11];omega
 have m11:Spec Tryz.prog 26 [.ptr 0 0,.d (.sl 1 (encI fa))] [.row (lnO p10)] (fun r h'=>r=.tup []∧h'=[.row (lnO p11)]):=by rw [hp11];exact numsLR_spec p10 _ (by omega) (by omega)
 have hl:qGk ⟨4,a,b,n,st,tx,nu,su,gi,na,bi,se,ex,pr,ba,pt,td,fa,cu,fl⟩=p11:=by rw [hp11,hp10,hp9,hp8,hp7,hp6,hp5,hp4,hp3,hp2,hp1,hp0];rfl
 rw [hl]
 have hp0':p0=(p0.1,true):=by rw [hp0]
 have hnk:(qAi ([]::qBy))[(4:Int).toNat]?=some [.str p0.1]:=by rw [hp0];exact hnk
 clear hl hp11 hp10 hp9 hp8 hp7 hp6 hp5 hp4 hp3 hp2 hp1 hp0 hn ht hx b0 b1 b2 b3 b4 b5 b6 b7 b8 b9 b10 b11
 generalize decide (⟨4,a,b,n,st,tx,nu,su,gi,na,bi,se,ex,pr,ba,pt,td,fa,cu,fl⟩=qBk ⟨4,a,b,n,st,tx,nu,su,gi,na,bi,se,ex,pr,ba,pt,td,fa,cu,fl⟩)=sb at hS ⊢
 generalize qBk ⟨4,a,b,n,st,tx,nu,su,gi,na,bi,se,ex,pr,ba,pt,td,fa,cu,fl⟩=y at hK hS
 obtain ⟨k',a',b',n',st',tx',nu',su',gi',na',bi',se',ex',pr',ba',pt',td',fa',cu',fl'⟩:=y
 unfold qBn at *
 simp only at *
 generalize (if ba then [121,101,115] else [110,111])=yw at *
 refine qAb hT Tryz.func7 rfl rfl rfl rfl ?_;intro E hE
 refine qAt ?_
 refine qAg (qAd ?_)
 refine wws ?_
 refine ww ?_
 refine wwgc namesR_spec ?_
 refine wg hT rfl rfl rfl rfl rfl ?_
 refine wg hT rfl rfl rfl rfl rfl ?_
 refine wd hT rfl rfl rfl ?_
 refine wd hT rfl rfl rfl ?_
 refine qBl (v:=.agg [.I 4,.I a,.I b,.I n,.d (.str st),.d (.str tx),.d (.str nu),.d (.str su),.d (.str gi),.d (.str na),.d (.str bi),.d (.str se),.I ex,.d (.sl 1 (encI pr)),.d (.bool ba),.d (.sl 5 P),.I td,.d (.sl 1 (encI fa)),.d (.sl 1 (encI cu)),.d (.sl 3 (qAp fl))]) rfl rfl rfl rfl (fun hg=>⟨(sg (C:=True) hg).1,qAn (i:=1) (off:=0) hT rfl rfl rfl (qEf rfl)⟩) ?_
 refine qBl (v:=.agg [.I 4,.I a,.I b,.I n,.d (.str st),.d (.str tx),.d (.str nu),.d (.str su),.d (.str gi),.d (.str na),.d (.str bi),.d (.str se),.I ex,.d (.sl 1 (encI pr)),.d (.bool ba),.d (.sl 5 P),.I td,.d (.sl 1 (encI fa)),.d (.sl 1 (encI cu)),.d (.sl 3 (qAp fl))]) rfl rfl rfl rfl (fun hg=>⟨(sg (C:=True) hg).1,qAn (i:=1) (off:=0) hT rfl rfl rfl (qEf rfl)⟩) ?_
 refine wwgc hK ?_
 refine wwgc hS ?_
 refine ww ?_
 cases sb with
 | false =>
  refine qAa rfl (fun q=>?_) (fun q=>absurd q (by decide))
  refine ww ?_
  exact wwr
 | true =>
  refine qAa rfl (fun q=>absurd q (by decide)) (fun q=>?_)
  clear hK hS q
  refine wwn ?_
  refine qAq (fun i=>bif Nat.beq i 2 then [1] else bif Nat.beq i 6 then [0] else []) (fun i=>bif Nat.beq i 6 then [0] else []) mixed (by kernel_rfl) ?_
  refine wwdc namesR_spec ?_
  refine wwg ?_
  refine qAj (os:=[]) (fun k hk hr=>qAc (indexAddr_ok hT rfl rfl rfl rfl (by omega) hnk)) rfl ?_
  refine wwg ?_
  refine qAj (os:=[.row (lnO (p0.1,true))]) (v:=.ptr 0 0) (fun k hk hr=>boxAt_ok (i0:=0) (cs:=lnO (p0.1,true)) rfl rfl ((hr 0 (List.mem_singleton.2 rfl)).trans rfl)) rfl ?_
  rw [← hp0']
  refine wwg ?_
  refine qAg (qAd ?_)
  refine wws ?_
  refine qAk (l:=[(1,.ptr 1 0),(3,.ptr 0 0),(4,.ptr 2 0)]) (h':=[.row (lnO p0),.row [.I 4,.I a,.I b,.I n,.d (.str st),.d (.str tx),.d (.str nu),.d (.str su),.d (.str gi),.d (.str na),.d (.str bi),.d (.str se),.I ex,.d (.sl 1 (encI pr)),.d (.bool ba),.d (.sl 5 P),.I td,.d (.sl 1 (encI fa)),.d (.sl 1 (encI cu)),.d (.sl 3 (qAp fl))],.row [.d (.str nu),.d (.str su),.d (.str gi),.d (.str na),.d (.str bi),.d (.str se),.I ex,.d (.sl 1 (encI pr)),.d (.bool ba),.d (.sl 5 P),.I td,.d (.sl 1 (encI fa))]]) yf (HLe.refl _) ?_
  refine wwn ?_
  refine qAa rfl (fun q=>absurd q (by decide)) (fun q=>?_)
  refine wwn ?_
  refine qAa rfl (fun q=>absurd q (by decide)) (fun q=>?_)
  refine wwn ?_
  refine qAa rfl (fun q=>absurd q (by decide)) (fun q=>?_)
  refine wwn ?_
  refine qAa rfl (fun q=>absurd q (by decide)) (fun q=>?_)
  refine wwn ?_
  refine qAa rfl (fun q=>?_) (fun q=>absurd q (by decide))
  refine wwn ?_
  refine qAe (qAl (H':=[.row (lnO p1),.row [.I 4,.I a,.I b,.I n,.d (.str st),.d (.str tx),.d (.str nu),.d (.str su),.d (.str gi),.d (.str na),.d (.str bi),.d (.str se),.I ex,.d (.sl 1 (encI pr)),.d (.bool ba),.d (.sl 5 P),.I td,.d (.sl 1 (encI fa)),.d (.sl 1 (encI cu)),.d (.sl 3 (qAp fl))],.row [.d (.str nu),.d (.str su),.d (.str gi),.d (.str na),.d (.str bi),.d (.str se),.I ex,.d (.sl 1 (encI pr)),.d (.bool ba),.d (.sl 5 P),.I td,.d (.sl 1 (encI fa))]]) rfl rfl m1 [0] (by decide) rfl rfl rfl rfl rfl rfl rfl) rfl ?_
  refine wwn ?_
  refine qAe (qAl (H':=[.row (lnO p2),.row [.I 4,.I a,.I b,.I n,.d (.str st),.d (.str tx),.d (.str nu),.d (.str su),.d (.str gi),.d (.str na),.d (.str bi),.d (.str se),.I ex,.d (.sl 1 (encI pr)),.d (.bool ba),.d (.sl 5 P),.I td,.d (.sl 1 (encI fa)),.d (.sl 1 (encI cu)),.d (.sl 3 (qAp fl))],.row [.d (.str nu),.d (.str su),.d (.str gi),.d (.str na),.d (.str bi),.d (.str se),.I ex,.d (.sl 1 (encI pr)),.d (.bool ba),.d (.sl 5 P),.I td,.d (.sl 1 (encI fa))]]) rfl rfl m2 [0] (by decide) rfl rfl rfl rfl rfl rfl rfl) rfl ?_
  refine wwn ?_
  refine qAe (qAl (H':=[.row (lnO p3),.row [.I 4,.I a,.I b,.I n,.d (.str st),.d (.str tx),.d (.str nu),.d (.str su),.d (.str gi),.d (.str na),.d (.str bi),.d (.str se),.I ex,.d (.sl 1 (encI pr)),.d (.bool ba),.d (.sl 5 P),.I td,.d (.sl 1 (encI fa)),.d (.sl 1 (encI cu)),.d (.sl 3 (qAp fl))],.row [.d (.str nu),.d (.str su),.d (.str gi),.d (.str na),.d (.str bi),.d (.str se),.I ex,.d (.sl 1 (encI pr)),.d (.bool ba),.d (.sl 5 P),.I td,.d (.sl 1 (encI fa))]]) rfl rfl m3 [0] (by decide) rfl rfl rfl rfl rfl rfl rfl) rfl ?_
  refine wwn ?_
  refine qAe (qAl (H':=[.row (lnO p4),.row [.I 4,.I a,.I b,.I n,.d (.str st),.d (.str tx),.d (.str nu),.d (.str su),.d (.str gi),.d (.str na),.d (.str bi),.d (.str se),.I ex,.d (.sl 1 (encI pr)),.d (.bool ba),.d (.sl 5 P),.I td,.d (.sl 1 (encI fa)),.d (.sl 1 (encI cu)),.d (.sl 3 (qAp fl))],.row [.d (.str nu),.d (.str su),.d (.str gi),.d (.str na),.d (.str bi),.d (.str se),.I ex,.d (.sl 1 (encI pr)),.d (.bool ba),.d (.sl 5 P),.I td,.d (.sl 1 (encI fa))]]) rfl rfl m4 [0] (by decide) rfl rfl rfl rfl rfl rfl rfl) rfl ?_
  refine wwn ?_
  refine qAe (qAl (H':=[.row (lnO p5),.row [.I 4,.I a,.I b,.I n,.d (.str st),.d (.str tx),.d (.str nu),.d (.str su),.d (.str gi),.d (.str na),.d (.str bi),.d (.str se),.I ex,.d (.sl 1 (encI pr)),.d (.bool ba),.d (.sl 5 P),.I td,.d (.sl 1 (encI fa)),.d (.sl 1 (encI cu)),.d (.sl 3 (qAp fl))],.row [.d (.str nu),.d (.str su),.d (.str gi),.d (.str na),.d (.str bi),.d (.str se),.I ex,.d (.sl 1 (encI pr)),.d (.bool ba),.d (.sl 5 P),.I td,.d (.sl 1 (encI fa))]]) rfl rfl m5 [0] (by decide) rfl rfl rfl rfl rfl rfl rfl) rfl ?_
  refine wwn ?_
  refine qAe (qAl (H':=[.row (lnO p6),.row [.I 4,.I a,.I b,.I n,.d (.str st),.d (.str tx),.d (.str nu),.d (.str su),.d (.str gi),.d (.str na),.d (.str bi),.d (.str se),.I ex,.d (.sl 1 (encI pr)),.d (.bool ba),.d (.sl 5 P),.I td,.d (.sl 1 (encI fa)),.d (.sl 1 (encI cu)),.d (.sl 3 (qAp fl))],.row [.d (.str nu),.d (.str su),.d (.str gi),.d (.str na),.d (.str bi),.d (.str se),.I ex,.d (.sl 1 (encI pr)),.d (.bool ba),.d (.sl 5 P),.I td,.d (.sl 1 (encI fa))]]) rfl rfl m6 [0] (by decide) rfl rfl rfl rfl rfl rfl rfl) rfl ?_
  refine wwn ?_
  refine qAe (qAl (H':=[.row (lnO p7),.row [.I 4,.I a,.I b,.I n,.d (.str st),.d (.str tx),.d (.str nu),.d (.str su),.d (.str gi),.d (.str na),.d (.str bi),.d (.str se),.I ex,.d (.sl 1 (encI pr)),.d (.bool ba),.d (.sl 5 P),.I td,.d (.sl 1 (encI fa)),.d (.sl 1 (encI cu)),.d (.sl 3 (qAp fl))],.row [.d (.str nu),.d (.str su),.d (.str gi),.d (.str na),.d (.str bi),.d (.str se),.I ex,.d (.sl 1 (encI pr)),.d (.bool ba),.d (.sl 5 P),.I td,.d (.sl 1 (encI fa))]]) rfl rfl m7 [0] (by decide) rfl rfl rfl rfl rfl rfl rfl) rfl ?_
  refine wwn ?_
  refine qAe (qAl (H':=[.row (lnO p8),.row [.I 4,.I a,.I b,.I n,.d (.str st),.d (.str tx),.d (.str nu),.d (.str su),.d (.str gi),.d (.str na),.d (.str bi),.d (.str se),.I ex,.d (.sl 1 (encI pr)),.d (.bool ba),.d (.sl 5 P),.I td,.d (.sl 1 (encI fa)),.d (.sl 1 (encI cu)),.d (.sl 3 (qAp fl))],.row [.d (.str nu),.d (.str su),.d (.str gi),.d (.str na),.d (.str bi),.d (.str se),.I ex,.d (.sl 1 (encI pr)),.d (.bool ba),.d (.sl 5 P),.I td,.d (.sl 1 (encI fa))]]) rfl rfl m8 [0] (by decide) rfl rfl rfl rfl rfl rfl rfl) rfl ?_
  refine wwn ?_
  refine wwc q9 ?_
  refine wwn ?_
  refine qAe (qAl (H':=[.row (lnO p9),.row [.I 4,.I a,.I b,.I n,.d (.str st),.d (.str tx),.d (.str nu),.d (.str su),.d (.str gi),.d (.str na),.d (.str bi),.d (.str se),.I ex,.d (.sl 1 (encI pr)),.d (.bool ba),.d (.sl 5 P),.I td,.d (.sl 1 (encI fa)),.d (.sl 1 (encI cu)),.d (.sl 3 (qAp fl))],.row [.d (.str nu),.d (.str su),.d (.str gi),.d (.str na),.d (.str bi),.d (.str se),.I ex,.d (.sl 1 (encI pr)),.d (.bool ba),.d (.sl 5 P),.I td,.d (.sl 1 (encI fa))]]) rfl rfl m9 [0] (by decide) rfl rfl rfl rfl rfl rfl rfl) rfl ?_
  refine wwn ?_
  refine qAe (qAl (H':=[.row (lnO p10),.row [.I 4,.I a,.I b,.I n,.d (.str st),.d (.str tx),.d (.str nu),.d (.str su),.d (.str gi),.d (.str na),.d (.str bi),.d (.str se),.I ex,.d (.sl 1 (encI pr)),.d (.bool ba),.d (.sl 5 P),.I td,.d (.sl 1 (encI fa)),.d (.sl 1 (encI cu)),.d (.sl 3 (qAp fl))],.row [.d (.str nu),.d (.str su),.d (.str gi),.d (.str na),.d (.str bi),.d (.str se),.I ex,.d (.sl 1 (encI pr)),.d (.bool ba),.d (.sl 5 P),.I td,.d (.sl 1 (encI fa))]]) rfl rfl m10 [0] (by decide) rfl rfl rfl rfl rfl rfl rfl) rfl ?_
  refine wwn ?_
  refine qAe (qAl (H':=[.row (lnO p11),.row [.I 4,.I a,.I b,.I n,.d (.str st),.d (.str tx),.d (.str nu),.d (.str su),.d (.str gi),.d (.str na),.d (.str bi),.d (.str se),.I ex,.d (.sl 1 (encI pr)),.d (.bool ba),.d (.sl 5 P),.I td,.d (.sl 1 (encI fa)),.d (.sl 1 (encI cu)),.d (.sl 3 (qAp fl))],.row [.d (.str nu),.d (.str su),.d (.str gi),.d (.str na),.d (.str bi),.d (.str se),.I ex,.d (.sl 1 (encI pr)),.d (.bool ba),.d (.sl 5 P),.I td,.d (.sl 1 (encI fa))]]) rfl rfl m11 [0] (by decide) rfl rfl rfl rfl rfl rfl rfl) rfl ?_
  refine wwn ?_
  refine qAa rfl (fun q=>absurd q (by decide)) (fun q=>?_)
  refine wwn ?_
  refine qAa rfl (fun q=>absurd q (by decide)) (fun q=>?_)
  refine wwn ?_
  obtain ⟨z,ok⟩:=p11
  unfold lnO
  refine ww ?_
  cases ok with
  | false =>
   refine qAa rfl (fun q=>?_) (fun q=>absurd q (by simp))
   refine ww ?_
   exact wwr
  | true =>
   refine qAa rfl (fun q=>absurd q (by simp)) (fun q=>?_)
   refine ww ?_
   exact wwr
theorem qTr (a b n:Int) (st tx nu su gi na bi se:List UInt8) (ex:Int) (pr:List Int) (ba:Bool) (pt:Nat) (td:Int) (fa cu:List Int) (fl:List Flp) (P:List (List Dat)) (hx:ActLen ⟨5,a,b,n,st,tx,nu,su,gi,na,bi,se,ex,pr,ba,pt,td,fa,cu,fl⟩ P):Spec Tryz.prog 7 [.agg (qBn ⟨5,a,b,n,st,tx,nu,su,gi,na,bi,se,ex,pr,ba,pt,td,fa,cu,fl⟩ P)] [] (fun r h'=>r=.d (.str (lineK ⟨5,a,b,n,st,tx,nu,su,gi,na,bi,se,ex,pr,ba,pt,td,fa,cu,fl⟩))∧h'=[]):=by
 have hK:=keepR5_spec a b n st tx nu su gi na bi se ex pr ba pt td fa cu fl P
 have hn:=hx.nums
 have ht:=hx.txts
 have hS:=qBx ⟨5,a,b,n,st,tx,nu,su,gi,na,bi,se,ex,pr,ba,pt,td,fa,cu,fl⟩ (qBk ⟨5,a,b,n,st,tx,nu,su,gi,na,bi,se,ex,pr,ba,pt,td,fa,cu,fl⟩) P [] hx.pts rfl (by simp only at hn ⊢;omega) (by simp only at hn ⊢;omega) (by simp only at hn ⊢;omega) (by simp only at hn ⊢;omega)
 simp only at hn ht
 rw [lineK_fin (show 1≤(5:Int)∧(5:Int)≤11 by omega)]
 have hnk:=nameR_at (show 1≤(5:Int)∧(5:Int)≤11 by omega)
 have b0:=@qCo 5
 obtain ⟨p0,hp0⟩:∃ p,p=((qBc 5,true):List UInt8×Bool):=⟨_,rfl⟩
 have b0:p0.1.length≤10:=by rw [hp0];exact b0
 obtain ⟨p1,hp1⟩:∃ p,p=lnF p0 (.num a):=⟨_,rfl⟩
 have b1:p1.1.length≤211310:=by
  have:=lnF_len (p:=p0) (f:=.num a) (trivial)
  rw [hp1];omega
 have m1:Spec Tryz.prog 21 [.ptr 0 0,.I a] [.row (lnO p0)] (fun r h'=>r=.tup []∧h'=[.row (lnO p1)]):=by rw [hp1];exact numLR_spec p0 _ (by omega)
 obtain ⟨p2,hp2⟩:∃ p,p=lnF p1 (.num b):=⟨_,rfl⟩
 have b2:p2.1.length≤422610:=by
  have:=lnF_len (p:=p1) (f:=.num b) (trivial)
  rw [hp2];omega
 have m2:Spec Tryz.prog 21 [.ptr 0 0,.I b] [.row (lnO p1)] (fun r h'=>r=.tup []∧h'=[.row (lnO p2)]):=by rw [hp2];exact numLR_spec p1 _ (by omega)
 have hl:qGk ⟨5,a,b,n,st,tx,nu,su,gi,na,bi,se,ex,pr,ba,pt,td,fa,cu,fl⟩=p2:=by rw [hp2,hp1,hp0];rfl
 rw [hl]
 have hp0':p0=(p0.1,true):=by rw [hp0]
 have hnk:(qAi ([]::qBy))[(5:Int).toNat]?=some [.str p0.1]:=by rw [hp0];exact hnk
 clear hl hp2 hp1 hp0 hn ht hx b0 b1 b2
 generalize decide (⟨5,a,b,n,st,tx,nu,su,gi,na,bi,se,ex,pr,ba,pt,td,fa,cu,fl⟩=qBk ⟨5,a,b,n,st,tx,nu,su,gi,na,bi,se,ex,pr,ba,pt,td,fa,cu,fl⟩)=sb at hS ⊢
 generalize qBk ⟨5,a,b,n,st,tx,nu,su,gi,na,bi,se,ex,pr,ba,pt,td,fa,cu,fl⟩=y at hK hS
 obtain ⟨k',a',b',n',st',tx',nu',su',gi',na',bi',se',ex',pr',ba',pt',td',fa',cu',fl'⟩:=y
 unfold qBn at *
 simp only at *
 refine qAb hT Tryz.func7 rfl rfl rfl rfl ?_;intro E hE
 refine qAt ?_
 refine qAg (qAd ?_)
 refine wws ?_
 refine ww ?_
 refine wwgc namesR_spec ?_
 refine wg hT rfl rfl rfl rfl rfl ?_
 refine wg hT rfl rfl rfl rfl rfl ?_
 refine wd hT rfl rfl rfl ?_
 refine wd hT rfl rfl rfl ?_
 refine qBl (v:=.agg [.I 5,.I a,.I b,.I n,.d (.str st),.d (.str tx),.d (.str nu),.d (.str su),.d (.str gi),.d (.str na),.d (.str bi),.d (.str se),.I ex,.d (.sl 1 (encI pr)),.d (.bool ba),.d (.sl 5 P),.I td,.d (.sl 1 (encI fa)),.d (.sl 1 (encI cu)),.d (.sl 3 (qAp fl))]) rfl rfl rfl rfl (fun hg=>⟨(sg (C:=True) hg).1,qAn (i:=1) (off:=0) hT rfl rfl rfl (qEf rfl)⟩) ?_
 refine qBl (v:=.agg [.I 5,.I a,.I b,.I n,.d (.str st),.d (.str tx),.d (.str nu),.d (.str su),.d (.str gi),.d (.str na),.d (.str bi),.d (.str se),.I ex,.d (.sl 1 (encI pr)),.d (.bool ba),.d (.sl 5 P),.I td,.d (.sl 1 (encI fa)),.d (.sl 1 (encI cu)),.d (.sl 3 (qAp fl))]) rfl rfl rfl rfl (fun hg=>⟨(sg (C:=True) hg).1,qAn (i:=1) (off:=0) hT rfl rfl rfl (qEf rfl)⟩) ?_
 refine wwgc hK ?_
 refine wwgc hS ?_
 refine ww ?_
 cases sb with
 | false =>
  refine qAa rfl (fun q=>?_) (fun q=>absurd q (by decide))
  refine ww ?_
  exact wwr
 | true =>
  refine qAa rfl (fun q=>absurd q (by decide)) (fun q=>?_)
  clear hK hS q
  refine wwn ?_
  refine qAq (fun i=>bif Nat.beq i 2 then [1] else bif Nat.beq i 6 then [0] else []) (fun i=>bif Nat.beq i 6 then [0] else []) mixed (by kernel_rfl) ?_
  refine wwdc namesR_spec ?_
  refine wwg ?_
  refine qAj (os:=[]) (fun k hk hr=>qAc (indexAddr_ok hT rfl rfl rfl rfl (by omega) hnk)) rfl ?_
  refine wwg ?_
  refine qAj (os:=[.row (lnO (p0.1,true))]) (v:=.ptr 0 0) (fun k hk hr=>boxAt_ok (i0:=0) (cs:=lnO (p0.1,true)) rfl rfl ((hr 0 (List.mem_singleton.2 rfl)).trans rfl)) rfl ?_
  rw [← hp0']
  refine wwg ?_
  refine qAg (qAd ?_)
  refine wws ?_
  refine qAk (l:=[(1,.ptr 1 0),(3,.ptr 0 0),(4,.ptr 2 0)]) (h':=[.row (lnO p0),.row [.I 5,.I a,.I b,.I n,.d (.str st),.d (.str tx),.d (.str nu),.d (.str su),.d (.str gi),.d (.str na),.d (.str bi),.d (.str se),.I ex,.d (.sl 1 (encI pr)),.d (.bool ba),.d (.sl 5 P),.I td,.d (.sl 1 (encI fa)),.d (.sl 1 (encI cu)),.d (.sl 3 (qAp fl))],.row [.d (.str nu),.d (.str su),.d (.str gi),.d (.str na),.d (.str bi),.d (.str se),.I ex,.d (.sl 1 (encI pr)),.d (.bool ba),.d (.sl 5 P),.I td,.d (.sl 1 (encI fa))]]) yf (HLe.refl _) ?_
  refine wwn ?_
  refine qAa rfl (fun q=>absurd q (by decide)) (fun q=>?_)
  refine wwn ?_
  refine qAa rfl (fun q=>absurd q (by decide)) (fun q=>?_)
  refine wwn ?_
  refine qAa rfl (fun q=>absurd q (by decide)) (fun q=>?_)
  refine wwn ?_
  refine qAa rfl (fun q=>absurd q (by decide)) (fun q=>?_)
  refine wwn ?_
  refine qAa rfl (fun q=>absurd q (by decide)) (fun q=>?_)
  refine wwn ?_
  refine qAa rfl (fun q=>absurd q (by decide)) (fun q=>?_)
  refine wwn ?_
  refine qAe (qAl (H':=[.row (lnO p1),.row [.I 5,.I a,.I b,.I n,.d (.str st),.d (.str tx),.d (.str nu),.d (.str su),.d (.str gi),.d (.str na),.d (.str bi),.d (.str se),.I ex,.d (.sl 1 (encI pr)),.d (.bool ba),.d (.sl 5 P),.I td,.d (.sl 1 (encI fa)),.d (.sl 1 (encI cu)),.d (.sl 3 (qAp fl))],.row [.d (.str nu),.d (.str su),.d (.str gi),.d (.str na),.d (.str bi),.d (.str se),.I ex,.d (.sl 1 (encI pr)),.d (.bool ba),.d (.sl 5 P),.I td,.d (.sl 1 (encI fa))]]) rfl rfl m1 [0] (by decide) rfl rfl rfl rfl rfl rfl rfl) rfl ?_
  refine wwn ?_
  refine qAe (qAl (H':=[.row (lnO p2),.row [.I 5,.I a,.I b,.I n,.d (.str st),.d (.str tx),.d (.str nu),.d (.str su),.d (.str gi),.d (.str na),.d (.str bi),.d (.str se),.I ex,.d (.sl 1 (encI pr)),.d (.bool ba),.d (.sl 5 P),.I td,.d (.sl 1 (encI fa)),.d (.sl 1 (encI cu)),.d (.sl 3 (qAp fl))],.row [.d (.str nu),.d (.str su),.d (.str gi),.d (.str na),.d (.str bi),.d (.str se),.I ex,.d (.sl 1 (encI pr)),.d (.bool ba),.d (.sl 5 P),.I td,.d (.sl 1 (encI fa))]]) rfl rfl m2 [0] (by decide) rfl rfl rfl rfl rfl rfl rfl) rfl ?_
  refine wwn ?_
  refine qAa rfl (fun q=>absurd q (by decide)) (fun q=>?_)
  refine wwn ?_
  refine qAa rfl (fun q=>absurd q (by decide)) (fun q=>?_)
  refine wwn ?_
  obtain ⟨z,ok⟩:=p2
  unfold lnO
  refine ww ?_
  cases ok with
  | false =>
   refine qAa rfl (fun q=>?_) (fun q=>absurd q (by simp))
   refine ww ?_
   exact wwr
  | true =>
   refine qAa rfl (fun q=>absurd q (by simp)) (fun q=>?_)
   refine ww ?_
   exact wwr
theorem qTq (a b n:Int) (st tx nu su gi na bi se:List UInt8) (ex:Int) (pr:List Int) (ba:Bool) (pt:Nat) (td:Int) (fa cu:List Int) (fl:List Flp) (P:List (List Dat)) (hx:ActLen ⟨6,a,b,n,st,tx,nu,su,gi,na,bi,se,ex,pr,ba,pt,td,fa,cu,fl⟩ P):Spec Tryz.prog 7 [.agg (qBn ⟨6,a,b,n,st,tx,nu,su,gi,na,bi,se,ex,pr,ba,pt,td,fa,cu,fl⟩ P)] [] (fun r h'=>r=.d (.str (lineK ⟨6,a,b,n,st,tx,nu,su,gi,na,bi,se,ex,pr,ba,pt,td,fa,cu,fl⟩))∧h'=[]):=by
 have hK:=keepR6_spec a b n st tx nu su gi na bi se ex pr ba pt td fa cu fl P
 have hn:=hx.nums
 have ht:=hx.txts
 have hS:=qBx ⟨6,a,b,n,st,tx,nu,su,gi,na,bi,se,ex,pr,ba,pt,td,fa,cu,fl⟩ (qBk ⟨6,a,b,n,st,tx,nu,su,gi,na,bi,se,ex,pr,ba,pt,td,fa,cu,fl⟩) P [] hx.pts rfl (by simp only at hn ⊢;omega) (by simp only at hn ⊢;omega) (by simp only at hn ⊢;omega) (by simp only at hn ⊢;omega)
 simp only at hn ht
 rw [lineK_fin (show 1≤(6:Int)∧(6:Int)≤11 by omega)]
 have hnk:=nameR_at (show 1≤(6:Int)∧(6:Int)≤11 by omega)
 have b0:=@qCo 6
 obtain ⟨p0,hp0⟩:∃ p,p=((qBc 6,true):List UInt8×Bool):=⟨_,rfl⟩
 have b0:p0.1.length≤10:=by rw [hp0];exact b0
 obtain ⟨p1,hp1⟩:∃ p,p=lnF p0 (.num a):=⟨_,rfl⟩
 have b1:p1.1.length≤211310:=by
  have:=lnF_len (p:=p0) (f:=.num a) (trivial)
  rw [hp1];omega
 have m1:Spec Tryz.prog 21 [.ptr 0 0,.I a] [.row (lnO p0)] (fun r h'=>r=.tup []∧h'=[.row (lnO p1)]):=by rw [hp1];exact numLR_spec p0 _ (by omega)
 obtain ⟨p2,hp2⟩:∃ p,p=lnF p1 (.num b):=⟨_,rfl⟩
 have b2:p2.1.length≤422610:=by
  have:=lnF_len (p:=p1) (f:=.num b) (trivial)
  rw [hp2];omega
 have m2:Spec Tryz.prog 21 [.ptr 0 0,.I b] [.row (lnO p1)] (fun r h'=>r=.tup []∧h'=[.row (lnO p2)]):=by rw [hp2];exact numLR_spec p1 _ (by omega)
 have hl:qGk ⟨6,a,b,n,st,tx,nu,su,gi,na,bi,se,ex,pr,ba,pt,td,fa,cu,fl⟩=p2:=by rw [hp2,hp1,hp0];rfl
 rw [hl]
 have hp0':p0=(p0.1,true):=by rw [hp0]
 have hnk:(qAi ([]::qBy))[(6:Int).toNat]?=some [.str p0.1]:=by rw [hp0];exact hnk
 clear hl hp2 hp1 hp0 hn ht hx b0 b1 b2
 generalize decide (⟨6,a,b,n,st,tx,nu,su,gi,na,bi,se,ex,pr,ba,pt,td,fa,cu,fl⟩=qBk ⟨6,a,b,n,st,tx,nu,su,gi,na,bi,se,ex,pr,ba,pt,td,fa,cu,fl⟩)=sb at hS ⊢
 generalize qBk ⟨6,a,b,n,st,tx,nu,su,gi,na,bi,se,ex,pr,ba,pt,td,fa,cu,fl⟩=y at hK hS
 obtain ⟨k',a',b',n',st',tx',nu',su',gi',na',bi',se',ex',pr',ba',pt',td',fa',cu',fl'⟩:=y
 unfold qBn at *
 simp only at *
 refine qAb hT Tryz.func7 rfl rfl rfl rfl ?_;intro E hE
 refine qAt ?_
 refine qAg (qAd ?_)
 refine wws ?_
 refine ww ?_
 refine wwgc namesR_spec ?_
 refine wg hT rfl rfl rfl rfl rfl ?_
 refine wg hT rfl rfl rfl rfl rfl ?_
 refine wd hT rfl rfl rfl ?_
 refine wd hT rfl rfl rfl ?_
 refine qBl (v:=.agg [.I 6,.I a,.I b,.I n,.d (.str st),.d (.str tx),.d (.str nu),.d (.str su),.d (.str gi),.d (.str na),.d (.str bi),.d (.str se),.I ex,.d (.sl 1 (encI pr)),.d (.bool ba),.d (.sl 5 P),.I td,.d (.sl 1 (encI fa)),.d (.sl 1 (encI cu)),.d (.sl 3 (qAp fl))]) rfl rfl rfl rfl (fun hg=>⟨(sg (C:=True) hg).1,qAn (i:=1) (off:=0) hT rfl rfl rfl (qEf rfl)⟩) ?_
 refine qBl (v:=.agg [.I 6,.I a,.I b,.I n,.d (.str st),.d (.str tx),.d (.str nu),.d (.str su),.d (.str gi),.d (.str na),.d (.str bi),.d (.str se),.I ex,.d (.sl 1 (encI pr)),.d (.bool ba),.d (.sl 5 P),.I td,.d (.sl 1 (encI fa)),.d (.sl 1 (encI cu)),.d (.sl 3 (qAp fl))]) rfl rfl rfl rfl (fun hg=>⟨(sg (C:=True) hg).1,qAn (i:=1) (off:=0) hT rfl rfl rfl (qEf rfl)⟩) ?_
 refine wwgc hK ?_
 refine wwgc hS ?_
 refine ww ?_
 cases sb with
 | false =>
  refine qAa rfl (fun q=>?_) (fun q=>absurd q (by decide))
  refine ww ?_
  exact wwr
 | true =>
  refine qAa rfl (fun q=>absurd q (by decide)) (fun q=>?_)
  clear hK hS q
  refine wwn ?_
  refine qAq (fun i=>bif Nat.beq i 2 then [1] else bif Nat.beq i 6 then [0] else []) (fun i=>bif Nat.beq i 6 then [0] else []) mixed (by kernel_rfl) ?_
  refine wwdc namesR_spec ?_
  refine wwg ?_
  refine qAj (os:=[]) (fun k hk hr=>qAc (indexAddr_ok hT rfl rfl rfl rfl (by omega) hnk)) rfl ?_
  refine wwg ?_
  refine qAj (os:=[.row (lnO (p0.1,true))]) (v:=.ptr 0 0) (fun k hk hr=>boxAt_ok (i0:=0) (cs:=lnO (p0.1,true)) rfl rfl ((hr 0 (List.mem_singleton.2 rfl)).trans rfl)) rfl ?_
  rw [← hp0']
  refine wwg ?_
  refine qAg (qAd ?_)
  refine wws ?_
  refine qAk (l:=[(1,.ptr 1 0),(3,.ptr 0 0),(4,.ptr 2 0)]) (h':=[.row (lnO p0),.row [.I 6,.I a,.I b,.I n,.d (.str st),.d (.str tx),.d (.str nu),.d (.str su),.d (.str gi),.d (.str na),.d (.str bi),.d (.str se),.I ex,.d (.sl 1 (encI pr)),.d (.bool ba),.d (.sl 5 P),.I td,.d (.sl 1 (encI fa)),.d (.sl 1 (encI cu)),.d (.sl 3 (qAp fl))],.row [.d (.str nu),.d (.str su),.d (.str gi),.d (.str na),.d (.str bi),.d (.str se),.I ex,.d (.sl 1 (encI pr)),.d (.bool ba),.d (.sl 5 P),.I td,.d (.sl 1 (encI fa))]]) yf (HLe.refl _) ?_
  refine wwn ?_
  refine qAa rfl (fun q=>absurd q (by decide)) (fun q=>?_)
  refine wwn ?_
  refine qAa rfl (fun q=>absurd q (by decide)) (fun q=>?_)
  refine wwn ?_
  refine qAa rfl (fun q=>absurd q (by decide)) (fun q=>?_)
  refine wwn ?_
  refine qAa rfl (fun q=>absurd q (by decide)) (fun q=>?_)
  refine wwn ?_
  refine qAa rfl (fun q=>absurd q (by decide)) (fun q=>?_)
  refine wwn ?_
  refine qAa rfl (fun q=>absurd q (by decide)) (fun q=>?_)
  refine wwn ?_
  refine qAe (qAl (H':=[.row (lnO p1),.row [.I 6,.I a,.I b,.I n,.d (.str st),.d (.str tx),.d (.str nu),.d (.str su),.d (.str gi),.d (.str na),.d (.str bi),.d (.str se),.I ex,.d (.sl 1 (encI pr)),.d (.bool ba),.d (.sl 5 P),.I td,.d (.sl 1 (encI fa)),.d (.sl 1 (encI cu)),.d (.sl 3 (qAp fl))],.row [.d (.str nu),.d (.str su),.d (.str gi),.d (.str na),.d (.str bi),.d (.str se),.I ex,.d (.sl 1 (encI pr)),.d (.bool ba),.d (.sl 5 P),.I td,.d (.sl 1 (encI fa))]]) rfl rfl m1 [0] (by decide) rfl rfl rfl rfl rfl rfl rfl) rfl ?_
  refine wwn ?_
  refine qAe (qAl (H':=[.row (lnO p2),.row [.I 6,.I a,.I b,.I n,.d (.str st),.d (.str tx),.d (.str nu),.d (.str su),.d (.str gi),.d (.str na),.d (.str bi),.d (.str se),.I ex,.d (.sl 1 (encI pr)),.d (.bool ba),.d (.sl 5 P),.I td,.d (.sl 1 (encI fa)),.d (.sl 1 (encI cu)),.d (.sl 3 (qAp fl))],.row [.d (.str nu),.d (.str su),.d (.str gi),.d (.str na),.d (.str bi),.d (.str se),.I ex,.d (.sl 1 (encI pr)),.d (.bool ba),.d (.sl 5 P),.I td,.d (.sl 1 (encI fa))]]) rfl rfl m2 [0] (by decide) rfl rfl rfl rfl rfl rfl rfl) rfl ?_
  refine wwn ?_
  refine qAa rfl (fun q=>absurd q (by decide)) (fun q=>?_)
  refine wwn ?_
  refine qAa rfl (fun q=>absurd q (by decide)) (fun q=>?_)
  refine wwn ?_
  obtain ⟨z,ok⟩:=p2
  unfold lnO
  refine ww ?_
  cases ok with
  | false =>
   refine qAa rfl (fun q=>?_) (fun q=>absurd q (by simp))
   refine ww ?_
   exact wwr
  | true =>
   refine qAa rfl (fun q=>absurd q (by simp)) (fun q=>?_)
   refine ww ?_
   exact wwr
theorem qTp (a b n:Int) (st tx nu su gi na bi se:List UInt8) (ex:Int) (pr:List Int) (ba:Bool) (pt:Nat) (td:Int) (fa cu:List Int) (fl:List Flp) (P:List (List Dat)) (hx:ActLen ⟨7,a,b,n,st,tx,nu,su,gi,na,bi,se,ex,pr,ba,pt,td,fa,cu,fl⟩ P):Spec Tryz.prog 7 [.agg (qBn ⟨7,a,b,n,st,tx,nu,su,gi,na,bi,se,ex,pr,ba,pt,td,fa,cu,fl⟩ P)] [] (fun r h'=>r=.d (.str (lineK ⟨7,a,b,n,st,tx,nu,su,gi,na,bi,se,ex,pr,ba,pt,td,fa,cu,fl⟩))∧h'=[]):=by
 have hK:=keepR7_spec a b n st tx nu su gi na bi se ex pr ba pt td fa cu fl P
 have hn:=hx.nums
 have ht:=hx.txts
 have hS:=qBx ⟨7,a,b,n,st,tx,nu,su,gi,na,bi,se,ex,pr,ba,pt,td,fa,cu,fl⟩ (qBk ⟨7,a,b,n,st,tx,nu,su,gi,na,bi,se,ex,pr,ba,pt,td,fa,cu,fl⟩) P [] hx.pts rfl (by simp only at hn ⊢;omega) (by simp only at hn ⊢;omega) (by simp only at hn ⊢;omega) (by simp only at hn ⊢;omega)
 simp only at hn ht
 rw [lineK_fin (show 1≤(7:Int)∧(7:Int)≤11 by omega)]
 have hnk:=nameR_at (show 1≤(7:Int)∧(7:Int)≤11 by omega)
 have b0:=@qCo 7
 obtain ⟨p0,hp0⟩:∃ p,p=((qBc 7,true):List UInt8×Bool):=⟨_,rfl⟩
 have b0:p0.1.length≤10:=by rw [hp0];exact b0
 obtain ⟨p1,hp1⟩:∃ p,p=lnF p0 (.num a):=⟨_,rfl⟩
 have b1:p1.1.length≤211310:=by
  have:=lnF_len (p:=p0) (f:=.num a) (trivial)
  rw [hp1];omega
 have m1:Spec Tryz.prog 21 [.ptr 0 0,.I a] [.row (lnO p0)] (fun r h'=>r=.tup []∧h'=[.row (lnO p1)]):=by rw [hp1];exact numLR_spec p0 _ (by omega)
 obtain ⟨p2,hp2⟩:∃ p,p=lnF p1 (.num b):=⟨_,rfl⟩
 have b2:p2.1.length≤422610:=by
  have:=lnF_len (p:=p1) (f:=.num b) (trivial)
  rw [hp2];omega
 have m2:Spec Tryz.prog 21 [.ptr 0 0,.I b] [.row (lnO p1)] (fun r h'=>r=.tup []∧h'=[.row (lnO p2)]):=by rw [hp2];exact numLR_spec p1 _ (by omega)
 obtain ⟨p3,hp3⟩:∃ p,p=lnF p2 (.num n):=⟨_,rfl⟩
 have b3:p3.1.length≤633910:=by
  have:=lnF_len (p:=p2) (f:=.num n) (trivial)
  rw [hp3];omega
 have m3:Spec Tryz.prog 21 [.ptr 0 0,.I n] [.row (lnO p2)] (fun r h'=>r=.tup []∧h'=[.row (lnO p3)]):=by rw [hp3];exact numLR_spec p2 _ (by omega)
 have hl:qGk ⟨7,a,b,n,st,tx,nu,su,gi,na,bi,se,ex,pr,ba,pt,td,fa,cu,fl⟩=p3:=by rw [hp3,hp2,hp1,hp0];rfl
 rw [hl]
 have hp0':p0=(p0.1,true):=by rw [hp0]
 have hnk:(qAi ([]::qBy))[(7:Int).toNat]?=some [.str p0.1]:=by rw [hp0];exact hnk
 clear hl hp3 hp2 hp1 hp0 hn ht hx b0 b1 b2 b3
 generalize decide (⟨7,a,b,n,st,tx,nu,su,gi,na,bi,se,ex,pr,ba,pt,td,fa,cu,fl⟩=qBk ⟨7,a,b,n,st,tx,nu,su,gi,na,bi,se,ex,pr,ba,pt,td,fa,cu,fl⟩)=sb at hS ⊢
 generalize qBk ⟨7,a,b,n,st,tx,nu,su,gi,na,bi,se,ex,pr,ba,pt,td,fa,cu,fl⟩=y at hK hS
 obtain ⟨k',a',b',n',st',tx',nu',su',gi',na',bi',se',ex',pr',ba',pt',td',fa',cu',fl'⟩:=y
 unfold qBn at *
 simp only at *
 refine qAb hT Tryz.func7 rfl rfl rfl rfl ?_;intro E hE
 refine qAt ?_
 refine qAg (qAd ?_)
 refine wws ?_
 refine ww ?_
 refine wwgc namesR_spec ?_
 refine wg hT rfl rfl rfl rfl rfl ?_
 refine wg hT rfl rfl rfl rfl rfl ?_
 refine wd hT rfl rfl rfl ?_
 refine wd hT rfl rfl rfl ?_
 refine qBl (v:=.agg [.I 7,.I a,.I b,.I n,.d (.str st),.d (.str tx),.d (.str nu),.d (.str su),.d (.str gi),.d (.str na),.d (.str bi),.d (.str se),.I ex,.d (.sl 1 (encI pr)),.d (.bool ba),.d (.sl 5 P),.I td,.d (.sl 1 (encI fa)),.d (.sl 1 (encI cu)),.d (.sl 3 (qAp fl))]) rfl rfl rfl rfl (fun hg=>⟨(sg (C:=True) hg).1,qAn (i:=1) (off:=0) hT rfl rfl rfl (qEf rfl)⟩) ?_
 refine qBl (v:=.agg [.I 7,.I a,.I b,.I n,.d (.str st),.d (.str tx),.d (.str nu),.d (.str su),.d (.str gi),.d (.str na),.d (.str bi),.d (.str se),.I ex,.d (.sl 1 (encI pr)),.d (.bool ba),.d (.sl 5 P),.I td,.d (.sl 1 (encI fa)),.d (.sl 1 (encI cu)),.d (.sl 3 (qAp fl))]) rfl rfl rfl rfl (fun hg=>⟨(sg (C:=True) hg).1,qAn (i:=1) (off:=0) hT rfl rfl rfl (qEf rfl)⟩) ?_
 refine wwgc hK ?_
 refine wwgc hS ?_
 refine ww ?_
 cases sb with
 | false =>
  refine qAa rfl (fun q=>?_) (fun q=>absurd q (by decide))
  refine ww ?_
  exact wwr
 | true =>
  refine qAa rfl (fun q=>absurd q (by decide)) (fun q=>?_)
  clear hK hS q
  refine wwn ?_
  refine qAq (fun i=>bif Nat.beq i 2 then [1] else bif Nat.beq i 6 then [0] else []) (fun i=>bif Nat.beq i 6 then [0] else []) mixed (by kernel_rfl) ?_
  refine wwdc namesR_spec ?_
  refine wwg ?_
  refine qAj (os:=[]) (fun k hk hr=>qAc (indexAddr_ok hT rfl rfl rfl rfl (by omega) hnk)) rfl ?_
  refine wwg ?_
  refine qAj (os:=[.row (lnO (p0.1,true))]) (v:=.ptr 0 0) (fun k hk hr=>boxAt_ok (i0:=0) (cs:=lnO (p0.1,true)) rfl rfl ((hr 0 (List.mem_singleton.2 rfl)).trans rfl)) rfl ?_
  rw [← hp0']
  refine wwg ?_
  refine qAg (qAd ?_)
  refine wws ?_
  refine qAk (l:=[(1,.ptr 1 0),(3,.ptr 0 0),(4,.ptr 2 0)]) (h':=[.row (lnO p0),.row [.I 7,.I a,.I b,.I n,.d (.str st),.d (.str tx),.d (.str nu),.d (.str su),.d (.str gi),.d (.str na),.d (.str bi),.d (.str se),.I ex,.d (.sl 1 (encI pr)),.d (.bool ba),.d (.sl 5 P),.I td,.d (.sl 1 (encI fa)),.d (.sl 1 (encI cu)),.d (.sl 3 (qAp fl))],.row [.d (.str nu),.d (.str su),.d (.str gi),.d (.str na),.d (.str bi),.d (.str se),.I ex,.d (.sl 1 (encI pr)),.d (.bool ba),.d (.sl 5 P),.I td,.d (.sl 1 (encI fa))]]) yf (HLe.refl _) ?_
  refine wwn ?_
  refine qAa rfl (fun q=>absurd q (by decide)) (fun q=>?_)
  refine wwn ?_
  refine qAa rfl (fun q=>absurd q (by decide)) (fun q=>?_)
  refine wwn ?_
  refine qAa rfl (fun q=>absurd q (by decide)) (fun q=>?_)
  refine wwn ?_
  refine qAa rfl (fun q=>absurd q (by decide)) (fun q=>?_)
  refine wwn ?_
  refine qAa rfl (fun q=>absurd q (by decide)) (fun q=>?_)
  refine wwn ?_
  refine qAa rfl (fun q=>absurd q (by decide)) (fun q=>?_)
  refine wwn ?_
  refine qAe (qAl (H':=[.row (lnO p1),.row [.I 7,.I a,.I b,.I n,.d (.str st),.d (.str tx),.d (.str nu),.d (.str su),.d (.str gi),.d (.str na),.d (.str bi),.d (.str se),.I ex,.d (.sl 1 (encI pr)),.d (.bool ba),.d (.sl 5 P),.I td,.d (.sl 1 (encI fa)),.d (.sl 1 (encI cu)),.d (.sl 3 (qAp fl))],.row [.d (.str nu),.d (.str su),.d (.str gi),.d (.str na),.d (.str bi),.d (.str se),.I ex,.d (.sl 1 (encI pr)),.d (.bool ba),.d (.sl 5 P),.I td,.d (.sl 1 (encI fa))]]) rfl rfl m1 [0] (by decide) rfl rfl rfl rfl rfl rfl rfl) rfl ?_
  refine wwn ?_
  refine qAe (qAl (H':=[.row (lnO p2),.row [.I 7,.I a,.I b,.I n,.d (.str st),.d (.str tx),.d (.str nu),.d (.str su),.d (.str gi),.d (.str na),.d (.str bi),.d (.str se),.I ex,.d (.sl 1 (encI pr)),.d (.bool ba),.d (.sl 5 P),.I td,.d (.sl 1 (encI fa)),.d (.sl 1 (encI cu)),.d (.sl 3 (qAp fl))],.row [.d (.str nu),.d (.str su),.d (.str gi),.d (.str na),.d (.str bi),.d (.str se),.I ex,.d (.sl 1 (encI pr)),.d (.bool ba),.d (.sl 5 P),.I td,.d (.sl 1 (encI fa))]]) rfl rfl m2 [0] (by decide) rfl rfl rfl rfl rfl rfl rfl) rfl ?_
  refine wwn ?_
  refine qAa rfl (fun q=>?_) (fun q=>absurd q (by decide))
  refine wwn ?_
  refine qAe (qAl (H':=[.row (lnO p3),.row [.I 7,.I a,.I b,.I n,.d (.str st),.d (.str tx),.d (.str nu),.d (.str su),.d (.str gi),.d (.str na),.d (.str bi),.d (.str se),.I ex,.d (.sl 1 (encI pr)),.d (.bool ba),.d (.sl 5 P),.I td,.d (.sl 1 (encI fa)),.d (.sl 1 (encI cu)),.d (.sl 3 (qAp fl))],.row [.d (.str nu),.d (.str su),.d (.str gi),.d (.str na),.d (.str bi),.d (.str se),.I ex,.d (.sl 1 (encI pr)),.d (.bool ba),.d (.sl 5 P),.I td,.d (.sl 1 (encI fa))]]) rfl rfl m3 [0] (by decide) rfl rfl rfl rfl rfl rfl rfl) rfl ?_
  refine wwn ?_
  refine qAa rfl (fun q=>absurd q (by decide)) (fun q=>?_)
  refine wwn ?_
  obtain ⟨z,ok⟩:=p3
  unfold lnO
  refine ww ?_
  cases ok with
  | false =>
   refine qAa rfl (fun q=>?_) (fun q=>absurd q (by simp))
   refine ww ?_
   exact wwr
  | true =>
   refine qAa rfl (fun q=>absurd q (by simp)) (fun q=>?_)
   refine ww ?_
   exact wwr
theorem qTo (a b n:Int) (st tx nu su gi na bi se:List UInt8) (ex:Int) (pr:List Int) (ba:Bool) (pt:Nat) (td:Int) (fa cu:List Int) (fl:List Flp) (P:List (List Dat)) (hx:ActLen ⟨8,a,b,n,st,tx,nu,su,gi,na,bi,se,ex,pr,ba,pt,td,fa,cu,fl⟩ P):Spec Tryz.prog 7 [.agg (qBn ⟨8,a,b,n,st,tx,nu,su,gi,na,bi,se,ex,pr,ba,pt,td,fa,cu,fl⟩ P)] [] (fun r h'=>r=.d (.str (lineK ⟨8,a,b,n,st,tx,nu,su,gi,na,bi,se,ex,pr,ba,pt,td,fa,cu,fl⟩))∧h'=[]):=by
 have hK:=keepR8_spec a b n st tx nu su gi na bi se ex pr ba pt td fa cu fl P
 have hn:=hx.nums
 have ht:=hx.txts
 have hS:=qBx ⟨8,a,b,n,st,tx,nu,su,gi,na,bi,se,ex,pr,ba,pt,td,fa,cu,fl⟩ (qBk ⟨8,a,b,n,st,tx,nu,su,gi,na,bi,se,ex,pr,ba,pt,td,fa,cu,fl⟩) P [] hx.pts rfl (by simp only at hn ⊢;omega) (by simp only at hn ⊢;omega) (by simp only at hn ⊢;omega) (by simp only at hn ⊢;omega)
 simp only at hn ht
 rw [lineK_fin (show 1≤(8:Int)∧(8:Int)≤11 by omega)]
 have hnk:=nameR_at (show 1≤(8:Int)∧(8:Int)≤11 by omega)
 have b0:=@qCo 8
 obtain ⟨p0,hp0⟩:∃ p,p=((qBc 8,true):List UInt8×Bool):=⟨_,rfl⟩
 have b0:p0.1.length≤10:=by rw [hp0];exact b0
 obtain ⟨p1,hp1⟩:∃ p,p=lnF p0 (.num a):=⟨_,rfl⟩
 have b1:p1.1.length≤211310:=by
  have:=lnF_len (p:=p0) (f:=.num a) (trivial)
  rw [hp1];omega
 have m1:Spec Tryz.prog 21 [.ptr 0 0,.I a] [.row (lnO p0)] (fun r h'=>r=.tup []∧h'=[.row (lnO p1)]):=by rw [hp1];exact numLR_spec p0 _ (by omega)
 obtain ⟨p2,hp2⟩:∃ p,p=lnF p1 (.num b):=⟨_,rfl⟩
 have b2:p2.1.length≤422610:=by
  have:=lnF_len (p:=p1) (f:=.num b) (trivial)
  rw [hp2];omega
 have m2:Spec Tryz.prog 21 [.ptr 0 0,.I b] [.row (lnO p1)] (fun r h'=>r=.tup []∧h'=[.row (lnO p2)]):=by rw [hp2];exact numLR_spec p1 _ (by omega)
 have hl:qGk ⟨8,a,b,n,st,tx,nu,su,gi,na,bi,se,ex,pr,ba,pt,td,fa,cu,fl⟩=p2:=by rw [hp2,hp1,hp0];rfl
 rw [hl]
 have hp0':p0=(p0.1,true):=by rw [hp0]
 have hnk:(qAi ([]::qBy))[(8:Int).toNat]?=some [.str p0.1]:=by rw [hp0];exact hnk
 clear hl hp2 hp1 hp0 hn ht hx b0 b1 b2
 generalize decide (⟨8,a,b,n,st,tx,nu,su,gi,na,bi,se,ex,pr,ba,pt,td,fa,cu,fl⟩=qBk ⟨8,a,b,n,st,tx,nu,su,gi,na,bi,se,ex,pr,ba,pt,td,fa,cu,fl⟩)=sb at hS ⊢
 generalize qBk ⟨8,a,b,n,st,tx,nu,su,gi,na,bi,se,ex,pr,ba,pt,td,fa,cu,fl⟩=y at hK hS
 obtain ⟨k',a',b',n',st',tx',nu',su',gi',na',bi',se',ex',pr',ba',pt',td',fa',cu',fl'⟩:=y
 unfold qBn at *
 simp only at *
 refine qAb hT Tryz.func7 rfl rfl rfl rfl ?_;intro E hE
 refine qAt ?_
 refine qAg (qAd ?_)
 refine wws ?_
 refine ww ?_
 refine wwgc namesR_spec ?_
 refine wg hT rfl rfl rfl rfl rfl ?_
 refine wg hT rfl rfl rfl rfl rfl ?_
 refine wd hT rfl rfl rfl ?_
 refine wd hT rfl rfl rfl ?_
 refine qBl (v:=.agg [.I 8,.I a,.I b,.I n,.d (.str st),.d (.str tx),.d (.str nu),.d (.str su),.d (.str gi),.d (.str na),.d (.str bi),.d (.str se),.I ex,.d (.sl 1 (encI pr)),.d (.bool ba),.d (.sl 5 P),.I td,.d (.sl 1 (encI fa)),.d (.sl 1 (encI cu)),.d (.sl 3 (qAp fl))]) rfl rfl rfl rfl (fun hg=>⟨(sg (C:=True) hg).1,qAn (i:=1) (off:=0) hT rfl rfl rfl (qEf rfl)⟩) ?_
 refine qBl (v:=.agg [.I 8,.I a,.I b,.I n,.d (.str st),.d (.str tx),.d (.str nu),.d (.str su),.d (.str gi),.d (.str na),.d (.str bi),.d (.str se),.I ex,.d (.sl 1 (encI pr)),.d (.bool ba),.d (.sl 5 P),.I td,.d (.sl 1 (encI fa)),.d (.sl 1 (encI cu)),.d (.sl 3 (qAp fl))]) rfl rfl rfl rfl (fun hg=>⟨(sg (C:=True) hg).1,qAn (i:=1) (off:=0) hT rfl rfl rfl (qEf rfl)⟩) ?_
 refine wwgc hK ?_
 refine wwgc hS ?_
 refine ww ?_
 cases sb with
 | false =>
  refine qAa rfl (fun q=>?_) (fun q=>absurd q (by decide))
  refine ww ?_
  exact wwr
 | true =>
  refine qAa rfl (fun q=>absurd q (by decide)) (fun q=>?_)
  clear hK hS q
  refine wwn ?_
  refine qAq (fun i=>bif Nat.beq i 2 then [1] else bif Nat.beq i 6 then [0] else []) (fun i=>bif Nat.beq i 6 then [0] else []) mixed (by kernel_rfl) ?_
  refine wwdc namesR_spec ?_
  refine wwg ?_
  refine qAj (os:=[]) (fun k hk hr=>qAc (indexAddr_ok hT rfl rfl rfl rfl (by omega) hnk)) rfl ?_
  refine wwg ?_
  refine qAj (os:=[.row (lnO (p0.1,true))]) (v:=.ptr 0 0) (fun k hk hr=>boxAt_ok (i0:=0) (cs:=lnO (p0.1,true)) rfl rfl ((hr 0 (List.mem_singleton.2 rfl)).trans rfl)) rfl ?_
  rw [← hp0']
  refine wwg ?_
  refine qAg (qAd ?_)
  refine wws ?_
  refine qAk (l:=[(1,.ptr 1 0),(3,.ptr 0 0),(4,.ptr 2 0)]) (h':=[.row (lnO p0),.row [.I 8,.I a,.I b,.I n,.d (.str st),.d (.str tx),.d (.str nu),.d (.str su),.d (.str gi),.d (.str na),.d (.str bi),.d (.str se),.I ex,.d (.sl 1 (encI pr)),.d (.bool ba),.d (.sl 5 P),.I td,.d (.sl 1 (encI fa)),.d (.sl 1 (encI cu)),.d (.sl 3 (qAp fl))],.row [.d (.str nu),.d (.str su),.d (.str gi),.d (.str na),.d (.str bi),.d (.str se),.I ex,.d (.sl 1 (encI pr)),.d (.bool ba),.d (.sl 5 P),.I td,.d (.sl 1 (encI fa))]]) yf (HLe.refl _) ?_
  refine wwn ?_
  refine qAa rfl (fun q=>absurd q (by decide)) (fun q=>?_)
  refine wwn ?_
  refine qAa rfl (fun q=>absurd q (by decide)) (fun q=>?_)
  refine wwn ?_
  refine qAa rfl (fun q=>absurd q (by decide)) (fun q=>?_)
  refine wwn ?_
  refine qAa rfl (fun q=>absurd q (by decide)) (fun q=>?_)
  refine wwn ?_
  refine qAa rfl (fun q=>absurd q (by decide)) (fun q=>?_)
  refine wwn ?_
  refine qAa rfl (fun q=>absurd q (by decide)) (fun q=>?_)
  refine wwn ?_
  refine qAe (qAl (H':=[.row (lnO p1),.row [.I 8,.I a,.I b,.I n,.d (.str st),.d (.str tx),.d (.str nu),.d (.str su),.d (.str gi),.d (.str na),.d (.str bi),.d (.str se),.I ex,.d (.sl 1 (encI pr)),.d (.bool ba),.d (.sl 5 P),.I td,.d (.sl 1 (encI fa)),.d (.sl 1 (encI cu)),.d (.sl 3 (qAp fl))],.row [.d (.str nu),.d (.str su),.d (.str gi),.d (.str na),.d (.str bi),.d (.str se),.I ex,.d (.sl 1 (encI pr)),.d (.bool ba),.d (.sl 5 P),.I td,.d (.sl 1 (encI fa))]]) rfl rfl m1 [0] (by decide) rfl rfl rfl rfl rfl rfl rfl) rfl ?_
  refine wwn ?_
  refine qAe (qAl (H':=[.row (lnO p2),.row [.I 8,.I a,.I b,.I n,.d (.str st),.d (.str tx),.d (.str nu),.d (.str su),.d (.str gi),.d (.str na),.d (.str bi),.d (.str se),.I ex,.d (.sl 1 (encI pr)),.d (.bool ba),.d (.sl 5 P),.I td,.d (.sl 1 (encI fa)),.d (.sl 1 (encI cu)),.d (.sl 3 (qAp fl))],.row [.d (.str nu),.d (.str su),.d (.str gi),.d (.str na),.d (.str bi),.d (.str se),.I ex,.d (.sl 1 (encI pr)),.d (.bool ba),.d (.sl 5 P),.I td,.d (.sl 1 (encI fa))]]) rfl rfl m2 [0] (by decide) rfl rfl rfl rfl rfl rfl rfl) rfl ?_
  refine wwn ?_
  refine qAa rfl (fun q=>absurd q (by decide)) (fun q=>?_)
  refine wwn ?_
  refine qAa rfl (fun q=>absurd q (by decide)) (fun q=>?_)
  refine wwn ?_
  obtain ⟨z,ok⟩:=p2
  unfold lnO
  refine ww ?_
  cases ok with
  | false =>
   refine qAa rfl (fun q=>?_) (fun q=>absurd q (by simp))
   refine ww ?_
   exact wwr
  | true =>
   refine qAa rfl (fun q=>absurd q (by simp)) (fun q=>?_)
   refine ww ?_
   exact wwr
theorem qTn (a b n:Int) (st tx nu su gi na bi se:List UInt8) (ex:Int) (pr:List Int) (ba:Bool) (pt:Nat) (td:Int) (fa cu:List Int) (fl:List Flp) (P:List (List Dat)) (hx:ActLen ⟨9,a,b,n,st,tx,nu,su,gi,na,bi,se,ex,pr,ba,pt,td,fa,cu,fl⟩ P):Spec Tryz.prog 7 [.agg (qBn ⟨9,a,b,n,st,tx,nu,su,gi,na,bi,se,ex,pr,ba,pt,td,fa,cu,fl⟩ P)] [] (fun r h'=>r=.d (.str (lineK ⟨9,a,b,n,st,tx,nu,su,gi,na,bi,se,ex,pr,ba,pt,td,fa,cu,fl⟩))∧h'=[]):=by
 have hK:=keepR9_spec a b n st tx nu su gi na bi se ex pr ba pt td fa cu fl P
 have hn:=hx.nums
 have ht:=hx.txts
 have hS:=qBx ⟨9,a,b,n,st,tx,nu,su,gi,na,bi,se,ex,pr,ba,pt,td,fa,cu,fl⟩ (qBk ⟨9,a,b,n,st,tx,nu,su,gi,na,bi,se,ex,pr,ba,pt,td,fa,cu,fl⟩) P [] hx.pts rfl (by simp only at hn ⊢;omega) (by simp only at hn ⊢;omega) (by simp only at hn ⊢;omega) (by simp only at hn ⊢;omega)
 simp only at hn ht
 rw [lineK_fin (show 1≤(9:Int)∧(9:Int)≤11 by omega)]
 have hnk:=nameR_at (show 1≤(9:Int)∧(9:Int)≤11 by omega)
 have b0:=@qCo 9
 obtain ⟨p0,hp0⟩:∃ p,p=((qBc 9,true):List UInt8×Bool):=⟨_,rfl⟩
 have b0:p0.1.length≤10:=by rw [hp0];exact b0
 obtain ⟨p1,hp1⟩:∃ p,p=lnF p0 (.num a):=⟨_,rfl⟩
 have b1:p1.1.length≤211310:=by
  have:=lnF_len (p:=p0) (f:=.num a) (trivial)
  rw [hp1];omega
 have m1:Spec Tryz.prog 21 [.ptr 0 0,.I a] [.row (lnO p0)] (fun r h'=>r=.tup []∧h'=[.row (lnO p1)]):=by rw [hp1];exact numLR_spec p0 _ (by omega)
 obtain ⟨p2,hp2⟩:∃ p,p=lnF p1 (.txt tx):=⟨_,rfl⟩
 have b2:p2.1.length≤422610:=by
  have:=lnF_len (p:=p1) (f:=.txt tx) (show tx.length≤12000 by omega)
  rw [hp2];omega
 have m2:Spec Tryz.prog 22 [.ptr 0 0,.d (.str tx)] [.row (lnO p1)] (fun r h'=>r=.tup []∧h'=[.row (lnO p2)]):=by rw [hp2];exact textLR_spec p1 _ (by omega) (by omega)
 have hl:qGk ⟨9,a,b,n,st,tx,nu,su,gi,na,bi,se,ex,pr,ba,pt,td,fa,cu,fl⟩=p2:=by rw [hp2,hp1,hp0];rfl
 rw [hl]
 have hp0':p0=(p0.1,true):=by rw [hp0]
 have hnk:(qAi ([]::qBy))[(9:Int).toNat]?=some [.str p0.1]:=by rw [hp0];exact hnk
 clear hl hp2 hp1 hp0 hn ht hx b0 b1 b2
 generalize decide (⟨9,a,b,n,st,tx,nu,su,gi,na,bi,se,ex,pr,ba,pt,td,fa,cu,fl⟩=qBk ⟨9,a,b,n,st,tx,nu,su,gi,na,bi,se,ex,pr,ba,pt,td,fa,cu,fl⟩)=sb at hS ⊢
 generalize qBk ⟨9,a,b,n,st,tx,nu,su,gi,na,bi,se,ex,pr,ba,pt,td,fa,cu,fl⟩=y at hK hS
 obtain ⟨k',a',b',n',st',tx',nu',su',gi',na',bi',se',ex',pr',ba',pt',td',fa',cu',fl'⟩:=y
 unfold qBn at *
 simp only at *
 refine qAb hT Tryz.func7 rfl rfl rfl rfl ?_;intro E hE
 refine qAt ?_
 refine qAg (qAd ?_)
 refine wws ?_
 refine ww ?_
 refine wwgc namesR_spec ?_
 refine wg hT rfl rfl rfl rfl rfl ?_
 refine wg hT rfl rfl rfl rfl rfl ?_
 refine wd hT rfl rfl rfl ?_
 refine wd hT rfl rfl rfl ?_
 refine qBl (v:=.agg [.I 9,.I a,.I b,.I n,.d (.str st),.d (.str tx),.d (.str nu),.d (.str su),.d (.str gi),.d (.str na),.d (.str bi),.d (.str se),.I ex,.d (.sl 1 (encI pr)),.d (.bool ba),.d (.sl 5 P),.I td,.d (.sl 1 (encI fa)),.d (.sl 1 (encI cu)),.d (.sl 3 (qAp fl))]) rfl rfl rfl rfl (fun hg=>⟨(sg (C:=True) hg).1,qAn (i:=1) (off:=0) hT rfl rfl rfl (qEf rfl)⟩) ?_
 refine qBl (v:=.agg [.I 9,.I a,.I b,.I n,.d (.str st),.d (.str tx),.d (.str nu),.d (.str su),.d (.str gi),.d (.str na),.d (.str bi),.d (.str se),.I ex,.d (.sl 1 (encI pr)),.d (.bool ba),.d (.sl 5 P),.I td,.d (.sl 1 (encI fa)),.d (.sl 1 (encI cu)),.d (.sl 3 (qAp fl))]) rfl rfl rfl rfl (fun hg=>⟨(sg (C:=True) hg).1,qAn (i:=1) (off:=0) hT rfl rfl rfl (qEf rfl)⟩) ?_
 refine wwgc hK ?_
 refine wwgc hS ?_
 refine ww ?_
 cases sb with
 | false =>
  refine qAa rfl (fun q=>?_) (fun q=>absurd q (by decide))
  refine ww ?_
  exact wwr
 | true =>
  refine qAa rfl (fun q=>absurd q (by decide)) (fun q=>?_)
  clear hK hS q
  refine wwn ?_
  refine qAq (fun i=>bif Nat.beq i 2 then [1] else bif Nat.beq i 6 then [0] else []) (fun i=>bif Nat.beq i 6 then [0] else []) mixed (by kernel_rfl) ?_
  refine wwdc namesR_spec ?_
  refine wwg ?_
  refine qAj (os:=[]) (fun k hk hr=>qAc (indexAddr_ok hT rfl rfl rfl rfl (by omega) hnk)) rfl ?_
  refine wwg ?_
  refine qAj (os:=[.row (lnO (p0.1,true))]) (v:=.ptr 0 0) (fun k hk hr=>boxAt_ok (i0:=0) (cs:=lnO (p0.1,true)) rfl rfl ((hr 0 (List.mem_singleton.2 rfl)).trans rfl)) rfl ?_
  rw [← hp0']
  refine wwg ?_
  refine qAg (qAd ?_)
  refine wws ?_
  refine qAk (l:=[(1,.ptr 1 0),(3,.ptr 0 0),(4,.ptr 2 0)]) (h':=[.row (lnO p0),.row [.I 9,.I a,.I b,.I n,.d (.str st),.d (.str tx),.d (.str nu),.d (.str su),.d (.str gi),.d (.str na),.d (.str bi),.d (.str se),.I ex,.d (.sl 1 (encI pr)),.d (.bool ba),.d (.sl 5 P),.I td,.d (.sl 1 (encI fa)),.d (.sl 1 (encI cu)),.d (.sl 3 (qAp fl))],.row [.d (.str nu),.d (.str su),.d (.str gi),.d (.str na),.d (.str bi),.d (.str se),.I ex,.d (.sl 1 (encI pr)),.d (.bool ba),.d (.sl 5 P),.I td,.d (.sl 1 (encI fa))]]) yf (HLe.refl _) ?_
  refine wwn ?_
  refine qAa rfl (fun q=>absurd q (by decide)) (fun q=>?_)
  refine wwn ?_
  refine qAa rfl (fun q=>absurd q (by decide)) (fun q=>?_)
  refine wwn ?_
  refine qAa rfl (fun q=>absurd q (by decide)) (fun q=>?_)
  refine wwn ?_
  refine qAa rfl (fun q=>absurd q (by decide)) (fun q=>?_)
  refine wwn ?_
  refine qAa rfl (fun q=>absurd q (by decide)) (fun q=>?_)
  refine wwn ?_
  refine qAa rfl (fun q=>?_) (fun q=>absurd q (by decide))
  refine wwn ?_
  refine qAe (qAl (H':=[.row (lnO p1),.row [.I 9,.I a,.I b,.I n,.d (.str st),.d (.str tx),.d (.str nu),.d (.str su),.d (.str gi),.d (.str na),.d (.str bi),.d (.str se),.I ex,.d (.sl 1 (encI pr)),.d (.bool ba),.d (.sl 5 P),.I td,.d (.sl 1 (encI fa)),.d (.sl 1 (encI cu)),.d (.sl 3 (qAp fl))],.row [.d (.str nu),.d (.str su),.d (.str gi),.d (.str na),.d (.str bi),.d (.str se),.I ex,.d (.sl 1 (encI pr)),.d (.bool ba),.d (.sl 5 P),.I td,.d (.sl 1 (encI fa))]]) rfl rfl m1 [0] (by decide) rfl rfl rfl rfl rfl rfl rfl) rfl ?_
  refine wwn ?_
  refine qAe (qAl (H':=[.row (lnO p2),.row [.I 9,.I a,.I b,.I n,.d (.str st),.d (.str tx),.d (.str nu),.d (.str su),.d (.str gi),.d (.str na),.d (.str bi),.d (.str se),.I ex,.d (.sl 1 (encI pr)),.d (.bool ba),.d (.sl 5 P),.I td,.d (.sl 1 (encI fa)),.d (.sl 1 (encI cu)),.d (.sl 3 (qAp fl))],.row [.d (.str nu),.d (.str su),.d (.str gi),.d (.str na),.d (.str bi),.d (.str se),.I ex,.d (.sl 1 (encI pr)),.d (.bool ba),.d (.sl 5 P),.I td,.d (.sl 1 (encI fa))]]) rfl rfl m2 [0] (by decide) rfl rfl rfl rfl rfl rfl rfl) rfl ?_
  refine wwn ?_
  refine qAa rfl (fun q=>absurd q (by decide)) (fun q=>?_)
  refine wwn ?_
  refine qAa rfl (fun q=>absurd q (by decide)) (fun q=>?_)
  refine wwn ?_
  obtain ⟨z,ok⟩:=p2
  unfold lnO
  refine ww ?_
  cases ok with
  | false =>
   refine qAa rfl (fun q=>?_) (fun q=>absurd q (by simp))
   refine ww ?_
   exact wwr
  | true =>
   refine qAa rfl (fun q=>absurd q (by simp)) (fun q=>?_)
   refine ww ?_
   exact wwr
theorem qQx (a b n:Int) (st tx nu su gi na bi se:List UInt8) (ex:Int) (pr:List Int) (ba:Bool) (pt:Nat) (td:Int) (fa cu:List Int) (fl:List Flp) (P:List (List Dat)) (hx:ActLen ⟨10,a,b,n,st,tx,nu,su,gi,na,bi,se,ex,pr,ba,pt,td,fa,cu,fl⟩ P):Spec Tryz.prog 7 [.agg (qBn ⟨10,a,b,n,st,tx,nu,su,gi,na,bi,se,ex,pr,ba,pt,td,fa,cu,fl⟩ P)] [] (fun r h'=>r=.d (.str (lineK ⟨10,a,b,n,st,tx,nu,su,gi,na,bi,se,ex,pr,ba,pt,td,fa,cu,fl⟩))∧h'=[]):=by
 have hK:=keepR10_spec a b n st tx nu su gi na bi se ex pr ba pt td fa cu fl P
 have hn:=hx.nums
 have ht:=hx.txts
 have hS:=qBx ⟨10,a,b,n,st,tx,nu,su,gi,na,bi,se,ex,pr,ba,pt,td,fa,cu,fl⟩ (qBk ⟨10,a,b,n,st,tx,nu,su,gi,na,bi,se,ex,pr,ba,pt,td,fa,cu,fl⟩) P [] hx.pts rfl (by simp only at hn ⊢;omega) (by simp only at hn ⊢;omega) (by simp only at hn ⊢;omega) (by simp only at hn ⊢;omega)
 simp only at hn ht
 rw [lineK_fin (show 1≤(10:Int)∧(10:Int)≤11 by omega)]
 have hnk:=nameR_at (show 1≤(10:Int)∧(10:Int)≤11 by omega)
 have b0:=@qCo 10
 obtain ⟨p0,hp0⟩:∃ p,p=((qBc 10,true):List UInt8×Bool):=⟨_,rfl⟩
 have b0:p0.1.length≤10:=by rw [hp0];exact b0
 obtain ⟨p1,hp1⟩:∃ p,p=lnF p0 (.num a):=⟨_,rfl⟩
 have b1:p1.1.length≤211310:=by
  have:=lnF_len (p:=p0) (f:=.num a) (trivial)
  rw [hp1];omega
 have m1:Spec Tryz.prog 21 [.ptr 0 0,.I a] [.row (lnO p0)] (fun r h'=>r=.tup []∧h'=[.row (lnO p1)]):=by rw [hp1];exact numLR_spec p0 _ (by omega)
 obtain ⟨p2,hp2⟩:∃ p,p=lnF p1 (.num b):=⟨_,rfl⟩
 have b2:p2.1.length≤422610:=by
  have:=lnF_len (p:=p1) (f:=.num b) (trivial)
  rw [hp2];omega
 have m2:Spec Tryz.prog 21 [.ptr 0 0,.I b] [.row (lnO p1)] (fun r h'=>r=.tup []∧h'=[.row (lnO p2)]):=by rw [hp2];exact numLR_spec p1 _ (by omega)
 obtain ⟨p3,hp3⟩:∃ p,p=lnF p2 (.nums cu):=⟨_,rfl⟩
 have b3:p3.1.length≤633910:=by
  have:=lnF_len (p:=p2) (f:=.nums cu) (show cu.length≤3200 by omega)
  rw [hp3];omega
 have m3:Spec Tryz.prog 26 [.ptr 0 0,.d (.sl 1 (encI cu))] [.row (lnO p2)] (fun r h'=>r=.tup []∧h'=[.row (lnO p3)]):=by rw [hp3];exact numsLR_spec p2 _ (by omega) (by omega)
 obtain ⟨p4,hp4⟩:∃ p,p=lnF p3 (.flps fl):=⟨_,rfl⟩
 have b4:p4.1.length≤845210:=by
  have:=lnF_len (p:=p3) (f:=.flps fl) (show fl.length≤3200 by omega)
  rw [hp4];omega
 have q4:=flipsR_spec fl (by omega)
 have m4:Spec Tryz.prog 23 [.ptr 0 0,.d (.str (qOv fl).1),.d (.bool (qOv fl).2)] [.row (lnO p3)] (fun r h'=>r=.tup []∧h'=[.row (lnO p4)]):=by rw [hp4];exact addR_spec p3 _ _ (by omega) (by have:=flsR_len fl (by omega);omega)
 have hl:qGk ⟨10,a,b,n,st,tx,nu,su,gi,na,bi,se,ex,pr,ba,pt,td,fa,cu,fl⟩=p4:=by rw [hp4,hp3,hp2,hp1,hp0];rfl
 rw [hl]
 have hp0':p0=(p0.1,true):=by rw [hp0]
 have hnk:(qAi ([]::qBy))[(10:Int).toNat]?=some [.str p0.1]:=by rw [hp0];exact hnk
 clear hl hp4 hp3 hp2 hp1 hp0 hn ht hx b0 b1 b2 b3 b4
 generalize decide (⟨10,a,b,n,st,tx,nu,su,gi,na,bi,se,ex,pr,ba,pt,td,fa,cu,fl⟩=qBk ⟨10,a,b,n,st,tx,nu,su,gi,na,bi,se,ex,pr,ba,pt,td,fa,cu,fl⟩)=sb at hS ⊢
 generalize qBk ⟨10,a,b,n,st,tx,nu,su,gi,na,bi,se,ex,pr,ba,pt,td,fa,cu,fl⟩=y at hK hS
 obtain ⟨k',a',b',n',st',tx',nu',su',gi',na',bi',se',ex',pr',ba',pt',td',fa',cu',fl'⟩:=y
 unfold qBn at *
 simp only at *
 generalize qOv fl=fr at *
 obtain ⟨fr1,fr2⟩:=fr
 simp only at *
 refine qAb hT Tryz.func7 rfl rfl rfl rfl ?_;intro E hE
 refine qAt ?_
 refine qAg (qAd ?_)
 refine wws ?_
 refine ww ?_
 refine wwgc namesR_spec ?_
 refine wg hT rfl rfl rfl rfl rfl ?_
 refine wg hT rfl rfl rfl rfl rfl ?_
 refine wd hT rfl rfl rfl ?_
 refine wd hT rfl rfl rfl ?_
 refine qBl (v:=.agg [.I 10,.I a,.I b,.I n,.d (.str st),.d (.str tx),.d (.str nu),.d (.str su),.d (.str gi),.d (.str na),.d (.str bi),.d (.str se),.I ex,.d (.sl 1 (encI pr)),.d (.bool ba),.d (.sl 5 P),.I td,.d (.sl 1 (encI fa)),.d (.sl 1 (encI cu)),.d (.sl 3 (qAp fl))]) rfl rfl rfl rfl (fun hg=>⟨(sg (C:=True) hg).1,qAn (i:=1) (off:=0) hT rfl rfl rfl (qEf rfl)⟩) ?_
 refine qBl (v:=.agg [.I 10,.I a,.I b,.I n,.d (.str st),.d (.str tx),.d (.str nu),.d (.str su),.d (.str gi),.d (.str na),.d (.str bi),.d (.str se),.I ex,.d (.sl 1 (encI pr)),.d (.bool ba),.d (.sl 5 P),.I td,.d (.sl 1 (encI fa)),.d (.sl 1 (encI cu)),.d (.sl 3 (qAp fl))]) rfl rfl rfl rfl (fun hg=>⟨(sg (C:=True) hg).1,qAn (i:=1) (off:=0) hT rfl rfl rfl (qEf rfl)⟩) ?_
 refine wwgc hK ?_
 refine wwgc hS ?_
 refine ww ?_
 cases sb with
 | false =>
  refine qAa rfl (fun q=>?_) (fun q=>absurd q (by decide))
  refine ww ?_
  exact wwr
 | true =>
  refine qAa rfl (fun q=>absurd q (by decide)) (fun q=>?_)
  clear hK hS q
  refine wwn ?_
  refine qAq (fun i=>bif Nat.beq i 2 then [1] else bif Nat.beq i 6 then [0] else []) (fun i=>bif Nat.beq i 6 then [0] else []) mixed (by kernel_rfl) ?_
  refine wwdc namesR_spec ?_
  refine wwg ?_
  refine qAj (os:=[]) (fun k hk hr=>qAc (indexAddr_ok hT rfl rfl rfl rfl (by omega) hnk)) rfl ?_
  refine wwg ?_
  refine qAj (os:=[.row (lnO (p0.1,true))]) (v:=.ptr 0 0) (fun k hk hr=>boxAt_ok (i0:=0) (cs:=lnO (p0.1,true)) rfl rfl ((hr 0 (List.mem_singleton.2 rfl)).trans rfl)) rfl ?_
  rw [← hp0']
  refine wwg ?_
  refine qAg (qAd ?_)
  refine wws ?_
  refine qAk (l:=[(1,.ptr 1 0),(3,.ptr 0 0),(4,.ptr 2 0)]) (h':=[.row (lnO p0),.row [.I 10,.I a,.I b,.I n,.d (.str st),.d (.str tx),.d (.str nu),.d (.str su),.d (.str gi),.d (.str na),.d (.str bi),.d (.str se),.I ex,.d (.sl 1 (encI pr)),.d (.bool ba),.d (.sl 5 P),.I td,.d (.sl 1 (encI fa)),.d (.sl 1 (encI cu)),.d (.sl 3 (qAp fl))],.row [.d (.str nu),.d (.str su),.d (.str gi),.d (.str na),.d (.str bi),.d (.str se),.I ex,.d (.sl 1 (encI pr)),.d (.bool ba),.d (.sl 5 P),.I td,.d (.sl 1 (encI fa))]]) yf (HLe.refl _) ?_
  refine wwn ?_
  refine qAa rfl (fun q=>absurd q (by decide)) (fun q=>?_)
  refine wwn ?_
  refine qAa rfl (fun q=>absurd q (by decide)) (fun q=>?_)
  refine wwn ?_
  refine qAa rfl (fun q=>absurd q (by decide)) (fun q=>?_)
  refine wwn ?_
  refine qAa rfl (fun q=>absurd q (by decide)) (fun q=>?_)
  refine wwn ?_
  refine qAa rfl (fun q=>absurd q (by decide)) (fun q=>?_)
  refine wwn ?_
  refine qAa rfl (fun q=>absurd q (by decide)) (fun q=>?_)
  refine wwn ?_
  refine qAe (qAl (H':=[.row (lnO p1),.row [.I 10,.I a,.I b,.I n,.d (.str st),.d (.str tx),.d (.str nu),.d (.str su),.d (.str gi),.d (.str na),.d (.str bi),.d (.str se),.I ex,.d (.sl 1 (encI pr)),.d (.bool ba),.d (.sl 5 P),.I td,.d (.sl 1 (encI fa)),.d (.sl 1 (encI cu)),.d (.sl 3 (qAp fl))],.row [.d (.str nu),.d (.str su),.d (.str gi),.d (.str na),.d (.str bi),.d (.str se),.I ex,.d (.sl 1 (encI pr)),.d (.bool ba),.d (.sl 5 P),.I td,.d (.sl 1 (encI fa))]]) rfl rfl m1 [0] (by decide) rfl rfl rfl rfl rfl rfl rfl) rfl ?_
  refine wwn ?_
  refine qAe (qAl (H':=[.row (lnO p2),.row [.I 10,.I a,.I b,.I n,.d (.str st),.d (.str tx),.d (.str nu),.d (.str su),.d (.str gi),.d (.str na),.d (.str bi),.d (.str se),.I ex,.d (.sl 1 (encI pr)),.d (.bool ba),.d (.sl 5 P),.I td,.d (.sl 1 (encI fa)),.d (.sl 1 (encI cu)),.d (.sl 3 (qAp fl))],.row [.d (.str nu),.d (.str su),.d (.str gi),.d (.str na),.d (.str bi),.d (.str se),.I ex,.d (.sl 1 (encI pr)),.d (.bool ba),.d (.sl 5 P),.I td,.d (.sl 1 (encI fa))]]) rfl rfl m2 [0] (by decide) rfl rfl rfl rfl rfl rfl rfl) rfl ?_
  refine wwn ?_
  refine qAa rfl (fun q=>absurd q (by decide)) (fun q=>?_)
  refine wwn ?_
  refine qAa rfl (fun q=>?_) (fun q=>absurd q (by decide))
  refine wwn ?_
  refine qAe (qAl (H':=[.row (lnO p3),.row [.I 10,.I a,.I b,.I n,.d (.str st),.d (.str tx),.d (.str nu),.d (.str su),.d (.str gi),.d (.str na),.d (.str bi),.d (.str se),.I ex,.d (.sl 1 (encI pr)),.d (.bool ba),.d (.sl 5 P),.I td,.d (.sl 1 (encI fa)),.d (.sl 1 (encI cu)),.d (.sl 3 (qAp fl))],.row [.d (.str nu),.d (.str su),.d (.str gi),.d (.str na),.d (.str bi),.d (.str se),.I ex,.d (.sl 1 (encI pr)),.d (.bool ba),.d (.sl 5 P),.I td,.d (.sl 1 (encI fa))]]) rfl rfl m3 [0] (by decide) rfl rfl rfl rfl rfl rfl rfl) rfl ?_
  refine wwn ?_
  refine wwc q4 ?_
  refine wwn ?_
  refine qAe (qAl (H':=[.row (lnO p4),.row [.I 10,.I a,.I b,.I n,.d (.str st),.d (.str tx),.d (.str nu),.d (.str su),.d (.str gi),.d (.str na),.d (.str bi),.d (.str se),.I ex,.d (.sl 1 (encI pr)),.d (.bool ba),.d (.sl 5 P),.I td,.d (.sl 1 (encI fa)),.d (.sl 1 (encI cu)),.d (.sl 3 (qAp fl))],.row [.d (.str nu),.d (.str su),.d (.str gi),.d (.str na),.d (.str bi),.d (.str se),.I ex,.d (.sl 1 (encI pr)),.d (.bool ba),.d (.sl 5 P),.I td,.d (.sl 1 (encI fa))]]) rfl rfl m4 [0] (by decide) rfl rfl rfl rfl rfl rfl rfl) rfl ?_
  refine wwn ?_
  obtain ⟨z,ok⟩:=p4
  unfold lnO
  refine ww ?_
  cases ok with
  | false =>
   refine qAa rfl (fun q=>?_) (fun q=>absurd q (by simp))
   refine ww ?_
   exact wwr
  | true =>
   refine qAa rfl (fun q=>absurd q (by simp)) (fun q=>?_)
   refine ww ?_
   exact wwr
theorem qQw (a b n:Int) (st tx nu su gi na bi se:List UInt8) (ex:Int) (pr:List Int) (ba:Bool) (pt:Nat) (td:Int) (fa cu:List Int) (fl:List Flp) (P:List (List Dat)) (hx:ActLen ⟨11,a,b,n,st,tx,nu,su,gi,na,bi,se,ex,pr,ba,pt,td,fa,cu,fl⟩ P):Spec Tryz.prog 7 [.agg (qBn ⟨11,a,b,n,st,tx,nu,su,gi,na,bi,se,ex,pr,ba,pt,td,fa,cu,fl⟩ P)] [] (fun r h'=>r=.d (.str (lineK ⟨11,a,b,n,st,tx,nu,su,gi,na,bi,se,ex,pr,ba,pt,td,fa,cu,fl⟩))∧h'=[]):=by
 have hK:=keepR11_spec a b n st tx nu su gi na bi se ex pr ba pt td fa cu fl P
 have hn:=hx.nums
 have ht:=hx.txts
 have hS:=qBx ⟨11,a,b,n,st,tx,nu,su,gi,na,bi,se,ex,pr,ba,pt,td,fa,cu,fl⟩ (qBk ⟨11,a,b,n,st,tx,nu,su,gi,na,bi,se,ex,pr,ba,pt,td,fa,cu,fl⟩) P [] hx.pts rfl (by simp only at hn ⊢;omega) (by simp only at hn ⊢;omega) (by simp only at hn ⊢;omega) (by simp only at hn ⊢;omega)
 simp only at hn ht
 rw [lineK_fin (show 1≤(11:Int)∧(11:Int)≤11 by omega)]
 have hnk:=nameR_at (show 1≤(11:Int)∧(11:Int)≤11 by omega)
 have b0:=@qCo 11
 obtain ⟨p0,hp0⟩:∃ p,p=((qBc 11,true):List UInt8×Bool):=⟨_,rfl⟩
 have b0:p0.1.length≤10:=by rw [hp0];exact b0
 obtain ⟨p1,hp1⟩:∃ p,p=lnF p0 (.txt st):=⟨_,rfl⟩
 have b1:p1.1.length≤211310:=by
  have:=lnF_len (p:=p0) (f:=.txt st) (show st.length≤12000 by omega)
  rw [hp1];omega
 have m1:Spec Tryz.prog 22 [.ptr 0 0,.d (.str st)] [.row (lnO p0)] (fun r h'=>r=.tup []∧h'=[.row (lnO p1)]):=by rw [hp1];exact textLR_spec p0 _ (by omega) (by omega)
 obtain ⟨p2,hp2⟩:∃ p,p=lnF p1 (.rst tx):=⟨_,rfl⟩
 have b2:p2.1.length≤422610:=by
  have:=lnF_len (p:=p1) (f:=.rst tx) (show tx.length≤12000 by omega)
  rw [hp2];omega
 have q2:=plainR_spec tx (by omega)
 have m2:Spec Tryz.prog 23 [.ptr 0 0,.d (.str tx),.d (.bool (vAv tx))] [.row (lnO p1)] (fun r h'=>r=.tup []∧h'=[.row (lnO p2)]):=by rw [hp2];exact addR_spec p1 _ _ (by omega) (by omega)
 have hl:qGk ⟨11,a,b,n,st,tx,nu,su,gi,na,bi,se,ex,pr,ba,pt,td,fa,cu,fl⟩=p2:=by rw [hp2,hp1,hp0];rfl
 rw [hl]
 have hp0':p0=(p0.1,true):=by rw [hp0]
 have hnk:(qAi ([]::qBy))[(11:Int).toNat]?=some [.str p0.1]:=by rw [hp0];exact hnk
 clear hl hp2 hp1 hp0 hn ht hx b0 b1 b2
 generalize decide (⟨11,a,b,n,st,tx,nu,su,gi,na,bi,se,ex,pr,ba,pt,td,fa,cu,fl⟩=qBk ⟨11,a,b,n,st,tx,nu,su,gi,na,bi,se,ex,pr,ba,pt,td,fa,cu,fl⟩)=sb at hS ⊢
 generalize qBk ⟨11,a,b,n,st,tx,nu,su,gi,na,bi,se,ex,pr,ba,pt,td,fa,cu,fl⟩=y at hK hS
 obtain ⟨k',a',b',n',st',tx',nu',su',gi',na',bi',se',ex',pr',ba',pt',td',fa',cu',fl'⟩:=y
 unfold qBn at *
 simp only at *
 generalize vAv tx=rb at *
 refine qAb hT Tryz.func7 rfl rfl rfl rfl ?_;intro E hE
 refine qAt ?_
 refine qAg (qAd ?_)
 refine wws ?_
 refine ww ?_
 refine wwgc namesR_spec ?_
 refine wg hT rfl rfl rfl rfl rfl ?_
 refine wg hT rfl rfl rfl rfl rfl ?_
 refine wd hT rfl rfl rfl ?_
 refine wd hT rfl rfl rfl ?_
 refine qBl (v:=.agg [.I 11,.I a,.I b,.I n,.d (.str st),.d (.str tx),.d (.str nu),.d (.str su),.d (.str gi),.d (.str na),.d (.str bi),.d (.str se),.I ex,.d (.sl 1 (encI pr)),.d (.bool ba),.d (.sl 5 P),.I td,.d (.sl 1 (encI fa)),.d (.sl 1 (encI cu)),.d (.sl 3 (qAp fl))]) rfl rfl rfl rfl (fun hg=>⟨(sg (C:=True) hg).1,qAn (i:=1) (off:=0) hT rfl rfl rfl (qEf rfl)⟩) ?_
 refine qBl (v:=.agg [.I 11,.I a,.I b,.I n,.d (.str st),.d (.str tx),.d (.str nu),.d (.str su),.d (.str gi),.d (.str na),.d (.str bi),.d (.str se),.I ex,.d (.sl 1 (encI pr)),.d (.bool ba),.d (.sl 5 P),.I td,.d (.sl 1 (encI fa)),.d (.sl 1 (encI cu)),.d (.sl 3 (qAp fl))]) rfl rfl rfl rfl (fun hg=>⟨(sg (C:=True) hg).1,qAn (i:=1) (off:=0) hT rfl rfl rfl (qEf rfl)⟩) ?_
 refine wwgc hK ?_
 refine wwgc hS ?_
 refine ww ?_
 cases sb with
 | false =>
  refine qAa rfl (fun q=>?_) (fun q=>absurd q (by decide))
  refine ww ?_
  exact wwr
 | true =>
  refine qAa rfl (fun q=>absurd q (by decide)) (fun q=>?_)
  clear hK hS q
  refine wwn ?_
  refine qAq (fun i=>bif Nat.beq i 2 then [1] else bif Nat.beq i 6 then [0] else []) (fun i=>bif Nat.beq i 6 then [0] else []) mixed (by kernel_rfl) ?_
  refine wwdc namesR_spec ?_
  refine wwg ?_
  refine qAj (os:=[]) (fun k hk hr=>qAc (indexAddr_ok hT rfl rfl rfl rfl (by omega) hnk)) rfl ?_
  refine wwg ?_
  refine qAj (os:=[.row (lnO (p0.1,true))]) (v:=.ptr 0 0) (fun k hk hr=>boxAt_ok (i0:=0) (cs:=lnO (p0.1,true)) rfl rfl ((hr 0 (List.mem_singleton.2 rfl)).trans rfl)) rfl ?_
  rw [← hp0']
  refine wwg ?_
  refine qAg (qAd ?_)
  refine wws ?_
  refine qAk (l:=[(1,.ptr 1 0),(3,.ptr 0 0),(4,.ptr 2 0)]) (h':=[.row (lnO p0),.row [.I 11,.I a,.I b,.I n,.d (.str st),.d (.str tx),.d (.str nu),.d (.str su),.d (.str gi),.d (.str na),.d (.str bi),.d (.str se),.I ex,.d (.sl 1 (encI pr)),.d (.bool ba),.d (.sl 5 P),.I td,.d (.sl 1 (encI fa)),.d (.sl 1 (encI cu)),.d (.sl 3 (qAp fl))],.row [.d (.str nu),.d (.str su),.d (.str gi),.d (.str na),.d (.str bi),.d (.str se),.I ex,.d (.sl 1 (encI pr)),.d (.bool ba),.d (.sl 5 P),.I td,.d (.sl 1 (encI fa))]]) yf (HLe.refl _) ?_
  refine wwn ?_
  refine qAa rfl (fun q=>absurd q (by decide)) (fun q=>?_)
  refine wwn ?_
  refine qAa rfl (fun q=>absurd q (by decide)) (fun q=>?_)
  refine wwn ?_
  refine qAa rfl (fun q=>?_) (fun q=>absurd q (by decide))
  refine wwn ?_
  refine qAe (qAl (H':=[.row (lnO p1),.row [.I 11,.I a,.I b,.I n,.d (.str st),.d (.str tx),.d (.str nu),.d (.str su),.d (.str gi),.d (.str na),.d (.str bi),.d (.str se),.I ex,.d (.sl 1 (encI pr)),.d (.bool ba),.d (.sl 5 P),.I td,.d (.sl 1 (encI fa)),.d (.sl 1 (encI cu)),.d (.sl 3 (qAp fl))],.row [.d (.str nu),.d (.str su),.d (.str gi),.d (.str na),.d (.str bi),.d (.str se),.I ex,.d (.sl 1 (encI pr)),.d (.bool ba),.d (.sl 5 P),.I td,.d (.sl 1 (encI fa))]]) rfl rfl m1 [0] (by decide) rfl rfl rfl rfl rfl rfl rfl) rfl ?_
  refine wwn ?_
  refine qAq (fun i=>bif Nat.beq i 2||Nat.beq i 4 then [1] else bif Nat.beq i 6 then [0] else []) (fun i=>bif Nat.beq i 6 then [0] else []) mixed (by kernel_rfl) ?_
  refine wwg ?_
  refine wwdc q2 ?_
  refine wwg ?_
  refine qAj (os:=[.row (lnO p2)]) (v:=.tup []) (fun k hk hr=>qAl rfl rfl m2 [0] (by decide) (congrArg (fun z=>[z]) ((hr 0 (List.mem_singleton.2 rfl)).trans rfl)) rfl rfl rfl rfl rfl rfl) rfl ?_
  refine wwg ?_
  refine wwn ?_
  refine qAa rfl (fun q=>absurd q (by decide)) (fun q=>?_)
  refine wwn ?_
  refine qAa rfl (fun q=>absurd q (by decide)) (fun q=>?_)
  refine wwn ?_
  obtain ⟨z,ok⟩:=p2
  unfold lnO
  refine ww ?_
  cases ok with
  | false =>
   refine qAa rfl (fun q=>?_) (fun q=>absurd q (by simp))
   refine ww ?_
   exact wwr
  | true =>
   refine qAa rfl (fun q=>absurd q (by simp)) (fun q=>?_)
   refine ww ?_
   exact wwr
theorem qTm (k:Int) (a b n:Int) (st tx nu su gi na bi se:List UInt8) (ex:Int) (pr:List Int) (ba:Bool) (pt:Nat) (td:Int) (fa cu:List Int) (fl:List Flp) (P:List (List Dat)) (hk:¬ (1≤k∧k≤11)):Spec Tryz.prog 7 [.agg (qBn ⟨k,a,b,n,st,tx,nu,su,gi,na,bi,se,ex,pr,ba,pt,td,fa,cu,fl⟩ P)] [] (fun r h'=>r=.d (.str (lineK ⟨k,a,b,n,st,tx,nu,su,gi,na,bi,se,ex,pr,ba,pt,td,fa,cu,fl⟩))∧h'=[]):=by
 rw [lineK_no (fun hh=>hk hh.1)]
 have hb:(decide (k < 1)||decide (k≥((qAi ([]::qBy)).length:Int)))=true:=by
  rw [show (qAi ([]::qBy)).length=12 from rfl]
  simp
  omega
 unfold qBn
 simp only
 refine qAb hT Tryz.func7 rfl rfl rfl rfl ?_;intro E hE
 refine ww ?_
 refine wwgc namesR_spec ?_
 refine wg hT rfl rfl rfl rfl rfl ?_
 refine wg hT rfl rfl rfl rfl rfl ?_
 refine wd hT rfl rfl rfl ?_
 refine wd hT rfl rfl rfl ?_
 refine wwk hb ?_
 refine qAa rfl (fun q=>?_) (fun q=>absurd q (by rw [hb];simp))
 refine ww ?_
 exact wwr
theorem qXh (x:Akt) (P:List (List Dat)) (hx:ActLen x P):Spec Tryz.prog 7 [.agg (qBn x P)] [] (fun r h'=>r=.d (.str (lineK x))∧h'=[]):=by
 obtain ⟨k,a,b,n,st,tx,nu,su,gi,na,bi,se,ex,pr,ba,pt,td,fa,cu,fl⟩:=x
 by_cases hk:1≤k∧k≤11
 case neg=>exact qTm k a b n st tx nu su gi na bi se ex pr ba pt td fa cu fl P hk
 rcases (by omega:k=1∨k=2∨k=3∨k=4∨k=5∨k=6∨k=7∨k=8∨k=9∨k=10∨k=11) with rfl | rfl | rfl | rfl | rfl | rfl | rfl | rfl | rfl | rfl | rfl
 ·exact qTv a b n st tx nu su gi na bi se ex pr ba pt td fa cu fl P hx
 ·exact qTu a b n st tx nu su gi na bi se ex pr ba pt td fa cu fl P hx
 ·exact qTt a b n st tx nu su gi na bi se ex pr ba pt td fa cu fl P hx
 ·exact qTs a b n st tx nu su gi na bi se ex pr ba pt td fa cu fl P hx
 ·exact qTr a b n st tx nu su gi na bi se ex pr ba pt td fa cu fl P hx
 ·exact qTq a b n st tx nu su gi na bi se ex pr ba pt td fa cu fl P hx
 ·exact qTp a b n st tx nu su gi na bi se ex pr ba pt td fa cu fl P hx
 ·exact qTo a b n st tx nu su gi na bi se ex pr ba pt td fa cu fl P hx
 ·exact qTn a b n st tx nu su gi na bi se ex pr ba pt td fa cu fl P hx
 ·exact qQx a b n st tx nu su gi na bi se ex pr ba pt td fa cu fl P hx
 ·exact qQw a b n st tx nu su gi na bi se ex pr ba pt td fa cu fl P hx
noncomputable def readO (s:List UInt8):Akt×Int:=if s≠[]∧lineK (qMh s)=s then (qMh s,0) else (akt0,77)
theorem readF_0 {s:List UInt8} (hk:qCb ((spl 32 s).getD 0 [])=0):qMh s=akt0:=by
 unfold qMh
 cases hv:spl 32 s with
 | nil=>exact absurd hv (qFq _ _)
 | cons w ws =>
  rw [hv] at hk
  simp only [List.getD_cons_zero] at hk
  simp only [hk]
  rfl
theorem readO_0 {s:List UInt8} (hk:qCb ((spl 32 s).getD 0 [])=0):readO s=(akt0,77):=by
 unfold readO
 rw [readF_0 hk,lineK_no (x:=akt0) (fun h=>by have:=h.1.1;simp [akt0] at this),if_neg (fun h=>h.1 h.2.symm)]
theorem qMs (w:List UInt8):(qCn w).length≤w.length+1:=by
 unfold qCn
 split
 ·simp
 ·rw [qIk]
  have:=List.count_le_length (a:=(44:UInt8)) (l:=w)
  omega
theorem qXy (w:List UInt8):(qIi w).length≤w.length:=by
 unfold qIi
 split
 ·simp
 ·simp
theorem actZ_le (k:Int):AllLe (qJi k) (qBn { akt0 with kind:=k } []):=by
 have:=qLj (qJi k)
 rwa [actZ_demote] at this
abbrev cAct (k a b n:Int) (st tx nu su gi na bi se:List UInt8) (ex:Int) (pr:List (List Dat)) (ba:Bool) (fa cu fl:List (List Dat)):List AV :=
 [.I k,.I a,.I b,.I n,.d (.str st),.d (.str tx),.d (.str nu),.d (.str su),.d (.str gi),.d (.str na),.d (.str bi),.d (.str se),.I ex,.d (.sl 1 pr),.d (.bool ba),.d (.sl 5 []),.I 0,.d (.sl 1 fa),.d (.sl 1 cu),.d (.sl 3 fl)]
theorem vBw {x:Akt} (hk:1≤x.kind∧x.kind≤11) (hs:qHf x) (hp:qJe x):qRs (joi 32 (qBp x))=(qBn (qGv x) [],true)∧(qGv x).pts=0:=by
 have h1:=qYg hk (okQ_of hs hp)
 rcases scanC_F (joi 32 (qBp x)) with ⟨y,h2,h3,h4,h5⟩ | ⟨h2,_⟩
 ·rw [h1] at h2
  cases h2
  exact ⟨h3,h5⟩
 ·rw [h1] at h2;cases h2
theorem nameK_at {k:Int} (h:1≤k∧k≤11):(qAi qBy)[(k-1).toNat]?=some [.str (qBc k)]:=by
 rcases (by omega:k=1∨k=2∨k=3∨k=4∨k=5∨k=6∨k=7∨k=8∨k=9∨k=10∨k=11) with rfl | rfl | rfl | rfl | rfl | rfl | rfl | rfl | rfl | rfl | rfl <;> rfl
theorem vBh (x:Akt) (P:List (List Dat)):qBe 2 (qBn x P).tail=true:=rfl
theorem qLp (x:Akt) (P:List (List Dat)) (hx:ActLen x P) (hr : -9223372036854775808≤x.kind∧x.kind≤9223372036854775807):Spec Tryz.prog 6 [.agg (qBn x P)] [] (fun r h'=>r=.d (.str (lineK x))∧h'=[]):=by
 have hS:=smallC_spec x P hx
 have hP:=plainC_spec x P hx
 have hi:=vBy x
 have hno:=@lineK_no x
 have hyes:LineOk x→lineK x=joi 32 (qBp x):=fun h=>by unfold lineK;rw [if_pos h]
 have hsb:=numsA_iff x
 have hpb:=plainB_iff x
 have hnl:(qAi qBy).length=11:=rfl
 have hcell:qBn x P=.I x.kind::(qBn x P).tail:=rfl
 by_cases hk:1≤x.kind∧x.kind≤11
 case neg =>
  rw [hno (fun h=>hk (hi.1 h).1)]
  clear hi hno hyes hsb hpb
  generalize (qSb x).any vBa=b1 at hS
  generalize qKw x=b2 at hP
  unfold qBn at *
  refine qAb hT Tryz.func6 rfl rfl rfl rfl ?_;intro E hE
  refine ww ?_
  refine wwgc namesC_spec ?_
  refine ww ?_
  refine wwgc hS ?_
  refine ww ?_
  refine wwgc hP ?_
  refine ww ?_
  refine qAa rfl (fun q=>?_) (fun q=>?_)
  ·refine ww ?_
   exact wwr
  ·exfalso
   rw [hnl] at q
   simp at q
   omega
 by_cases hb:(qSb x).any vBa=false∧qKw x=true
 case neg =>
  rw [hno (fun h=>hb ⟨hsb.2 (hi.1 h).2.1,hpb.2 (hi.1 h).2.2.1⟩)]
  clear hi hno hyes hsb hpb
  generalize (qSb x).any vBa=b1 at hS hb
  generalize qKw x=b2 at hP hb
  unfold qBn at *
  refine qAb hT Tryz.func6 rfl rfl rfl rfl ?_;intro E hE
  refine ww ?_
  refine wwgc namesC_spec ?_
  refine ww ?_
  refine wwgc hS ?_
  refine ww ?_
  refine wwgc hP ?_
  refine ww ?_
  refine qAa rfl (fun q=>?_) (fun q=>?_)
  ·refine ww ?_
   exact wwr
  ·exfalso
   simp at q
   exact hb ⟨q.1.2,q.2⟩
 obtain ⟨hb1,hb2⟩:=hb
 have hsm:=hsb.1 hb1
 have hpl:=hpb.1 hb2
 obtain ⟨hsc,hpt⟩:=vBw hk hsm hpl
 have hfk:=vIc hx hsm
 have hll:=vBx hfk
 have hjn:∀ l,l=qBp x→Spec Tryz.prog 15 [.d (.sl 1 (qAi l)),.d (.str [32])] [] (fun r h'=>r=.d (.str (joi 32 (qBp x)))∧h'=[]):=fun l hl=>by
  subst hl
  exact qQy 32 (qBp x) (by have:=(qNb x).2;unfold qBp;simp;omega) (by omega)
 have hscan:=qPb (joi 32 (qBp x)) hll
 rw [hsc] at hscan
 have hsame:=sameC_spec x (qGv x) P (by have:=hx.nums;omega) (by have:=hx.nums;omega) (by have:=hx.nums;omega) (by have:=hx.nums;omega)
 have hsi:=sameB_iff (y:=qGv x) hx.pts hpt
 have hfin:lineK x=if qRt x (qGv x) P then joi 32 (qBp x) else []:=by
  by_cases h:qRt x (qGv x) P=true
  ·rw [if_pos h];exact hyes (hi.2 ⟨hk,hsm,hpl,hsi.1 h⟩)
  ·rw [if_neg h];exact hno (fun hh=>h (hsi.2 (hi.1 hh).2.2.2))
 rw [hfin,hcell]
 rw [hb1] at hS
 rw [hb2] at hP
 rw [hcell] at hS hP hsame
 have hf:=fieldsC_spec x.kind (qBn x P).tail (vBh x P) hk
 have hFO:=vIo x P hk
 have hnk:=nameK_at hk
 have hWR:∀ f,f∈qAo x→∀ off,(qBn x P)[off]?=some (qDo f)→Spec Tryz.prog 14 [.ifa (tyS (qDj f)) (.ptr 0 off)] [.row (qBn x P)] (fun r h'=>r=.d (.str (wrF f))∧h'=[.row (qBn x P)]):=fun f hf off hC=>writeC_spec f (hfk f hf) _ off hC rfl
 obtain ⟨hfl,hfl11⟩:=qNb x
 rw [hcell] at hFO hWR
 have hwd:qBp x=qBc x.kind::(qAo x).map wrF:=rfl
 have hlowC:qBe 0 (.I x.kind::(qBn x P).tail)=true:=rfl
 have hl20:(.I x.kind::(qBn x P).tail:List AV).length=20:=rfl
 clear hsb hpb hi hno hyes hsm hpl hsc hfk hll hfin hsi hx hcell hb1 hb2
 generalize qRt x (qGv x) P=eqb at hsame ⊢
 generalize hJ:joi 32 (qBp x)=J at hjn hscan ⊢
 clear hpt
 generalize qGv x=y at *
 obtain ⟨k',a',b',n',st',tx',nu',su',gi',na',bi',se',ex',pr',ba',pt',td',fa',cu',fl'⟩:=y
 generalize qBb x.kind=of at *
 generalize qAo x=fs at *
 generalize qBc x.kind=nm at *
 clear hJ
 generalize qBp x=W at *
 obtain ⟨k,a,b,n,st,tx,nu,su,gi,na,bi,se,ex,pr,ba,pt,td,fa,cu,fl⟩:=x
 unfold qBn at *
 simp only [List.tail_cons] at *
 refine qAb hT Tryz.func6 rfl rfl rfl rfl ?_;intro E hE
 refine qAt (qAt ?_)
 refine qAg (qAd ?_)
 refine wws ?_
 refine ww ?_
 refine wwgc namesC_spec ?_
 refine ww ?_
 refine wwgc hS ?_
 refine ww ?_
 refine wwgc hP ?_
 refine ww ?_
 refine qAa rfl (fun q=>?_) (fun q=>?_)
 ·exfalso
  rw [hnl] at q
  simp at q
  omega
 have hwk:IntKind.i64.wrap (k-1)=k-1:=qAf (by omega)
 have hnk':(qAi qBy)[(IntKind.i64.wrap (k-1)).toNat]?=some [.str nm]:=by rw [hwk];exact hnk
 refine ww ?_
 refine wwc namesC_spec ?_
 refine ww ?_
 refine wwi hnk' ?_
 refine wwn ?_
 refine qAe (qEp (v:=.row 0 0 of.length of.length) (H':=[.row (qHl (fsf [2,0]) (qCy of)),.room,.row [.I k,.I a,.I b,.I n,.d (.str st),.d (.str tx),.d (.str nu),.d (.str su),.d (.str gi),.d (.str na),.d (.str bi),.d (.str se),.I ex,.d (.sl 1 (encI pr)),.d (.bool ba),.d (.sl 5 P),.I td,.d (.sl 1 (encI fa)),.d (.sl 1 (encI cu)),.d (.sl 3 (qAp fl))]]) rfl rfl hf [2,0] (by decide) rfl rfl rfl rfl rfl rfl) rfl ?_
 rw [renL_ifa]
 refine wwn ?_
 refine qBj 3 1 1 (es:=[[.str nm]]) (.inl rfl) rfl ?_
 refine qAm (ι:=Nat) (fun i=>[(1,.ptr 2 0),(3,.sl 1 (qAi (nm::(fs.take i).map wrF)) (.right 1)),(36,.row 0 0 of.length of.length),(37,.I (of.length:Int)),(38,.I (i:Int))])
  (fun i=>[.row (vFf 2 of),.right 1 (qAi (nm::(fs.take i).map wrF)).length,.row [.I k,.I a,.I b,.I n,.d (.str st),.d (.str tx),.d (.str nu),.d (.str su),.d (.str gi),.d (.str na),.d (.str bi),.d (.str se),.I ex,.d (.sl 1 (encI pr)),.d (.bool ba),.d (.sl 5 P),.I td,.d (.sl 1 (encI fa)),.d (.sl 1 (encI cu)),.d (.sl 3 (qAp fl))]]) (fun i=>i≤fs.length) (fun i=>fs.length-i) 0 (Nat.zero_le _)
  yf (HLe.refl _) ?_
 intro i hi
 refine ww ?_
 refine qAa rfl (fun c3=>?_) (fun c3=>?_)
 ·have hi':i < fs.length:=by simp at c3;omega
  obtain ⟨o,ho1,ho2⟩:=vIn hFO hi'
  have hcl:(vFf 2 of)[0+((i:Int)).toNat*1]?=some (.ifa (tyS (qDj fs[i])) (.ptr 2 o)):=by simp [vFf,ho1]
  have hw:=hWR fs[i] (List.getElem_mem hi') o ho2
  have htk:fs.take (i+1)=fs.take i++[fs[i]]:=List.take_succ_eq_append_getElem hi'
  have hsn:qAi (nm::(fs.take (i+1)).map wrF)=qAi (nm::(fs.take i).map wrF)++[[.str (wrF fs[i])]]:=by rw [htk,List.map_append,← List.cons_append];exact strsAV_snoc _ _
  have hln:(qAi (nm::(fs.take i).map wrF)).length≤12:=by rw [strsAV_length,List.length_cons,List.length_map,List.length_take];omega
  generalize qAi (nm::(fs.take i).map wrF)=S at hsn hln ⊢
  generalize wrF fs[i]=wd at hw hsn
  generalize tyS (qDj fs[i])=ty at hw hcl
  clear hWR hFO ho1 ho2 htk
  refine ww ?_
  refine qAe (qAc (rowAddr_ok (sz:=1) hT rfl rfl rfl rfl (by omega))) rfl ?_
  refine qAe (qCj (i:=0) hT rfl rfl rfl rfl rfl hcl) rfl ?_
  refine ww ?_
  refine qAe (qAl rfl rfl hw [2] (by decide) rfl rfl rfl rfl rfl rfl rfl) rfl ?_
  refine ww ?_
  refine qAe (qAs (i:=1) hT rfl rfl rfl rfl rfl rfl (by show (S.length+1)*(16+1)≤_;omega)) rfl ?_
  refine ww ?_
  exact ⟨i+1,hi',by omega,⟨.refl _,AV.le.eq (by rw [hsn];rfl),.refl _,.refl _,.int (by rw [qAf (by omega)];omega),trivial⟩,⟨.refl _,by rw [hsn];exact ObLe.refl _,.refl _,trivial⟩⟩
 have hi':i=fs.length:=by simp at c3;omega
 subst hi'
 rw [List.take_length,← hwd]
 have hj:=hjn W rfl
 refine qCx ?_
 refine qAk (l:=[(1,.ptr 2 0),(3,.d (.sl 1 (qAi W)))]) ⟨.refl _,.dat,trivial⟩ (HLe.refl _) ?_
 generalize qAi W=SW at hj ⊢
 clear hjn hWR hFO hf hwd
 refine ww ?_
 refine wwc hj ?_
 refine ww ?_
 refine wwc hscan ?_
 refine ww ?_
 refine wwgc hsame ?_
 refine ww ?_
 cases eqb with
 | false =>
  refine qAa rfl (fun q=>?_) (fun q=>absurd q (by decide))
  refine ww ?_
  exact wwr
 | true =>
  refine qAa rfl (fun q=>absurd q (by decide)) (fun q=>?_)
  refine ww ?_
  exact wwr
def vIz (m:Nat):Fld→Prop
 | .num _=>True
 | .txt s=>s.length≤m
 | .rst s=>s.length≤m
 | .flg _=>True
 | .nums l=>l.length≤m+1
 | .flps l=>l.length≤m+1
theorem allW_len {α:Type} {f:List UInt8→Option α}:∀ {l:List (List UInt8)} {r:List α},qZz f l=some r→r.length=l.length
 | [],r,h=>by simp [qZz] at h;subst h;rfl
 | w::l,r,h=>by
  unfold qZz at h
  cases h1:f w with
  | none=>rw [h1] at h;simp at h
  | some a =>
   cases h2:qZz f l with
   | none=>rw [h1,h2] at h;simp at h
   | some q =>
    rw [h1,h2] at h
    simp at h
    subst h
    have:=allW_len h2
    simp [this]
theorem rdF_len {s:Shp} {w:List UInt8} {f:Fld} {m:Nat} (hw:w.length≤m) (h:rdF s w=some f):vIz m f:=by
 cases s with
 | num =>
  simp only [rdF,Option.map_eq_some_iff] at h
  obtain ⟨n,_,rfl⟩:=h
  trivial
 | txt=>simp only [rdF,Option.some.injEq] at h;subst h;show (qIi w).length≤m;have:=qXy w;omega
 | rst=>simp only [rdF,Option.some.injEq] at h;subst h;exact hw
 | flg=>simp only [rdF,Option.some.injEq] at h;subst h;trivial
 | nums =>
  simp only [rdF,Option.map_eq_some_iff] at h
  obtain ⟨l,h1,rfl⟩:=h
  show l.length≤m+1
  have:=allW_len h1
  have:=qMs w
  omega
 | flps =>
  simp only [rdF,Option.map_eq_some_iff] at h
  obtain ⟨l,h1,rfl⟩:=h
  show l.length≤m+1
  have:=allW_len h1
  have:=qMs w
  omega
theorem rdAll_len {m:Nat}:∀ {ss:List Shp} {ws:List (List UInt8)} {fs:List Fld},(∀ w,w∈ws→w.length≤m)→qHm ss ws=some fs→∀ f,f∈fs→vIz m f
 | [],[],fs,_,h=>by simp [qHm] at h;subst h;intro f hf;cases hf
 | [],w::ws,fs,_,h=>by simp [qHm] at h
 | s::ss,[],fs,_,h=>by simp [qHm] at h
 | s::ss,w::ws,fs,hw,h=>by
  unfold qHm at h
  cases h1:rdF s w with
  | none=>rw [h1] at h;simp at h
  | some a =>
   cases h2:qHm ss ws with
   | none=>rw [h1,h2] at h;simp at h
   | some q =>
    rw [h1,h2] at h
    simp at h
    subst h
    intro f hf
    rcases List.mem_cons.1 hf with rfl | hf
    ·exact rdF_len (hw w List.mem_cons_self) h1
    ·exact rdAll_len (fun v hv=>hw v (List.mem_cons_of_mem _ hv)) h2 f hf
theorem setA_len {m:Nat} (hm:m≤1500) (k:Int) (fs:List Fld) (h:∀ f,f∈fs→vIz m f):ActLen (qOu k fs) []:=by
 unfold qOu
 split
 ·split <;> exact ⟨rfl,by simp [akt0],by simp [akt0]⟩
 ·rename_i s t
  have h1:s.length≤m:=h (.txt s) (by simp)
  have h2:t.length≤m:=h (.txt t) (by simp)
  exact ⟨rfl,by simp [akt0],by simp [akt0];omega⟩
 ·rename_i s t
  have h1:s.length≤m:=h (.txt s) (by simp)
  have h2:t.length≤m:=h (.rst t) (by simp)
  exact ⟨rfl,by simp [akt0],by simp [akt0];omega⟩
 ·rename_i a nu su gi na bi se ex ba pr fa
  have h1:nu.length≤m:=h (.txt nu) (by simp)
  have h2:su.length≤m:=h (.txt su) (by simp)
  have h3:gi.length≤m:=h (.txt gi) (by simp)
  have h4:na.length≤m:=h (.txt na) (by simp)
  have h5:bi.length≤m:=h (.txt bi) (by simp)
  have h6:se.length≤m:=h (.txt se) (by simp)
  have h7:pr.length≤m+1:=h (.nums pr) (by simp)
  have h8:fa.length≤m+1:=h (.nums fa) (by simp)
  exact ⟨rfl,by simp [akt0];omega,by simp [akt0];omega⟩
 ·exact ⟨rfl,by simp [akt0],by simp [akt0]⟩
 ·rename_i a t
  have h2:t.length≤m:=h (.txt t) (by simp)
  exact ⟨rfl,by simp [akt0],by simp [akt0];omega⟩
 ·rename_i a b c f
  have h1:c.length≤m+1:=h (.nums c) (by simp)
  have h2:f.length≤m+1:=h (.flps f) (by simp)
  exact ⟨rfl,by simp [akt0];omega,by simp [akt0]⟩
 ·exact ⟨rfl,by simp [akt0],by simp [akt0]⟩
 ·exact ⟨rfl,by simp [akt0],by simp [akt0]⟩
theorem scanF_len {s:List UInt8} (hs:s.length≤1500) {x:Akt} (h:qHh s=some x):ActLen x []:=by
 unfold qHh at h
 cases hv:spl 32 s with
 | nil=>rw [hv] at h;simp at h
 | cons w ws =>
  rw [hv] at h
  simp only at h
  split at h
  ·simp at h
  ·rw [Option.map_eq_some_iff] at h
   obtain ⟨fs,h1,rfl⟩:=h
   refine setA_len (Nat.le_refl _) _ fs (rdAll_len (m:=1500) (fun v hv2=>?_) h1)
   split at hv2
   ·exact Nat.le_trans (splN_part_len 2 s v (List.mem_of_mem_drop hv2)) hs
   ·exact Nat.le_trans (qCq s v (by rw [hv];exact List.mem_cons_of_mem _ hv2)) hs
theorem scanF_ne {s:List UInt8} {x:Akt} (h:qHh s=some x):s≠[]:=fun hh=>by
 subst hh
 have:qHh []=none:=rfl
 rw [this] at h
 cases h
theorem readO_some {s:List UInt8} {x:Akt} (h:qHh s=some x):readO s=if lineK x=s then (x,0) else (akt0,77):=by
 have hs:=scanF_ne h
 unfold readO
 by_cases hl:lineK x=s
 ·have:=(qEx s x hs).1 ⟨h,hl⟩
  rw [this.1,if_pos ⟨hs,hl⟩,if_pos hl]
 ·rw [if_neg hl,if_neg]
  rintro ⟨_,h2⟩
  have:=(qEx s (qMh s) hs).2 ⟨rfl,h2⟩
  rw [h] at this
  have hx:=Option.some.inj this.1
  exact hl (by rw [hx];exact h2)
theorem readO_none {s:List UInt8} (h:qHh s=none):readO s=(akt0,77):=by
 unfold readO
 rw [if_neg]
 rintro ⟨hs,h2⟩
 have:=(qEx s (qMh s) hs).2 ⟨rfl,h2⟩
 rw [h] at this
 cases this.1
theorem qIf (s:List UInt8) (hs:s.length≤1500):Spec Tryz.prog 9 [.d (.str s)] [] (fun r h'=>r=.tup [.agg (qBn (readO s).1 []),.d (.int .i64 (readO s).2)]∧h'=[]):=by
 have hS:=qPb s (by omega)
 rcases scanC_F s with ⟨x,h1,h2,h3,h4⟩ | ⟨h1,x,h2,h4⟩
 ·rw [h2] at hS
  simp only at hS
  have hL:=qLp x [] (scanF_len hs h1) (by omega)
  rw [readO_some h1]
  clear h1 h2 h3 h4
  generalize lineK x=z at hL ⊢
  refine qAb hT Tryz.func9 rfl rfl rfl rfl ?_;intro E hE
  refine qAg (qAd ?_)
  refine wws ?_
  refine qAg (qAd ?_)
  refine wk hT rfl rfl ?_
  refine wwc hS ?_
  refine wk hT rfl rfl ?_
  refine wk hT rfl rfl ?_
  refine wk hT rfl rfl ?_
  refine wk hT rfl rfl ?_
  refine qBh (qAw (i:=1) (off:=0) hT rfl rfl rfl (qMm rfl rfl)) (forceS_eq _ _) ?_
  refine wws ?_
  refine qAk (l:=[(0,.d (.str s)),(2,.ptr 0 0),(4,.ptr 1 0),(5,.d (.bool true))]) (h':=[.row (qJi 0),.row (qBn x [])]) yf (HLe.refl _) ?_
  refine qAg (qAg (qAd ?_))
  refine wk hT rfl rfl ?_
  refine wk hT rfl rfl ?_
  refine wk hT rfl rfl ?_
  refine qEk (v:=.agg (qBn x [])) rfl rfl rfl (fun hg=>⟨(sg (C:=True) hg).1,qAn (i:=1) (off:=0) hT rfl rfl rfl (qEf rfl)⟩) ?_
  refine wwgc hL ?_
  refine ww ?_
  by_cases hzs:z=s
  ·rw [if_pos hzs]
   refine qAa rfl (fun q=>?_) (fun q=>?_)
   ·exfalso
    rw [hzs] at q
    simp at q
   refine wwe ?_
   refine qAg (qAd ?_)
   refine qAe (qAn (i:=1) (off:=0) hT rfl rfl rfl (qEf (C:=qBn x []) rfl)) rfl ?_
   refine qBh (qAw (i:=0) (off:=0) hT rfl rfl rfl (qMm (C:=qBn x []) rfl rfl)) (forceS_eq _ _) ?_
   refine ww ?_
   exact rq ⟨rfl,rfl⟩ rfl (.refl _)
  ·rw [if_neg hzs]
   refine qAa rfl (fun q=>?_) (fun q=>?_)
   case refine_2 =>
    exfalso
    simp at q
    exact hzs q
   refine qAg (qAd ?_)
   refine wk hT rfl rfl ?_
   refine qBh (qAw (i:=0) (off:=0) hT rfl rfl rfl (qMm rfl rfl)) (forceS_eq _ _) ?_
   refine ww ?_
   refine rq ⟨rfl,rfl⟩ rfl ?_
   exact AV.le.tup ⟨AV.le.agg (actZ_le 0),.refl _,trivial⟩
 ·rw [h2] at hS
  simp only at hS
  rw [readO_none h1]
  clear h1 h2 h4
  refine qAb hT Tryz.func9 rfl rfl rfl rfl ?_;intro E hE
  refine qAg (qAd ?_)
  refine wws ?_
  refine qAg (qAd ?_)
  refine wk hT rfl rfl ?_
  refine wwc hS ?_
  refine wk hT rfl rfl ?_
  refine wk hT rfl rfl ?_
  refine wk hT rfl rfl ?_
  refine wk hT rfl rfl ?_
  refine qBh (qAw (i:=1) (off:=0) hT rfl rfl rfl (qMm rfl rfl)) (forceS_eq _ _) ?_
  refine wws ?_
  refine qAk (l:=[(0,.d (.str s)),(2,.ptr 0 0),(4,.ptr 1 0),(5,.d (.bool false))]) (h':=[.row (qJi 0),.row (qBn x [])]) yf (HLe.refl _) ?_
  refine qAg (qAg (qAd ?_))
  refine wk hT rfl rfl ?_
  refine wk hT rfl rfl ?_
  refine wk hT rfl rfl ?_
  refine wwk (show (!false)=true from rfl) ?_
  refine qAa rfl (fun q=>?_) (fun q=>absurd q (by decide))
  refine qAg (qAd ?_)
  refine wk hT rfl rfl ?_
  refine qBh (qAw (i:=0) (off:=0) hT rfl rfl rfl (qMm rfl rfl)) (forceS_eq _ _) ?_
  refine ww ?_
  refine rq ⟨rfl,rfl⟩ rfl ?_
  exact AV.le.tup ⟨AV.le.agg (actZ_le 0),.refl _,trivial⟩
end Tdoc
