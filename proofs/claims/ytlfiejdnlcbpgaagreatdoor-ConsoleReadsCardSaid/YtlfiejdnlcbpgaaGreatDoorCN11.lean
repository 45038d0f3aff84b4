/- Part 11 of the proof: the texts UY SB. -/
import Derived.Test.YtlfiejdnlcbpgaaGreatDoorCN10
set_option maxHeartbeats 8000000
set_option maxRecDepth 100000
set_option linter.unusedVariables false
set_option linter.unusedSimpArgs false
namespace Tdoc
open Go Go.Proofs
theorem lineK_fin {x:Akt} (hk:1≤x.kind∧x.kind≤11):lineK x=if decide (x=qBq x) then (if (qGw x).2 then (qGw x).1 else []) else []:=by
 by_cases h:x=qBq x
 ·rw [decide_eq_true h,if_pos rfl]
  exact lineK_R hk h
 ·rw [decide_eq_false h]
  exact lineK_no fun hh=>h hh.2.1
theorem qUj (a b n:Int) (st tx nu su gi na bi se:List UInt8) (ex:Int) (pr:List Int) (ba:Bool) (pt:Nat) (td:Int) (fa cu:List Int) (fl:List Flp) (P:List (List Dat)) (hx:ActLen ⟨1,a,b,n,st,tx,nu,su,gi,na,bi,se,ex,pr,ba,pt,td,fa,cu,fl⟩ P):Spec Tryz.prog 18 [.agg (qBn ⟨1,a,b,n,st,tx,nu,su,gi,na,bi,se,ex,pr,ba,pt,td,fa,cu,fl⟩ P)] [] (fun r h'=>r=.d (.str (lineK ⟨1,a,b,n,st,tx,nu,su,gi,na,bi,se,ex,pr,ba,pt,td,fa,cu,fl⟩))∧h'=[]):=by
 have hK:=keepR1_spec a b n st tx nu su gi na bi se ex pr ba pt td fa cu fl P
 have hn:=hx.nums
 have ht:=hx.txts
 have hS:=qCe ⟨1,a,b,n,st,tx,nu,su,gi,na,bi,se,ex,pr,ba,pt,td,fa,cu,fl⟩ (qBq ⟨1,a,b,n,st,tx,nu,su,gi,na,bi,se,ex,pr,ba,pt,td,fa,cu,fl⟩) P [] hx.pts rfl (by simp only at hn ⊢;omega) (by simp only at hn ⊢;omega) (by simp only at hn ⊢;omega) (by simp only at hn ⊢;omega)
 simp only at hn ht
 rw [lineK_fin (show 1≤(1:Int)∧(1:Int)≤11 by omega)]
 have hnk:=nameR_at (show 1≤(1:Int)∧(1:Int)≤11 by omega)
 have b0:=@qCz 1
 obtain ⟨p0,hp0⟩:∃ p,p=((qAx 1,true):List UInt8×Bool):=⟨_,rfl⟩
 have b0:p0.1.length≤10:=by rw [hp0];exact b0
 obtain ⟨p1,hp1⟩:∃ p,p=lnF p0 (.num n):=⟨_,rfl⟩
 have b1:p1.1.length≤211310:=by
  have:=lnF_len (p:=p0) (f:=.num n) (trivial)
  rw [hp1];omega
 have m1:Spec Tryz.prog 35 [.ptr 0 0,.I n] [.row (lnO p0)] (fun r h'=>r=.tup []∧h'=[.row (lnO p1)]):=by rw [hp1];exact numLR_spec p0 _ (by omega)
 have hl:qGw ⟨1,a,b,n,st,tx,nu,su,gi,na,bi,se,ex,pr,ba,pt,td,fa,cu,fl⟩=p1:=by rw [hp1,hp0];rfl
 rw [hl]
 have hp0':p0=(p0.1,true):=by rw [hp0]
 have hnk:(qAg ([]::qBt))[(1:Int).toNat]?=some [.str p0.1]:=by rw [hp0];exact hnk
 clear hl hp1 hp0 hn ht hx b0 b1
 generalize decide (⟨1,a,b,n,st,tx,nu,su,gi,na,bi,se,ex,pr,ba,pt,td,fa,cu,fl⟩=qBq ⟨1,a,b,n,st,tx,nu,su,gi,na,bi,se,ex,pr,ba,pt,td,fa,cu,fl⟩)=sb at hS ⊢
 generalize qBq ⟨1,a,b,n,st,tx,nu,su,gi,na,bi,se,ex,pr,ba,pt,td,fa,cu,fl⟩=y at hK hS
 obtain ⟨k',a',b',n',st',tx',nu',su',gi',na',bi',se',ex',pr',ba',pt',td',fa',cu',fl'⟩:=y
 unfold qBn at *
 simp only at *
 refine qAb hT Tryz.func18 rfl rfl rfl rfl ?_;intro E hE
 refine qAq ?_
 refine qAf (qAc ?_)
 refine wws ?_
 refine ww ?_
 refine wwgc namesR_spec ?_
 refine wg hT rfl rfl rfl rfl rfl ?_
 refine wg hT rfl rfl rfl rfl rfl ?_
 refine wd hT rfl rfl rfl ?_
 refine wd hT rfl rfl rfl ?_
 refine qCa (v:=.agg [.I 1,.I a,.I b,.I n,.d (.str st),.d (.str tx),.d (.str nu),.d (.str su),.d (.str gi),.d (.str na),.d (.str bi),.d (.str se),.I ex,.d (.sl 1 (qAl pr)),.d (.bool ba),.d (.sl 5 P),.I td,.d (.sl 1 (qAl fa)),.d (.sl 1 (qAl cu)),.d (.sl 3 (qAr fl))]) rfl rfl rfl rfl (fun hg=>⟨(sg (C:=True) hg).1,qAo (i:=1) (off:=0) hT rfl rfl rfl (qDa rfl)⟩) ?_
 refine qCa (v:=.agg [.I 1,.I a,.I b,.I n,.d (.str st),.d (.str tx),.d (.str nu),.d (.str su),.d (.str gi),.d (.str na),.d (.str bi),.d (.str se),.I ex,.d (.sl 1 (qAl pr)),.d (.bool ba),.d (.sl 5 P),.I td,.d (.sl 1 (qAl fa)),.d (.sl 1 (qAl cu)),.d (.sl 3 (qAr fl))]) rfl rfl rfl rfl (fun hg=>⟨(sg (C:=True) hg).1,qAo (i:=1) (off:=0) hT rfl rfl rfl (qDa rfl)⟩) ?_
 refine wwgc hK ?_
 refine wwgc hS ?_
 refine ww ?_
 cases sb with
 | false =>
  refine qAa rfl (fun q=>?_) (fun q=>absurd q (by decide))
  refine ww ?_
  exact wwr
 | true =>
  refine qAa rfl (fun q=>absurd q (by decide)) (fun q=>?_)
  clear hK hS q
  refine wwn ?_
  refine qAv (fun i=>bif Nat.beq i 2 then [1] else bif Nat.beq i 6 then [0] else []) (fun i=>bif Nat.beq i 6 then [0] else []) mixed (by kernel_rfl) ?_
  refine wwdc namesR_spec ?_
  refine wwg ?_
  refine qAm (os:=[]) (fun k hk hr=>qAe (indexAddr_ok hT rfl rfl rfl rfl (by omega) hnk)) rfl ?_
  refine wwg ?_
  refine qAm (os:=[.row (lnO (p0.1,true))]) (v:=.ptr 0 0) (fun k hk hr=>boxAt_ok (i0:=0) (cs:=lnO (p0.1,true)) rfl rfl ((hr 0 (List.mem_singleton.2 rfl)).trans rfl)) rfl ?_
  rw [← hp0']
  refine wwg ?_
  refine qAf (qAc ?_)
  refine wws ?_
  refine qAi (l:=[(1,.ptr 1 0),(3,.ptr 0 0),(4,.ptr 2 0)]) (h':=[.row (lnO p0),.row [.I 1,.I a,.I b,.I n,.d (.str st),.d (.str tx),.d (.str nu),.d (.str su),.d (.str gi),.d (.str na),.d (.str bi),.d (.str se),.I ex,.d (.sl 1 (qAl pr)),.d (.bool ba),.d (.sl 5 P),.I td,.d (.sl 1 (qAl fa)),.d (.sl 1 (qAl cu)),.d (.sl 3 (qAr fl))],.row [.d (.str nu),.d (.str su),.d (.str gi),.d (.str na),.d (.str bi),.d (.str se),.I ex,.d (.sl 1 (qAl pr)),.d (.bool ba),.d (.sl 5 P),.I td,.d (.sl 1 (qAl fa))]]) yf (HLe.refl _) ?_
  refine wwn ?_
  refine qAa rfl (fun q=>?_) (fun q=>absurd q (by decide))
  refine wwn ?_
  refine qAd (qAk (H':=[.row (lnO p1),.row [.I 1,.I a,.I b,.I n,.d (.str st),.d (.str tx),.d (.str nu),.d (.str su),.d (.str gi),.d (.str na),.d (.str bi),.d (.str se),.I ex,.d (.sl 1 (qAl pr)),.d (.bool ba),.d (.sl 5 P),.I td,.d (.sl 1 (qAl fa)),.d (.sl 1 (qAl cu)),.d (.sl 3 (qAr fl))],.row [.d (.str nu),.d (.str su),.d (.str gi),.d (.str na),.d (.str bi),.d (.str se),.I ex,.d (.sl 1 (qAl pr)),.d (.bool ba),.d (.sl 5 P),.I td,.d (.sl 1 (qAl fa))]]) rfl rfl m1 [0] (by decide) rfl rfl rfl rfl rfl rfl rfl) rfl ?_
  refine wwn ?_
  refine qAa rfl (fun q=>absurd q (by decide)) (fun q=>?_)
  refine wwn ?_
  refine qAa rfl (fun q=>absurd q (by decide)) (fun q=>?_)
  refine wwn ?_
  obtain ⟨z,ok⟩:=p1
  unfold lnO
  refine ww ?_
  cases ok with
  | false =>
   refine qAa rfl (fun q=>?_) (fun q=>absurd q (by simp))
   refine ww ?_
   exact wwr
  | true =>
   refine qAa rfl (fun q=>absurd q (by simp)) (fun q=>?_)
   refine ww ?_
   exact wwr
theorem qUi (a b n:Int) (st tx nu su gi na bi se:List UInt8) (ex:Int) (pr:List Int) (ba:Bool) (pt:Nat) (td:Int) (fa cu:List Int) (fl:List Flp) (P:List (List Dat)) (hx:ActLen ⟨2,a,b,n,st,tx,nu,su,gi,na,bi,se,ex,pr,ba,pt,td,fa,cu,fl⟩ P):Spec Tryz.prog 18 [.agg (qBn ⟨2,a,b,n,st,tx,nu,su,gi,na,bi,se,ex,pr,ba,pt,td,fa,cu,fl⟩ P)] [] (fun r h'=>r=.d (.str (lineK ⟨2,a,b,n,st,tx,nu,su,gi,na,bi,se,ex,pr,ba,pt,td,fa,cu,fl⟩))∧h'=[]):=by
 have hK:=keepR2_spec a b n st tx nu su gi na bi se ex pr ba pt td fa cu fl P
 have hn:=hx.nums
 have ht:=hx.txts
 have hS:=qCe ⟨2,a,b,n,st,tx,nu,su,gi,na,bi,se,ex,pr,ba,pt,td,fa,cu,fl⟩ (qBq ⟨2,a,b,n,st,tx,nu,su,gi,na,bi,se,ex,pr,ba,pt,td,fa,cu,fl⟩) P [] hx.pts rfl (by simp only at hn ⊢;omega) (by simp only at hn ⊢;omega) (by simp only at hn ⊢;omega) (by simp only at hn ⊢;omega)
 simp only at hn ht
 rw [lineK_fin (show 1≤(2:Int)∧(2:Int)≤11 by omega)]
 have hnk:=nameR_at (show 1≤(2:Int)∧(2:Int)≤11 by omega)
 have b0:=@qCz 2
 obtain ⟨p0,hp0⟩:∃ p,p=((qAx 2,true):List UInt8×Bool):=⟨_,rfl⟩
 have b0:p0.1.length≤10:=by rw [hp0];exact b0
 obtain ⟨p1,hp1⟩:∃ p,p=lnF p0 (.txt st):=⟨_,rfl⟩
 have b1:p1.1.length≤211310:=by
  have:=lnF_len (p:=p0) (f:=.txt st) (show st.length≤12000 by omega)
  rw [hp1];omega
 have m1:Spec Tryz.prog 36 [.ptr 0 0,.d (.str st)] [.row (lnO p0)] (fun r h'=>r=.tup []∧h'=[.row (lnO p1)]):=by rw [hp1];exact textLR_spec p0 _ (by omega) (by omega)
 obtain ⟨p2,hp2⟩:∃ p,p=lnF p1 (.txt tx):=⟨_,rfl⟩
 have b2:p2.1.length≤422610:=by
  have:=lnF_len (p:=p1) (f:=.txt tx) (show tx.length≤12000 by omega)
  rw [hp2];omega
 have m2:Spec Tryz.prog 36 [.ptr 0 0,.d (.str tx)] [.row (lnO p1)] (fun r h'=>r=.tup []∧h'=[.row (lnO p2)]):=by rw [hp2];exact textLR_spec p1 _ (by omega) (by omega)
 have hl:qGw ⟨2,a,b,n,st,tx,nu,su,gi,na,bi,se,ex,pr,ba,pt,td,fa,cu,fl⟩=p2:=by rw [hp2,hp1,hp0];rfl
 rw [hl]
 have hp0':p0=(p0.1,true):=by rw [hp0]
 have hnk:(qAg ([]::qBt))[(2:Int).toNat]?=some [.str p0.1]:=by rw [hp0];exact hnk
 clear hl hp2 hp1 hp0 hn ht hx b0 b1 b2
 generalize decide (⟨2,a,b,n,st,tx,nu,su,gi,na,bi,se,ex,pr,ba,pt,td,fa,cu,fl⟩=qBq ⟨2,a,b,n,st,tx,nu,su,gi,na,bi,se,ex,pr,ba,pt,td,fa,cu,fl⟩)=sb at hS ⊢
 generalize qBq ⟨2,a,b,n,st,tx,nu,su,gi,na,bi,se,ex,pr,ba,pt,td,fa,cu,fl⟩=y at hK hS
 obtain ⟨k',a',b',n',st',tx',nu',su',gi',na',bi',se',ex',pr',ba',pt',td',fa',cu',fl'⟩:=y
 unfold qBn at *
 simp only at *
 refine qAb hT Tryz.func18 rfl rfl rfl rfl ?_;intro E hE
 refine qAq ?_
 refine qAf (qAc ?_)
 refine wws ?_
 refine ww ?_
 refine wwgc namesR_spec ?_
 refine wg hT rfl rfl rfl rfl rfl ?_
 refine wg hT rfl rfl rfl rfl rfl ?_
 refine wd hT rfl rfl rfl ?_
 refine wd hT rfl rfl rfl ?_
 refine qCa (v:=.agg [.I 2,.I a,.I b,.I n,.d (.str st),.d (.str tx),.d (.str nu),.d (.str su),.d (.str gi),.d (.str na),.d (.str bi),.d (.str se),.I ex,.d (.sl 1 (qAl pr)),.d (.bool ba),.d (.sl 5 P),.I td,.d (.sl 1 (qAl fa)),.d (.sl 1 (qAl cu)),.d (.sl 3 (qAr fl))]) rfl rfl rfl rfl (fun hg=>⟨(sg (C:=True) hg).1,qAo (i:=1) (off:=0) hT rfl rfl rfl (qDa rfl)⟩) ?_
 refine qCa (v:=.agg [.I 2,.I a,.I b,.I n,.d (.str st),.d (.str tx),.d (.str nu),.d (.str su),.d (.str gi),.d (.str na),.d (.str bi),.d (.str se),.I ex,.d (.sl 1 (qAl pr)),.d (.bool ba),.d (.sl 5 P),.I td,.d (.sl 1 (qAl fa)),.d (.sl 1 (qAl cu)),.d (.sl 3 (qAr fl))]) rfl rfl rfl rfl (fun hg=>⟨(sg (C:=True) hg).1,qAo (i:=1) (off:=0) hT rfl rfl rfl (qDa rfl)⟩) ?_
 refine wwgc hK ?_
 refine wwgc hS ?_
 refine ww ?_
 cases sb with
 | false =>
  refine qAa rfl (fun q=>?_) (fun q=>absurd q (by decide))
  refine ww ?_
  exact wwr
 | true =>
  refine qAa rfl (fun q=>absurd q (by decide)) (fun q=>?_)
  clear hK hS q
  refine wwn ?_
  refine qAv (fun i=>bif Nat.beq i 2 then [1] else bif Nat.beq i 6 then [0] else []) (fun i=>bif Nat.beq i 6 then [0] else []) mixed (by kernel_rfl) ?_
  refine wwdc namesR_spec ?_
  refine wwg ?_
  refine qAm (os:=[]) (fun k hk hr=>qAe (indexAddr_ok hT rfl rfl rfl rfl (by omega) hnk)) rfl ?_
  refine wwg ?_
  refine qAm (os:=[.row (lnO (p0.1,true))]) (v:=.ptr 0 0) (fun k hk hr=>boxAt_ok (i0:=0) (cs:=lnO (p0.1,true)) rfl rfl ((hr 0 (List.mem_singleton.2 rfl)).trans rfl)) rfl ?_
  rw [← hp0']
  refine wwg ?_
  refine qAf (qAc ?_)
  refine wws ?_
  refine qAi (l:=[(1,.ptr 1 0),(3,.ptr 0 0),(4,.ptr 2 0)]) (h':=[.row (lnO p0),.row [.I 2,.I a,.I b,.I n,.d (.str st),.d (.str tx),.d (.str nu),.d (.str su),.d (.str gi),.d (.str na),.d (.str bi),.d (.str se),.I ex,.d (.sl 1 (qAl pr)),.d (.bool ba),.d (.sl 5 P),.I td,.d (.sl 1 (qAl fa)),.d (.sl 1 (qAl cu)),.d (.sl 3 (qAr fl))],.row [.d (.str nu),.d (.str su),.d (.str gi),.d (.str na),.d (.str bi),.d (.str se),.I ex,.d (.sl 1 (qAl pr)),.d (.bool ba),.d (.sl 5 P),.I td,.d (.sl 1 (qAl fa))]]) yf (HLe.refl _) ?_
  refine wwn ?_
  refine qAa rfl (fun q=>absurd q (by decide)) (fun q=>?_)
  refine wwn ?_
  refine qAa rfl (fun q=>?_) (fun q=>absurd q (by decide))
  refine wwn ?_
  refine qAd (qAk (H':=[.row (lnO p1),.row [.I 2,.I a,.I b,.I n,.d (.str st),.d (.str tx),.d (.str nu),.d (.str su),.d (.str gi),.d (.str na),.d (.str bi),.d (.str se),.I ex,.d (.sl 1 (qAl pr)),.d (.bool ba),.d (.sl 5 P),.I td,.d (.sl 1 (qAl fa)),.d (.sl 1 (qAl cu)),.d (.sl 3 (qAr fl))],.row [.d (.str nu),.d (.str su),.d (.str gi),.d (.str na),.d (.str bi),.d (.str se),.I ex,.d (.sl 1 (qAl pr)),.d (.bool ba),.d (.sl 5 P),.I td,.d (.sl 1 (qAl fa))]]) rfl rfl m1 [0] (by decide) rfl rfl rfl rfl rfl rfl rfl) rfl ?_
  refine wwn ?_
  refine qAd (qAk (H':=[.row (lnO p2),.row [.I 2,.I a,.I b,.I n,.d (.str st),.d (.str tx),.d (.str nu),.d (.str su),.d (.str gi),.d (.str na),.d (.str bi),.d (.str se),.I ex,.d (.sl 1 (qAl pr)),.d (.bool ba),.d (.sl 5 P),.I td,.d (.sl 1 (qAl fa)),.d (.sl 1 (qAl cu)),.d (.sl 3 (qAr fl))],.row [.d (.str nu),.d (.str su),.d (.str gi),.d (.str na),.d (.str bi),.d (.str se),.I ex,.d (.sl 1 (qAl pr)),.d (.bool ba),.d (.sl 5 P),.I td,.d (.sl 1 (qAl fa))]]) rfl rfl m2 [0] (by decide) rfl rfl rfl rfl rfl rfl rfl) rfl ?_
  refine wwn ?_
  refine qAa rfl (fun q=>absurd q (by decide)) (fun q=>?_)
  refine wwn ?_
  refine qAa rfl (fun q=>absurd q (by decide)) (fun q=>?_)
  refine wwn ?_
  obtain ⟨z,ok⟩:=p2
  unfold lnO
  refine ww ?_
  cases ok with
  | false =>
   refine qAa rfl (fun q=>?_) (fun q=>absurd q (by simp))
   refine ww ?_
   exact wwr
  | true =>
   refine qAa rfl (fun q=>absurd q (by simp)) (fun q=>?_)
   refine ww ?_
   exact wwr
theorem qUh (a b n:Int) (st tx nu su gi na bi se:List UInt8) (ex:Int) (pr:List Int) (ba:Bool) (pt:Nat) (td:Int) (fa cu:List Int) (fl:List Flp) (P:List (List Dat)) (hx:ActLen ⟨3,a,b,n,st,tx,nu,su,gi,na,bi,se,ex,pr,ba,pt,td,fa,cu,fl⟩ P):Spec Tryz.prog 18 [.agg (qBn ⟨3,a,b,n,st,tx,nu,su,gi,na,bi,se,ex,pr,ba,pt,td,fa,cu,fl⟩ P)] [] (fun r h'=>r=.d (.str (lineK ⟨3,a,b,n,st,tx,nu,su,gi,na,bi,se,ex,pr,ba,pt,td,fa,cu,fl⟩))∧h'=[]):=by
 have hK:=keepR3_spec a b n st tx nu su gi na bi se ex pr ba pt td fa cu fl P
 have hn:=hx.nums
 have ht:=hx.txts
 have hS:=qCe ⟨3,a,b,n,st,tx,nu,su,gi,na,bi,se,ex,pr,ba,pt,td,fa,cu,fl⟩ (qBq ⟨3,a,b,n,st,tx,nu,su,gi,na,bi,se,ex,pr,ba,pt,td,fa,cu,fl⟩) P [] hx.pts rfl (by simp only at hn ⊢;omega) (by simp only at hn ⊢;omega) (by simp only at hn ⊢;omega) (by simp only at hn ⊢;omega)
 simp only at hn ht
 rw [lineK_fin (show 1≤(3:Int)∧(3:Int)≤11 by omega)]
 have hnk:=nameR_at (show 1≤(3:Int)∧(3:Int)≤11 by omega)
 have b0:=@qCz 3
 obtain ⟨p0,hp0⟩:∃ p,p=((qAx 3,true):List UInt8×Bool):=⟨_,rfl⟩
 have b0:p0.1.length≤10:=by rw [hp0];exact b0
 obtain ⟨p1,hp1⟩:∃ p,p=lnF p0 (.num a):=⟨_,rfl⟩
 have b1:p1.1.length≤211310:=by
  have:=lnF_len (p:=p0) (f:=.num a) (trivial)
  rw [hp1];omega
 have m1:Spec Tryz.prog 35 [.ptr 0 0,.I a] [.row (lnO p0)] (fun r h'=>r=.tup []∧h'=[.row (lnO p1)]):=by rw [hp1];exact numLR_spec p0 _ (by omega)
 have hl:qGw ⟨3,a,b,n,st,tx,nu,su,gi,na,bi,se,ex,pr,ba,pt,td,fa,cu,fl⟩=p1:=by rw [hp1,hp0];rfl
 rw [hl]
 have hp0':p0=(p0.1,true):=by rw [hp0]
 have hnk:(qAg ([]::qBt))[(3:Int).toNat]?=some [.str p0.1]:=by rw [hp0];exact hnk
 clear hl hp1 hp0 hn ht hx b0 b1
 generalize decide (⟨3,a,b,n,st,tx,nu,su,gi,na,bi,se,ex,pr,ba,pt,td,fa,cu,fl⟩=qBq ⟨3,a,b,n,st,tx,nu,su,gi,na,bi,se,ex,pr,ba,pt,td,fa,cu,fl⟩)=sb at hS ⊢
 generalize qBq ⟨3,a,b,n,st,tx,nu,su,gi,na,bi,se,ex,pr,ba,pt,td,fa,cu,fl⟩=y at hK hS
 obtain ⟨k',a',b',n',st',tx',nu',su',gi',na',bi',se',ex',pr',ba',pt',td',fa',cu',fl'⟩:=y
 unfold qBn at *
 simp only at *
 refine qAb hT Tryz.func18 rfl rfl rfl rfl ?_;intro E hE
 refine qAq ?_
 refine qAf (qAc ?_)
 refine wws ?_
 refine ww ?_
 refine wwgc namesR_spec ?_
 refine wg hT rfl rfl rfl rfl rfl ?_
 refine wg hT rfl rfl rfl rfl rfl ?_
 refine wd hT rfl rfl rfl ?_
 refine wd hT rfl rfl rfl ?_
 refine qCa (v:=.agg [.I 3,.I a,.I b,.I n,.d (.str st),.d (.str tx),.d (.str nu),.d (.str su),.d (.str gi),.d (.str na),.d (.str bi),.d (.str se),.I ex,.d (.sl 1 (qAl pr)),.d (.bool ba),.d (.sl 5 P),.I td,.d (.sl 1 (qAl fa)),.d (.sl 1 (qAl cu)),.d (.sl 3 (qAr fl))]) rfl rfl rfl rfl (fun hg=>⟨(sg (C:=True) hg).1,qAo (i:=1) (off:=0) hT rfl rfl rfl (qDa rfl)⟩) ?_
 refine qCa (v:=.agg [.I 3,.I a,.I b,.I n,.d (.str st),.d (.str tx),.d (.str nu),.d (.str su),.d (.str gi),.d (.str na),.d (.str bi),.d (.str se),.I ex,.d (.sl 1 (qAl pr)),.d (.bool ba),.d (.sl 5 P),.I td,.d (.sl 1 (qAl fa)),.d (.sl 1 (qAl cu)),.d (.sl 3 (qAr fl))]) rfl rfl rfl rfl (fun hg=>⟨(sg (C:=True) hg).1,qAo (i:=1) (off:=0) hT rfl rfl rfl (qDa rfl)⟩) ?_
 refine wwgc hK ?_
 refine wwgc hS ?_
 refine ww ?_
 cases sb with
 | false =>
  refine qAa rfl (fun q=>?_) (fun q=>absurd q (by decide))
  refine ww ?_
  exact wwr
 | true =>
  refine qAa rfl (fun q=>absurd q (by decide)) (fun q=>?_)
  clear hK hS q
  refine wwn ?_
  refine qAv (fun i=>bif Nat.beq i 2 then [1] else bif Nat.beq i 6 then [0] else []) (fun i=>bif Nat.beq i 6 then [0] else []) mixed (by kernel_rfl) ?_
  refine wwdc namesR_spec ?_
  refine wwg ?_
  refine qAm (os:=[]) (fun k hk hr=>qAe (indexAddr_ok hT rfl rfl rfl rfl (by omega) hnk)) rfl ?_
  refine wwg ?_
  refine qAm (os:=[.row (lnO (p0.1,true))]) (v:=.ptr 0 0) (fun k hk hr=>boxAt_ok (i0:=0) (cs:=lnO (p0.1,true)) rfl rfl ((hr 0 (List.mem_singleton.2 rfl)).trans rfl)) rfl ?_
  rw [← hp0']
  refine wwg ?_
  refine qAf (qAc ?_)
  refine wws ?_
  refine qAi (l:=[(1,.ptr 1 0),(3,.ptr 0 0),(4,.ptr 2 0)]) (h':=[.row (lnO p0),.row [.I 3,.I a,.I b,.I n,.d (.str st),.d (.str tx),.d (.str nu),.d (.str su),.d (.str gi),.d (.str na),.d (.str bi),.d (.str se),.I ex,.d (.sl 1 (qAl pr)),.d (.bool ba),.d (.sl 5 P),.I td,.d (.sl 1 (qAl fa)),.d (.sl 1 (qAl cu)),.d (.sl 3 (qAr fl))],.row [.d (.str nu),.d (.str su),.d (.str gi),.d (.str na),.d (.str bi),.d (.str se),.I ex,.d (.sl 1 (qAl pr)),.d (.bool ba),.d (.sl 5 P),.I td,.d (.sl 1 (qAl fa))]]) yf (HLe.refl _) ?_
  refine wwn ?_
  refine qAa rfl (fun q=>absurd q (by decide)) (fun q=>?_)
  refine wwn ?_
  refine qAa rfl (fun q=>absurd q (by decide)) (fun q=>?_)
  refine wwn ?_
  refine qAa rfl (fun q=>absurd q (by decide)) (fun q=>?_)
  refine wwn ?_
  refine qAa rfl (fun q=>?_) (fun q=>absurd q (by decide))
  refine wwn ?_
  refine qAd (qAk (H':=[.row (lnO p1),.row [.I 3,.I a,.I b,.I n,.d (.str st),.d (.str tx),.d (.str nu),.d (.str su),.d (.str gi),.d (.str na),.d (.str bi),.d (.str se),.I ex,.d (.sl 1 (qAl pr)),.d (.bool ba),.d (.sl 5 P),.I td,.d (.sl 1 (qAl fa)),.d (.sl 1 (qAl cu)),.d (.sl 3 (qAr fl))],.row [.d (.str nu),.d (.str su),.d (.str gi),.d (.str na),.d (.str bi),.d (.str se),.I ex,.d (.sl 1 (qAl pr)),.d (.bool ba),.d (.sl 5 P),.I td,.d (.sl 1 (qAl fa))]]) rfl rfl m1 [0] (by decide) rfl rfl rfl rfl rfl rfl rfl) rfl ?_
  refine wwn ?_
  refine qAa rfl (fun q=>absurd q (by decide)) (fun q=>?_)
  refine wwn ?_
  refine qAa rfl (fun q=>absurd q (by decide)) (fun q=>?_)
  refine wwn ?_
  obtain ⟨z,ok⟩:=p1
  unfold lnO
  refine ww ?_
  cases ok with
  | false =>
   refine qAa rfl (fun q=>?_) (fun q=>absurd q (by simp))
   refine ww ?_
   exact wwr
  | true =>
   refine qAa rfl (fun q=>absurd q (by simp)) (fun q=>?_)
   refine ww ?_
   exact wwr
theorem qUg (a b n:Int) (st tx nu su gi na bi se:List UInt8) (ex:Int) (pr:List Int) (ba:Bool) (pt:Nat) (td:Int) (fa cu:List Int) (fl:List Flp) (P:List (List Dat)) (hx:ActLen ⟨4,a,b,n,st,tx,nu,su,gi,na,bi,se,ex,pr,ba,pt,td,fa,cu,fl⟩ P):Spec Tryz.prog 18 [.agg (qBn ⟨4,a,b,n,st,tx,nu,su,gi,na,bi,se,ex,pr,ba,pt,td,fa,cu,fl⟩ P)] [] (fun r h'=>r=.d (.str (lineK ⟨4,a,b,n,st,tx,nu,su,gi,na,bi,se,ex,pr,ba,pt,td,fa,cu,fl⟩))∧h'=[]):=by
 have hK:=keepR4_spec a b n st tx nu su gi na bi se ex pr ba pt td fa cu fl P
 have hn:=hx.nums
 have ht:=hx.txts
 have hS:=qCe ⟨4,a,b,n,st,tx,nu,su,gi,na,bi,se,ex,pr,ba,pt,td,fa,cu,fl⟩ (qBq ⟨4,a,b,n,st,tx,nu,su,gi,na,bi,se,ex,pr,ba,pt,td,fa,cu,fl⟩) P [] hx.pts rfl (by simp only at hn ⊢;omega) (by simp only at hn ⊢;omega) (by simp only at hn ⊢;omega) (by simp only at hn ⊢;omega)
 simp only at hn ht
 rw [lineK_fin (show 1≤(4:Int)∧(4:Int)≤11 by omega)]
 have hnk:=nameR_at (show 1≤(4:Int)∧(4:Int)≤11 by omega)
 have b0:=@qCz 4
 obtain ⟨p0,hp0⟩:∃ p,p=((qAx 4,true):List UInt8×Bool):=⟨_,rfl⟩
 have b0:p0.1.length≤10:=by rw [hp0];exact b0
 obtain ⟨p1,hp1⟩:∃ p,p=lnF p0 (.num a):=⟨_,rfl⟩
 have b1:p1.1.length≤211310:=by
  have:=lnF_len (p:=p0) (f:=.num a) (trivial)
  rw [hp1];omega
 have m1:Spec Tryz.prog 35 [.ptr 0 0,.I a] [.row (lnO p0)] (fun r h'=>r=.tup []∧h'=[.row (lnO p1)]):=by rw [hp1];exact numLR_spec p0 _ (by omega)
 obtain ⟨p2,hp2⟩:∃ p,p=lnF p1 (.txt nu):=⟨_,rfl⟩
 have b2:p2.1.length≤422610:=by
  have:=lnF_len (p:=p1) (f:=.txt nu) (show nu.length≤12000 by omega)
  rw [hp2];omega
 have m2:Spec Tryz.prog 36 [.ptr 0 0,.d (.str nu)] [.row (lnO p1)] (fun r h'=>r=.tup []∧h'=[.row (lnO p2)]):=by rw [hp2];exact textLR_spec p1 _ (by omega) (by omega)
 obtain ⟨p3,hp3⟩:∃ p,p=lnF p2 (.txt su):=⟨_,rfl⟩
 have b3:p3.1.length≤633910:=by
  have:=lnF_len (p:=p2) (f:=.txt su) (show su.length≤12000 by omega)
  rw [hp3];omega
 have m3:Spec Tryz.prog 36 [.ptr 0 0,.d (.str su)] [.row (lnO p2)] (fun r h'=>r=.tup []∧h'=[.row (lnO p3)]):=by rw [hp3];exact textLR_spec p2 _ (by omega) (by omega)
 obtain ⟨p4,hp4⟩:∃ p,p=lnF p3 (.txt gi):=⟨_,rfl⟩
 have b4:p4.1.length≤845210:=by
  have:=lnF_len (p:=p3) (f:=.txt gi) (show gi.length≤12000 by omega)
  rw [hp4];omega
 have m4:Spec Tryz.prog 36 [.ptr 0 0,.d (.str gi)] [.row (lnO p3)] (fun r h'=>r=.tup []∧h'=[.row (lnO p4)]):=by rw [hp4];exact textLR_spec p3 _ (by omega) (by omega)
 obtain ⟨p5,hp5⟩:∃ p,p=lnF p4 (.txt na):=⟨_,rfl⟩
 have b5:p5.1.length≤1056510:=by
  have:=lnF_len (p:=p4) (f:=.txt na) (show na.length≤12000 by omega)
  rw [hp5];omega
 have m5:Spec Tryz.prog 36 [.ptr 0 0,.d (.str na)] [.row (lnO p4)] (fun r h'=>r=.tup []∧h'=[.row (lnO p5)]):=by rw [hp5];exact textLR_spec p4 _ (by omega) (by omega)
 obtain ⟨p6,hp6⟩:∃ p,p=lnF p5 (.txt bi):=⟨_,rfl⟩
 have b6:p6.1.length≤1267810:=by
  have:=lnF_len (p:=p5) (f:=.txt bi) (show bi.length≤12000 by omega)
  rw [hp6];omega
 have m6:Spec Tryz.prog 36 [.ptr 0 0,.d (.str bi)] [.row (lnO p5)] (fun r h'=>r=.tup []∧h'=[.row (lnO p6)]):=by rw [hp6];exact textLR_spec p5 _ (by omega) (by omega)
 obtain ⟨p7,hp7⟩:∃ p,p=lnF p6 (.txt se):=⟨_,rfl⟩
 have b7:p7.1.length≤1479110:=by
  have:=lnF_len (p:=p6) (f:=.txt se) (show se.length≤12000 by omega)
  rw [hp7];omega
 have m7:Spec Tryz.prog 36 [.ptr 0 0,.d (.str se)] [.row (lnO p6)] (fun r h'=>r=.tup []∧h'=[.row (lnO p7)]):=by rw [hp7];exact textLR_spec p6 _ (by omega) (by omega)
 obtain ⟨p8,hp8⟩:∃ p,p=lnF p7 (.num ex):=⟨_,rfl⟩
 have b8:p8.1.length≤1690410:=by
  have:=lnF_len (p:=p7) (f:=.num ex) (trivial)
  rw [hp8];omega
 have m8:Spec Tryz.prog 35 [.ptr 0 0,.I ex] [.row (lnO p7)] (fun r h'=>r=.tup []∧h'=[.row (lnO p8)]):=by rw [hp8];exact numLR_spec p7 _ (by omega)
 obtain ⟨p9,hp9⟩:∃ p,p=lnF p8 (.flg ba):=⟨_,rfl⟩
 have b9:p9.1.length≤1901710:=by
  have:=lnF_len (p:=p8) (f:=.flg ba) (trivial)
  rw [hp9];omega
 have q9:=yesR_spec ba
 have m9:Spec Tryz.prog 37 [.ptr 0 0,.d (.str (if ba then [121,101,115] else [110,111])),.d (.bool true)] [.row (lnO p8)] (fun r h'=>r=.tup []∧h'=[.row (lnO p9)]):=by rw [hp9];exact addR_spec p8 _ _ (by omega) (by split <;> simp)
 obtain ⟨p10,hp10⟩:∃ p,p=lnF p9 (.nums pr):=⟨_,rfl⟩
 have b10:p10.1.length≤2113010:=by
  have:=lnF_len (p:=p9) (f:=.nums pr) (show pr.length≤3200 by omega)
  rw [hp10];omega
 have m10:Spec Tryz.prog 40 [.ptr 0 0,.d (.sl 1 (qAl pr))] [.row (lnO p9)] (fun r h'=>r=.tup []∧h'=[.row (lnO p10)]):=by rw [hp10];exact numsLR_spec p9 _ (by omega) (by omega)
 obtain ⟨p11,hp11⟩:∃ p,p=lnF p10 (.nums fa):=⟨_,rfl⟩
 have b11:p11.1.length≤2324310:=by
  have:=lnF_len (p:=p10) (f:=.nums fa) (show fa.length≤3200 by omega)
  rw [hp11];omega
 have m11:Spec Tryz.prog 40 [.ptr 0 0,.d (.sl 1 (qAl fa))] [.row (lnO p10)] (fun r h'=>r=.tup []∧h'=[.row (lnO p11)]):=by rw [hp11];exact numsLR_spec p10 _ (by omega) (by omega)
 have hl:qGw ⟨4,a,b,n,st,tx,nu,su,gi,na,bi,se,ex,pr,ba,pt,td,fa,cu,fl⟩=p11:=by rw [hp11,hp10,hp9,hp8,hp7,hp6,hp5,hp4,hp3,hp2,hp1,hp0];rfl
 rw [hl]
 have hp0':p0=(p0.1,true):=by rw [hp0]
 have hnk:(qAg ([]::qBt))[(4:Int).toNat]?=some [.str p0.1]:=by rw [hp0];exact hnk
 clear hl hp11 hp10 hp9 hp8 hp7 hp6 hp5 hp4 hp3 hp2 hp1 hp0 hn ht hx b0 b1 b2 b3 b4 b5 b6 b7 b8 b9 b10 b11
 generalize decide (⟨4,a,b,n,st,tx,nu,su,gi,na,bi,se,ex,pr,ba,pt,td,fa,cu,fl⟩=qBq ⟨4,a,b,n,st,tx,nu,su,gi,na,bi,se,ex,pr,ba,pt,td,fa,cu,fl⟩)=sb at hS ⊢
 generalize qBq ⟨4,a,b,n,st,tx,nu,su,gi,na,bi,se,ex,pr,ba,pt,td,fa,cu,fl⟩=y at hK hS
 obtain ⟨k',a',b',n',st',tx',nu',su',gi',na',bi',se',ex',pr',ba',pt',td',fa',cu',fl'⟩:=y
 unfold qBn at *
 simp only at *
 generalize (if ba then [121,101,115] else [110,111])=yw at *
 refine qAb hT Tryz.func18 rfl rfl rfl rfl ?_;intro E hE
 refine qAq ?_
 refine qAf (qAc ?_)
 refine wws ?_
 refine ww ?_
 refine wwgc namesR_spec ?_
 refine wg hT rfl rfl rfl rfl rfl ?_
 refine wg hT rfl rfl rfl rfl rfl ?_
 refine wd hT rfl rfl rfl ?_
 refine wd hT rfl rfl rfl ?_
 refine qCa (v:=.agg [.I 4,.I a,.I b,.I n,.d (.str st),.d (.str tx),.d (.str nu),.d (.str su),.d (.str gi),.d (.str na),.d (.str bi),.d (.str se),.I ex,.d (.sl 1 (qAl pr)),.d (.bool ba),.d (.sl 5 P),.I td,.d (.sl 1 (qAl fa)),.d (.sl 1 (qAl cu)),.d (.sl 3 (qAr fl))]) rfl rfl rfl rfl (fun hg=>⟨(sg (C:=True) hg).1,qAo (i:=1) (off:=0) hT rfl rfl rfl (qDa rfl)⟩) ?_
 refine qCa (v:=.agg [.I 4,.I a,.I b,.I n,.d (.str st),.d (.str tx),.d (.str nu),.d (.str su),.d (.str gi),.d (.str na),.d (.str bi),.d (.str se),.I ex,.d (.sl 1 (qAl pr)),.d (.bool ba),.d (.sl 5 P),.I td,.d (.sl 1 (qAl fa)),.d (.sl 1 (qAl cu)),.d (.sl 3 (qAr fl))]) rfl rfl rfl rfl (fun hg=>⟨(sg (C:=True) hg).1,qAo (i:=1) (off:=0) hT rfl rfl rfl (qDa rfl)⟩) ?_
 refine wwgc hK ?_
 refine wwgc hS ?_
 refine ww ?_
 cases sb with
 | false =>
  refine qAa rfl (fun q=>?_) (fun q=>absurd q (by decide))
  refine ww ?_
  exact wwr
 | true =>
  refine qAa rfl (fun q=>absurd q (by decide)) (fun q=>?_)
  clear hK hS q
  refine wwn ?_
  refine qAv (fun i=>bif Nat.beq i 2 then [1] else bif Nat.beq i 6 then [0] else []) (fun i=>bif Nat.beq i 6 then [0] else []) mixed (by kernel_rfl) ?_
  refine wwdc namesR_spec ?_
  refine wwg ?_
  refine qAm (os:=[]) (fun k hk hr=>qAe (indexAddr_ok hT rfl rfl rfl rfl (by omega) hnk)) rfl ?_
  refine wwg ?_
  refine qAm (os:=[.row (lnO (p0.1,true))]) (v:=.ptr 0 0) (fun k hk hr=>boxAt_ok (i0:=0) (cs:=lnO (p0.1,true)) rfl rfl ((hr 0 (List.mem_singleton.2 rfl)).trans rfl)) rfl ?_
  rw [← hp0']
  refine wwg ?_
  refine qAf (qAc ?_)
  refine wws ?_
  refine qAi (l:=[(1,.ptr 1 0),(3,.ptr 0 0),(4,.ptr 2 0)]) (h':=[.row (lnO p0),.row [.I 4,.I a,.I b,.I n,.d (.str st),.d (.str tx),.d (.str nu),.d (.str su),.d (.str gi),.d (.str na),.d (.str bi),.d (.str se),.I ex,.d (.sl 1 (qAl pr)),.d (.bool ba),.d (.sl 5 P),.I td,.d (.sl 1 (qAl fa)),.d (.sl 1 (qAl cu)),.d (.sl 3 (qAr fl))],.row [.d (.str nu),.d (.str su),.d (.str gi),.d (.str na),.d (.str bi),.d (.str se),.I ex,.d (.sl 1 (qAl pr)),.d (.bool ba),.d (.sl 5 P),.I td,.d (.sl 1 (qAl fa))]]) yf (HLe.refl _) ?_
  refine wwn ?_
  refine qAa rfl (fun q=>absurd q (by decide)) (fun q=>?_)
  refine wwn ?_
  refine qAa rfl (fun q=>absurd q (by decide)) (fun q=>?_)
  refine wwn ?_
  refine qAa rfl (fun q=>absurd q (by decide)) (fun q=>?_)
  refine wwn ?_
  refine qAa rfl (fun q=>absurd q (by decide)) (fun q=>?_)
  refine wwn ?_
  refine qAa rfl (fun q=>?_) (fun q=>absurd q (by decide))
  refine wwn ?_
  refine qAd (qAk (H':=[.row (lnO p1),.row [.I 4,.I a,.I b,.I n,.d (.str st),.d (.str tx),.d (.str nu),.d (.str su),.d (.str gi),.d (.str na),.d (.str bi),.d (.str se),.I ex,.d (.sl 1 (qAl pr)),.d (.bool ba),.d (.sl 5 P),.I td,.d (.sl 1 (qAl fa)),.d (.sl 1 (qAl cu)),.d (.sl 3 (qAr fl))],.row [.d (.str nu),.d (.str su),.d (.str gi),.d (.str na),.d (.str bi),.d (.str se),.I ex,.d (.sl 1 (qAl pr)),.d (.bool ba),.d (.sl 5 P),.I td,.d (.sl 1 (qAl fa))]]) rfl rfl m1 [0] (by decide) rfl rfl rfl rfl rfl rfl rfl) rfl ?_
  refine wwn ?_
  refine qAd (qAk (H':=[.row (lnO p2),.row [.I 4,.I a,.I b,.I n,.d (.str st),.d (.str tx),.d (.str nu),.d (.str su),.d (.str gi),.d (.str na),.d (.str bi),.d (.str se),.I ex,.d (.sl 1 (qAl pr)),.d (.bool ba),.d (.sl 5 P),.I td,.d (.sl 1 (qAl fa)),.d (.sl 1 (qAl cu)),.d (.sl 3 (qAr fl))],.row [.d (.str nu),.d (.str su),.d (.str gi),.d (.str na),.d (.str bi),.d (.str se),.I ex,.d (.sl 1 (qAl pr)),.d (.bool ba),.d (.sl 5 P),.I td,.d (.sl 1 (qAl fa))]]) rfl rfl m2 [0] (by decide) rfl rfl rfl rfl rfl rfl rfl) rfl ?_
  refine wwn ?_
  refine qAd (qAk (H':=[.row (lnO p3),.row [.I 4,.I a,.I b,.I n,.d (.str st),.d (.str tx),.d (.str nu),.d (.str su),.d (.str gi),.d (.str na),.d (.str bi),.d (.str se),.I ex,.d (.sl 1 (qAl pr)),.d (.bool ba),.d (.sl 5 P),.I td,.d (.sl 1 (qAl fa)),.d (.sl 1 (qAl cu)),.d (.sl 3 (qAr fl))],.row [.d (.str nu),.d (.str su),.d (.str gi),.d (.str na),.d (.str bi),.d (.str se),.I ex,.d (.sl 1 (qAl pr)),.d (.bool ba),.d (.sl 5 P),.I td,.d (.sl 1 (qAl fa))]]) rfl rfl m3 [0] (by decide) rfl rfl rfl rfl rfl rfl rfl) rfl ?_
  refine wwn ?_
  refine qAd (qAk (H':=[.row (lnO p4),.row [.I 4,.I a,.I b,.I n,.d (.str st),.d (.str tx),.d (.str nu),.d (.str su),.d (.str gi),.d (.str na),.d (.str bi),.d (.str se),.I ex,.d (.sl 1 (qAl pr)),.d (.bool ba),.d (.sl 5 P),.I td,.d (.sl 1 (qAl fa)),.d (.sl 1 (qAl cu)),.d (.sl 3 (qAr fl))],.row [.d (.str nu),.d (.str su),.d (.str gi),.d (.str na),.d (.str bi),.d (.str se),.I ex,.d (.sl 1 (qAl pr)),.d (.bool ba),.d (.sl 5 P),.I td,.d (.sl 1 (qAl fa))]]) rfl rfl m4 [0] (by decide) rfl rfl rfl rfl rfl rfl rfl) rfl ?_
  refine wwn ?_
  refine qAd (qAk (H':=[.row (lnO p5),.row [.I 4,.I a,.I b,.I n,.d (.str st),.d (.str tx),.d (.str nu),.d (.str su),.d (.str gi),.d (.str na),.d (.str bi),.d (.str se),.I ex,.d (.sl 1 (qAl pr)),.d (.bool ba),.d (.sl 5 P),.I td,.d (.sl 1 (qAl fa)),.d (.sl 1 (qAl cu)),.d (.sl 3 (qAr fl))],.row [.d (.str nu),.d (.str su),.d (.str gi),.d (.str na),.d (.str bi),.d (.str se),.I ex,.d (.sl 1 (qAl pr)),.d (.bool ba),.d (.sl 5 P),.I td,.d (.sl 1 (qAl fa))]]) rfl rfl m5 [0] (by decide) rfl rfl rfl rfl rfl rfl rfl) rfl ?_
  refine wwn ?_
  refine qAd (qAk (H':=[.row (lnO p6),.row [.I 4,.I a,.I b,.I n,.d (.str st),.d (.str tx),.d (.str nu),.d (.str su),.d (.str gi),.d (.str na),.d (.str bi),.d (.str se),.I ex,.d (.sl 1 (qAl pr)),.d (.bool ba),.d (.sl 5 P),.I td,.d (.sl 1 (qAl fa)),.d (.sl 1 (qAl cu)),.d (.sl 3 (qAr fl))],.row [.d (.str nu),.d (.str su),.d (.str gi),.d (.str na),.d (.str bi),.d (.str se),.I ex,.d (.sl 1 (qAl pr)),.d (.bool ba),.d (.sl 5 P),.I td,.d (.sl 1 (qAl fa))]]) rfl rfl m6 [0] (by decide) rfl rfl rfl rfl rfl rfl rfl) rfl ?_
  refine wwn ?_
  refine qAd (qAk (H':=[.row (lnO p7),.row [.I 4,.I a,.I b,.I n,.d (.str st),.d (.str tx),.d (.str nu),.d (.str su),.d (.str gi),.d (.str na),.d (.str bi),.d (.str se),.I ex,.d (.sl 1 (qAl pr)),.d (.bool ba),.d (.sl 5 P),.I td,.d (.sl 1 (qAl fa)),.d (.sl 1 (qAl cu)),.d (.sl 3 (qAr fl))],.row [.d (.str nu),.d (.str su),.d (.str gi),.d (.str na),.d (.str bi),.d (.str se),.I ex,.d (.sl 1 (qAl pr)),.d (.bool ba),.d (.sl 5 P),.I td,.d (.sl 1 (qAl fa))]]) rfl rfl m7 [0] (by decide) rfl rfl rfl rfl rfl rfl rfl) rfl ?_
  refine wwn ?_
  refine qAd (qAk (H':=[.row (lnO p8),.row [.I 4,.I a,.I b,.I n,.d (.str st),.d (.str tx),.d (.str nu),.d (.str su),.d (.str gi),.d (.str na),.d (.str bi),.d (.str se),.I ex,.d (.sl 1 (qAl pr)),.d (.bool ba),.d (.sl 5 P),.I td,.d (.sl 1 (qAl fa)),.d (.sl 1 (qAl cu)),.d (.sl 3 (qAr fl))],.row [.d (.str nu),.d (.str su),.d (.str gi),.d (.str na),.d (.str bi),.d (.str se),.I ex,.d (.sl 1 (qAl pr)),.d (.bool ba),.d (.sl 5 P),.I td,.d (.sl 1 (qAl fa))]]) rfl rfl m8 [0] (by decide) rfl rfl rfl rfl rfl rfl rfl) rfl ?_
  refine wwn ?_
  refine wwc q9 ?_
  refine wwn ?_
  refine qAd (qAk (H':=[.row (lnO p9),.row [.I 4,.I a,.I b,.I n,.d (.str st),.d (.str tx),.d (.str nu),.d (.str su),.d (.str gi),.d (.str na),.d (.str bi),.d (.str se),.I ex,.d (.sl 1 (qAl pr)),.d (.bool ba),.d (.sl 5 P),.I td,.d (.sl 1 (qAl fa)),.d (.sl 1 (qAl cu)),.d (.sl 3 (qAr fl))],.row [.d (.str nu),.d (.str su),.d (.str gi),.d (.str na),.d (.str bi),.d (.str se),.I ex,.d (.sl 1 (qAl pr)),.d (.bool ba),.d (.sl 5 P),.I td,.d (.sl 1 (qAl fa))]]) rfl rfl m9 [0] (by decide) rfl rfl rfl rfl rfl rfl rfl) rfl ?_
  refine wwn ?_
  refine qAd (qAk (H':=[.row (lnO p10),.row [.I 4,.I a,.I b,.I n,.d (.str st),.d (.str tx),.d (.str nu),.d (.str su),.d (.str gi),.d (.str na),.d (.str bi),.d (.str se),.I ex,.d (.sl 1 (qAl pr)),.d (.bool ba),.d (.sl 5 P),.I td,.d (.sl 1 (qAl fa)),.d (.sl 1 (qAl cu)),.d (.sl 3 (qAr fl))],.row [.d (.str nu),.d (.str su),.d (.str gi),.d (.str na),.d (.str bi),.d (.str se),.I ex,.d (.sl 1 (qAl pr)),.d (.bool ba),.d (.sl 5 P),.I td,.d (.sl 1 (qAl fa))]]) rfl rfl m10 [0] (by decide) rfl rfl rfl rfl rfl rfl rfl) rfl ?_
  refine wwn ?_
  refine qAd (qAk (H':=[.row (lnO p11),.row [.I 4,.I a,.I b,.I n,.d (.str st),.d (.str tx),.d (.str nu),.d (.str su),.d (.str gi),.d (.str na),.d (.str bi),.d (.str se),.I ex,.d (.sl 1 (qAl pr)),.d (.bool ba),.d (.sl 5 P),.I td,.d (.sl 1 (qAl fa)),.d (.sl 1 (qAl cu)),.d (.sl 3 (qAr fl))],.row [.d (.str nu),.d (.str su),.d (.str gi),.d (.str na),.d (.str bi),.d (.str se),.I ex,.d (.sl 1 (qAl pr)),.d (.bool ba),.d (.sl 5 P),.I td,.d (.sl 1 (qAl fa))]]) rfl rfl m11 [0] (by decide) rfl rfl rfl rfl rfl rfl rfl) rfl ?_
  refine wwn ?_
  refine qAa rfl (fun q=>absurd q (by decide)) (fun q=>?_)
  refine wwn ?_
  refine qAa rfl (fun q=>absurd q (by decide)) (fun q=>?_)
  refine wwn ?_
  obtain ⟨z,ok⟩:=p11
  unfold lnO
  refine ww ?_
  cases ok with
  | false =>
   refine qAa rfl (fun q=>?_) (fun q=>absurd q (by simp))
   refine ww ?_
   exact wwr
  | true =>
   refine qAa rfl (fun q=>absurd q (by simp)) (fun q=>?_)
   refine ww ?_
   exact wwr
theorem qUf (a b n:Int) (st tx nu su gi na bi se:List UInt8) (ex:Int) (pr:List Int) (ba:Bool) (pt:Nat) (td:Int) (fa cu:List Int) (fl:List Flp) (P:List (List Dat)) (hx:ActLen ⟨5,a,b,n,st,tx,nu,su,gi,na,bi,se,ex,pr,ba,pt,td,fa,cu,fl⟩ P):Spec Tryz.prog 18 [.agg (qBn ⟨5,a,b,n,st,tx,nu,su,gi,na,bi,se,ex,pr,ba,pt,td,fa,cu,fl⟩ P)] [] (fun r h'=>r=.d (.str (lineK ⟨5,a,b,n,st,tx,nu,su,gi,na,bi,se,ex,pr,ba,pt,td,fa,cu,fl⟩))∧h'=[]):=by
 have hK:=keepR5_spec a b n st tx nu su gi na bi se ex pr ba pt td fa cu fl P
 have hn:=hx.nums
 have ht:=hx.txts
 have hS:=qCe ⟨5,a,b,n,st,tx,nu,su,gi,na,bi,se,ex,pr,ba,pt,td,fa,cu,fl⟩ (qBq ⟨5,a,b,n,st,tx,nu,su,gi,na,bi,se,ex,pr,ba,pt,td,fa,cu,fl⟩) P [] hx.pts rfl (by simp only at hn ⊢;omega) (by simp only at hn ⊢;omega) (by simp only at hn ⊢;omega) (by simp only at hn ⊢;omega)
 simp only at hn ht
 rw [lineK_fin (show 1≤(5:Int)∧(5:Int)≤11 by omega)]
 have hnk:=nameR_at (show 1≤(5:Int)∧(5:Int)≤11 by omega)
 have b0:=@qCz 5
 obtain ⟨p0,hp0⟩:∃ p,p=((qAx 5,true):List UInt8×Bool):=⟨_,rfl⟩
 have b0:p0.1.length≤10:=by rw [hp0];exact b0
 obtain ⟨p1,hp1⟩:∃ p,p=lnF p0 (.num a):=⟨_,rfl⟩
 have b1:p1.1.length≤211310:=by
  have:=lnF_len (p:=p0) (f:=.num a) (trivial)
  rw [hp1];omega
 have m1:Spec Tryz.prog 35 [.ptr 0 0,.I a] [.row (lnO p0)] (fun r h'=>r=.tup []∧h'=[.row (lnO p1)]):=by rw [hp1];exact numLR_spec p0 _ (by omega)
 obtain ⟨p2,hp2⟩:∃ p,p=lnF p1 (.num b):=⟨_,rfl⟩
 have b2:p2.1.length≤422610:=by
  have:=lnF_len (p:=p1) (f:=.num b) (trivial)
  rw [hp2];omega
 have m2:Spec Tryz.prog 35 [.ptr 0 0,.I b] [.row (lnO p1)] (fun r h'=>r=.tup []∧h'=[.row (lnO p2)]):=by rw [hp2];exact numLR_spec p1 _ (by omega)
 have hl:qGw ⟨5,a,b,n,st,tx,nu,su,gi,na,bi,se,ex,pr,ba,pt,td,fa,cu,fl⟩=p2:=by rw [hp2,hp1,hp0];rfl
 rw [hl]
 have hp0':p0=(p0.1,true):=by rw [hp0]
 have hnk:(qAg ([]::qBt))[(5:Int).toNat]?=some [.str p0.1]:=by rw [hp0];exact hnk
 clear hl hp2 hp1 hp0 hn ht hx b0 b1 b2
 generalize decide (⟨5,a,b,n,st,tx,nu,su,gi,na,bi,se,ex,pr,ba,pt,td,fa,cu,fl⟩=qBq ⟨5,a,b,n,st,tx,nu,su,gi,na,bi,se,ex,pr,ba,pt,td,fa,cu,fl⟩)=sb at hS ⊢
 generalize qBq ⟨5,a,b,n,st,tx,nu,su,gi,na,bi,se,ex,pr,ba,pt,td,fa,cu,fl⟩=y at hK hS
 obtain ⟨k',a',b',n',st',tx',nu',su',gi',na',bi',se',ex',pr',ba',pt',td',fa',cu',fl'⟩:=y
 unfold qBn at *
 simp only at *
 refine qAb hT Tryz.func18 rfl rfl rfl rfl ?_;intro E hE
 refine qAq ?_
 refine qAf (qAc ?_)
 refine wws ?_
 refine ww ?_
 refine wwgc namesR_spec ?_
 refine wg hT rfl rfl rfl rfl rfl ?_
 refine wg hT rfl rfl rfl rfl rfl ?_
 refine wd hT rfl rfl rfl ?_
 refine wd hT rfl rfl rfl ?_
 refine qCa (v:=.agg [.I 5,.I a,.I b,.I n,.d (.str st),.d (.str tx),.d (.str nu),.d (.str su),.d (.str gi),.d (.str na),.d (.str bi),.d (.str se),.I ex,.d (.sl 1 (qAl pr)),.d (.bool ba),.d (.sl 5 P),.I td,.d (.sl 1 (qAl fa)),.d (.sl 1 (qAl cu)),.d (.sl 3 (qAr fl))]) rfl rfl rfl rfl (fun hg=>⟨(sg (C:=True) hg).1,qAo (i:=1) (off:=0) hT rfl rfl rfl (qDa rfl)⟩) ?_
 refine qCa (v:=.agg [.I 5,.I a,.I b,.I n,.d (.str st),.d (.str tx),.d (.str nu),.d (.str su),.d (.str gi),.d (.str na),.d (.str bi),.d (.str se),.I ex,.d (.sl 1 (qAl pr)),.d (.bool ba),.d (.sl 5 P),.I td,.d (.sl 1 (qAl fa)),.d (.sl 1 (qAl cu)),.d (.sl 3 (qAr fl))]) rfl rfl rfl rfl (fun hg=>⟨(sg (C:=True) hg).1,qAo (i:=1) (off:=0) hT rfl rfl rfl (qDa rfl)⟩) ?_
 refine wwgc hK ?_
 refine wwgc hS ?_
 refine ww ?_
 cases sb with
 | false =>
  refine qAa rfl (fun q=>?_) (fun q=>absurd q (by decide))
  refine ww ?_
  exact wwr
 | true =>
  refine qAa rfl (fun q=>absurd q (by decide)) (fun q=>?_)
  clear hK hS q
  refine wwn ?_
  refine qAv (fun i=>bif Nat.beq i 2 then [1] else bif Nat.beq i 6 then [0] else []) (fun i=>bif Nat.beq i 6 then [0] else []) mixed (by kernel_rfl) ?_
  refine wwdc namesR_spec ?_
  refine wwg ?_
  refine qAm (os:=[]) (fun k hk hr=>qAe (indexAddr_ok hT rfl rfl rfl rfl (by omega) hnk)) rfl ?_
  refine wwg ?_
  refine qAm (os:=[.row (lnO (p0.1,true))]) (v:=.ptr 0 0) (fun k hk hr=>boxAt_ok (i0:=0) (cs:=lnO (p0.1,true)) rfl rfl ((hr 0 (List.mem_singleton.2 rfl)).trans rfl)) rfl ?_
  rw [← hp0']
  refine wwg ?_
  refine qAf (qAc ?_)
  refine wws ?_
  refine qAi (l:=[(1,.ptr 1 0),(3,.ptr 0 0),(4,.ptr 2 0)]) (h':=[.row (lnO p0),.row [.I 5,.I a,.I b,.I n,.d (.str st),.d (.str tx),.d (.str nu),.d (.str su),.d (.str gi),.d (.str na),.d (.str bi),.d (.str se),.I ex,.d (.sl 1 (qAl pr)),.d (.bool ba),.d (.sl 5 P),.I td,.d (.sl 1 (qAl fa)),.d (.sl 1 (qAl cu)),.d (.sl 3 (qAr fl))],.row [.d (.str nu),.d (.str su),.d (.str gi),.d (.str na),.d (.str bi),.d (.str se),.I ex,.d (.sl 1 (qAl pr)),.d (.bool ba),.d (.sl 5 P),.I td,.d (.sl 1 (qAl fa))]]) yf (HLe.refl _) ?_
  refine wwn ?_
  refine qAa rfl (fun q=>absurd q (by decide)) (fun q=>?_)
  refine wwn ?_
  refine qAa rfl (fun q=>absurd q (by decide)) (fun q=>?_)
  refine wwn ?_
  refine qAa rfl (fun q=>absurd q (by decide)) (fun q=>?_)
  refine wwn ?_
  refine qAa rfl (fun q=>absurd q (by decide)) (fun q=>?_)
  refine wwn ?_
  refine qAa rfl (fun q=>absurd q (by decide)) (fun q=>?_)
  refine wwn ?_
  refine qAa rfl (fun q=>absurd q (by decide)) (fun q=>?_)
  refine wwn ?_
  refine qAd (qAk (H':=[.row (lnO p1),.row [.I 5,.I a,.I b,.I n,.d (.str st),.d (.str tx),.d (.str nu),.d (.str su),.d (.str gi),.d (.str na),.d (.str bi),.d (.str se),.I ex,.d (.sl 1 (qAl pr)),.d (.bool ba),.d (.sl 5 P),.I td,.d (.sl 1 (qAl fa)),.d (.sl 1 (qAl cu)),.d (.sl 3 (qAr fl))],.row [.d (.str nu),.d (.str su),.d (.str gi),.d (.str na),.d (.str bi),.d (.str se),.I ex,.d (.sl 1 (qAl pr)),.d (.bool ba),.d (.sl 5 P),.I td,.d (.sl 1 (qAl fa))]]) rfl rfl m1 [0] (by decide) rfl rfl rfl rfl rfl rfl rfl) rfl ?_
  refine wwn ?_
  refine qAd (qAk (H':=[.row (lnO p2),.row [.I 5,.I a,.I b,.I n,.d (.str st),.d (.str tx),.d (.str nu),.d (.str su),.d (.str gi),.d (.str na),.d (.str bi),.d (.str se),.I ex,.d (.sl 1 (qAl pr)),.d (.bool ba),.d (.sl 5 P),.I td,.d (.sl 1 (qAl fa)),.d (.sl 1 (qAl cu)),.d (.sl 3 (qAr fl))],.row [.d (.str nu),.d (.str su),.d (.str gi),.d (.str na),.d (.str bi),.d (.str se),.I ex,.d (.sl 1 (qAl pr)),.d (.bool ba),.d (.sl 5 P),.I td,.d (.sl 1 (qAl fa))]]) rfl rfl m2 [0] (by decide) rfl rfl rfl rfl rfl rfl rfl) rfl ?_
  refine wwn ?_
  refine qAa rfl (fun q=>absurd q (by decide)) (fun q=>?_)
  refine wwn ?_
  refine qAa rfl (fun q=>absurd q (by decide)) (fun q=>?_)
  refine wwn ?_
  obtain ⟨z,ok⟩:=p2
  unfold lnO
  refine ww ?_
  cases ok with
  | false =>
   refine qAa rfl (fun q=>?_) (fun q=>absurd q (by simp))
   refine ww ?_
   exact wwr
  | true =>
   refine qAa rfl (fun q=>absurd q (by simp)) (fun q=>?_)
   refine ww ?_
   exact wwr
theorem qUe (a b n:Int) (st tx nu su gi na bi se:List UInt8) (ex:Int) (pr:List Int) (ba:Bool) (pt:Nat) (td:Int) (fa cu:List Int) (fl:List Flp) (P:List (List Dat)) (hx:ActLen ⟨6,a,b,n,st,tx,nu,su,gi,na,bi,se,ex,pr,ba,pt,td,fa,cu,fl⟩ P):Spec Tryz.prog 18 [.agg (qBn ⟨6,a,b,n,st,tx,nu,su,gi,na,bi,se,ex,pr,ba,pt,td,fa,cu,fl⟩ P)] [] (fun r h'=>r=.d (.str (lineK ⟨6,a,b,n,st,tx,nu,su,gi,na,bi,se,ex,pr,ba,pt,td,fa,cu,fl⟩))∧h'=[]):=by
 have hK:=keepR6_spec a b n st tx nu su gi na bi se ex pr ba pt td fa cu fl P
 have hn:=hx.nums
 have ht:=hx.txts
 have hS:=qCe ⟨6,a,b,n,st,tx,nu,su,gi,na,bi,se,ex,pr,ba,pt,td,fa,cu,fl⟩ (qBq ⟨6,a,b,n,st,tx,nu,su,gi,na,bi,se,ex,pr,ba,pt,td,fa,cu,fl⟩) P [] hx.pts rfl (by simp only at hn ⊢;omega) (by simp only at hn ⊢;omega) (by simp only at hn ⊢;omega) (by simp only at hn ⊢;omega)
 simp only at hn ht
 rw [lineK_fin (show 1≤(6:Int)∧(6:Int)≤11 by omega)]
 have hnk:=nameR_at (show 1≤(6:Int)∧(6:Int)≤11 by omega)
 have b0:=@qCz 6
 obtain ⟨p0,hp0⟩:∃ p,p=((qAx 6,true):List UInt8×Bool):=⟨_,rfl⟩
 have b0:p0.1.length≤10:=by rw [hp0];exact b0
 obtain ⟨p1,hp1⟩:∃ p,p=lnF p0 (.num a):=⟨_,rfl⟩
 have b1:p1.1.length≤211310:=by
  have:=lnF_len (p:=p0) (f:=.num a) (trivial)
  rw [hp1];omega
 have m1:Spec Tryz.prog 35 [.ptr 0 0,.I a] [.row (lnO p0)] (fun r h'=>r=.tup []∧h'=[.row (lnO p1)]):=by rw [hp1];exact numLR_spec p0 _ (by omega)
 obtain ⟨p2,hp2⟩:∃ p,p=lnF p1 (.num b):=⟨_,rfl⟩
 have b2:p2.1.length≤422610:=by
  have:=lnF_len (p:=p1) (f:=.num b) (trivial)
  rw [hp2];omega
 have m2:Spec Tryz.prog 35 [.ptr 0 0,.I b] [.row (lnO p1)] (fun r h'=>r=.tup []∧h'=[.row (lnO p2)]):=by rw [hp2];exact numLR_spec p1 _ (by omega)
 have hl:qGw ⟨6,a,b,n,st,tx,nu,su,gi,na,bi,se,ex,pr,ba,pt,td,fa,cu,fl⟩=p2:=by rw [hp2,hp1,hp0];rfl
 rw [hl]
 have hp0':p0=(p0.1,true):=by rw [hp0]
 have hnk:(qAg ([]::qBt))[(6:Int).toNat]?=some [.str p0.1]:=by rw [hp0];exact hnk
 clear hl hp2 hp1 hp0 hn ht hx b0 b1 b2
 generalize decide (⟨6,a,b,n,st,tx,nu,su,gi,na,bi,se,ex,pr,ba,pt,td,fa,cu,fl⟩=qBq ⟨6,a,b,n,st,tx,nu,su,gi,na,bi,se,ex,pr,ba,pt,td,fa,cu,fl⟩)=sb at hS ⊢
 generalize qBq ⟨6,a,b,n,st,tx,nu,su,gi,na,bi,se,ex,pr,ba,pt,td,fa,cu,fl⟩=y at hK hS
 obtain ⟨k',a',b',n',st',tx',nu',su',gi',na',bi',se',ex',pr',ba',pt',td',fa',cu',fl'⟩:=y
 unfold qBn at *
 simp only at *
 refine qAb hT Tryz.func18 rfl rfl rfl rfl ?_;intro E hE
 refine qAq ?_
 refine qAf (qAc ?_)
 refine wws ?_
 refine ww ?_
 refine wwgc namesR_spec ?_
 refine wg hT rfl rfl rfl rfl rfl ?_
 refine wg hT rfl rfl rfl rfl rfl ?_
 refine wd hT rfl rfl rfl ?_
 refine wd hT rfl rfl rfl ?_
 refine qCa (v:=.agg [.I 6,.I a,.I b,.I n,.d (.str st),.d (.str tx),.d (.str nu),.d (.str su),.d (.str gi),.d (.str na),.d (.str bi),.d (.str se),.I ex,.d (.sl 1 (qAl pr)),.d (.bool ba),.d (.sl 5 P),.I td,.d (.sl 1 (qAl fa)),.d (.sl 1 (qAl cu)),.d (.sl 3 (qAr fl))]) rfl rfl rfl rfl (fun hg=>⟨(sg (C:=True) hg).1,qAo (i:=1) (off:=0) hT rfl rfl rfl (qDa rfl)⟩) ?_
 refine qCa (v:=.agg [.I 6,.I a,.I b,.I n,.d (.str st),.d (.str tx),.d (.str nu),.d (.str su),.d (.str gi),.d (.str na),.d (.str bi),.d (.str se),.I ex,.d (.sl 1 (qAl pr)),.d (.bool ba),.d (.sl 5 P),.I td,.d (.sl 1 (qAl fa)),.d (.sl 1 (qAl cu)),.d (.sl 3 (qAr fl))]) rfl rfl rfl rfl (fun hg=>⟨(sg (C:=True) hg).1,qAo (i:=1) (off:=0) hT rfl rfl rfl (qDa rfl)⟩) ?_
 refine wwgc hK ?_
 refine wwgc hS ?_
 refine ww ?_
 cases sb with
 | false =>
  refine qAa rfl (fun q=>?_) (fun q=>absurd q (by decide))
  refine ww ?_
  exact wwr
 | true =>
  refine qAa rfl (fun q=>absurd q (by decide)) (fun q=>?_)
  clear hK hS q
  refine wwn ?_
  refine qAv (fun i=>bif Nat.beq i 2 then [1] else bif Nat.beq i 6 then [0] else []) (fun i=>bif Nat.beq i 6 then [0] else []) mixed (by kernel_rfl) ?_
  refine wwdc namesR_spec ?_
  refine wwg ?_
  refine qAm (os:=[]) (fun k hk hr=>qAe (indexAddr_ok hT rfl rfl rfl rfl (by omega) hnk)) rfl ?_
  refine wwg ?_
  refine qAm (os:=[.row (lnO (p0.1,true))]) (v:=.ptr 0 0) (fun k hk hr=>boxAt_ok (i0:=0) (cs:=lnO (p0.1,true)) rfl rfl ((hr 0 (List.mem_singleton.2 rfl)).trans rfl)) rfl ?_
  rw [← hp0']
  refine wwg ?_
  refine qAf (qAc ?_)
  refine wws ?_
  refine qAi (l:=[(1,.ptr 1 0),(3,.ptr 0 0),(4,.ptr 2 0)]) (h':=[.row (lnO p0),.row [.I 6,.I a,.I b,.I n,.d (.str st),.d (.str tx),.d (.str nu),.d (.str su),.d (.str gi),.d (.str na),.d (.str bi),.d (.str se),.I ex,.d (.sl 1 (qAl pr)),.d (.bool ba),.d (.sl 5 P),.I td,.d (.sl 1 (qAl fa)),.d (.sl 1 (qAl cu)),.d (.sl 3 (qAr fl))],.row [.d (.str nu),.d (.str su),.d (.str gi),.d (.str na),.d (.str bi),.d (.str se),.I ex,.d (.sl 1 (qAl pr)),.d (.bool ba),.d (.sl 5 P),.I td,.d (.sl 1 (qAl fa))]]) yf (HLe.refl _) ?_
  refine wwn ?_
  refine qAa rfl (fun q=>absurd q (by decide)) (fun q=>?_)
  refine wwn ?_
  refine qAa rfl (fun q=>absurd q (by decide)) (fun q=>?_)
  refine wwn ?_
  refine qAa rfl (fun q=>absurd q (by decide)) (fun q=>?_)
  refine wwn ?_
  refine qAa rfl (fun q=>absurd q (by decide)) (fun q=>?_)
  refine wwn ?_
  refine qAa rfl (fun q=>absurd q (by decide)) (fun q=>?_)
  refine wwn ?_
  refine qAa rfl (fun q=>absurd q (by decide)) (fun q=>?_)
  refine wwn ?_
  refine qAd (qAk (H':=[.row (lnO p1),.row [.I 6,.I a,.I b,.I n,.d (.str st),.d (.str tx),.d (.str nu),.d (.str su),.d (.str gi),.d (.str na),.d (.str bi),.d (.str se),.I ex,.d (.sl 1 (qAl pr)),.d (.bool ba),.d (.sl 5 P),.I td,.d (.sl 1 (qAl fa)),.d (.sl 1 (qAl cu)),.d (.sl 3 (qAr fl))],.row [.d (.str nu),.d (.str su),.d (.str gi),.d (.str na),.d (.str bi),.d (.str se),.I ex,.d (.sl 1 (qAl pr)),.d (.bool ba),.d (.sl 5 P),.I td,.d (.sl 1 (qAl fa))]]) rfl rfl m1 [0] (by decide) rfl rfl rfl rfl rfl rfl rfl) rfl ?_
  refine wwn ?_
  refine qAd (qAk (H':=[.row (lnO p2),.row [.I 6,.I a,.I b,.I n,.d (.str st),.d (.str tx),.d (.str nu),.d (.str su),.d (.str gi),.d (.str na),.d (.str bi),.d (.str se),.I ex,.d (.sl 1 (qAl pr)),.d (.bool ba),.d (.sl 5 P),.I td,.d (.sl 1 (qAl fa)),.d (.sl 1 (qAl cu)),.d (.sl 3 (qAr fl))],.row [.d (.str nu),.d (.str su),.d (.str gi),.d (.str na),.d (.str bi),.d (.str se),.I ex,.d (.sl 1 (qAl pr)),.d (.bool ba),.d (.sl 5 P),.I td,.d (.sl 1 (qAl fa))]]) rfl rfl m2 [0] (by decide) rfl rfl rfl rfl rfl rfl rfl) rfl ?_
  refine wwn ?_
  refine qAa rfl (fun q=>absurd q (by decide)) (fun q=>?_)
  refine wwn ?_
  refine qAa rfl (fun q=>absurd q (by decide)) (fun q=>?_)
  refine wwn ?_
  obtain ⟨z,ok⟩:=p2
  unfold lnO
  refine ww ?_
  cases ok with
  | false =>
   refine qAa rfl (fun q=>?_) (fun q=>absurd q (by simp))
   refine ww ?_
   exact wwr
  | true =>
   refine qAa rfl (fun q=>absurd q (by simp)) (fun q=>?_)
   refine ww ?_
   exact wwr
theorem qUd (a b n:Int) (st tx nu su gi na bi se:List UInt8) (ex:Int) (pr:List Int) (ba:Bool) (pt:Nat) (td:Int) (fa cu:List Int) (fl:List Flp) (P:List (List Dat)) (hx:ActLen ⟨7,a,b,n,st,tx,nu,su,gi,na,bi,se,ex,pr,ba,pt,td,fa,cu,fl⟩ P):Spec Tryz.prog 18 [.agg (qBn ⟨7,a,b,n,st,tx,nu,su,gi,na,bi,se,ex,pr,ba,pt,td,fa,cu,fl⟩ P)] [] (fun r h'=>r=.d (.str (lineK ⟨7,a,b,n,st,tx,nu,su,gi,na,bi,se,ex,pr,ba,pt,td,fa,cu,fl⟩))∧h'=[]):=by
 have hK:=keepR7_spec a b n st tx nu su gi na bi se ex pr ba pt td fa cu fl P
 have hn:=hx.nums
 have ht:=hx.txts
 have hS:=qCe ⟨7,a,b,n,st,tx,nu,su,gi,na,bi,se,ex,pr,ba,pt,td,fa,cu,fl⟩ (qBq ⟨7,a,b,n,st,tx,nu,su,gi,na,bi,se,ex,pr,ba,pt,td,fa,cu,fl⟩) P [] hx.pts rfl (by simp only at hn ⊢;omega) (by simp only at hn ⊢;omega) (by simp only at hn ⊢;omega) (by simp only at hn ⊢;omega)
 simp only at hn ht
 rw [lineK_fin (show 1≤(7:Int)∧(7:Int)≤11 by omega)]
 have hnk:=nameR_at (show 1≤(7:Int)∧(7:Int)≤11 by omega)
 have b0:=@qCz 7
 obtain ⟨p0,hp0⟩:∃ p,p=((qAx 7,true):List UInt8×Bool):=⟨_,rfl⟩
 have b0:p0.1.length≤10:=by rw [hp0];exact b0
 obtain ⟨p1,hp1⟩:∃ p,p=lnF p0 (.num a):=⟨_,rfl⟩
 have b1:p1.1.length≤211310:=by
  have:=lnF_len (p:=p0) (f:=.num a) (trivial)
  rw [hp1];omega
 have m1:Spec Tryz.prog 35 [.ptr 0 0,.I a] [.row (lnO p0)] (fun r h'=>r=.tup []∧h'=[.row (lnO p1)]):=by rw [hp1];exact numLR_spec p0 _ (by omega)
 obtain ⟨p2,hp2⟩:∃ p,p=lnF p1 (.num b):=⟨_,rfl⟩
 have b2:p2.1.length≤422610:=by
  have:=lnF_len (p:=p1) (f:=.num b) (trivial)
  rw [hp2];omega
 have m2:Spec Tryz.prog 35 [.ptr 0 0,.I b] [.row (lnO p1)] (fun r h'=>r=.tup []∧h'=[.row (lnO p2)]):=by rw [hp2];exact numLR_spec p1 _ (by omega)
 obtain ⟨p3,hp3⟩:∃ p,p=lnF p2 (.num n):=⟨_,rfl⟩
 have b3:p3.1.length≤633910:=by
  have:=lnF_len (p:=p2) (f:=.num n) (trivial)
  rw [hp3];omega
 have m3:Spec Tryz.prog 35 [.ptr 0 0,.I n] [.row (lnO p2)] (fun r h'=>r=.tup []∧h'=[.row (lnO p3)]):=by rw [hp3];exact numLR_spec p2 _ (by omega)
 have hl:qGw ⟨7,a,b,n,st,tx,nu,su,gi,na,bi,se,ex,pr,ba,pt,td,fa,cu,fl⟩=p3:=by rw [hp3,hp2,hp1,hp0];rfl
 rw [hl]
 have hp0':p0=(p0.1,true):=by rw [hp0]
 have hnk:(qAg ([]::qBt))[(7:Int).toNat]?=some [.str p0.1]:=by rw [hp0];exact hnk
 clear hl hp3 hp2 hp1 hp0 hn ht hx b0 b1 b2 b3
 generalize decide (⟨7,a,b,n,st,tx,nu,su,gi,na,bi,se,ex,pr,ba,pt,td,fa,cu,fl⟩=qBq ⟨7,a,b,n,st,tx,nu,su,gi,na,bi,se,ex,pr,ba,pt,td,fa,cu,fl⟩)=sb at hS ⊢
 generalize qBq ⟨7,a,b,n,st,tx,nu,su,gi,na,bi,se,ex,pr,ba,pt,td,fa,cu,fl⟩=y at hK hS
 obtain ⟨k',a',b',n',st',tx',nu',su',gi',na',bi',se',ex',pr',ba',pt',td',fa',cu',fl'⟩:=y
 unfold qBn at *
 simp only at *
 refine qAb hT Tryz.func18 rfl rfl rfl rfl ?_;intro E hE
 refine qAq ?_
 refine qAf (qAc ?_)
 refine wws ?_
 refine ww ?_
 refine wwgc namesR_spec ?_
 refine wg hT rfl rfl rfl rfl rfl ?_
 refine wg hT rfl rfl rfl rfl rfl ?_
 refine wd hT rfl rfl rfl ?_
 refine wd hT rfl rfl rfl ?_
 refine qCa (v:=.agg [.I 7,.I a,.I b,.I n,.d (.str st),.d (.str tx),.d (.str nu),.d (.str su),.d (.str gi),.d (.str na),.d (.str bi),.d (.str se),.I ex,.d (.sl 1 (qAl pr)),.d (.bool ba),.d (.sl 5 P),.I td,.d (.sl 1 (qAl fa)),.d (.sl 1 (qAl cu)),.d (.sl 3 (qAr fl))]) rfl rfl rfl rfl (fun hg=>⟨(sg (C:=True) hg).1,qAo (i:=1) (off:=0) hT rfl rfl rfl (qDa rfl)⟩) ?_
 refine qCa (v:=.agg [.I 7,.I a,.I b,.I n,.d (.str st),.d (.str tx),.d (.str nu),.d (.str su),.d (.str gi),.d (.str na),.d (.str bi),.d (.str se),.I ex,.d (.sl 1 (qAl pr)),.d (.bool ba),.d (.sl 5 P),.I td,.d (.sl 1 (qAl fa)),.d (.sl 1 (qAl cu)),.d (.sl 3 (qAr fl))]) rfl rfl rfl rfl (fun hg=>⟨(sg (C:=True) hg).1,qAo (i:=1) (off:=0) hT rfl rfl rfl (qDa rfl)⟩) ?_
 refine wwgc hK ?_
 refine wwgc hS ?_
 refine ww ?_
 cases sb with
 | false =>
  refine qAa rfl (fun q=>?_) (fun q=>absurd q (by decide))
  refine ww ?_
  exact wwr
 | true =>
  refine qAa rfl (fun q=>absurd q (by decide)) (fun q=>?_)
  clear hK hS q
  refine wwn ?_
  refine qAv (fun i=>bif Nat.beq i 2 then [1] else bif Nat.beq i 6 then [0] else []) (fun i=>bif Nat.beq i 6 then [0] else []) mixed (by kernel_rfl) ?_
  refine wwdc namesR_spec ?_
  refine wwg ?_
  refine qAm (os:=[]) (fun k hk hr=>qAe (indexAddr_ok hT rfl rfl rfl rfl (by omega) hnk)) rfl ?_
  refine wwg ?_
  refine qAm (os:=[.row (lnO (p0.1,true))]) (v:=.ptr 0 0) (fun k hk hr=>boxAt_ok (i0:=0) (cs:=lnO (p0.1,true)) rfl rfl ((hr 0 (List.mem_singleton.2 rfl)).trans rfl)) rfl ?_
  rw [← hp0']
  refine wwg ?_
  refine qAf (qAc ?_)
  refine wws ?_
  refine qAi (l:=[(1,.ptr 1 0),(3,.ptr 0 0),(4,.ptr 2 0)]) (h':=[.row (lnO p0),.row [.I 7,.I a,.I b,.I n,.d (.str st),.d (.str tx),.d (.str nu),.d (.str su),.d (.str gi),.d (.str na),.d (.str bi),.d (.str se),.I ex,.d (.sl 1 (qAl pr)),.d (.bool ba),.d (.sl 5 P),.I td,.d (.sl 1 (qAl fa)),.d (.sl 1 (qAl cu)),.d (.sl 3 (qAr fl))],.row [.d (.str nu),.d (.str su),.d (.str gi),.d (.str na),.d (.str bi),.d (.str se),.I ex,.d (.sl 1 (qAl pr)),.d (.bool ba),.d (.sl 5 P),.I td,.d (.sl 1 (qAl fa))]]) yf (HLe.refl _) ?_
  refine wwn ?_
  refine qAa rfl (fun q=>absurd q (by decide)) (fun q=>?_)
  refine wwn ?_
  refine qAa rfl (fun q=>absurd q (by decide)) (fun q=>?_)
  refine wwn ?_
  refine qAa rfl (fun q=>absurd q (by decide)) (fun q=>?_)
  refine wwn ?_
  refine qAa rfl (fun q=>absurd q (by decide)) (fun q=>?_)
  refine wwn ?_
  refine qAa rfl (fun q=>absurd q (by decide)) (fun q=>?_)
  refine wwn ?_
  refine qAa rfl (fun q=>absurd q (by decide)) (fun q=>?_)
  refine wwn ?_
  refine qAd (qAk (H':=[.row (lnO p1),.row [.I 7,.I a,.I b,.I n,.d (.str st),.d (.str tx),.d (.str nu),.d (.str su),.d (.str gi),.d (.str na),.d (.str bi),.d (.str se),.I ex,.d (.sl 1 (qAl pr)),.d (.bool ba),.d (.sl 5 P),.I td,.d (.sl 1 (qAl fa)),.d (.sl 1 (qAl cu)),.d (.sl 3 (qAr fl))],.row [.d (.str nu),.d (.str su),.d (.str gi),.d (.str na),.d (.str bi),.d (.str se),.I ex,.d (.sl 1 (qAl pr)),.d (.bool ba),.d (.sl 5 P),.I td,.d (.sl 1 (qAl fa))]]) rfl rfl m1 [0] (by decide) rfl rfl rfl rfl rfl rfl rfl) rfl ?_
  refine wwn ?_
  refine qAd (qAk (H':=[.row (lnO p2),.row [.I 7,.I a,.I b,.I n,.d (.str st),.d (.str tx),.d (.str nu),.d (.str su),.d (.str gi),.d (.str na),.d (.str bi),.d (.str se),.I ex,.d (.sl 1 (qAl pr)),.d (.bool ba),.d (.sl 5 P),.I td,.d (.sl 1 (qAl fa)),.d (.sl 1 (qAl cu)),.d (.sl 3 (qAr fl))],.row [.d (.str nu),.d (.str su),.d (.str gi),.d (.str na),.d (.str bi),.d (.str se),.I ex,.d (.sl 1 (qAl pr)),.d (.bool ba),.d (.sl 5 P),.I td,.d (.sl 1 (qAl fa))]]) rfl rfl m2 [0] (by decide) rfl rfl rfl rfl rfl rfl rfl) rfl ?_
  refine wwn ?_
  refine qAa rfl (fun q=>?_) (fun q=>absurd q (by decide))
  refine wwn ?_
  refine qAd (qAk (H':=[.row (lnO p3),.row [.I 7,.I a,.I b,.I n,.d (.str st),.d (.str tx),.d (.str nu),.d (.str su),.d (.str gi),.d (.str na),.d (.str bi),.d (.str se),.I ex,.d (.sl 1 (qAl pr)),.d (.bool ba),.d (.sl 5 P),.I td,.d (.sl 1 (qAl fa)),.d (.sl 1 (qAl cu)),.d (.sl 3 (qAr fl))],.row [.d (.str nu),.d (.str su),.d (.str gi),.d (.str na),.d (.str bi),.d (.str se),.I ex,.d (.sl 1 (qAl pr)),.d (.bool ba),.d (.sl 5 P),.I td,.d (.sl 1 (qAl fa))]]) rfl rfl m3 [0] (by decide) rfl rfl rfl rfl rfl rfl rfl) rfl ?_
  refine wwn ?_
  refine qAa rfl (fun q=>absurd q (by decide)) (fun q=>?_)
  refine wwn ?_
  obtain ⟨z,ok⟩:=p3
  unfold lnO
  refine ww ?_
  cases ok with
  | false =>
   refine qAa rfl (fun q=>?_) (fun q=>absurd q (by simp))
   refine ww ?_
   exact wwr
  | true =>
   refine qAa rfl (fun q=>absurd q (by simp)) (fun q=>?_)
   refine ww ?_
   exact wwr
theorem qUc (a b n:Int) (st tx nu su gi na bi se:List UInt8) (ex:Int) (pr:List Int) (ba:Bool) (pt:Nat) (td:Int) (fa cu:List Int) (fl:List Flp) (P:List (List Dat)) (hx:ActLen ⟨8,a,b,n,st,tx,nu,su,gi,na,bi,se,ex,pr,ba,pt,td,fa,cu,fl⟩ P):Spec Tryz.prog 18 [.agg (qBn ⟨8,a,b,n,st,tx,nu,su,gi,na,bi,se,ex,pr,ba,pt,td,fa,cu,fl⟩ P)] [] (fun r h'=>r=.d (.str (lineK ⟨8,a,b,n,st,tx,nu,su,gi,na,bi,se,ex,pr,ba,pt,td,fa,cu,fl⟩))∧h'=[]):=by
 have hK:=keepR8_spec a b n st tx nu su gi na bi se ex pr ba pt td fa cu fl P
 have hn:=hx.nums
 have ht:=hx.txts
 have hS:=qCe ⟨8,a,b,n,st,tx,nu,su,gi,na,bi,se,ex,pr,ba,pt,td,fa,cu,fl⟩ (qBq ⟨8,a,b,n,st,tx,nu,su,gi,na,bi,se,ex,pr,ba,pt,td,fa,cu,fl⟩) P [] hx.pts rfl (by simp only at hn ⊢;omega) (by simp only at hn ⊢;omega) (by simp only at hn ⊢;omega) (by simp only at hn ⊢;omega)
 simp only at hn ht
 rw [lineK_fin (show 1≤(8:Int)∧(8:Int)≤11 by omega)]
 have hnk:=nameR_at (show 1≤(8:Int)∧(8:Int)≤11 by omega)
 have b0:=@qCz 8
 obtain ⟨p0,hp0⟩:∃ p,p=((qAx 8,true):List UInt8×Bool):=⟨_,rfl⟩
 have b0:p0.1.length≤10:=by rw [hp0];exact b0
 obtain ⟨p1,hp1⟩:∃ p,p=lnF p0 (.num a):=⟨_,rfl⟩
 have b1:p1.1.length≤211310:=by
  have:=lnF_len (p:=p0) (f:=.num a) (trivial)
  rw [hp1];omega
 have m1:Spec Tryz.prog 35 [.ptr 0 0,.I a] [.row (lnO p0)] (fun r h'=>r=.tup []∧h'=[.row (lnO p1)]):=by rw [hp1];exact numLR_spec p0 _ (by omega)
 obtain ⟨p2,hp2⟩:∃ p,p=lnF p1 (.num b):=⟨_,rfl⟩
 have b2:p2.1.length≤422610:=by
  have:=lnF_len (p:=p1) (f:=.num b) (trivial)
  rw [hp2];omega
 have m2:Spec Tryz.prog 35 [.ptr 0 0,.I b] [.row (lnO p1)] (fun r h'=>r=.tup []∧h'=[.row (lnO p2)]):=by rw [hp2];exact numLR_spec p1 _ (by omega)
 have hl:qGw ⟨8,a,b,n,st,tx,nu,su,gi,na,bi,se,ex,pr,ba,pt,td,fa,cu,fl⟩=p2:=by rw [hp2,hp1,hp0];rfl
 rw [hl]
 have hp0':p0=(p0.1,true):=by rw [hp0]
 have hnk:(qAg ([]::qBt))[(8:Int).toNat]?=some [.str p0.1]:=by rw [hp0];exact hnk
 clear hl hp2 hp1 hp0 hn ht hx b0 b1 b2
 generalize decide (⟨8,a,b,n,st,tx,nu,su,gi,na,bi,se,ex,pr,ba,pt,td,fa,cu,fl⟩=qBq ⟨8,a,b,n,st,tx,nu,su,gi,na,bi,se,ex,pr,ba,pt,td,fa,cu,fl⟩)=sb at hS ⊢
 generalize qBq ⟨8,a,b,n,st,tx,nu,su,gi,na,bi,se,ex,pr,ba,pt,td,fa,cu,fl⟩=y at hK hS
 obtain ⟨k',a',b',n',st',tx',nu',su',gi',na',bi',se',ex',pr',ba',pt',td',fa',cu',fl'⟩:=y
 unfold qBn at *
 simp only at *
 refine qAb hT Tryz.func18 rfl rfl rfl rfl ?_;intro E hE
 refine qAq ?_
 refine qAf (qAc ?_)
 refine wws ?_
 refine ww ?_
 refine wwgc namesR_spec ?_
 refine wg hT rfl rfl rfl rfl rfl ?_
 refine wg hT rfl rfl rfl rfl rfl ?_
 refine wd hT rfl rfl rfl ?_
 refine wd hT rfl rfl rfl ?_
 refine qCa (v:=.agg [.I 8,.I a,.I b,.I n,.d (.str st),.d (.str tx),.d (.str nu),.d (.str su),.d (.str gi),.d (.str na),.d (.str bi),.d (.str se),.I ex,.d (.sl 1 (qAl pr)),.d (.bool ba),.d (.sl 5 P),.I td,.d (.sl 1 (qAl fa)),.d (.sl 1 (qAl cu)),.d (.sl 3 (qAr fl))]) rfl rfl rfl rfl (fun hg=>⟨(sg (C:=True) hg).1,qAo (i:=1) (off:=0) hT rfl rfl rfl (qDa rfl)⟩) ?_
 refine qCa (v:=.agg [.I 8,.I a,.I b,.I n,.d (.str st),.d (.str tx),.d (.str nu),.d (.str su),.d (.str gi),.d (.str na),.d (.str bi),.d (.str se),.I ex,.d (.sl 1 (qAl pr)),.d (.bool ba),.d (.sl 5 P),.I td,.d (.sl 1 (qAl fa)),.d (.sl 1 (qAl cu)),.d (.sl 3 (qAr fl))]) rfl rfl rfl rfl (fun hg=>⟨(sg (C:=True) hg).1,qAo (i:=1) (off:=0) hT rfl rfl rfl (qDa rfl)⟩) ?_
 refine wwgc hK ?_
 refine wwgc hS ?_
 refine ww ?_
 cases sb with
 | false =>
  refine qAa rfl (fun q=>?_) (fun q=>absurd q (by decide))
  refine ww ?_
  exact wwr
 | true =>
  refine qAa rfl (fun q=>absurd q (by decide)) (fun q=>?_)
  clear hK hS q
  refine wwn ?_
  refine qAv (fun i=>bif Nat.beq i 2 then [1] else bif Nat.beq i 6 then [0] else []) (fun i=>bif Nat.beq i 6 then [0] else []) mixed (by kernel_rfl) ?_
  refine wwdc namesR_spec ?_
  refine wwg ?_
  refine qAm (os:=[]) (fun k hk hr=>qAe (indexAddr_ok hT rfl rfl rfl rfl (by omega) hnk)) rfl ?_
  refine wwg ?_
  refine qAm (os:=[.row (lnO (p0.1,true))]) (v:=.ptr 0 0) (fun k hk hr=>boxAt_ok (i0:=0) (cs:=lnO (p0.1,true)) rfl rfl ((hr 0 (List.mem_singleton.2 rfl)).trans rfl)) rfl ?_
  rw [← hp0']
  refine wwg ?_
  refine qAf (qAc ?_)
  refine wws ?_
  refine qAi (l:=[(1,.ptr 1 0),(3,.ptr 0 0),(4,.ptr 2 0)]) (h':=[.row (lnO p0),.row [.I 8,.I a,.I b,.I n,.d (.str st),.d (.str tx),.d (.str nu),.d (.str su),.d (.str gi),.d (.str na),.d (.str bi),.d (.str se),.I ex,.d (.sl 1 (qAl pr)),.d (.bool ba),.d (.sl 5 P),.I td,.d (.sl 1 (qAl fa)),.d (.sl 1 (qAl cu)),.d (.sl 3 (qAr fl))],.row [.d (.str nu),.d (.str su),.d (.str gi),.d (.str na),.d (.str bi),.d (.str se),.I ex,.d (.sl 1 (qAl pr)),.d (.bool ba),.d (.sl 5 P),.I td,.d (.sl 1 (qAl fa))]]) yf (HLe.refl _) ?_
  refine wwn ?_
  refine qAa rfl (fun q=>absurd q (by decide)) (fun q=>?_)
  refine wwn ?_
  refine qAa rfl (fun q=>absurd q (by decide)) (fun q=>?_)
  refine wwn ?_
  refine qAa rfl (fun q=>absurd q (by decide)) (fun q=>?_)
  refine wwn ?_
  refine qAa rfl (fun q=>absurd q (by decide)) (fun q=>?_)
  refine wwn ?_
  refine qAa rfl (fun q=>absurd q (by decide)) (fun q=>?_)
  refine wwn ?_
  refine qAa rfl (fun q=>absurd q (by decide)) (fun q=>?_)
  refine wwn ?_
  refine qAd (qAk (H':=[.row (lnO p1),.row [.I 8,.I a,.I b,.I n,.d (.str st),.d (.str tx),.d (.str nu),.d (.str su),.d (.str gi),.d (.str na),.d (.str bi),.d (.str se),.I ex,.d (.sl 1 (qAl pr)),.d (.bool ba),.d (.sl 5 P),.I td,.d (.sl 1 (qAl fa)),.d (.sl 1 (qAl cu)),.d (.sl 3 (qAr fl))],.row [.d (.str nu),.d (.str su),.d (.str gi),.d (.str na),.d (.str bi),.d (.str se),.I ex,.d (.sl 1 (qAl pr)),.d (.bool ba),.d (.sl 5 P),.I td,.d (.sl 1 (qAl fa))]]) rfl rfl m1 [0] (by decide) rfl rfl rfl rfl rfl rfl rfl) rfl ?_
  refine wwn ?_
  refine qAd (qAk (H':=[.row (lnO p2),.row [.I 8,.I a,.I b,.I n,.d (.str st),.d (.str tx),.d (.str nu),.d (.str su),.d (.str gi),.d (.str na),.d (.str bi),.d (.str se),.I ex,.d (.sl 1 (qAl pr)),.d (.bool ba),.d (.sl 5 P),.I td,.d (.sl 1 (qAl fa)),.d (.sl 1 (qAl cu)),.d (.sl 3 (qAr fl))],.row [.d (.str nu),.d (.str su),.d (.str gi),.d (.str na),.d (.str bi),.d (.str se),.I ex,.d (.sl 1 (qAl pr)),.d (.bool ba),.d (.sl 5 P),.I td,.d (.sl 1 (qAl fa))]]) rfl rfl m2 [0] (by decide) rfl rfl rfl rfl rfl rfl rfl) rfl ?_
  refine wwn ?_
  refine qAa rfl (fun q=>absurd q (by decide)) (fun q=>?_)
  refine wwn ?_
  refine qAa rfl (fun q=>absurd q (by decide)) (fun q=>?_)
  refine wwn ?_
  obtain ⟨z,ok⟩:=p2
  unfold lnO
  refine ww ?_
  cases ok with
  | false =>
   refine qAa rfl (fun q=>?_) (fun q=>absurd q (by simp))
   refine ww ?_
   exact wwr
  | true =>
   refine qAa rfl (fun q=>absurd q (by simp)) (fun q=>?_)
   refine ww ?_
   exact wwr
theorem qUb (a b n:Int) (st tx nu su gi na bi se:List UInt8) (ex:Int) (pr:List Int) (ba:Bool) (pt:Nat) (td:Int) (fa cu:List Int) (fl:List Flp) (P:List (List Dat)) (hx:ActLen ⟨9,a,b,n,st,tx,nu,su,gi,na,bi,se,ex,pr,ba,pt,td,fa,cu,fl⟩ P):Spec Tryz.prog 18 [.agg (qBn ⟨9,a,b,n,st,tx,nu,su,gi,na,bi,se,ex,pr,ba,pt,td,fa,cu,fl⟩ P)] [] (fun r h'=>r=.d (.str (lineK ⟨9,a,b,n,st,tx,nu,su,gi,na,bi,se,ex,pr,ba,pt,td,fa,cu,fl⟩))∧h'=[]):=by
 have hK:=keepR9_spec a b n st tx nu su gi na bi se ex pr ba pt td fa cu fl P
 have hn:=hx.nums
 have ht:=hx.txts
 have hS:=qCe ⟨9,a,b,n,st,tx,nu,su,gi,na,bi,se,ex,pr,ba,pt,td,fa,cu,fl⟩ (qBq ⟨9,a,b,n,st,tx,nu,su,gi,na,bi,se,ex,pr,ba,pt,td,fa,cu,fl⟩) P [] hx.pts rfl (by simp only at hn ⊢;omega) (by simp only at hn ⊢;omega) (by simp only at hn ⊢;omega) (by simp only at hn ⊢;omega)
 simp only at hn ht
 rw [lineK_fin (show 1≤(9:Int)∧(9:Int)≤11 by omega)]
 have hnk:=nameR_at (show 1≤(9:Int)∧(9:Int)≤11 by omega)
 have b0:=@qCz 9
 obtain ⟨p0,hp0⟩:∃ p,p=((qAx 9,true):List UInt8×Bool):=⟨_,rfl⟩
 have b0:p0.1.length≤10:=by rw [hp0];exact b0
 obtain ⟨p1,hp1⟩:∃ p,p=lnF p0 (.num a):=⟨_,rfl⟩
 have b1:p1.1.length≤211310:=by
  have:=lnF_len (p:=p0) (f:=.num a) (trivial)
  rw [hp1];omega
 have m1:Spec Tryz.prog 35 [.ptr 0 0,.I a] [.row (lnO p0)] (fun r h'=>r=.tup []∧h'=[.row (lnO p1)]):=by rw [hp1];exact numLR_spec p0 _ (by omega)
 obtain ⟨p2,hp2⟩:∃ p,p=lnF p1 (.txt tx):=⟨_,rfl⟩
 have b2:p2.1.length≤422610:=by
  have:=lnF_len (p:=p1) (f:=.txt tx) (show tx.length≤12000 by omega)
  rw [hp2];omega
 have m2:Spec Tryz.prog 36 [.ptr 0 0,.d (.str tx)] [.row (lnO p1)] (fun r h'=>r=.tup []∧h'=[.row (lnO p2)]):=by rw [hp2];exact textLR_spec p1 _ (by omega) (by omega)
 have hl:qGw ⟨9,a,b,n,st,tx,nu,su,gi,na,bi,se,ex,pr,ba,pt,td,fa,cu,fl⟩=p2:=by rw [hp2,hp1,hp0];rfl
 rw [hl]
 have hp0':p0=(p0.1,true):=by rw [hp0]
 have hnk:(qAg ([]::qBt))[(9:Int).toNat]?=some [.str p0.1]:=by rw [hp0];exact hnk
 clear hl hp2 hp1 hp0 hn ht hx b0 b1 b2
 generalize decide (⟨9,a,b,n,st,tx,nu,su,gi,na,bi,se,ex,pr,ba,pt,td,fa,cu,fl⟩=qBq ⟨9,a,b,n,st,tx,nu,su,gi,na,bi,se,ex,pr,ba,pt,td,fa,cu,fl⟩)=sb at hS ⊢
 generalize qBq ⟨9,a,b,n,st,tx,nu,su,gi,na,bi,se,ex,pr,ba,pt,td,fa,cu,fl⟩=y at hK hS
 obtain ⟨k',a',b',n',st',tx',nu',su',gi',na',bi',se',ex',pr',ba',pt',td',fa',cu',fl'⟩:=y
 unfold qBn at *
 simp only at *
 refine qAb hT Tryz.func18 rfl rfl rfl rfl ?_;intro E hE
 refine qAq ?_
 refine qAf (qAc ?_)
 refine wws ?_
 refine ww ?_
 refine wwgc namesR_spec ?_
 refine wg hT rfl rfl rfl rfl rfl ?_
 refine wg hT rfl rfl rfl rfl rfl ?_
 refine wd hT rfl rfl rfl ?_
 refine wd hT rfl rfl rfl ?_
 refine qCa (v:=.agg [.I 9,.I a,.I b,.I n,.d (.str st),.d (.str tx),.d (.str nu),.d (.str su),.d (.str gi),.d (.str na),.d (.str bi),.d (.str se),.I ex,.d (.sl 1 (qAl pr)),.d (.bool ba),.d (.sl 5 P),.I td,.d (.sl 1 (qAl fa)),.d (.sl 1 (qAl cu)),.d (.sl 3 (qAr fl))]) rfl rfl rfl rfl (fun hg=>⟨(sg (C:=True) hg).1,qAo (i:=1) (off:=0) hT rfl rfl rfl (qDa rfl)⟩) ?_
 refine qCa (v:=.agg [.I 9,.I a,.I b,.I n,.d (.str st),.d (.str tx),.d (.str nu),.d (.str su),.d (.str gi),.d (.str na),.d (.str bi),.d (.str se),.I ex,.d (.sl 1 (qAl pr)),.d (.bool ba),.d (.sl 5 P),.I td,.d (.sl 1 (qAl fa)),.d (.sl 1 (qAl cu)),.d (.sl 3 (qAr fl))]) rfl rfl rfl rfl (fun hg=>⟨(sg (C:=True) hg).1,qAo (i:=1) (off:=0) hT rfl rfl rfl (qDa rfl)⟩) ?_
 refine wwgc hK ?_
 refine wwgc hS ?_
 refine ww ?_
 cases sb with
 | false =>
  refine qAa rfl (fun q=>?_) (fun q=>absurd q (by decide))
  refine ww ?_
  exact wwr
 | true =>
  refine qAa rfl (fun q=>absurd q (by decide)) (fun q=>?_)
  clear hK hS q
  refine wwn ?_
  refine qAv (fun i=>bif Nat.beq i 2 then [1] else bif Nat.beq i 6 then [0] else []) (fun i=>bif Nat.beq i 6 then [0] else []) mixed (by kernel_rfl) ?_
  refine wwdc namesR_spec ?_
  refine wwg ?_
  refine qAm (os:=[]) (fun k hk hr=>qAe (indexAddr_ok hT rfl rfl rfl rfl (by omega) hnk)) rfl ?_
  refine wwg ?_
  refine qAm (os:=[.row (lnO (p0.1,true))]) (v:=.ptr 0 0) (fun k hk hr=>boxAt_ok (i0:=0) (cs:=lnO (p0.1,true)) rfl rfl ((hr 0 (List.mem_singleton.2 rfl)).trans rfl)) rfl ?_
  rw [← hp0']
  refine wwg ?_
  refine qAf (qAc ?_)
  refine wws ?_
  refine qAi (l:=[(1,.ptr 1 0),(3,.ptr 0 0),(4,.ptr 2 0)]) (h':=[.row (lnO p0),.row [.I 9,.I a,.I b,.I n,.d (.str st),.d (.str tx),.d (.str nu),.d (.str su),.d (.str gi),.d (.str na),.d (.str bi),.d (.str se),.I ex,.d (.sl 1 (qAl pr)),.d (.bool ba),.d (.sl 5 P),.I td,.d (.sl 1 (qAl fa)),.d (.sl 1 (qAl cu)),.d (.sl 3 (qAr fl))],.row [.d (.str nu),.d (.str su),.d (.str gi),.d (.str na),.d (.str bi),.d (.str se),.I ex,.d (.sl 1 (qAl pr)),.d (.bool ba),.d (.sl 5 P),.I td,.d (.sl 1 (qAl fa))]]) yf (HLe.refl _) ?_
  refine wwn ?_
  refine qAa rfl (fun q=>absurd q (by decide)) (fun q=>?_)
  refine wwn ?_
  refine qAa rfl (fun q=>absurd q (by decide)) (fun q=>?_)
  refine wwn ?_
  refine qAa rfl (fun q=>absurd q (by decide)) (fun q=>?_)
  refine wwn ?_
  refine qAa rfl (fun q=>absurd q (by decide)) (fun q=>?_)
  refine wwn ?_
  refine qAa rfl (fun q=>absurd q (by decide)) (fun q=>?_)
  refine wwn ?_
  refine qAa rfl (fun q=>?_) (fun q=>absurd q (by decide))
  refine wwn ?_
  refine qAd (qAk (H':=[.row (lnO p1),.row [.I 9,.I a,.I b,.I n,.d (.str st),.d (.str tx),.d (.str nu),.d (.str su),.d (.str gi),.d (.str na),.d (.str bi),.d (.str se),.I ex,.d (.sl 1 (qAl pr)),.d (.bool ba),.d (.sl 5 P),.I td,.d (.sl 1 (qAl fa)),.d (.sl 1 (qAl cu)),.d (.sl 3 (qAr fl))],.row [.d (.str nu),.d (.str su),.d (.str gi),.d (.str na),.d (.str bi),.d (.str se),.I ex,.d (.sl 1 (qAl pr)),.d (.bool ba),.d (.sl 5 P),.I td,.d (.sl 1 (qAl fa))]]) rfl rfl m1 [0] (by decide) rfl rfl rfl rfl rfl rfl rfl) rfl ?_
  refine wwn ?_
  refine qAd (qAk (H':=[.row (lnO p2),.row [.I 9,.I a,.I b,.I n,.d (.str st),.d (.str tx),.d (.str nu),.d (.str su),.d (.str gi),.d (.str na),.d (.str bi),.d (.str se),.I ex,.d (.sl 1 (qAl pr)),.d (.bool ba),.d (.sl 5 P),.I td,.d (.sl 1 (qAl fa)),.d (.sl 1 (qAl cu)),.d (.sl 3 (qAr fl))],.row [.d (.str nu),.d (.str su),.d (.str gi),.d (.str na),.d (.str bi),.d (.str se),.I ex,.d (.sl 1 (qAl pr)),.d (.bool ba),.d (.sl 5 P),.I td,.d (.sl 1 (qAl fa))]]) rfl rfl m2 [0] (by decide) rfl rfl rfl rfl rfl rfl rfl) rfl ?_
  refine wwn ?_
  refine qAa rfl (fun q=>absurd q (by decide)) (fun q=>?_)
  refine wwn ?_
  refine qAa rfl (fun q=>absurd q (by decide)) (fun q=>?_)
  refine wwn ?_
  obtain ⟨z,ok⟩:=p2
  unfold lnO
  refine ww ?_
  cases ok with
  | false =>
   refine qAa rfl (fun q=>?_) (fun q=>absurd q (by simp))
   refine ww ?_
   exact wwr
  | true =>
   refine qAa rfl (fun q=>absurd q (by simp)) (fun q=>?_)
   refine ww ?_
   exact wwr
theorem qRb (a b n:Int) (st tx nu su gi na bi se:List UInt8) (ex:Int) (pr:List Int) (ba:Bool) (pt:Nat) (td:Int) (fa cu:List Int) (fl:List Flp) (P:List (List Dat)) (hx:ActLen ⟨10,a,b,n,st,tx,nu,su,gi,na,bi,se,ex,pr,ba,pt,td,fa,cu,fl⟩ P):Spec Tryz.prog 18 [.agg (qBn ⟨10,a,b,n,st,tx,nu,su,gi,na,bi,se,ex,pr,ba,pt,td,fa,cu,fl⟩ P)] [] (fun r h'=>r=.d (.str (lineK ⟨10,a,b,n,st,tx,nu,su,gi,na,bi,se,ex,pr,ba,pt,td,fa,cu,fl⟩))∧h'=[]):=by
 have hK:=keepR10_spec a b n st tx nu su gi na bi se ex pr ba pt td fa cu fl P
 have hn:=hx.nums
 have ht:=hx.txts
 have hS:=qCe ⟨10,a,b,n,st,tx,nu,su,gi,na,bi,se,ex,pr,ba,pt,td,fa,cu,fl⟩ (qBq ⟨10,a,b,n,st,tx,nu,su,gi,na,bi,se,ex,pr,ba,pt,td,fa,cu,fl⟩) P [] hx.pts rfl (by simp only at hn ⊢;omega) (by simp only at hn ⊢;omega) (by simp only at hn ⊢;omega) (by simp only at hn ⊢;omega)
 simp only at hn ht
 rw [lineK_fin (show 1≤(10:Int)∧(10:Int)≤11 by omega)]
 have hnk:=nameR_at (show 1≤(10:Int)∧(10:Int)≤11 by omega)
 have b0:=@qCz 10
 obtain ⟨p0,hp0⟩:∃ p,p=((qAx 10,true):List UInt8×Bool):=⟨_,rfl⟩
 have b0:p0.1.length≤10:=by rw [hp0];exact b0
 obtain ⟨p1,hp1⟩:∃ p,p=lnF p0 (.num a):=⟨_,rfl⟩
 have b1:p1.1.length≤211310:=by
  have:=lnF_len (p:=p0) (f:=.num a) (trivial)
  rw [hp1];omega
 have m1:Spec Tryz.prog 35 [.ptr 0 0,.I a] [.row (lnO p0)] (fun r h'=>r=.tup []∧h'=[.row (lnO p1)]):=by rw [hp1];exact numLR_spec p0 _ (by omega)
 obtain ⟨p2,hp2⟩:∃ p,p=lnF p1 (.num b):=⟨_,rfl⟩
 have b2:p2.1.length≤422610:=by
  have:=lnF_len (p:=p1) (f:=.num b) (trivial)
  rw [hp2];omega
 have m2:Spec Tryz.prog 35 [.ptr 0 0,.I b] [.row (lnO p1)] (fun r h'=>r=.tup []∧h'=[.row (lnO p2)]):=by rw [hp2];exact numLR_spec p1 _ (by omega)
 obtain ⟨p3,hp3⟩:∃ p,p=lnF p2 (.nums cu):=⟨_,rfl⟩
 have b3:p3.1.length≤633910:=by
  have:=lnF_len (p:=p2) (f:=.nums cu) (show cu.length≤3200 by omega)
  rw [hp3];omega
 have m3:Spec Tryz.prog 40 [.ptr 0 0,.d (.sl 1 (qAl cu))] [.row (lnO p2)] (fun r h'=>r=.tup []∧h'=[.row (lnO p3)]):=by rw [hp3];exact numsLR_spec p2 _ (by omega) (by omega)
 obtain ⟨p4,hp4⟩:∃ p,p=lnF p3 (.flps fl):=⟨_,rfl⟩
 have b4:p4.1.length≤845210:=by
  have:=lnF_len (p:=p3) (f:=.flps fl) (show fl.length≤3200 by omega)
  rw [hp4];omega
 have q4:=flipsR_spec fl (by omega)
 have m4:Spec Tryz.prog 37 [.ptr 0 0,.d (.str (qOx fl).1),.d (.bool (qOx fl).2)] [.row (lnO p3)] (fun r h'=>r=.tup []∧h'=[.row (lnO p4)]):=by rw [hp4];exact addR_spec p3 _ _ (by omega) (by have:=flsR_len fl (by omega);omega)
 have hl:qGw ⟨10,a,b,n,st,tx,nu,su,gi,na,bi,se,ex,pr,ba,pt,td,fa,cu,fl⟩=p4:=by rw [hp4,hp3,hp2,hp1,hp0];rfl
 rw [hl]
 have hp0':p0=(p0.1,true):=by rw [hp0]
 have hnk:(qAg ([]::qBt))[(10:Int).toNat]?=some [.str p0.1]:=by rw [hp0];exact hnk
 clear hl hp4 hp3 hp2 hp1 hp0 hn ht hx b0 b1 b2 b3 b4
 generalize decide (⟨10,a,b,n,st,tx,nu,su,gi,na,bi,se,ex,pr,ba,pt,td,fa,cu,fl⟩=qBq ⟨10,a,b,n,st,tx,nu,su,gi,na,bi,se,ex,pr,ba,pt,td,fa,cu,fl⟩)=sb at hS ⊢
 generalize qBq ⟨10,a,b,n,st,tx,nu,su,gi,na,bi,se,ex,pr,ba,pt,td,fa,cu,fl⟩=y at hK hS
 obtain ⟨k',a',b',n',st',tx',nu',su',gi',na',bi',se',ex',pr',ba',pt',td',fa',cu',fl'⟩:=y
 unfold qBn at *
 simp only at *
 generalize qOx fl=fr at *
 obtain ⟨fr1,fr2⟩:=fr
 simp only at *
 refine qAb hT Tryz.func18 rfl rfl rfl rfl ?_;intro E hE
 refine qAq ?_
 refine qAf (qAc ?_)
 refine wws ?_
 refine ww ?_
 refine wwgc namesR_spec ?_
 refine wg hT rfl rfl rfl rfl rfl ?_
 refine wg hT rfl rfl rfl rfl rfl ?_
 refine wd hT rfl rfl rfl ?_
 refine wd hT rfl rfl rfl ?_
 refine qCa (v:=.agg [.I 10,.I a,.I b,.I n,.d (.str st),.d (.str tx),.d (.str nu),.d (.str su),.d (.str gi),.d (.str na),.d (.str bi),.d (.str se),.I ex,.d (.sl 1 (qAl pr)),.d (.bool ba),.d (.sl 5 P),.I td,.d (.sl 1 (qAl fa)),.d (.sl 1 (qAl cu)),.d (.sl 3 (qAr fl))]) rfl rfl rfl rfl (fun hg=>⟨(sg (C:=True) hg).1,qAo (i:=1) (off:=0) hT rfl rfl rfl (qDa rfl)⟩) ?_
 refine qCa (v:=.agg [.I 10,.I a,.I b,.I n,.d (.str st),.d (.str tx),.d (.str nu),.d (.str su),.d (.str gi),.d (.str na),.d (.str bi),.d (.str se),.I ex,.d (.sl 1 (qAl pr)),.d (.bool ba),.d (.sl 5 P),.I td,.d (.sl 1 (qAl fa)),.d (.sl 1 (qAl cu)),.d (.sl 3 (qAr fl))]) rfl rfl rfl rfl (fun hg=>⟨(sg (C:=True) hg).1,qAo (i:=1) (off:=0) hT rfl rfl rfl (qDa rfl)⟩) ?_
 refine wwgc hK ?_
 refine wwgc hS ?_
 refine ww ?_
 cases sb with
 | false =>
  refine qAa rfl (fun q=>?_) (fun q=>absurd q (by decide))
  refine ww ?_
  exact wwr
 | true =>
  refine qAa rfl (fun q=>absurd q (by decide)) (fun q=>?_)
  clear hK hS q
  refine wwn ?_
  refine qAv (fun i=>bif Nat.beq i 2 then [1] else bif Nat.beq i 6 then [0] else []) (fun i=>bif Nat.beq i 6 then [0] else []) mixed (by kernel_rfl) ?_
  refine wwdc namesR_spec ?_
  refine wwg ?_
  refine qAm (os:=[]) (fun k hk hr=>qAe (indexAddr_ok hT rfl rfl rfl rfl (by omega) hnk)) rfl ?_
  refine wwg ?_
  refine qAm (os:=[.row (lnO (p0.1,true))]) (v:=.ptr 0 0) (fun k hk hr=>boxAt_ok (i0:=0) (cs:=lnO (p0.1,true)) rfl rfl ((hr 0 (List.mem_singleton.2 rfl)).trans rfl)) rfl ?_
  rw [← hp0']
  refine wwg ?_
  refine qAf (qAc ?_)
  refine wws ?_
  refine qAi (l:=[(1,.ptr 1 0),(3,.ptr 0 0),(4,.ptr 2 0)]) (h':=[.row (lnO p0),.row [.I 10,.I a,.I b,.I n,.d (.str st),.d (.str tx),.d (.str nu),.d (.str su),.d (.str gi),.d (.str na),.d (.str bi),.d (.str se),.I ex,.d (.sl 1 (qAl pr)),.d (.bool ba),.d (.sl 5 P),.I td,.d (.sl 1 (qAl fa)),.d (.sl 1 (qAl cu)),.d (.sl 3 (qAr fl))],.row [.d (.str nu),.d (.str su),.d (.str gi),.d (.str na),.d (.str bi),.d (.str se),.I ex,.d (.sl 1 (qAl pr)),.d (.bool ba),.d (.sl 5 P),.I td,.d (.sl 1 (qAl fa))]]) yf (HLe.refl _) ?_
  refine wwn ?_
  refine qAa rfl (fun q=>absurd q (by decide)) (fun q=>?_)
  refine wwn ?_
  refine qAa rfl (fun q=>absurd q (by decide)) (fun q=>?_)
  refine wwn ?_
  refine qAa rfl (fun q=>absurd q (by decide)) (fun q=>?_)
  refine wwn ?_
  refine qAa rfl (fun q=>absurd q (by decide)) (fun q=>?_)
  refine wwn ?_
  refine qAa rfl (fun q=>absurd q (by decide)) (fun q=>?_)
  refine wwn ?_
  refine qAa rfl (fun q=>absurd q (by decide)) (fun q=>?_)
  refine wwn ?_
  refine qAd (qAk (H':=[.row (lnO p1),.row [.I 10,.I a,.I b,.I n,.d (.str st),.d (.str tx),.d (.str nu),.d (.str su),.d (.str gi),.d (.str na),.d (.str bi),.d (.str se),.I ex,.d (.sl 1 (qAl pr)),.d (.bool ba),.d (.sl 5 P),.I td,.d (.sl 1 (qAl fa)),.d (.sl 1 (qAl cu)),.d (.sl 3 (qAr fl))],.row [.d (.str nu),.d (.str su),.d (.str gi),.d (.str na),.d (.str bi),.d (.str se),.I ex,.d (.sl 1 (qAl pr)),.d (.bool ba),.d (.sl 5 P),.I td,.d (.sl 1 (qAl fa))]]) rfl rfl m1 [0] (by decide) rfl rfl rfl rfl rfl rfl rfl) rfl ?_
  refine wwn ?_
  refine qAd (qAk (H':=[.row (lnO p2),.row [.I 10,.I a,.I b,.I n,.d (.str st),.d (.str tx),.d (.str nu),.d (.str su),.d (.str gi),.d (.str na),.d (.str bi),.d (.str se),.I ex,.d (.sl 1 (qAl pr)),.d (.bool ba),.d (.sl 5 P),.I td,.d (.sl 1 (qAl fa)),.d (.sl 1 (qAl cu)),.d (.sl 3 (qAr fl))],.row [.d (.str nu),.d (.str su),.d (.str gi),.d (.str na),.d (.str bi),.d (.str se),.I ex,.d (.sl 1 (qAl pr)),.d (.bool ba),.d (.sl 5 P),.I td,.d (.sl 1 (qAl fa))]]) rfl rfl m2 [0] (by decide) rfl rfl rfl rfl rfl rfl rfl) rfl ?_
  refine wwn ?_
  refine qAa rfl (fun q=>absurd q (by decide)) (fun q=>?_)
  refine wwn ?_
  refine qAa rfl (fun q=>?_) (fun q=>absurd q (by decide))
  refine wwn ?_
  refine qAd (qAk (H':=[.row (lnO p3),.row [.I 10,.I a,.I b,.I n,.d (.str st),.d (.str tx),.d (.str nu),.d (.str su),.d (.str gi),.d (.str na),.d (.str bi),.d (.str se),.I ex,.d (.sl 1 (qAl pr)),.d (.bool ba),.d (.sl 5 P),.I td,.d (.sl 1 (qAl fa)),.d (.sl 1 (qAl cu)),.d (.sl 3 (qAr fl))],.row [.d (.str nu),.d (.str su),.d (.str gi),.d (.str na),.d (.str bi),.d (.str se),.I ex,.d (.sl 1 (qAl pr)),.d (.bool ba),.d (.sl 5 P),.I td,.d (.sl 1 (qAl fa))]]) rfl rfl m3 [0] (by decide) rfl rfl rfl rfl rfl rfl rfl) rfl ?_
  refine wwn ?_
  refine wwc q4 ?_
  refine wwn ?_
  refine qAd (qAk (H':=[.row (lnO p4),.row [.I 10,.I a,.I b,.I n,.d (.str st),.d (.str tx),.d (.str nu),.d (.str su),.d (.str gi),.d (.str na),.d (.str bi),.d (.str se),.I ex,.d (.sl 1 (qAl pr)),.d (.bool ba),.d (.sl 5 P),.I td,.d (.sl 1 (qAl fa)),.d (.sl 1 (qAl cu)),.d (.sl 3 (qAr fl))],.row [.d (.str nu),.d (.str su),.d (.str gi),.d (.str na),.d (.str bi),.d (.str se),.I ex,.d (.sl 1 (qAl pr)),.d (.bool ba),.d (.sl 5 P),.I td,.d (.sl 1 (qAl fa))]]) rfl rfl m4 [0] (by decide) rfl rfl rfl rfl rfl rfl rfl) rfl ?_
  refine wwn ?_
  obtain ⟨z,ok⟩:=p4
  unfold lnO
  refine ww ?_
  cases ok with
  | false =>
   refine qAa rfl (fun q=>?_) (fun q=>absurd q (by simp))
   refine ww ?_
   exact wwr
  | true =>
   refine qAa rfl (fun q=>absurd q (by simp)) (fun q=>?_)
   refine ww ?_
   exact wwr
theorem qRa (a b n:Int) (st tx nu su gi na bi se:List UInt8) (ex:Int) (pr:List Int) (ba:Bool) (pt:Nat) (td:Int) (fa cu:List Int) (fl:List Flp) (P:List (List Dat)) (hx:ActLen ⟨11,a,b,n,st,tx,nu,su,gi,na,bi,se,ex,pr,ba,pt,td,fa,cu,fl⟩ P):Spec Tryz.prog 18 [.agg (qBn ⟨11,a,b,n,st,tx,nu,su,gi,na,bi,se,ex,pr,ba,pt,td,fa,cu,fl⟩ P)] [] (fun r h'=>r=.d (.str (lineK ⟨11,a,b,n,st,tx,nu,su,gi,na,bi,se,ex,pr,ba,pt,td,fa,cu,fl⟩))∧h'=[]):=by
 have hK:=keepR11_spec a b n st tx nu su gi na bi se ex pr ba pt td fa cu fl P
 have hn:=hx.nums
 have ht:=hx.txts
 have hS:=qCe ⟨11,a,b,n,st,tx,nu,su,gi,na,bi,se,ex,pr,ba,pt,td,fa,cu,fl⟩ (qBq ⟨11,a,b,n,st,tx,nu,su,gi,na,bi,se,ex,pr,ba,pt,td,fa,cu,fl⟩) P [] hx.pts rfl (by simp only at hn ⊢;omega) (by simp only at hn ⊢;omega) (by simp only at hn ⊢;omega) (by simp only at hn ⊢;omega)
 simp only at hn ht
 rw [lineK_fin (show 1≤(11:Int)∧(11:Int)≤11 by omega)]
 have hnk:=nameR_at (show 1≤(11:Int)∧(11:Int)≤11 by omega)
 have b0:=@qCz 11
 obtain ⟨p0,hp0⟩:∃ p,p=((qAx 11,true):List UInt8×Bool):=⟨_,rfl⟩
 have b0:p0.1.length≤10:=by rw [hp0];exact b0
 obtain ⟨p1,hp1⟩:∃ p,p=lnF p0 (.txt st):=⟨_,rfl⟩
 have b1:p1.1.length≤211310:=by
  have:=lnF_len (p:=p0) (f:=.txt st) (show st.length≤12000 by omega)
  rw [hp1];omega
 have m1:Spec Tryz.prog 36 [.ptr 0 0,.d (.str st)] [.row (lnO p0)] (fun r h'=>r=.tup []∧h'=[.row (lnO p1)]):=by rw [hp1];exact textLR_spec p0 _ (by omega) (by omega)
 obtain ⟨p2,hp2⟩:∃ p,p=lnF p1 (.rst tx):=⟨_,rfl⟩
 have b2:p2.1.length≤422610:=by
  have:=lnF_len (p:=p1) (f:=.rst tx) (show tx.length≤12000 by omega)
  rw [hp2];omega
 have q2:=plainR_spec tx (by omega)
 have m2:Spec Tryz.prog 37 [.ptr 0 0,.d (.str tx),.d (.bool (vBc tx))] [.row (lnO p1)] (fun r h'=>r=.tup []∧h'=[.row (lnO p2)]):=by rw [hp2];exact addR_spec p1 _ _ (by omega) (by omega)
 have hl:qGw ⟨11,a,b,n,st,tx,nu,su,gi,na,bi,se,ex,pr,ba,pt,td,fa,cu,fl⟩=p2:=by rw [hp2,hp1,hp0];rfl
 rw [hl]
 have hp0':p0=(p0.1,true):=by rw [hp0]
 have hnk:(qAg ([]::qBt))[(11:Int).toNat]?=some [.str p0.1]:=by rw [hp0];exact hnk
 clear hl hp2 hp1 hp0 hn ht hx b0 b1 b2
 generalize decide (⟨11,a,b,n,st,tx,nu,su,gi,na,bi,se,ex,pr,ba,pt,td,fa,cu,fl⟩=qBq ⟨11,a,b,n,st,tx,nu,su,gi,na,bi,se,ex,pr,ba,pt,td,fa,cu,fl⟩)=sb at hS ⊢
 generalize qBq ⟨11,a,b,n,st,tx,nu,su,gi,na,bi,se,ex,pr,ba,pt,td,fa,cu,fl⟩=y at hK hS
 obtain ⟨k',a',b',n',st',tx',nu',su',gi',na',bi',se',ex',pr',ba',pt',td',fa',cu',fl'⟩:=y
 unfold qBn at *
 simp only at *
 generalize vBc tx=rb at *
 refine qAb hT Tryz.func18 rfl rfl rfl rfl ?_;intro E hE
 refine qAq ?_
 refine qAf (qAc ?_)
 refine wws ?_
 refine ww ?_
 refine wwgc namesR_spec ?_
 refine wg hT rfl rfl rfl rfl rfl ?_
 refine wg hT rfl rfl rfl rfl rfl ?_
 refine wd hT rfl rfl rfl ?_
 refine wd hT rfl rfl rfl ?_
 refine qCa (v:=.agg [.I 11,.I a,.I b,.I n,.d (.str st),.d (.str tx),.d (.str nu),.d (.str su),.d (.str gi),.d (.str na),.d (.str bi),.d (.str se),.I ex,.d (.sl 1 (qAl pr)),.d (.bool ba),.d (.sl 5 P),.I td,.d (.sl 1 (qAl fa)),.d (.sl 1 (qAl cu)),.d (.sl 3 (qAr fl))]) rfl rfl rfl rfl (fun hg=>⟨(sg (C:=True) hg).1,qAo (i:=1) (off:=0) hT rfl rfl rfl (qDa rfl)⟩) ?_
 refine qCa (v:=.agg [.I 11,.I a,.I b,.I n,.d (.str st),.d (.str tx),.d (.str nu),.d (.str su),.d (.str gi),.d (.str na),.d (.str bi),.d (.str se),.I ex,.d (.sl 1 (qAl pr)),.d (.bool ba),.d (.sl 5 P),.I td,.d (.sl 1 (qAl fa)),.d (.sl 1 (qAl cu)),.d (.sl 3 (qAr fl))]) rfl rfl rfl rfl (fun hg=>⟨(sg (C:=True) hg).1,qAo (i:=1) (off:=0) hT rfl rfl rfl (qDa rfl)⟩) ?_
 refine wwgc hK ?_
 refine wwgc hS ?_
 refine ww ?_
 cases sb with
 | false =>
  refine qAa rfl (fun q=>?_) (fun q=>absurd q (by decide))
  refine ww ?_
  exact wwr
 | true =>
  refine qAa rfl (fun q=>absurd q (by decide)) (fun q=>?_)
  clear hK hS q
  refine wwn ?_
  refine qAv (fun i=>bif Nat.beq i 2 then [1] else bif Nat.beq i 6 then [0] else []) (fun i=>bif Nat.beq i 6 then [0] else []) mixed (by kernel_rfl) ?_
  refine wwdc namesR_spec ?_
  refine wwg ?_
  refine qAm (os:=[]) (fun k hk hr=>qAe (indexAddr_ok hT rfl rfl rfl rfl (by omega) hnk)) rfl ?_
  refine wwg ?_
  refine qAm (os:=[.row (lnO (p0.1,true))]) (v:=.ptr 0 0) (fun k hk hr=>boxAt_ok (i0:=0) (cs:=lnO (p0.1,true)) rfl rfl ((hr 0 (List.mem_singleton.2 rfl)).trans rfl)) rfl ?_
  rw [← hp0']
  refine wwg ?_
  refine qAf (qAc ?_)
  refine wws ?_
  refine qAi (l:=[(1,.ptr 1 0),(3,.ptr 0 0),(4,.ptr 2 0)]) (h':=[.row (lnO p0),.row [.I 11,.I a,.I b,.I n,.d (.str st),.d (.str tx),.d (.str nu),.d (.str su),.d (.str gi),.d (.str na),.d (.str bi),.d (.str se),.I ex,.d (.sl 1 (qAl pr)),.d (.bool ba),.d (.sl 5 P),.I td,.d (.sl 1 (qAl fa)),.d (.sl 1 (qAl cu)),.d (.sl 3 (qAr fl))],.row [.d (.str nu),.d (.str su),.d (.str gi),.d (.str na),.d (.str bi),.d (.str se),.I ex,.d (.sl 1 (qAl pr)),.d (.bool ba),.d (.sl 5 P),.I td,.d (.sl 1 (qAl fa))]]) yf (HLe.refl _) ?_
  refine wwn ?_
  refine qAa rfl (fun q=>absurd q (by decide)) (fun q=>?_)
  refine wwn ?_
  refine qAa rfl (fun q=>absurd q (by decide)) (fun q=>?_)
  refine wwn ?_
  refine qAa rfl (fun q=>?_) (fun q=>absurd q (by decide))
  refine wwn ?_
  refine qAd (qAk (H':=[.row (lnO p1),.row [.I 11,.I a,.I b,.I n,.d (.str st),.d (.str tx),.d (.str nu),.d (.str su),.d (.str gi),.d (.str na),.d (.str bi),.d (.str se),.I ex,.d (.sl 1 (qAl pr)),.d (.bool ba),.d (.sl 5 P),.I td,.d (.sl 1 (qAl fa)),.d (.sl 1 (qAl cu)),.d (.sl 3 (qAr fl))],.row [.d (.str nu),.d (.str su),.d (.str gi),.d (.str na),.d (.str bi),.d (.str se),.I ex,.d (.sl 1 (qAl pr)),.d (.bool ba),.d (.sl 5 P),.I td,.d (.sl 1 (qAl fa))]]) rfl rfl m1 [0] (by decide) rfl rfl rfl rfl rfl rfl rfl) rfl ?_
  refine wwn ?_
  refine qAv (fun i=>bif Nat.beq i 2||Nat.beq i 4 then [1] else bif Nat.beq i 6 then [0] else []) (fun i=>bif Nat.beq i 6 then [0] else []) mixed (by kernel_rfl) ?_
  refine wwg ?_
  refine wwdc q2 ?_
  refine wwg ?_
  refine qAm (os:=[.row (lnO p2)]) (v:=.tup []) (fun k hk hr=>qAk rfl rfl m2 [0] (by decide) (congrArg (fun z=>[z]) ((hr 0 (List.mem_singleton.2 rfl)).trans rfl)) rfl rfl rfl rfl rfl rfl) rfl ?_
  refine wwg ?_
  refine wwn ?_
  refine qAa rfl (fun q=>absurd q (by decide)) (fun q=>?_)
  refine wwn ?_
  refine qAa rfl (fun q=>absurd q (by decide)) (fun q=>?_)
  refine wwn ?_
  obtain ⟨z,ok⟩:=p2
  unfold lnO
  refine ww ?_
  cases ok with
  | false =>
   refine qAa rfl (fun q=>?_) (fun q=>absurd q (by simp))
   refine ww ?_
   exact wwr
  | true =>
   refine qAa rfl (fun q=>absurd q (by simp)) (fun q=>?_)
   refine ww ?_
   exact wwr
theorem qUa (k:Int) (a b n:Int) (st tx nu su gi na bi se:List UInt8) (ex:Int) (pr:List Int) (ba:Bool) (pt:Nat) (td:Int) (fa cu:List Int) (fl:List Flp) (P:List (List Dat)) (hk:¬ (1≤k∧k≤11)):Spec Tryz.prog 18 [.agg (qBn ⟨k,a,b,n,st,tx,nu,su,gi,na,bi,se,ex,pr,ba,pt,td,fa,cu,fl⟩ P)] [] (fun r h'=>r=.d (.str (lineK ⟨k,a,b,n,st,tx,nu,su,gi,na,bi,se,ex,pr,ba,pt,td,fa,cu,fl⟩))∧h'=[]):=by
 rw [lineK_no (fun hh=>hk hh.1)]
 have hb:(decide (k < 1)||decide (k≥((qAg ([]::qBt)).length:Int)))=true:=by
  rw [show (qAg ([]::qBt)).length=12 from rfl]
  simp
  omega
 unfold qBn
 simp only
 refine qAb hT Tryz.func18 rfl rfl rfl rfl ?_;intro E hE
 refine ww ?_
 refine wwgc namesR_spec ?_
 refine wg hT rfl rfl rfl rfl rfl ?_
 refine wg hT rfl rfl rfl rfl rfl ?_
 refine wd hT rfl rfl rfl ?_
 refine wd hT rfl rfl rfl ?_
 refine wwk hb ?_
 refine qAa rfl (fun q=>?_) (fun q=>absurd q (by rw [hb];simp))
 refine ww ?_
 exact wwr
theorem qCi (x:Akt) (P:List (List Dat)) (hx:ActLen x P):Spec Tryz.prog 18 [.agg (qBn x P)] [] (fun r h'=>r=.d (.str (lineK x))∧h'=[]):=by
 obtain ⟨k,a,b,n,st,tx,nu,su,gi,na,bi,se,ex,pr,ba,pt,td,fa,cu,fl⟩:=x
 by_cases hk:1≤k∧k≤11
 case neg=>exact qUa k a b n st tx nu su gi na bi se ex pr ba pt td fa cu fl P hk
 rcases (by omega:k=1∨k=2∨k=3∨k=4∨k=5∨k=6∨k=7∨k=8∨k=9∨k=10∨k=11) with rfl | rfl | rfl | rfl | rfl | rfl | rfl | rfl | rfl | rfl | rfl
 ·exact qUj a b n st tx nu su gi na bi se ex pr ba pt td fa cu fl P hx
 ·exact qUi a b n st tx nu su gi na bi se ex pr ba pt td fa cu fl P hx
 ·exact qUh a b n st tx nu su gi na bi se ex pr ba pt td fa cu fl P hx
 ·exact qUg a b n st tx nu su gi na bi se ex pr ba pt td fa cu fl P hx
 ·exact qUf a b n st tx nu su gi na bi se ex pr ba pt td fa cu fl P hx
 ·exact qUe a b n st tx nu su gi na bi se ex pr ba pt td fa cu fl P hx
 ·exact qUd a b n st tx nu su gi na bi se ex pr ba pt td fa cu fl P hx
 ·exact qUc a b n st tx nu su gi na bi se ex pr ba pt td fa cu fl P hx
 ·exact qUb a b n st tx nu su gi na bi se ex pr ba pt td fa cu fl P hx
 ·exact qRb a b n st tx nu su gi na bi se ex pr ba pt td fa cu fl P hx
 ·exact qRa a b n st tx nu su gi na bi se ex pr ba pt td fa cu fl P hx
noncomputable def readO (s:List UInt8):Akt×Int:=if s≠[]∧lineK (qDk s)=s then (qDk s,0) else (akt0,77)
theorem qEu (s:Shp) (ss:List Shp) (L:List (List UInt8)) (j:Nat):qJh (s::ss) (L.drop j)=rdR s (L.getD j [])::qJh ss (L.drop (j+1)):=by
 rw [qJh,List.headD_eq_head?_getD,List.head?_drop,List.getD_eq_getElem?_getD,List.drop_drop]
theorem vFa {w:List UInt8} {k:Int} (hk:qBh w=k) (h:1≤k∧k≤11):w=qAx k:=by
 subst hk
 by_cases h1:w=qAx 1
 ·rw [h1];decide
 by_cases h2:w=qAx 2
 ·rw [h2];decide
 by_cases h3:w=qAx 3
 ·rw [h3];decide
 by_cases h4:w=qAx 4
 ·rw [h4];decide
 by_cases h5:w=qAx 5
 ·rw [h5];decide
 by_cases h6:w=qAx 6
 ·rw [h6];decide
 by_cases h7:w=qAx 7
 ·rw [h7];decide
 by_cases h8:w=qAx 8
 ·rw [h8];decide
 by_cases h9:w=qAx 9
 ·rw [h9];decide
 by_cases h10:w=qAx 10
 ·rw [h10];decide
 by_cases h11:w=qAx 11
 ·rw [h11];decide
 have hk:qBh w=0:=by unfold qBh;rw [if_neg h1,if_neg h2,if_neg h3,if_neg h4,if_neg h5,if_neg h6,if_neg h7,if_neg h8,if_neg h9,if_neg h10,if_neg h11]
 omega
theorem qCl {w:List UInt8} {k:Int} (hk:qBh w=k) {i:Int} (hi:1≤i∧i≤11):qAx i=w↔i=k:=by
 constructor
 ·intro h
  rw [← hk,← h,qIb hi]
 ·intro h
  subst h
  exact (vFa hk hi).symm
theorem readF_kind {s:List UInt8} {k:Int} (hk:qBh ((spl 32 s).getD 0 [])=k) (h0:k≠0) (h11:k≠11):qDk s=qNl k (qJh (qBy k) ((spl 32 s).drop 1)):=by
 unfold qDk
 cases hv:spl 32 s with
 | nil=>exact absurd hv (qEy _ _)
 | cons w ws =>
  rw [hv] at hk
  simp only [List.getD_cons_zero] at hk
  simp only [hk]
  rw [if_neg h0,if_neg h11]
  rfl
theorem readF_0 {s:List UInt8} (hk:qBh ((spl 32 s).getD 0 [])=0):qDk s=akt0:=by
 unfold qDk
 cases hv:spl 32 s with
 | nil=>exact absurd hv (qEy _ _)
 | cons w ws =>
  rw [hv] at hk
  simp only [List.getD_cons_zero] at hk
  simp only [hk]
  rfl
theorem readF_11 {s:List UInt8} (hk:qBh ((spl 32 s).getD 0 [])=11):qDk s={ akt0 with kind:=11,state:=qBa ((spl 32 s).getD 1 []),text:=joi 32 ((spl 32 s).drop 2) }:=by
 unfold qDk
 cases hv:spl 32 s with
 | nil=>exact absurd hv (qEy _ _)
 | cons w ws =>
  rw [hv] at hk
  simp only [List.getD_cons_zero] at hk
  simp only [hk]
  rw [if_neg (by decide),if_pos trivial]
  match ws with
  | []=>rfl
  | [v]=>rfl
  | v::u::l=>rfl
theorem readO_0 {s:List UInt8} (hk:qBh ((spl 32 s).getD 0 [])=0):readO s=(akt0,77):=by
 unfold readO
 rw [readF_0 hk,lineK_no (x:=akt0) (fun h=>by have:=h.1.1;simp [akt0] at this),if_neg (fun h=>h.1 h.2.symm)]
theorem readO_k {s:List UInt8} {k:Int} (hk:qBh ((spl 32 s).getD 0 [])=k) (h0:k≠0) {x:Akt} (hx:qDk s=x):readO s=if lineK x=s then (x,0) else (akt0,77):=by
 have hs:s≠[]:=fun hh=>by
  subst hh
  exact h0 hk.symm
 unfold readO
 rw [hx]
 by_cases h:lineK x=s
 ·rw [if_pos ⟨hs,h⟩,if_pos h]
 ·rw [if_neg (fun hh=>h hh.2),if_neg h]
theorem qCy (s:List UInt8) (j:Nat):((spl 32 s).getD j []).length≤s.length:=by
 rw [List.getD_eq_getElem?_getD]
 cases hv:(spl 32 s)[j]? with
 | none=>simp
 | some w=>exact qBs s w (List.mem_of_getElem? hv)
theorem qEf (w:List UInt8):(qBk w).length≤w.length+1:=by
 unfold qBk
 split
 ·simp
 ·rw [qCt]
  have:=List.count_le_length (a:=(44:UInt8)) (l:=w)
  omega
theorem qCo (w:List UInt8):(qBa w).length≤w.length:=by
 unfold qBa
 split
 ·simp
 ·simp
theorem vCn (c:UInt8) (l:List (List UInt8)) {i:Nat} (h:i < l.length):joi c (l.take (i+1))=qOw c i (joi c (l.take i))++l[i]:=by
 have:=qSq c (fun w:List UInt8=>w) l h
 rwa [show (fun w:List UInt8=>w)=id from rfl,List.map_id,List.map_id] at this
theorem vCm (c:UInt8) (w:List UInt8) (l:List (List UInt8)):(joi c l).length≤(joi c (w::l)).length:=by
 cases l with
 | nil=>simp [joi]
 | cons v l =>
  show _≤(w++c::joi c (v::l)).length
  rw [List.length_append,List.length_cons]
  omega
theorem qVr (c:UInt8):∀ (j:Nat) (l:List (List UInt8)),(joi c (l.drop j)).length≤(joi c l).length
 | 0,l=>Nat.le_refl _
 | j+1,[]=>Nat.le_refl _
 | j+1,w::l=>Nat.le_trans (qVr c j l) (vCm c w l)
theorem qPo {s:List UInt8} (hs:s.length≤1500):(joi 32 ((spl 32 s).drop 2)).length≤1500:=by
 have:=qVr 32 2 (spl 32 s)
 rw [qGe] at this
 omega
theorem actZ_le (k:Int):AllLe (qJm k) (qBn { akt0 with kind:=k } []):=by
 have:=qLn (qJm k)
 rwa [actZ_demote] at this
abbrev cAct (k a b n:Int) (st tx nu su gi na bi se:List UInt8) (ex:Int) (pr:List (List Dat)) (ba:Bool) (fa cu fl:List (List Dat)):List AV :=
 [.I k,.I a,.I b,.I n,.d (.str st),.d (.str tx),.d (.str nu),.d (.str su),.d (.str gi),.d (.str na),.d (.str bi),.d (.str se),.I ex,.d (.sl 1 pr),.d (.bool ba),.d (.sl 5 []),.I 0,.d (.sl 1 fa),.d (.sl 1 cu),.d (.sl 3 fl)]
end Tdoc
