/- Part 10 of the proof: the texts SA UX. -/
import Derived.Test.YtlfiejdnlcbpgaaGreatDoorCN9
set_option maxHeartbeats 8000000
set_option maxRecDepth 100000
set_option linter.unusedVariables false
set_option linter.unusedSimpArgs false
namespace Tdoc
open Go Go.Proofs
def nst (s:List UInt8) (i:Nat):Int:=if s.head?=some 45 then qOa 0 ((s.drop 1).take (i-1)) else qOa 0 (s.take i)
def sgn (s:List UInt8) (i:Nat):Int:=if i=0 then 1 else if s.head?=some 45 then -1 else 1
theorem digF_snoc (n:Int) (l:List UInt8) (c:UInt8):qOa n (l++[c])=if 48≤c.toNat∧c.toNat≤57 then qOa n l*10+((c.toNat:Int)-48) else qOa n l:=by rw [digF_app];rfl
theorem digF_bound:∀ (l:List UInt8) (n:Int) (k:Nat),0≤n→n < 10 ^ k→0≤qOa n l∧qOa n l < 10 ^ (k+l.length)
 | [],n,k,h0,h=>⟨h0,h⟩
 | c::l,n,k,h0,h=>by
  have ih:=digF_bound l (if 48≤c.toNat∧c.toNat≤57 then n*10+((c.toNat:Int)-48) else n) (k+1) (by split <;> omega) (by
   have:(10:Int) ^ (k+1)=10 ^ k*10:=Int.pow_succ 10 k
   split <;> omega)
  rw [show k+(c::l).length=k+1+l.length by simp;omega]
  exact ih
theorem qYz (s:List UInt8) (i:Nat) (h:i≤12):0≤nst s i∧nst s i < 1000000000000:=by
 have h2:∀ l:List UInt8,l.length≤12→0≤qOa 0 l∧qOa 0 l < 1000000000000:=fun l hl=>by
  obtain ⟨h3,h4⟩:=digF_bound l 0 0 (by omega) (by omega)
  have:(10:Int) ^ (0+l.length)≤10 ^ 12:=by
   have:=Nat.pow_le_pow_right (n:=10) (by omega) (show 0+l.length≤12 by omega)
   exact_mod_cast this
  omega
 unfold nst
 split
 ·exact h2 _ (by rw [List.length_take];omega)
 ·exact h2 _ (by rw [List.length_take];omega)
theorem vBy {s:List UInt8} {i:Nat} (hi:i < s.length) (h:i=0∧s[i]=45):nst s (i+1)=nst s i∧sgn s (i+1) = -1:=by
 obtain ⟨h0,hc⟩:=h
 subst h0
 have:s.head?=some 45:=by rw [List.head?_eq_getElem?,List.getElem?_eq_getElem hi,hc]
 unfold nst sgn
 simp [this]
theorem vBz {s:List UInt8} {i:Nat} (hi:i < s.length) (h:¬ (i=0∧s[i]=45)):nst s (i+1)=(if 48≤s[i].toNat∧s[i].toNat≤57 then nst s i*10+((s[i].toNat:Int)-48) else nst s i)∧sgn s (i+1)=sgn s i:=by
 by_cases h0:i=0
 ·subst h0
  have hh:¬ s.head?=some 45:=by
   rw [List.head?_eq_getElem?,List.getElem?_eq_getElem hi]
   exact fun hh=>h ⟨rfl,by simpa using hh⟩
  unfold nst sgn
  rw [if_neg hh,if_neg hh,if_neg hh]
  refine ⟨?_,by simp⟩
  rw [List.take_succ_eq_append_getElem hi,digF_snoc]
 ·by_cases hh:s.head?=some 45
  ·unfold nst sgn
   simp only [if_pos hh]
   refine ⟨?_,by rw [if_neg h0,if_neg (by omega)]⟩
   rw [show i+1-1=(i-1)+1 by omega,List.take_add_one,List.getElem?_drop,show 1+(i-1)=i by omega,List.getElem?_eq_getElem hi]
   show qOa 0 (_++[s[i]])=_
   rw [digF_snoc]
  ·unfold nst sgn
   rw [if_neg hh,if_neg hh,if_neg hh]
   refine ⟨?_,by simp⟩
   rw [List.take_succ_eq_append_getElem hi,digF_snoc]
theorem vEs {s:List UInt8} {i:Nat} (h:i≤s.length∧i≤12∧(i=s.length∨i=12)):sgn s i*nst s i=qBj s:=by
 unfold sgn nst qBj
 by_cases hh:s.head?=some 45
 ·have hp:0 < s.length:=by cases s with | nil=>simp at hh | cons c r=>simp
  have h0:¬ i=0:=by omega
  rw [if_neg h0,if_pos hh,if_pos hh,if_pos hh]
  have:(s.drop 1).take (i-1)=(s.drop 1).take 11:=by
   rcases h.2.2 with h2 | h2
   ·rw [List.take_of_length_le (by rw [List.length_drop];omega),List.take_of_length_le (by rw [List.length_drop];omega)]
   ·rw [h2]
  rw [this];omega
 ·rw [if_neg hh,if_neg hh,if_neg hh]
  have:s.take i=s.take 12:=by
   rcases h.2.2 with h2 | h2
   ·rw [List.take_of_length_le (by omega),List.take_of_length_le (by omega)]
   ·rw [h2]
  rw [this];split <;> omega
theorem vHd (s:List UInt8) (i:Nat):sgn s i=1∨sgn s i = -1:=by unfold sgn;split;exact .inl rfl;split;exact .inr rfl;exact .inl rfl
theorem numberR_spec (s:List UInt8) (hs:s.length≤1000000):Spec Tryz.prog 14 [.d (.str s)] [] (fun r h'=>r=.I (qBj s)∧h'=[]):=by
 refine qAb hT Tryz.func14 rfl rfl rfl rfl ?_;intro E hE
 refine ww ?_
 refine qAn (ι:=Nat) (fun i=>[(0,.d (.str s)),(3,.I (nst s i)),(4,.I (sgn s i)),(5,.I (i:Int))]) (fun _=>[]) (fun i=>i≤s.length∧i≤12) (fun i=>12-i) 0 ⟨Nat.zero_le _,Nat.zero_le _⟩ ⟨.refl _,.int (by unfold nst;simp [qOa]),.int rfl,.refl _,trivial⟩ (HLe.refl _) ?_
 rintro i ⟨hi,hi12⟩
 have hat:=strAt_n s i
 have hb:0≤bI (s.getD i 0)∧bI (s.getD i 0) < 256:=by have:=(s.getD i 0).toNat_lt;unfold bI;omega
 have hnb:=qYz s i hi12
 refine ww ?_
 by_cases hc1:i < s.length∧i < 12
 ·obtain ⟨hi',h12⟩:=hc1
  refine qAa rfl (fun q=>?_) (fun q=>?_)
  case refine_2=>exfalso;simp at q;omega
  have hwr:IntKind.i64.wrap ((i:Int)+1)=((i+1:Nat):Int):=by rw [qAh (by omega)];simp
  have hg:s.getD i 0=s[i]:=by simp [hi']
  have h1:=vBy hi'
  have h2:=vBz hi'
  rw [← hg] at h1 h2
  generalize s.getD i 0=c at *
  clear q
  refine ww ?_
  rw [hat]
  by_cases hc:i=0∧c=45
  ·obtain ⟨h3,h4⟩:=h1 hc
   obtain ⟨h0,hcc⟩:=hc
   subst hcc
   refine qAa rfl (fun q=>?_) (fun q=>?_)
   case refine_2=>exfalso;subst h0;simp [bI] at q
   refine ww ?_
   exact ⟨i+1,⟨hi',h12⟩,by omega,⟨.refl _,.int h3.symm,.int h4.symm,.int hwr,trivial⟩,HLe.refl _⟩
  ·obtain ⟨h3,h4⟩:=h2 hc
   refine qAa rfl (fun q=>?_) (fun q=>?_)
   ·exfalso
    simp only [Bool.and_eq_true,beq_iff_eq,decide_eq_true_eq] at q
    exact hc ⟨by omega,bI_eq.1 (q.2.trans rfl)⟩
   refine ww ?_
   rw [hat]
   by_cases hd:48≤c.toNat∧c.toNat≤57
   ·rw [if_pos hd] at h3
    refine qAa rfl (fun q=>?_) (fun q=>?_)
    case refine_2=>exfalso;unfold bI at q;simp at q;omega
    refine ww ?_
    rw [hat]
    refine ⟨i+1,⟨hi',h12⟩,by omega,⟨.refl _,.int ?_,.int h4.symm,.int hwr,trivial⟩,HLe.refl _⟩
    rw [h3]
    have e1:IntKind.u8.wrap (bI c-48)=(c.toNat:Int)-48:=by unfold bI;exact wrapu8 (by omega)
    rw [e1,qAh (n:=nst s i*10) (by omega)]
    first | (rw [qAh (n:=(c.toNat:Int)-48) (by omega),qAh (by omega)]) | (rw [qAh (by omega)])
   ·rw [if_neg hd] at h3
    refine qAa rfl (fun q=>?_) (fun q=>?_)
    ·exfalso;unfold bI at q;simp at q;omega
    refine ww ?_
    exact ⟨i+1,⟨hi',h12⟩,by omega,⟨.refl _,.int h3.symm,.int h4.symm,.int hwr,trivial⟩,HLe.refl _⟩
 ·refine qAa rfl (fun q=>?_) (fun q=>?_)
  ·exfalso;simp at q;omega
  have he:=vEs (s:=s) (i:=i) ⟨hi,hi12,by omega⟩
  have hsp:=vHd s i
  generalize nst s i=n at *
  generalize sgn s i=g at *
  refine ww ?_
  refine rq ⟨rfl,rfl⟩ rfl (.int ?_)
  rw [← he]
  rcases hsp with h | h <;> (rw [h];exact qAh (by omega))
theorem encI_snoc2 (l:List Int) (n:Int):qAl (l++[n])=qAl l++[[.int .i64 n]]:=by simp [qAl]
theorem numbersR_spec (w:List UInt8) (hw:w.length≤1000000):Spec Tryz.prog 16 [.d (.str w)] [] (fun r h'=>r=.d (.sl 1 (qAl ((qBk w).map qBj)))∧h'=[]):=by
 have hc:=cutO_spec 44 w hw
 obtain ⟨hpn,hpl⟩:(spl 44 w).length≤1000001∧∀ v,v∈spl 44 w→v.length≤1000000:=⟨by rw [qCt];have:=List.count_le_length (a:=(44:UInt8)) (l:=w);omega,fun v hv=>Nat.le_trans (qBs w v hv) hw⟩
 unfold qBk
 generalize spl 44 w=L at hc hpn hpl ⊢
 refine qAb hT Tryz.func16 rfl rfl rfl rfl ?_;intro E hE
 refine ww ?_
 refine qAa rfl (fun c1=>?_) (fun c1=>?_)
 ·have c1':w=[45]:=by simpa using c1
  rw [if_pos c1']
  refine ww ?_
  exact rq ⟨rfl,rfl⟩ rfl AV.le.nils
 ·have c1':¬ w=[45]:=by simpa using c1
  rw [if_neg c1']
  refine qAq ?_
  refine ww ?_
  refine qAd (qAk rfl rfl (hc) [0] (by decide) rfl rfl rfl rfl rfl rfl rfl) rfl ?_
  refine ww ?_
  have hel:=strsAV_length L
  refine qAq (qBc 3 1 1 (es:=[]) (.inr ⟨rfl,rfl⟩) rfl ?_)
  refine qAn (ι:=Nat) (fun i=>[(3,.sl 1 (qAl ((L.take i).map qBj)) (.right 1)),(4,.d (.sl 1 (qAg L))),(5,.I (i:Int))]) (fun i=>[.dead,.right 1 (qAl ((L.take i).map qBj)).length]) (fun i=>i≤L.length) (fun i=>L.length-i) 0 (Nat.zero_le _)
   ⟨.refl _,.dat,.refl _,trivial⟩ ⟨trivial,.refl _,trivial⟩ ?_
  intro i hi
  refine ww ?_
  refine qAa rfl (fun c2=>?_) (fun c2=>?_)
  ·have hi':i < L.length:=by rw [hel] at c2;simp at c2;omega
   have hat:=strsAV_at hi'
   have hnm:=numberR_spec L[i] (hpl _ (List.getElem_mem hi'))
   have hsn:qAl ((L.take (i+1)).map qBj)=qAl ((L.take i).map qBj)++[[.int .i64 (qBj L[i])]]:=by rw [List.take_succ_eq_append_getElem hi',List.map_append];exact encI_snoc2 _ _
   have hln:(qAl ((L.take i).map qBj)).length≤1000001:=by rw [encI_length,List.length_map,List.length_take];omega
   generalize L[i]=v at hat hnm hsn
   generalize qBj v=n at hnm hsn
   generalize qAl ((L.take i).map qBj)=S at hsn hln ⊢
   refine ww ?_
   refine wwi hat ?_
   refine ww ?_
   refine wwc hnm ?_
   refine ww ?_
   refine qAd (qAs (i:=1) hT rfl rfl rfl rfl rfl rfl (by show (S.length+1)*(8+1)≤_;omega)) rfl ?_
   refine ww ?_
   exact ⟨i+1,hi',by omega,⟨AV.le.eq (by rw [hsn];rfl),.refl _,.int (by rw [qAh (by omega)];omega),trivial⟩,⟨.refl _,by rw [hsn];exact ObLe.refl _,trivial⟩⟩
  ·have hi':i=L.length:=by rw [hel] at c2;simp at c2;omega
   subst hi'
   rw [List.take_length]
   refine qBr ?_
   refine qAi (l:=[(3,.d (.sl 1 (qAl (L.map qBj))))]) ⟨.dat,trivial⟩ (HLe.refl _) ?_
   refine ww ?_
   exact rq ⟨rfl,rfl⟩ rfl (.refl _)
theorem flipR_L (w:List UInt8) (M:List (List UInt8)) (h:M=spl 58 w++[[],[]]):qFb w=⟨qBj (M.getD 0 []),qBj (M.getD 1 []),qBj (M.getD 2 [])⟩:=by rw [h];rfl
theorem linksR_spec (w:List UInt8) (hw:w.length≤1000000):Spec Tryz.prog 17 [.d (.str w)] [] (fun r h'=>r=.d (.sl 3 (qAr ((qBk w).map qFb)))∧h'=[]):=by
 have hc:=cutO_spec 44 w hw
 obtain ⟨hpn,hpl⟩:(spl 44 w).length≤1000001∧∀ v,v∈spl 44 w→v.length≤1000000:=⟨by rw [qCt];have:=List.count_le_length (a:=(44:UInt8)) (l:=w);omega,fun v hv=>Nat.le_trans (qBs w v hv) hw⟩
 unfold qBk
 generalize spl 44 w=L at hc hpn hpl ⊢
 refine qAb hT Tryz.func17 rfl rfl rfl rfl ?_;intro E hE
 refine ww ?_
 refine qAa rfl (fun c1=>?_) (fun c1=>?_)
 ·have c1':w=[45]:=by simpa using c1
  rw [if_pos c1']
  refine ww ?_
  exact rq ⟨rfl,rfl⟩ rfl AV.le.nils
 ·have c1':¬ w=[45]:=by simpa using c1
  rw [if_neg c1']
  refine qAq ?_
  refine ww ?_
  refine qAd (qAk rfl rfl (hc) [0] (by decide) rfl rfl rfl rfl rfl rfl rfl) rfl ?_
  refine ww ?_
  have hel:=strsAV_length L
  refine qAq (qBc 3 3 1 (es:=[]) (.inr ⟨rfl,rfl⟩) rfl ?_)
  refine qEs (ι:=Nat) (fun i=>[(3,.sl 3 (qAr ((L.take i).map qFb)) (.right 1)),(4,.d (.sl 1 (qAg L))),(5,.I (i:Int))]) (fun i=>[.dead,.right 3 (qAr ((L.take i).map qFb)).length]) (fun i=>i≤L.length) (fun i=>L.length-i) 0 (Nat.zero_le _)
   ⟨.refl _,.dat,.refl _,trivial⟩ ⟨trivial,.refl _,trivial⟩ ?_
  intro i hi
  refine ww ?_
  refine qAa rfl (fun c2=>?_) (fun c2=>?_)
  ·have hi':i < L.length:=by rw [hel] at c2;simp at c2;omega
   have hat:=strsAV_at hi'
   have hvl:=hpl _ (List.getElem_mem hi')
   have hsn:qAr ((L.take (i+1)).map qFb)=qAr ((L.take i).map qFb)++[[.int .i64 (qFb L[i]).ap,.int .i64 (qFb L[i]).byt,.int .i64 (qFb L[i]).bit]]:=by rw [List.take_succ_eq_append_getElem hi',List.map_append];exact encFp_snoc _ _
   have hln:(qAr ((L.take i).map qFb)).length≤1000001:=by rw [encFp_length,List.length_map,List.length_take];omega
   generalize L[i]=v at hat hsn hvl
   have hcc:=cutO_spec 58 v hvl
   have hmm:qAg (spl 58 v++[[],[]])=qAg (spl 58 v)++[[.str []],[.str []]]:=by simp [qAg]
   have hml:(qAg (spl 58 v)).length≤1000001:=by rw [strsAV_length,qCt];have:=List.count_le_length (a:=(58:UInt8)) (l:=v);omega
   obtain ⟨M,hM⟩:∃ M,M=spl 58 v++[[],[]]:=⟨_,rfl⟩
   have hMl:∀ u,u∈M→u.length≤1000000:=fun u hu=>by
    rw [hM,List.mem_append] at hu
    rcases hu with hu | hu
    ·exact Nat.le_trans (qBs v u hu) hvl
    ·simp at hu;subst hu;simp
   have hM2:2 < M.length:=by rw [hM,List.length_append,qCt];simp
   rw [flipR_L v M hM] at hsn
   rw [← hM] at hmm
   have ha:=fun (j:Nat) (hj:j < M.length)=>strsAV_at hj
   have hn0:=numberR_spec M[0] (hMl _ (List.getElem_mem _))
   have hn1:=numberR_spec M[1] (hMl _ (List.getElem_mem _))
   have hn2:=numberR_spec M[2] (hMl _ (List.getElem_mem _))
   have ha0:(qAg M)[((0:Int)).toNat]?=some [.str M[0]]:=ha 0 (by omega)
   have ha1:(qAg M)[((1:Int)).toNat]?=some [.str M[1]]:=ha 1 (by omega)
   have ha2:(qAg M)[((2:Int)).toNat]?=some [.str M[2]]:=ha 2 (by omega)
   rw [show M.getD 0 []=M[0] by simp [List.getD_eq_getElem?_getD,List.getElem?_eq_getElem (show 0 < M.length by omega)],show M.getD 1 []=M[1] by simp [List.getD_eq_getElem?_getD,List.getElem?_eq_getElem (show 1 < M.length by omega)],show M.getD 2 []=M[2] by simp [List.getD_eq_getElem?_getD,List.getElem?_eq_getElem hM2]] at hsn
   have hMA:2 < (qAg M).length:=by rw [strsAV_length];exact hM2
   generalize M[0]=u0 at hn0 ha0 hsn
   generalize M[1]=u1 at hn1 ha1 hsn
   generalize M[2]=u2 at hn2 ha2 hsn
   generalize qBj u0=n0 at hn0 hsn
   generalize qBj u1=n1 at hn1 hsn
   generalize qBj u2=n2 at hn2 hsn
   simp only at hsn
   clear hM hMl hM2 ha
   generalize qAg M=SM at hmm ha0 ha1 ha2 hMA
   generalize qAg (spl 58 v)=SV at hcc hmm hml
   generalize qAr ((L.take i).map qFb)=S at hsn hln ⊢
   refine qAq ?_
   refine ww ?_
   refine wwi hat ?_
   refine ww ?_
   refine qAd (qOb (v:=.sl 1 SV (.right 2)) (H':=[.dead,.right 3 S.length,.right 1 SV.length]) rfl rfl hcc [2] (by decide) rfl rfl rfl rfl rfl rfl rfl) rfl ?_
   refine ww ?_
   refine qAd (qAs (i:=2) hT rfl rfl rfl rfl rfl rfl (by show (SV.length+2)*(16+1)≤_;omega)) rfl ?_
   refine wws ?_
   refine qAi (l:=[(3,.sl 3 S (.right 1)),(4,.d (.sl 1 (qAg L))),(5,.I (i:Int)),(6,.d (.sl 1 SM))]) (h':=[.dead,.right 3 S.length,.dead]) ⟨.refl _,.refl _,.refl _,by rw [hmm];exact .dat,trivial⟩ ⟨trivial,.refl _,trivial,trivial⟩ ?_
   refine qAv (fun i=>bif Nat.beq i 15 then [1] else []) (fun i=>bif Nat.beq i 15 then [1] else []) mixed (by kernel_rfl) ?_
   refine wwg ?_
   refine qAm (os:=[]) (fun k hk hr=>qAe (indexAddr_ok hT rfl rfl rfl rfl (by omega) ha0)) rfl ?_
   refine wwg ?_
   refine wwdc hn0 ?_
   refine wwg ?_
   refine qAm (os:=[]) (fun k hk hr=>qAe (indexAddr_ok hT rfl rfl rfl rfl (by omega) ha1)) rfl ?_
   refine wwg ?_
   refine wwdc hn1 ?_
   refine wwg ?_
   refine qAm (os:=[]) (fun k hk hr=>qAe (indexAddr_ok hT rfl rfl rfl rfl (by omega) ha2)) rfl ?_
   refine wwg ?_
   refine wwdc hn2 ?_
   refine wwg ?_
   refine qAm (os:=[]) (v:=.sl 3 [[Dat.int .i64 n0,Dat.int .i64 n1,Dat.int .i64 n2]] .full) (fun k hk hr=>buildSl_ok hT rfl rfl) rfl ?_
   refine wwg ?_
   refine qAm (os:=[.right 3 (S++[[Dat.int .i64 n0,Dat.int .i64 n1,Dat.int .i64 n2]]).length]) (v:=.sl 3 (S++[[Dat.int .i64 n0,Dat.int .i64 n1,Dat.int .i64 n2]]) (.right 1)) (fun k hk hr=>qAs (i:=1) (es:=S) (es2:=[[Dat.int .i64 n0,Dat.int .i64 n1,Dat.int .i64 n2]]) (by_:=24) hT rfl rfl rfl rfl ((hr 1 (List.mem_singleton.2 rfl)).trans rfl) rfl (by show (S.length+1)*(24+1)≤140737488355328;omega)) rfl ?_
   refine wwg ?_
   refine ww ?_
   exact ⟨i+1,[_],hi',by omega,⟨AV.le.eq (by rw [hsn];rfl),.refl _,.int (by rw [qAh (by omega)];omega),trivial⟩,⟨.refl _,by rw [hsn];exact ObLe.refl _,.refl _,trivial⟩,Env.below_mono hE (by simp),rfl,rfl⟩
  ·have hi':i=L.length:=by rw [hel] at c2;simp at c2;omega
   subst hi'
   rw [List.take_length]
   refine qBr ?_
   refine qAi (l:=[(3,.d (.sl 3 (qAr (L.map qFb))))]) ⟨.dat,trivial⟩ (HLe.refl _) ?_
   refine ww ?_
   exact rq ⟨rfl,rfl⟩ rfl (.refl _)
theorem keepR1_spec (a b n:Int) (st tx nu su gi na bi se:List UInt8) (ex:Int) (pr:List Int) (ba:Bool) (pt:Nat) (td:Int) (fa cu:List Int) (fl:List Flp) (P:List (List Dat)):Spec Tryz.prog 34 [.agg (qBn ⟨1,a,b,n,st,tx,nu,su,gi,na,bi,se,ex,pr,ba,pt,td,fa,cu,fl⟩ P)] [] (fun r h'=>r=.agg (qBn (qBq ⟨1,a,b,n,st,tx,nu,su,gi,na,bi,se,ex,pr,ba,pt,td,fa,cu,fl⟩) [])∧h'=[]):=by
 rw [show qBq ⟨1,a,b,n,st,tx,nu,su,gi,na,bi,se,ex,pr,ba,pt,td,fa,cu,fl⟩=(⟨1,0,0,n,[],[],[],[],[],[],[],[],0,[],false,0,0,[],[],[]⟩:Akt) from rfl]
 unfold qBn
 simp only
 generalize qAl pr=epr
 generalize qAl fa=efa
 generalize qAl cu=ecu
 generalize qAr fl=efl
 refine qAb hT Tryz.func34 rfl rfl rfl rfl ?_;intro E hE
 refine qAf (qAc ?_)
 refine wws ?_
 refine qAf (qAc ?_)
 refine wws ?_
 refine qAi (l:=[(1,.ptr 0 0),(2,.ptr 1 0),(3,.ptr 2 0)]) (h':=[.row [.I 1,.I a,.I b,.I n,.d (.str st),.d (.str tx),.d (.str nu),.d (.str su),.d (.str gi),.d (.str na),.d (.str bi),.d (.str se),.I ex,.d (.sl 1 epr),.d (.bool ba),.d (.sl 5 P),.I td,.d (.sl 1 efa),.d (.sl 1 ecu),.d (.sl 3 efl)],.row (qJm 0),.row [.I 1,.I 0,.I 0,.I 0,.d (.str []),.d (.str []),.d (.str []),.d (.str []),.d (.str []),.d (.str []),.d (.str []),.d (.str []),.I 0,.sl 1 [] .full,.d (.bool false),.sl 5 [] .full,.I 0,.sl 1 [] .full,.sl 1 [] .full,.sl 3 [] .full]]) yf (HLe.refl _) ?_
 refine wwn ?_
 refine qAa rfl (fun q=>?_) (fun q=>absurd q (by decide))
 refine qAc ?_
 refine wws ?_
 refine wwe ?_
 refine qAf (qAc ?_)
 refine qAd (qAo (i:=2) (off:=0) hT rfl rfl rfl (qDa rfl)) rfl ?_
 refine qAu (qAp (i:=1) (off:=0) hT rfl rfl rfl (qEl rfl rfl)) (forceS_eq _ _) ?_
 refine ww ?_
 refine rq ⟨rfl,rfl⟩ rfl ?_
 exact AV.le.agg ⟨.refl _,.refl _,.refl _,.refl _,.refl _,.refl _,.refl _,.refl _,.refl _,.refl _,.refl _,.refl _,.refl _,.dat' rfl,.refl _,.dat' rfl,.refl _,.dat' rfl,.dat' rfl,.dat' rfl,trivial⟩
theorem keepR2_spec (a b n:Int) (st tx nu su gi na bi se:List UInt8) (ex:Int) (pr:List Int) (ba:Bool) (pt:Nat) (td:Int) (fa cu:List Int) (fl:List Flp) (P:List (List Dat)):Spec Tryz.prog 34 [.agg (qBn ⟨2,a,b,n,st,tx,nu,su,gi,na,bi,se,ex,pr,ba,pt,td,fa,cu,fl⟩ P)] [] (fun r h'=>r=.agg (qBn (qBq ⟨2,a,b,n,st,tx,nu,su,gi,na,bi,se,ex,pr,ba,pt,td,fa,cu,fl⟩) [])∧h'=[]):=by
 rw [show qBq ⟨2,a,b,n,st,tx,nu,su,gi,na,bi,se,ex,pr,ba,pt,td,fa,cu,fl⟩=(⟨2,0,0,0,st,tx,[],[],[],[],[],[],0,[],false,0,0,[],[],[]⟩:Akt) from rfl]
 unfold qBn
 simp only
 generalize qAl pr=epr
 generalize qAl fa=efa
 generalize qAl cu=ecu
 generalize qAr fl=efl
 refine qAb hT Tryz.func34 rfl rfl rfl rfl ?_;intro E hE
 refine qAf (qAc ?_)
 refine wws ?_
 refine qAf (qAc ?_)
 refine wws ?_
 refine qAi (l:=[(1,.ptr 0 0),(2,.ptr 1 0),(3,.ptr 2 0)]) (h':=[.row [.I 2,.I a,.I b,.I n,.d (.str st),.d (.str tx),.d (.str nu),.d (.str su),.d (.str gi),.d (.str na),.d (.str bi),.d (.str se),.I ex,.d (.sl 1 epr),.d (.bool ba),.d (.sl 5 P),.I td,.d (.sl 1 efa),.d (.sl 1 ecu),.d (.sl 3 efl)],.row (qJm 0),.row [.I 2,.I 0,.I 0,.I 0,.d (.str []),.d (.str []),.d (.str []),.d (.str []),.d (.str []),.d (.str []),.d (.str []),.d (.str []),.I 0,.sl 1 [] .full,.d (.bool false),.sl 5 [] .full,.I 0,.sl 1 [] .full,.sl 1 [] .full,.sl 3 [] .full]]) yf (HLe.refl _) ?_
 refine wwn ?_
 refine qAa rfl (fun q=>absurd q (by decide)) (fun q=>?_)
 refine wwn ?_
 refine qAa rfl (fun q=>?_) (fun q=>absurd q (by decide))
 refine wwn ?_
 refine qAa rfl (fun q=>?_) (fun q=>absurd q (by decide))
 refine qAv (fun i=>bif Nat.beq i 1||Nat.beq i 3 then [0] else bif Nat.beq i 5||Nat.beq i 7 then [2] else []) (fun i=>bif Nat.beq i 5||Nat.beq i 7 then [2] else []) mixed (by kernel_rfl) ?_
 refine wwg ?_
 refine wwe ?_
 refine qAf (qAc ?_)
 refine qAd (qAo (i:=2) (off:=0) hT rfl rfl rfl (qDa rfl)) rfl ?_
 refine qAu (qAp (i:=1) (off:=0) hT rfl rfl rfl (qEl rfl rfl)) (forceS_eq _ _) ?_
 refine ww ?_
 refine rq ⟨rfl,rfl⟩ rfl ?_
 exact AV.le.agg ⟨.refl _,.refl _,.refl _,.refl _,.refl _,.refl _,.refl _,.refl _,.refl _,.refl _,.refl _,.refl _,.refl _,.dat' rfl,.refl _,.dat' rfl,.refl _,.dat' rfl,.dat' rfl,.dat' rfl,trivial⟩
theorem keepR3_spec (a b n:Int) (st tx nu su gi na bi se:List UInt8) (ex:Int) (pr:List Int) (ba:Bool) (pt:Nat) (td:Int) (fa cu:List Int) (fl:List Flp) (P:List (List Dat)):Spec Tryz.prog 34 [.agg (qBn ⟨3,a,b,n,st,tx,nu,su,gi,na,bi,se,ex,pr,ba,pt,td,fa,cu,fl⟩ P)] [] (fun r h'=>r=.agg (qBn (qBq ⟨3,a,b,n,st,tx,nu,su,gi,na,bi,se,ex,pr,ba,pt,td,fa,cu,fl⟩) [])∧h'=[]):=by
 rw [show qBq ⟨3,a,b,n,st,tx,nu,su,gi,na,bi,se,ex,pr,ba,pt,td,fa,cu,fl⟩=(⟨3,a,0,0,[],[],[],[],[],[],[],[],0,[],false,0,0,[],[],[]⟩:Akt) from rfl]
 unfold qBn
 simp only
 generalize qAl pr=epr
 generalize qAl fa=efa
 generalize qAl cu=ecu
 generalize qAr fl=efl
 refine qAb hT Tryz.func34 rfl rfl rfl rfl ?_;intro E hE
 refine qAf (qAc ?_)
 refine wws ?_
 refine qAf (qAc ?_)
 refine wws ?_
 refine qAi (l:=[(1,.ptr 0 0),(2,.ptr 1 0),(3,.ptr 2 0)]) (h':=[.row [.I 3,.I a,.I b,.I n,.d (.str st),.d (.str tx),.d (.str nu),.d (.str su),.d (.str gi),.d (.str na),.d (.str bi),.d (.str se),.I ex,.d (.sl 1 epr),.d (.bool ba),.d (.sl 5 P),.I td,.d (.sl 1 efa),.d (.sl 1 ecu),.d (.sl 3 efl)],.row (qJm 0),.row [.I 3,.I 0,.I 0,.I 0,.d (.str []),.d (.str []),.d (.str []),.d (.str []),.d (.str []),.d (.str []),.d (.str []),.d (.str []),.I 0,.sl 1 [] .full,.d (.bool false),.sl 5 [] .full,.I 0,.sl 1 [] .full,.sl 1 [] .full,.sl 3 [] .full]]) yf (HLe.refl _) ?_
 refine wwn ?_
 refine qAa rfl (fun q=>absurd q (by decide)) (fun q=>?_)
 refine wwn ?_
 refine qAa rfl (fun q=>absurd q (by decide)) (fun q=>?_)
 refine wwn ?_
 refine qAa rfl (fun q=>absurd q (by decide)) (fun q=>?_)
 refine wwn ?_
 refine qAa rfl (fun q=>?_) (fun q=>absurd q (by decide))
 refine qAc ?_
 refine wws ?_
 refine wwe ?_
 refine qAf (qAc ?_)
 refine qAd (qAo (i:=2) (off:=0) hT rfl rfl rfl (qDa rfl)) rfl ?_
 refine qAu (qAp (i:=1) (off:=0) hT rfl rfl rfl (qEl rfl rfl)) (forceS_eq _ _) ?_
 refine ww ?_
 refine rq ⟨rfl,rfl⟩ rfl ?_
 exact AV.le.agg ⟨.refl _,.refl _,.refl _,.refl _,.refl _,.refl _,.refl _,.refl _,.refl _,.refl _,.refl _,.refl _,.refl _,.dat' rfl,.refl _,.dat' rfl,.refl _,.dat' rfl,.dat' rfl,.dat' rfl,trivial⟩
theorem keepR4_spec (a b n:Int) (st tx nu su gi na bi se:List UInt8) (ex:Int) (pr:List Int) (ba:Bool) (pt:Nat) (td:Int) (fa cu:List Int) (fl:List Flp) (P:List (List Dat)):Spec Tryz.prog 34 [.agg (qBn ⟨4,a,b,n,st,tx,nu,su,gi,na,bi,se,ex,pr,ba,pt,td,fa,cu,fl⟩ P)] [] (fun r h'=>r=.agg (qBn (qBq ⟨4,a,b,n,st,tx,nu,su,gi,na,bi,se,ex,pr,ba,pt,td,fa,cu,fl⟩) [])∧h'=[]):=by
 rw [show qBq ⟨4,a,b,n,st,tx,nu,su,gi,na,bi,se,ex,pr,ba,pt,td,fa,cu,fl⟩=(⟨4,a,0,0,[],[],nu,su,gi,na,bi,se,ex,pr,ba,0,0,fa,[],[]⟩:Akt) from rfl]
 unfold qBn
 simp only
 generalize qAl pr=epr
 generalize qAl fa=efa
 generalize qAl cu=ecu
 generalize qAr fl=efl
 refine qAb hT Tryz.func34 rfl rfl rfl rfl ?_;intro E hE
 refine qAf (qAc ?_)
 refine wws ?_
 refine qAf (qAc ?_)
 refine wws ?_
 refine qAi (l:=[(1,.ptr 0 0),(2,.ptr 1 0),(3,.ptr 2 0)]) (h':=[.row [.I 4,.I a,.I b,.I n,.d (.str st),.d (.str tx),.d (.str nu),.d (.str su),.d (.str gi),.d (.str na),.d (.str bi),.d (.str se),.I ex,.d (.sl 1 epr),.d (.bool ba),.d (.sl 5 P),.I td,.d (.sl 1 efa),.d (.sl 1 ecu),.d (.sl 3 efl)],.row (qJm 0),.row [.I 4,.I 0,.I 0,.I 0,.d (.str []),.d (.str []),.d (.str []),.d (.str []),.d (.str []),.d (.str []),.d (.str []),.d (.str []),.I 0,.sl 1 [] .full,.d (.bool false),.sl 5 [] .full,.I 0,.sl 1 [] .full,.sl 1 [] .full,.sl 3 [] .full]]) yf (HLe.refl _) ?_
 refine wwn ?_
 refine qAa rfl (fun q=>absurd q (by decide)) (fun q=>?_)
 refine wwn ?_
 refine qAa rfl (fun q=>absurd q (by decide)) (fun q=>?_)
 refine wwn ?_
 refine qAa rfl (fun q=>absurd q (by decide)) (fun q=>?_)
 refine wwn ?_
 refine qAa rfl (fun q=>absurd q (by decide)) (fun q=>?_)
 refine wwn ?_
 refine qAa rfl (fun q=>?_) (fun q=>absurd q (by decide))
 refine qAf ?_
 refine qAv (fun i=>bif Nat.beq i 1||Nat.beq i 3 then [0] else bif Nat.beq i 5||Nat.beq i 7 then [2] else []) (fun i=>bif Nat.beq i 5||Nat.beq i 7 then [2] else []) mixed (by kernel_rfl) ?_
 refine wwg ?_
 refine qAc ?_
 refine wws ?_
 refine wwe ?_
 refine qAf (qAc ?_)
 refine qAd (qAo (i:=2) (off:=0) hT rfl rfl rfl (qDa rfl)) rfl ?_
 refine qAu (qAp (i:=1) (off:=0) hT rfl rfl rfl (qEl rfl rfl)) (forceS_eq _ _) ?_
 refine ww ?_
 refine rq ⟨rfl,rfl⟩ rfl ?_
 exact AV.le.agg ⟨.refl _,.refl _,.refl _,.refl _,.refl _,.refl _,.refl _,.refl _,.refl _,.refl _,.refl _,.refl _,.refl _,.refl _,.refl _,.dat' rfl,.refl _,.refl _,.dat' rfl,.dat' rfl,trivial⟩
theorem keepR5_spec (a b n:Int) (st tx nu su gi na bi se:List UInt8) (ex:Int) (pr:List Int) (ba:Bool) (pt:Nat) (td:Int) (fa cu:List Int) (fl:List Flp) (P:List (List Dat)):Spec Tryz.prog 34 [.agg (qBn ⟨5,a,b,n,st,tx,nu,su,gi,na,bi,se,ex,pr,ba,pt,td,fa,cu,fl⟩ P)] [] (fun r h'=>r=.agg (qBn (qBq ⟨5,a,b,n,st,tx,nu,su,gi,na,bi,se,ex,pr,ba,pt,td,fa,cu,fl⟩) [])∧h'=[]):=by
 rw [show qBq ⟨5,a,b,n,st,tx,nu,su,gi,na,bi,se,ex,pr,ba,pt,td,fa,cu,fl⟩=(⟨5,a,b,0,[],[],[],[],[],[],[],[],0,[],false,0,0,[],[],[]⟩:Akt) from rfl]
 unfold qBn
 simp only
 generalize qAl pr=epr
 generalize qAl fa=efa
 generalize qAl cu=ecu
 generalize qAr fl=efl
 refine qAb hT Tryz.func34 rfl rfl rfl rfl ?_;intro E hE
 refine qAf (qAc ?_)
 refine wws ?_
 refine qAf (qAc ?_)
 refine wws ?_
 refine qAi (l:=[(1,.ptr 0 0),(2,.ptr 1 0),(3,.ptr 2 0)]) (h':=[.row [.I 5,.I a,.I b,.I n,.d (.str st),.d (.str tx),.d (.str nu),.d (.str su),.d (.str gi),.d (.str na),.d (.str bi),.d (.str se),.I ex,.d (.sl 1 epr),.d (.bool ba),.d (.sl 5 P),.I td,.d (.sl 1 efa),.d (.sl 1 ecu),.d (.sl 3 efl)],.row (qJm 0),.row [.I 5,.I 0,.I 0,.I 0,.d (.str []),.d (.str []),.d (.str []),.d (.str []),.d (.str []),.d (.str []),.d (.str []),.d (.str []),.I 0,.sl 1 [] .full,.d (.bool false),.sl 5 [] .full,.I 0,.sl 1 [] .full,.sl 1 [] .full,.sl 3 [] .full]]) yf (HLe.refl _) ?_
 refine wwn ?_
 refine qAa rfl (fun q=>absurd q (by decide)) (fun q=>?_)
 refine wwn ?_
 refine qAa rfl (fun q=>absurd q (by decide)) (fun q=>?_)
 refine wwn ?_
 refine qAa rfl (fun q=>absurd q (by decide)) (fun q=>?_)
 refine wwn ?_
 refine qAa rfl (fun q=>absurd q (by decide)) (fun q=>?_)
 refine wwn ?_
 refine qAa rfl (fun q=>absurd q (by decide)) (fun q=>?_)
 refine wwn ?_
 refine qAa rfl (fun q=>?_) (fun q=>absurd q (by decide))
 refine wwn ?_
 refine qAa rfl (fun q=>?_) (fun q=>absurd q (by decide))
 refine qAv (fun i=>bif Nat.beq i 1||Nat.beq i 3 then [0] else bif Nat.beq i 5||Nat.beq i 7 then [2] else []) (fun i=>bif Nat.beq i 5||Nat.beq i 7 then [2] else []) mixed (by kernel_rfl) ?_
 refine wwg ?_
 refine wwe ?_
 refine qAf (qAc ?_)
 refine qAd (qAo (i:=2) (off:=0) hT rfl rfl rfl (qDa rfl)) rfl ?_
 refine qAu (qAp (i:=1) (off:=0) hT rfl rfl rfl (qEl rfl rfl)) (forceS_eq _ _) ?_
 refine ww ?_
 refine rq ⟨rfl,rfl⟩ rfl ?_
 exact AV.le.agg ⟨.refl _,.refl _,.refl _,.refl _,.refl _,.refl _,.refl _,.refl _,.refl _,.refl _,.refl _,.refl _,.refl _,.dat' rfl,.refl _,.dat' rfl,.refl _,.dat' rfl,.dat' rfl,.dat' rfl,trivial⟩
theorem keepR6_spec (a b n:Int) (st tx nu su gi na bi se:List UInt8) (ex:Int) (pr:List Int) (ba:Bool) (pt:Nat) (td:Int) (fa cu:List Int) (fl:List Flp) (P:List (List Dat)):Spec Tryz.prog 34 [.agg (qBn ⟨6,a,b,n,st,tx,nu,su,gi,na,bi,se,ex,pr,ba,pt,td,fa,cu,fl⟩ P)] [] (fun r h'=>r=.agg (qBn (qBq ⟨6,a,b,n,st,tx,nu,su,gi,na,bi,se,ex,pr,ba,pt,td,fa,cu,fl⟩) [])∧h'=[]):=by
 rw [show qBq ⟨6,a,b,n,st,tx,nu,su,gi,na,bi,se,ex,pr,ba,pt,td,fa,cu,fl⟩=(⟨6,a,b,0,[],[],[],[],[],[],[],[],0,[],false,0,0,[],[],[]⟩:Akt) from rfl]
 unfold qBn
 simp only
 generalize qAl pr=epr
 generalize qAl fa=efa
 generalize qAl cu=ecu
 generalize qAr fl=efl
 refine qAb hT Tryz.func34 rfl rfl rfl rfl ?_;intro E hE
 refine qAf (qAc ?_)
 refine wws ?_
 refine qAf (qAc ?_)
 refine wws ?_
 refine qAi (l:=[(1,.ptr 0 0),(2,.ptr 1 0),(3,.ptr 2 0)]) (h':=[.row [.I 6,.I a,.I b,.I n,.d (.str st),.d (.str tx),.d (.str nu),.d (.str su),.d (.str gi),.d (.str na),.d (.str bi),.d (.str se),.I ex,.d (.sl 1 epr),.d (.bool ba),.d (.sl 5 P),.I td,.d (.sl 1 efa),.d (.sl 1 ecu),.d (.sl 3 efl)],.row (qJm 0),.row [.I 6,.I 0,.I 0,.I 0,.d (.str []),.d (.str []),.d (.str []),.d (.str []),.d (.str []),.d (.str []),.d (.str []),.d (.str []),.I 0,.sl 1 [] .full,.d (.bool false),.sl 5 [] .full,.I 0,.sl 1 [] .full,.sl 1 [] .full,.sl 3 [] .full]]) yf (HLe.refl _) ?_
 refine wwn ?_
 refine qAa rfl (fun q=>absurd q (by decide)) (fun q=>?_)
 refine wwn ?_
 refine qAa rfl (fun q=>absurd q (by decide)) (fun q=>?_)
 refine wwn ?_
 refine qAa rfl (fun q=>absurd q (by decide)) (fun q=>?_)
 refine wwn ?_
 refine qAa rfl (fun q=>absurd q (by decide)) (fun q=>?_)
 refine wwn ?_
 refine qAa rfl (fun q=>absurd q (by decide)) (fun q=>?_)
 refine wwn ?_
 refine qAa rfl (fun q=>absurd q (by decide)) (fun q=>?_)
 refine wwn ?_
 refine qAa rfl (fun q=>?_) (fun q=>absurd q (by decide))
 refine wwn ?_
 refine qAa rfl (fun q=>?_) (fun q=>absurd q (by decide))
 refine qAv (fun i=>bif Nat.beq i 1||Nat.beq i 3 then [0] else bif Nat.beq i 5||Nat.beq i 7 then [2] else []) (fun i=>bif Nat.beq i 5||Nat.beq i 7 then [2] else []) mixed (by kernel_rfl) ?_
 refine wwg ?_
 refine wwe ?_
 refine qAf (qAc ?_)
 refine qAd (qAo (i:=2) (off:=0) hT rfl rfl rfl (qDa rfl)) rfl ?_
 refine qAu (qAp (i:=1) (off:=0) hT rfl rfl rfl (qEl rfl rfl)) (forceS_eq _ _) ?_
 refine ww ?_
 refine rq ⟨rfl,rfl⟩ rfl ?_
 exact AV.le.agg ⟨.refl _,.refl _,.refl _,.refl _,.refl _,.refl _,.refl _,.refl _,.refl _,.refl _,.refl _,.refl _,.refl _,.dat' rfl,.refl _,.dat' rfl,.refl _,.dat' rfl,.dat' rfl,.dat' rfl,trivial⟩
theorem keepR7_spec (a b n:Int) (st tx nu su gi na bi se:List UInt8) (ex:Int) (pr:List Int) (ba:Bool) (pt:Nat) (td:Int) (fa cu:List Int) (fl:List Flp) (P:List (List Dat)):Spec Tryz.prog 34 [.agg (qBn ⟨7,a,b,n,st,tx,nu,su,gi,na,bi,se,ex,pr,ba,pt,td,fa,cu,fl⟩ P)] [] (fun r h'=>r=.agg (qBn (qBq ⟨7,a,b,n,st,tx,nu,su,gi,na,bi,se,ex,pr,ba,pt,td,fa,cu,fl⟩) [])∧h'=[]):=by
 rw [show qBq ⟨7,a,b,n,st,tx,nu,su,gi,na,bi,se,ex,pr,ba,pt,td,fa,cu,fl⟩=(⟨7,a,b,n,[],[],[],[],[],[],[],[],0,[],false,0,0,[],[],[]⟩:Akt) from rfl]
 unfold qBn
 simp only
 generalize qAl pr=epr
 generalize qAl fa=efa
 generalize qAl cu=ecu
 generalize qAr fl=efl
 refine qAb hT Tryz.func34 rfl rfl rfl rfl ?_;intro E hE
 refine qAf (qAc ?_)
 refine wws ?_
 refine qAf (qAc ?_)
 refine wws ?_
 refine qAi (l:=[(1,.ptr 0 0),(2,.ptr 1 0),(3,.ptr 2 0)]) (h':=[.row [.I 7,.I a,.I b,.I n,.d (.str st),.d (.str tx),.d (.str nu),.d (.str su),.d (.str gi),.d (.str na),.d (.str bi),.d (.str se),.I ex,.d (.sl 1 epr),.d (.bool ba),.d (.sl 5 P),.I td,.d (.sl 1 efa),.d (.sl 1 ecu),.d (.sl 3 efl)],.row (qJm 0),.row [.I 7,.I 0,.I 0,.I 0,.d (.str []),.d (.str []),.d (.str []),.d (.str []),.d (.str []),.d (.str []),.d (.str []),.d (.str []),.I 0,.sl 1 [] .full,.d (.bool false),.sl 5 [] .full,.I 0,.sl 1 [] .full,.sl 1 [] .full,.sl 3 [] .full]]) yf (HLe.refl _) ?_
 refine wwn ?_
 refine qAa rfl (fun q=>absurd q (by decide)) (fun q=>?_)
 refine wwn ?_
 refine qAa rfl (fun q=>absurd q (by decide)) (fun q=>?_)
 refine wwn ?_
 refine qAa rfl (fun q=>absurd q (by decide)) (fun q=>?_)
 refine wwn ?_
 refine qAa rfl (fun q=>absurd q (by decide)) (fun q=>?_)
 refine wwn ?_
 refine qAa rfl (fun q=>absurd q (by decide)) (fun q=>?_)
 refine wwn ?_
 refine qAa rfl (fun q=>absurd q (by decide)) (fun q=>?_)
 refine wwn ?_
 refine qAa rfl (fun q=>absurd q (by decide)) (fun q=>?_)
 refine wwn ?_
 refine qAa rfl (fun q=>absurd q (by decide)) (fun q=>?_)
 refine wwn ?_
 refine qAa rfl (fun q=>?_) (fun q=>absurd q (by decide))
 refine qAv (fun i=>bif Nat.beq i 1||Nat.beq i 3||Nat.beq i 5 then [0] else bif Nat.beq i 7||Nat.beq i 9||Nat.beq i 11 then [2] else []) (fun i=>bif Nat.beq i 7||Nat.beq i 9||Nat.beq i 11 then [2] else []) mixed (by kernel_rfl) ?_
 refine wwg ?_
 refine wwe ?_
 refine qAf (qAc ?_)
 refine qAd (qAo (i:=2) (off:=0) hT rfl rfl rfl (qDa rfl)) rfl ?_
 refine qAu (qAp (i:=1) (off:=0) hT rfl rfl rfl (qEl rfl rfl)) (forceS_eq _ _) ?_
 refine ww ?_
 refine rq ⟨rfl,rfl⟩ rfl ?_
 exact AV.le.agg ⟨.refl _,.refl _,.refl _,.refl _,.refl _,.refl _,.refl _,.refl _,.refl _,.refl _,.refl _,.refl _,.refl _,.dat' rfl,.refl _,.dat' rfl,.refl _,.dat' rfl,.dat' rfl,.dat' rfl,trivial⟩
theorem keepR8_spec (a b n:Int) (st tx nu su gi na bi se:List UInt8) (ex:Int) (pr:List Int) (ba:Bool) (pt:Nat) (td:Int) (fa cu:List Int) (fl:List Flp) (P:List (List Dat)):Spec Tryz.prog 34 [.agg (qBn ⟨8,a,b,n,st,tx,nu,su,gi,na,bi,se,ex,pr,ba,pt,td,fa,cu,fl⟩ P)] [] (fun r h'=>r=.agg (qBn (qBq ⟨8,a,b,n,st,tx,nu,su,gi,na,bi,se,ex,pr,ba,pt,td,fa,cu,fl⟩) [])∧h'=[]):=by
 rw [show qBq ⟨8,a,b,n,st,tx,nu,su,gi,na,bi,se,ex,pr,ba,pt,td,fa,cu,fl⟩=(⟨8,a,b,0,[],[],[],[],[],[],[],[],0,[],false,0,0,[],[],[]⟩:Akt) from rfl]
 unfold qBn
 simp only
 generalize qAl pr=epr
 generalize qAl fa=efa
 generalize qAl cu=ecu
 generalize qAr fl=efl
 refine qAb hT Tryz.func34 rfl rfl rfl rfl ?_;intro E hE
 refine qAf (qAc ?_)
 refine wws ?_
 refine qAf (qAc ?_)
 refine wws ?_
 refine qAi (l:=[(1,.ptr 0 0),(2,.ptr 1 0),(3,.ptr 2 0)]) (h':=[.row [.I 8,.I a,.I b,.I n,.d (.str st),.d (.str tx),.d (.str nu),.d (.str su),.d (.str gi),.d (.str na),.d (.str bi),.d (.str se),.I ex,.d (.sl 1 epr),.d (.bool ba),.d (.sl 5 P),.I td,.d (.sl 1 efa),.d (.sl 1 ecu),.d (.sl 3 efl)],.row (qJm 0),.row [.I 8,.I 0,.I 0,.I 0,.d (.str []),.d (.str []),.d (.str []),.d (.str []),.d (.str []),.d (.str []),.d (.str []),.d (.str []),.I 0,.sl 1 [] .full,.d (.bool false),.sl 5 [] .full,.I 0,.sl 1 [] .full,.sl 1 [] .full,.sl 3 [] .full]]) yf (HLe.refl _) ?_
 refine wwn ?_
 refine qAa rfl (fun q=>absurd q (by decide)) (fun q=>?_)
 refine wwn ?_
 refine qAa rfl (fun q=>absurd q (by decide)) (fun q=>?_)
 refine wwn ?_
 refine qAa rfl (fun q=>absurd q (by decide)) (fun q=>?_)
 refine wwn ?_
 refine qAa rfl (fun q=>absurd q (by decide)) (fun q=>?_)
 refine wwn ?_
 refine qAa rfl (fun q=>absurd q (by decide)) (fun q=>?_)
 refine wwn ?_
 refine qAa rfl (fun q=>absurd q (by decide)) (fun q=>?_)
 refine wwn ?_
 refine qAa rfl (fun q=>absurd q (by decide)) (fun q=>?_)
 refine wwn ?_
 refine qAa rfl (fun q=>?_) (fun q=>absurd q (by decide))
 refine qAv (fun i=>bif Nat.beq i 1||Nat.beq i 3 then [0] else bif Nat.beq i 5||Nat.beq i 7 then [2] else []) (fun i=>bif Nat.beq i 5||Nat.beq i 7 then [2] else []) mixed (by kernel_rfl) ?_
 refine wwg ?_
 refine wwe ?_
 refine qAf (qAc ?_)
 refine qAd (qAo (i:=2) (off:=0) hT rfl rfl rfl (qDa rfl)) rfl ?_
 refine qAu (qAp (i:=1) (off:=0) hT rfl rfl rfl (qEl rfl rfl)) (forceS_eq _ _) ?_
 refine ww ?_
 refine rq ⟨rfl,rfl⟩ rfl ?_
 exact AV.le.agg ⟨.refl _,.refl _,.refl _,.refl _,.refl _,.refl _,.refl _,.refl _,.refl _,.refl _,.refl _,.refl _,.refl _,.dat' rfl,.refl _,.dat' rfl,.refl _,.dat' rfl,.dat' rfl,.dat' rfl,trivial⟩
theorem keepR9_spec (a b n:Int) (st tx nu su gi na bi se:List UInt8) (ex:Int) (pr:List Int) (ba:Bool) (pt:Nat) (td:Int) (fa cu:List Int) (fl:List Flp) (P:List (List Dat)):Spec Tryz.prog 34 [.agg (qBn ⟨9,a,b,n,st,tx,nu,su,gi,na,bi,se,ex,pr,ba,pt,td,fa,cu,fl⟩ P)] [] (fun r h'=>r=.agg (qBn (qBq ⟨9,a,b,n,st,tx,nu,su,gi,na,bi,se,ex,pr,ba,pt,td,fa,cu,fl⟩) [])∧h'=[]):=by
 rw [show qBq ⟨9,a,b,n,st,tx,nu,su,gi,na,bi,se,ex,pr,ba,pt,td,fa,cu,fl⟩=(⟨9,a,0,0,[],tx,[],[],[],[],[],[],0,[],false,0,0,[],[],[]⟩:Akt) from rfl]
 unfold qBn
 simp only
 generalize qAl pr=epr
 generalize qAl fa=efa
 generalize qAl cu=ecu
 generalize qAr fl=efl
 refine qAb hT Tryz.func34 rfl rfl rfl rfl ?_;intro E hE
 refine qAf (qAc ?_)
 refine wws ?_
 refine qAf (qAc ?_)
 refine wws ?_
 refine qAi (l:=[(1,.ptr 0 0),(2,.ptr 1 0),(3,.ptr 2 0)]) (h':=[.row [.I 9,.I a,.I b,.I n,.d (.str st),.d (.str tx),.d (.str nu),.d (.str su),.d (.str gi),.d (.str na),.d (.str bi),.d (.str se),.I ex,.d (.sl 1 epr),.d (.bool ba),.d (.sl 5 P),.I td,.d (.sl 1 efa),.d (.sl 1 ecu),.d (.sl 3 efl)],.row (qJm 0),.row [.I 9,.I 0,.I 0,.I 0,.d (.str []),.d (.str []),.d (.str []),.d (.str []),.d (.str []),.d (.str []),.d (.str []),.d (.str []),.I 0,.sl 1 [] .full,.d (.bool false),.sl 5 [] .full,.I 0,.sl 1 [] .full,.sl 1 [] .full,.sl 3 [] .full]]) yf (HLe.refl _) ?_
 refine wwn ?_
 refine qAa rfl (fun q=>absurd q (by decide)) (fun q=>?_)
 refine wwn ?_
 refine qAa rfl (fun q=>absurd q (by decide)) (fun q=>?_)
 refine wwn ?_
 refine qAa rfl (fun q=>absurd q (by decide)) (fun q=>?_)
 refine wwn ?_
 refine qAa rfl (fun q=>absurd q (by decide)) (fun q=>?_)
 refine wwn ?_
 refine qAa rfl (fun q=>absurd q (by decide)) (fun q=>?_)
 refine wwn ?_
 refine qAa rfl (fun q=>absurd q (by decide)) (fun q=>?_)
 refine wwn ?_
 refine qAa rfl (fun q=>absurd q (by decide)) (fun q=>?_)
 refine wwn ?_
 refine qAa rfl (fun q=>absurd q (by decide)) (fun q=>?_)
 refine wwn ?_
 refine qAa rfl (fun q=>absurd q (by decide)) (fun q=>?_)
 refine wwn ?_
 refine qAa rfl (fun q=>?_) (fun q=>absurd q (by decide))
 refine qAv (fun i=>bif Nat.beq i 1||Nat.beq i 3 then [0] else bif Nat.beq i 5||Nat.beq i 7 then [2] else []) (fun i=>bif Nat.beq i 5||Nat.beq i 7 then [2] else []) mixed (by kernel_rfl) ?_
 refine wwg ?_
 refine wwe ?_
 refine qAf (qAc ?_)
 refine qAd (qAo (i:=2) (off:=0) hT rfl rfl rfl (qDa rfl)) rfl ?_
 refine qAu (qAp (i:=1) (off:=0) hT rfl rfl rfl (qEl rfl rfl)) (forceS_eq _ _) ?_
 refine ww ?_
 refine rq ⟨rfl,rfl⟩ rfl ?_
 exact AV.le.agg ⟨.refl _,.refl _,.refl _,.refl _,.refl _,.refl _,.refl _,.refl _,.refl _,.refl _,.refl _,.refl _,.refl _,.dat' rfl,.refl _,.dat' rfl,.refl _,.dat' rfl,.dat' rfl,.dat' rfl,trivial⟩
theorem keepR10_spec (a b n:Int) (st tx nu su gi na bi se:List UInt8) (ex:Int) (pr:List Int) (ba:Bool) (pt:Nat) (td:Int) (fa cu:List Int) (fl:List Flp) (P:List (List Dat)):Spec Tryz.prog 34 [.agg (qBn ⟨10,a,b,n,st,tx,nu,su,gi,na,bi,se,ex,pr,ba,pt,td,fa,cu,fl⟩ P)] [] (fun r h'=>r=.agg (qBn (qBq ⟨10,a,b,n,st,tx,nu,su,gi,na,bi,se,ex,pr,ba,pt,td,fa,cu,fl⟩) [])∧h'=[]):=by
 rw [show qBq ⟨10,a,b,n,st,tx,nu,su,gi,na,bi,se,ex,pr,ba,pt,td,fa,cu,fl⟩=(⟨10,a,b,0,[],[],[],[],[],[],[],[],0,[],false,0,0,[],cu,fl⟩:Akt) from rfl]
 unfold qBn
 simp only
 generalize qAl pr=epr
 generalize qAl fa=efa
 generalize qAl cu=ecu
 generalize qAr fl=efl
 refine qAb hT Tryz.func34 rfl rfl rfl rfl ?_;intro E hE
 refine qAf (qAc ?_)
 refine wws ?_
 refine qAf (qAc ?_)
 refine wws ?_
 refine qAi (l:=[(1,.ptr 0 0),(2,.ptr 1 0),(3,.ptr 2 0)]) (h':=[.row [.I 10,.I a,.I b,.I n,.d (.str st),.d (.str tx),.d (.str nu),.d (.str su),.d (.str gi),.d (.str na),.d (.str bi),.d (.str se),.I ex,.d (.sl 1 epr),.d (.bool ba),.d (.sl 5 P),.I td,.d (.sl 1 efa),.d (.sl 1 ecu),.d (.sl 3 efl)],.row (qJm 0),.row [.I 10,.I 0,.I 0,.I 0,.d (.str []),.d (.str []),.d (.str []),.d (.str []),.d (.str []),.d (.str []),.d (.str []),.d (.str []),.I 0,.sl 1 [] .full,.d (.bool false),.sl 5 [] .full,.I 0,.sl 1 [] .full,.sl 1 [] .full,.sl 3 [] .full]]) yf (HLe.refl _) ?_
 refine wwn ?_
 refine qAa rfl (fun q=>absurd q (by decide)) (fun q=>?_)
 refine wwn ?_
 refine qAa rfl (fun q=>absurd q (by decide)) (fun q=>?_)
 refine wwn ?_
 refine qAa rfl (fun q=>absurd q (by decide)) (fun q=>?_)
 refine wwn ?_
 refine qAa rfl (fun q=>absurd q (by decide)) (fun q=>?_)
 refine wwn ?_
 refine qAa rfl (fun q=>absurd q (by decide)) (fun q=>?_)
 refine wwn ?_
 refine qAa rfl (fun q=>absurd q (by decide)) (fun q=>?_)
 refine wwn ?_
 refine qAa rfl (fun q=>absurd q (by decide)) (fun q=>?_)
 refine wwn ?_
 refine qAa rfl (fun q=>absurd q (by decide)) (fun q=>?_)
 refine wwn ?_
 refine qAa rfl (fun q=>absurd q (by decide)) (fun q=>?_)
 refine wwn ?_
 refine qAa rfl (fun q=>absurd q (by decide)) (fun q=>?_)
 refine wwn ?_
 refine qAa rfl (fun q=>?_) (fun q=>absurd q (by decide))
 refine qAv (fun i=>bif Nat.beq i 1||Nat.beq i 3||Nat.beq i 5 then [0] else bif Nat.beq i 7||Nat.beq i 9||Nat.beq i 11 then [2] else []) (fun i=>bif Nat.beq i 7||Nat.beq i 9||Nat.beq i 11 then [2] else []) mixed (by kernel_rfl) ?_
 refine wwg ?_
 refine wwe ?_
 refine qAf (qAc ?_)
 refine qAd (qAo (i:=2) (off:=0) hT rfl rfl rfl (qDa rfl)) rfl ?_
 refine qAu (qAp (i:=1) (off:=0) hT rfl rfl rfl (qEl rfl rfl)) (forceS_eq _ _) ?_
 refine ww ?_
 refine rq ⟨rfl,rfl⟩ rfl ?_
 exact AV.le.agg ⟨.refl _,.refl _,.refl _,.refl _,.refl _,.refl _,.refl _,.refl _,.refl _,.refl _,.refl _,.refl _,.refl _,.dat' rfl,.refl _,.dat' rfl,.refl _,.dat' rfl,.refl _,.refl _,trivial⟩
theorem keepR11_spec (a b n:Int) (st tx nu su gi na bi se:List UInt8) (ex:Int) (pr:List Int) (ba:Bool) (pt:Nat) (td:Int) (fa cu:List Int) (fl:List Flp) (P:List (List Dat)):Spec Tryz.prog 34 [.agg (qBn ⟨11,a,b,n,st,tx,nu,su,gi,na,bi,se,ex,pr,ba,pt,td,fa,cu,fl⟩ P)] [] (fun r h'=>r=.agg (qBn (qBq ⟨11,a,b,n,st,tx,nu,su,gi,na,bi,se,ex,pr,ba,pt,td,fa,cu,fl⟩) [])∧h'=[]):=by
 rw [show qBq ⟨11,a,b,n,st,tx,nu,su,gi,na,bi,se,ex,pr,ba,pt,td,fa,cu,fl⟩=(⟨11,0,0,0,st,tx,[],[],[],[],[],[],0,[],false,0,0,[],[],[]⟩:Akt) from rfl]
 unfold qBn
 simp only
 generalize qAl pr=epr
 generalize qAl fa=efa
 generalize qAl cu=ecu
 generalize qAr fl=efl
 refine qAb hT Tryz.func34 rfl rfl rfl rfl ?_;intro E hE
 refine qAf (qAc ?_)
 refine wws ?_
 refine qAf (qAc ?_)
 refine wws ?_
 refine qAi (l:=[(1,.ptr 0 0),(2,.ptr 1 0),(3,.ptr 2 0)]) (h':=[.row [.I 11,.I a,.I b,.I n,.d (.str st),.d (.str tx),.d (.str nu),.d (.str su),.d (.str gi),.d (.str na),.d (.str bi),.d (.str se),.I ex,.d (.sl 1 epr),.d (.bool ba),.d (.sl 5 P),.I td,.d (.sl 1 efa),.d (.sl 1 ecu),.d (.sl 3 efl)],.row (qJm 0),.row [.I 11,.I 0,.I 0,.I 0,.d (.str []),.d (.str []),.d (.str []),.d (.str []),.d (.str []),.d (.str []),.d (.str []),.d (.str []),.I 0,.sl 1 [] .full,.d (.bool false),.sl 5 [] .full,.I 0,.sl 1 [] .full,.sl 1 [] .full,.sl 3 [] .full]]) yf (HLe.refl _) ?_
 refine wwn ?_
 refine qAa rfl (fun q=>absurd q (by decide)) (fun q=>?_)
 refine wwn ?_
 refine qAa rfl (fun q=>absurd q (by decide)) (fun q=>?_)
 refine wwn ?_
 refine qAa rfl (fun q=>?_) (fun q=>absurd q (by decide))
 refine qAv (fun i=>bif Nat.beq i 1||Nat.beq i 3 then [0] else bif Nat.beq i 5||Nat.beq i 7 then [2] else []) (fun i=>bif Nat.beq i 5||Nat.beq i 7 then [2] else []) mixed (by kernel_rfl) ?_
 refine wwg ?_
 refine wwe ?_
 refine qAf (qAc ?_)
 refine qAd (qAo (i:=2) (off:=0) hT rfl rfl rfl (qDa rfl)) rfl ?_
 refine qAu (qAp (i:=1) (off:=0) hT rfl rfl rfl (qEl rfl rfl)) (forceS_eq _ _) ?_
 refine ww ?_
 refine rq ⟨rfl,rfl⟩ rfl ?_
 exact AV.le.agg ⟨.refl _,.refl _,.refl _,.refl _,.refl _,.refl _,.refl _,.refl _,.refl _,.refl _,.refl _,.refl _,.refl _,.dat' rfl,.refl _,.dat' rfl,.refl _,.dat' rfl,.dat' rfl,.dat' rfl,trivial⟩
end Tdoc
