/- Part 13 of the proof: the texts UQ SE RB0 J1 JA JB JC J2 J3 J4 J5 J6 Y8 ZR ZQ ZU Y9 XA XL XM XN XO XP J7 J8 J9 JD JE JF. -/
import Derived.Test.YtlfiejdnlcbpgaaGreatDoorCN12
set_option maxHeartbeats 8000000
set_option maxRecDepth 100000
set_option linter.unusedVariables false
set_option linter.unusedSimpArgs false
namespace Tdoc
open Go Go.Proofs
theorem vCe {x:Akt} (hk:1≤x.kind∧x.kind≤11) (hs:qHp x) (hp:qJi x):qRx (joi 32 (qBw x))=(qBn (qHg x) [],true)∧(qHg x).pts=0:=by
 have h1:=qYp hk (okQ_of hs hp)
 rcases scanC_F (joi 32 (qBw x)) with ⟨y,h2,h3,h4,h5⟩ | ⟨h2,_⟩
 ·rw [h1] at h2
  cases h2
  exact ⟨h3,h5⟩
 ·rw [h1] at h2;cases h2
theorem nameK_at {k:Int} (h:1≤k∧k≤11):(qAg qBt)[(k-1).toNat]?=some [.str (qAx k)]:=by
 rcases (by omega:k=1∨k=2∨k=3∨k=4∨k=5∨k=6∨k=7∨k=8∨k=9∨k=10∨k=11) with rfl | rfl | rfl | rfl | rfl | rfl | rfl | rfl | rfl | rfl | rfl <;> rfl
theorem vBn (x:Akt) (P:List (List Dat)):qBl 2 (qBn x P).tail=true:=rfl
theorem qQz (x:Akt) (P:List (List Dat)) (hx:ActLen x P) (hr : -9223372036854775808≤x.kind∧x.kind≤9223372036854775807):Spec Tryz.prog 9 [.agg (qBn x P)] [] (fun r h'=>r=.d (.str (lineK x))∧h'=[]):=by
 have hS:=smallC_spec x P hx
 have hP:=plainC_spec x P hx
 have hi:=vCg x
 have hno:=@lineK_no x
 have hyes:LineOk x→lineK x=joi 32 (qBw x):=fun h=>by unfold lineK;rw [if_pos h]
 have hsb:=numsA_iff x
 have hpb:=plainB_iff x
 have hnl:(qAg qBt).length=11:=rfl
 have hcell:qBn x P=.I x.kind::(qBn x P).tail:=rfl
 by_cases hk:1≤x.kind∧x.kind≤11
 case neg =>
  rw [hno (fun h=>hk (hi.1 h).1)]
  clear hi hno hyes hsb hpb
  generalize (qSg x).any vBg=b1 at hS
  generalize qLb x=b2 at hP
  unfold qBn at *
  refine qAb hT Tryz.func9 rfl rfl rfl rfl ?_;intro E hE
  refine ww ?_
  refine wwgc namesC_spec ?_
  refine ww ?_
  refine wwgc hS ?_
  refine ww ?_
  refine wwgc hP ?_
  refine ww ?_
  refine qAa rfl (fun q=>?_) (fun q=>?_)
  ·refine ww ?_
   exact wwr
  ·exfalso
   rw [hnl] at q
   simp at q
   omega
 by_cases hb:(qSg x).any vBg=false∧qLb x=true
 case neg =>
  rw [hno (fun h=>hb ⟨hsb.2 (hi.1 h).2.1,hpb.2 (hi.1 h).2.2.1⟩)]
  clear hi hno hyes hsb hpb
  generalize (qSg x).any vBg=b1 at hS hb
  generalize qLb x=b2 at hP hb
  unfold qBn at *
  refine qAb hT Tryz.func9 rfl rfl rfl rfl ?_;intro E hE
  refine ww ?_
  refine wwgc namesC_spec ?_
  refine ww ?_
  refine wwgc hS ?_
  refine ww ?_
  refine wwgc hP ?_
  refine ww ?_
  refine qAa rfl (fun q=>?_) (fun q=>?_)
  ·refine ww ?_
   exact wwr
  ·exfalso
   simp at q
   exact hb ⟨q.1.2,q.2⟩
 obtain ⟨hb1,hb2⟩:=hb
 have hsm:=hsb.1 hb1
 have hpl:=hpb.1 hb2
 obtain ⟨hsc,hpt⟩:=vCe hk hsm hpl
 have hfk:=vIf hx hsm
 have hll:=vCf hfk
 have hjn:∀ l,l=qBw x→Spec Tryz.prog 29 [.d (.sl 1 (qAg l)),.d (.str [32])] [] (fun r h'=>r=.d (.str (joi 32 (qBw x)))∧h'=[]):=fun l hl=>by
  subst hl
  exact qRc 32 (qBw x) (by have:=(qNb x).2;unfold qBw;simp;omega) (by omega)
 have hscan:=qPd (joi 32 (qBw x)) hll
 rw [hsc] at hscan
 have hsame:=sameC_spec x (qHg x) P (by have:=hx.nums;omega) (by have:=hx.nums;omega) (by have:=hx.nums;omega) (by have:=hx.nums;omega)
 have hsi:=sameB_iff (y:=qHg x) hx.pts hpt
 have hfin:lineK x=if qRy x (qHg x) P then joi 32 (qBw x) else []:=by
  by_cases h:qRy x (qHg x) P=true
  ·rw [if_pos h];exact hyes (hi.2 ⟨hk,hsm,hpl,hsi.1 h⟩)
  ·rw [if_neg h];exact hno (fun hh=>h (hsi.2 (hi.1 hh).2.2.2))
 rw [hfin,hcell]
 rw [hb1] at hS
 rw [hb2] at hP
 rw [hcell] at hS hP hsame
 have hf:=fieldsC_spec x.kind (qBn x P).tail (vBn x P) hk
 have hFO:=vIr x P hk
 have hnk:=nameK_at hk
 have hWR:∀ f,f∈qAt x→∀ off,(qBn x P)[off]?=some (qDv f)→Spec Tryz.prog 28 [.ifa (tyS (qDr f)) (.ptr 0 off)] [.row (qBn x P)] (fun r h'=>r=.d (.str (wrF f))∧h'=[.row (qBn x P)]):=fun f hf off hC=>writeC_spec f (hfk f hf) _ off hC rfl
 obtain ⟨hfl,hfl11⟩:=qNb x
 rw [hcell] at hFO hWR
 have hwd:qBw x=qAx x.kind::(qAt x).map wrF:=rfl
 have hlowC:qBl 0 (.I x.kind::(qBn x P).tail)=true:=rfl
 have hl20:(.I x.kind::(qBn x P).tail:List AV).length=20:=rfl
 clear hsb hpb hi hno hyes hsm hpl hsc hfk hll hfin hsi hx hcell hb1 hb2
 generalize qRy x (qHg x) P=eqb at hsame ⊢
 generalize hJ:joi 32 (qBw x)=J at hjn hscan ⊢
 clear hpt
 generalize qHg x=y at *
 obtain ⟨k',a',b',n',st',tx',nu',su',gi',na',bi',se',ex',pr',ba',pt',td',fa',cu',fl'⟩:=y
 generalize qBg x.kind=of at *
 generalize qAt x=fs at *
 generalize qAx x.kind=nm at *
 clear hJ
 generalize qBw x=W at *
 obtain ⟨k,a,b,n,st,tx,nu,su,gi,na,bi,se,ex,pr,ba,pt,td,fa,cu,fl⟩:=x
 unfold qBn at *
 simp only [List.tail_cons] at *
 refine qAb hT Tryz.func9 rfl rfl rfl rfl ?_;intro E hE
 refine qAq (qAq ?_)
 refine qAf (qAc ?_)
 refine wws ?_
 refine ww ?_
 refine wwgc namesC_spec ?_
 refine ww ?_
 refine wwgc hS ?_
 refine ww ?_
 refine wwgc hP ?_
 refine ww ?_
 refine qAa rfl (fun q=>?_) (fun q=>?_)
 ·exfalso
  rw [hnl] at q
  simp at q
  omega
 have hwk:IntKind.i64.wrap (k-1)=k-1:=qAh (by omega)
 have hnk':(qAg qBt)[(IntKind.i64.wrap (k-1)).toNat]?=some [.str nm]:=by rw [hwk];exact hnk
 refine ww ?_
 refine wwc namesC_spec ?_
 refine ww ?_
 refine wwi hnk' ?_
 refine wwn ?_
 refine qAd (qFd (v:=.row 0 0 of.length of.length) (H':=[.row (qHv (fsf [2,0]) (qDi of)),.room,.row [.I k,.I a,.I b,.I n,.d (.str st),.d (.str tx),.d (.str nu),.d (.str su),.d (.str gi),.d (.str na),.d (.str bi),.d (.str se),.I ex,.d (.sl 1 (qAl pr)),.d (.bool ba),.d (.sl 5 P),.I td,.d (.sl 1 (qAl fa)),.d (.sl 1 (qAl cu)),.d (.sl 3 (qAr fl))]]) rfl rfl hf [2,0] (by decide) rfl rfl rfl rfl rfl rfl) rfl ?_
 rw [renL_ifa]
 refine wwn ?_
 refine qBc 3 1 1 (es:=[[.str nm]]) (.inl rfl) rfl ?_
 refine qAn (ι:=Nat) (fun i=>[(1,.ptr 2 0),(3,.sl 1 (qAg (nm::(fs.take i).map wrF)) (.right 1)),(36,.row 0 0 of.length of.length),(37,.I (of.length:Int)),(38,.I (i:Int))])
  (fun i=>[.row (vFm 2 of),.right 1 (qAg (nm::(fs.take i).map wrF)).length,.row [.I k,.I a,.I b,.I n,.d (.str st),.d (.str tx),.d (.str nu),.d (.str su),.d (.str gi),.d (.str na),.d (.str bi),.d (.str se),.I ex,.d (.sl 1 (qAl pr)),.d (.bool ba),.d (.sl 5 P),.I td,.d (.sl 1 (qAl fa)),.d (.sl 1 (qAl cu)),.d (.sl 3 (qAr fl))]]) (fun i=>i≤fs.length) (fun i=>fs.length-i) 0 (Nat.zero_le _)
  yf (HLe.refl _) ?_
 intro i hi
 refine ww ?_
 refine qAa rfl (fun c3=>?_) (fun c3=>?_)
 ·have hi':i < fs.length:=by simp at c3;omega
  obtain ⟨o,ho1,ho2⟩:=vIq hFO hi'
  have hcl:(vFm 2 of)[0+((i:Int)).toNat*1]?=some (.ifa (tyS (qDr fs[i])) (.ptr 2 o)):=by simp [vFm,ho1]
  have hw:=hWR fs[i] (List.getElem_mem hi') o ho2
  have htk:fs.take (i+1)=fs.take i++[fs[i]]:=List.take_succ_eq_append_getElem hi'
  have hsn:qAg (nm::(fs.take (i+1)).map wrF)=qAg (nm::(fs.take i).map wrF)++[[.str (wrF fs[i])]]:=by rw [htk,List.map_append,← List.cons_append];exact strsAV_snoc _ _
  have hln:(qAg (nm::(fs.take i).map wrF)).length≤12:=by rw [strsAV_length,List.length_cons,List.length_map,List.length_take];omega
  generalize qAg (nm::(fs.take i).map wrF)=S at hsn hln ⊢
  generalize wrF fs[i]=wd at hw hsn
  generalize tyS (qDr fs[i])=ty at hw hcl
  clear hWR hFO ho1 ho2 htk
  refine ww ?_
  refine qAd (qAe (rowAddr_ok (sz:=1) hT rfl rfl rfl rfl (by omega))) rfl ?_
  refine qAd (qCv (i:=0) hT rfl rfl rfl rfl rfl hcl) rfl ?_
  refine ww ?_
  refine qAd (qAk rfl rfl hw [2] (by decide) rfl rfl rfl rfl rfl rfl rfl) rfl ?_
  refine ww ?_
  refine qAd (qAs (i:=1) hT rfl rfl rfl rfl rfl rfl (by show (S.length+1)*(16+1)≤_;omega)) rfl ?_
  refine ww ?_
  exact ⟨i+1,hi',by omega,⟨.refl _,AV.le.eq (by rw [hsn];rfl),.refl _,.refl _,.int (by rw [qAh (by omega)];omega),trivial⟩,⟨.refl _,by rw [hsn];exact ObLe.refl _,.refl _,trivial⟩⟩
 have hi':i=fs.length:=by simp at c3;omega
 subst hi'
 rw [List.take_length,← hwd]
 have hj:=hjn W rfl
 refine qBr ?_
 refine qAi (l:=[(1,.ptr 2 0),(3,.d (.sl 1 (qAg W)))]) ⟨.refl _,.dat,trivial⟩ (HLe.refl _) ?_
 generalize qAg W=SW at hj ⊢
 clear hjn hWR hFO hf hwd
 refine ww ?_
 refine wwc hj ?_
 refine ww ?_
 refine wwc hscan ?_
 refine ww ?_
 refine wwgc hsame ?_
 refine ww ?_
 cases eqb with
 | false =>
  refine qAa rfl (fun q=>?_) (fun q=>absurd q (by decide))
  refine ww ?_
  exact wwr
 | true =>
  refine qAa rfl (fun q=>absurd q (by decide)) (fun q=>?_)
  refine ww ?_
  exact wwr
theorem qXq (s:List UInt8) (hs:s.length≤1500):Spec Tryz.prog 6 [.d (.str s)] [] (fun r h'=>r=.tup [.agg (qBn (readO s).1 []),.d (.int .i64 (readO s).2)]∧h'=[]):=by
 have hr:=kindN_range ((spl 32 s).getD 0 [])
 rcases (by omega:qBh ((spl 32 s).getD 0 [])=0∨qBh ((spl 32 s).getD 0 [])=1∨qBh ((spl 32 s).getD 0 [])=2∨qBh ((spl 32 s).getD 0 [])=3∨qBh ((spl 32 s).getD 0 [])=4∨qBh ((spl 32 s).getD 0 [])=5∨qBh ((spl 32 s).getD 0 [])=6∨qBh ((spl 32 s).getD 0 [])=7∨qBh ((spl 32 s).getD 0 [])=8∨qBh ((spl 32 s).getD 0 [])=9∨qBh ((spl 32 s).getD 0 [])=10∨qBh ((spl 32 s).getD 0 [])=11) with h | h | h | h | h | h | h | h | h | h | h | h
 ·exact qTy s hs h
 ·exact qTx s hs h
 ·exact qTw s hs h
 ·exact qTv s hs h
 ·exact qTu s hs h
 ·exact qTt s hs h
 ·exact qTs s hs h
 ·exact qTr s hs h
 ·exact qTq s hs h
 ·exact qTp s hs h
 ·exact qQx s hs h
 ·exact qQw s hs h
def vIz (m:Nat):Fld→Prop
 | .num _=>True
 | .txt s=>s.length≤m
 | .rst s=>s.length≤m
 | .flg _=>True
 | .nums l=>l.length≤m+1
 | .flps l=>l.length≤m+1
theorem allW_len {α:Type} {f:List UInt8→Option α}:∀ {l:List (List UInt8)} {r:List α},vAh f l=some r→r.length=l.length
 | [],r,h=>by simp [vAh] at h;subst h;rfl
 | w::l,r,h=>by
  unfold vAh at h
  cases h1:f w with
  | none=>rw [h1] at h;simp at h
  | some a =>
   cases h2:vAh f l with
   | none=>rw [h1,h2] at h;simp at h
   | some q =>
    rw [h1,h2] at h
    simp at h
    subst h
    have:=allW_len h2
    simp [this]
theorem rdF_len {s:Shp} {w:List UInt8} {f:Fld} {m:Nat} (hw:w.length≤m) (h:rdF s w=some f):vIz m f:=by
 cases s with
 | num =>
  simp only [rdF,Option.map_eq_some_iff] at h
  obtain ⟨n,_,rfl⟩:=h
  trivial
 | txt=>simp only [rdF,Option.some.injEq] at h;subst h;show (qBa w).length≤m;have:=qCo w;omega
 | rst=>simp only [rdF,Option.some.injEq] at h;subst h;exact hw
 | flg=>simp only [rdF,Option.some.injEq] at h;subst h;trivial
 | nums =>
  simp only [rdF,Option.map_eq_some_iff] at h
  obtain ⟨l,h1,rfl⟩:=h
  show l.length≤m+1
  have:=allW_len h1
  have:=qEf w
  omega
 | flps =>
  simp only [rdF,Option.map_eq_some_iff] at h
  obtain ⟨l,h1,rfl⟩:=h
  show l.length≤m+1
  have:=allW_len h1
  have:=qEf w
  omega
theorem rdAll_len {m:Nat}:∀ {ss:List Shp} {ws:List (List UInt8)} {fs:List Fld},(∀ w,w∈ws→w.length≤m)→qHw ss ws=some fs→∀ f,f∈fs→vIz m f
 | [],[],fs,_,h=>by simp [qHw] at h;subst h;intro f hf;cases hf
 | [],w::ws,fs,_,h=>by simp [qHw] at h
 | s::ss,[],fs,_,h=>by simp [qHw] at h
 | s::ss,w::ws,fs,hw,h=>by
  unfold qHw at h
  cases h1:rdF s w with
  | none=>rw [h1] at h;simp at h
  | some a =>
   cases h2:qHw ss ws with
   | none=>rw [h1,h2] at h;simp at h
   | some q =>
    rw [h1,h2] at h
    simp at h
    subst h
    intro f hf
    rcases List.mem_cons.1 hf with rfl | hf
    ·exact rdF_len (hw w List.mem_cons_self) h1
    ·exact rdAll_len (fun v hv=>hw v (List.mem_cons_of_mem _ hv)) h2 f hf
theorem setA_len {m:Nat} (hm:m≤1500) (k:Int) (fs:List Fld) (h:∀ f,f∈fs→vIz m f):ActLen (qNl k fs) []:=by
 unfold qNl
 split
 ·split <;> exact ⟨rfl,by simp [akt0],by simp [akt0]⟩
 ·rename_i s t
  have h1:s.length≤m:=h (.txt s) (by simp)
  have h2:t.length≤m:=h (.txt t) (by simp)
  exact ⟨rfl,by simp [akt0],by simp [akt0];omega⟩
 ·rename_i s t
  have h1:s.length≤m:=h (.txt s) (by simp)
  have h2:t.length≤m:=h (.rst t) (by simp)
  exact ⟨rfl,by simp [akt0],by simp [akt0];omega⟩
 ·rename_i a nu su gi na bi se ex ba pr fa
  have h1:nu.length≤m:=h (.txt nu) (by simp)
  have h2:su.length≤m:=h (.txt su) (by simp)
  have h3:gi.length≤m:=h (.txt gi) (by simp)
  have h4:na.length≤m:=h (.txt na) (by simp)
  have h5:bi.length≤m:=h (.txt bi) (by simp)
  have h6:se.length≤m:=h (.txt se) (by simp)
  have h7:pr.length≤m+1:=h (.nums pr) (by simp)
  have h8:fa.length≤m+1:=h (.nums fa) (by simp)
  exact ⟨rfl,by simp [akt0];omega,by simp [akt0];omega⟩
 ·exact ⟨rfl,by simp [akt0],by simp [akt0]⟩
 ·rename_i a t
  have h2:t.length≤m:=h (.txt t) (by simp)
  exact ⟨rfl,by simp [akt0],by simp [akt0];omega⟩
 ·rename_i a b c f
  have h1:c.length≤m+1:=h (.nums c) (by simp)
  have h2:f.length≤m+1:=h (.flps f) (by simp)
  exact ⟨rfl,by simp [akt0];omega,by simp [akt0]⟩
 ·exact ⟨rfl,by simp [akt0],by simp [akt0]⟩
 ·exact ⟨rfl,by simp [akt0],by simp [akt0]⟩
theorem scanF_len {s:List UInt8} (hs:s.length≤1500) {x:Akt} (h:qHr s=some x):ActLen x []:=by
 unfold qHr at h
 cases hv:spl 32 s with
 | nil=>rw [hv] at h;simp at h
 | cons w ws =>
  rw [hv] at h
  simp only at h
  split at h
  ·simp at h
  ·rw [Option.map_eq_some_iff] at h
   obtain ⟨fs,h1,rfl⟩:=h
   refine setA_len (Nat.le_refl _) _ fs (rdAll_len (m:=1500) (fun v hv2=>?_) h1)
   split at hv2
   ·exact Nat.le_trans (splN_part_len 2 s v (List.mem_of_mem_drop hv2)) hs
   ·exact Nat.le_trans (qBs s v (by rw [hv];exact List.mem_cons_of_mem _ hv2)) hs
theorem scanF_ne {s:List UInt8} {x:Akt} (h:qHr s=some x):s≠[]:=fun hh=>by
 subst hh
 have:qHr []=none:=rfl
 rw [this] at h
 cases h
theorem readO_some {s:List UInt8} {x:Akt} (h:qHr s=some x):readO s=if lineK x=s then (x,0) else (akt0,77):=by
 have hs:=scanF_ne h
 unfold readO
 by_cases hl:lineK x=s
 ·have:=(qEa s x hs).1 ⟨h,hl⟩
  rw [this.1,if_pos ⟨hs,hl⟩,if_pos hl]
 ·rw [if_neg hl,if_neg]
  rintro ⟨_,h2⟩
  have:=(qEa s (qDk s) hs).2 ⟨rfl,h2⟩
  rw [h] at this
  have hx:=Option.some.inj this.1
  exact hl (by rw [hx];exact h2)
theorem readO_none {s:List UInt8} (h:qHr s=none):readO s=(akt0,77):=by
 unfold readO
 rw [if_neg]
 rintro ⟨hs,h2⟩
 have:=(qEa s (qDk s) hs).2 ⟨rfl,h2⟩
 rw [h] at this
 cases this.1
theorem qGk (s:List UInt8) (hs:s.length≤1500):Spec Tryz.prog 5 [.d (.str s)] [] (fun r h'=>r=.tup [.agg (qBn (readO s).1 []),.d (.int .i64 (readO s).2)]∧h'=[]):=by
 have hS:=qPd s (by omega)
 rcases scanC_F s with ⟨x,h1,h2,h3,h4⟩ | ⟨h1,x,h2,h4⟩
 ·rw [h2] at hS
  simp only at hS
  have hL:=qQz x [] (scanF_len hs h1) (by omega)
  rw [readO_some h1]
  clear h1 h2 h3 h4
  generalize lineK x=z at hL ⊢
  refine qAb hT Tryz.func5 rfl rfl rfl rfl ?_;intro E hE
  refine qAf (qAc ?_)
  refine wws ?_
  refine qAf (qAc ?_)
  refine wk hT rfl rfl ?_
  refine wwc hS ?_
  refine wk hT rfl rfl ?_
  refine wk hT rfl rfl ?_
  refine wk hT rfl rfl ?_
  refine wk hT rfl rfl ?_
  refine qAu (qAp (i:=1) (off:=0) hT rfl rfl rfl (qEl rfl rfl)) (forceS_eq _ _) ?_
  refine wws ?_
  refine qAi (l:=[(0,.d (.str s)),(2,.ptr 0 0),(4,.ptr 1 0),(5,.d (.bool true))]) (h':=[.row (qJm 0),.row (qBn x [])]) yf (HLe.refl _) ?_
  refine qAf (qAf (qAc ?_))
  refine wk hT rfl rfl ?_
  refine wk hT rfl rfl ?_
  refine wk hT rfl rfl ?_
  refine qCd (v:=.agg (qBn x [])) rfl rfl rfl (fun hg=>⟨(sg (C:=True) hg).1,qAo (i:=1) (off:=0) hT rfl rfl rfl (qDa rfl)⟩) ?_
  refine wwgc hL ?_
  refine ww ?_
  by_cases hzs:z=s
  ·rw [if_pos hzs]
   refine qAa rfl (fun q=>?_) (fun q=>?_)
   ·exfalso
    rw [hzs] at q
    simp at q
   refine wwe ?_
   refine qAf (qAc ?_)
   refine qAd (qAo (i:=1) (off:=0) hT rfl rfl rfl (qDa (C:=qBn x []) rfl)) rfl ?_
   refine qAu (qAp (i:=0) (off:=0) hT rfl rfl rfl (qEl (C:=qBn x []) rfl rfl)) (forceS_eq _ _) ?_
   refine ww ?_
   exact rq ⟨rfl,rfl⟩ rfl (.refl _)
  ·rw [if_neg hzs]
   refine qAa rfl (fun q=>?_) (fun q=>?_)
   case refine_2 =>
    exfalso
    simp at q
    exact hzs q
   refine qAf (qAc ?_)
   refine wk hT rfl rfl ?_
   refine qAu (qAp (i:=0) (off:=0) hT rfl rfl rfl (qEl rfl rfl)) (forceS_eq _ _) ?_
   refine ww ?_
   refine rq ⟨rfl,rfl⟩ rfl ?_
   exact AV.le.tup ⟨AV.le.agg (actZ_le 0),.refl _,trivial⟩
 ·rw [h2] at hS
  simp only at hS
  rw [readO_none h1]
  clear h1 h2 h4
  refine qAb hT Tryz.func5 rfl rfl rfl rfl ?_;intro E hE
  refine qAf (qAc ?_)
  refine wws ?_
  refine qAf (qAc ?_)
  refine wk hT rfl rfl ?_
  refine wwc hS ?_
  refine wk hT rfl rfl ?_
  refine wk hT rfl rfl ?_
  refine wk hT rfl rfl ?_
  refine wk hT rfl rfl ?_
  refine qAu (qAp (i:=1) (off:=0) hT rfl rfl rfl (qEl rfl rfl)) (forceS_eq _ _) ?_
  refine wws ?_
  refine qAi (l:=[(0,.d (.str s)),(2,.ptr 0 0),(4,.ptr 1 0),(5,.d (.bool false))]) (h':=[.row (qJm 0),.row (qBn x [])]) yf (HLe.refl _) ?_
  refine qAf (qAf (qAc ?_))
  refine wk hT rfl rfl ?_
  refine wk hT rfl rfl ?_
  refine wk hT rfl rfl ?_
  refine wwk (show (!false)=true from rfl) ?_
  refine qAa rfl (fun q=>?_) (fun q=>absurd q (by decide))
  refine qAf (qAc ?_)
  refine wk hT rfl rfl ?_
  refine qAu (qAp (i:=0) (off:=0) hT rfl rfl rfl (qEl rfl rfl)) (forceS_eq _ _) ?_
  refine ww ?_
  refine rq ⟨rfl,rfl⟩ rfl ?_
  exact AV.le.tup ⟨AV.le.agg (actZ_le 0),.refl _,trivial⟩
end Tdoc
namespace Tdoc
open Go
theorem powX_eq:∀ (m x k out:Nat),k < 2 ^ m→out < pG→qVk m x k out=out*x ^ k % pG
 | 0,x,k,out,hk,ho=>by
  have:k=0:=by simpa using hk
  subst this
  rw [qVk,Nat.pow_zero,Nat.mul_one,Nat.mod_eq_of_lt ho]
 | m+1,x,k,out,hk,ho=>by
  rw [qVk]
  by_cases h0:k=0
  ·subst h0;rw [if_pos rfl,Nat.pow_zero,Nat.mul_one,Nat.mod_eq_of_lt ho]
  ·rw [if_neg h0]
   have hk2:k / 2 < 2 ^ m:=by rw [Nat.pow_succ] at hk;omega
   have hpg:0 < pG:=by decide
   have hsq:(x*x % pG) ^ (k / 2) % pG=x ^ (2*(k / 2)) % pG:=by rw [← Nat.pow_mod,Nat.pow_mul,Nat.pow_two]
   by_cases h1:k % 2=1
   ·rw [if_pos h1,powX_eq m _ _ _ hk2 (Nat.mod_lt _ hpg),Nat.mul_mod,Nat.mod_mod,hsq,← Nat.mul_mod]
    have e:k=2*(k / 2)+1:=by omega
    conv=>rhs;rw [e,Nat.pow_succ]
    rw [Nat.mul_assoc,Nat.mul_comm x,← Nat.mul_assoc,Nat.mul_assoc out,← Nat.mul_assoc]
   ·rw [if_neg h1,powX_eq m _ _ _ hk2 ho,Nat.mul_mod,hsq,← Nat.mul_mod]
    have e:k=2*(k / 2):=by omega
    conv=>rhs;rw [e]
def vCa (q:Nat):Nat→Bool
 | 0=>true
 | d+1=>(Nat.ble (d+1) 1||!Nat.beq (q % (d+1)) 0)&&vCa q d
theorem noDiv_at {q:Nat}:∀ {n d:Nat},vCa q n=true→2≤d→d≤n→q % d≠0
 | 0,d,_,h1,h2=>by omega
 | n+1,d,h,h1,h2=>by
  simp only [vCa,Bool.and_eq_true,Bool.or_eq_true,Bool.not_eq_true'] at h
  by_cases he:d=n+1
  ·subst he
   rcases h.1 with h3 | h3
   ·have:=Nat.le_of_ble_eq_true h3;omega
   ·exact Nat.ne_of_beq_eq_false h3
  ·exact noDiv_at h.2 h1 (by omega)
theorem qG_noDiv:vCa qG 32768=true:=by kernel_rfl
theorem qG_coprime {k:Nat} (h1:0 < k) (h2:k < qG):Nat.gcd k qG=1:=by
 have hd:Nat.gcd k qG ∣ qG:=Nat.gcd_dvd_right k qG
 have hk:Nat.gcd k qG≤k:=Nat.gcd_le_left _ h1
 have hp:0 < Nat.gcd k qG:=Nat.gcd_pos_of_pos_left _ h1
 generalize Nat.gcd k qG=g at hd hk hp
 obtain ⟨c,hc⟩:=hd
 by_cases hg:g=1
 ·exact hg
 exfalso
 have hq:qG=1073741789:=rfl
 have hc2:2≤c:=by
  rcases Nat.lt_or_ge c 2 with h | h
  ·have:c=0∨c=1:=by omega
   rcases this with rfl | rfl
   ·omega
   ·omega
  ·exact h
 rcases Nat.lt_or_ge g 32769 with hl | hl
 ·exact noDiv_at qG_noDiv (d:=g) (by omega) (by omega) (by rw [hc];exact Nat.mul_mod_right g c)
 ·rcases Nat.lt_or_ge c 32769 with hm | hm
  ·exact noDiv_at qG_noDiv (d:=c) hc2 (by omega) (by rw [hc];exact Nat.mul_mod_left g c)
  ·have:=Nat.mul_le_mul hl hm
   omega
theorem vDz:4 ^ qG % pG=1:=by
 have h:qVk 31 4 qG 1=1:=by kernel_rfl
 rw [powX_eq 31 4 qG 1 (by decide) (by decide),Nat.one_mul] at h
 exact h
theorem qLa {a k:Nat} (h:a ^ k % pG=1) (m:Nat):a ^ (k*m) % pG=1:=by
 rw [Nat.pow_mul,Nat.pow_mod,h,Nat.one_pow];rfl
theorem qSd (a:Nat) (m n:Nat):a ^ m % pG=1→a ^ n % pG=1→a ^ (Nat.gcd m n) % pG=1:=by
 induction m,n using Nat.gcd.induction with
 | H0 n=>intro _ h;simpa using h
 | H1 m n hm ih =>
  intro h1 h2
  rw [Nat.gcd_rec]
  refine ih ?_ h1
  have e:n=m*(n / m)+n % m:=(Nat.div_add_mod n m).symm
  rw [e,Nat.pow_add,Nat.mul_mod,qLa h1,Nat.one_mul,Nat.mod_mod] at h2
  exact h2
theorem vBr {k:Nat} (hk:1≤k∧k < qG):qIy ((4 ^ k % pG:Nat):Int)=true:=by
 have hone:4 ^ k % pG≠1:=fun h=>by
  have:=qSd 4 k qG h vDz
  rw [qG_coprime hk.1 hk.2] at this
  exact absurd this (by decide)
 have hpow:(4 ^ k % pG) ^ qG % pG=1:=by
  rw [← Nat.pow_mod,← Nat.pow_mul,Nat.mul_comm,qLa vDz]
 have hpos:0 < 4 ^ k % pG:=by
  rcases Nat.eq_zero_or_pos (4 ^ k % pG) with h | h
  ·rw [h,Nat.zero_pow (by decide)] at hpow
   exact absurd hpow (by decide)
  ·exact h
 have hlt:4 ^ k % pG < 2147483579:=Nat.mod_lt _ (by decide)
 unfold qIy qHu
 rw [Int.toNat_natCast,powX_eq 30 _ _ _ (by decide) (by decide),Nat.one_mul,hpow]
 generalize 4 ^ k % pG=x at hone hpos hlt
 have h1:(0:Int) < (x:Int):=by omega
 have h2:((x:Nat):Int)≠1:=by omega
 have h3:(x:Int) < 2147483579:=by omega
 rw [decide_eq_true (show (0:Int) < (x:Int)∧(x:Int) < 2147483579 from ⟨h1,h3⟩),decide_eq_true h2]
 rfl
open Go Go.Proofs
theorem wrapu64 {n:Int} (h:0≤n∧n < 18446744073709551616):IntKind.u64.wrap n=n:=by
 simp only [IntKind.wrap,IntKind.signed,IntKind.bits]
 simp
 omega
def blen (k:Nat):Nat:=if k=0 then 0 else k.log2+1
theorem qOe (k:Nat):k < 2 ^ blen k:=by
 unfold blen
 split
 ·rename_i h;subst h;decide
 ·exact Nat.lt_log2_self
theorem qOf {k:Nat} (h:0 < k):1≤blen k∧2 ^ (blen k-1)≤k:=by
 unfold blen
 rw [if_neg (by omega)]
 exact ⟨by omega,by rw [Nat.add_sub_cancel];exact Nat.log2_self_le (by omega)⟩
theorem vGf {k m:Nat} (h1:k < 2 ^ m) (h2:m=0∨2 ^ (m-1)≤k):blen k=m:=by
 rcases Nat.eq_zero_or_pos k with h0 | h0
 ·subst h0
  rcases h2 with h2 | h2
  ·subst h2;rfl
  ·exact absurd h2 (by have:=Nat.two_pow_pos (m-1);omega)
 ·obtain ⟨a1,a2⟩:=qOf h0
  have a3:=qOe k
  rcases h2 with h2 | h2
  ·subst h2;simp at h1;omega
  ·have b1:blen k-1 < m:=(Nat.pow_lt_pow_iff_right (a:=2) (by omega)).1 (Nat.lt_of_le_of_lt a2 h1)
   have b2:m-1 < blen k:=(Nat.pow_lt_pow_iff_right (a:=2) (by omega)).1 (Nat.lt_of_le_of_lt h2 a3)
   rcases Nat.eq_zero_or_pos m with h | h
   ·subst h;simp at h1;omega
   ·omega
theorem qWd {k n:Nat} (h:2 ^ n≤k):blen k=n+blen (k / 2 ^ n):=by
 have hp:0 < k / 2 ^ n:=Nat.div_pos h (Nat.two_pow_pos n)
 obtain ⟨a1,a2⟩:=qOf hp
 have a3:=qOe (k / 2 ^ n)
 refine vGf ?_ (.inr ?_)
 ·rw [Nat.pow_add,Nat.mul_comm];exact (Nat.div_lt_iff_lt_mul (Nat.two_pow_pos n)).1 a3
 ·rw [show n+blen (k / 2 ^ n)-1=(blen (k / 2 ^ n)-1)+n by omega,Nat.pow_add]
  exact (Nat.le_div_iff_mul_le (Nat.two_pow_pos n)).1 a2
theorem qTe {k i:Nat} (h:i < blen k):k / 2 ^ i≠0:=by
 have h0:0 < k:=by
  rcases Nat.eq_zero_or_pos k with h0 | h0
  ·subst h0;simp [blen] at h
  ·exact h0
 have:=(qOf h0).2
 have h3:2 ^ i≤2 ^ (blen k-1):=Nat.pow_le_pow_right (by omega) (by omega)
 have:=Nat.div_pos (Nat.le_trans h3 this) (Nat.two_pow_pos i)
 omega
theorem vGg {k:Nat} (h:k≤qG):blen k≤30:=by
 rcases Nat.eq_zero_or_pos k with h0 | h0
 ·subst h0;simp [blen]
 ·obtain ⟨a1,a2⟩:=qOf h0
  have hq:qG < 2 ^ 30:=by decide
  have:=(Nat.pow_lt_pow_iff_right (a:=2) (by omega)).1 (Nat.lt_of_le_of_lt a2 (Nat.lt_of_le_of_lt h hq))
  omega
set_option maxRecDepth 100000 in
theorem qWc:∀ n,n < 256→blen n=if n=0 then 0 else if n=1 then 1 else if n < 4 then 2 else if n < 8 then 3 else if n < 16 then 4 else if n < 32 then 5 else if n < 64 then 6 else if n < 128 then 7 else 8:=by
 have h:∀ n,n∈List.range 256→blen n=if n=0 then 0 else if n=1 then 1 else if n < 4 then 2 else if n < 8 then 3 else if n < 16 then 4 else if n < 32 then 5 else if n < 64 then 6 else if n < 128 then 7 else 8:=by decide
 exact fun n hn=>h n (List.mem_range.2 hn)
def qZg:List UInt8:=(List.range 256).map fun n=>UInt8.ofNat (if n=0 then 0 else if n=1 then 1 else if n < 4 then 2 else if n < 8 then 3 else if n < 16 then 4 else if n < 32 then 5 else if n < 64 then 6 else if n < 128 then 7 else 8)
set_option maxRecDepth 100000 in
theorem lenTab_at {n:Nat} (h:n < 256):qGa qZg (n:Int)=((blen n:Nat):Int):=by
 have hc:∀ n,n∈List.range 256→qGa qZg ((n:Nat):Int)=((if n=0 then 0 else if n=1 then 1 else if n < 4 then 2 else if n < 8 then 3 else if n < 16 then 4 else if n < 32 then 5 else if n < 64 then 6 else if n < 128 then 7 else 8:Nat):Int):=by decide
 rw [hc n (List.mem_range.2 h),qWc n h]
theorem qUk (k:Nat) (hk:k < 4294967296):Spec Tryz.prog 164 [.d (.int .u64 (k:Int))] [] (fun r h'=>r=.I (blen k:Int)∧h'=[]):=by
 refine qAb hT Tryz.func164 rfl rfl rfl rfl ?_;intro E hE
 refine ww ?_
 refine qAa rfl (fun h1=>?_) (fun h1=>?_)
 ·exact absurd h1 (by simp;omega)
 refine qDy ?_
 refine qFg (ι:=Nat×Nat) (fun y=>[(0,.d (.int .u64 (y.1:Int))),(2,.I (y.2:Int))]) (fun _=>[]) (fun y=>y.1 < 65536∧y.2+blen y.1=blen k∧y.2≤16) ?_ ?_
 ·refine ww ?_
  refine qAa rfl (fun h2=>?_) (fun h2=>?_)
  ·have h2':65536≤k:=by simp at h2;omega
   have hb:=qWd (k:=k) (n:=16) h2'
   have hs:Int.fdiv (k:Int) (2 ^ (min (16:Int).toNat IntKind.u64.bits))=((k / 2 ^ 16:Nat):Int):=qDt k 16
   refine ww ?_
   exact ⟨(k / 2 ^ 16,16),⟨by simp only;omega,hb.symm,by omega⟩,⟨.int hs,.refl _,trivial⟩,HLe.refl _⟩
  ·have h2':k < 65536:=by simp at h2;omega
   refine ww ?_
   exact ⟨(k,0),⟨h2',Nat.zero_add _,by omega⟩,yf,HLe.refl _⟩
 rintro ⟨y,n⟩ ⟨hy,hn,hn2⟩
 simp only at hy hn hn2 ⊢
 refine qFg (ι:=Nat×Nat) (fun y=>[(0,.d (.int .u64 (y.1:Int))),(2,.I (y.2:Int))]) (fun _=>[]) (fun y=>y.1 < 256∧y.2+blen y.1=blen k∧y.2≤24) ?_ ?_
 ·refine ww ?_
  refine qAa rfl (fun h2=>?_) (fun h2=>?_)
  ·have h2':256≤y:=by simp at h2;omega
   have hb:=qWd (k:=y) (n:=8) h2'
   have hs:Int.fdiv (y:Int) (2 ^ (min (8:Int).toNat IntKind.u64.bits))=((y / 2 ^ 8:Nat):Int):=qDt y 8
   refine ww ?_
   exact ⟨(y / 2 ^ 8,n+8),⟨by simp only;omega,by simp only;omega,by simp only;omega⟩,⟨.int hs,.int (by rw [qAh (by omega)];omega),trivial⟩,HLe.refl _⟩
  ·have h2':y < 256:=by simp at h2;omega
   refine ww ?_
   exact ⟨(y,n),⟨h2',hn,by simp only;omega⟩,yf,HLe.refl _⟩
 rintro ⟨z,m⟩ ⟨hz,hm,hm2⟩
 simp only at hz hm hm2 ⊢
 have hw:IntKind.u8.wrap (z:Int)=(z:Int):=wrapu8 (by omega)
 have hat:=lenTab_at hz
 have hbz:blen z≤8:=by rw [qWc z hz];repeat (first | omega | split)
 refine ww ?_
 refine rq ⟨rfl,rfl⟩ rfl (AV.le.int ?_)
 show IntKind.i64.wrap ((m:Int)+IntKind.i64.wrap (qGa qZg (IntKind.u8.wrap (z:Int))))=_
 rw [hw,hat,qAh (n:=((blen z:Nat):Int)) (by omega),qAh (by omega)]
 omega
theorem vAo (k:Nat) (hk:k < 4294967296):Spec Tryz.prog 449 [.d (.int .u64 (k:Int))] [] (fun r h'=>r=.I (blen k:Int)∧h'=[]):=by
 refine qAb hT Tryz.func449 rfl rfl rfl rfl ?_;intro E hE
 refine ww ?_
 refine qAa rfl (fun h1=>?_) (fun h1=>?_)
 ·exact absurd h1 (by decide)
 refine ww ?_
 refine wwc (qUk k hk) ?_
 refine ww ?_
 exact wwr
theorem powerK_spec (x k:Nat) (hx:x < pG) (hk:k≤qG):Spec Tryz.prog 332 [.I (x:Int),.I (k:Int)] [] (fun r h'=>r=.I ((x ^ k % pG:Nat):Int)∧h'=[]):=by
 have hq:qG=1073741789:=rfl
 have hlen:Spec Tryz.prog 449 [.d (.int .u64 (IntKind.u64.wrap (k:Int)))] [] (fun r h'=>r=.I (blen k:Int)∧h'=[]):=by
  rw [wrapu64 (by omega)];exact vAo k (by omega)
 have hfin:=powX_eq (blen k) x k 1 (qOe k) (by decide)
 rw [Nat.one_mul] at hfin
 have hb30:=vGg hk
 have hbz:k / 2 ^ blen k=0:=Nat.div_eq_of_lt (qOe k)
 have hne:∀ i,i < blen k→k / 2 ^ i≠0:=fun i h=>qTe h
 generalize x ^ k % pG=fin at hfin
 generalize blen k=bl at hlen hfin hb30 hbz hne
 refine qAb hT Tryz.func332 rfl rfl rfl rfl ?_;intro E hE
 refine ww ?_
 refine wwc hlen ?_
 refine ww ?_
 refine qAn (ι:=Nat×Nat×Nat) (fun y=>[(0,.I (y.2.1:Int)),(1,.I (k:Int)),(5,.I (y.2.2:Int)),(9,.I (bl:Int)),(10,.I (y.1:Int))]) (fun _=>[])
  (fun y=>y.1≤bl∧y.2.1 < pG∧y.2.2 < pG∧qVk (bl-y.1) y.2.1 (k / 2 ^ y.1) y.2.2=fin) (fun y=>bl-y.1) (0,x,1) ⟨by omega,hx,show 1 < pG by decide,by simpa using hfin⟩ yf (HLe.refl _) ?_
 rintro ⟨i,x,out⟩ ⟨hi,hx,ho,hg⟩
 simp only at hi hx ho hg ⊢
 refine ww ?_
 refine qAa rfl (fun h1=>?_) (fun h1=>?_)
 ·have h1':i < bl:=by simp at h1;omega
  have hq:=hne i h1'
  have hq2:k / 2 ^ i < 9223372036854775808:=Nat.lt_of_le_of_lt (Nat.div_le_self _ _) (by omega)
  obtain ⟨m,hm⟩:∃ m,bl-i=m+1:=⟨bl-i-1,by omega⟩
  rw [hm,qVk,if_neg hq,Nat.div_div_eq_div_mul,← Nat.pow_succ] at hg
  have hm':m=bl-(i+1):=by omega
  subst hm'
  have hsh:Int.fdiv (k:Int) (2 ^ (min ((i:Int)).toNat IntKind.i64.bits))=((k / 2 ^ i:Nat):Int):=by
   rw [show min ((i:Int)).toNat IntKind.i64.bits=i by simp [IntKind.bits];omega]
   exact qDt k i
  have hand:IntKind.i64.wrap ((BitVec.ofInt IntKind.i64.bits (Int.fdiv (k:Int) (2 ^ (min ((i:Int)).toNat IntKind.i64.bits))) &&& BitVec.ofInt IntKind.i64.bits 1).toNat:Int)=((k / 2 ^ i % 2:Nat):Int):=by
   rw [hsh]
   have:=qTf (a:=k / 2 ^ i) (b:=1) hq2 (by omega)
   rw [Nat.and_one_is_mod] at this
   exact this
  have hxx:=mulP_lt hx hx
  have hox:=mulP_lt ho hx
  have hm1:IntKind.i64.wrap ((x:Int)*(x:Int))=((x*x:Nat):Int):=by rw [← Int.natCast_mul];exact qAh (by omega)
  have hm2:IntKind.i64.wrap ((out:Int)*(x:Int))=((out*x:Nat):Int):=by rw [← Int.natCast_mul];exact qAh (by omega)
  have ht1:Int.tmod (IntKind.i64.wrap ((x:Int)*(x:Int))) 2147483579=((x*x % pG:Nat):Int):=by rw [hm1];rfl
  have ht2:Int.tmod (IntKind.i64.wrap ((out:Int)*(x:Int))) 2147483579=((out*x % pG:Nat):Int):=by rw [hm2];rfl
  have hwi:IntKind.i64.wrap ((i:Int)+1)=((i+1:Nat):Int):=by rw [qAh (by omega)];omega
  have hl1:x*x % pG < pG:=Nat.mod_lt _ (by decide)
  have hl2:out*x % pG < pG:=Nat.mod_lt _ (by decide)
  generalize k / 2 ^ i % 2=bt at hand hg
  refine ww ?_
  refine qAa rfl (fun h2=>?_) (fun h2=>?_)
  ·have h2':bt=1:=by rw [hand] at h2;simp at h2;omega
   rw [if_pos h2'] at hg
   refine ww ?_
   exact ⟨(i+1,x*x % pG,out*x % pG),⟨h1',hl1,hl2,hg⟩,by simp only;omega,⟨.int ht1,.refl _,.int ht2,.refl _,.int hwi,trivial⟩,HLe.refl _⟩
  ·have h2':¬ bt=1:=by rw [hand] at h2;simp at h2;omega
   rw [if_neg h2'] at hg
   refine ww ?_
   exact ⟨(i+1,x*x % pG,out),⟨h1',hl1,ho,hg⟩,by simp only;omega,⟨.int ht1,.refl _,.refl _,.refl _,.int hwi,trivial⟩,HLe.refl _⟩
 ·have h1':i=bl:=by simp at h1;omega
  subst h1'
  have hg':out=fin:=by rw [← hg,Nat.sub_self];rfl
  subst hg'
  refine ww ?_
  exact wwr
end Tdoc
namespace Tdoc
open Go
def nbV (v:List UInt8):Nat:=v.foldl (fun n c=>256*n+c.toNat) 0
def qMm (seed:List UInt8) (n:Nat):List UInt8:=(((List.range ((n+31) / 32)).map fun i=>qOv (seed++1::qBp 4 i)).flatten).take n
def qDs (seed:List UInt8):List UInt8:=qOv (seed++[0])
def qMf (seed:List UInt8):Nat:=1+nbV ((qMm seed 8).take 7) % (qG-1)
theorem secS_range (seed:List UInt8):1≤qMf seed∧qMf seed < qG:=by
 have h:nbV ((qMm seed 8).take 7) % (qG-1) < qG-1:=Nat.mod_lt _ (by decide)
 have hq:qG=1073741789:=rfl
 unfold qMf
 omega
def qRo (n:Nat) (msg:List UInt8) (m:Nat):Nat:=nbV ((qOv (qBp 4 n++msg)).take 7) % m
def qSc (k:Nat):Nat:=4 ^ k % pG
def qKt (k:Nat) (msg:List UInt8):Nat×Nat :=
 (qRo (qSc (1+qRo k msg (qG-1))) msg qG,(1+qRo k msg (qG-1)+qRo (qSc (1+qRo k msg (qG-1))) msg qG*k) % qG)
theorem numS_lt (n:Nat) (msg:List UInt8) {m:Nat} (h:0 < m):qRo n msg m < m:=Nat.mod_lt _ h
theorem pubS_elem {k:Nat} (h:1≤k∧k < qG):qIy ((qSc k:Nat):Int)=true:=vBr h
theorem pubS_lt (k:Nat):qSc k < pG:=Nat.mod_lt _ (by decide)
structure Nal where
 sta:List UInt8
 kind:Int
 num:Int
 iss:Int
 own:Int
 key:Int
 frm:Int
 unt:Int
 til:Int
 sE:Int
 sS:Int
def qSw (c:Nal):List Dat:=[.str c.sta,.int .i64 c.kind,.int .i64 c.num,.int .i64 c.iss,.int .i64 c.own,.int .i64 c.key,.int .i64 c.frm,.int .i64 c.unt,.int .i64 c.til,.int .i64 c.sE,.int .i64 c.sS]
def qBo (l:List Nal):List (List Dat):=l.map qSw
def qDu (c:Nal):List AV:=[.d (.str c.sta),.d (.int .i64 c.kind),.d (.int .i64 c.num),.d (.int .i64 c.iss),.d (.int .i64 c.own),.d (.int .i64 c.key),.d (.int .i64 c.frm),.d (.int .i64 c.unt),.d (.int .i64 c.til),.d (.int .i64 c.sE),.d (.int .i64 c.sS)]
def vCb (c:Nal):AV:=.agg (qDu c)
def nl0:Nal:=⟨[],0,0,0,0,0,0,0,0,0,0⟩
def qDq (s:List UInt8):Bool:=decide (1≤s.length∧s.length≤3)&&s.all qZm
def qEh (n:Int):Bool:=decide (1≤n∧n≤1073741824)
def qFp (c:Nal):Int :=
 if qDq c.sta=false then 60
 else if c.kind < 1∨c.kind > 4 then 61
 else if qEh c.num=false∨qEh c.iss=false∨qEh c.own=false∨(decide (c.iss=c.own)≠decide (c.kind=1)) then 3
 else if qIy c.key=false then 10
 else if c.frm < 0∨c.frm > c.unt∨c.unt > c.til∨c.til > 73048 then 8 else 0
def qBx (c:Nal):Node:=.mk 48 [] [.mk 19 c.sta [],.mk 129 [UInt8.ofNat c.kind.toNat] [],.mk 130 (qBp 4 c.num.toNat) [],.mk 131 (qBp 4 c.iss.toNat) [],.mk 132 (qBp 4 c.own.toNat) [],.mk 133 (qBp 4 c.key.toNat) [],
 .mk 134 (qBp 3 c.frm.toNat++qBp 3 c.unt.toNat++qBp 3 c.til.toNat) []]
def qTd (c:Nal):List UInt8×Int:=if qFp c≠0 then ([],qFp c) else (wrL [qBx c],0)
def qDe (k:Nat) (c:Nal):Nal:={ c with sE:=((qKt k (wrL [qBx c])).1:Nat),sS:=((qKt k (wrL [qBx c])).2:Nat) }
structure Dfc where
 kind:Int
 param:Int
 signer:Int
 first:List UInt8
 last:List UInt8
def vJb (x:Dfc):List Dat:=[.int .i64 x.kind,.int .i64 x.param,.int .i64 x.signer,.str x.first,.str x.last]
def qQd (l:List Dfc):List (List Dat):=l.map vJb
structure Aut where
 sta:List UInt8
 roots:List Nal
 links:List Nal
 secs:List Nat
 signer:Nal
 lister:Nal
 sk:Nat
 lk:Nat
 next:Nat
 list:Int
 rev:List Int
 defs:List Dfc
 seed:List UInt8
def aut0:Aut:=⟨[],[],[],[],nl0,nl0,0,0,0,0,[],[],[]⟩
def encNs' (l:List Nat):List (List Dat):=l.map fun (n:Nat)=>[Dat.int .i64 (n:Int)]
def vGj (a:Aut) (rc lc sc:AV):List AV:=[.d (.str a.sta),rc,lc,sc]++qDu a.signer++qDu a.lister++[.d (.int .i64 (a.sk:Int)),.d (.int .i64 (a.lk:Int)),.d (.int .i64 (a.next:Int)),.d (.int .i64 a.list),.d (.sl 1 (a.rev.map fun n=>[.int .i64 n])),.d (.sl 5 (qQd a.defs)),.d (.sl 1 (qBb a.seed))]
def qCm (a:Aut):List AV:=vGj a (.d (.sl 11 (qBo a.roots))) (.d (.sl 11 (qBo a.links))) (.d (.sl 1 (encNs' a.secs)))
def qOg (a:Aut):AV:=.agg (qCm a)
def qGc (day n:Int):Int:=min (day+n) 73048
def qIk (a:Aut) (kind:Int) (issuer own k:Nat) (day u t:Int):Nal:=⟨a.sta,kind,a.next,issuer,own,qSc k,day,qGc day u,qGc day t,0,0⟩
def qHq (a:Aut) (day:Int):Aut :=
 let n:=a.secs.length
 let old:=a.secs.getD (n-1) 0
 let k:=qMf a.seed
 let s:=qDe old (qIk a 3 n (1000+a.next) k day 90 3740)
 let seed1:=qDs a.seed
 let a1:Aut:={ a with signer:=s,sk:=k,next:=a.next+1,seed:=seed1 }
 let k2:=qMf seed1
 let l:=qDe old (qIk a1 4 n (1000+a1.next) k2 day 365 730)
 { a1 with lister:=l,lk:=k2,next:=a1.next+1,seed:=qDs seed1 }
def qKv (a:Aut) (day:Int):Aut :=
 let k:=qMf a.seed
 let n:=a.secs.length+1
 { a with secs:=a.secs++[k],seed:=qDs a.seed,roots:=a.roots++[qDe k (qIk a 1 n n k day 1825 5475)],next:=a.next+1 }
def qQl (sta seed:List UInt8) (day:Int):Aut:=qHq (qKv ⟨sta,[],[],[],nl0,nl0,0,0,1,1,[],[],seed⟩ day) day
def qQm (sta seed:List UInt8) (day:Int):Aut×Int :=
 if qDq sta=false then (aut0,60) else if day < 0∨73048 < day then (aut0,8) else (qQl sta seed day,0)
theorem certF_chk {a:Aut} (ha:qDq a.sta=true) (hn:1≤a.next∧a.next≤1000000) {kind:Int} {issuer own k:Nat} {day u t:Int} (hk:1≤kind∧kind≤4) (hi:1≤issuer∧issuer≤1000000000) (ho:1≤own∧own≤1000000000)
  (hd:issuer=own↔kind=1) (hs:1≤k∧k < qG) (hday:0≤day∧day≤73048) (hu:0≤u∧u≤t):qFp (qIk a kind issuer own k day u t)=0:=by
 have he:=pubS_elem hs
 unfold qFp qIk
 simp only
 rw [if_neg (by simp [ha]),if_neg (by omega),if_neg ?_,if_neg (by simp [he]),if_neg (by unfold qGc;omega)]
 have h1:qEh ((a.next:Nat):Int)=true:=by unfold qEh;exact decide_eq_true (by omega)
 have h2:qEh ((issuer:Nat):Int)=true:=by unfold qEh;exact decide_eq_true (by omega)
 have h3:qEh ((own:Nat):Int)=true:=by unfold qEh;exact decide_eq_true (by omega)
 have h4:decide (((issuer:Nat):Int)=((own:Nat):Int))=decide (kind=1):=by
  by_cases hq:kind=1
  ·rw [decide_eq_true hq,decide_eq_true (by have:=hd.2 hq;omega)]
  ·rw [decide_eq_false hq,decide_eq_false (fun h=>hq (hd.1 (by omega)))]
 simp [h1,h2,h3,h4]
theorem vCv {d:Nat} {t:Int} {v:List UInt8} (h1:qIp t=true) (h2:qEg t=false) (hd:d≤8):(qMn d (.mk t v []) 0).1=0:=by
 rw [qMn,if_neg (by simp [h1]),if_neg (by simp [h2]),if_neg (by omega)];rfl
theorem vCw {d:Nat} {t:Int} {k:List Node} (h1:qIp t=true) (h2:qEg t=true) (hd:d≤8) (hk:∀ n,n∈k→(qMn (d+1) n 0).1=0):(qMn d (.mk t [] k) 0).1=0:=by
 rw [qMn,if_neg (by simp [h1]),if_neg (by simp [h2]),if_neg (by omega)];exact chkL_of hk
theorem vDa (c:Nal):(qIz 1 [qBx c] 0).1=0:=by
 refine chkL_of fun m hm=>?_
 rw [List.mem_singleton.1 hm]
 unfold qBx
 refine vCw (by decide) (by decide) (by omega) fun n hn=>?_
 simp only [List.mem_cons,List.not_mem_nil,or_false] at hn
 rcases hn with rfl | rfl | rfl | rfl | rfl | rfl | rfl <;> exact vCv (by decide) (by decide) (by omega)
theorem qOd (c:Nal) (h:c.sta.length≤3):(wrL [qBx c]).length≤200:=by
 have h0:(wrL ([]:List Node)).length=0:=rfl
 have b1:=wrL_cons_length 19 c.sta [] [.mk 129 [UInt8.ofNat c.kind.toNat] [],.mk 130 (qBp 4 c.num.toNat) [],.mk 131 (qBp 4 c.iss.toNat) [],.mk 132 (qBp 4 c.own.toNat) [],.mk 133 (qBp 4 c.key.toNat) [],.mk 134 (qBp 3 c.frm.toNat++qBp 3 c.unt.toNat++qBp 3 c.til.toNat) []]
 have b2:=wrL_cons_length 129 [UInt8.ofNat c.kind.toNat] [] [.mk 130 (qBp 4 c.num.toNat) [],.mk 131 (qBp 4 c.iss.toNat) [],.mk 132 (qBp 4 c.own.toNat) [],.mk 133 (qBp 4 c.key.toNat) [],.mk 134 (qBp 3 c.frm.toNat++qBp 3 c.unt.toNat++qBp 3 c.til.toNat) []]
 have b3:=wrL_cons_length 130 (qBp 4 c.num.toNat) [] [.mk 131 (qBp 4 c.iss.toNat) [],.mk 132 (qBp 4 c.own.toNat) [],.mk 133 (qBp 4 c.key.toNat) [],.mk 134 (qBp 3 c.frm.toNat++qBp 3 c.unt.toNat++qBp 3 c.til.toNat) []]
 have b4:=wrL_cons_length 131 (qBp 4 c.iss.toNat) [] [.mk 132 (qBp 4 c.own.toNat) [],.mk 133 (qBp 4 c.key.toNat) [],.mk 134 (qBp 3 c.frm.toNat++qBp 3 c.unt.toNat++qBp 3 c.til.toNat) []]
 have b5:=wrL_cons_length 132 (qBp 4 c.own.toNat) [] [.mk 133 (qBp 4 c.key.toNat) [],.mk 134 (qBp 3 c.frm.toNat++qBp 3 c.unt.toNat++qBp 3 c.til.toNat) []]
 have b6:=wrL_cons_length 133 (qBp 4 c.key.toNat) [] [.mk 134 (qBp 3 c.frm.toNat++qBp 3 c.unt.toNat++qBp 3 c.til.toNat) []]
 have b7:=wrL_cons_length 134 (qBp 3 c.frm.toNat++qBp 3 c.unt.toNat++qBp 3 c.til.toNat) [] []
 have b8:=wrL_cons_length 48 [] [.mk 19 c.sta [],.mk 129 [UInt8.ofNat c.kind.toNat] [],.mk 130 (qBp 4 c.num.toNat) [],.mk 131 (qBp 4 c.iss.toNat) [],.mk 132 (qBp 4 c.own.toNat) [],.mk 133 (qBp 4 c.key.toNat) [],.mk 134 (qBp 3 c.frm.toNat++qBp 3 c.unt.toNat++qBp 3 c.til.toNat) []] []
 unfold qBx
 simp only [List.length_append,List.length_cons,List.length_nil,octB_length] at b1 b2 b3 b4 b5 b6 b7 b8
 omega
theorem vCz (c:Nal) (h:c.sta.length≤3):qLl [qBx c]=(wrL [qBx c],0):=by
 have hc:=vDa c
 have hl:=qOd c h
 have hcnt:=(chkL_count 1 [qBx c] 0).1
 have hs:qDj [qBx c]≤20:=by simp [qBx,qDj,qKs]
 unfold qLl
 rw [if_neg (by rw [hc];simp),if_neg (by omega),if_neg (by omega)]
structure AutOk (a:Aut):Prop where
 sta:qDq a.sta=true
 next:1≤a.next∧a.next≤100
 secs:∀ k,k∈a.secs→1≤k∧k < qG
 seed:a.seed.length≤1000
theorem AutOk.last {a:Aut} (h:AutOk a) (hn:1≤a.secs.length):1≤a.secs.getD (a.secs.length-1) 0∧a.secs.getD (a.secs.length-1) 0 < qG:=by
 have:a.secs.getD (a.secs.length-1) 0=a.secs[a.secs.length-1]'(by omega):=by simp [show a.secs.length-1 < a.secs.length by omega]
 rw [this]
 exact h.secs _ (List.getElem_mem _)
theorem rootF_ok {a:Aut} (h:AutOk a) (hn:a.next≤99) (day:Int):AutOk (qKv a day)∧(qKv a day).secs.length=a.secs.length+1∧(qKv a day).next=a.next+1:=by
 refine ⟨⟨h.sta,?_,?_,?_⟩,by simp [qKv],rfl⟩
 ·have:=h.next;show 1≤a.next+1∧a.next+1≤100;omega
 ·intro k hk
  have hk:k∈a.secs++[qMf a.seed]:=hk
  rcases List.mem_append.1 hk with hk | hk
  ·exact h.secs k hk
  ·rw [List.mem_singleton.1 hk];exact secS_range _
 ·show (qOv (a.seed++[0])).length≤1000
  rw [sumW_length];omega
def qQe (l:List (List UInt8)):List (List Dat):=l.map fun b=>[.sl 1 (qBb b)]
theorem encBs_length (l:List (List UInt8)):(qQe l).length=l.length:=by simp [qQe]
theorem encBs_at {l:List (List UInt8)} {i:Nat} (h:i < l.length):(qQe l)[i]?=some [.sl 1 (qBb (l.getD i []))]:=by
 unfold qQe
 rw [List.getElem?_map,List.getElem?_eq_getElem h]
 simp [h]
def qJy (l:List (List UInt8)) (i:Nat):List UInt8:=(l.take i).flatten
theorem flatN_succ {l:List (List UInt8)} {i:Nat} (h:i < l.length):qJy l (i+1)=qJy l i++l.getD i []:=by
 unfold qJy
 rw [List.take_add_one,List.flatten_append,List.getElem?_eq_getElem h]
 simp [h]
theorem flatN_all (l:List (List UInt8)):qJy l l.length=l.flatten:=by unfold qJy;rw [List.take_length]
theorem flatN_le (l:List (List UInt8)):∀ (i:Nat),i≤l.length→(qJy l i).length≤l.flatten.length:=by
 intro i hi
 have h:l.flatten=qJy l i++(l.drop i).flatten:=by unfold qJy;rw [← List.flatten_append,List.take_append_drop]
 rw [h,List.length_append];omega
def qLm (seed:List UInt8) (i:Nat):List UInt8:=((List.range i).map fun i=>qOv (seed++1::qBp 4 i)).flatten
theorem drawN_succ (seed:List UInt8) (i:Nat):qLm seed (i+1)=qLm seed i++qOv (seed++1::qBp 4 i):=by
 unfold qLm
 rw [List.range_succ,List.map_append,List.flatten_append]
 simp
theorem drawN_length (seed:List UInt8):∀ i,(qLm seed i).length=32*i
 | 0=>rfl
 | i+1=>by rw [drawN_succ,List.length_append,drawN_length seed i,sumW_length];omega
theorem drawS_eq (seed:List UInt8) (n i:Nat) (h1:n≤32*i) (h2:32*i < n+32):qMm seed n=(qLm seed i).take n:=by
 have:(n+31) / 32=i:=by omega
 unfold qMm
 rw [this];rfl
theorem drawS_length (seed:List UInt8) (n:Nat):(qMm seed n).length=n:=by
 rw [drawS_eq seed n ((n+31) / 32) (by omega) (by omega),List.length_take,drawN_length];omega
theorem secS_eq (seed:List UInt8):qMf seed=1+nbV ((qMm seed 8).take 7) % (qG-1):=rfl
open Go Go.Proofs
theorem wshl (x:BitVec 32) (m:Int):IntKind.u32.wrap (wI x*2 ^ (min m.toNat IntKind.u32.bits))=wI (x <<< (min m.toNat 32)):=wI_shl x _
theorem wshr (x:BitVec 32) (m:Int):Int.fdiv (wI x) (2 ^ (min m.toNat IntKind.u32.bits))=wI (x >>> (min m.toNat 32)):=wI_shr x _
theorem vEm {n:Nat} (h:1≤n∧n≤31):IntKind.u64.wrap ((BitVec.ofInt IntKind.u64.bits (IntKind.u64.wrap (-(n:Int))) &&& BitVec.ofInt IntKind.u64.bits 31).toNat:Int)=((32-n:Nat):Int):=by
 have hc:∀ n,n∈List.range 32→1≤n→IntKind.u64.wrap ((BitVec.ofInt IntKind.u64.bits (IntKind.u64.wrap (-((n:Nat):Int))) &&& BitVec.ofInt IntKind.u64.bits 31).toNat:Int)=((32-n:Nat):Int):=by decide
 exact hc n (List.mem_range.2 (by omega)) h.1
theorem vAk (x:BitVec 32) (n:Nat) (h:1≤n∧n≤31):Spec Tryz.prog 535 [uV x,.I (-(n:Int))] [] (fun r h'=>r=uV (qHt x n)∧h'=[]):=by
 have hr:=vEm h
 refine qAb hT Tryz.func535 rfl rfl rfl rfl ?_;intro E hE
 refine qAf (qAc ?_)
 refine wws ?_
 refine qAf (qAc ?_)
 refine wws ?_
 refine qAi (l:=[(0,uV x),(5,.d (.int .u64 ((32-n:Nat):Int)))]) (h':=[]) ⟨.refl _,.int hr,trivial⟩ (HLe.refl _) ?_
 have h2:IntKind.u64.wrap (32-((32-n:Nat):Int))=(n:Int):=by rw [wrapu64 (by omega)];omega
 have h3:IntKind.u32.wrap (wI x*2 ^ (min (((32-n:Nat):Int)).toNat IntKind.u32.bits))=wI (x <<< (32-n)):=by
  rw [wshl,Int.toNat_natCast,show min (32-n) 32=32-n by omega]
 have h4:Int.fdiv (wI x) (2 ^ (min (IntKind.u64.wrap (32-((32-n:Nat):Int))).toNat IntKind.u32.bits))=wI (x >>> n):=by
  rw [h2,wshr,Int.toNat_natCast,show min n 32=n by omega]
 refine ww ?_
 refine rq ⟨rfl,rfl⟩ rfl (AV.le.int ?_)
 show IntKind.u32.wrap ((BitVec.ofInt IntKind.u32.bits (IntKind.u32.wrap (wI x*2 ^ (min (((32-n:Nat):Int)).toNat IntKind.u32.bits))) ||| BitVec.ofInt IntKind.u32.bits (Int.fdiv (wI x) (2 ^ (min (IntKind.u64.wrap (32-((32-n:Nat):Int))).toNat IntKind.u32.bits)))).toNat:Int)=_
 rw [h3,h4,wI_or,rotW_comm]
def qRz (x:BitVec 32) (l:List Nat):BitVec 32:=l.foldl (fun a n=>a ^^^ qHt x n) 0
theorem rotsW_take (x:BitVec 32) (l:List Nat) {i:Nat} (h:i < l.length):qRz x (l.take (i+1))=qRz x (l.take i) ^^^ qHt x (l.getD i 0):=by
 unfold qRz
 rw [List.take_add_one,List.foldl_append,List.getElem?_eq_getElem h]
 simp [h]
theorem encNs'_at {l:List Nat} {i:Nat} (h:i < l.length):(encNs' l)[i]?=some [.int .i64 ((l.getD i 0:Nat):Int)]:=by
 unfold encNs'
 rw [List.getElem?_map,List.getElem?_eq_getElem h]
 simp [h]
theorem qVg (x:BitVec 32) (l:List Nat) (hl:l.length≤10) (hn:∀ n,n∈l→1≤n∧n≤31):Spec Tryz.prog 534 [uV x,.d (.sl 1 (encNs' l))] [] (fun r h'=>r=uV (qRz x l)∧h'=[]):=by
 have hlen:(encNs' l).length=l.length:=by simp [encNs']
 refine qAb hT Tryz.func534 rfl rfl rfl rfl ?_;intro E hE
 refine ww ?_
 refine qAn (ι:=Nat) (fun i=>[(0,uV x),(5,uV (qRz x (l.take i))),(8,.d (.sl 1 (encNs' l))),(9,.I (l.length:Int)),(10,.I (i:Int))]) (fun _=>[])
  (fun i=>i≤l.length) (fun i=>l.length-i) 0 (Nat.zero_le _) ⟨.refl _,.refl _,.refl _,.int (by rw [hlen]),.refl _,trivial⟩ (HLe.refl _) ?_
 intro i hi
 refine ww ?_
 refine qAa rfl (fun h1=>?_) (fun h1=>?_)
 ·have h1':i < l.length:=by simp at h1;omega
  have hat:=encNs'_at h1'
  have hni:1≤l.getD i 0∧l.getD i 0≤31:=by
   rw [List.getD_eq_getElem?_getD,List.getElem?_eq_getElem h1'];exact hn _ (List.getElem_mem h1')
  have hstep:=rotsW_take x l h1'
  refine ww ?_
  refine wwi hat ?_
  refine ww ?_
  refine wwc (vAk x (l.getD i 0) hni) ?_
  refine ww ?_
  exact ⟨i+1,h1',by omega,⟨.refl _,.int (by rw [hstep];exact wI_xor _ _),.refl _,.refl _,.int (by rw [qAh (by omega)];omega),trivial⟩,HLe.refl _⟩
 ·have h1':i=l.length:=by simp at h1;omega
  subst h1'
  rw [List.take_length]
  refine ww ?_
  exact wwr
theorem encB_getD {b:List UInt8} {i:Nat} (h:i < b.length):(qBb b)[i]?=some [.int .u8 ((b.getD i 0).toNat:Int)]:=encB_byte h
theorem qYe (b:List UInt8) (h:4≤b.length):Spec Tryz.prog 536 [.d (.sl 1 (qBb b))] [] (fun r h'=>r=uV (qRr b 0)∧h'=[]):=by
 have h0:=encB_getD (b:=b) (i:=0) (by omega)
 have h1:=encB_getD (b:=b) (i:=1) (by omega)
 have h2:=encB_getD (b:=b) (i:=2) (by omega)
 have h3:=encB_getD (b:=b) (i:=3) (by omega)
 refine qAb hT Tryz.func536 rfl rfl rfl rfl ?_;intro E hE
 refine ww ?_
 refine wwi h0 ?_
 refine ww ?_
 refine wwi h1 ?_
 refine ww ?_
 refine wwi h2 ?_
 refine ww ?_
 refine wwi h3 ?_
 refine ww ?_
 refine rq ⟨rfl,rfl⟩ rfl (AV.le.int ?_)
 simp only [wI_byte,wshl,wI_or]
 rfl
theorem qWp:Spec Tryz.prog 437 [] [] (fun r h'=>r=.d (.sl 1 (qMi qVb))∧h'=[]):=by
 refine qAb hT Tryz.func437 rfl rfl rfl rfl ?_;intro E hE
 refine ww ?_
 refine rq ⟨rfl,rfl⟩ rfl ?_
 exact AV.le.dat' rfl
theorem bytesOf_spec (x:BitVec 32):Spec Tryz.prog 441 [uV x] [] (fun r h'=>r=.d (.sl 1 (qBb (qEk x)))∧h'=[]):=by
 refine qAb hT Tryz.func441 rfl rfl rfl rfl ?_;intro E hE
 refine ww ?_
 refine rq ⟨rfl,rfl⟩ rfl (AV.le.dat' ?_)
 simp only [wshr,bW_wrap]
 rfl
theorem qRi (es:List (List Dat)) (hl:es.length≤1000000):Spec Tryz.prog 133 [.d (.sl 1 es)] [.room] (fun r h'=>r=.sl 1 es (.right 0)∧h'=[.right 1 es.length]):=by
 refine qAb hT Tryz.func133 rfl rfl rfl rfl ?_;intro E hE
 refine ww ?_
 refine qDx (eqNil_ok hT (fun _=>rfl) rfl rfl rfl) rfl ?_
 rintro v h' ⟨rfl,b,rfl,hb⟩
 refine ww ?_
 refine qAa rfl (fun h1=>?_) (fun h1=>?_)
 ·obtain rfl:=hb h1
  refine qAf (qAc ?_)
  refine wws ?_
  refine qBc 2 1 0 (es:=[]) (.inr ⟨rfl,rfl⟩) rfl ?_
  refine ww ?_
  exact wwr
 ·refine ww ?_
  refine qAd (qGh (i:=0) hT rfl rfl rfl (.inl rfl) (by simp) rfl rfl (by show es.length*(1+1)≤140737488355328;omega)) rfl ?_
  refine ww ?_
  exact wwr
theorem qJs (es:List (List Dat)) (hl:es.length≤1000000):Spec Tryz.prog 133 [.d (.sl 1 es)] [] (fun r h'=>r=.d (.sl 1 es)∧h'=[]):=by
 refine qAb hT Tryz.func133 rfl rfl rfl rfl ?_;intro E hE
 refine ww ?_
 refine qDx (eqNil_ok hT (fun _=>rfl) rfl rfl rfl) rfl ?_
 rintro v h' ⟨rfl,b,rfl,hb⟩
 refine ww ?_
 refine qAa rfl (fun h1=>?_) (fun h1=>?_)
 ·obtain rfl:=hb h1
  refine ww ?_
  exact qAj rfl AV.le.nils rfl rfl rfl rfl ⟨rfl,rfl⟩
 ·refine ww ?_
  refine qAd (qCp (es:=[]) hT rfl rfl rfl (.inl rfl) rfl (by show (([]:List (List Dat)).length+es.length)*(1+1)≤140737488355328;simp;omega)) rfl ?_
  refine ww ?_
  exact qAj rfl (.refl _) rfl rfl rfl rfl ⟨rfl,rfl⟩
theorem qRh (es:List (List Dat)) (hl:es.length≤1000000):Spec Tryz.prog 131 [.d (.sl 1 es)] [.room] (fun r h'=>r=.sl 1 es (.right 0)∧h'=[.right 1 es.length]):=by
 refine qAb hT Tryz.func131 rfl rfl rfl rfl ?_;intro E hE
 refine ww ?_
 refine qDx (eqNil_ok hT (fun _=>rfl) rfl rfl rfl) rfl ?_
 rintro v h' ⟨rfl,b,rfl,hb⟩
 refine ww ?_
 refine qAa rfl (fun h1=>?_) (fun h1=>?_)
 ·obtain rfl:=hb h1
  refine qAf (qAc ?_)
  refine wws ?_
  refine qBc 2 1 0 (es:=[]) (.inr ⟨rfl,rfl⟩) rfl ?_
  refine ww ?_
  exact wwr
 ·refine ww ?_
  refine qAd (qGh (i:=0) hT rfl rfl rfl (.inl rfl) (by simp) rfl rfl (by show es.length*(8+1)≤140737488355328;omega)) rfl ?_
  refine ww ?_
  exact wwr
theorem qRj (es:List (List Dat)) (hl:es.length≤1000000):Spec Tryz.prog 131 [.d (.sl 1 es)] [] (fun r h'=>r=.d (.sl 1 es)∧h'=[]):=by
 refine qAb hT Tryz.func131 rfl rfl rfl rfl ?_;intro E hE
 refine ww ?_
 refine qDx (eqNil_ok hT (fun _=>rfl) rfl rfl rfl) rfl ?_
 rintro v h' ⟨rfl,b,rfl,hb⟩
 refine ww ?_
 refine qAa rfl (fun h1=>?_) (fun h1=>?_)
 ·obtain rfl:=hb h1
  refine ww ?_
  exact qAj rfl AV.le.nils rfl rfl rfl rfl ⟨rfl,rfl⟩
 ·refine ww ?_
  refine qAd (qCp (es:=[]) hT rfl rfl rfl (.inl rfl) rfl (by show (([]:List (List Dat)).length+es.length)*(8+1)≤140737488355328;simp;omega)) rfl ?_
  refine ww ?_
  exact qAj rfl (.refl _) rfl rfl rfl rfl ⟨rfl,rfl⟩
theorem qJr (es:List (List Dat)) (hl:es.length≤1000000):Spec Tryz.prog 130 [.d (.sl 11 es)] [.room] (fun r h'=>r=.sl 11 es (.right 0)∧h'=[.right 11 es.length]):=by
 refine qAb hT Tryz.func130 rfl rfl rfl rfl ?_;intro E hE
 refine ww ?_
 refine qDx (eqNil_ok hT (fun _=>rfl) rfl rfl rfl) rfl ?_
 rintro v h' ⟨rfl,b,rfl,hb⟩
 refine ww ?_
 refine qAa rfl (fun h1=>?_) (fun h1=>?_)
 ·obtain rfl:=hb h1
  refine qAf (qAc ?_)
  refine wws ?_
  refine qBc 2 11 0 (es:=[]) (.inr ⟨rfl,rfl⟩) rfl ?_
  refine ww ?_
  exact wwr
 ·refine ww ?_
  refine qAd (qGh (i:=0) hT rfl rfl rfl (.inl rfl) (by simp) rfl rfl (by show es.length*(96+1)≤140737488355328;omega)) rfl ?_
  refine ww ?_
  exact wwr
theorem qRk (es:List (List Dat)) (hl:es.length≤1000000):Spec Tryz.prog 132 [.d (.sl 5 es)] [] (fun r h'=>r=.d (.sl 5 es)∧h'=[]):=by
 refine qAb hT Tryz.func132 rfl rfl rfl rfl ?_;intro E hE
 refine ww ?_
 refine qDx (eqNil_ok hT (fun _=>rfl) rfl rfl rfl) rfl ?_
 rintro v h' ⟨rfl,b,rfl,hb⟩
 refine ww ?_
 refine qAa rfl (fun h1=>?_) (fun h1=>?_)
 ·obtain rfl:=hb h1
  refine ww ?_
  exact qAj rfl AV.le.nils rfl rfl rfl rfl ⟨rfl,rfl⟩
 ·refine ww ?_
  refine qAd (qCp (es:=[]) hT rfl rfl rfl (.inl rfl) rfl (by show (([]:List (List Dat)).length+es.length)*(56+1)≤140737488355328;simp;omega)) rfl ?_
  refine ww ?_
  exact qAj rfl (.refl _) rfl rfl rfl rfl ⟨rfl,rfl⟩
theorem wI_nat (m:Nat):IntKind.u32.wrap (m:Int)=wI (BitVec.ofNat 32 m):=by
 rw [wrap32];unfold wI;rw [BitVec.toNat_ofNat];omega
theorem encB_rep0 (b:List UInt8) (j:Nat):qBb (b++[128]++List.replicate (j+1) 0)=qBb (b++[128]++List.replicate j 0)++[[.int .u8 0]]:=by
 rw [List.replicate_succ',← List.append_assoc,encB_append];rfl
theorem vDh (b:List UInt8) (hb:b.length≤900000):Spec Tryz.prog 439 [.d (.sl 1 (qBb b))] [] (fun r h'=>r=.d (.sl 1 (qBb (qWv b)))∧h'=[]):=by
 have hbl:=encB_length b
 have hz:=padZ_lt b.length
 have hcl:=qRi (qBb b) (by omega)
 have hp:=padW_eq b
 rw [len8 _ (by omega)] at hp
 refine qAb hT Tryz.func439 rfl rfl rfl rfl ?_;intro E hE
 refine qAq ?_
 refine ww ?_
 refine qAd (qOb (v:=.sl 1 (qBb b) (.right 0)) (H':=[.right 1 (qBb b).length]) rfl rfl hcl [0] (by decide) rfl rfl rfl rfl rfl rfl rfl) rfl ?_
 refine ww ?_
 refine qAd (qAs (i:=0) hT rfl rfl rfl rfl rfl rfl (by show ((qBb b).length+1)*(1+1)≤_;omega)) rfl ?_
 refine ww ?_
 refine qAn (ι:=Nat) (fun j=>[(0,.d (.sl 1 (qBb b))),(3,.sl 1 (qBb (b++[128]++List.replicate j 0)) (.right 0))]) (fun j=>[.right 1 (qBb (b++[128]++List.replicate j 0)).length]) (fun j=>j≤qVm b.length) (fun j=>qVm b.length-j) 0 (Nat.zero_le _)
  ⟨.refl _,.slt (by rw [List.replicate_zero,List.append_nil,encB_append];rfl),trivial⟩ ⟨⟨rfl,by simp [encB_length]⟩,trivial⟩ ?_
 intro j hj
 have hlj:(qBb (b++[128]++List.replicate j 0)).length=b.length+1+j:=by rw [encB_length];simp;omega
 have hif:=padZ_iff hj
 refine ww ?_
 refine qAa rfl (fun h1=>?_) (fun h1=>?_)
 ·have h1':j < qVm b.length:=by
   rw [hlj] at h1
   have:(b.length+1+j) % 64≠56:=fun hc=>by
    have e:Int.tmod ((b.length+1+j:Nat):Int) 64=(((b.length+1+j) % 64:Nat):Int):=rfl
    rw [e,hc] at h1;exact absurd h1 (by decide)
   have:=fun hc=>this (hif.2 hc)
   omega
  have hs:=encB_rep0 b j
  refine ww ?_
  refine qAd (qAs (i:=0) hT rfl rfl rfl rfl rfl rfl (by show ((qBb (b++[128]++List.replicate j 0)).length+1)*(1+1)≤_;omega)) rfl ?_
  refine ww ?_
  exact ⟨j+1,h1',by omega,⟨.refl _,.slt hs.symm,trivial⟩,⟨⟨rfl,by rw [hs]⟩,trivial⟩⟩
 ·have h1':j=qVm b.length:=by
   rw [hlj] at h1
   refine hif.1 ?_
   have e:Int.tmod ((b.length+1+j:Nat):Int) 64=(((b.length+1+j) % 64:Nat):Int):=rfl
   rw [e] at h1
   simp at h1
   omega
  subst h1'
  refine wwe ?_
  refine qAf (qAc ?_)
  refine wws ?_
  refine qAi (l:=[(3,.sl 1 (qBb (b++[128]++List.replicate (qVm b.length) 0)) (.right 0)),(4,.d (.int .u64 ((8*b.length:Nat):Int)))]) (h':=[.right 1 (qBb (b++[128]++List.replicate (qVm b.length) 0)).length]) ⟨.refl _,.int ?_,trivial⟩ (HLe.refl _) ?_
  ·show IntKind.u64.wrap (8*IntKind.u64.wrap ((qBb b).length:Int))=_
   rw [hbl,wrapu64 (n:=(b.length:Int)) (by omega),wrapu64 (by omega)];omega
  have h5:IntKind.u32.wrap (Int.fdiv ((8*b.length:Nat):Int) (2 ^ (min (32:Int).toNat IntKind.u64.bits)))=wI (BitVec.ofNat 32 (8*b.length / 4294967296)):=by
   rw [← wI_nat];exact congrArg IntKind.u32.wrap (qDt (8*b.length) 32)
  have h6:IntKind.u32.wrap ((8*b.length:Nat):Int)=wI (BitVec.ofNat 32 (8*b.length)):=wI_nat _
  refine ww ?_
  refine wwc (bytesOf_spec (BitVec.ofNat 32 (8*b.length / 4294967296))) ?_
  refine ww ?_
  refine qAd (qAs (i:=0) hT rfl rfl rfl rfl rfl rfl (by show ((qBb (b++[128]++List.replicate (qVm b.length) 0)).length+4)*(1+1)≤_;omega)) rfl ?_
  refine ww ?_
  refine wwc (bytesOf_spec (BitVec.ofNat 32 (8*b.length))) ?_
  refine ww ?_
  refine qAd (qAs (i:=0) hT rfl rfl rfl rfl rfl rfl (by rw [List.length_append];show ((qBb (b++[128]++List.replicate (qVm b.length) 0)).length+4+4)*(1+1)≤_;omega)) rfl ?_
  refine ww ?_
  refine rq ⟨rfl,rfl⟩ rfl (AV.le.dat' ?_)
  rw [hp,← List.append_assoc];simp only [encB_append]
theorem loadI_head {T:Tr} {t:Nat} {ti:TI} {cs:List Dat} {d:Dat} (hf:T.find t=some ti) (ha:ti.agg=false) (hd:cs[0]?=some d):qZd T t cs=some (.d d):=by
 unfold qZd;rw [hf];simp only;rw [ha];simp only;rw [hd]
def kD:List Dat:=kW.map fun x=>.int .u32 (wI x)
set_option maxRecDepth 100000 in
theorem kD_tab:qHd 9=some kD:=by kernel_rfl
theorem kD_at {n:Nat} (h:n < 64):(kD.drop n)[0]?=some (.int .u32 (wI (kW.getD n 0))):=by
 have hl:kW.length=64:=rfl
 unfold kD
 rw [← List.map_drop,List.getElem?_map,List.getElem?_drop,Nat.add_zero,List.getElem?_eq_getElem (by omega)]
 simp [show n < kW.length by omega]
def vC (v:Vw):List AV:=[uV v.a,uV v.b,uV v.c,uV v.d,uV v.e,uV v.f,uV v.g,uV v.h]
theorem encW_length (v:Vw):(qMi v).length=8:=rfl
theorem encW_at (v:Vw) {i:Nat} (h:i < 8):(qMi v)[i]?=some [.int .u32 (wI ((vwL v).getD i 0))]:=by
 have hl:(vwL v).length=8:=rfl
 unfold qMi
 rw [List.getElem?_map,List.getElem?_eq_getElem (by omega)]
 simp [show i < (vwL v).length by omega]
theorem vC_at (v:Vw) {i:Nat} (h:i < 8):(vC v)[i]?=some (uV ((vwL v).getD i 0)):=by
 have hl:(vwL v).length=8:=rfl
 have:vC v=(vwL v).map uV:=rfl
 rw [this,List.getElem?_map,List.getElem?_eq_getElem (by omega)]
 simp [show i < (vwL v).length by omega]
def vBh (v r:Vw):Vw:=⟨v.a+r.a,v.b+r.b,v.c+r.c,v.d+r.d,v.e+r.e,v.f+r.f,v.g+r.g,v.h+r.h⟩
theorem addV_at (v r:Vw) {i:Nat} (h:i < 8):(vwL (vBh v r)).getD i 0=(vwL v).getD i 0+(vwL r).getD i 0:=by
 rcases (by omega:i=0∨i=1∨i=2∨i=3∨i=4∨i=5∨i=6∨i=7) with rfl | rfl | rfl | rfl | rfl | rfl | rfl | rfl <;> rfl
def qYc (v r:Vw) (i:Nat):List AV:=((vwL (vBh v r)).take i).map uV++List.replicate (8-i) (uV 0)
theorem sumC_set (v r:Vw) {i:Nat} (h:i < 8):(qYc v r i).set i (uV ((vwL v).getD i 0+(vwL r).getD i 0))=qYc v r (i+1):=by
 rw [← addV_at v r h]
 have hl:(vwL (vBh v r)).length=8:=rfl
 unfold qYc
 rw [List.take_add_one,List.map_append,List.set_append_right _ _ (by simp [hl];omega),show 8-i=(8-(i+1))+1 by omega,List.replicate_succ,List.append_assoc]
 simp [hl,show min i 8=i by omega,h]
theorem sumC_length (v r:Vw) {i:Nat} (h:i≤8):(qYc v r i).length=8:=by
 have hl:(vwL (vBh v r)).length=8:=rfl
 unfold qYc;simp [hl];omega
theorem sumC_all (v r:Vw):RowDat (qYc v r 8) 0 1 (qMi (vBh v r)):=by
 refine ⟨fun e he=>?_,fun i e j d he hd=>?_⟩
 ·simp only [qMi,List.mem_map] at he
  obtain ⟨b,_,rfl⟩:=he;rfl
 ·have hi:i < 8:=by have:=(List.getElem?_eq_some_iff.1 he).1;simpa [encW_length] using this
  rw [encW_at _ hi] at he
  cases he
  cases j with
  | zero =>
   simp at hd;subst hd
   have:qYc v r 8=vC (vBh v r):=rfl
   exact ⟨uV ((vwL (vBh v r)).getD i 0),by rw [this,Nat.zero_add,Nat.mul_one,Nat.add_zero];exact vC_at _ hi,rfl⟩
  | succ j=>simp at hd
theorem compW_eq (v:Vw) (b:List UInt8):qXi v b=vBh v (qGy v (qKe b 64) 64):=rfl
theorem qZx (b:List UInt8) (t:Nat):qRr (b.drop t) 0=qRr b t:=by
 unfold qRr
 simp only [List.getD_eq_getElem?_getD,List.getElem?_drop,Nat.zero_add,Nat.add_zero]
theorem rots2 (x:BitVec 32) (i j:Nat):qRz x [i,j]=qHt x i ^^^ qHt x j:=by
 show (0#32 ^^^ qHt x i) ^^^ qHt x j=_
 rw [BitVec.zero_xor]
theorem rots3 (x:BitVec 32) (i j k:Nat):qRz x [i,j,k]=qHt x i ^^^ qHt x j ^^^ qHt x k:=by
 show ((0#32 ^^^ qHt x i) ^^^ qHt x j) ^^^ qHt x k=_
 rw [BitVec.zero_xor]
theorem qPh (x:BitVec 32) (i j:Nat) (hi:1≤i∧i≤31) (hj:1≤j∧j≤31):Spec Tryz.prog 534 [uV x,.d (.sl 1 [[.int .i64 (i:Int)],[.int .i64 (j:Int)]])] [] (fun r h'=>r=uV (qHt x i ^^^ qHt x j)∧h'=[]):=by
 rw [← rots2]
 exact qVg x [i,j] (by simp) (fun n hn=>by simp at hn;rcases hn with rfl | rfl <;> assumption)
theorem qPg (x:BitVec 32) (i j k:Nat) (hi:1≤i∧i≤31) (hj:1≤j∧j≤31) (hk:1≤k∧k≤31):Spec Tryz.prog 534 [uV x,.d (.sl 1 [[.int .i64 (i:Int)],[.int .i64 (j:Int)],[.int .i64 (k:Int)]])] [] (fun r h'=>r=uV (qHt x i ^^^ qHt x j ^^^ qHt x k)∧h'=[]):=by
 rw [← rots3]
 exact qVg x [i,j,k] (by simp) (fun n hn=>by simp at hn;rcases hn with rfl | rfl | rfl <;> assumption)
theorem roundW_zero (v:Vw) (w:List (BitVec 32)):qGy v w 0=v:=rfl
theorem roundW_succ (v:Vw) (w:List (BitVec 32)) (n:Nat):qGy v w (n+1)=vEk (qGy v w n) (kW.getD n 0) (w.getD n 0):=rfl
theorem qOq (v:Vw) (b:List UInt8) (hb:b.length=64):Spec Tryz.prog 440 [.d (.sl 1 (qMi v)),.d (.sl 1 (qBb b))] [] (fun r h'=>r=.tup [.d (.sl 1 (qMi (qXi v b))),.I 0]∧h'=[]):=by
 have hbl:=encB_length b
 obtain ⟨m,hm⟩:∃ m:Nat,m=64:=⟨_,rfl⟩
 have hfin:qXi v b=vBh v (qGy v (qKe b m) m):=by subst hm;exact compW_eq v b
 have hcw:∀ n,n < m→(cellsW b m)[n]?=some (uV ((qKe b m).getD n 0)):=by subst hm;exact fun n h=>cells64 b h
 rw [hfin]
 clear hfin
 refine qAb hT Tryz.func440 rfl rfl rfl rfl ?_;intro E hE
 refine ww ?_
 refine qAa rfl (fun c1=>?_) (fun c1=>?_)
 ·exact absurd c1 (by simp [encW_length,hbl,hb])
 refine ww ?_
 refine qAn (ι:=Nat) (fun t=>[(0,.d (.sl 1 (qMi v))),(1,.d (.sl 1 (qBb b))),(6,.fn (.func 534) [] []),(7,.ptr 0 0),(27,.I (t:Int))]) (fun t=>[.row (cellsW b t)]) (fun t=>t≤m) (fun t=>m-t) 0 (Nat.zero_le _)
  yf ⟨ObLe.row rfl,trivial⟩ ?_
 intro t ht
 have hcl:=cellsW_length b (t:=t) (by omega)
 refine ww ?_
 refine qAa rfl (fun c2=>?_) (fun c2=>?_)
 ·have ht':t < 64:=by simp at c2;omega
  refine ww ?_
  refine qAa rfl (fun c3=>?_) (fun c3=>?_)
  ·have c3':t < 16:=by simp at c3;omega
   have hw4:IntKind.i64.wrap (4*(t:Int))=((4*t:Nat):Int):=by rw [qAh (by omega)];omega
   refine qAf (qAc ?_)
   refine wk hT rfl rfl ?_
   refine wk hT rfl rfl ?_
   refine wk hT rfl rfl ?_
   refine wk hT rfl rfl ?_
   refine wk hT rfl rfl ?_
   rw [hw4,Int.toNat_natCast,encB_drop]
   refine wwc (qYe (b.drop (4*t)) (by rw [List.length_drop];omega)) ?_
   rw [qZx]
   have hst:=cellsW_set b ht'
   rw [schW_word b c3'] at hst
   refine qAd (qAe (arrPtr_ok hT rfl rfl rfl rfl (by omega))) rfl ?_
   refine qAu (qHo hT rfl rfl rfl rfl rfl rfl (by show 0+((t:Int)).toNat*1 < (cellsW b t).length;rw [hcl];omega)) rfl ?_
   rw [show 0+((t:Int)).toNat*1=t by omega]
   refine ww ?_
   exact ⟨t+1,by omega,by omega,⟨.refl _,.refl _,.refl _,.refl _,.int (by rw [qAh (by omega)];omega),trivial⟩,⟨ObLe.row hst,trivial⟩⟩
  ·have c3':16≤t:=by simp at c3;omega
   have hx:=cellsW_at b (i:=t-15) (t:=t) (by omega)
   have hy:=cellsW_at b (i:=t-2) (t:=t) (by omega)
   have h7:=cellsW_at b (i:=t-7) (t:=t) (by omega)
   have h16:=cellsW_at b (i:=t-16) (t:=t) (by omega)
   have hst:=cellsW_set b ht'
   rw [schW_next b c3'] at hst
   generalize (qKe b t).getD (t-15) 0=x at hx hst
   generalize (qKe b t).getD (t-2) 0=y at hy hst
   generalize (qKe b t).getD (t-7) 0=z7 at h7 hst
   generalize (qKe b t).getD (t-16) 0=z16 at h16 hst
   have e15:IntKind.i64.wrap ((t:Int)-15)=((t-15:Nat):Int):=by rw [qAh (by omega)];omega
   have e2:IntKind.i64.wrap ((t:Int)-2)=((t-2:Nat):Int):=by rw [qAh (by omega)];omega
   have e7:IntKind.i64.wrap ((t:Int)-7)=((t-7:Nat):Int):=by rw [qAh (by omega)];omega
   have e16:IntKind.i64.wrap ((t:Int)-16)=((t-16:Nat):Int):=by rw [qAh (by omega)];omega
   refine ww ?_
   refine qCb (qAe (arrPtr_ok hT rfl rfl rfl rfl (by rw [e15];omega))) rfl rfl ?_
   refine qCb (qCv (v:=uV x) hT rfl rfl rfl rfl rfl (by rw [e15];show (cellsW b t)[0+((t-15:Nat):Int).toNat*1]?=_;rw [show 0+((t-15:Nat):Int).toNat*1=t-15 by omega];exact hx)) rfl rfl ?_
   refine ww ?_
   refine qCb (qAe (arrPtr_ok hT rfl rfl rfl rfl (by rw [e2];omega))) rfl rfl ?_
   refine qCb (qCv (v:=uV y) hT rfl rfl rfl rfl rfl (by rw [e2];show (cellsW b t)[0+((t-2:Nat):Int).toNat*1]?=_;rw [show 0+((t-2:Nat):Int).toNat*1=t-2 by omega];exact hy)) rfl rfl ?_
   refine wwn ?_
   refine qAi (l:=[(0,.d (.sl 1 (qMi v))),(1,.d (.sl 1 (qBb b))),(6,.fn (.func 534) [] []),(7,.ptr 0 0),(8,.I (t:Int)),(9,uV x),(10,uV y),(27,.I (t:Int))]) (h':=[.row (cellsW b t)]) yf (HLe.refl _) ?_
   refine qBu (fun _=>[0]) (fun i=>bif Nat.beq i 27 then [0] else []) mixed (by kernel_rfl) ?_
   refine wwg ?_
   refine qAm (os:=[]) (fun k hk1 hk2=>buildSl_ok hT rfl rfl) rfl ?_
   refine wwdc (qPh y 17 19 (by omega) (by omega)) ?_
   refine wwg ?_
   refine qAm (os:=[]) (fun k hk1 hk2=>qAe (arrPtr_ok hT rfl rfl rfl rfl (by rw [e7];omega))) rfl ?_
   refine qAm (v:=uV z7) (os:=[]) (fun k hk1 hk2=>qCv hT rfl rfl ((hk2 0 List.mem_cons_self).trans rfl) rfl rfl (by rw [e7];show (cellsW b t)[0+((t-7:Nat):Int).toNat*1]?=_;rw [show 0+((t-7:Nat):Int).toNat*1=t-7 by omega];exact h7)) rfl ?_
   refine wwg ?_
   refine qAm (os:=[]) (fun k hk1 hk2=>buildSl_ok hT rfl rfl) rfl ?_
   refine wwdc (qPh x 7 18 (by omega) (by omega)) ?_
   refine wwg ?_
   refine qAm (os:=[]) (fun k hk1 hk2=>qAe (arrPtr_ok hT rfl rfl rfl rfl (by rw [e16];omega))) rfl ?_
   refine qAm (v:=uV z16) (os:=[]) (fun k hk1 hk2=>qCv hT rfl rfl ((hk2 0 List.mem_cons_self).trans rfl) rfl rfl (by rw [e16];show (cellsW b t)[0+((t-16:Nat):Int).toNat*1]?=_;rw [show 0+((t-16:Nat):Int).toNat*1=t-16 by omega];exact h16)) rfl ?_
   refine wwg ?_
   refine qAm (os:=[]) (fun k hk1 hk2=>qAe (arrPtr_ok hT rfl rfl rfl rfl (by omega))) rfl ?_
   have hval:∀ r,r=wI (sg1 y+z7+sg0 x+z16)→(cellsW b t).set (0+((t:Int)).toNat*1) (.d (.int .u32 r))=cellsW b (t+1):=by
    intro r hr;subst hr;rw [show 0+((t:Int)).toNat*1=t by omega];exact hst
   refine qAm (v:=.any) (os:=[.row ((cellsW b t).set (0+((t:Int)).toNat*1) _)]) (fun k hk1 hk2=>qHo hT rfl rfl ((hk2 0 List.mem_cons_self).trans rfl) rfl rfl rfl (by show 0+((t:Int)).toNat*1 < (cellsW b t).length;rw [hcl];omega)) rfl ?_
   refine wwg ?_
   refine ww ?_
   exact ⟨t+1,by omega,by omega,⟨.refl _,.refl _,.refl _,.refl _,.int (by rw [qAh (by omega)];omega),trivial⟩,⟨ObLe.row (hval _ (by simp only [wshr,wI_xor,wI_add];rfl)),trivial⟩⟩
 have ht':t=m:=by simp at c2;omega
 subst ht'
 generalize cellsW b t=cw at hcw hcl ⊢
 generalize qKe b t=w at hcw ⊢
 refine ww ?_
 refine qAd (qAe (sliceArr_ok hT rfl rfl rfl (by rw [encW_length];omega))) rfl ?_
 refine ww ?_
 refine qAn (ι:=Nat) (fun n=>[(0,.d (.sl 1 (qMi v))),(6,.fn (.func 534) [] []),(7,.ptr 0 0),(11,.ptr 1 0),(78,.I (n:Int))]) (fun n=>[.row (cw),.row (vC (qGy v w n))]) (fun n=>n≤t) (fun n=>t-n) 0 (Nat.zero_le _)
  yf ⟨ObLe.refl _,ObLe.row (by rw [roundW_zero];rfl),trivial⟩ ?_
 intro n hn
 refine ww ?_
 refine qAa rfl (fun c3=>?_) (fun c3=>?_)
 ·have hn':n < 64:=by simp at c3;omega
  have hr1:=roundW_succ v w n
  have hwn:=hcw n (by omega)
  have hkn:=kD_at hn'
  generalize qGy v w n=r at hr1 ⊢
  generalize w.getD n 0=wn at hr1 hwn
  generalize kW.getD n 0=kn at hr1 hkn
  refine ww ?_
  first | refine qAd (qAe (arrPtr_ok hT rfl rfl rfl rfl (by decide))) rfl ?_ | refine qCb (qAe (arrPtr_ok hT rfl rfl rfl rfl (by decide))) rfl rfl ?_
  refine ww ?_
  first | refine qAd (qAe (arrPtr_ok hT rfl rfl rfl rfl (by decide))) rfl ?_ | refine qCb (qAe (arrPtr_ok hT rfl rfl rfl rfl (by decide))) rfl rfl ?_
  refine wwn ?_
  refine qAi (l:=[(0,.d (.sl 1 (qMi v))),(6,.fn (.func 534) [] []),(7,.ptr 0 0),(11,.ptr 1 0),(12,.I (n:Int)),(13,uV r.a),(14,uV r.e),(78,.I (n:Int))]) (h':=[.row (cw),.row (vC r)]) yf (HLe.refl _) ?_
  refine wx mixed ?_
  refine wws ?_
  first | refine qAd (qAe (arrPtr_ok hT rfl rfl rfl rfl (by decide))) rfl ?_ | refine qCb (qAe (arrPtr_ok hT rfl rfl rfl rfl (by decide))) rfl rfl ?_
  refine wws ?_
  refine wwc (qPg r.e 6 11 25 (by omega) (by omega) (by omega)) ?_
  refine wws ?_
  first | refine qAd (qAe (arrPtr_ok hT rfl rfl rfl rfl (by decide))) rfl ?_ | refine qCb (qAe (arrPtr_ok hT rfl rfl rfl rfl (by decide))) rfl rfl ?_
  refine wws ?_
  first | refine qAd (qAe (arrPtr_ok hT rfl rfl rfl rfl (by decide))) rfl ?_ | refine qCb (qAe (arrPtr_ok hT rfl rfl rfl rfl (by decide))) rfl rfl ?_
  refine wws ?_
  refine qCb (qAe (arrAddr_ok (cs:=kD) hT rfl rfl (by show (match qHd 9 with | some cs=>AV.iptr cs | none=>.any)=_;rw [kD_tab]) rfl (by omega))) rfl rfl ?_
  refine qCb (qAe (loadI_ok hT rfl rfl (loadI_head rfl rfl (by rw [show ((n:Int)).toNat*1=n by omega];exact hkn)))) rfl rfl ?_
  refine wws ?_
  refine qCb (qAe (arrPtr_ok hT rfl rfl rfl rfl (by omega))) rfl rfl ?_
  refine qCb (qCv (v:=uV wn) hT rfl rfl rfl rfl rfl (by show (cw)[0+((n:Int)).toNat*1]?=_;rw [show 0+((n:Int)).toNat*1=n by omega];exact hwn)) rfl rfl ?_
  refine wwn ?_
  refine qAi (l:=[(0,.d (.sl 1 (qMi v))),(6,.fn (.func 534) [] []),(7,.ptr 0 0),(11,.ptr 1 0),(12,.I (n:Int)),(13,uV r.a),(14,uV r.e),(15,uV (r.h+bs1 r.e+((r.e &&& r.f) ^^^ (~~~ r.e &&& r.g))+kn+wn)),(78,.I (n:Int))]) (h':=[.row cw,.row (vC r)])
   ⟨.refl _,.refl _,.refl _,.refl _,.refl _,.refl _,.refl _,.int (by simp only [wI_not,wI_and,wI_xor,wI_add,uV];rfl),.refl _,trivial⟩ (HLe.refl _) ?_
  generalize hT1:r.h+bs1 r.e+((r.e &&& r.f) ^^^ (~~~ r.e &&& r.g))+kn+wn=T1
  refine wx mixed ?_
  refine wws ?_
  refine wwc (qPg r.a 2 13 22 (by omega) (by omega) (by omega)) ?_
  refine wws ?_
  first | refine qAd (qAe (arrPtr_ok hT rfl rfl rfl rfl (by decide))) rfl ?_ | refine qCb (qAe (arrPtr_ok hT rfl rfl rfl rfl (by decide))) rfl rfl ?_
  refine wws ?_
  first | refine qAd (qAe (arrPtr_ok hT rfl rfl rfl rfl (by decide))) rfl ?_ | refine qCb (qAe (arrPtr_ok hT rfl rfl rfl rfl (by decide))) rfl rfl ?_
  refine wws ?_
  first | refine qAd (qAe (arrPtr_ok hT rfl rfl rfl rfl (by decide))) rfl ?_ | refine qCb (qAe (arrPtr_ok hT rfl rfl rfl rfl (by decide))) rfl rfl ?_
  refine wws ?_
  first | refine qAd (qAe (arrPtr_ok hT rfl rfl rfl rfl (by decide))) rfl ?_ | refine qCb (qAe (arrPtr_ok hT rfl rfl rfl rfl (by decide))) rfl rfl ?_
  refine wws ?_
  refine qAi (l:=[(0,.d (.sl 1 (qMi v))),(6,.fn (.func 534) [] []),(7,.ptr 0 0),(11,.ptr 1 0),(15,uV T1),(16,uV (bs0 r.a+((r.a &&& r.b) ^^^ (r.a &&& r.c) ^^^ (r.b &&& r.c)))),(78,.I (n:Int))]) (h':=[.row cw,.row (vC r)])
   ⟨.refl _,.refl _,.refl _,.refl _,.refl _,.int (by simp only [wI_not,wI_and,wI_xor,wI_add,uV];rfl),.refl _,trivial⟩ (HLe.refl _) ?_
  generalize hT2:bs0 r.a+((r.a &&& r.b) ^^^ (r.a &&& r.c) ^^^ (r.b &&& r.c))=T2
  have hfv:vC (vEk r kn wn)=[uV (T1+T2),uV r.a,uV r.b,uV r.c,uV (r.d+T1),uV r.e,uV r.f,uV r.g]:=by rw [← hT1,← hT2];rfl
  refine ww ?_
  first | refine qAd (qAe (arrPtr_ok hT rfl rfl rfl rfl (by decide))) rfl ?_ | refine qCb (qAe (arrPtr_ok hT rfl rfl rfl rfl (by decide))) rfl rfl ?_
  refine ww ?_
  first | refine qAd (qAe (arrPtr_ok hT rfl rfl rfl rfl (by decide))) rfl ?_ | refine qCb (qAe (arrPtr_ok hT rfl rfl rfl rfl (by decide))) rfl rfl ?_
  refine ww ?_
  first | refine qAd (qAe (arrPtr_ok hT rfl rfl rfl rfl (by decide))) rfl ?_ | refine qCb (qAe (arrPtr_ok hT rfl rfl rfl rfl (by decide))) rfl rfl ?_
  refine ww ?_
  first | refine qAd (qAe (arrPtr_ok hT rfl rfl rfl rfl (by decide))) rfl ?_ | refine qCb (qAe (arrPtr_ok hT rfl rfl rfl rfl (by decide))) rfl rfl ?_
  refine ww ?_
  first | refine qAd (qAe (arrPtr_ok hT rfl rfl rfl rfl (by decide))) rfl ?_ | refine qCb (qAe (arrPtr_ok hT rfl rfl rfl rfl (by decide))) rfl rfl ?_
  refine ww ?_
  first | refine qAd (qAe (arrPtr_ok hT rfl rfl rfl rfl (by decide))) rfl ?_ | refine qCb (qAe (arrPtr_ok hT rfl rfl rfl rfl (by decide))) rfl rfl ?_
  refine ww ?_
  first | refine qAd (qAe (arrPtr_ok hT rfl rfl rfl rfl (by decide))) rfl ?_ | refine qCb (qAe (arrPtr_ok hT rfl rfl rfl rfl (by decide))) rfl rfl ?_
  refine ww ?_
  exact ⟨n+1,by omega,by omega,⟨.refl _,.refl _,.refl _,.refl _,.int (by rw [qAh (by omega)];omega),trivial⟩,⟨ObLe.refl _,ObLe.row (by rw [hr1,hfv];simp only [uV,wI_add]),trivial⟩⟩
 have hn':n=t:=by simp at c3;omega
 subst hn'
 generalize qGy v w n=r
 refine ww ?_
 refine qAd (makeRow1_ok (n:=8) hT rfl rfl rfl rfl (by decide) (by decide)) rfl ?_
 refine ww ?_
 refine qAn (ι:=Nat) (fun i=>[(0,.d (.sl 1 (qMi v))),(11,.ptr 1 0),(17,.row 2 0 8 8),(154,.I 8),(155,.I (i:Int))]) (fun i=>[.row cw,.row (vC r),.row (qYc v r i)]) (fun i=>i≤8) (fun i=>8-i) 0 (Nat.zero_le _)
  yf ⟨ObLe.refl _,ObLe.refl _,ObLe.row rfl,trivial⟩ ?_
 intro i hi
 refine ww ?_
 refine qAa rfl (fun c4=>?_) (fun c4=>?_)
 ·have hi':i < 8:=by simp at c4;omega
  have hs:=sumC_set v r hi'
  have hv:=encW_at v hi'
  have hr:=vC_at r hi'
  have hsl:=sumC_length v r hi
  generalize (vwL v).getD i 0=x at hs hv
  generalize (vwL r).getD i 0=y at hs hr
  refine wwn ?_
  refine qBu (fun i=>bif Nat.beq i 8 then [1] else bif Nat.beq i 11 then [2] else []) (fun i=>bif Nat.beq i 11 then [2] else []) mixed (by kernel_rfl) ?_
  refine wwg ?_
  refine qAm (os:=[]) (fun k hk1 hk2=>qAe (indexAddr_ok hT rfl rfl rfl rfl (by omega) hv)) rfl ?_
  refine wwg ?_
  refine qAm (os:=[]) (fun k hk1 hk2=>qAe (arrPtr_ok hT rfl rfl rfl rfl (by omega))) rfl ?_
  refine qAm (v:=uV y) (os:=[]) (fun k hk1 hk2=>qCv hT rfl rfl ((hk2 1 List.mem_cons_self).trans rfl) rfl rfl (by show (vC r)[0+((i:Int)).toNat*1]?=_;rw [show 0+((i:Int)).toNat*1=i by omega];exact hr)) rfl ?_
  refine wwg ?_
  refine qAm (os:=[]) (fun k hk1 hk2=>qAe (rowAddr_ok (sz:=1) hT rfl rfl rfl rfl (by omega))) rfl ?_
  have hval:∀ z,z=wI (x+y)→(qYc v r i).set (0+((i:Int)).toNat*1) (.d (.int .u32 z))=qYc v r (i+1):=by
   intro z hz;subst hz;rw [show 0+((i:Int)).toNat*1=i by omega];exact hs
  refine qAm (v:=.any) (os:=[.row ((qYc v r i).set (0+((i:Int)).toNat*1) _)]) (fun k hk1 hk2=>qHo hT rfl rfl ((hk2 2 List.mem_cons_self).trans rfl) rfl rfl rfl (by show 0+((i:Int)).toNat*1 < (qYc v r i).length;rw [hsl];omega)) rfl ?_
  refine wwg ?_
  refine ww ?_
  exact ⟨i+1,hi',by omega,⟨.refl _,.refl _,.refl _,.refl _,.int (by rw [qAh (by omega)];omega),trivial⟩,⟨ObLe.refl _,ObLe.refl _,ObLe.row (hval _ (wI_add x y)),trivial⟩⟩
 have hi':i=8:=by simp at c4;omega
 subst hi'
 refine wwe ?_
 refine qMc 17 2 1 (qMi (vBh v r)) rfl rfl rfl (by decide) (sumC_all v r) ?_
 refine ww ?_
 exact wwr
end Tdoc
namespace Tdoc
open Go
open Go Go.Proofs
end Tdoc
namespace Tdoc
open Go
open Go Go.Proofs
def vEr (v:List UInt8):Int×Int:=if 7 < v.length then (0,2) else (((nbN v:Nat):Int),0)
theorem qJp (v:List UInt8) (hv:v.length≤1000000):Spec Tryz.prog 279 [.d (.sl 1 (qBb v))] [] (fun r h'=>r=.tup [.d (.int .i64 (vEr v).1),.d (.int .i64 (vEr v).2)]∧h'=[]):=by
 have hl:=encB_length v
 unfold vEr
 by_cases h7:7 < v.length
 ·rw [if_pos h7]
  refine qAb hT Tryz.func279 rfl rfl rfl rfl ?_;intro E hE
  refine ww ?_
  refine qAa rfl (fun c1=>?_) (fun c1=>?_)
  ·refine ww ?_
   exact wwr
  ·exfalso;rw [hl] at c1;simp at c1;omega
 rw [if_neg h7]
 refine qAb hT Tryz.func279 rfl rfl rfl rfl ?_;intro E hE
 refine ww ?_
 refine qAa rfl (fun c1=>?_) (fun c1=>?_)
 ·exfalso;rw [hl] at c1;simp at c1;omega
 refine ww ?_
 refine qAn (ι:=Nat) (fun i=>[(0,.d (.sl 1 (qBb v))),(4,.I ((nbN (v.take i):Nat):Int)),(10,.d (.sl 1 (qBb v))),(11,.I ((qBb v).length:Int)),(12,.I (i:Int))]) (fun _=>[]) (fun i=>i≤v.length) (fun i=>v.length-i) 0 (by omega) yf (HLe.refl _) ?_
 intro i hi
 have hwr:IntKind.i64.wrap ((i:Int)+1)=((i+1:Nat):Int):=by rw [qAh (by omega)];simp
 refine ww ?_
 refine qAa rfl (fun c2=>?_) (fun c2=>?_)
 ·have c2':i < v.length:=by rw [hl] at c2;simpa using c2
  have hel:(qBb v)[((i:Int)).toNat]?=some [.int .u8 (v[i].toNat:Int)]:=by simp [qBb,c2']
  have htk:nbN (v.take (i+1))=256*nbN (v.take i)+v[i].toNat:=by rw [List.take_succ_eq_append_getElem c2',nbN_snoc]
  have hlt:nbN (v.take i) < 256 ^ 6:=Nat.lt_of_lt_of_le (nbN_lt _) (Nat.pow_le_pow_right (by omega) (by rw [List.length_take];omega))
  have h6:(256:Nat) ^ 6=281474976710656:=by decide
  rw [h6] at hlt
  have hc:=UInt8.toNat_lt v[i]
  generalize v[i]=c at hel htk hc
  generalize nbN (v.take i)=n at htk hlt
  have hb8:IntKind.i64.wrap (c.toNat:Int)=(c.toNat:Int):=qAh (by omega)
  have hs8:IntKind.i64.wrap ((n:Int)*2 ^ (min (Int.toNat 8) IntKind.i64.bits))=((n*2 ^ 8:Nat):Int):=by
   rw [show min (Int.toNat 8) IntKind.i64.bits=8 from rfl,qAh (by omega)];omega
  have hw1:IntKind.i64.wrap ((BitVec.ofInt IntKind.i64.bits (IntKind.i64.wrap ((n:Int)*2 ^ (min (Int.toNat 8) IntKind.i64.bits))) ||| BitVec.ofInt IntKind.i64.bits (IntKind.i64.wrap (c.toNat:Int))).toNat:Int)=((nbN (v.take (i+1)):Nat):Int):=by
   rw [hb8,hs8,vHl (by omega) (by omega),vDt n c.toNat 8 (by omega),htk];congr 1;omega
  refine ww ?_
  refine wwi hel ?_
  refine ww ?_
  exact ⟨i+1,by omega,by omega,⟨.refl _,.int hw1,.refl _,.refl _,.int hwr,trivial⟩,HLe.refl _⟩
 ·have c2':i=v.length:=by rw [hl] at c2;simp at c2;omega
  subst c2'
  rw [List.take_length]
  refine ww ?_
  exact wwr
def qFw (n:Nat) (es:List (List Dat)):Nat:=(es.length+(n-1)) / n
def qQh (n:Nat) (es:List (List Dat)) (k:Nat):AV:=.d (.sl 1 ((es.drop (k*n)).take n))
def qFo (n:Nat) (es:List (List Dat)):List AV:=(List.range (qFw n es)).map (qQh n es)
theorem qWa {n:Nat} {es:List (List Dat)} {k:Nat} (hn:1≤n):k < qFw n es↔k*n < es.length:=by
 unfold qFw
 rw [← Nat.succ_le_iff,Nat.le_div_iff_mul_le (by omega),Nat.succ_mul]
 omega
theorem qSz (i j n:Nat) (es:List (List Dat)) (hn:1≤n∧n≤1000000000) (hl:es.length≤1000000000) :
  SeqOk Tryz.prog 533 [.ptr i 0,.ptr j 0] (fun h=>h[i]?=some (.row [.d (.sl 1 es)])∧h[j]?=some (.row [.I (n:Int)])) (qFo n es):=by
 refine qTl Tryz.func533 rfl rfl rfl rfl ?_
 intro E l Hs hok hY
 have hlen:(qFo n es).length=qFw n es:=by simp [qFo]
 rw [hlen]
 refine qJc (qFh (.inl rfl) rfl ?_)
 refine wws ?_
 refine qMe (vBa (ι:=Nat) (fun k=>[(0,.fn (.yield l) [] []),(1,.ptr i 0),(2,.ptr j 0),(4,.I ((k*n:Nat):Int))]) (fun k=>Hs k) (fun k=>k≤qFw n es) (fun k=>qFw n es-k) 0 (Nat.zero_le _) ⟨.refl _,.refl _,.refl _,AV.le.int (by simp),trivial⟩ (HLe.refl _) ?_)
 intro k hk
 obtain ⟨h1,h2⟩:=hok k
 have hlt:=qWa (n:=n) (es:=es) (k:=k) hn.1
 have hkn:k*n≤es.length+n:=by
  by_cases h0:k=0
  ·subst h0;simp
  ·have:(k-1)*n < es.length:=(qWa hn.1).1 (by omega)
   have h3:k*n=(k-1)*n+n:=by rw [← Nat.succ_mul];congr 1;omega
   omega
 refine qJc (qJc (qFh (.inl rfl) rfl ?_))
 refine wws ?_
 refine qAd (qCv hT rfl rfl h1 rfl rfl rfl) rfl ?_
 refine wws ?_
 refine qRm rfl (fun c1=>?_) (fun c1=>?_)
 ·have c1':k*n < es.length:=Int.ofNat_lt.1 (of_decide_eq_true c1)
  have hk':=hlt.2 c1'
  have hy:=hY k (qQh n es k) (by simp [qFo,hk'])
  refine qWm ?_
  refine qJc (qMe (qJc ?_))
  refine vBb (.inl rfl) (fun _=>List.range (Hs k).length) (fun _=>[]) mixed rfl (by kernel_rfl) ?_
  refine qCb (qCv hT rfl rfl h2 rfl rfl rfl) rfl rfl ?_
  refine qCb (qCv hT rfl rfl h1 rfl rfl rfl) rfl rfl ?_
  refine wws ?_
  refine qCb (qAe (qSm (t2:=#[]) rfl rfl rfl)) rfl rfl ?_
  refine wws ?_
  have hmn:(if (((es.drop (k*n)).length:Nat):Int) < (n:Int) then (((es.drop (k*n)).length:Nat):Int) else (n:Int))=((min n (es.length-k*n):Nat):Int):=by
   rw [List.length_drop];split <;> omega
  have htk:(es.drop (k*n)).take (k*n+min n (es.length-k*n)-k*n)=(es.drop (k*n)).take n:=by
   rw [Nat.add_sub_cancel_left]
   rcases Nat.le_total n (es.length-k*n) with h | h
   ·rw [Nat.min_eq_left h]
   ·rw [Nat.min_eq_right h,List.take_of_length_le (by simp),List.take_of_length_le (by simp;omega)]
  refine qWl (l:=[(0,.fn (.yield l) [] []),(1,.ptr i 0),(2,.ptr j 0),(4,.I ((k*n:Nat):Int)),(5,.I ((min n (es.length-k*n):Nat):Int))]) (h':=Hs k) ⟨.refl _,.refl _,.refl _,.refl _,AV.le.int hmn,trivial⟩ (HLe.refl _) ?_
  refine qJc (qMd (.inl rfl) ?_)
  have hadd:IntKind.i64.wrap (((k*n:Nat):Int)+((min n (es.length-k*n):Nat):Int))=((k*n+min n (es.length-k*n):Nat):Int):=by rw [qAh (by omega)];omega
  refine qOu (.inl rfl) (pre:=[_,_,_,_,_,_,_,_,_,_]) _ _ rfl ?_
  refine wws ?_
  refine qAd (qCv hT rfl rfl h1 rfl rfl rfl) rfl ?_
  refine wws ?_
  refine qAd (qAe (vFx (l:=k*n) (r:=k*n+min n (es.length-k*n)) hT rfl rfl rfl rfl (by exact congrArg (fun z=>AV.d (.int .i64 z)) hadd) (by exact congrArg (fun z=>AV.d (.int .i64 z)) hadd) (by omega) rfl)) rfl ?_
  rw [htk]
  refine wws ?_
  refine vGo (vBi rfl rfl rfl hy) rfl ?_
  refine qWj (.inl rfl) _ _ _ rfl ?_
  refine wws ?_
  refine qRm rfl (fun c2=>?_) (fun c2=>?_)
  ·exact absurd c2 (by simp)
  refine qWm ?_
  refine qFh (.inl rfl) rfl ?_
  refine wws ?_
  obtain ⟨h1',h2'⟩:=hok (k+1)
  refine qAd (qCv hT rfl rfl h2' rfl rfl rfl) rfl ?_
  refine wws ?_
  exact ⟨k+1,hk',by omega,⟨.refl _,.refl _,.refl _,AV.le.int (by rw [qAh (by omega),Nat.succ_mul];omega),trivial⟩,HLe.refl _⟩
 ·have c1':¬ k*n < es.length:=fun h=>(of_decide_eq_false c1) (Int.ofNat_lt.2 h)
  have hk':k=qFw n es:=by
   have:¬ k < qFw n es:=fun h=>c1' (hlt.1 h)
   omega
  subst hk'
  exact vDq ⟨.inl rfl,rfl⟩
theorem qXx (es:List (List Dat)) (n:Nat) (hn:1≤n∧n≤1000000000):Spec Tryz.prog 438 [.d (.sl 1 es),.I (n:Int)] [.room,.room]
  (fun r h'=>r=.fn (.func 533) [] [.ptr 0 0,.ptr 1 0]∧h'=[.row [.d (.sl 1 es)],.row [.I (n:Int)]]):=by
 refine qAb hT Tryz.func438 rfl rfl rfl rfl ?_;intro E hE
 refine qAf (qAc ?_)
 refine qAd (boxAt_ok (i0:=0) rfl rfl rfl) rfl ?_
 refine qAd (boxAt_ok (i0:=1) rfl rfl rfl) rfl ?_
 refine ww ?_
 refine qAa rfl (fun c1=>?_) (fun c1=>?_)
 ·exact absurd c1 (by simp;omega)
 refine ww ?_
 exact wwr
theorem sumTo_succ (b:List UInt8) (n:Nat):qPc b (n+1)=qXi (qPc b n) (((qWv b).drop (64*n)).take 64):=rfl
def vBu (v:Vw) (i:Nat):List UInt8:=(((vwL v).take i).map qEk).flatten
theorem outN_succ (v:Vw) {i:Nat} (h:i < 8):vBu v (i+1)=vBu v i++qEk ((vwL v).getD i 0):=by
 have hl:(vwL v).length=8:=rfl
 unfold vBu
 rw [List.take_add_one,List.map_append,List.flatten_append]
 simp [hl,h]
theorem outN_length (v:Vw):∀ i,i≤8→(vBu v i).length=4*i
 | 0,_=>rfl
 | i+1,h=>by rw [outN_succ v (by omega),List.length_append,outN_length v i (by omega)];rfl
theorem outN_all (v:Vw):vBu v 8=vGw v:=(outW_eq v).symm
theorem qWh (b:List UInt8) (hb:b.length≤900000):Spec Tryz.prog 316 [.d (.sl 1 (qBb b))] [] (fun r h'=>r=.d (.sl 1 (qBb (qOv b)))∧h'=[]):=by
 have hpl:=padW_length b
 have hpad:=vDh b hb
 have hsum:=sumW_to b
 have hsucc:=sumTo_succ b
 have hz:qMi (qPc b 0)=qMi qVb:=rfl
 generalize qOv b=fin at hsum
 subst hsum
 generalize qPc b=sf at hsucc hz
 generalize qWv b=p at hpl hpad hsucc
 obtain ⟨kk,hkk⟩:∃ kk,p.length / 64=kk:=⟨_,rfl⟩
 rw [hkk]
 have hel:=encB_length p
 have hcn:qFw 64 (qBb p)=kk:=by unfold qFw;rw [hel];omega
 have hck:=qXx (qBb p) 64 (by omega)
 have hsq:=qSz 1 2 64 (qBb p) (by omega) (by omega)
 have hxl:(qFo 64 (qBb p)).length=kk:=by simp [qFo,hcn]
 obtain ⟨Hs,hHs⟩:∃ Hs:Nat→List AObj,Hs=fun k=>[.row [.d (.sl 1 (qMi (sf k)))],.row [.d (.sl 1 (qBb p))],.row [.I (64:Nat)]]:=⟨_,rfl⟩
 refine qOj hT Tryz.func316 rfl rfl rfl rfl ?_
 intro E hE
 refine qUu ?_
 refine ww ?_
 refine qUu ?_
 refine ww ?_
 refine wwc qWp ?_
 refine ww ?_
 refine vDl (Qx:=fun e τ' h'=>e=.normal∧SubL τ' [(3,.ptr 0 0)]∧h'=Hs kk) (qUu ?_) ?_ ?_
 ·refine qAq (qAq ?_)
  refine ww ?_
  refine wwc hpad ?_
  refine ww ?_
  refine qAd (qOb rfl rfl hck [1,2] (by decide) rfl rfl rfl rfl rfl rfl rfl) rfl ?_
  refine ww ?_
  refine qWi (l:=[(11,.fn (.func 533) [] [.ptr 1 0,.ptr 2 0]),(3,.ptr 0 0)]) (h':=Hs 0) yf (by rw [hHs];exact ⟨ObLe.row (by rw [hz]),ObLe.refl _,ObLe.refl _,trivial⟩) ?_
  refine vAt (qYa Hs rfl hsq rfl (fun k=>by rw [hHs];exact ⟨rfl,rfl⟩) rfl (fun k=>by rw [hHs];rfl) (fun k=>by rw [hHs];rfl)
   (fun x=>look ((4,x)::(12,x)::[(11,.fn (.func 533) [] [.ptr 1 0,.ptr 2 0]),(3,.ptr 0 0)])) ?_ ?_ ?_)
  ·rintro k x hx E' l
   have hx':x=qQh 64 (qBb p) k:=by
    have hlt:k < qFw 64 (qBb p):=by have:=(List.getElem?_eq_some_iff.1 hx).1;simpa [qFo] using this
    simp [qFo,hlt] at hx
    exact hx.symm
   subst hx'
   refine qFh (.inr ⟨l,rfl⟩) rfl ?_
   show AWk _ _ _ _ _ _ (look ((12,qQh 64 (qBb p) k)::[(11,.fn (.func 533) [] [.ptr 1 0,.ptr 2 0]),(3,.ptr 0 0)])) _
   refine wws ?_
   exact ⟨rfl,rfl,rfl⟩
  ·rintro k x hx E' l hE'
   have hlt:k < kk:=by have:=(List.getElem?_eq_some_iff.1 hx).1;omega
   have hx':x=.d (.sl 1 (qBb ((p.drop (64*k)).take 64))):=by
    have hlt:k < qFw 64 (qBb p):=by omega
    simp [qFo,hlt] at hx
    rw [← hx]
    unfold qQh qBb
    rw [List.map_take,List.map_drop,Nat.mul_comm]
   subst hx'
   have hcp:=qOq (sf k) ((p.drop (64*k)).take 64) (by rw [List.length_take,List.length_drop];omega)
   rw [← hsucc k] at hcp
   refine qWl (l:=[(4,.d (.sl 1 (qBb ((p.drop (64*k)).take 64)))),(3,.ptr 0 0)]) yf (HLe.refl _) ?_
   subst hHs
   refine qMe (qFh (.inr ⟨l,rfl⟩) rfl ?_)
   refine wws ?_
   refine wwc hcp ?_
   refine wws ?_
   exact ⟨rfl,[],HLe.refl _⟩
  ·exact ⟨rfl,yf,by rw [hxl]⟩
 ·rintro E2 hE2 τ' h' ⟨_,hs,rfl⟩
  subst hHs
  refine qWi (h':=[.row [.d (.sl 1 (qMi (sf kk)))],.dead,.dead]) hs ⟨ObLe.refl _,trivial,trivial,trivial⟩ ?_
  refine vIs ?_
  generalize sf kk=v
  refine qAq ?_
  refine qAf (qAc ?_)
  refine wws ?_
  refine qBc 5 1 3 (es:=[]) (.inr ⟨rfl,rfl⟩) rfl ?_
  refine ww ?_
  refine qAn (ι:=Nat) (fun i=>[(5,.sl 1 (qBb (vBu v i)) (.right 3)),(19,.d (.sl 1 (qMi v))),(20,.I 8),(21,.I (i:Int))]) (fun i=>[.row [.d (.sl 1 (qMi v))],.dead,.dead,.right 1 (qBb (vBu v i)).length]) (fun i=>i≤8) (fun i=>8-i) 0 (Nat.zero_le _)
   yf (HLe.refl _) ?_
  intro i hi
  have hol:=encB_length (vBu v i)
  have hln:=outN_length v i hi
  refine ww ?_
  refine qAa rfl (fun c1=>?_) (fun c1=>?_)
  ·have hi':i < 8:=by simp at c1;omega
   have hv:=encW_at v hi'
   have hs:=outN_succ v hi'
   refine ww ?_
   refine wwi hv ?_
   refine ww ?_
   refine wwc (bytesOf_spec ((vwL v).getD i 0)) ?_
   refine ww ?_
   refine qAd (qAs (i:=3) hT rfl rfl rfl rfl rfl rfl (by show ((qBb (vBu v i)).length+4)*(1+1)≤_;omega)) rfl ?_
   refine ww ?_
   exact ⟨i+1,hi',by omega,⟨.slt (by rw [hs,encB_append]),.refl _,.refl _,.int (by rw [qAh (by omega)];omega),trivial⟩,⟨ObLe.refl _,ObLe.refl _,ObLe.refl _,⟨rfl,by rw [hs,encB_append]⟩,trivial⟩⟩
  ·have hi':i=8:=by simp at c1;omega
   subst hi'
   rw [outN_all]
   refine ww ?_
   refine rq ⟨rfl,rfl⟩ rfl AV.le.dat
 ·rintro e τ' h' he ⟨h1,_⟩
  exact absurd h1 he
theorem vHa (n:Nat):(List.replicate n [AV.d (.int .u8 0)]).flatten=qBf (List.replicate n 0):=by
 rw [qKj];unfold qBf;rw [List.map_replicate];rfl
theorem vAq (n:Nat) (hn:1≤n∧n≤1000000):Spec Tryz.prog 442 [.nils,.I (n:Int)] [.room] (fun r h'=>∃ cap:Nat,n≤cap∧r=.row 0 0 0 cap∧h'=[.row (qBf (List.replicate n 0))]):=by
 refine qAb hT Tryz.func442 rfl rfl rfl rfl ?_;intro E hE
 refine ww ?_
 refine qAa rfl (fun c1=>?_) (fun c1=>?_)
 ·exact absurd c1 (by simp)
 refine ww ?_
 refine qAd (qAe (capNil_ok (sz:=1) hT rfl rfl rfl)) rfl ?_
 refine ww ?_
 refine qAa rfl (fun c2=>?_) (fun c2=>?_)
 ·refine ww ?_
  refine qAd (qAe (capNil_ok (sz:=1) hT rfl rfl rfl)) rfl ?_
  refine qAd (qAe (nilCut_ok (sz:=1) hT rfl rfl rfl rfl)) rfl ?_
  refine ww ?_
  refine qDx (growMake_ok (k':=.i64) (n:=n) (i0:=0) (sz:=1) hT rfl rfl rfl (.inr rfl) ?_ ⟨by omega,by decide⟩ (by show n*(1+1)≤_;omega) rfl) rfl ?_
  ·exact congrArg (fun z=>AV.d (.int .i64 z)) (by show IntKind.i64.wrap ((n:Int)-IntKind.i64.wrap (0-0))=(n:Int);rw [show IntKind.i64.wrap ((0:Int)-0)=0 from rfl,qAh (by omega)];omega)
  rintro v h' ⟨cap,hcap,rfl,rfl⟩
  rw [vHa]
  refine ww ?_
  refine qAd (qAe (qYt (sz:=1) (l:=0) (r:=0) (v:=.row 0 0 0 cap) hT rfl rfl rfl rfl ⟨_,rfl⟩ (by omega) (by omega) (by simp))) rfl ?_
  refine ww ?_
  exact rq (h6:=by show (qBl 1 (qBf _)&&true)=true;rw [Bool.and_true];exact lowL_bytes _ _) ⟨cap,hcap,rfl,rfl⟩ rfl (.refl _)
 ·exfalso
  rw [qAh (n:=0-0) (by omega),qAh (by omega)] at c2
  simp at c2
  omega
theorem qYn:∀ (new:List UInt8) (pre old post:List UInt8),old.length=new.length→qCw (qBf (pre++old++post)) pre.length (qBf new)=qBf (pre++new++post)
 | [],pre,old,post,h=>by cases old with | nil=>rfl | cons _ _=>simp at h
 | c::new,pre,old,post,h=>by
  cases old with
  | nil=>simp at h
  | cons d old =>
   have e:(qBf (pre++d::old++post)).set pre.length (.d (.int .u8 (c.toNat:Int)))=qBf ((pre++[c])++old++post):=by
    unfold qBf
    rw [List.append_assoc,List.map_append,List.set_append_right _ _ (by simp)]
    simp
   have ih:=qYn new (pre++[c]) old post (by simpa using h)
   show qCw ((qBf (pre++d::old++post)).set pre.length (.d (.int .u8 (c.toNat:Int)))) (pre.length+1) (qBf new)=_
   rw [e]
   simpa using ih
theorem setRun_fill (pre new:List UInt8) {k:Nat} (h:new.length≤k):qCw (qBf (pre++List.replicate k 0)) (pre.length*1) (qEi (qBb new))=qBf (pre++new++List.replicate (k-new.length) 0):=by
 have e:List.replicate k (0:UInt8)=List.replicate new.length 0++List.replicate (k-new.length) 0:=by rw [List.replicate_append_replicate];congr 1;omega
 rw [flatAV_encB,Nat.mul_one,e,← List.append_assoc]
 exact qYn new pre _ _ (by simp)
theorem qLy (l:List (List UInt8)) (hl:l.length≤10) (h0:1≤l.flatten.length) (hb:l.flatten.length≤900000):Spec Tryz.prog 317 [.d (.sl 1 (qQe l))] [] (fun r h'=>r=.d (.sl 1 (qBb l.flatten))∧h'=[]):=by
 have hll:=encBs_length l
 have hle:=flatN_le l
 have hall:=flatN_all l
 have hsuc:∀ i,i < l.length→qJy l (i+1)=qJy l i++l.getD i []:=fun i h=>flatN_succ h
 have hz:qJy l 0=[]:=rfl
 have hg:=vAq l.flatten.length (by omega)
 generalize qJy l=fl at hle hall hsuc hz
 generalize l.flatten=tot at *
 refine qAb hT Tryz.func317 rfl rfl rfl rfl ?_;intro E hE
 refine ww ?_
 refine qAn (ι:=Nat) (fun i=>[(0,.d (.sl 1 (qQe l))),(3,.I ((fl i).length:Int)),(9,.d (.sl 1 (qQe l))),(10,.I (l.length:Int)),(11,.I (i:Int))]) (fun _=>[]) (fun i=>i≤l.length) (fun i=>l.length-i) 0 (Nat.zero_le _)
  ⟨.refl _,.int (by rw [hz];rfl),.refl _,.int (by rw [hll]),.refl _,trivial⟩ (HLe.refl _) ?_
 intro i hi
 refine ww ?_
 refine qAa rfl (fun c1=>?_) (fun c1=>?_)
 ·have hi':i < l.length:=by simp at c1;omega
  have hat:=encBs_at hi'
  have h1:=hle (i+1) hi'
  have hs:=hsuc i hi'
  have hlen:(fl (i+1)).length=(fl i).length+(l.getD i []).length:=by rw [hs,List.length_append]
  generalize l.getD i []=s at hat hs hlen
  have hel:=encB_length s
  refine ww ?_
  refine wwi hat ?_
  refine ww ?_
  refine qAa rfl (fun c2=>?_) (fun c2=>?_)
  ·exfalso
   rw [hel,qAh (by omega)] at c2
   simp at c2
   omega
  refine ww ?_
  exact ⟨i+1,hi',by omega,⟨.refl _,.int (by rw [hel,hlen,qAh (by omega)];omega),.refl _,.refl _,.int (by rw [qAh (by omega)];omega),trivial⟩,HLe.refl _⟩
 have hi':i=l.length:=by simp at c1;omega
 subst hi'
 rw [hall]
 refine qAq ?_
 refine ww ?_
 refine qUv (vIk rfl rfl hg [0] (by decide) rfl rfl rfl rfl (fun _=>by show (qBl 0 (qBf _)&&true)=true;rw [Bool.and_true];exact lowL_bytes _ _) (fun _=>rfl) (fun _=>rfl)) rfl ?_
 intro cap hcap
 refine ww ?_
 refine qAn (ι:=Nat) (fun i=>[(6,.row 0 0 (fl i).length cap),(25,.d (.sl 1 (qQe l))),(26,.I (l.length:Int)),(27,.I (i:Int))]) (fun i=>[.row (qBf (fl i++List.replicate (tot.length-(fl i).length) 0))]) (fun i=>i≤l.length) (fun i=>l.length-i) 0 (Nat.zero_le _)
  ⟨by rw [hz];exact .refl _,.refl _,.int (by rw [hll]),.refl _,trivial⟩ ⟨ObLe.row (by rw [hz];rfl),trivial⟩ ?_
 intro i hi
 refine ww ?_
 refine qAa rfl (fun c1=>?_) (fun c1=>?_)
 ·have hi':i < l.length:=by simp at c1;omega
  have hat:=encBs_at hi'
  have h1:=hle (i+1) hi'
  have hs:=hsuc i hi'
  have hlen:(fl (i+1)).length=(fl i).length+(l.getD i []).length:=by rw [hs,List.length_append]
  generalize l.getD i []=s at hat hs hlen
  have hel:=encB_length s
  have hfill:=setRun_fill (fl i) s (k:=tot.length-(fl i).length) (by omega)
  rw [← hs,show tot.length-(fl i).length-s.length=tot.length-(fl (i+1)).length by omega] at hfill
  refine ww ?_
  refine wwi hat ?_
  refine ww ?_
  refine qAd (appRowD_ok (i:=0) (es2:=qBb s) hT rfl rfl rfl rfl rfl rfl (by rw [hel];omega) (by show ((fl i).length+(qBb s).length)*1≤_;rw [hel,byteAV_length,List.length_append,List.length_replicate];omega)) rfl ?_
  refine ww ?_
  exact ⟨i+1,hi',by omega,⟨by rw [hel,← hlen];exact .refl _,.refl _,.refl _,.int (by rw [qAh (by omega)];omega),trivial⟩,⟨ObLe.row hfill,trivial⟩⟩
 have hi':i=l.length:=by simp at c1;omega
 subst hi'
 refine qBr ?_
 refine qAi (l:=[(6,.row 0 0 tot.length cap)]) (h':=[.row (qBf tot)]) ⟨by rw [hall];exact .refl _,trivial⟩ ⟨ObLe.row (by rw [hall,Nat.sub_self];simp),trivial⟩ ?_
 refine qMc 6 0 1 (qBb tot) rfl rfl (encB_length tot) hcap (qGj tot) ?_
 refine ww ?_
 exact wwr
theorem nbV_eq (v:List UInt8):nbV v=nbN v:=rfl
theorem qOy (b more:List UInt8) (h1:1≤more.length) (hl:b.length+more.length≤800000):Spec Tryz.prog 219 [.d (.sl 1 (qBb b)),.d (.sl 1 (qBb more))] [] (fun r h'=>r=.d (.sl 1 (qBb (qOv (b++more))))∧h'=[]):=by
 have hf:[b,more].flatten=b++more:=by simp
 have hc:=qLy [b,more] (by simp) (by rw [hf,List.length_append];omega) (by rw [hf,List.length_append];omega)
 have hs:=qWh (b++more) (by rw [List.length_append];omega)
 rw [hf] at hc
 generalize b++more=bm at hc hs
 refine qAb hT Tryz.func219 rfl rfl rfl rfl ?_;intro E hE
 refine ww ?_
 refine wwc hc ?_
 refine ww ?_
 refine wwc hs ?_
 refine ww ?_
 exact wwr
theorem vAr (seed:List UInt8) (n:Nat) (hs:seed.length≤500000) (h1:1≤n) (hn:n≤1024):Spec Tryz.prog 154 [.d (.sl 1 (qBb seed)),.I (n:Int)] [] (fun r h'=>r=.tup [.d (.sl 1 (qBb (qMm seed n))),.d (.sl 1 (qBb (qDs seed))),.I 0]∧h'=[]):=by
 have hdq:∀ i,n≤32*i→32*i < n+32→qMm seed n=(qLm seed i).take n:=drawS_eq seed n
 have hsu:∀ i,qLm seed (i+1)=qLm seed i++qOv (seed++1::qBp 4 i):=drawN_succ seed
 have hln:∀ i,(qLm seed i).length=32*i:=drawN_length seed
 have hz:qLm seed 0=[]:=rfl
 have hnx:=qOy seed [0] (by simp) (by simp;omega)
 have hnx2:qDs seed=qOv (seed++[0]):=rfl
 rw [← hnx2] at hnx
 generalize qDs seed=nx at hnx
 generalize qMm seed n=fin at hdq
 generalize qLm seed=dn at hdq hsu hln hz
 refine qAb hT Tryz.func154 rfl rfl rfl rfl ?_;intro E hE
 refine qAq ?_
 refine qAf (qAc ?_)
 refine wws ?_
 refine qBc 4 1 0 (es:=[]) (.inr ⟨rfl,rfl⟩) rfl ?_
 refine ww ?_
 refine qAa rfl (fun c1=>?_) (fun c1=>?_)
 ·exact absurd c1 (by simp;omega)
 refine ww ?_
 refine qAn (ι:=Nat) (fun i=>[(0,.d (.sl 1 (qBb seed))),(1,.I (n:Int)),(4,.sl 1 (qBb (dn i)) (.right 0)),(7,.I (i:Int))]) (fun i=>[.right 1 (qBb (dn i)).length]) (fun i=>32*i < n+32) (fun i=>n+32-32*i) 0 (by omega)
  ⟨.refl _,.refl _,.slt (by rw [hz];rfl),.refl _,trivial⟩ ⟨⟨rfl,by rw [hz];rfl⟩,trivial⟩ ?_
 intro i hi
 have hl:=hln i
 have hel:=encB_length (dn i)
 refine ww ?_
 refine qAa rfl (fun c2=>?_) (fun c2=>?_)
 ·have c2':32*i < n:=by simp at c2;omega
  have hs1:=hsu i
  have hoc:=qHk i 4 (by omega) (by omega)
  have h5:([[Dat.int .u8 1]]++qBb (qBp 4 i):List (List Dat))=qBb (1::qBp 4 i):=rfl
  have hol:=octB_length 4 i
  have hw:=qOy seed (1::qBp 4 i) (by simp) (by simp;omega)
  have hsl:=sumW_length (seed++1::qBp 4 i)
  generalize qOv (seed++1::qBp 4 i)=sm1 at hs1 hw hsl
  have hes:=encB_length sm1
  refine ww ?_
  refine wwc hoc ?_
  refine ww ?_
  refine qAd (qCp (es:=[[.int .u8 1]]) hT rfl rfl rfl (.inl rfl) rfl (by show (1+(qBb (qBp 4 i)).length)*(1+1)≤140737488355328;rw [encB_length,hol];omega)) rfl ?_
  rw [h5]
  refine ww ?_
  refine wwc hw ?_
  refine ww ?_
  refine qAd (qAs (i:=0) hT rfl rfl rfl rfl rfl rfl (by show ((qBb (dn i)).length+(qBb sm1).length)*(1+1)≤_;omega)) rfl ?_
  refine ww ?_
  exact ⟨i+1,by omega,by omega,⟨.refl _,.refl _,.slt (by rw [hs1,encB_append]),.int (by rw [qAh (by omega)];omega),trivial⟩,⟨⟨rfl,by rw [hs1,encB_append]⟩,trivial⟩⟩
 have c2':n≤32*i:=by simp at c2;omega
 rw [hdq i c2' hi]
 refine qBr ?_
 refine qAi (l:=[(0,.d (.sl 1 (qBb seed))),(1,.I (n:Int)),(4,.d (.sl 1 (qBb (dn i))))]) (h':=[.dead]) ⟨.refl _,.refl _,.dat,trivial⟩ ⟨trivial,trivial⟩ ?_
 refine ww ?_
 refine qCb (qAe (vCu (r:=n) hT rfl rfl rfl rfl rfl (by omega) (congrArg (fun z=>AV.d (.sl 1 z)) (encB_take _ _)))) rfl rfl ?_
 refine ww ?_
 refine wwc hnx ?_
 refine ww ?_
 exact wwr
theorem qG_val:qG=1073741789:=rfl
theorem nbN_lt7 (v:List UInt8) (h:v.length≤7):nbN v < 72057594037927936:=by
 have:=nbN_lt v
 exact Nat.lt_of_lt_of_le this (Nat.le_trans (Nat.pow_le_pow_right (by omega) h) (by decide))
theorem qTm (seed:List UInt8) (hs:seed.length≤500000):Spec Tryz.prog 212 [.d (.sl 1 (qBb seed))] [] (fun r h'=>r=.tup [.I (qMf seed:Int),.d (.sl 1 (qBb (qDs seed)))]∧h'=[]):=by
 have hd:=vAr seed 8 hs (by omega) (by omega)
 have hsq:=secS_eq seed
 rw [nbV_eq] at hsq
 have hdl:=drawS_length seed 8
 generalize qMm seed 8=ds at hd hsq hdl
 generalize qDs seed=nx at hd
 have hnm:=qJp (ds.take 7) (by rw [List.length_take];omega)
 have hlt:=nbN_lt7 (ds.take 7) (by rw [List.length_take];omega)
 rw [show vEr (ds.take 7)=(((nbN (ds.take 7):Nat):Int),0) by unfold vEr;rw [if_neg (by rw [List.length_take];omega)]] at hnm
 have hel:=encB_length ds
 have hcut:(qBb ds).take (7:Int).toNat=qBb (ds.take 7):=encB_take _ _
 generalize nbN (ds.take 7)=nb at hnm hsq hlt
 refine qAb hT Tryz.func212 rfl rfl rfl rfl ?_;intro E hE
 refine ww ?_
 refine wwc hd ?_
 refine ww ?_
 rw [hcut]
 refine ww ?_
 refine wwc hnm ?_
 refine ww ?_
 refine rq ⟨rfl,rfl⟩ rfl (AV.le.tup ⟨.int ?_,.refl _,trivial⟩)
 have hq:=qG_val
 have hm:Int.tmod (nb:Int) 1073741788=((nb % (qG-1):Nat):Int):=rfl
 have hml:nb % (qG-1) < qG-1:=Nat.mod_lt _ (by decide)
 show IntKind.i64.wrap (1+Int.tmod (nb:Int) 1073741788)=_
 rw [hm,hsq,qAh (by omega)];omega
end Tdoc
