/- Part 16 of the proof: the texts KL KM KN KQ KR LJ KZ LK KB LL LM. -/
import Derived.Test.YtelocejblpajcaaGreatDoorBG15
set_option maxHeartbeats 8000000
set_option maxRecDepth 100000
set_option linter.unusedVariables false
set_option linter.unusedSimpArgs false
namespace Tdoc
open Go Go.Proofs
theorem goH_ok:∀ {l:List (Int×List UInt8)} {b:Int},goH b l=0→∀ h,h∈l→1≤h.1∧h.1≤16∧h.2.length=32
 | [],_,_,h,hh=>by cases hh
 | x::l,b,h0,h,hh=>by
  rw [goH] at h0
  split at h0
  ·exact absurd h0 (by decide)
  split at h0
  ·exact absurd h0 (by decide)
  split at h0
  ·exact absurd h0 (by decide)
  rcases List.mem_cons.1 hh with rfl | hh
  ·exact ⟨by omega,by omega,by omega⟩
  ·exact goH_ok h0 h hh
theorem chkS_ok {s:Sec} (h:qTx s=0):s.hs.length≤16∧∀ x,x∈s.hs→x.2.length=32:=by
 unfold qTx at h
 split at h
 ·exact absurd h (by decide)
 split at h
 ·exact absurd h (by decide)
 exact ⟨by omega,fun x hx=>(goH_ok h x hx).2.2⟩
theorem vIz (h:Int×List UInt8) (hd:h.2.length=32) (r:List Node):(wrL (qFl h::r)).length≤70+(wrL r).length:=by
 have a:=wrL_cons_length 48 [] [.mk 2 [bOf h.1] [],.mk 4 h.2 []] r
 have b:=wrL_cons_length 2 [bOf h.1] [] [.mk 4 h.2 []]
 have c:=wrL_cons_length 4 h.2 [] []
 have h0:(wrL ([]:List Node)).length=0:=rfl
 unfold qFl
 simp only [List.length_nil,List.length_cons] at a b
 omega
theorem qYc:∀ {l:List (Int×List UInt8)},(∀ x,x∈l→x.2.length=32)→(wrL (l.map qFl)).length≤70*l.length∧qAt (l.map qFl)=3*l.length∧qJx (l.map qFl)
 | [],_=>⟨Nat.le_refl _,rfl,trivial⟩
 | x::l,h=>by
  have hx:=h x (by simp)
  obtain ⟨i1,i2,i3⟩:=qYc fun y hy=>h y (List.mem_cons_of_mem _ hy)
  have hw:=vIz x hx (l.map qFl)
  refine ⟨by simp only [List.map_cons,List.length_cons];omega,?_,?_,i3⟩
  ·simp only [List.map_cons,List.length_cons,qAt,i2]
   simp only [qFl,qCf,qAt]
   omega
  ·unfold qFl
   exact ⟨by omega,by simp,by simp,⟨by omega,by simp,by simp,trivial⟩,⟨by omega,by rw [hx];omega,by simp,trivial⟩,trivial⟩
theorem msgN_facts {s:Sec} (h:qTx s=0):qJx [qTf s]∧qAt [qTf s]≤51∧(wrL [qTf s]).length≤1200∧qBh [qTf s]=(wrL [qTf s],0):=by
 obtain ⟨h1,h2⟩:=chkS_ok h
 obtain ⟨i1,i2,i3⟩:=qYc h2
 have hs:qAt [qTf s]≤51:=by simp only [qTf,qAt,qCf,i2];omega
 have hw:(wrL [qTf s]).length≤1200:=by
  have a:=wrL_cons_length 48 [] [.mk 2 [bOf s.ver] [],.mk 48 [] (s.hs.map qFl)] []
  have b:=wrL_cons_length 2 [bOf s.ver] [] [.mk 48 [] (s.hs.map qFl)]
  have c:=wrL_cons_length 48 [] (s.hs.map qFl) []
  have h0:(wrL ([]:List Node)).length=0:=rfl
  unfold qTf
  simp only [List.length_nil,List.length_cons] at a b c
  omega
 have hc:(qDt 1 [qTf s] 0).1=0:=by
  refine chkL_of fun m hm=>?_
  rw [List.mem_singleton.1 hm]
  unfold qTf
  refine qGv (by decide) (by decide) (by omega) fun n hn=>?_
  simp only [List.mem_cons,List.not_mem_nil,or_false] at hn
  rcases hn with rfl | rfl
  ·exact qIt (by decide) (by decide) (by omega)
  refine qGv (by decide) (by decide) (by omega) fun n hn=>?_
  obtain ⟨x,_,rfl⟩:=List.mem_map.1 hn
  unfold qFl
  refine qGv (by decide) (by decide) (by omega) fun n hn=>?_
  simp only [List.mem_cons,List.not_mem_nil,or_false] at hn
  rcases hn with rfl | rfl <;> exact qIt (by decide) (by decide) (by omega)
 have hcnt:=(chkL_count 1 [qTf s] 0).1
 refine ⟨?_,hs,hw,?_⟩
 ·unfold qTf
  exact ⟨⟨by omega,by simp,by simp,⟨by omega,by simp,by simp,trivial⟩,⟨by omega,by simp,by simp;omega,i3⟩,trivial⟩,trivial⟩
 ·unfold qBh
  rw [if_neg (by rw [hc];simp),if_neg (by omega),if_neg (by omega)]
theorem hashN_enc (g:Int) (d:List UInt8):qHv (qFl (g,d))=[.int .i64 48,.sl 1 [],.sl 3 [qHv (.mk 2 [bOf g] []),[.int .i64 4,.sl 1 (qAl d),.sl 3 []]]]:=rfl
theorem hashN_snoc {l:List (Int×List UInt8)} {i:Nat} (h:i < l.length):encNs ((l.take (i+1)).map qFl)=encNs ((l.take i).map qFl)++[qHv (qFl l[i])]:=by
 rw [List.take_succ_eq_append_getElem h,List.map_append,encNs_append];rfl
theorem soMsg_spec (s:Sec) (hl:s.hs.length≤1000000):Spec Tryz.prog 184 [vBt s] [] (fun r h'=>r=.tup [.d (.sl 1 (qAl (qLg s).1)),.d (.int .i64 (qLg s).2)]∧h'=[]):=by
 have h1:=soCheck_spec s hl
 unfold qLg
 by_cases hc:qTx s=0
 ·rw [if_neg (by simpa using hc)]
  rw [hc] at h1
  obtain ⟨f1,f2,f3,f4⟩:=msgN_facts hc
  have h16:=(chkS_ok hc).1
  have henc:=qFo [qTf s] (by simp) f1 (by omega) (by omega)
  generalize qBh [qTf s]=R at henc ⊢
  obtain ⟨R1,R2⟩:=R
  simp only at henc ⊢
  clear f1 f2 f3 f4 hc
  obtain ⟨ver,hs,cert,sE,sS⟩:=s
  have hll:=encHs_length hs
  have hN:encNs [qTf ⟨ver,hs,cert,sE,sS⟩]=[[.int .i64 48,.sl 1 [],.sl 3 [qHv (.mk 2 [bOf ver] []),[.int .i64 48,.sl 1 [],.sl 3 (encNs (hs.map qFl))]]]]:=rfl
  rw [hN] at henc
  have hone:=qXx ver
  simp only at h16 hl
  refine qAb hT Tryz.func184 rfl rfl rfl rfl ?_;intro E hE
  refine qAj ?_
  refine qAk (qAg ?_)
  refine wws ?_
  refine qAk ?_
  refine ww ?_
  refine wwc h1 ?_
  refine ww ?_
  refine qAa rfl (fun c1=>?_) (fun c1=>?_)
  ·exact absurd c1 (by simp)
  refine wwe ?_
  refine qAk (qAg ?_)
  refine wws ?_
  refine qAk (qAg ?_)
  refine wws ?_
  refine qCe 2 2 0 3 (es:=[]) rfl rfl rfl ?_
  refine ww ?_
  refine qBt (ι:=Nat) (fun i=>[(1,.ptr 1 0),(5,.fn (.func 283) [] []),(6,.ptr 2 0),(16,.d (.sl 2 (qFc hs))),(17,.d (.int .i64 ((qFc hs).length:Int))),(18,.d (.int .i64 (i:Int)))])
   (fun i=>[.right 3 (encNs ((hs.take i).map qFl)).length,.row (qMq ⟨ver,hs,cert,sE,sS⟩),.row [.d (.int .i64 48),.sl 1 [] .full,.sl 3 (encNs ((hs.take i).map qFl)) (.right 0)]]) (fun i=>i≤hs.length) (fun i=>hs.length-i) 0 (Nat.zero_le _)
   ⟨.refl _,.refl _,.refl _,.refl _,.refl _,.refl _,trivial⟩ (HLe.refl _) ?_
  intro i hi
  have hwr:IntKind.i64.wrap ((i:Int)+1)=((i+1:Nat):Int):=by rw [qAf (by omega)];simp
  have hpl:(encNs ((hs.take i).map qFl)).length=i:=by rw [encNs_length,List.length_map,List.length_take];omega
  refine ww ?_
  refine qAa rfl (fun c3=>?_) (fun c3=>?_)
  ·have c3':i < hs.length:=by rw [hll] at c3;simpa using c3
   have hel:=encHs_at c3'
   have hsn:=hashN_snoc c3'
   generalize hs[i]=x at hel hsn
   obtain ⟨g,d⟩:=x
   have hg:=qXx g
   rw [hashN_enc] at hsn
   have e2:qHv (.mk 2 [bOf g] [])=[Dat.int .i64 2,.sl 1 (qAl [bOf g]),.sl 3 []]:=rfl
   rw [e2] at hg hsn
   unfold vKa at hel
   simp only at hel
   generalize qAl d=db at hel hsn
   generalize qAl [bOf g]=gb at hg hsn
   generalize encNs ((hs.take i).map qFl)=pre at hsn hpl ⊢
   refine ww ?_
   refine wwi hel ?_
   refine wwn ?_
   refine qAw (fun i=>bif Nat.beq i 1||Nat.beq i 14 then [2] else bif Nat.beq i 4||Nat.beq i 7 then [3] else bif Nat.beq i 12 then [0] else []) (fun i=>bif Nat.beq i 14 then [2] else bif Nat.beq i 12 then [0] else []) mixed (by kernel_rfl) ?_
   refine wwg ?_
   refine wwdc hg ?_
   refine wwg ?_
   refine qAm (os:=[]) (fun k hk1 hk2=>buildSl_ok hT rfl rfl) rfl ?_
   refine wwg ?_
   refine qAm (os:=[]) (fun k hk1 hk2=>buildSl_ok hT rfl rfl) rfl ?_
   refine qAm (v:=.sl 3 (pre++[[Dat.int .i64 48,.sl 1 [],.sl 3 [[.int .i64 2,.sl 1 gb,.sl 3 []],[.int .i64 4,.sl 1 db,.sl 3 []]]]]) (.right 0)) (os:=[.right 3 (pre++[[Dat.int .i64 48,.sl 1 [],.sl 3 [[.int .i64 2,.sl 1 gb,.sl 3 []],[.int .i64 4,.sl 1 db,.sl 3 []]]]]).length]) (fun k hk1 hk2=>qAi (i:=0) (es2:=[[Dat.int .i64 48,.sl 1 [],.sl 3 [[.int .i64 2,.sl 1 gb,.sl 3 []],[.int .i64 4,.sl 1 db,.sl 3 []]]]]) hT rfl rfl rfl rfl ((hk2 0 List.mem_cons_self).trans rfl) rfl (by show (pre.length+1)*(56+1)≤_;omega)) rfl ?_
   refine wwg ?_
   rw [← hsn]
   refine ww ?_
   exact ⟨i+1,[_],c3',by omega,⟨.refl _,.refl _,.refl _,.refl _,.refl _,.int hwr,trivial⟩,HLe.refl _,Env.below_mono hE (by simp),rfl,rfl⟩
  ·have c3':i=hs.length:=by rw [hll] at c3;simp at c3;omega
   subst c3'
   rw [List.take_length]
   generalize encNs (hs.map qFl)=pre at henc ⊢
   refine wwn ?_
   refine qAw (fun i=>bif Nat.beq i 2 then [1] else bif Nat.beq i 4 then [2] else []) (fun _=>[]) mixed (by kernel_rfl) ?_
   have e2:qHv (.mk 2 [bOf ver] [])=[Dat.int .i64 2,.sl 1 (qAl [bOf ver]),.sl 3 []]:=rfl
   rw [e2] at hone henc
   generalize qAl [bOf ver]=vb at hone henc
   refine wwg ?_
   refine wwdc hone ?_
   refine wwg ?_
   refine qAm (os:=[]) (fun k hk1 hk2=>buildSl_ok hT rfl rfl) rfl ?_
   refine wwg ?_
   refine qAm (os:=[]) (fun k hk1 hk2=>buildSl_ok hT rfl rfl) rfl ?_
   refine wwdc henc ?_
   refine wwg ?_
   refine ww ?_
   exact wwr
 ·rw [if_pos (by simpa using hc)]
  generalize qTx s=e at h1 hc ⊢
  obtain ⟨ver,hs,cert,sE,sS⟩:=s
  refine qAb hT Tryz.func184 rfl rfl rfl rfl ?_;intro E hE
  refine ww ?_
  refine wwc h1 ?_
  refine ww ?_
  refine qAa rfl (fun c1=>?_) (fun c1=>?_)
  ·refine ww ?_
   exact wwr
  ·exact absurd (by simpa using c1) hc
end Tdoc
namespace Tdoc
open Go Go.Proofs
def qCy (c:Nal):Node:=.mk 48 [] [qBf c,.mk 3 (qNe c.sE c.sS) []]
def qLd (c:Nal):Node×Int:=if qCx c≠0 then (.mk 0 [] [],qCx c) else if (qSt c.sE c.sS).2≠0 then (.mk 0 [] [],(qSt c.sE c.sS).2) else (qCy c,0)
def qNl (c:Nal):List UInt8×Int:=if (qLd c).2≠0 then ([],(qLd c).2) else qBh [qCy c]
theorem sigF_eq {e s:Int} (h:(qSt e s).2=0):qSt e s=(qNe e s,0):=by
 unfold qSt at h ⊢
 split at h
 ·exact absurd h (by decide)
 ·rename_i h1;rw [if_neg h1]
theorem treeNl_facts {c:Nal} (h:qCx c=0):qJx [qCy c]∧qAt [qCy c]≤30∧(wrL [qCy c]).length≤300∧qBh [qCy c]=(wrL [qCy c],0):=by
 have b1:=qRr h
 have b2:=qOc c
 have b3:=qIu c (stateF_len (chk0 h).1)
 have hsz:qAt [qCy c]≤30:=by
  simp only [qCy,qAt,qCf] at b2 ⊢
  omega
 have hw:(wrL [qCy c]).length≤300:=by
  have a:=wrL_cons_length 48 [] [qBf c,.mk 3 (qNe c.sE c.sS) []] []
  have b:=congrArg List.length (wrL_append [qBf c] [.mk 3 (qNe c.sE c.sS) []])
  have d:=wrL_cons_length 3 (qNe c.sE c.sS) [] []
  have h0:(wrL ([]:List Node)).length=0:=rfl
  have e:[qBf c]++[Node.mk 3 (qNe c.sE c.sS) []]=[qBf c,.mk 3 (qNe c.sE c.sS) []]:=rfl
  rw [e,List.length_append] at b
  rw [sigB_length] at d
  unfold qCy
  simp only [List.length_nil] at a
  omega
 have hc:(qDt 1 [qCy c] 0).1=0:=by
  refine chkL_of fun m hm=>?_
  rw [List.mem_singleton.1 hm]
  unfold qCy
  refine qGv (by decide) (by decide) (by omega) fun n hn=>?_
  simp only [List.mem_cons,List.not_mem_nil,or_false] at hn
  rcases hn with rfl | rfl
  ·unfold qBf
   refine qGv (by decide) (by decide) (by omega) fun n hn=>?_
   simp only [List.mem_cons,List.not_mem_nil,or_false] at hn
   rcases hn with rfl | rfl | rfl | rfl | rfl | rfl | rfl <;> exact qIt (by decide) (by decide) (by omega)
  ·exact qIt (by decide) (by decide) (by omega)
 have hcnt:=(chkL_count 1 [qCy c] 0).1
 refine ⟨?_,hsz,hw,?_⟩
 ·unfold qCy
  exact ⟨⟨by omega,by simp,by simp,b1.1,⟨by omega,by rw [sigB_length];omega,by simp,trivial⟩,trivial⟩,trivial⟩
 ·unfold qBh
  rw [if_neg (by rw [hc];simp),if_neg (by omega),if_neg (by omega)]
theorem nTree_spec (c:Nal) (hs:c.sta.length≤1000000000):Spec Tryz.prog 180 [qOy c] [] (fun r h'=>r=.tup [nAV (qLd c).1,.d (.int .i64 (qLd c).2)]∧h'=[]):=by
 have h1:=qQj c hs
 have h2:=sEnc_spec c.sE c.sS
 have h3:=qPr c
 have hsg:=@sigF_eq c.sE c.sS
 unfold qLd qCy
 generalize qCx c=e at h1 h3 ⊢
 generalize qSt c.sE c.sS=f at h2 hsg ⊢
 generalize qBf c=B at h3 ⊢
 obtain ⟨f1,f2⟩:=f
 obtain ⟨bt,bv,bk⟩:=B
 obtain ⟨sta,kind,num,iss,own,key,frm,unt,til,sE,sS⟩:=c
 simp only at *
 refine qAb hT Tryz.func180 rfl rfl rfl rfl ?_;intro E hE
 refine ww ?_
 refine wwc h1 ?_
 refine ww ?_
 refine qAa rfl (fun c1=>?_) (fun c1=>?_)
 ·rw [if_pos (by simpa using c1)]
  refine ww ?_
  refine rq ⟨rfl,rfl⟩ rfl (AV.le.tup ⟨AV.le.agg ⟨.refl _,AV.le.dat' rfl,AV.le.dat' rfl,trivial⟩,.refl _,trivial⟩)
 rw [if_neg (by simpa using c1)]
 refine ww ?_
 refine wwc h2 ?_
 refine ww ?_
 refine qAa rfl (fun c2=>?_) (fun c2=>?_)
 ·rw [if_pos (by simpa using c2)]
  refine ww ?_
  refine rq ⟨rfl,rfl⟩ rfl (AV.le.tup ⟨AV.le.agg ⟨.refl _,AV.le.dat' rfl,AV.le.dat' rfl,trivial⟩,.refl _,trivial⟩)
 rw [if_neg (by simpa using c2)]
 have hf:=hsg (by simpa using c2)
 simp only [Prod.mk.injEq] at hf
 obtain ⟨rfl,rfl⟩:=hf
 have h4:=h3 (by simpa using c1)
 refine ww ?_
 refine wwc h4 ?_
 refine ww ?_
 refine qAa rfl (fun c3=>?_) (fun c3=>?_)
 ·exact absurd c3 (by simp)
 refine ww ?_
 refine rq ⟨rfl,rfl⟩ rfl (AV.le.tup ⟨AV.le.agg ⟨.refl _,AV.le.dat' rfl,AV.le.dat' rfl,trivial⟩,.refl _,trivial⟩)
theorem nEncode_spec (c:Nal) (hs:c.sta.length≤1000000000):Spec Tryz.prog 97 [qOy c] [] (fun r h'=>r=.tup [.d (.sl 1 (qAl (qNl c).1)),.d (.int .i64 (qNl c).2)]∧h'=[]):=by
 have h1:=nTree_spec c hs
 have henc:(qLd c).2=0→Spec Tryz.prog 181 [.d (.sl 3 (encNs [qCy c]))] [] (fun r h'=>r=.tup [.d (.sl 1 (qAl (qBh [qCy c]).1)),.d (.int .i64 (qBh [qCy c]).2)]∧h'=[]):=fun h=>by
  have hc:qCx c=0:=by
   unfold qLd at h
   split at h
   ·rename_i hn;exact absurd h hn
   ·rename_i hn;simpa using hn
  obtain ⟨f1,f2,f3,f4⟩:=treeNl_facts hc
  exact qFo [qCy c] (by simp) f1 (by omega) (by omega)
 have hTr:(qLd c).2=0→(qLd c).1=qCy c:=fun h=>by
  unfold qLd at h ⊢
  split at h
  ·rename_i hn;exact absurd h hn
  split at h
  ·rename_i hn;exact absurd h hn
  ·rename_i hn hm;rw [if_neg hn,if_neg hm]
 unfold qNl
 generalize qBh [qCy c]=R at henc ⊢
 generalize qCy c=B at henc hTr
 generalize qLd c=F at h1 henc hTr ⊢
 obtain ⟨F1,F2⟩:=F
 obtain ⟨R1,R2⟩:=R
 obtain ⟨bt,bv,bk⟩:=F1
 obtain ⟨sta,kind,num,iss,own,key,frm,unt,til,sE,sS⟩:=c
 simp only at *
 refine qAb hT Tryz.func97 rfl rfl rfl rfl ?_;intro E hE
 refine ww ?_
 refine wwc h1 ?_
 refine ww ?_
 refine qAa rfl (fun c1=>?_) (fun c1=>?_)
 ·rw [if_pos (by simpa using c1)]
  refine ww ?_
  exact wwr
 rw [if_neg (by simpa using c1)]
 have h0:F2=0:=by simpa using c1
 have hb:=hTr h0
 subst hb
 have he:=henc h0
 refine ww ?_
 refine wwc he ?_
 refine ww ?_
 exact wwr
end Tdoc
namespace Tdoc
open Go Go.Proofs
theorem vIr (a:Nat) (h:a < 4611686018427387904):IntKind.i64.wrap (Int.fdiv (IntKind.u64.wrap (IntKind.i64.wrap (a:Int))) (2 ^ (min (1:Int).toNat IntKind.u64.bits)))=((a / 2:Nat):Int):=by
 rw [qAf (n:=(a:Int)) (by omega),wrapu64 (by omega),show Int.fdiv (a:Int) (2 ^ (min (1:Int).toNat IntKind.u64.bits))=((a / 2 ^ 1:Nat):Int) from qDq a 1,qAf (by omega)]
theorem vCs (g n:Int) (d:List (List Dat)) (hg : -1000≤g∧g≤1000) (hn : -1000≤n∧n≤1000):Spec Tryz.prog 279 [.agg [.d (.int .i64 g),.d (.sl 1 d)],.d (.int .i64 n)] [] (fun r h'=>r=.d (.int .i64 (g-n))∧h'=[]):=by
 have hw:IntKind.i64.wrap (g-n)=g-n:=qAf (by omega)
 refine qAb hT Tryz.func279 rfl rfl rfl rfl ?_;intro E hE
 refine ww ?_
 refine rq ⟨rfl,rfl⟩ rfl (.int hw)
theorem bsEnd_spec (l:List (Int×List UInt8)) (n:Int) (hl:l.length≤1000) (hn : -1000≤n∧n≤1000) (hlt:∀ x,x∈l→-1000≤x.1∧x.1 < n):Spec Tryz.prog 278 [.d (.sl 2 (qFc l)),.d (.int .i64 n),.fn (.func 279) [] []] []
  (fun r h'=>r=.tup [.d (.int .i64 (l.length:Int)),.d (.bool false)]∧h'=[]):=by
 have hll:=encHs_length l
 refine qAb hT Tryz.func278 rfl rfl rfl rfl ?_;intro E hE
 refine ww ?_
 refine qAp (ι:=Nat) (fun i=>[(0,.d (.sl 2 (qFc l))),(1,.d (.int .i64 n)),(2,.fn (.func 279) [] []),(8,.d (.int .i64 (l.length:Int))),(9,.d (.int .i64 (i:Int))),(10,.d (.int .i64 (l.length:Int)))]) (fun _=>[]) (fun i=>i≤l.length) (fun i=>l.length-i) 0 (Nat.zero_le _)
  ⟨.refl _,.refl _,.refl _,.int (by rw [hll]),.refl _,.int (by rw [hll]),trivial⟩ (HLe.refl _) ?_
 intro i hi
 refine ww ?_
 refine qAa rfl (fun c1=>?_) (fun c1=>?_)
 ·have hi':i < l.length:=by simpa using c1
  have hm:=vIr (i+l.length) (by omega)
  have hlt2:(i+l.length) / 2 < l.length:=by omega
  have hel:=encHs_at hlt2
  have hx:=hlt l[(i+l.length) / 2] (List.getElem_mem hlt2)
  generalize l[(i+l.length) / 2]=x at hel hx
  obtain ⟨g,d⟩:=x
  unfold vKa at hel
  simp only at hel hx
  have hc:=vCs g n (qAl d) (by omega) hn
  rw [show (((i+l.length:Nat)):Int)=(i:Int)+(l.length:Int) by omega] at hm
  generalize hmm:(i+l.length) / 2=m at hm hlt2 hel
  refine ww ?_
  rw [hm]
  refine ww ?_
  refine wwi hel ?_
  refine ww ?_
  refine wwc hc ?_
  refine ww ?_
  refine qAa rfl (fun c2=>?_) (fun c2=>?_)
  ·refine ww ?_
   exact ⟨m+1,by omega,by omega,⟨.refl _,.refl _,.refl _,.refl _,.int (by rw [qAf (by omega)];omega),.refl _,trivial⟩,HLe.refl _⟩
  ·exact absurd c2 (by simp;omega)
 have hi':i=l.length:=by simp at c1;omega
 subst hi'
 refine ww ?_
 have hcf:decide (((l.length:Nat):Int) < ((l.length:Nat):Int))=false:=by simp
 refine wwk hcf ?_
 refine rq ⟨rfl,rfl⟩ rfl (AV.le.tup ⟨.refl _,.bool (by simp),trivial⟩)
theorem insEnd_spec (l:List (Int×List UInt8)) (g:Int) (d:List (List Dat)) (hl:l.length≤1000):Spec Tryz.prog 280 [.sl 2 (qFc l) (.right 0),.d (.int .i64 (l.length:Int)),.d (.sl 2 [[Dat.int .i64 g,.sl 1 d]])] [.right 2 (qFc l).length]
  (fun r h'=>r=.sl 2 (qFc l++[[Dat.int .i64 g,.sl 1 d]]) (.right 0)∧h'=[.right 2 (qFc l++[[Dat.int .i64 g,.sl 1 d]]).length]):=by
 have hll:=encHs_length l
 refine qAb hT Tryz.func280 rfl rfl rfl rfl ?_;intro E hE
 refine ww ?_
 refine qAa rfl (fun q1=>?_) (fun q1=>?_)
 ·exact absurd q1 (by simp)
 refine ww ?_
 refine qAa rfl (fun q2=>?_) (fun q2=>?_)
 ·refine ww ?_
  refine qAd (qAi (i:=0) (es2:=[[Dat.int .i64 g,.sl 1 d]]) hT rfl rfl rfl rfl rfl rfl (by show ((qFc l).length+1)*(32+1)≤_;omega)) rfl ?_
  refine ww ?_
  exact wwr
 ·exact absurd q2 (by rw [hll];simp)
end Tdoc
namespace Tdoc
open Go Go.Proofs
structure FilesOk (gs:List (List UInt8)) (ns:List Int):Prop where
 grp:∀ i,i < gs.length→GrpOk (gs.getD i []) (ns.getD i 0)∧1≤ns.getD i 0∧ns.getD i 0≤16
 asc:∀ j i,j < i→i < gs.length→ns.getD j 0 < ns.getD i 0
def hk (gs:List (List UInt8)) (ns:List Int):Nat→List (Int×List UInt8)
 | 0=>[]
 | i+1=>hk gs ns i++[(ns.getD i 0,qJi (gs.getD i []))]
theorem qIb (gs:List (List UInt8)) (ns:List Int):∀ i,(hk gs ns i).length=i
 | 0=>rfl
 | i+1=>by rw [hk,List.length_append,qIb gs ns i];rfl
theorem vCr {gs:List (List UInt8)} {ns:List Int}:∀ {i:Nat} {x:Int×List UInt8},x∈hk gs ns i→∃ j,j < i∧x=(ns.getD j 0,qJi (gs.getD j []))
 | 0,x,h=>by cases h
 | i+1,x,h=>by
  rw [hk] at h
  rcases List.mem_append.1 h with h | h
  ·obtain ⟨j,hj,he⟩:=vCr h;exact ⟨j,by omega,he⟩
  ·exact ⟨i,by omega,List.mem_singleton.1 h⟩
theorem goH_append:∀ {l:List (Int×List UInt8)} {b:Int} {x:Int×List UInt8},goH b l=0→(∀ y,y∈l→y.1 < x.1)→b < x.1→1≤x.1→x.1≤16→x.2.length=32→goH b (l++[x])=0
 | [],b,x,_,_,h1,h2,h3,h4=>by
  show goH b [x]=0
  rw [goH,if_neg (by omega),if_neg (by omega),if_neg (by omega)];rfl
 | y::l,b,x,h0,hy,h1,h2,h3,h4=>by
  rw [goH] at h0
  split at h0
  ·exact absurd h0 (by decide)
  split at h0
  ·exact absurd h0 (by decide)
  split at h0
  ·exact absurd h0 (by decide)
  rename_i q1 q2 q3
  rw [List.cons_append,goH,if_neg q1,if_neg q2,if_neg q3]
  exact goH_append h0 (fun z hz=>hy z (List.mem_cons_of_mem _ hz)) (hy y (by simp)) h2 h3 h4
theorem vIy {gs:List (List UInt8)} {ns:List Int} (ok:FilesOk gs ns):∀ i,i≤gs.length→goH 0 (hk gs ns i)=0
 | 0,_=>rfl
 | i+1,hi=>by
  obtain ⟨_,g1,g2⟩:=ok.grp i (by omega)
  rw [hk]
  refine goH_append (vIy ok i (by omega)) (fun y hy=>?_) (by show 0 < ns.getD i 0;omega) g1 g2 (by show (qJi _).length=32;rw [sumW_length])
  obtain ⟨j,hj,rfl⟩:=vCr hy
  exact ok.asc j i hj (by omega)
theorem soHashes_spec (gs:List (List UInt8)) (ns:List Int) (ok:FilesOk gs ns) (hl:gs.length≤100):Spec Tryz.prog 182 [.d (.sl 1 (qJy gs))] [] (fun r h'=>r=.tup [.d (.sl 2 (qFc (hk gs ns gs.length))),.d (.int .i64 0)]∧h'=[]):=by
 have hll:=encBs_length gs
 refine qAb hT Tryz.func182 rfl rfl rfl rfl ?_;intro E hE
 refine qAj ?_
 refine qAk (qAg ?_)
 refine wws ?_
 refine qAk (qAg ?_)
 refine wws ?_
 refine qAz 4 2 0 (es:=[]) (.inr ⟨rfl,rfl⟩) rfl ?_
 refine ww ?_
 refine qAp (ι:=Nat) (fun i=>[(4,.sl 2 (qFc (hk gs ns i)) (.right 0)),(12,.d (.sl 1 (qJy gs))),(13,.d (.int .i64 (gs.length:Int))),(14,.d (.int .i64 (i:Int)))]) (fun i=>[.right 2 (qFc (hk gs ns i)).length]) (fun i=>i≤gs.length) (fun i=>gs.length-i) 0 (Nat.zero_le _)
  ⟨.refl _,.refl _,.int (by rw [hll]),.refl _,trivial⟩ (HLe.refl _) ?_
 intro i hi
 refine ww ?_
 refine qAa rfl (fun c1=>?_) (fun c1=>?_)
 ·have hi':i < gs.length:=by simpa using c1
  have hat:=encBs_at hi'
  obtain ⟨⟨⟨k,hop⟩,hlen⟩,g1,g2⟩:=ok.grp i hi'
  have hasc:=fun j hj=>ok.asc j i hj hi'
  have hkl:=qIb gs ns i
  have hmem:∀ x,x∈hk gs ns i→-1000≤x.1∧x.1 < ns.getD i 0:=fun x hx=>by
   obtain ⟨j,hj,rfl⟩:=vCr hx
   have h1:=(ok.grp j (by omega)).2.1
   have h2:=hasc j hj
   exact ⟨by show -1000≤ns.getD j 0;omega,h2⟩
  have hsu:qFc (hk gs ns (i+1))=qFc (hk gs ns i)++[[.int .i64 (ns.getD i 0),.sl 1 (qAl (qJi (gs.getD i [])))]]:=by rw [hk];simp [qFc,vKa]
  generalize gs.getD i []=b at hat hop hlen hsu
  generalize ns.getD i 0=n at hop g1 g2 hmem hsu
  generalize hk gs ns i=pre at hkl hmem hsu ⊢
  have hO:=qUm b (by omega)
  rw [hop] at hO
  simp only at hO
  have hS:=qRy b (by omega)
  have hB:=bsEnd_spec pre n (by omega) (by omega) hmem
  have hI:=insEnd_spec pre n (qAl (qJi b)) (by omega)
  generalize qAl (qJi b)=sb at hS hI hsu
  rw [← hsu] at hI
  generalize hnx:qFc (hk gs ns (i+1))=nxt at hI
  have hJ:=Spec.args (args:=[.sl 2 (qFc pre) (.right 0),.d (.int .i64 (pre.length:Int)),.sl 2 [[Dat.int .i64 n,.sl 1 sb]] .full]) (by exact ⟨.refl _,.refl _,AV.le.dat,trivial⟩) hI
  refine ww ?_
  refine wwi hat ?_
  refine ww ?_
  refine wwc hO ?_
  refine ww ?_
  refine qAa rfl (fun c2=>?_) (fun c2=>?_)
  ·exact absurd c2 (by simp)
  refine ww ?_
  refine qAa rfl (fun c3=>?_) (fun c3=>?_)
  ·exact absurd c3 (by simp;omega)
  refine ww ?_
  refine qAd (vJi rfl rfl hB rfl rfl rfl) rfl ?_
  refine ww ?_
  refine qAa rfl (fun c4=>?_) (fun c4=>?_)
  ·exact absurd c4 (by simp)
  refine ww ?_
  refine wwc hS ?_
  refine ww ?_
  refine qAd (qBx (v:=.sl 2 nxt (.right 0)) (H':=[.right 2 nxt.length]) rfl rfl hJ [0] (by decide) rfl rfl rfl rfl rfl rfl) rfl ?_
  refine ww ?_
  exact ⟨i+1,hi',by omega,⟨.slt hnx.symm,.refl _,.refl _,.int (by rw [qAf (by omega)];omega),trivial⟩,⟨⟨rfl,by rw [hnx]⟩,trivial⟩⟩
 have hi':i=gs.length:=by simp at c1;omega
 subst hi'
 refine ww ?_
 refine rq ⟨rfl,rfl⟩ rfl (AV.le.tup ⟨AV.le.dat,.refl _,trivial⟩)
def vJx (k:Int) (cert:List UInt8) (hs:List (Int×List UInt8)):Sec:=⟨1,hs,cert,qSu k (qLg ⟨1,hs,cert,0,0⟩).1,qSs k (qLg ⟨1,hs,cert,0,0⟩).1⟩
theorem soMake_spec (k:Int) (cert:List UInt8) (gs:List (List UInt8)) (ns:List Int) (ok:FilesOk gs ns) (hl:1≤gs.length∧gs.length≤16) (hk:qLt k=true) (hc:qHn cert=true) :
  Spec Tryz.prog 98 [.d (.int .i64 k),.d (.sl 1 (qAl cert)),.d (.sl 1 (qJy gs))] [] (fun r h'=>r=.tup [vBt (vJx k cert (Tdoc.hk gs ns gs.length)),.d (.int .i64 0)]∧h'=[]):=by
 have hll:=encBs_length gs
 have hH:=soHashes_spec gs ns ok (by omega)
 have hkl:=qIb gs ns gs.length
 have hgo:=vIy ok gs.length (Nat.le_refl _)
 unfold vJx
 generalize Tdoc.hk gs ns gs.length=hs at hH hkl hgo ⊢
 have hchk:qTx ⟨1,hs,cert,0,0⟩=0:=by
  unfold qTx
  simp only
  rw [if_neg (by omega),if_neg (by omega)]
  exact hgo
 have hf:=msgN_facts hchk
 have hM:=soMsg_spec ⟨1,hs,cert,0,0⟩ (by show hs.length≤_;omega)
 have hml:(qLg ⟨1,hs,cert,0,0⟩).1.length≤1200:=by
  unfold qLg
  rw [if_neg (by simpa using hchk),hf.2.2.2]
  exact hf.2.2.1
 generalize qLg ⟨1,hs,cert,0,0⟩=M at hM hml ⊢
 obtain ⟨M1,M2⟩:=M
 simp only at hM hml ⊢
 have hS:=qUf k M1 (by omega)
 rw [show qKp k=0 by unfold qKp;rw [if_pos hk]] at hS
 generalize qSu k M1=sE at hS ⊢
 generalize qSs k M1=sS at hS ⊢
 have hC:=qQf cert
 rw [hc] at hC
 have hcl:cert.length≤1024:=by unfold qHn at hc;simp at hc;omega
 have hcb:=encB_length cert
 have hD:=qCb (qAl cert) (by omega)
 refine qAb hT Tryz.func98 rfl rfl rfl rfl ?_;intro E hE
 refine ww ?_
 refine wwc hH ?_
 refine ww ?_
 refine qAa rfl (fun c1=>?_) (fun c1=>?_)
 ·exact absurd c1 (by simp)
 refine ww ?_
 refine wwgc hC ?_
 refine ww ?_
 refine qAa rfl (fun c2=>?_) (fun c2=>?_)
 ·exfalso
  rw [hll] at c2
  generalize gs.length=n at *
  simp at c2
  omega
 refine ww ?_
 refine wwc hD ?_
 refine ww ?_
 refine wwc hM ?_
 refine ww ?_
 refine wwc hS ?_
 refine ww ?_
 refine qAa rfl (fun c3=>?_) (fun c3=>?_)
 ·exact absurd c3 (by simp)
 refine ww ?_
 exact wwr
end Tdoc
namespace Tdoc
open Go Go.Proofs
def kdN (b:List UInt8):Node:=.mk 4 b []
theorem kdN_snoc {l:List (List UInt8)} {i:Nat} (h:i < l.length):encNs ((l.take (i+1)).map kdN)=encNs ((l.take i).map kdN)++[[.int .i64 4,.sl 1 (qAl (l.getD i [])),.sl 3 []]]:=by
 rw [List.take_succ_eq_append_getElem h,List.map_append,encNs_append]
 have:l.getD i []=l[i]:=by simp [h]
 rw [this];rfl
theorem valS_ok {s:Sec} (h:vBk s=0):qTx s=0∧qHn s.cert=true∧(qSt s.sE s.sS).2=0:=by
 unfold vBk at h
 split at h
 ·rename_i h1;exact absurd h h1
 split at h
 ·exact absurd h (by decide)
 split at h
 ·exact absurd h (by decide)
 rename_i h1 h2 h3
 exact ⟨by simpa using h1,by simpa using h2,by simpa using h3⟩
theorem soN_facts {m c g:List UInt8} (hm:m.length≤1200) (hc:c.length≤1024) (hg:g.length=8):qJx [Node.mk 48 [] ([m,c,g].map kdN)]∧qAt [Node.mk 48 [] ([m,c,g].map kdN)]≤10∧(wrL [Node.mk 48 [] ([m,c,g].map kdN)]).length≤2400∧(qDt 2 [Node.mk 48 [] ([m,c,g].map kdN)] 0).1=0:=by
 refine ⟨⟨⟨by omega,by simp,by simp,⟨by omega,by omega,by simp,trivial⟩,⟨by omega,by omega,by simp,trivial⟩,⟨by omega,by omega,by simp,trivial⟩,trivial⟩,trivial⟩,by simp [qAt,qCf,kdN],?_,?_⟩
 ·have a:=wrL_cons_length 48 [] ([m,c,g].map kdN) []
  have b1:=wrL_cons_length 4 m [] ([c,g].map kdN)
  have b2:=wrL_cons_length 4 c [] ([g].map kdN)
  have b3:=wrL_cons_length 4 g [] []
  have h0:(wrL ([]:List Node)).length=0:=rfl
  simp only [List.map_cons,List.map_nil,kdN,List.length_nil] at *
  omega
 ·refine chkL_of fun x hx=>?_
  rw [List.mem_singleton.1 hx]
  refine qGv (by decide) (by decide) (by omega) fun n hn=>?_
  simp only [List.map_cons,List.map_nil,List.mem_cons,List.not_mem_nil,or_false] at hn
  rcases hn with rfl | rfl | rfl <;> exact qIt (by decide) (by decide) (by omega)
theorem soEncode_spec (s:Sec) (hl:s.hs.length≤1000000):Spec Tryz.prog 99 [vBt s] [] (fun r h'=>r=.tup [.d (.sl 1 (qAl (qWk s).1)),.d (.int .i64 (qWk s).2)]∧h'=[]):=by
 have h1:=soValid_spec s hl
 unfold qWk
 by_cases hv:vBk s=0
 ·rw [if_neg (by simpa using hv)]
  rw [hv] at h1
  obtain ⟨v1,v2,v3⟩:=valS_ok hv
  have hM:=soMsg_spec s hl
  have hG:=sEnc_spec s.sE s.sS
  rw [sigF_eq v3] at hG
  have hf:=msgN_facts v1
  have hml:(qLg s).1.length≤1200:=by
   unfold qLg
   rw [if_neg (by simpa using v1),hf.2.2.2]
   exact hf.2.2.1
  have hm0:(qLg s).2=0:=by
   unfold qLg
   rw [if_neg (by simpa using v1),hf.2.2.2]
  have hcl:s.cert.length≤1024:=by unfold qHn at v2;simp at v2;omega
  obtain ⟨f1,f2,f3,f4⟩:=soN_facts hml hcl (sigB_length s.sE s.sS)
  have hW:=qGm 18 (by omega) [.mk 48 [] ([(qLg s).1,s.cert,qNe s.sE s.sS].map kdN)] (by simp) f1 (by omega) (by omega)
  have hso:soN s=.mk 48 [] ([(qLg s).1,s.cert,qNe s.sE s.sS].map kdN):=rfl
  rw [hso]
  clear f1 f2 f3 f4 hf hso
  have hN:encNs [.mk 48 [] ([(qLg s).1,s.cert,qNe s.sE s.sS].map kdN)]=[[.int .i64 48,.sl 1 [],.sl 3 (encNs ([(qLg s).1,s.cert,qNe s.sE s.sS].map kdN))]]:=rfl
  rw [hN] at hW
  generalize qEa 18 [.mk 48 [] ([(qLg s).1,s.cert,qNe s.sE s.sS].map kdN)]=W at hW ⊢
  obtain ⟨W1,W2⟩:=W
  simp only at hW hG ⊢
  have hbl:[(qLg s).1,s.cert,qNe s.sE s.sS].length=3:=rfl
  have hbe:qJy [(qLg s).1,s.cert,qNe s.sE s.sS]=[[.sl 1 (qAl (qLg s).1)],[.sl 1 (qAl s.cert)],[.sl 1 (qAl (qNe s.sE s.sS))]]:=rfl
  generalize [(qLg s).1,s.cert,qNe s.sE s.sS]=bs at hW hbl hbe
  generalize qLg s=M at hM hbe hml hm0
  obtain ⟨M1,M2⟩:=M
  simp only at hm0
  subst hm0
  generalize qNe s.sE s.sS=sg at hG hbe
  obtain ⟨ver,hs,cert,sE,sS⟩:=s
  simp only at *
  clear h1
  have h1:=soValid_spec ⟨ver,hs,cert,sE,sS⟩ hl
  rw [hv] at h1
  refine qAb hT Tryz.func99 rfl rfl rfl rfl ?_;intro E hE
  refine qAj ?_
  refine qAk (qAg ?_)
  refine wws ?_
  refine qAk ?_
  refine ww ?_
  refine wwc h1 ?_
  refine ww ?_
  refine qAa rfl (fun c1=>?_) (fun c1=>?_)
  ·exact absurd c1 (by simp)
  refine wwe ?_
  refine qAk (qAg ?_)
  refine wws ?_
  refine wwc hM ?_
  refine wws ?_
  refine qAk (qAg ?_)
  refine wws ?_
  refine wwc hG ?_
  refine wws ?_
  refine qAk (qAg ?_)
  refine wws ?_
  refine qCe 2 2 0 3 (es:=[]) rfl rfl rfl ?_
  refine ww ?_
  refine qAp (ι:=Nat) (fun i=>[(9,.ptr 2 0),(33,.d (.sl 1 (qJy bs))),(34,.d (.int .i64 3)),(35,.d (.int .i64 (i:Int)))])
   (fun i=>[.right 3 (encNs ((bs.take i).map kdN)).length,.row (qMq ⟨ver,hs,cert,sE,sS⟩),.row [.d (.int .i64 48),.sl 1 [] .full,.sl 3 (encNs ((bs.take i).map kdN)) (.right 0)]]) (fun i=>i≤3) (fun i=>3-i) 0 (Nat.zero_le _)
   ⟨.refl _,AV.le.dat' hbe.symm,.refl _,.refl _,trivial⟩ (HLe.refl _) ?_
  intro i hi
  have hpl:(encNs ((bs.take i).map kdN)).length=i:=by rw [encNs_length,List.length_map,List.length_take];omega
  refine ww ?_
  refine qAa rfl (fun c3=>?_) (fun c3=>?_)
  ·have hi':i < 3:=by simp at c3;omega
   have hat:=encBs_at (l:=bs) (i:=i) (by omega)
   have hsn:=kdN_snoc (l:=bs) (i:=i) (by omega)
   generalize qAl (bs.getD i [])=bb at hat hsn
   have hbl2:(qJy bs).length=3:=by rw [encBs_length,hbl]
   generalize encNs ((bs.take i).map kdN)=pre at hsn hpl ⊢
   refine ww ?_
   refine wwi hat ?_
   refine ww ?_
   refine qAd (qAi (i:=0) (es2:=[[Dat.int .i64 4,.sl 1 bb,.sl 3 []]]) hT rfl rfl rfl rfl rfl rfl (by show (pre.length+1)*(56+1)≤_;omega)) rfl ?_
   rw [← hsn]
   refine ww ?_
   exact ⟨i+1,hi',by omega,⟨.refl _,.refl _,.refl _,.int (by rw [qAf (by omega)];omega),trivial⟩,HLe.refl _⟩
  have hi':i=3:=by simp at c3;omega
  subst hi'
  rw [List.take_of_length_le (by omega)]
  generalize encNs (bs.map kdN)=pre at hW ⊢
  refine ww ?_
  refine wwc hW ?_
  refine ww ?_
  exact wwr
 ·rw [if_pos (by simpa using hv)]
  generalize vBk s=e at h1 hv ⊢
  obtain ⟨ver,hs,cert,sE,sS⟩:=s
  refine qAb hT Tryz.func99 rfl rfl rfl rfl ?_;intro E hE
  refine ww ?_
  refine wwc h1 ?_
  refine ww ?_
  refine qAa rfl (fun c1=>?_) (fun c1=>?_)
  ·refine ww ?_
   exact wwr
  ·exact absurd (by simpa using c1) hv
end Tdoc
namespace Tdoc
open Go Go.Proofs
theorem wrap18 {k:List Node} (hc:(qDt 2 k 0).1=0) (hs:qAt k≤250) (hw:(wrL k).length≤4000):(qEa 18 k).2=0:=by
 have t1:(qMp 18).2=0:=by decide
 have t3:qCs (qMp 18).1=true:=by decide
 have t4:qBd (qMp 18).1=true:=by decide
 have hwr:qEa 18 k=qBh [.mk (qMp 18).1 [] k]:=by unfold qEa;rw [if_neg (by rw [t1];simp)]
 generalize (qMp 18).1=t at t3 t4 hwr
 have hch:(qDt 1 [.mk t [] k] 0).1=0:=chkL_of fun m hm=>by
  rw [List.mem_singleton.1 hm,qGc,if_neg (by simp [t3]),if_neg (by simp [t4]),if_neg (by omega),chkL_any (1+1) k (0+1) 0]
  exact hc
 have hsz:qAt [.mk t [] k]≤256:=by simp only [qAt,qCf];omega
 have hln:(wrL [.mk t [] k]).length≤4096:=by
  have h3:=wrL_cons_length t [] k []
  have h4:(wrL ([]:List Node)).length=0:=rfl
  simp only [List.length_nil] at h3
  omega
 have hcnt:=(chkL_count 1 [.mk t [] k] 0).1
 rw [hwr]
 unfold qBh
 rw [if_neg (by rw [hch];simp),if_neg (by omega),if_neg (by omega)]
theorem qYy (k:List Node):(qEa 18 k).1.length≤4096:=by
 unfold qEa
 split
 ·simp
 ·unfold qBh
  split
  ·simp
  split
  ·simp
  split
  ·simp
  ·simp only;omega
theorem sigF_ok {e s:Int} (h1:qJb e=true) (h2:qJb s=true):(qSt e s).2=0:=by
 unfold qSt
 rw [if_neg (by simp [h1,h2])]
theorem sigOk_of {n:Nat} (h:n < qG):qJb (n:Int)=true:=by
 have:=qG_val
 exact decide_eq_true (by omega)
theorem encSo_ok {s:Sec} (hv:vBk s=0):(qWk s).2=0∧(qWk s).1.length≤4096:=by
 obtain ⟨v1,v2,v3⟩:=valS_ok hv
 have hf:=msgN_facts v1
 have hml:(qLg s).1.length≤1200:=by
  unfold qLg
  rw [if_neg (by simpa using v1),hf.2.2.2]
  exact hf.2.2.1
 have hcl:s.cert.length≤1024:=by unfold qHn at v2;simp at v2;omega
 obtain ⟨f1,f2,f3,f4⟩:=soN_facts hml hcl (sigB_length s.sE s.sS)
 have hso:soN s=.mk 48 [] ([(qLg s).1,s.cert,qNe s.sE s.sS].map kdN):=rfl
 unfold qWk
 rw [if_neg (by rw [hv];simp),hso]
 exact ⟨wrap18 f4 (by omega) (by omega),qYy _⟩
theorem soMk_val {k:Int} {cert:List UInt8} {gs:List (List UInt8)} {ns:List Int} (ok:FilesOk gs ns) (hl:1≤gs.length∧gs.length≤16) (hc:qHn cert=true) (hk':qLt k=true):vBk (vJx k cert (hk gs ns gs.length))=0:=by
 have hkl:=qIb gs ns gs.length
 have hgo:=vIy ok gs.length (Nat.le_refl _)
 unfold vJx
 generalize hk gs ns gs.length=hs at hkl hgo ⊢
 generalize (qLg ⟨1,hs,cert,0,0⟩).1=M
 have hr:=signS_range k.toNat M
 have e1:qJb (qSu k M)=true:=by unfold qSu;rw [if_pos hk'];exact sigOk_of hr.1
 have e2:qJb (qSs k M)=true:=by unfold qSs;rw [if_pos hk'];exact sigOk_of hr.2
 have hchk:qTx ⟨1,hs,cert,qSu k M,qSs k M⟩=0:=by
  unfold qTx
  simp only
  rw [if_neg (by omega),if_neg (by omega)]
  exact hgo
 unfold vBk
 rw [if_neg (by rw [hchk];simp)]
 simp only
 rw [if_neg (by rw [hc];simp),if_neg (by rw [sigF_ok e1 e2];simp)]
theorem vFr {c:Nal} (h:qCx c=0) (hg:(qSt c.sE c.sS).2=0):(qNl c).2=0∧qHn (qNl c).1=true:=by
 obtain ⟨f1,f2,f3,f4⟩:=treeNl_facts h
 have ht:(qLd c).2=0:=by unfold qLd;rw [if_neg (by rw [h];simp),if_neg (by rw [hg];simp)]
 unfold qNl
 rw [if_neg (by rw [ht];simp),f4]
 refine ⟨rfl,decide_eq_true ⟨?_,by simp only;omega⟩⟩
 show 1≤(wrL [qCy c]).length
 unfold qCy
 simp only [wrL,wrN,List.length_append]
 have:1≤(qLe 48).length:=by decide
 first | omega | (split <;> simp only [List.length_append] <;> omega)
structure StartA (a:Aut):Prop where
 good:GoodA a
 sta:a.sta=[85,84,79]
 roots:a.roots.length=1
 links:a.links.length≤1
 secs:a.secs.length=1
 next:a.next=4
 sk:1≤a.sk∧a.sk < qG
 chk:qCx a.signer=0
 sig:(qSt a.signer.sE a.signer.sS).2=0
 day:a.signer.frm=40000∧a.signer.unt=40090
 nst:a.signer.sta.length≤1000
theorem vKj (seed:List UInt8) (hs:seed.length≤1000):StartA (qIi [85,84,79] seed 40000).1∧(qIi [85,84,79] seed 40000).2=0:=by
 have hin:=beginA_inv [85,84,79] seed 40000 hs
 have hst:qCo [85,84,79]=true:=by decide
 rw [beginA_eq,if_neg (by rw [hst];simp),if_neg (by omega),beginF_eq] at hin ⊢
 simp only at hin ⊢
 have hok:=qRu hst hs
 have hr:=rootF_ok hok (by show 1≤99;omega) 40000
 have hn:(aut1 [85,84,79] seed).next=1:=rfl
 have hl:(aut1 [85,84,79] seed).secs.length=0:=rfl
 rw [hn,hl] at hr
 have hroots:(qCv (aut1 [85,84,79] seed) 40000).roots.length=1:=rfl
 have hlinks:(qCv (aut1 [85,84,79] seed) 40000).links.length=0:=rfl
 have hsta:(qCv (aut1 [85,84,79] seed) 40000).sta=[85,84,79]:=rfl
 generalize qCv (aut1 [85,84,79] seed) 40000=R at hin hr hroots hlinks hsta ⊢
 obtain ⟨hR,hsl,hnx⟩:=hr
 have hsg:=signersF_ok hR (by omega) 40000
 have hgood:GoodA (qBq R 40000):=by
  refine hin.resolve_right fun h=>?_
  have:(qBq R 40000).next=0:=by rw [h];rfl
  omega
 have hsr:=secS_range R.seed
 have hsgn:(qBq R 40000).signer=qBr (R.secs.getD (R.secs.length-1) 0) (qHu R 3 R.secs.length (1000+R.next) (qDr R.seed) 40000 90 3740):=rfl
 have hchk:qCx (qHu R 3 R.secs.length (1000+R.next) (qDr R.seed) 40000 90 3740)=0 :=
  certF_chk hR.sta (by omega) (by omega) (by omega) (by omega) (by omega) hsr (by omega) (by omega)
 refine ⟨⟨hgood,hsta,hroots,by show R.links.length≤1;omega,by rw [hsg.2.1];omega,by rw [hsg.2.2];omega,hsr,?_,?_,?_,?_⟩,trivial⟩
 ·rw [hsgn];exact vCp hchk
 ·rw [hsgn]
  have:=signS_range (R.secs.getD (R.secs.length-1) 0) (wrL [qBf (qHu R 3 R.secs.length (1000+R.next) (qDr R.seed) 40000 90 3740)])
  exact sigF_ok (sigOk_of this.1) (sigOk_of this.2)
 ·rw [hsgn];exact ⟨rfl,rfl⟩
 ·rw [hsgn];show R.sta.length≤1000;rw [hsta];decide
theorem holdR_elem:qDe qRc=true:=by
 unfold qRc
 generalize scN [82,79,79,84,49] 5=n
 have h:qLt (vHm n)=true:=by
  have:=modP_range (x:=n) (n:=1073741788) (by omega)
  unfold vHm
  exact decide_eq_true (by omega)
 unfold qSk
 rw [if_pos h]
 obtain ⟨k,hk1,hk2⟩:=secF_get h
 rw [hk1,Int.toNat_natCast]
 exact pubS_elem hk2
theorem pubI_elem {k:Nat} (h:1≤k∧k < qG):qDe (qSk (k:Int))=true:=by
 unfold qSk
 rw [if_pos (secF_nat h),Int.toNat_natCast]
 exact pubS_elem h
theorem drawS_len16 (s:List UInt8):(qEj s 16).length=16:=by
 rw [drawS_one s 16 (by omega) (by omega),List.length_take,sumW_length];rfl
theorem drawS_len32 (s:List UInt8):(qEj s 32).length=32:=by
 rw [drawS_one s 32 (by omega) (by omega),List.length_take,sumW_length];rfl
theorem keyM_len:keyM.length≤64:=by decide
def qQa (g1 g2 g3 g4 g5 cm so:List UInt8):List Fil:=[⟨257,1,g1,1,0⟩,⟨258,2,g2,1,0⟩,⟨259,3,g3,3,0⟩,⟨270,14,g4,1,0⟩,⟨271,15,g5,1,0⟩,⟨286,30,cm,1,0⟩,⟨285,29,so,1,0⟩]
def qVv (hr:Int) (ac g1 g2 g3 g4 g5 cm so sd:List UInt8) (x4 x5:Nat) (P:Int):Per :=
 ⟨[⟨284,28,ac,0,0⟩],[⟨[160,0,0,2,71,16,1],qQa g1 g2 g3 g4 g5 cm so⟩],keyM,[],[],[],3,10,true,qEq P,x4,x5,[⟨[82,79,79,84,49],hr,15,0,73048⟩],30000,numM,sd⟩
theorem perM_len {hr:Int} {ac g1 g2 g3 g4 g5 cm so sd:List UInt8} {x4 x5:Nat} {P:Int} (ha:ac.length≤4096) (h1:g1.length≤4096) (h2:g2.length≤4096) (h3:g3.length≤4096) (h4:g4.length≤4096) (h5:g5.length≤4096) (h6:cm.length≤4096) (h7:so.length≤4096) (h8:sd.length=32):PerLen (qVv hr ac g1 g2 g3 g4 g5 cm so sd x4 x5 P):=by
 refine ⟨⟨by simp [qVv],fun f hf=>?_⟩,⟨by simp [qVv],fun a ha=>?_,fun a ha f hf=>?_⟩,⟨by simp [qVv],by simp [qVv],by simp [qVv],by show numM.length≤_;decide,by show sd.length≤_;omega⟩,by simp [qVv,qEq],by simp [qVv]⟩
 ·rw [List.mem_singleton.1 hf];simp only;omega
 ·rw [List.mem_singleton.1 ha];simp [qQa]
 ·rw [List.mem_singleton.1 ha] at hf
  simp only [qQa,List.mem_cons,List.not_mem_nil,or_false] at hf
  rcases hf with rfl | rfl | rfl | rfl | rfl | rfl | rfl <;> simp only <;> omega
theorem perM_valid {hr:Int} (hhr:qDe hr=true) {ac g1 g2 g3 g4 g5 cm so sd:List UInt8} {x4 x5:Nat} {P:Int} (ha:ac.length≤4096) (h1:g1.length≤4096) (h2:g2.length≤4096) (h3:g3.length≤4096) (h4:g4.length≤4096) (h5:g5.length≤4096) (h6:cm.length≤4096) (h7:so.length≤4096) (h8:sd.length=32) (k4:1≤x4∧x4 < qG) (k5:1≤x5∧x5 < qG) (hP:qDe P=true):qSo (qVv hr ac g1 g2 g3 g4 g5 cm so sd x4 x5 P)=0:=by
 have hr1:qHm [⟨284,28,ac,0,0⟩]=0:=by
  have:¬ 4096 < ac.length:=by omega
  simp [qHm,qTl,this]
 have hr2:qHm (qQa g1 g2 g3 g4 g5 cm so)=0:=by
  have a1:¬ 4096 < g1.length:=by omega
  have a2:¬ 4096 < g2.length:=by omega
  have a3:¬ 4096 < g3.length:=by omega
  have a4:¬ 4096 < g4.length:=by omega
  have a5:¬ 4096 < g5.length:=by omega
  have a6:¬ 4096 < cm.length:=by omega
  have a7:¬ 4096 < so.length:=by omega
  simp [qHm,qQa,qTl,qLf,a1,a2,a3,a4,a5,a6,a7]
 have hfs:qJq [⟨284,28,ac,0,0⟩] [⟨[160,0,0,2,71,16,1],qQa g1 g2 g3 g4 g5 cm so⟩]=0:=by
  simp [qJq,hr1,hr2,qWh]
 have hq:=qG_val
 have htr:qDo [⟨[82,79,79,84,49],hr,15,0,73048⟩] 30000=0:=by
  have hnm:qHw [82,79,79,84,49]=true:=by decide
  simp [qDo,vEv,qJj,hnm,hhr,qWl]
 have hk4:qQz ((x4:Nat):Int)=true:=decide_eq_true (by omega)
 have hk5:qQz ((x5:Nat):Int)=true:=decide_eq_true (by omega)
 unfold qSo qVv
 simp only
 rw [if_neg (by rw [hfs];simp),if_neg (by have:=keyM_len;simp;omega),if_neg (by omega),if_neg (by rw [infDoc_valid hP];simp),if_neg (by rw [hk4,hk5];simp),if_neg (by rw [htr];simp),if_neg (by rw [h8];show ¬ (numM.length < 1∨numM.length > 32∨32 > 64);decide)]
end Tdoc
namespace Tdoc
open Go Go.Proofs
theorem vAl (z:Zon) (hz:vIa z) (h0:validZ z=0) (h3:z.fmt=3):Spec Tryz.prog 93 [zAV z] [] (fun r h'=>r=.tup [.d (.sl 1 (qAl (qOv z).1)),.d (.int .i64 (qOv z).2)]∧h'=[]):=by
 have hb:=qOo z hz h0 h3
 obtain ⟨hl1,hl2⟩:=buildZ_len hz
 unfold qOv
 rw [if_neg (by simp [h0])]
 generalize qCq z=ls at hb hl1 hl2
 have hll:=encSs_length ls
 have hw:=qGm 1 (by omega) [.mk 24351 ls.flatten []] (by simp) ⟨⟨by omega,by omega,by simp,trivial⟩,trivial⟩ (by simp [qAt,qCf]) (by have h1:=wrL_one_le 24351 ls.flatten [];have h2:(wrL ([]:List Node)).length=0:=rfl;omega)
 generalize qEa 1 [.mk 24351 ls.flatten []]=w at hw
 obtain ⟨w,we⟩:=w
 simp only at hw ⊢
 obtain ⟨fmt,kind,state,sur,giv,num,nat,bir,sex,exp,opt,sec⟩:=z
 unfold zAV qLr at hb ⊢
 simp only at hb ⊢
 refine qAb hT Tryz.func93 rfl rfl rfl rfl ?_;intro E hE
 refine ww ?_
 refine wwc hb ?_
 refine ww ?_
 refine qAa rfl (fun c1=>?_) (fun c1=>?_)
 ·exact absurd c1 (by simp)
 refine ww ?_
 refine qAj ?_
 refine qAz 6 1 1 (es:=[]) (.inr ⟨rfl,rfl⟩) rfl ?_
 refine qAp (ι:=Nat) (fun i=>[(17,.d (.sl 1 (qGl ls))),(18,.d (.int .i64 (qGl ls).length)),(6,.sl 1 (qAl (ls.take i).flatten) (.right 1)),(19,.d (.int .i64 (i:Int)))]) (fun i=>[.dead,.right 1 (qAl (ls.take i).flatten).length]) (fun i=>i≤ls.length) (fun i=>ls.length-i) 0 (by omega) ⟨.refl _,.refl _,.refl _,.refl _,trivial⟩ ⟨trivial,.refl _,trivial⟩ ?_
 intro i hi
 have hwr:IntKind.i64.wrap ((i:Int)+1)=((i+1:Nat):Int):=by rw [qAf (by omega)];simp
 refine ww ?_
 refine qAa rfl (fun c2=>?_) (fun c2=>?_)
 ·have c2':i < ls.length:=by rw [hll] at c2;simpa using c2
  have hel:(qGl ls)[((i:Int)).toNat]?=some [.str ls[i]]:=by simp [qGl,c2']
  have htk:(ls.take (i+1)).flatten=(ls.take i).flatten++ls[i]:=by rw [List.take_succ_eq_append_getElem c2',List.flatten_append,List.flatten_cons,List.flatten_nil,List.append_nil]
  have hle:(ls.take i).flatten.length+(ls[i]).length≤200000:=by
   have h2:ls.flatten=(ls.take (i+1)).flatten++(ls.drop (i+1)).flatten:=by rw [← List.flatten_append,List.take_append_drop]
   rw [h2,htk,List.length_append,List.length_append] at hl1
   omega
  have heb:qAl (ls.take i).flatten++(ls[i].map fun b=>[Dat.int .u8 (b.toNat:Int)])=qAl (ls.take (i+1)).flatten:=by rw [htk];simp [qAl]
  have hbl:=encB_length (ls.take i).flatten
  generalize ls[i]=x at hel htk hle heb
  refine ww ?_
  refine wwi hel ?_
  refine ww ?_
  refine qAd (qAi (i:=1) hT rfl rfl rfl rfl rfl rfl (by show ((qAl (ls.take i).flatten).length+(x.map fun b=>[Dat.int .u8 (b.toNat:Int)]).length)*(1+1)≤_;rw [hbl,List.length_map];omega)) rfl ?_
  refine ww ?_
  exact ⟨i+1,by omega,by omega,⟨.refl _,.refl _,.eq (congrArg (fun q=>AV.sl 1 q (.right 1)) heb),.int hwr,trivial⟩,⟨trivial,⟨rfl,congrArg List.length heb⟩,trivial⟩⟩
 ·have c2':i=ls.length:=by rw [hll] at c2;simp at c2;omega
  subst c2'
  rw [List.take_length]
  refine ww ?_
  refine wwc hw ?_
  refine ww ?_
  exact wwr
end Tdoc
namespace Tdoc
open Go Go.Proofs
theorem qNi {b:List UInt8} {n:Int} (h:GrpOk b n):∃ K,Spec Tryz.prog 104 [.d (.sl 1 (qAl b))] [] (fun r h'=>r=.tup [.d (.int .i64 n),.d (.sl 3 K),.d (.int .i64 0)]∧h'=[]):=by
 obtain ⟨k,hk⟩:=h.op
 have:=qUm b (by have:=h.len;omega)
 rw [hk] at this
 exact ⟨encNs k,this⟩
theorem gsM_ok {g1 g2 g3 g4 g5:List UInt8} (o1:GrpOk g1 1) (o2:GrpOk g2 2) (o3:GrpOk g3 3) (o4:GrpOk g4 14) (o5:GrpOk g5 15):FilesOk [g1,g2,g3,g4,g5] [1,2,3,14,15]:=by
 refine ⟨fun i hi=>?_,fun j i hj hi=>?_⟩
 ·have hi:i < 5:=hi
  have:i=0∨i=1∨i=2∨i=3∨i=4:=by omega
  rcases this with rfl | rfl | rfl | rfl | rfl
  ·exact ⟨o1,by decide,by decide⟩
  ·exact ⟨o2,by decide,by decide⟩
  ·exact ⟨o3,by decide,by decide⟩
  ·exact ⟨o4,by decide,by decide⟩
  ·exact ⟨o5,by decide,by decide⟩
 ·have hi:i < 5:=hi
  have:i=0∨i=1∨i=2∨i=3∨i=4:=by omega
  have:j=0∨j=1∨j=2∨j=3∨j=4:=by omega
  rcases this with rfl | rfl | rfl | rfl | rfl <;> rcases ‹i=0∨_› with rfl | rfl | rfl | rfl | rfl <;> first | omega | decide
theorem peC_le (hr:Int) (ac g1 g2 g3 g4 g5 cm so sd:List UInt8) (x4 x5:Nat) (P:Int) :
  AV.le (.agg (peC hr (.sl 1 (qAl sd)) (.int .i64 (x4:Int)) (.int .i64 (x5:Int)) (.str keyM) (.sl 5 (qFm (qEq P))) (.sl 5 [[.int .i64 284,.int .i64 28,.sl 1 (qAl ac),.int .i64 0,.int .i64 0]]) (.sl 2 [[.sl 1 (qAl [160,0,0,2,71,16,1]),.sl 5 (flK (qAl g1) (qAl g2) (qAl g3) (qAl g4) (qAl g5) (qAl cm) (qAl so) 7)]])))
   (qQt (qVv hr ac g1 g2 g3 g4 g5 cm so sd x4 x5 P)):=by
 unfold qQt qKq peC qVv
 exact AV.le.agg ⟨.refl _,.refl _,.refl _,.dat,.dat,.dat,.refl _,.refl _,.refl _,.refl _,.refl _,.refl _,.refl _,.refl _,.refl _,.refl _,trivial⟩
theorem vIt (hr:Int) (hhr:qDe hr=true) {a:Aut} (h:StartA a):∃ (b:Aut) (p:Per) (M0 M1:List (List Dat)),p.apps.length=1 ∧
  Spec Tryz.prog 11 [qEp a,.agg (qJv 44000 (.d (.sl 1 qFy)) true (.d (.sl 5 (qDf hr))) 30000),.d (.int .i64 40010)] [] (fun r h'=>r=.tup [qEp b,.agg (vAe (.sl 1 (qGl (qCq zM))) (.str keyM) p M0 M1),.d (.int .i64 0)]∧h'=[]):=by
 have hsd:a.seed.length≤1000:=h.good.ok.seed
 have hrv:a.rev.length=0:=by rw [h.good.rev];rfl
 have hlk:=h.links
 have hrt:=h.roots
 have hsc:=h.secs
 have hdf:=h.good.defs
 have hdy:=h.day
 have d0:=vAd hr a (by omega)
 have l1:=drawS_len16 a.seed
 have l2:=drawS_len16 (qAv a.seed)
 have l3:=drawS_len32 (qAv (qAv a.seed))
 have k4:=secS_range (qAv (qAv (qAv a.seed)))
 have k5:=secS_range (qAv (qAv (qAv (qAv a.seed))))
 generalize qEj a.seed 16=fa at d0 l1
 generalize qEj (qAv a.seed) 16=fi at d0 l2
 generalize qEj (qAv (qAv a.seed)) 32=sd at d0 l3
 generalize qDr (qAv (qAv (qAv a.seed)))=x4 at d0 k4
 generalize qDr (qAv (qAv (qAv (qAv a.seed))))=x5 at d0 k5
 have b1:({ a with seed:=seed5 a.seed }:Aut).sta=[85,84,79]:=h.sta
 have b2:qCx ({ a with seed:=seed5 a.seed }:Aut).signer=0:=h.chk
 have b3:(qSt ({ a with seed:=seed5 a.seed }:Aut).signer.sE ({ a with seed:=seed5 a.seed }:Aut).signer.sS).2=0:=h.sig
 have b4:1≤({ a with seed:=seed5 a.seed }:Aut).sk∧({ a with seed:=seed5 a.seed }:Aut).sk < qG:=h.sk
 have b5:({ a with seed:=seed5 a.seed }:Aut).defs=[]:=h.good.defs
 have b6:({ a with seed:=seed5 a.seed }:Aut).signer.sta.length≤1000:=h.nst
 clear h
 generalize ({ a with seed:=seed5 a.seed }:Aut)=b at d0 b1 b2 b3 b4 b5 b6
 have s1:=qVr hr (.sl 1 (qAl fa)) (.sl 1 (qAl fi)) (.sl 1 (qAl sd)) (.int .i64 (x4:Int)) (.int .i64 (x5:Int)) b b1
 rw [zDM_eq] at s1
 have s2:=qVq hr (.sl 1 (qAl fa)) (.sl 1 (qAl fi)) (.sl 1 (qAl sd)) (.int .i64 (x5:Int)) (x4:Int) (secF_nat k4) (.sl 1 (qGl (qCq zM))) (.str keyM) b zDM rfl
 have e4:=pubI_elem k4
 have e5:=pubI_elem k5
 have hP:=qHd (x5:Int)
 rw [show qKp (x5:Int)=0 by unfold qKp;rw [if_pos (secF_nat k5)]] at hP
 generalize qSk (x4:Int)=P4 at s2 e4
 generalize qSk (x5:Int)=P5 at hP e5
 have hz:=vAl zM zM_len zM_valid rfl
 have z0:=zM_open
 have hb2:=bioP_spec 2 (by omega) [qZz fa] (by simp)
 have hb3:=bioP_spec 3 (by omega) [qZx fi] (by simp)
 have f0:=faceM_open l1
 have f1:=fingM_open l2
 have hi:=infosP_spec (qEq P4) (by simp [qEq])
 have i0:=infDoc_open e4
 have hA:=qXh P5
 have a0:=vGt e5
 rw [z0.1] at hz
 rw [f0.1] at hb2
 rw [f1.1] at hb3
 rw [i0.1] at hi
 rw [a0.1] at hA
 have o1:=z0.2
 have o2:=f0.2
 have o3:=f1.2
 have o4:=i0.2
 have o5:=a0.2
 clear z0 f0 f1 i0 a0
 generalize (qOv zM).1=g1 at hz o1
 generalize (vAi 2 [qZz fa]).1=g2 at hb2 o2
 generalize (vAi 3 [qZx fi]).1=g3 at hb3 o3
 generalize (infosF (qEq P4)).1=g4 at hi o4
 generalize (qIj P5).1=g5 at hA o5
 have s3:=qRi hr (qAl fa) (qAl fi) (qFm (qEq P4)) (qAl g1) (qAl g2) (qAl g3) (qAl g4) (qAl g5) (.sl 1 (qAl sd)) (.int .i64 (x4:Int)) (x5:Int) P5 (.sl 1 (qGl (qCq zM))) (.str keyM) b hz hb2 hb3 hi hP hA
 have hN:=nEncode_spec b.signer (by omega)
 have n0:=vFr b2 b3
 rw [n0.1] at hN
 have n1:=n0.2
 generalize (qNl b.signer).1=ct at hN n1
 have hfo:=gsM_ok o1 o2 o3 o4 o5
 have hM:=soMake_spec (b.sk:Int) ct [g1,g2,g3,g4,g5] [1,2,3,14,15] hfo (by simp) (secF_nat b4) n1
 have v0:=soMk_val hfo (by simp) n1 (secF_nat b4)
 have v1:(vJx (b.sk:Int) ct (hk [g1,g2,g3,g4,g5] [1,2,3,14,15] [g1,g2,g3,g4,g5].length)).hs.length≤1000000:=by
  show (hk _ _ _).length≤_
  rw [qIb];simp
 generalize vJx (b.sk:Int) ct (hk [g1,g2,g3,g4,g5] [1,2,3,14,15] [g1,g2,g3,g4,g5].length)=S at hM v0 v1
 have hS:=soEncode_spec S v1
 have w0:=encSo_ok v0
 rw [w0.1] at hS
 have w1:=w0.2
 generalize (qWk S).1=so at hS w1
 have s4:=qZe hr (.sl 1 (qAl fa)) (.sl 1 (qAl fi)) (.sl 1 (qAl sd)) (.int .i64 (x4:Int)) (.int .i64 (x5:Int)) (.sl 1 (qGl (qCq zM))) (.str keyM) (.sl 5 (qFm (qEq P4))) (.int .i64 S.ver) (.sl 2 (qFc S.hs)) (.sl 1 (qAl S.cert)) (.int .i64 S.sE) (.int .i64 S.sS) (qAl g1) (qAl g2) (qAl g3) (qAl g4) (qAl g5) (qAl ct) (qAl so) b hN hM hS
 have hop:=qZm hr P4 (.sl 1 (qAl fa)) (.sl 1 (qAl fi)) (.sl 1 (qAl sd)) (.int .i64 (x4:Int)) (.int .i64 (x5:Int)) (.sl 1 (qGl (qCq zM))) (.str keyM) (qAl g1) (qAl g2) (qAl g3) (qAl g4) (qAl g5) (qAl so) b
 rw [infK_doc] at hop
 have hI:=encIP_spec inf2 (by decide)
 have i1:=encI_ok qZt (by decide)
 rw [i1.1] at hI
 have i2:=i1.2
 generalize (qTr inf2).1=ac at hI i2
 have hCm:=qXe [1,2,3,14,15] (by decide)
 have c1:=comM
 rw [c1.1] at hCm
 have c2:=c1.2
 generalize (qLk [1,2,3,14,15]).1=cm at hCm c2
 obtain ⟨K1,p1⟩:=qNi o1
 obtain ⟨K2,p2⟩:=qNi o2
 obtain ⟨K3,p3⟩:=qNi o3
 obtain ⟨K4,p4⟩:=qNi o4
 obtain ⟨K5,p5⟩:=qNi o5
 have s5:=qVi hr (.sl 1 (qAl fa)) (.sl 1 (qAl fi)) (.sl 1 (qAl sd)) (.int .i64 (x4:Int)) (.int .i64 (x5:Int)) (.sl 1 (qGl (qCq zM))) (.str keyM) (.sl 5 (qFm (qEq P4))) (opK 5) (qAl g1) (qAl g2) (qAl g3) (qAl g4) (qAl g5) K1 K2 K3 K4 K5 (qAl ac) (qAl cm) (qAl so) b hop hI p1 p2 p3 p4 p5 hCm
 have s6:=qZl hr (.sl 1 (qAl fa)) (.sl 1 (qAl fi)) (.sl 1 (qAl sd)) (.int .i64 (x4:Int)) (.int .i64 (x5:Int)) (.sl 1 (qGl (qCq zM))) (.str keyM) (.sl 5 (qFm (qEq P4))) (.sl 1 (qAl so)) (.sl 5 [[.int .i64 284,.int .i64 28,.sl 1 (qAl ac),.int .i64 0,.int .i64 0]]) (.sl 2 [[.sl 1 (qAl [160,0,0,2,71,16,1]),.sl 5 (flK (qAl g1) (qAl g2) (qAl g3) (qAl g4) (qAl g5) (qAl cm) (qAl so) 7)]]) (qAl g1) (qAl g2) (qAl g3) (qAl g4) (qAl g5) b
 have hle:=peC_le hr ac g1 g2 g3 g4 g5 cm so sd x4 x5 P4
 have hpl:=perM_len (hr:=hr) (x4:=x4) (x5:=x5) (P:=P4) i2 o1.len o2.len o3.len o4.len o5.len c2 w1 l3
 have hpv:=perM_valid hhr i2 o1.len o2.len o3.len o4.len o5.len c2 w1 l3 k4 k5 e4
 have hap:(qVv hr ac g1 g2 g3 g4 g5 cm so sd x4 x5 P4).apps.length=1:=rfl
 have hho:∀ t,t∈(qVv hr ac g1 g2 g3 g4 g5 cm so sd x4 x5 P4).tps→t.holder.length≤1000000:=fun t ht=>by
  rw [List.mem_singleton.1 ht];simp
 generalize qVv hr ac g1 g2 g3 g4 g5 cm so sd x4 x5 P4=p at hle hpl hpv hap hho
 have s7:=newChip_spec p hpl hho hpv
 exact ⟨b,p,_,_,hap,qZp hr (.sl 1 (qAl fa)) (.sl 1 (qAl fi)) (.sl 1 (qAl sd)) (.int .i64 (x4:Int)) (.int .i64 (x5:Int)) (.sl 1 (qGl (qCq zM))) (.str keyM) (.sl 5 (qFm (qEq P4))) (.sl 5 [[.int .i64 284,.int .i64 28,.sl 1 (qAl ac),.int .i64 0,.int .i64 0]]) (.sl 2 [[.sl 1 (qAl [160,0,0,2,71,16,1]),.sl 5 (flK (qAl g1) (qAl g2) (qAl g3) (qAl g4) (qAl g5) (qAl cm) (qAl so) 7)]]) (qAl g1) (qAl g2) (qAl g3) (qAl g4) (qAl g5) (qAl so) _ _ a b p hdf b5 (by omega) (by omega) (by omega) d0 s1 s2 s3 s4 s5 s6 hle s7⟩
end Tdoc
namespace Tdoc
open Go Go.Proofs
theorem vDn (hawk:Spec Tryz.prog 7 [] [] (fun r h'=>r=.d (.bool true)∧h'=[])) (sta seed:List UInt8) (day:Int) (later:List Int) :
  Spec Tryz.prog 4 [.d (.str sta),.d (.sl 1 (qAl seed)),.d (.int .i64 day),.d (.sl 1 (qHt later))] [] (fun r h'=>r=.d (.bool true)∧h'=[]):=by
 have hsl:=encB_length seed
 have hll:=encIs_len later
 refine qAb hT Tryz.func4 rfl rfl rfl rfl ?_;intro E hE
 refine qAj (qAj ?_)
 refine ww ?_
 refine qAa rfl (fun c1=>?_) (fun c1=>?_)
 ·refine ww ?_
  refine wwc hawk ?_
  refine ww ?_
  exact wwr
 rw [hsl,hll] at c1
 have c1':sta.length≤50∧seed.length≤200∧later.length≤10:=by simp at c1;omega
 obtain ⟨s1,s2,s3⟩:=c1'
 have hb:=qLo sta seed day (by omega) (by omega)
 have hbr:=qSh sta seed day (by omega) (by omega)
 have hin:=beginA_inv sta seed day (by omega)
 generalize qIi sta seed day=B at hb hbr hin
 obtain ⟨A,e⟩:=B
 simp only at hb hbr hin
 have hsm:=qOk A hin.len
 refine qBv ?_
 refine qAk (qAg ?_)
 refine wk hT rfl rfl ?_
 refine wk hT rfl rfl ?_
 refine wk hT rfl rfl ?_
 refine wwc hb ?_
 refine wk hT rfl rfl ?_
 refine wk hT rfl rfl ?_
 refine wk hT rfl rfl ?_
 refine qAd (allocAt_ok (i0:=0) (i:=tiA) hT rfl tiA_find rfl) rfl ?_
 refine qCc (qBe (i:=0) (off:=0) hT rfl rfl rfl (S38 (C:=qAe A) rfl rfl)) (forceS_eq _ _) ?_
 refine wk hT rfl rfl ?_
 refine qCi ?_
 refine qAk (qAg ?_)
 refine wk hT rfl rfl ?_
 refine wk hT rfl rfl ?_
 refine wk hT rfl rfl ?_
 refine wwc hbr ?_
 refine wk hT rfl rfl ?_
 refine wk hT rfl rfl ?_
 refine wk hT rfl rfl ?_
 refine qAd (allocAt_ok (i0:=1) (i:=tiA) hT rfl tiA_find rfl) rfl ?_
 refine qCc (qBe (i:=1) (off:=0) hT rfl rfl rfl (S38 (C:=qAe A) rfl rfl)) (forceS_eq _ _) ?_
 refine wk hT rfl rfl ?_
 refine qCi ?_
 refine qAo (l:=[(3,.d (.sl 1 (qHt later))),(9,.ptr 0 0),(10,.d (.int .i64 e)),(11,.ptr 1 0),(12,.d (.int .i64 e))]) (h':=[.row (qAe A),.row (qAe A)]) ⟨.refl _,.refl _,.refl _,.refl _,.refl _,trivial⟩ (HLe.refl _) ?_
 refine qAk (qAk (qAg ?_))
 refine wws ?_
 refine wwgc hsm ?_
 refine ww ?_
 refine qAa rfl (fun c2=>?_) (fun c2=>?_)
 ·exact absurd c2 (by simp)
 refine qBv ?_
 refine qAk ?_
 refine qAk (qAg ?_)
 refine wws ?_
 refine qEm ?_
 refine qBt (ι:=Nat×Aut) (fun x=>[(3,.d (.sl 1 (qHt later))),(9,.ptr 0 0),(13,.d (.int .i64 (x.1:Int)))]) (fun x=>[.row (qAe x.2),.dead]) (fun x=>x.1≤later.length∧InvA x.2) (fun x=>later.length-x.1) (0,A) ⟨Nat.zero_le _,hin⟩ ⟨.refl _,.refl _,.refl _,trivial⟩ ⟨ObLe.refl _,trivial,trivial⟩ ?_
 rintro ⟨i,D⟩ ⟨hi,hD⟩
 simp only at hi hD ⊢
 have hwr:IntKind.i64.wrap ((i:Int)+1)=((i+1:Nat):Int):=by rw [qAf (by omega)];simp
 refine ww ?_
 refine qAa rfl (fun c3=>?_) (fun c3=>?_)
 ·have c3':i < later.length:=by rw [hll] at c3;simpa using c3
  have hel:=encIs_at c3'
  generalize later[i]=d at hel
  have hp:=qSa D hD.roll hD.n d
  have hq:=qMk D hD.roll hD.n d
  have hinv:=rollA_inv hD d
  generalize qVn D d=B at hp hq hinv
  obtain ⟨F,f⟩:=B
  simp only at hp hq hinv
  have hsf:=qOk F hinv.len
  refine qBv ?_
  refine qAj (qAj ?_)
  refine qAk (qEm (qAk (qAw (fun i=>bif Nat.beq i 0 then [0] else bif Nat.beq i 9||Nat.beq i 10 then [2] else []) (fun i=>bif Nat.beq i 9||Nat.beq i 10 then [2] else []) mixed (by kernel_rfl) ?_)))
  refine wwg ?_
  refine qAm (os:=[]) (fun k hk1 hk2=>qAc (indexAddr_ok hT rfl rfl rfl rfl (by omega) hel)) rfl ?_
  refine wwg ?_
  refine wwdc hp ?_
  refine wwg ?_
  refine qAm (v:=.ptr 2 0) (os:=[.row (qEc [] 0 (.sl 1 [] .full))]) (fun kk hk1 hk2=>allocAt_ok (i0:=2) (i:=tiA) hT rfl tiA_find ((hk2 2 List.mem_cons_self).trans rfl)) rfl ?_
  refine qAm (v:=.any) (os:=[.row (qAe F)]) (fun k hk1 hk2=>qBe (i:=2) (off:=0) hT rfl rfl ((hk2 2 List.mem_cons_self).trans rfl) (S38 (C:=qAe F) rfl rfl)) rfl ?_
  refine wwg ?_
  refine qAo (l:=[(3,.d (.sl 1 (qHt later))),(9,.ptr 0 0),(13,.d (.int .i64 (i:Int))),(14,.ptr 2 0),(15,.d (.int .i64 f))]) (h':=[.row (qAe D),.dead,.row (qAe F),.room]) ⟨.refl _,.refl _,.refl _,.refl _,.refl _,trivial⟩ (HLe.refl _) ?_
  refine qAk (qAw (fun i=>bif Nat.beq i 0 then [0] else bif Nat.beq i 9||Nat.beq i 10 then [3] else []) (fun i=>bif Nat.beq i 9||Nat.beq i 10 then [3] else []) mixed (by kernel_rfl) ?_)
  refine wwg ?_
  refine qAm (os:=[]) (fun k hk1 hk2=>qAc (indexAddr_ok hT rfl rfl rfl rfl (by omega) hel)) rfl ?_
  refine wwg ?_
  refine wwdc hq ?_
  refine wwg ?_
  refine qAm (v:=.ptr 3 0) (os:=[.row (qEc [] 0 (.sl 1 [] .full))]) (fun kk hk1 hk2=>allocAt_ok (i0:=3) (i:=tiA) hT rfl tiA_find ((hk2 3 List.mem_cons_self).trans rfl)) rfl ?_
  refine qAm (v:=.any) (os:=[.row (qAe F)]) (fun k hk1 hk2=>qBe (i:=3) (off:=0) hT rfl rfl ((hk2 3 List.mem_cons_self).trans rfl) (S38 (C:=qAe F) rfl rfl)) rfl ?_
  refine wwg ?_
  refine qAo (l:=[(3,.d (.sl 1 (qHt later))),(9,.ptr 0 0),(13,.d (.int .i64 (i:Int))),(14,.ptr 2 0),(15,.d (.int .i64 f)),(16,.ptr 3 0),(17,.d (.int .i64 f))]) (h':=[.row (qAe D),.dead,.row (qAe F),.row (qAe F)]) ⟨.refl _,.refl _,.refl _,.refl _,.refl _,.refl _,.refl _,trivial⟩ (HLe.refl _) ?_
  refine qAk (qAk (qAg ?_))
  refine wws ?_
  refine wwgc hsf ?_
  refine ww ?_
  refine qAa rfl (fun c4=>?_) (fun c4=>?_)
  ·exact absurd c4 (by simp)
  refine qBv ?_
  refine qAo (l:=[(3,.d (.sl 1 (qHt later))),(9,.ptr 0 0),(13,.d (.int .i64 (i:Int))),(14,.ptr 2 0),(15,.d (.int .i64 f))]) (h':=[.row (qAe D),.dead,.row (qAe F),.dead]) ⟨.refl _,.refl _,.refl _,.refl _,.refl _,trivial⟩ ⟨ObLe.refl _,ObLe.refl _,ObLe.refl _,trivial,trivial⟩ ?_
  refine qAk (qAg ?_)
  refine wws ?_
  refine qAa rfl (fun c5=>?_) (fun c5=>?_)
  ·refine qAg ?_
   refine qAd (qBy (i:=2) (off:=0) hT rfl rfl rfl (L38 (C:=qAe F) rfl)) rfl ?_
   refine qCc (qBe (i:=0) (off:=0) hT rfl rfl rfl (S38 (C:=qAe F) rfl rfl)) (forceS_eq _ _) ?_
   refine ww ?_
   exact ⟨(i+1,F),[_,_],⟨c3',hinv⟩,by simp only;omega,⟨.refl _,.refl _,.int hwr,trivial⟩,HLe.refl _,Env.below_mono hE (by simp),rfl,rfl⟩
  refine ww ?_
  exact ⟨(i+1,D),[_,_],⟨c3',hD⟩,by simp only;omega,⟨.refl _,.refl _,.int hwr,trivial⟩,HLe.refl _,Env.below_mono hE (by simp),rfl,rfl⟩
 refine ww ?_
 refine wwc hawk ?_
 refine ww ?_
 exact wwr
end Tdoc
namespace Tdoc
open Go Go.Proofs
theorem qUc:Spec Tryz.prog 7 [] [] (fun r h'=>r=.d (.bool true)∧h'=[]):=by
 have hb:=qLo [85,84,79] [115,101,101,100] 40000 (by simp) (by simp)
 obtain ⟨hs,he⟩:=vKj [115,101,101,100] (by simp)
 rw [he] at hb
 generalize (qIi [85,84,79] [115,101,101,100] 40000).1=a at hb hs
 have hg:=Good0
 have hm:=vIt qRc holdR_elem hs
 generalize qRc=hr at hg hm
 obtain ⟨b,p,M0,M1,hap,hm⟩:=hm
 have hu:=qLo [117,116,111,112,105,97] [] 40000 (by simp) (by simp)
 rw [show qIi [117,116,111,112,105,97] [] 40000=(aut0,60) by rw [beginA_eq,if_pos (by decide)]] at hu
 have hll:(qGl (qCq zM)).length=2:=by rw [encSs_length];exact zM_lines.1
 generalize qGl (qCq zM)=LN at hll hm
 generalize keyM=KM at hm
 have hrl:(qBb a.roots).length=1:=by simp only [qBb,List.length_map];exact hs.roots
 have hnx:=hs.next
 have hal:(qBu p.apps).length=1:=by rw [encApks_length];exact hap
 clear hs hap he
 obtain ⟨sta,roots,links,secs,signer,lister,sk,lk,next,list,rev,defs,seed⟩:=a
 simp only at hrl hnx
 subst hnx
 refine qAb hT Tryz.func7 rfl rfl rfl rfl ?_;intro E hE
 refine qAj (qAj (qAj (qAj (qAj ?_))))
 refine qAk (qAg ?_)
 refine wws ?_
 refine qAk (qAg ?_)
 refine qAd (buildCB_ok (i0:=0) (s:=[115,101,101,100]) hT rfl rfl rfl) rfl ?_
 refine qAd (markCB_ok hT rfl rfl rfl rfl rfl) rfl ?_
 refine wwc hb ?_
 refine wk hT rfl rfl ?_
 refine wk hT rfl rfl ?_
 refine wk hT rfl rfl ?_
 refine qAd (allocAt_ok (i0:=1) (i:=tiA) hT rfl tiA_find rfl) rfl ?_
 refine qCc (qBe (i:=1) (off:=0) hT rfl rfl rfl (S38 (C:=qAe ⟨sta,roots,links,secs,signer,lister,sk,lk,4,list,rev,defs,seed⟩) rfl rfl)) (forceS_eq _ _) ?_
 refine wk hT rfl rfl ?_
 refine qCi ?_
 refine qAo (l:=[(1,.ptr 1 0),(2,.d (.int .i64 0))]) (h':=[.dead,.row (qAe ⟨sta,roots,links,secs,signer,lister,sk,lk,4,list,rev,defs,seed⟩),.room,.room,.room]) ⟨.refl _,.refl _,trivial⟩ ⟨trivial,ObLe.refl _,ObLe.refl _,ObLe.refl _,ObLe.refl _,trivial⟩ ?_
 refine qAk (qAw (fun i=>bif Nat.beq i 0 then [1] else bif Nat.beq i 7||Nat.beq i 9 then [2] else bif Nat.beq i 8||Nat.beq i 10 then [3] else []) (fun i=>bif Nat.beq i 7||Nat.beq i 9 then [2] else bif Nat.beq i 8||Nat.beq i 10 then [3] else []) mixed (by kernel_rfl) ?_)
 refine qAm (v:=.agg (qAe ⟨sta,roots,links,secs,signer,lister,sk,lk,4,list,rev,defs,seed⟩)) (os:=[]) (fun k hk1 hk2=>qBy (i:=1) (off:=0) hT rfl rfl ((hk2 1 List.mem_cons_self).trans rfl) (L38 (C:=qAe ⟨sta,roots,links,secs,signer,lister,sk,lk,4,list,rev,defs,seed⟩) rfl)) rfl ?_
 refine wwdc hg ?_
 refine wwdc hm ?_
 refine qBo hT (fun _=>rfl) rfl rfl True.intro ?_
 refine qBo hT (fun _=>rfl) rfl rfl True.intro ?_
 refine qBo hT (fun _=>rfl) rfl rfl True.intro ?_
 refine qBo hT (fun _=>rfl) rfl rfl True.intro ?_
 refine qAm (v:=.ptr 2 0) (os:=[.row (qEc [] 0 (.sl 1 [] .full))]) (fun kk hk1 hk2=>allocAt_ok (i0:=2) (i:=tiA) hT rfl tiA_find ((hk2 2 List.mem_cons_self).trans rfl)) rfl ?_
 refine qAm (v:=.ptr 3 0) (os:=[.row qRg]) (fun kk hk1 hk2=>allocAt_ok (i0:=3) (i:=tiD) hT rfl tiD_find ((hk2 3 List.mem_cons_self).trans rfl)) rfl ?_
 refine qAm (v:=.any) (os:=[.row (qAe b)]) (fun k hk1 hk2=>qBe (i:=2) (off:=0) hT rfl rfl ((hk2 2 List.mem_cons_self).trans rfl) (S38 (C:=qAe b) rfl rfl)) rfl ?_
 refine qAm (v:=.any) (os:=[.row (vAe (.sl 1 LN) (.str KM) p M0 M1)]) (fun k hk1 hk2=>qBe (i:=3) (off:=0) hT rfl rfl ((hk2 3 List.mem_cons_self).trans rfl) (S62 (C:=vAe (.sl 1 LN) (.str KM) p M0 M1) rfl rfl)) rfl ?_
 refine wwg ?_
 refine qAo (l:=[(1,.ptr 1 0),(2,.d (.int .i64 0)),(4,.ptr 3 0),(5,.d (.int .i64 0))]) (h':=[.dead,.row (qAe ⟨sta,roots,links,secs,signer,lister,sk,lk,4,list,rev,defs,seed⟩),.dead,.row (vAe (.sl 1 LN) (.str KM) p M0 M1),.room]) ⟨.refl _,.refl _,.refl _,.refl _,trivial⟩ ⟨trivial,ObLe.refl _,trivial,ObLe.refl _,ObLe.refl _,trivial⟩ ?_
 refine qAk (qAg ?_)
 refine wwc hu ?_
 refine wk hT rfl rfl ?_
 refine wk hT rfl rfl ?_
 refine wk hT rfl rfl ?_
 refine qAd (allocAt_ok (i0:=4) (i:=tiA) hT rfl tiA_find rfl) rfl ?_
 refine qCc (qBe (i:=4) (off:=0) hT rfl rfl rfl (S38 (C:=qAe aut0) rfl rfl)) (forceS_eq _ _) ?_
 refine wk hT rfl rfl ?_
 refine qCi ?_
 refine qAo (l:=[(1,.ptr 1 0),(2,.d (.int .i64 0)),(4,.ptr 3 0),(5,.d (.int .i64 0)),(7,.d (.int .i64 60))]) (h':=[.dead,.row (qAe ⟨sta,roots,links,secs,signer,lister,sk,lk,4,list,rev,defs,seed⟩),.dead,.row (vAe (.sl 1 LN) (.str KM) p M0 M1),.dead]) ⟨.refl _,.refl _,.refl _,.refl _,.refl _,trivial⟩ ⟨trivial,ObLe.refl _,trivial,ObLe.refl _,trivial,trivial⟩ ?_
 refine qAk (qAg ?_)
 refine wws ?_
 refine ww ?_
 refine rq ⟨rfl,rfl⟩ rfl (.bool ?_)
 simp only [hrl,hll,hal]
 rfl
end Tdoc
namespace Tdoc
open Go Go.Proofs
theorem issuanceBegins_spec (sta seed:List UInt8) (day:Int) (later:List Int) :
  Spec Tryz.prog 4 [.d (.str sta),.d (.sl 1 (qAl seed)),.d (.int .i64 day),.d (.sl 1 (qHt later))] [] (fun r h'=>r=.d (.bool true)∧h'=[]):=vDn qUc sta seed day later
end Tdoc
