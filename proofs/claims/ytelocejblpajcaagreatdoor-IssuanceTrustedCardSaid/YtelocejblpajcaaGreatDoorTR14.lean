/- Part 14 of the proof: the texts NR NS NT NU ZI Y6 RA RB KH M1 KC KD KE KF KG KX LA KY LB LC LD LE LF. -/
import Derived.Test.YtelocejblpajcaaGreatDoorTR13
set_option maxHeartbeats 8000000
set_option maxRecDepth 100000
set_option linter.unusedVariables false
set_option linter.unusedSimpArgs false
namespace Tdoc
open Go Go.Proofs
def qUb (l:List Inf):List UInt8×Int:=if validI l≠0 then ([],validI l) else qBj [qHt l]
theorem infL_get:∀ {l:List Inf} {p:Option Inf},vBz p l=0→∀ {i:Nat} (hi:i < l.length),infE l[i]=0
 | [],_,_,_,hi=>by simp at hi
 | x::l,p,h,i,hi=>by
  rw [infL_cons] at h
  have hv:infE x=0:=by
   by_cases hv:infE x=0
   ·exact hv
   ·rw [if_pos hv] at h;exact h
  rw [if_neg (fun hh=>hh hv)] at h
  have hl:vBz (some x) l=0:=by
   split at h <;> split at h
   all_goals first | exact h | exact absurd h (by decide)
  cases i with
  | zero=>exact hv
  | succ i=>exact infL_get hl (by simpa using hi)
theorem validI_ok {l:List Inf} (h:validI l=0):l.length≤16∧vBz none l=0:=by
 unfold validI at h
 split at h
 ·omega
 ·exact ⟨by omega,h⟩
theorem idB_len (p:Int):(idB p).length=9:=by
 unfold idB
 split
 ·rfl
 split
 ·rfl
 split
 ·rfl
 split <;> rfl
theorem vLl (x:Inf) (r:List Node):(wrL (qKp x::r)).length≤200+(wrL r).length:=by
 unfold qKp
 have h0:(wrL ([]:List Node)).length=0:=rfl
 have hid:=idB_len x.proto
 split
 ·have h1:=wrL_cons_length 48 [] ([.mk 6 (idB x.proto) [],.mk 2 [bOf x.ver] []]++[.mk 2 [bOf x.par] []]) r
  have h2:=wrL_cons_length 6 (idB x.proto) [] [.mk 2 [bOf x.ver] [],.mk 2 [bOf x.par] []]
  have h3:=wrL_cons_length 2 [bOf x.ver] [] [.mk 2 [bOf x.par] []]
  have h4:=wrL_cons_length 2 [bOf x.par] [] []
  simp only [List.cons_append,List.nil_append,List.length_cons,List.length_nil] at *
  omega
 split
 ·have h1:=wrL_cons_length 48 [] ([.mk 6 (idB x.proto) [],.mk 2 [bOf x.ver] []]++[.mk 4 (qAw 4 x.key.toNat) [],.mk 2 [bOf x.kid] []]) r
  have h2:=wrL_cons_length 6 (idB x.proto) [] [.mk 2 [bOf x.ver] [],.mk 4 (qAw 4 x.key.toNat) [],.mk 2 [bOf x.kid] []]
  have h3:=wrL_cons_length 2 [bOf x.ver] [] [.mk 4 (qAw 4 x.key.toNat) [],.mk 2 [bOf x.kid] []]
  have h4:=wrL_cons_length 4 (qAw 4 x.key.toNat) [] [.mk 2 [bOf x.kid] []]
  have h5:=wrL_cons_length 2 [bOf x.kid] [] []
  simp only [List.cons_append,List.nil_append,List.length_cons,List.length_nil,octB_length] at *
  omega
 ·have h1:=wrL_cons_length 48 [] ([.mk 6 (idB x.proto) [],.mk 2 [bOf x.ver] []]++[]) r
  have h2:=wrL_cons_length 6 (idB x.proto) [] [.mk 2 [bOf x.ver] []]
  have h3:=wrL_cons_length 2 [bOf x.ver] [] []
  simp only [List.cons_append,List.nil_append,List.length_cons,List.length_nil] at *
  omega
theorem qQw:∀ (l:List Inf),(wrL (l.map qKp)).length≤l.length*200
 | []=>by show (0:Nat)≤_;omega
 | x::l=>by
  have h1:=vLl x (l.map qKp)
  have h2:=qQw l
  simp only [List.map_cons,List.length_cons]
  omega
theorem vIo {l:List Inf} (h:l.length≤16):(wrL [qHt l]).length≤10000:=by
 have h1:=qQw l
 have h2:=wrL_cons_length 49 [] (l.map qKp) []
 have h0:(wrL ([]:List Node)).length=0:=rfl
 unfold qHt
 simp only [List.length_nil] at *
 omega
theorem encIP_spec (l:List Inf) (hl:l.length≤1000000):Spec Tryz.prog 101 [.d (.sl 5 (qFt l))] [] (fun r h'=>r=.tup [.d (.sl 1 (qAj (qUb l).1)),.d (.int .i64 (qUb l).2)]∧h'=[]):=by
 have hll:=encFs_length l
 have hc:=qOm l hl
 have hcv:=@validI_ok l
 unfold qUb
 generalize validI l=e at hc hcv
 refine qAb hT Tryz.func101 rfl rfl rfl rfl ?_;intro E hE
 refine ww ?_
 refine wwc hc ?_
 refine ww ?_
 refine qAa rfl (fun c1=>?_) (fun c1=>?_)
 ·have c1':e≠0:=by simpa using c1
  rw [if_pos c1']
  refine ww ?_
  exact wwr
 have c1':e=0:=by simpa using c1
 obtain ⟨g1,g3⟩:=hcv c1'
 subst c1'
 rw [if_neg (by simp)]
 obtain ⟨f1,f2⟩:=setI_fit g1
 have henc:=qFv [qHt l] (by simp) f1 (by omega) (by have:=vIo g1;omega)
 generalize qBj [qHt l]=en at henc
 obtain ⟨b,f⟩:=en
 simp only at henc ⊢
 refine ww ?_
 refine qAo (qBy 0 2 1 3 rfl rfl rfl ?_)
 refine qBg (ι:=Nat) (fun i=>[(14,.d (.sl 5 (qFt l))),(5,.ptr 0 0),(15,.I (l.length:Int)),(16,.I (i:Int))])
  (fun i=>[.row [.I 49,.sl 1 [] .full,.sl 3 (encNs ((l.take i).map qKp)) (.right 1)],.right 3 (encNs ((l.take i).map qKp)).length])
  (fun i=>i≤l.length) (fun i=>l.length-i) 0 (by omega) ⟨.refl _,.refl _,.int (by rw [hll]),.refl _,trivial⟩ (HLe.refl _) ?_
 intro i hi
 have hwr:IntKind.i64.wrap ((i:Int)+1)=((i+1:Nat):Int):=by rw [qAe (by omega)];simp
 have hkl:(encNs ((l.take i).map qKp)).length≤16:=by rw [encNs_length];simp;omega
 refine ww ?_
 refine qAa rfl (fun c2=>?_) (fun c2=>?_)
 ·have c2':i < l.length:=by have h3:(i:Int) < (l.length:Int):=(by simpa using c2);omega
  have hel:=encFs_at c2'
  have htk:encNs ((l.take (i+1)).map qKp)=encNs ((l.take i).map qKp)++[qIc (qKp l[i])]:=by
   rw [List.take_succ_eq_append_getElem c2',List.map_append,encNs_append];rfl
  have ho:=objIP_spec l[i] (infL_get g3 c2')
  generalize l[i]=t at hel ho htk
  generalize encNs ((l.take i).map qKp)=ks at hkl htk ⊢
  generalize hnd:qIc (qKp t)=nd at htk
  have hnd':∃ v k,nd=[.int .i64 48,.sl 1 v,.sl 3 k]:=⟨_,_,hnd.symm⟩
  unfold nAV at ho
  rw [hnd] at ho
  obtain ⟨vv,kk,rfl⟩:=hnd'
  unfold qQj at ho
  refine ww ?_
  refine wwi hel ?_
  refine wwn ?_
  show AW Tryz.prog E _ _ _ _ _
  refine qBp (fun i=>bif Nat.beq i 1 then [0] else bif Nat.beq i 2 then [2] else bif Nat.beq i 5 then [1] else bif Nat.beq i 7 then [0] else []) (fun i=>bif Nat.beq i 5 then [1] else bif Nat.beq i 7 then [0] else []) mixed (by kernel_rfl) ?_
  refine wwg ?_
  refine wwdc ho ?_
  refine wwg ?_
  refine qAk (os:=[]) (fun k hk1 hk2=>buildSl_ok hT rfl rfl) rfl ?_
  refine qAk (v:=.sl 3 (ks++[[.int .i64 48,.sl 1 vv,.sl 3 kk]]) (.right 1)) (os:=[.right 3 (ks++[[Dat.int .i64 48,.sl 1 vv,.sl 3 kk]]).length]) (fun k hk1 hk2=>qAh (i:=1) hT rfl rfl rfl rfl ((hk2 1 List.mem_cons_self).trans rfl) rfl (by show (ks.length+1)*(56+1)≤_;omega)) rfl ?_
  refine wwg ?_
  refine ww ?_
  refine ⟨i+1,[_],by omega,by omega,⟨.refl _,.refl _,.refl _,.int hwr,trivial⟩,⟨ObLe.row (by rw [htk]),⟨rfl,congrArg List.length htk.symm⟩,.refl _,trivial⟩,Env.below_mono hE (by simp),rfl,rfl⟩
 ·have c2':i=l.length:=by have h3:¬ (i:Int) < (l.length:Int):=(by simpa using c2);omega
  subst c2'
  rw [List.take_length]
  show AW Tryz.prog E _ _ _ _ _
  refine qAp (l:=[(5,.ptr 0 0)]) (h':=[.row [.I 49,.d (.sl 1 []),.d (.sl 3 (encNs (l.map qKp)))],.dead]) yf ⟨⟨.refl _,.dat,.dat,trivial⟩,trivial,trivial⟩ ?_
  have henc':Spec Tryz.prog 181 [.d (.sl 3 [[.int .i64 49,.sl 1 [],.sl 3 (encNs (l.map qKp))]])] [] (fun r h'=>r=.tup [.d (.sl 1 (qAj b)),.I f]∧h'=[]):=henc
  refine ww ?_
  refine wwc henc' ?_
  refine ww ?_
  exact wwr
theorem infosP_walk (l:List Inf) (hl:l.length≤1000000) (hp:validI l=0→(qBj [qHt l]).2=0∧(qBj [qHt l]).1.length≤10000∧(qEj (qBj [qHt l]).1 true).1=[qHt l]):Spec Tryz.prog 95 [.d (.sl 5 (qFt l))] [] (fun r h'=>r=.tup [.d (.sl 1 (qAj (infosF l).1)),.d (.int .i64 (infosF l).2)]∧h'=[]):=by
 have hc:=encIP_spec l hl
 have hcv:=@validI_ok l
 unfold qUb at hc
 unfold infosF
 by_cases h0:validI l=0
 ·obtain ⟨p1,p2,p3⟩:=hp h0
  obtain ⟨g1,g3⟩:=hcv h0
  rw [if_neg (by simp [h0])] at hc ⊢
  obtain ⟨f1,f2⟩:=setI_fit g1
  have hw:=qGv 14 (by omega) [qHt l] (by simp) f1 (by omega) (by have:=vIo g1;omega)
  have hps:=qQq (qBj [qHt l]).1 true (by omega)
  rw [p3] at hps
  rw [p1] at hc
  generalize (qBj [qHt l]).1=b at hc hps
  generalize (qEj b true).2=pe at hps
  generalize qEf 14 [qHt l]=w at hw
  obtain ⟨w,we⟩:=w
  simp only at hw ⊢
  generalize encNs [qHt l]=ks at hps hw
  refine qAb hT Tryz.func95 rfl rfl rfl rfl ?_;intro E hE
  refine ww ?_
  refine wwc hc ?_
  refine ww ?_
  refine qAa rfl (fun c1=>?_) (fun c1=>?_)
  ·exact absurd c1 (by simp)
  refine ww ?_
  refine wwc hps ?_
  refine ww ?_
  refine wwc hw ?_
  refine ww ?_
  exact wwr
 ·rw [if_pos h0] at hc ⊢
  simp only at hc ⊢
  generalize validI l=e at hc h0
  refine qAb hT Tryz.func95 rfl rfl rfl rfl ?_;intro E hE
  refine ww ?_
  refine wwc hc ?_
  refine ww ?_
  refine qAa rfl (fun c1=>?_) (fun c1=>?_)
  case refine_2=>exact absurd (by simpa using c1) h0
  refine ww ?_
  exact wwr
inductive LenS (n:Nat):List UInt8→Prop where
 | one:n < 128→LenS n [UInt8.ofNat n]
 | two:128≤n→n < 256→LenS n [129,UInt8.ofNat n]
 | three:256≤n→LenS n [130,UInt8.ofNat (n / 256 % 256),UInt8.ofNat (n % 256)]
theorem lenB_S {n:Nat} (h:n≤4097):LenS n (qQa n):=by
 rw [← lenR_eq h]
 unfold qPz
 split
 ·exact .one (by omega)
 ·split
  ·exact .two (by omega) (by omega)
  ·exact .three (by omega)
inductive EncS:List Node→List UInt8→Prop where
 | nil:EncS [] []
 | prim {t:Int} {v:List UInt8} {k:List Node} {l:List Node} {f r:List UInt8}:qBd t=false→LenS v.length f→EncS l r→EncS (.mk t v k::l) (qLe t++(f++(v++r)))
 | cons {t:Int} {v:List UInt8} {k:List Node} {l:List Node} {f c r:List UInt8}:qBd t=true→EncS k c→LenS c.length f→EncS l r→EncS (.mk t v k::l) (qLe t++(f++(c++r)))
theorem lenX_atS {b:List UInt8} {e q n:Nat} {f:List UInt8} (op:Bool) (hf:LenS n f) (hn:n < 65536) (h:At b e q f):qPa b e op true q=((n:Int),0,q+f.length):=by
 unfold qPa
 cases hf with
 | one h1 =>
  obtain ⟨a1,a2,_⟩:=h.head
  rw [toNat_mod] at a1
  rw [if_neg (by omega),if_pos (by omega)]
  simp only [List.length_cons,List.length_nil]
  rw [a1,Nat.mod_eq_of_lt (by omega)]
 | two h0 h1 =>
  obtain ⟨a1,a2,a3⟩:=h.head
  obtain ⟨b1,b2,_⟩:=a3.head
  rw [toNat_mod] at b1
  have a1:qAr b q=129:=a1
  have e1:qWo b (q+1) (129 % 16) 0=n:=by
   simp only [qWo]
   rw [b1,Nat.mod_eq_of_lt (by omega)]
   simp
  rw [if_neg (by omega),if_neg (by omega),if_neg (by omega),if_neg (by omega),if_neg (by omega),a1,e1,if_neg ?_]
  ·rfl
  ·rintro ⟨_,h2 | h2⟩
   ·omega
   ·have h3:n / 1=0:=h2
    omega
 | three h0 =>
  obtain ⟨a1,a2,a3⟩:=h.head
  obtain ⟨b1,b2,b3⟩:=a3.head
  obtain ⟨c1,c2,_⟩:=b3.head
  rw [toNat_mod] at b1 c1
  have a1:qAr b q=130:=a1
  have e1:qWo b (q+1) (130 % 16) 0=n:=by
   simp only [qWo]
   rw [b1,c1]
   omega
  rw [if_neg (by omega),if_neg (by omega),if_neg (by omega),if_neg (by omega),if_neg (by omega),a1,e1,if_neg ?_]
  ·rfl
  ·rintro ⟨_,h2 | h2⟩
   ·omega
   ·have h3:n / 256=0:=h2
    omega
theorem encS_steps (b:List UInt8) {l:List Node} {r:List UInt8} (h:EncS l r):∀ (k d e p c:Nat),(qDz d l 0).1=0→d+k=9→c+qAu l≤256→r.length < 65536→e≤b.length→At b e p r→Steps b (qMw b true (k+1) e d) e p c l (p+r.length) (c+qAu l):=by
 induction h with
 | nil=>intro k d e p c _ _ _ _ _ _;exact .nil p c
 | @prim t v k0 l f r h1 h2 h3 ih =>
  intro k d e p c hch hk hc hr he ha
  obtain ⟨c1,c2⟩:=chkL_inv hch
  obtain ⟨t1,t2,t3,t4,t5⟩:=chkN_inv c1
  obtain rfl:=t2 h1
  obtain ⟨g1,g2⟩:=tagX_at t1 ha.left
  have a2:=ha.right
  have a3:=a2.left
  have a4:=a2.right
  have a5:=a4.left
  have a6:=a4.right
  simp only [List.length_append] at hr
  have hsz:qAu (Node.mk t v []::l)=1+qAu l:=by simp [qAu,qCg]
  rw [hsz] at hc ⊢
  have hl:=lenX_atS false h2 (by omega) a3
  have hbd:=a5.1
  refine .cons (p1:=p+(qLe t).length+f.length+v.length) (c1:=c+1) ?_ g2 ?_ ?_
  ·have:=(tagX_inv (b:=b) (e:=e) (p:=p) (by rw [g1])).1
   rw [g1] at this;simp only at this;omega
  ·rw [qMw,g1]
   simp only [ne_eq,not_true_eq_false,if_false]
   rw [Bool.not_true,Bool.and_false,hl]
   unfold vFy
   simp only [ne_eq,not_true_eq_false,if_false]
   rw [if_neg (by omega),if_neg (by omega),if_neg (by omega),if_neg (by omega),if_neg (by simp [h1])]
   rw [Int.toNat_natCast,a5.cut he]
  ·have:=ih k d e (p+(qLe t).length+f.length+v.length) (c+1) c2 hk (by omega) (by omega) he a6
   simp only [List.length_append]
   rw [show p+((qLe t).length+(f.length+(v.length+r.length)))=p+(qLe t).length+f.length+v.length+r.length by omega,show c+(1+qAu l)=c+1+qAu l by omega]
   exact this
 | @cons t v k0 l f c0 r h1 h2 h3 h4 ihk ih =>
  intro k d e p c hch hk hc hr he ha
  obtain ⟨c1,c2⟩:=chkL_inv hch
  obtain ⟨t1,t2,t3,t4,t5⟩:=chkN_inv c1
  obtain rfl:=t3 h1
  obtain ⟨g1,g2⟩:=tagX_at t1 ha.left
  have a2:=ha.right
  have a3:=a2.left
  have a4:=a2.right
  have a5:=a4.left
  have a6:=a4.right
  simp only [List.length_append] at hr
  have hsz:qAu (Node.mk t [] k0::l)=1+qAu k0+qAu l:=by simp [qAu,qCg]
  rw [hsz] at hc ⊢
  have hl:=lenX_atS false h3 (by omega) a3
  have hbd:=a5.1
  obtain ⟨k,rfl⟩:∃ k',k=k'+1:=⟨k-1,by omega⟩
  refine .cons (p1:=p+(qLe t).length+f.length+c0.length) (c1:=c+1+qAu k0) ?_ g2 ?_ ?_
  ·have:=(tagX_inv (b:=b) (e:=e) (p:=p) (by rw [g1])).1
   rw [g1] at this;simp only at this;omega
  ·rw [qMw,g1]
   simp only [ne_eq,not_true_eq_false,if_false]
   rw [Bool.not_true,Bool.and_false,hl]
   unfold vFy
   simp only [ne_eq,not_true_eq_false,if_false]
   rw [if_neg (by omega),if_neg (by omega),if_neg (by omega),if_neg (by omega),if_pos h1]
   rw [Int.toNat_natCast]
   have hst:=ihk k (d+1) (p+(qLe t).length+f.length+c0.length) (p+(qLe t).length+f.length) (c+1) (by rw [chkL_any _ _ 0 1];exact t5) (by omega) (by omega) (by omega) (by omega) (a5.mono (by omega))
   have hln:=hst.len (objX_ok b true (k+1) _ (d+1)) (by omega) (by omega)
   rw [hst.loop rfl _ _ (by omega),List.nil_append]
  ·have:=ih (k+1) d e (p+(qLe t).length+f.length+c0.length) (c+1+qAu k0) c2 hk (by omega) (by omega) he a6
   simp only [List.length_append]
   rw [show p+((qLe t).length+(f.length+(c0.length+r.length)))=p+(qLe t).length+f.length+c0.length+r.length by omega,show c+(1+qAu k0+qAu l)=c+1+qAu k0+qAu l by omega]
   exact this
theorem encS_parse {l:List Node} {r:List UInt8} (h:EncS l r) (hc:(qDz 1 l 0).1=0) (hs:qAu l≤256) (hr:r.length≤4096):qEj r true=(l,0):=by
 have hst:=encS_steps r h 8 1 r.length 0 0 hc rfl (by omega) (by omega) (Nat.le_refl _) (At.whole r)
 have hln:=hst.len (objX_ok r true 9 _ 1) (by omega) (by omega)
 unfold qEj
 rw [if_neg (by omega),hst.loop (by omega) _ _ (by omega),List.nil_append]
theorem wrL_encS:∀ (n:Nat) (l:List Node),qAu l≤n→(wrL l).length≤4096→EncS l (wrL l)
 | _,[],_,_=>.nil
 | 0,.mk t v k::l,h,_=>by simp only [qAu,qCg] at h;omega
 | n+1,.mk t v k::l,h,hw=>by
  have hs:qAu k≤n∧qAu l≤n:=by simp only [qAu,qCg] at h;omega
  by_cases hc:qBd t=true
  ·have e:wrL (.mk t v k::l)=qLe t++(qQa (wrL k).length++(wrL k++wrL l)):=by simp [wrL,wrN,hc]
   rw [e] at hw ⊢
   simp only [List.length_append] at hw
   exact .cons hc (wrL_encS n k hs.1 (by omega)) (lenB_S (by omega)) (wrL_encS n l hs.2 (by omega))
  ·have hc':qBd t=false:=by simpa using hc
   have e:wrL (.mk t v k::l)=qLe t++(qQa v.length++(v++wrL l)):=by simp [wrL,wrN,hc']
   rw [e] at hw ⊢
   simp only [List.length_append] at hw
   exact .prim hc' (lenB_S (by omega)) (wrL_encS n l hs.2 (by omega))
theorem vHr (x:Inf):(qGm 2 (qKp x) 0).1=0:=by
 have t1:qCs 48=true:=by decide
 have t2:qBd 48=true:=by decide
 have t3:qCs 6=true:=by decide
 have t4:qBd 6=false:=by decide
 have t5:qCs 2=true:=by decide
 have t6:qBd 2=false:=by decide
 have t7:qCs 4=true:=by decide
 have t8:qBd 4=false:=by decide
 unfold qKp
 split
 ·simp [qGm,qDz,t1,t2,t3,t4,t5,t6]
 split
 ·simp [qGm,qDz,t1,t2,t3,t4,t5,t6,t7,t8]
 ·simp [qGm,qDz,t1,t2,t3,t4,t5,t6]
theorem vHp (l:List Inf):(qDz 1 [qHt l] 0).1=0:=by
 have t1:qCs 49=true:=by decide
 have t2:qBd 49=true:=by decide
 have hk:∀ c,(qDz 2 (l.map qKp) c).1=0:=fun c=>chkL_of fun n hn=>by
  obtain ⟨x,_,rfl⟩:=List.mem_map.1 hn
  exact vHr x
 have h1:(qGm 1 (qHt l) 0).1=0:=by
  unfold qHt
  rw [qGm,if_neg (by simp [t1]),if_neg (by simp [t2]),if_neg (by omega)]
  exact hk _
 exact chkL_of fun n hn=>by rw [List.mem_singleton.1 hn];exact h1
theorem encI_parse (l:List Inf) (h0:validI l=0):(qBj [qHt l]).2=0∧(qBj [qHt l]).1.length≤10000∧(qEj (qBj [qHt l]).1 true).1=[qHt l]:=by
 obtain ⟨g1,g3⟩:=validI_ok h0
 obtain ⟨f1,f2⟩:=setI_fit g1
 have hc:=vHp l
 have hcnt:=chkL_count 1 [qHt l] 0
 have hw:(wrL [qHt l]).length≤4096:=by
  have h1:=qQw l
  have h2:=wrL_cons_length 49 [] (l.map qKp) []
  have h3:(wrL ([]:List Node)).length=0:=rfl
  unfold qHt
  simp only [List.length_nil] at *
  omega
 have he:qBj [qHt l]=(wrL [qHt l],0):=by
  unfold qBj
  rw [if_neg (by rw [hc];simp),if_neg (by omega),if_neg (by omega)]
 rw [he]
 refine ⟨rfl,by simp only;omega,?_⟩
 simp only
 rw [encS_parse (wrL_encS _ _ (Nat.le_refl _) hw) hc (by omega) hw]
theorem infosP_spec (l:List Inf) (hl:l.length≤1000000):Spec Tryz.prog 95 [.d (.sl 5 (qFt l))] [] (fun r h'=>r=.tup [.d (.sl 1 (qAj (infosF l).1)),.d (.int .i64 (infosF l).2)]∧h'=[]) :=
 infosP_walk l hl fun h0=>encI_parse l h0
theorem vCk:∀ x,x∈tagTab.take 16→qCs x=true∧qBd x=true∧(qKr x).2=0:=by decide
theorem tagR_at {n:Int} (h1:1≤n) (h2:n≤16):(qMr n).2=0∧(qMr n).1∈tagTab.take 16:=by
 unfold qMr
 rw [if_neg (by omega)]
 refine ⟨rfl,?_⟩
 have hl:(n-1).toNat < (tagTab.take 16).length:=by show (n-1).toNat < 16;omega
 have:tagTab[(n-1).toNat]?=some (tagTab.take 16)[(n-1).toNat]:=by
  rw [List.getElem_take,List.getElem?_eq_getElem]
 rw [this]
 exact List.getElem_mem _
end Tdoc
namespace Tdoc
open Go
theorem vAq {n:Int} (h1:1≤n) (h2:n≤16):(qKr (qMr n).1).1=n:=by
 have:n=1∨n=2∨n=3∨n=4∨n=5∨n=6∨n=7∨n=8∨n=9∨n=10∨n=11∨n=12∨n=13∨n=14∨n=15∨n=16:=by omega
 rcases this with rfl | rfl | rfl | rfl | rfl | rfl | rfl | rfl | rfl | rfl | rfl | rfl | rfl | rfl | rfl | rfl <;> decide
theorem vCc {n:Int} {k:List Node} (h1:1≤n) (h2:n≤16) (hc:(qDz 2 k 0).1=0) (hs:qAu k≤250) (hw:(wrL k).length≤4000):(qEf n k).2=0∧(qEf n k).1.length≤4096∧qWm (qEf n k).1=(n,k,0):=by
 obtain ⟨t1,t2⟩:=tagR_at h1 h2
 obtain ⟨t3,t4,t5⟩:=vCk _ t2
 have hg:=vAq h1 h2
 have hwr:qEf n k=qBj [.mk (qMr n).1 [] k]:=by unfold qEf;rw [if_neg (by rw [t1];simp)]
 generalize (qMr n).1=t at t2 t3 t4 t5 hwr hg
 have hch:(qDz 1 [.mk t [] k] 0).1=0:=chkL_of fun m hm=>by
  rw [List.mem_singleton.1 hm,qGm,if_neg (by simp [t3]),if_neg (by simp [t4]),if_neg (by omega),chkL_any (1+1) k (0+1) 0]
  exact hc
 have hsz:qAu [.mk t [] k]≤256:=by simp only [qAu,qCg];omega
 have hln:(wrL [.mk t [] k]).length≤4096:=by
  have h3:=wrL_cons_length t [] k []
  have h4:(wrL ([]:List Node)).length=0:=rfl
  simp only [List.length_nil] at h3
  omega
 have hcnt:=(chkL_count 1 [.mk t [] k] 0).1
 have he:qBj [.mk t [] k]=(wrL [.mk t [] k],0):=by
  unfold qBj
  rw [if_neg (by rw [hch];simp),if_neg (by omega),if_neg (by omega)]
 have hp:=encS_parse (wrL_encS _ _ (Nat.le_refl _) hln) hch hsz hln
 have hpf:=parseX_sub (b:=wrL [.mk t [] k]) (by rw [hp])
 rw [hwr,he]
 refine ⟨rfl,hln,?_⟩
 simp only
 unfold qWm
 rw [hpf,hp]
 simp only
 rw [if_neg (by simp),if_neg (by rw [t5];simp),hg]
theorem firstT_zero:∀ {l:List Tpl},(∀ t,t∈l→qDu t=0)→qFb l=0
 | [],_=>rfl
 | t::l,h=>by
  rw [qFb,if_neg (by rw [h t (by simp)];simp)]
  exact firstT_zero fun x hx=>h x (by simp [hx])
theorem vLk (t:Tpl) (r:List Node):(wrL (qJl t::r)).length≤130+t.data.length+(wrL r).length:=by
 have h0:(wrL ([]:List Node)).length=0:=rfl
 have a:=wrL_cons_length 32608 [] [.mk 161 [] (qIl t),.mk 24366 t.data []] r
 have b:=wrL_cons_length 161 [] (qIl t) [.mk 24366 t.data []]
 have c:=wrL_cons_length 24366 t.data [] []
 have d:(wrL (qIl t)).length≤86:=by
  unfold qIl
  have d1:=wrL_cons_length 129 [bOf t.kind] [] [.mk 130 [bOf t.part] [],.mk 131 (qAw 4 t.frm.toNat) [],.mk 132 (qAw 4 t.til.toNat) [],.mk 133 [bOf t.qual] [],.mk 136 [bOf (t.fmt / 256),bOf t.fmt] []]
  have d2:=wrL_cons_length 130 [bOf t.part] [] [.mk 131 (qAw 4 t.frm.toNat) [],.mk 132 (qAw 4 t.til.toNat) [],.mk 133 [bOf t.qual] [],.mk 136 [bOf (t.fmt / 256),bOf t.fmt] []]
  have d3:=wrL_cons_length 131 (qAw 4 t.frm.toNat) [] [.mk 132 (qAw 4 t.til.toNat) [],.mk 133 [bOf t.qual] [],.mk 136 [bOf (t.fmt / 256),bOf t.fmt] []]
  have d4:=wrL_cons_length 132 (qAw 4 t.til.toNat) [] [.mk 133 [bOf t.qual] [],.mk 136 [bOf (t.fmt / 256),bOf t.fmt] []]
  have d5:=wrL_cons_length 133 [bOf t.qual] [] [.mk 136 [bOf (t.fmt / 256),bOf t.fmt] []]
  have d6:=wrL_cons_length 136 [bOf (t.fmt / 256),bOf t.fmt] [] []
  simp only [List.length_cons,List.length_nil,octB_length] at d1 d2 d3 d4 d5 d6
  omega
 unfold qJl
 simp only [List.length_nil] at a b c
 omega
theorem vCd:∀ {l:List Tpl},(∀ t,t∈l→qDu t=0)→(wrL (l.map qJl)).length≤l.length*1154
 | [],_=>by show (0:Nat)≤_;omega
 | t::l,h=>by
  have h1:=vLk t (l.map qJl)
  have h2:=vCd (l:=l) fun x hx=>h x (by simp [hx])
  have h3:=(validT_ok (h t (by simp))).2.2.2.2.2.2.2.2.2.2.2.2.2
  rw [List.map_cons,List.length_cons]
  omega
theorem chkN_prim {d:Nat} {t:Int} {v:List UInt8} (h1:qCs t=true) (h2:qBd t=false) (hd:d≤8):(qGm d (.mk t v []) 0).1=0:=by
 rw [qGm,if_neg (by simp [h1]),if_neg (by simp [h2]),if_neg (by omega)];rfl
theorem chkN_cons {d:Nat} {t:Int} {k:List Node} (h1:qCs t=true) (h2:qBd t=true) (hd:d≤8) (hk:∀ n,n∈k→(qGm (d+1) n 0).1=0):(qGm d (.mk t [] k) 0).1=0:=by
 rw [qGm,if_neg (by simp [h1]),if_neg (by simp [h2]),if_neg (by omega)];exact chkL_of hk
theorem vHq (t:Tpl):(qGm 3 (qJl t) 0).1=0:=by
 unfold qJl
 refine chkN_cons (by decide) (by decide) (by omega) fun n hn=>?_
 simp only [List.mem_cons,List.not_mem_nil,or_false] at hn
 rcases hn with rfl | rfl
 ·refine chkN_cons (by decide) (by decide) (by omega) fun n hn=>?_
  simp only [qIl,List.mem_cons,List.not_mem_nil,or_false] at hn
  rcases hn with rfl | rfl | rfl | rfl | rfl | rfl <;> exact chkN_prim (by decide) (by decide) (by omega)
 ·exact chkN_prim (by decide) (by decide) (by omega)
theorem wrapG_ok {n:Int} {k:List Node} (h1:1≤n) (h2:n≤16) (hc:(qDz 2 k 0).1=0) (hs:qAu k≤250) (hw:(wrL k).length≤4000):(qEf n k).2=0∧GrpOk (qEf n k).1 n:=by
 obtain ⟨w1,w2,w3⟩:=vCc h1 h2 hc hs hw
 exact ⟨w1,⟨k,w3⟩,w2⟩
theorem vCa {z:Zon} (hv:validZ z=0) (hl:(qCp z).flatten.length≤3900):(qPb z).2=0∧GrpOk (qPb z).1 1:=by
 have h:qPb z=qEf 1 [.mk 24351 (qCp z).flatten []]:=by unfold qPb;rw [if_neg (by rw [hv];simp)]
 rw [h]
 exact wrapG_ok (by omega) (by omega) (by
  refine chkL_of fun m hm=>?_
  rw [List.mem_singleton.1 hm]
  exact chkN_prim (by decide) (by decide) (by omega)) (by simp [qAu,qCg]) (by
  have b:=wrL_cons_length 24351 (qCp z).flatten [] []
  have h0:(wrL ([]:List Node)).length=0:=rfl
  omega)
theorem qZi {n:Int} {l:List Tpl} (hn:2≤n∧n≤4) (h:∀ t,t∈l→qDu t=0∧t.kind=n-1) (h1:1≤l.length) (h2:l.length≤3):(vBd n l).2=0∧GrpOk (vBd n l).1 n:=by
 have hv:=fun t ht=>(h t ht).1
 have he:qJj l=([.mk 32609 [] (qMh l)],0):=by
  unfold qJj
  rw [if_neg (by omega),if_neg (by rw [firstT_zero hv];simp)]
 have hf:qWw n l=true:=by
  unfold qWw
  rw [List.all_eq_true]
  intro t ht
  simp [(h t ht).2]
 have hb:vBd n l=qEf n [.mk 32609 [] (qMh l)]:=by
  unfold vBd
  rw [he,if_neg (by omega),if_neg (by simp),if_neg (by simp [hf])]
 have hsz:=(objTs_fit (l:=l) fun t ht=>by have:=validT_ok (hv t ht);omega).2
 rw [hb]
 exact wrapG_ok (by omega) (by omega) (chkL_of fun m hm=>by
  rw [List.mem_singleton.1 hm]
  refine chkN_cons (by decide) (by decide) (by omega) fun n hn=>?_
  unfold qMh at hn
  rcases List.mem_cons.1 hn with rfl | hn
  ·exact chkN_prim (by decide) (by decide) (by omega)
  ·obtain ⟨t,_,rfl⟩:=List.mem_map.1 hn
   exact vHq t) (by simp only [qAu,qCg,qMh,hsz];omega) (by
  have a:=wrL_cons_length 32609 [] (qMh l) []
  have b:=wrL_cons_length 2 [bOf (l.length:Int)] [] (l.map qJl)
  have c:=vCd hv
  have h0:(wrL ([]:List Node)).length=0:=rfl
  unfold qMh at a ⊢
  simp only [List.length_nil,List.length_cons] at a b
  omega)
theorem setI_chk (l:List Inf):(qDz 2 [qHt l] 0).1=0:=by
 refine chkL_of fun m hm=>?_
 rw [List.mem_singleton.1 hm]
 refine chkN_cons (by decide) (by decide) (by omega) fun n hn=>?_
 obtain ⟨x,_,rfl⟩:=List.mem_map.1 hn
 unfold qKp
 refine chkN_cons (by decide) (by decide) (by omega) fun n hn=>?_
 split at hn
 ·simp only [List.cons_append,List.nil_append,List.mem_cons,List.not_mem_nil,or_false] at hn
  rcases hn with rfl | rfl | rfl <;> exact chkN_prim (by decide) (by decide) (by omega)
 split at hn
 ·simp only [List.cons_append,List.nil_append,List.mem_cons,List.not_mem_nil,or_false] at hn
  rcases hn with rfl | rfl | rfl | rfl <;> exact chkN_prim (by decide) (by decide) (by omega)
 ·simp only [List.cons_append,List.nil_append,List.append_nil,List.mem_cons,List.not_mem_nil,or_false] at hn
  rcases hn with rfl | rfl <;> exact chkN_prim (by decide) (by decide) (by omega)
theorem setI_wr {l:List Inf} (hl:l.length≤7):(wrL [qHt l]).length≤2000:=by
 have a:=qQw l
 have b:=wrL_cons_length 49 [] (l.map qKp) []
 have h0:(wrL ([]:List Node)).length=0:=rfl
 unfold qHt
 simp only [List.length_nil] at b
 omega
theorem vHe {l:List Inf} (hv:validI l=0) (hl:l.length≤7):(infosF l).2=0∧GrpOk (infosF l).1 14:=by
 have hi:infosF l=qEf 14 [qHt l]:=by unfold infosF;rw [if_neg (by rw [hv];simp)]
 obtain ⟨f1,f2⟩:=setI_fit (l:=l) (by omega)
 have hw:=setI_wr hl
 rw [hi]
 exact wrapG_ok (by omega) (by omega) (setI_chk l) (by omega) (by omega)
theorem encI_ok {l:List Inf} (hv:validI l=0) (hl:l.length≤7):(qUb l).2=0∧(qUb l).1.length≤4096:=by
 obtain ⟨f1,f2⟩:=setI_fit (l:=l) (by omega)
 have hw:=setI_wr hl
 have hc:(qDz 1 [qHt l] 0).1=0:=chkL_up 1 _ (setI_chk l)
 have hcnt:=(chkL_count 1 [qHt l] 0).1
 have he:qBj [qHt l]=(wrL [qHt l],0):=by
  unfold qBj
  rw [if_neg (by rw [hc];simp),if_neg (by omega),if_neg (by omega)]
 unfold qUb
 rw [if_neg (by rw [hv];simp),he]
 exact ⟨rfl,by simp only;omega⟩
theorem vHx {key:Int} (hk:qDj key=true):(qIr key).2=0∧GrpOk (qIr key).1 15:=by
 have ha:qIr key=qEf 15 [.mk 4 (qAw 4 key.toNat) []]:=by unfold qIr;rw [if_pos hk]
 rw [ha]
 exact wrapG_ok (by omega) (by omega) (by
  refine chkL_of fun m hm=>?_
  rw [List.mem_singleton.1 hm]
  exact chkN_prim (by decide) (by decide) (by omega)) (by simp [qAu,qCg]) (by
  have b:=wrL_cons_length 4 (qAw 4 key.toNat) [] []
  have h0:(wrL ([]:List Node)).length=0:=rfl
  simp only [octB_length] at b
  omega)
def exM:List UInt8:=[50,48,48,54,50,48]
def zM:Zon:=⟨3,[80],[85,84,79],[69,82,73,75,83,83,79,78],[65,78,78,65,32,77,65,82,73,65],[76,48,48,48,48,65,66],[85,84,79],[55,52,48,56,49,50],[70],exM,[],[]⟩
theorem zM_len:vJe zM:=by unfold vJe;decide
theorem zM_valid:validZ zM=0:=by decide +kernel
theorem zM_lines:(qCp zM).length=2∧(qCp zM).flatten.length=88:=by decide +kernel
def vAu (d:List UInt8):Tpl:=⟨1,0,40010,73048,1,50,d⟩
def vAs (d:List UInt8):Tpl:=⟨2,1,40010,73048,1,50,d⟩
def qEs (k:Int):List Inf:=[⟨2,1,0,0,0⟩,⟨3,1,0,0,0⟩,⟨4,1,0,k,1⟩,⟨5,1,0,0,0⟩,⟨6,1,0,0,0⟩]
def inf2:List Inf:=[⟨2,1,0,0,0⟩,⟨3,1,0,0,0⟩]
theorem infDoc_valid {k:Int} (h:qDj k=true):validI (qEs k)=0:=by
 simp [validI,qEs,vBz,infE,vLp,vLw,vKc,h]
theorem vAo:validI inf2=0:=by decide
theorem faceM_valid {d:List UInt8} (h:d.length=16):qDu (vAu d)=0:=by
 simp [qDu,vAu,qNq,qMl,h]
theorem fingM_valid {d:List UInt8} (h:d.length=16):qDu (vAs d)=0:=by
 simp [qDu,vAs,qNq,qMl,h]
theorem zM_open:(qPb zM).2=0∧GrpOk (qPb zM).1 1:=vCa zM_valid (by rw [zM_lines.2];omega)
theorem faceM_open {d:List UInt8} (h:d.length=16):(vBd 2 [vAu d]).2=0∧GrpOk (vBd 2 [vAu d]).1 2 :=
 qZi (by omega) (fun t ht=>by rw [List.mem_singleton.1 ht];exact ⟨faceM_valid h,rfl⟩) (by simp) (by simp)
theorem fingM_open {d:List UInt8} (h:d.length=16):(vBd 3 [vAs d]).2=0∧GrpOk (vBd 3 [vAs d]).1 3 :=
 qZi (by omega) (fun t ht=>by rw [List.mem_singleton.1 ht];exact ⟨fingM_valid h,rfl⟩) (by simp) (by simp)
theorem infDoc_open {k:Int} (h:qDj k=true):(infosF (qEs k)).2=0∧GrpOk (infosF (qEs k)).1 14:=vHe (infDoc_valid h) (by simp [qEs])
theorem comM:(qLk [1,2,3,14,15]).2=0∧(qLk [1,2,3,14,15]).1.length≤4096:=by decide +kernel
open Go Go.Proofs
def qVn (x n:Int):Int:=if n < 1 then 0 else x % n
theorem vCi {x n:Int} (h:1≤n) : -n < x.tmod n∧x.tmod n < n:=by
 have h1:=Int.tmod_lt_of_pos x (b:=n) (by omega)
 have h2:(-x).tmod n < n:=Int.tmod_lt_of_pos (-x) (b:=n) (by omega)
 rw [Int.neg_tmod] at h2
 omega
theorem vGx {x n:Int} (h:1≤n):(x.tmod n+n).tmod n=x % n:=by
 have hb:=vCi (x:=x) h
 rw [Int.tmod_eq_emod_of_nonneg (by omega),Int.add_emod_right]
 have h2:=Int.mul_tdiv_add_tmod x n
 have h3:x % n=(x.tmod n+n*x.tdiv n) % n:=by rw [Int.add_comm,h2]
 rw [h3,Int.add_mul_emod_self_left]
theorem modP_range {x n:Int} (h:1≤n):0≤qVn x n∧qVn x n < n:=by
 unfold qVn
 rw [if_neg (by omega)]
 exact ⟨Int.emod_nonneg _ (by omega),Int.emod_lt_of_pos _ (by omega)⟩
set_option maxRecDepth 100000 in
theorem qNb (x n:Int) (hn:n≤4611686018427387904):Spec Tryz.prog 10 [.I x,.I n] [] (fun r h'=>r=.I (qVn x n)∧h'=[]):=by
 refine qAb hT Tryz.func10 rfl rfl rfl rfl ?_
 intro E hE
 refine ww ?_
 refine qAa rfl (fun h1=>?_) (fun h1=>?_)
 ·have h1':n < 1:=by simpa using h1
  have hm:qVn x n=0:=by unfold qVn;rw [if_pos h1']
  rw [hm]
  refine ww ?_
  exact qAg rfl (.refl _) rfl rfl rfl rfl ⟨rfl,rfl⟩
 ·have h1':¬ n < 1:=by simpa using h1
  have hne:n≠0:=by omega
  have hb:=vCi (x:=x) (n:=n) (by omega)
  have hw:IntKind.i64.wrap (x.tmod n+n)=x.tmod n+n:=qAe (by omega)
  have hm:(IntKind.i64.wrap (x.tmod n+n)).tmod n=qVn x n:=by rw [hw,vGx (by omega)];unfold qVn;rw [if_neg h1']
  rw [← hm]
  refine ww ?_
  exact qAg rfl (.refl _) rfl rfl rfl rfl ⟨rfl,rfl⟩
theorem numsD_length (k:IntKind) (l:List Int):(qHb k l).length=l.length:=by simp [qHb]
set_option maxRecDepth 100000 in
theorem vBm (l:List Int):Spec Tryz.prog 6 [.d (.sl 1 (qHb .i64 l))] [] (fun r h'=>r=.d (.bool (decide (l.length≤80)))∧h'=[]):=by
 refine qAb hT Tryz.func6 rfl rfl rfl rfl ?_
 intro E hE
 have hl:=numsD_length .i64 l
 generalize qHb .i64 l=es at hl
 refine ww ?_
 refine qAg rfl (.refl _) rfl rfl rfl rfl ⟨?_,rfl⟩
 rw [hl]
 refine congrArg (fun b=>AV.d (.bool b)) (decide_eq_decide.2 (by omega))
def dice (l:List Int) (at_:Nat):List AV:=[.d (.sl 1 (qHb .i64 l)),.d (.int .i64 (at_:Int))]
set_option maxRecDepth 100000 in
theorem qUr (l:List Int) (hl:l.length≤1000000):Spec Tryz.prog 19 [.d (.sl 1 (qHb .i64 l))] [.room] (fun r h'=>r=.ptr 0 0∧h'=[.row (dice l 0)]):=by
 refine qAb hT Tryz.func19 rfl rfl rfl rfl ?_
 intro E hE
 have hll:=numsD_length .i64 l
 unfold dice
 generalize qHb .i64 l=es at hll
 refine ww ?_
 refine qAd (qCz (es:=[]) hT rfl rfl rfl (.inl rfl) rfl (by show (([]:List (List Dat)).length+es.length)*(8+1)≤140737488355328;simp;omega)) rfl ?_
 refine qHq hT rfl rfl (by first | exact True.intro | exact (fun hh=>hh) | omega | assumption | (intro hh;rw [hh];rfl) | (intro hh;simp [gval,hh];done) | (simp;omega)) ?_
 refine qAd (boxAt_ok (i0:=0) rfl rfl rfl) rfl ?_
 refine ww ?_
 exact qAg rfl (.refl _) rfl rfl rfl rfl ⟨rfl,rfl⟩
def qPf (l:List Int) (at_:Nat) (n:Int):Int:=match l[at_]? with
 | none=>0
 | some x=>qVn x n
def qNo (l:List Int) (at_:Nat):Nat:=if at_ < l.length then at_+1 else at_
theorem nextA_le {l:List Int} {a:Nat} (h:a≤l.length):qNo l a≤l.length:=by unfold qNo;split <;> omega
theorem nextV_range {l:List Int} {a:Nat} {n:Int} (h:1≤n):0≤qPf l a n∧qPf l a n < n:=by
 unfold qPf
 split
 ·omega
 ·exact modP_range h
set_option maxRecDepth 100000 in
theorem qOq (l:List Int) (a:Nat) (n:Int) (hn:n≤4611686018427387904) (hl:l.length≤1000000) (ha:a≤l.length) :
  Spec Tryz.prog 20 [.ptr 0 0,.I n] [.row (dice l a)] (fun r h'=>r=.I (qPf l a n)∧h'=[.row (dice l (qNo l a))]):=by
 refine qAb hT Tryz.func20 rfl rfl rfl rfl ?_
 intro E hE
 have hll:=numsD_length .i64 l
 unfold dice
 refine ww ?_
 refine qAa rfl (fun h1=>?_) (fun h1=>?_)
 ·have h1':¬ a < l.length:=by rw [hll] at h1;simp at h1;omega
  have hget:l[a]?=none:=List.getElem?_eq_none (by omega)
  have hv:qPf l a n=0:=by simp [qPf,hget]
  have hv2:qNo l a=a:=by simp [qNo,h1']
  rw [hv,hv2]
  refine ww ?_
  exact qAg rfl (.refl _) rfl rfl rfl rfl ⟨rfl,rfl⟩
 ·have h1':a < l.length:=by rw [hll] at h1;simp at h1;omega
  have hw1:IntKind.i64.wrap ((a:Int)+1)=((a+1:Nat):Int):=by rw [qAe (by omega)];simp
  have hw2:IntKind.i64.wrap (((a+1:Nat):Int)-1)=(a:Int):=by rw [qAe (by omega)];omega
  have h0:0≤IntKind.i64.wrap (IntKind.i64.wrap ((a:Int)+1)-1):=by rw [hw1,hw2];omega
  have hel:(qHb .i64 l)[(IntKind.i64.wrap (IntKind.i64.wrap ((a:Int)+1)-1)).toNat]?=some [.int .i64 l[a]]:=by rw [hw1,hw2];simp [qHb,h1']
  have hv:qPf l a n=qVn l[a] n:=by simp [qPf,h1']
  have hm:=qNb l[a] n hn
  rw [← hv] at hm
  generalize l[a]=x at hel hm
  refine ww ?_
  refine qBc (qAc (indexAddr_ok hT rfl rfl rfl rfl h0 hel)) rfl rfl ?_
  refine ww ?_
  refine qBc (qBl rfl rfl hm rfl rfl rfl) rfl rfl ?_
  refine ww ?_
  refine qAg rfl (.refl _) rfl rfl rfl rfl ⟨rfl,?_⟩
  rw [hw1]
  simp [qNo,h1']
def vIr (n:Int):Int:=1+qVn n 1073741788
theorem qUq (n:Int):Spec Tryz.prog 80 [.I n] [] (fun r h'=>r=.tup [.I (vIr n),.I (qVm (vIr n))]∧h'=[]):=by
 have hm:=qNb n 1073741788 (by omega)
 have hr:=modP_range (x:=n) (n:=1073741788) (by omega)
 have hw:IntKind.i64.wrap (1+qVn n 1073741788)=vIr n:=by rw [qAe (by omega)];rfl
 have hp:=qUv (vIr n)
 refine qAb hT Tryz.func80 rfl rfl rfl rfl ?_;intro E hE
 refine ww ?_
 refine wwc hm ?_
 refine wws ?_
 rw [hw]
 refine ww ?_
 refine wwc hp ?_
 refine ww ?_
 exact wwr
def stsM:List (List Dat):=[[.str [85,84,79]],[.str [68]],[.str [88,79,77]],[.str [90,90,90]]]
def stN (n:Int):List UInt8:=[[85,84,79],[68],[88,79,77],[90,90,90]].getD (qVn n 4).toNat []
theorem stsM_at (n:Int):stsM[(qVn n 4).toNat]?=some [.str (stN n)]:=by
 have hr:=modP_range (x:=n) (n:=4) (by omega)
 unfold stN
 generalize hk:(qVn n 4).toNat=k
 have hk4:k < 4:=by omega
 match k,hk4 with
 | 0,_=>rfl
 | 1,_=>rfl
 | 2,_=>rfl
 | 3,_=>rfl
theorem qXg (n:Int):Spec Tryz.prog 24 [.I n] [] (fun r h'=>r=.d (.str (stN n))∧h'=[]):=by
 have hm:=qNb n 4 (by omega)
 have hr:=modP_range (x:=n) (n:=4) (by omega)
 have hat:=stsM_at n
 unfold stsM at hat
 refine qAb hT Tryz.func24 rfl rfl rfl rfl ?_;intro E hE
 refine ww ?_
 refine wwc hm ?_
 refine ww ?_
 refine qAd (qAc (indexAddr_ok hT rfl rfl rfl rfl hr.1 hat)) rfl ?_
 refine ww ?_
 exact wwr
theorem strAt_rng (s:List UInt8) (i:Nat):0≤qDs s (i:Int)∧qDs s (i:Int) < 256:=by
 rw [strAt_nat]
 unfold bI
 have:=(s.getD i 0).toNat_lt
 omega
def scN (s:List UInt8):Nat→Int
 | 0=>7
 | i+1=>(scN s i*131+qDs s (i:Int)) % 100003
theorem scN_rng (s:List UInt8):∀ i,0≤scN s i∧scN s i < 100003
 | 0=>by unfold scN;omega
 | i+1=>by unfold scN;omega
theorem secretOf_spec (s:List UInt8) (hs:s.length≤1000000):Spec Tryz.prog 81 [.d (.str s)] [] (fun r h'=>r=.I (scN s s.length+1)∧h'=[]):=by
 refine qAb hT Tryz.func81 rfl rfl rfl rfl ?_;intro E hE
 refine ww ?_
 refine qAq (ι:=Nat) (fun i=>[(0,.d (.str s)),(3,.I (scN s i)),(4,.I (i:Int))]) (fun _=>[]) (fun i=>i≤s.length) (fun i=>s.length-i) 0 (Nat.zero_le _)
  yf (HLe.refl _) ?_
 intro i hi
 have hb:=strAt_rng s i
 have hr:=scN_rng s i
 have hst:(IntKind.i64.wrap (IntKind.i64.wrap (scN s i*131)+IntKind.i64.wrap (qDs s (i:Int)))).tmod 100003=scN s (i+1):=by
  rw [qAe (n:=scN s i*131) (by omega),qAe (n:=qDs s (i:Int)) (by omega),qAe (by omega),Int.tmod_eq_emod_of_nonneg (by omega)]
  rfl
 refine ww ?_
 refine qAa rfl (fun c1=>?_) (fun c1=>?_)
 ·have c1':i < s.length:=by simp at c1;omega
  refine ww ?_
  exact ⟨i+1,c1',by omega,⟨.refl _,.int hst,.int (by rw [qAe (by omega)];omega),trivial⟩,HLe.refl _⟩
 have:i=s.length:=by simp at c1;omega
 subst this
 refine ww ?_
 refine rq ⟨rfl,rfl⟩ rfl (.int ?_)
 rw [qAe (by omega)]
theorem qVa (s:List UInt8) (hs:s.length≤1000000):Spec Tryz.prog 27 [.d (.str s)] [] (fun r h'=>r=.I (qVm (vIr (scN s s.length)))∧h'=[]):=by
 have h1:=secretOf_spec s hs
 have hr:=scN_rng s s.length
 have hw:IntKind.i64.wrap (scN s s.length+1-1)=scN s s.length:=by rw [qAe (by omega)];omega
 have h2:=qUq (scN s s.length)
 refine qAb hT Tryz.func27 rfl rfl rfl rfl ?_;intro E hE
 refine ww ?_
 refine wwc h1 ?_
 refine wws ?_
 rw [hw]
 refine wwc h2 ?_
 refine ww ?_
 exact wwr
theorem qXt (s:List UInt8) (hs:1≤s.length∧s.length≤20) (hall:∀ j,j < s.length→(65≤qDs s (j:Int)∧qDs s (j:Int)≤90)∨(48≤qDs s (j:Int)∧qDs s (j:Int)≤57)) :
  Spec Tryz.prog 29 [.d (.str s)] [] (fun r h'=>r=.d (.bool true)∧h'=[]):=by
 refine qAb hT Tryz.func29 rfl rfl rfl rfl ?_;intro E hE
 refine ww ?_
 refine qAa rfl (fun c1=>?_) (fun c1=>?_)
 ·exact absurd c1 (by simp;omega)
 refine ww ?_
 refine qAq (ι:=Nat) (fun i=>[(0,.d (.str s)),(13,.I (s.length:Int)),(14,.I (i:Int))]) (fun _=>[]) (fun i=>i≤s.length) (fun i=>s.length-i) 0 (Nat.zero_le _)
  yf (HLe.refl _) ?_
 intro i hi
 refine ww ?_
 refine qAa rfl (fun c2=>?_) (fun c2=>?_)
 ·have c2':i < s.length:=by simp at c2;omega
  have hc:=hall i c2'
  refine ww ?_
  refine qAa rfl (fun c3=>?_) (fun c3=>?_)
  ·refine absurd c3 ?_
   simp only [Bool.and_eq_true,Bool.or_eq_true,decide_eq_true_eq]
   omega
  refine ww ?_
  exact ⟨i+1,c2',by omega,⟨.refl _,.refl _,.int (by rw [qAe (by omega)];omega),trivial⟩,HLe.refl _⟩
 refine ww ?_
 exact wwr
theorem Next0 (n:Int) (hn:n≤4611686018427387904):Spec Tryz.prog 20 [.ptr 0 0,.I n] [.row (dice [] 0)] (fun r h'=>r=.I 0∧h'=[.row (dice [] 0)]):=qOq [] 0 n hn (by simp) (by simp)
theorem Two0:Spec Tryz.prog 26 [.I 0] [] (fun r h'=>r=.d (.str [48,48])∧h'=[]):=by
 have hm:=qNb 0 100 (by omega)
 rw [show qVn 0 100=0 from rfl] at hm
 refine qAb hT Tryz.func26 rfl rfl rfl rfl ?_;intro E hE
 refine ww ?_
 refine wwc hm ?_
 refine ww ?_
 refine qHq hT rfl rfl (by intro e he;simp at he;rcases he with rfl | rfl <;> exact ⟨_,rfl⟩) ?_
 refine ww ?_
 refine rq ⟨rfl,rfl⟩ rfl (.refl _)
def qWl:List AV:=[.d (.str []),.d (.str []),.d (.str []),.d (.str []),.d (.str []),.d (.str []),.d (.int .i64 0),.sl 1 [] .full,.d (.bool false),.sl 5 [] .full,.d (.int .i64 0),.sl 1 [] .full]
def qJv (ex:Int) (pr:AV) (ch:Bool) (tr:AV) (td:Int):List AV:=[.d (.str [76,48,48,48,48,65,66]),.d (.str [69,82,73,75,83,83,79,78]),.d (.str [65,78,78,65,32,77,65,82,73,65]),.d (.str [85,84,79]),.d (.str [55,52,48,56,49,50]),.d (.str [70]),.d (.int .i64 ex),pr,.d (.bool ch),tr,.d (.int .i64 td),.sl 1 [] .full]
def prC:Nat→AV
 | 2=>.sl 1 [] .full
 | 3=>.sl 1 [[.int .i64 2]] (.right 3)
 | 4=>.sl 1 [[.int .i64 2],[.int .i64 3]] (.right 3)
 | 5=>.sl 1 [[.int .i64 2],[.int .i64 3],[.int .i64 4]] (.right 3)
 | 6=>.sl 1 [[.int .i64 2],[.int .i64 3],[.int .i64 4],[.int .i64 5]] (.right 3)
 | _=>.sl 1 [[.int .i64 2],[.int .i64 3],[.int .i64 4],[.int .i64 5],[.int .i64 6]] (.right 3)
def prR:Nat→AObj
 | 2=>.room
 | 3=>.right 1 1
 | 4=>.right 1 2
 | 5=>.right 1 3
 | 6=>.right 1 4
 | _=>.right 1 5
def qGj:List (List Dat):=[[.int .i64 2],[.int .i64 3],[.int .i64 4],[.int .i64 5],[.int .i64 6]]
def qDk (h:Int):List (List Dat):=[[.str [82,79,79,84,49],.int .i64 h,.int .i64 15,.int .i64 0,.int .i64 73048]]
def qRl:Int:=qVm (vIr (scN [82,79,79,84,49] 5))
theorem Order0:Spec Tryz.prog 9 [.nils] [] (fun r h'=>r=.agg (qJv 39500 (.d (.sl 1 qGj)) false (.d (.sl 5 (qDk qRl))) 30000)∧h'=[]):=by
 have hh:Spec Tryz.prog 27 [.d (.str [82,79,79,84,49])] [] (fun r h'=>r=.I qRl∧h'=[]):=qVa [82,79,79,84,49] (by simp)
 generalize qRl=hr at hh ⊢
 have hroll:=qUr [] (by simp)
 have hst:=qXg 0
 rw [show stN 0=[85,84,79] from rfl] at hst
 refine qAb hT Tryz.func9 rfl rfl rfl rfl ?_;intro E hE
 refine qAo (qAo (qAo (qAo ?_)))
 refine qAl (qAf ?_)
 refine qAd (allocAt_ok (i0:=1) (i:=⟨.struct [(0,1,false),(1,1,false),(2,1,false),(3,1,false),(4,1,false),(5,1,false),(6,1,false),(7,1,false),(8,1,false),(9,2,true),(11,1,false)],12,192,qWl⟩) hT rfl rfl rfl) rfl ?_
 refine qDq ?_
 refine qAp (l:=[(0,.d (.sl 1 (qHb .i64 []))),(2,.ptr 1 0)]) (h':=[.room,.row qWl,.room,.room]) ⟨.nils,.refl _,trivial⟩ (HLe.refl _) ?_
 refine qAl (qAf ?_)
 refine wk hT rfl rfl ?_
 refine qAd (qBs (v:=.ptr 0 0) (H':=[.row (dice [] 0),.row qWl,.room,.room]) rfl rfl hroll [0] (by decide) rfl rfl rfl rfl rfl rfl) rfl ?_
 refine wws ?_
 refine qAp (l:=[(2,.ptr 1 0),(3,.ptr 0 0)]) (h':=[.row (dice [] 0),.row qWl,.room,.room]) yf (HLe.refl _) ?_
 refine qAl (qBh (fun i=>bif [1,5,11,16,20,24,30,34,39].contains i then [0] else bif Nat.beq i 42||Nat.beq i 43 then [2] else []) (fun i=>bif [1,5,11,16,20,24,30,34,39].contains i then [0] else bif Nat.beq i 42||Nat.beq i 43 then [2] else []) mixed (by kernel_rfl) ?_)
 refine wwg ?_
 refine qAk (v:=.I 0) (os:=[.row (dice [] 0)]) (fun k hk1 hk2=>qBs rfl rfl (Next0 100 (by omega)) [0] (by decide) (by show [k[0]?]=_;rw [hk2 0 (by decide)];rfl) rfl rfl rfl rfl rfl) rfl ?_
 refine wwg ?_
 refine wwdc Two0 ?_
 refine qBt hT (fun _=>rfl) rfl rfl (by decide) ?_
 refine wwg ?_
 refine qAk (v:=.I 0) (os:=[.row (dice [] 0)]) (fun k hk1 hk2=>qBs rfl rfl (Next0 100 (by omega)) [0] (by decide) (by show [k[0]?]=_;rw [hk2 0 (by decide)];rfl) rfl rfl rfl rfl rfl) rfl ?_
 refine wwg ?_
 refine wwdc Two0 ?_
 refine qBt hT (fun _=>rfl) rfl rfl (by decide) ?_
 refine qBt hT (fun _=>rfl) rfl rfl (by decide) ?_
 refine qAk (os:=[]) (fun k hk1 hk2=>buildSl_ok hT rfl rfl) rfl ?_
 refine wwg ?_
 refine qAk (v:=.I 0) (os:=[.row (dice [] 0)]) (fun k hk1 hk2=>qBs rfl rfl (Next0 3 (by omega)) [0] (by decide) (by show [k[0]?]=_;rw [hk2 0 (by decide)];rfl) rfl rfl rfl rfl rfl) rfl ?_
 refine qAk (os:=[]) (fun k hk1 hk2=>qAc (indexAddr_ok hT rfl rfl rfl rfl (by omega) rfl)) rfl ?_
 refine wwg ?_
 refine qAk (os:=[]) (fun k hk1 hk2=>buildSl_ok hT rfl rfl) rfl ?_
 refine wwg ?_
 refine qAk (v:=.I 0) (os:=[.row (dice [] 0)]) (fun k hk1 hk2=>qBs rfl rfl (Next0 3 (by omega)) [0] (by decide) (by show [k[0]?]=_;rw [hk2 0 (by decide)];rfl) rfl rfl rfl rfl rfl) rfl ?_
 refine qAk (os:=[]) (fun k hk1 hk2=>qAc (indexAddr_ok hT rfl rfl rfl rfl (by omega) rfl)) rfl ?_
 refine wwg ?_
 refine qAk (v:=.I 0) (os:=[.row (dice [] 0)]) (fun k hk1 hk2=>qBs rfl rfl (Next0 3 (by omega)) [0] (by decide) (by show [k[0]?]=_;rw [hk2 0 (by decide)];rfl) rfl rfl rfl rfl rfl) rfl ?_
 refine wwdc hst ?_
 refine wwg ?_
 refine qAk (os:=[]) (fun k hk1 hk2=>buildSl_ok hT rfl rfl) rfl ?_
 refine wwg ?_
 refine qAk (v:=.I 0) (os:=[.row (dice [] 0)]) (fun k hk1 hk2=>qBs rfl rfl (Next0 2 (by omega)) [0] (by decide) (by show [k[0]?]=_;rw [hk2 0 (by decide)];rfl) rfl rfl rfl rfl rfl) rfl ?_
 refine qAk (os:=[]) (fun k hk1 hk2=>qAc (indexAddr_ok hT rfl rfl rfl rfl (by omega) rfl)) rfl ?_
 refine wwg ?_
 refine qBt hT (fun _=>rfl) rfl rfl (by decide) ?_
 refine wwg ?_
 refine qAk (os:=[]) (fun k hk1 hk2=>buildSl_ok hT rfl rfl) rfl ?_
 refine wwg ?_
 refine qAk (v:=.I 0) (os:=[.row (dice [] 0)]) (fun k hk1 hk2=>qBs rfl rfl (Next0 3 (by omega)) [0] (by decide) (by show [k[0]?]=_;rw [hk2 0 (by decide)];rfl) rfl rfl rfl rfl rfl) rfl ?_
 refine qAk (os:=[]) (fun k hk1 hk2=>qAc (indexAddr_ok hT rfl rfl rfl rfl (by omega) rfl)) rfl ?_
 refine wwg ?_
 refine qAk (v:=.I 0) (os:=[.row (dice [] 0)]) (fun k hk1 hk2=>qBs rfl rfl (Next0 8 (by omega)) [0] (by decide) (by show [k[0]?]=_;rw [hk2 0 (by decide)];rfl) rfl rfl rfl rfl rfl) rfl ?_
 refine wwg ?_
 refine qAk (v:=.I 0) (os:=[.row (dice [] 0)]) (fun k hk1 hk2=>qBs rfl rfl (Next0 4 (by omega)) [0] (by decide) (by show [k[0]?]=_;rw [hk2 0 (by decide)];rfl) rfl rfl rfl rfl rfl) rfl ?_
 refine wwg ?_
 refine qAk (v:=.ptr 2 0) (os:=[.row qWl]) (fun k hk1 hk2=>allocAt_ok (i0:=2) (i:=⟨.struct [(0,1,false),(1,1,false),(2,1,false),(3,1,false),(4,1,false),(5,1,false),(6,1,false),(7,1,false),(8,1,false),(9,2,true),(11,1,false)],12,192,qWl⟩) hT rfl rfl ((hk2 2 List.mem_cons_self).trans rfl)) rfl ?_
 refine qAk (v:=.any) (os:=[.row (qJv 39500 (.sl 1 [] .full) false (.sl 5 [] .full) 0)]) (fun k hk1 hk2=>qBq (i:=2) (off:=0) hT rfl rfl ((hk2 2 List.mem_cons_self).trans rfl) rfl) rfl ?_
 refine wwg ?_
 refine qAp (l:=[(2,.ptr 1 0),(3,.ptr 0 0),(4,.ptr 2 0)]) (h':=[.row (dice [] 0),.row qWl,.row (qJv 39500 (.sl 1 [] .full) false (.sl 5 [] .full) 0),.room]) yf (HLe.refl _) ?_
 refine ww ?_
 refine qAq (ι:=Nat) (fun i=>[(2,.ptr 1 0),(3,.ptr 0 0),(4,.ptr 2 0),(5,.I (i:Int))]) (fun i=>[.row (dice [] 0),.row qWl,.row (qJv 39500 (prC i) false (.sl 5 [] .full) 0),prR i]) (fun i=>2≤i∧i≤7) (fun i=>7-i) 2 (by omega)
  yf (HLe.refl _) ?_
 intro i hi
 by_cases h7:i=7
 ·subst h7
  refine ww ?_
  refine qAa rfl (fun c1=>absurd c1 (by decide)) (fun c1=>?_)
  refine ww ?_
  refine qAd (qBs (v:=.I 0) (H':=[.row (dice [] 0),.row qWl,.row (qJv 39500 (prC 7) false (.sl 5 [] .full) 0),prR 7]) rfl rfl (Next0 4 (by omega)) [0] (by decide) rfl rfl rfl rfl rfl rfl) rfl ?_
  refine ww ?_
  refine qAa rfl (fun c=>absurd c (by decide)) (fun c=>?_)
  refine ww ?_
  refine qAd (qBs (v:=.I 0) (H':=[.row (dice [] 0),.row qWl,.row (qJv 39500 (prC 7) false (.sl 5 [] .full) 0),prR 7]) rfl rfl (Next0 8 (by omega)) [0] (by decide) rfl rfl rfl rfl rfl rfl) rfl ?_
  refine ww ?_
  refine qAa rfl (fun c=>absurd c (by decide)) (fun c=>?_)
  refine ww ?_
  refine wwc hh ?_
  refine ww ?_
  exact wwr
 rcases (by omega:i=2∨i=3∨i=4∨i=5∨i=6) with rfl | rfl | rfl | rfl | rfl
 ·refine ww ?_
  refine qAa rfl (fun c1=>?_) (fun c1=>absurd c1 (by decide))
  refine ww ?_
  refine qAd (qBs (v:=.I 0) (H':=[.row (dice [] 0),.row qWl,.row (qJv 39500 (prC 2) false (.sl 5 [] .full) 0),prR 2]) rfl rfl (Next0 4 (by omega)) [0] (by decide) rfl rfl rfl rfl rfl rfl) rfl ?_
  refine ww ?_
  refine qAa rfl (fun c2=>?_) (fun c2=>absurd c2 (by decide))
  refine ww ?_
  refine qAd (qDm (i:=3) (es2:=[[.int .i64 2]]) hT rfl rfl rfl (.inl rfl) (by simp) rfl rfl (by decide)) rfl ?_
  refine ww ?_
  exact ⟨3,by omega,by omega,yf,HLe.refl _⟩
 ·refine ww ?_
  refine qAa rfl (fun c1=>?_) (fun c1=>absurd c1 (by decide))
  refine ww ?_
  refine qAd (qBs (v:=.I 0) (H':=[.row (dice [] 0),.row qWl,.row (qJv 39500 (prC 3) false (.sl 5 [] .full) 0),prR 3]) rfl rfl (Next0 4 (by omega)) [0] (by decide) rfl rfl rfl rfl rfl rfl) rfl ?_
  refine ww ?_
  refine qAa rfl (fun c2=>?_) (fun c2=>absurd c2 (by decide))
  refine ww ?_
  refine qAd (qCx (i:=3) (es2:=[[.int .i64 3]]) hT rfl rfl rfl rfl rfl rfl (by decide)) rfl ?_
  refine ww ?_
  exact ⟨4,by omega,by omega,yf,HLe.refl _⟩
 ·refine ww ?_
  refine qAa rfl (fun c1=>?_) (fun c1=>absurd c1 (by decide))
  refine ww ?_
  refine qAd (qBs (v:=.I 0) (H':=[.row (dice [] 0),.row qWl,.row (qJv 39500 (prC 4) false (.sl 5 [] .full) 0),prR 4]) rfl rfl (Next0 4 (by omega)) [0] (by decide) rfl rfl rfl rfl rfl rfl) rfl ?_
  refine ww ?_
  refine qAa rfl (fun c2=>?_) (fun c2=>absurd c2 (by decide))
  refine ww ?_
  refine qAd (qCx (i:=3) (es2:=[[.int .i64 4]]) hT rfl rfl rfl rfl rfl rfl (by decide)) rfl ?_
  refine ww ?_
  exact ⟨5,by omega,by omega,yf,HLe.refl _⟩
 ·refine ww ?_
  refine qAa rfl (fun c1=>?_) (fun c1=>absurd c1 (by decide))
  refine ww ?_
  refine qAd (qBs (v:=.I 0) (H':=[.row (dice [] 0),.row qWl,.row (qJv 39500 (prC 5) false (.sl 5 [] .full) 0),prR 5]) rfl rfl (Next0 4 (by omega)) [0] (by decide) rfl rfl rfl rfl rfl rfl) rfl ?_
  refine ww ?_
  refine qAa rfl (fun c2=>?_) (fun c2=>absurd c2 (by decide))
  refine ww ?_
  refine qAd (qCx (i:=3) (es2:=[[.int .i64 5]]) hT rfl rfl rfl rfl rfl rfl (by decide)) rfl ?_
  refine ww ?_
  exact ⟨6,by omega,by omega,yf,HLe.refl _⟩
 ·refine ww ?_
  refine qAa rfl (fun c1=>?_) (fun c1=>absurd c1 (by decide))
  refine ww ?_
  refine qAd (qBs (v:=.I 0) (H':=[.row (dice [] 0),.row qWl,.row (qJv 39500 (prC 6) false (.sl 5 [] .full) 0),prR 6]) rfl rfl (Next0 4 (by omega)) [0] (by decide) rfl rfl rfl rfl rfl rfl) rfl ?_
  refine ww ?_
  refine qAa rfl (fun c2=>?_) (fun c2=>absurd c2 (by decide))
  refine ww ?_
  refine qAd (qCx (i:=3) (es2:=[[.int .i64 6]]) hT rfl rfl rfl rfl rfl rfl (by decide)) rfl ?_
  refine ww ?_
  exact ⟨7,by omega,by omega,yf,HLe.refl _⟩
theorem Good0:Spec Tryz.prog 23 [.nils] [] (fun r h'=>r=.agg (qJv 44000 (.d (.sl 1 qGj)) true (.d (.sl 5 (qDk qRl))) 30000)∧h'=[]):=by
 have ho:=Order0
 generalize qRl=hr at ho ⊢
 refine qAb hT Tryz.func23 rfl rfl rfl rfl ?_;intro E hE
 refine ww ?_
 refine wwc ho ?_
 refine ww ?_
 exact wwr
theorem vIe:Spec Tryz.prog 103 [] [] (fun r h'=>r=.sl 1 (qAj [160,0,0,2,71,16,1]) .full∧h'=[]):=by
 refine qAb hT Tryz.func103 rfl rfl rfl rfl ?_;intro E hE
 refine ww ?_
 exact wwr
theorem hasI_spec (l:List Int) (v:Int) (hl:l.length≤1000000):Spec Tryz.prog 90 [.d (.sl 1 (qOc l)),.I v] [] (fun r h'=>r=.d (.bool (l.any fun x=>v == x))∧h'=[]):=by
 have h:=qPn l v hl
 generalize (l.any fun x=>v == x)=b at h ⊢
 refine qAb hT Tryz.func90 rfl rfl rfl rfl ?_;intro E hE
 refine ww ?_
 refine wwc h ?_
 refine ww ?_
 exact wwr
theorem defects0 (ex:Int) (pr:List (List Dat)) (ch:Bool) (tr:List (List Dat)) (td n:Int):Spec Tryz.prog 28 [.agg (qJv ex (.d (.sl 1 pr)) ch (.d (.sl 5 tr)) td),.I n] [] (fun r h'=>r=.nils∧h'=[]):=by
 refine qAb hT Tryz.func28 rfl rfl rfl rfl ?_;intro E hE
 refine ww ?_
 refine qAq (ι:=Nat) (fun i=>[(5,.nils),(11,.I 0),(12,.I 0)]) (fun i=>[.row (qJv ex (.d (.sl 1 pr)) ch (.d (.sl 5 tr)) td)]) (fun i=>True) (fun i=>0) 0 trivial
  yf (HLe.refl _) ?_
 intro i hi
 refine ww ?_
 refine qAa rfl (fun c=>absurd c (by decide)) (fun c=>?_)
 refine ww ?_
 exact wwr
def dM:Nat→Int
 | 0=>172
 | 1=>141
 | 2=>112
 | 3=>81
 | 4=>51
 | _=>20
theorem Parts44:Spec Tryz.prog 162 [.I 44000] [] (fun r h'=>r=.tup [.I 2020,.I 6,.I 20,.I 0]∧h'=[]):=by
 have hv:=qHk 44000
 rw [show qMl 44000=true by decide] at hv
 have hb1:=beforeP_spec 121 (by omega)
 rw [show (1900+((121:Nat):Int))=2021 from rfl,show qCv 121=44195 by decide +kernel] at hb1
 have hb0:=beforeP_spec 120 (by omega)
 rw [show (1900+((120:Nat):Int))=2020 from rfl,show qCv 120=43829 by decide +kernel] at hb0
 have d1:=daysP_spec 2020 1 (by omega) (by omega)
 rw [show qGr 2020 1=31 by decide] at d1
 have d2:=daysP_spec 2020 2 (by omega) (by omega)
 rw [show qGr 2020 2=29 by decide] at d2
 have d3:=daysP_spec 2020 3 (by omega) (by omega)
 rw [show qGr 2020 3=31 by decide] at d3
 have d4:=daysP_spec 2020 4 (by omega) (by omega)
 rw [show qGr 2020 4=30 by decide] at d4
 have d5:=daysP_spec 2020 5 (by omega) (by omega)
 rw [show qGr 2020 5=31 by decide] at d5
 have d6:=daysP_spec 2020 6 (by omega) (by omega)
 rw [show qGr 2020 6=30 by decide] at d6
 refine qAb hT Tryz.func162 rfl rfl rfl rfl ?_;intro E hE
 refine ww ?_
 refine wwc hv ?_
 refine ww ?_
 refine qAa rfl (fun c1=>?_) (fun c1=>?_)
 ·exact absurd c1 (by simp)
 refine ww ?_
 refine qAq (ι:=Nat) (fun i=>[(0,.I 44000),(2,.I 2020),(3,.I 1)]) (fun i=>[]) (fun i=>True) (fun i=>0) 0 trivial
  yf (HLe.refl _) ?_
 intro i hi
 refine ww ?_
 refine wwgc hb1 ?_
 refine ww ?_
 refine qAa rfl (fun c2=>?_) (fun c2=>?_)
 ·exact absurd c2 (by simp)
 refine ww ?_
 refine wwc hb0 ?_
 refine ww ?_
 refine qAq (ι:=Nat) (fun i=>[(2,.I 2020),(3,.I ((i:Int)+1)),(4,.I (dM i))]) (fun i=>[]) (fun i=>i≤5) (fun i=>5-i) 0 (by omega)
  yf (HLe.refl _) ?_
 intro i hi
 rcases (by omega:i=0∨i=1∨i=2∨i=3∨i=4∨i=5) with rfl | rfl | rfl | rfl | rfl | rfl
 ·refine ww ?_
  refine wwc d1 ?_
  refine ww ?_
  refine qAa rfl (fun q=>?_) (fun q=>absurd q (by decide))
  refine ww ?_
  refine wwc d1 ?_
  refine ww ?_
  exact ⟨1,by omega,by omega,yf,HLe.refl _⟩
 ·refine ww ?_
  refine wwc d2 ?_
  refine ww ?_
  refine qAa rfl (fun q=>?_) (fun q=>absurd q (by decide))
  refine ww ?_
  refine wwc d2 ?_
  refine ww ?_
  exact ⟨2,by omega,by omega,yf,HLe.refl _⟩
 ·refine ww ?_
  refine wwc d3 ?_
  refine ww ?_
  refine qAa rfl (fun q=>?_) (fun q=>absurd q (by decide))
  refine ww ?_
  refine wwc d3 ?_
  refine ww ?_
  exact ⟨3,by omega,by omega,yf,HLe.refl _⟩
 ·refine ww ?_
  refine wwc d4 ?_
  refine ww ?_
  refine qAa rfl (fun q=>?_) (fun q=>absurd q (by decide))
  refine ww ?_
  refine wwc d4 ?_
  refine ww ?_
  exact ⟨4,by omega,by omega,yf,HLe.refl _⟩
 ·refine ww ?_
  refine wwc d5 ?_
  refine ww ?_
  refine qAa rfl (fun q=>?_) (fun q=>absurd q (by decide))
  refine ww ?_
  refine wwc d5 ?_
  refine ww ?_
  exact ⟨5,by omega,by omega,yf,HLe.refl _⟩
 ·refine ww ?_
  refine wwc d6 ?_
  refine ww ?_
  refine qAa rfl (fun q=>absurd q (by decide)) (fun q=>?_)
  refine ww ?_
  exact wwr
def fmE:Nat→List (List Dat)
 | 0=>[]
 | 1=>[[.int .u8 50],[.int .u8 48]]
 | 2=>[[.int .u8 50],[.int .u8 48],[.int .u8 48],[.int .u8 54]]
 | _=>[[.int .u8 50],[.int .u8 48],[.int .u8 48],[.int .u8 54],[.int .u8 50],[.int .u8 48]]
theorem Format44:Spec Tryz.prog 87 [.I 44000] [] (fun r h'=>r=.tup [.d (.str exM),.I 0]∧h'=[]):=by
 have hp:=Parts44
 refine qAb hT Tryz.func87 rfl rfl rfl rfl ?_;intro E hE
 refine qAo ?_
 refine qAl (qAf ?_)
 refine wws ?_
 refine qAl (qAf ?_)
 refine wws ?_
 refine wwc hp ?_
 refine ww ?_
 refine qAa rfl (fun c1=>?_) (fun c1=>?_)
 ·exact absurd c1 (by simp)
 refine wwe ?_
 refine qAl (qAf ?_)
 refine wws ?_
 refine qBb 8 1 0 (es:=[]) (.inr ⟨rfl,rfl⟩) rfl ?_
 refine ww ?_
 refine qAq (ι:=Nat) (fun i=>[(8,.sl 1 (fmE i) (.right 0)),(25,.agg [.I 20,.I 6,.I 20]),(26,.I (i:Int))]) (fun i=>[.right 1 (fmE i).length]) (fun i=>i≤3) (fun i=>3-i) 0 (by omega)
  yf (HLe.refl _) ?_
 intro i hi
 rcases (by omega:i=0∨i=1∨i=2∨i=3) with rfl | rfl | rfl | rfl
 ·refine ww ?_
  refine qAa rfl (fun q=>?_) (fun q=>absurd q (by decide))
  refine ww ?_
  refine qAd (qAc (arrIdx_ok hT rfl rfl rfl rfl ⟨by decide,by decide⟩ rfl)) rfl ?_
  refine ww ?_
  refine qAd (qAh (i:=0) (es2:=[[Dat.int .u8 50],[.int .u8 48]]) hT rfl rfl rfl rfl rfl rfl (by decide)) rfl ?_
  refine ww ?_
  exact ⟨1,by omega,by omega,yf,HLe.refl _⟩
 ·refine ww ?_
  refine qAa rfl (fun q=>?_) (fun q=>absurd q (by decide))
  refine ww ?_
  refine qAd (qAc (arrIdx_ok hT rfl rfl rfl rfl ⟨by decide,by decide⟩ rfl)) rfl ?_
  refine ww ?_
  refine qAd (qAh (i:=0) (es2:=[[Dat.int .u8 48],[.int .u8 54]]) hT rfl rfl rfl rfl rfl rfl (by decide)) rfl ?_
  refine ww ?_
  exact ⟨2,by omega,by omega,yf,HLe.refl _⟩
 ·refine ww ?_
  refine qAa rfl (fun q=>?_) (fun q=>absurd q (by decide))
  refine ww ?_
  refine qAd (qAc (arrIdx_ok hT rfl rfl rfl rfl ⟨by decide,by decide⟩ rfl)) rfl ?_
  refine ww ?_
  refine qAd (qAh (i:=0) (es2:=[[Dat.int .u8 50],[.int .u8 48]]) hT rfl rfl rfl rfl rfl rfl (by decide)) rfl ?_
  refine ww ?_
  exact ⟨3,by omega,by omega,yf,HLe.refl _⟩
 ·refine ww ?_
  refine qAa rfl (fun q=>absurd q (by decide)) (fun q=>?_)
  refine ww ?_
  refine qHq hT rfl rfl (by intro e he;simp [fmE] at he;rcases he with rfl | rfl | rfl | rfl | rfl | rfl <;> exact ⟨_,rfl⟩) ?_
  refine ww ?_
  exact wwr
theorem randomD_spec (a:Aut) (n:Nat) (hs:a.seed.length≤500000) (hn:1≤n∧n≤1024):Spec Tryz.prog 85 [.ptr 0 0,.I (n:Int)] [.row (qAi a)] (fun r h'=>r=.d (.sl 1 (qAj (qFj a.seed n)))∧h'=[.row (qAi { a with seed:=qBe a.seed })]):=by
 have hd:=qVd a.seed n hs hn.1 hn.2
 generalize qFj a.seed n=k at hd ⊢
 generalize hx:qBe a.seed=nx at hd ⊢
 obtain ⟨sta,roots,links,secs,signer,lister,sk,lk,next,list,rev,defs,seed⟩:=a
 simp only at hd ⊢
 refine qAb hT Tryz.func85 rfl rfl rfl rfl ?_;intro E hE
 refine ww ?_
 refine wwc hd ?_
 refine ww ?_
 exact wwr
theorem secretD_spec (a:Aut) (hs:a.seed.length≤500000):Spec Tryz.prog 86 [.ptr 0 0] [.row (qAi a)] (fun r h'=>r=.I (qCn a.seed:Int)∧h'=[.row (qAi { a with seed:=qBe a.seed })]):=by
 have hd:=qOo a.seed hs
 generalize hk:qCn a.seed=k at hd ⊢
 generalize hx:qBe a.seed=nx at hd ⊢
 obtain ⟨sta,roots,links,secs,signer,lister,sk,lk,next,list,rev,defs,seed⟩:=a
 simp only at hd ⊢
 refine qAb hT Tryz.func86 rfl rfl rfl rfl ?_;intro E hE
 refine ww ?_
 refine wwc hd ?_
 refine ww ?_
 exact wwr
def wC (hr:Int) (ap fa fi sd ck ak li key inf grp sec root apps:AV) (zc:List AV):List AV :=
 qJv 44000 (.d (.sl 1 qGj)) true (.d (.sl 5 (qDk hr))) 30000++[ap,.I 40010,fa,fi,sd,ck,ak,li,key,inf,grp,sec,root,apps]++zc
def zC0:List AV:=[.d (.int .i64 0),.d (.str []),.d (.str []),.d (.str []),.d (.str []),.d (.str []),.d (.str []),.d (.str []),.d (.str []),.d (.str []),.d (.str []),.d (.str [])]
def wZ (hr:Int):List AV:=wC hr (.ptr 1 0) (.sl 1 [] .full) (.sl 1 [] .full) (.sl 1 [] .full) (.d (.int .i64 0)) (.d (.int .i64 0)) (.sl 1 [] .full) (.d (.str [])) (.sl 5 [] .full) (.sl 1 [] .full) (.sl 1 [] .full) (.sl 5 [] .full) (.sl 2 [] .full) zC0
def wD (hr:Int) (fa fi sd:List UInt8) (ck ak:Nat) (li key inf grp sec root apps:AV) (zc:List AV):List AV:=wC hr (.ptr 1 0) (.d (.sl 1 (qAj fa))) (.d (.sl 1 (qAj fi))) (.d (.sl 1 (qAj sd))) (.d (.int .i64 (ck:Int))) (.d (.int .i64 (ak:Int))) li key inf grp sec root apps zc
def seed5 (s:List UInt8):List UInt8:=qBe (qBe (qBe (qBe (qBe s))))
theorem nextS_len (s:List UInt8):(qBe s).length=32:=sumW_length _
theorem vAy (hr:Int) (a:Aut) (hs:a.seed.length≤500000):Spec Tryz.prog 31 [.ptr 0 0] [.row (wZ hr),.row (qAi a)]
  (fun r h'=>r=.I 0∧h'=[.row (wD hr (qFj a.seed 16) (qFj (qBe a.seed) 16) (qFj (qBe (qBe a.seed)) 32) (qCn (qBe (qBe (qBe a.seed)))) (qCn (qBe (qBe (qBe (qBe a.seed))))) (.sl 1 [] .full) (.d (.str [])) (.sl 5 [] .full) (.sl 1 [] .full) (.sl 1 [] .full) (.sl 5 [] .full) (.sl 2 [] .full) zC0),.row (qAi { a with seed:=seed5 a.seed })]):=by
 have e (s:List UInt8):=nextS_len s
 have r1:=randomD_spec a 16 hs (by omega)
 have r2:=randomD_spec { a with seed:=qBe a.seed } 16 (by show (qBe a.seed).length≤_;rw [e];omega) (by omega)
 have r3:=randomD_spec { a with seed:=qBe (qBe a.seed) } 32 (by show (qBe _).length≤_;rw [e];omega) (by omega)
 have r4:=secretD_spec { a with seed:=qBe (qBe (qBe a.seed)) } (by show (qBe _).length≤_;rw [e];omega)
 have r5:=secretD_spec { a with seed:=qBe (qBe (qBe (qBe a.seed))) } (by show (qBe _).length≤_;rw [e];omega)
 unfold seed5
 simp only at r1 r2 r3 r4 r5
 clear e
 generalize qFj a.seed 16=x1 at r1 ⊢
 generalize qBe a.seed=s1 at r1 r2 r3 r4 r5 ⊢
 generalize qFj s1 16=x2 at r2 ⊢
 generalize qBe s1=s2 at r2 r3 r4 r5 ⊢
 generalize qFj s2 32=x3 at r3 ⊢
 generalize qBe s2=s3 at r3 r4 r5 ⊢
 generalize qCn s3=x4 at r4 ⊢
 generalize qBe s3=s4 at r4 r5 ⊢
 generalize qCn s4=x5 at r5 ⊢
 generalize qBe s4=s5 at r5 ⊢
 obtain ⟨sta,roots,links,secs,signer,lister,sk,lk,next,list,rev,defs,seed⟩:=a
 simp only at r1 r2 r3 r4 r5 ⊢
 refine qAb hT Tryz.func31 rfl rfl rfl rfl ?_;intro E hE
 refine wwn ?_
 refine qBh (fun i=>bif Nat.beq i 6||Nat.beq i 11||Nat.beq i 16 then [0] else bif Nat.beq i 7||Nat.beq i 12||Nat.beq i 17 then [1] else bif Nat.beq i 20||Nat.beq i 23||Nat.beq i 26 then [0] else [])
  (fun i=>bif Nat.beq i 7||Nat.beq i 12||Nat.beq i 17 then [1] else bif Nat.beq i 20||Nat.beq i 23||Nat.beq i 26 then [0] else []) mixed (by kernel_rfl) ?_
 refine wwg ?_
 refine qAk (v:=.d (.sl 1 (qAj x1))) (os:=[.row (qAi ⟨sta,roots,links,secs,signer,lister,sk,lk,next,list,rev,defs,s1⟩)]) (fun k hk1 hk2=>qBs rfl rfl r1 [1] (by decide) (by show [k[1]?]=_;rw [hk2 1 (by decide)];rfl) rfl rfl rfl rfl rfl) rfl ?_
 refine wwg ?_
 refine qAk (v:=.d (.sl 1 (qAj x2))) (os:=[.row (qAi ⟨sta,roots,links,secs,signer,lister,sk,lk,next,list,rev,defs,s2⟩)]) (fun k hk1 hk2=>qBs rfl rfl r2 [1] (by decide) (by show [k[1]?]=_;rw [hk2 1 (by decide)];rfl) rfl rfl rfl rfl rfl) rfl ?_
 refine wwg ?_
 refine qAk (v:=.d (.sl 1 (qAj x3))) (os:=[.row (qAi ⟨sta,roots,links,secs,signer,lister,sk,lk,next,list,rev,defs,s3⟩)]) (fun k hk1 hk2=>qBs rfl rfl r3 [1] (by decide) (by show [k[1]?]=_;rw [hk2 1 (by decide)];rfl) rfl rfl rfl rfl rfl) rfl ?_
 refine qBt hT (fun _=>rfl) rfl rfl True.intro ?_
 refine qBt hT (fun _=>rfl) rfl rfl True.intro ?_
 refine qAk (v:=.any) (os:=[.row (wC hr (.ptr 1 0) (.d (.sl 1 (qAj x1))) (.sl 1 [] .full) (.sl 1 [] .full) (.I 0) (.I 0) (.sl 1 [] .full) (.d (.str [])) (.sl 5 [] .full) (.sl 1 [] .full) (.sl 1 [] .full) (.sl 5 [] .full) (.sl 2 [] .full) zC0)]) (fun k hk1 hk2=>qBq (i:=0) (off:=14) hT rfl rfl ((hk2 0 List.mem_cons_self).trans rfl) rfl) rfl ?_
 refine qBt hT (fun _=>rfl) rfl rfl True.intro ?_
 refine qBt hT (fun _=>rfl) rfl rfl True.intro ?_
 refine qAk (v:=.any) (os:=[.row (wC hr (.ptr 1 0) (.d (.sl 1 (qAj x1))) (.d (.sl 1 (qAj x2))) (.sl 1 [] .full) (.I 0) (.I 0) (.sl 1 [] .full) (.d (.str [])) (.sl 5 [] .full) (.sl 1 [] .full) (.sl 1 [] .full) (.sl 5 [] .full) (.sl 2 [] .full) zC0)]) (fun k hk1 hk2=>qBq (i:=0) (off:=15) hT rfl rfl ((hk2 0 List.mem_cons_self).trans rfl) rfl) rfl ?_
 refine qBt hT (fun _=>rfl) rfl rfl True.intro ?_
 refine qBt hT (fun _=>rfl) rfl rfl True.intro ?_
 refine qAk (v:=.any) (os:=[.row (wC hr (.ptr 1 0) (.d (.sl 1 (qAj x1))) (.d (.sl 1 (qAj x2))) (.d (.sl 1 (qAj x3))) (.I 0) (.I 0) (.sl 1 [] .full) (.d (.str [])) (.sl 5 [] .full) (.sl 1 [] .full) (.sl 1 [] .full) (.sl 5 [] .full) (.sl 2 [] .full) zC0)]) (fun k hk1 hk2=>qBq (i:=0) (off:=16) hT rfl rfl ((hk2 0 List.mem_cons_self).trans rfl) rfl) rfl ?_
 refine wwg ?_
 refine qAp (l:=[(0,.ptr 0 0)]) (h':=[.row (wC hr (.ptr 1 0) (.d (.sl 1 (qAj x1))) (.d (.sl 1 (qAj x2))) (.d (.sl 1 (qAj x3))) (.I 0) (.I 0) (.sl 1 [] .full) (.d (.str [])) (.sl 5 [] .full) (.sl 1 [] .full) (.sl 1 [] .full) (.sl 5 [] .full) (.sl 2 [] .full) zC0),.row (qAi ⟨sta,roots,links,secs,signer,lister,sk,lk,next,list,rev,defs,s3⟩)]) yf (HLe.refl _) ?_
 refine qAl (qBh (fun i=>bif Nat.beq i 5||Nat.beq i 10 then [0] else bif Nat.beq i 6||Nat.beq i 11 then [1] else bif Nat.beq i 14||Nat.beq i 17 then [0] else [])
  (fun i=>bif Nat.beq i 6||Nat.beq i 11 then [1] else bif Nat.beq i 14||Nat.beq i 17 then [0] else []) mixed (by kernel_rfl) ?_)
 refine wwg ?_
 refine qAk (v:=.I (x4:Int)) (os:=[.row (qAi ⟨sta,roots,links,secs,signer,lister,sk,lk,next,list,rev,defs,s4⟩)]) (fun k hk1 hk2=>qBs rfl rfl r4 [1] (by decide) (by show [k[1]?]=_;rw [hk2 1 (by decide)];rfl) rfl rfl rfl rfl rfl) rfl ?_
 refine wwg ?_
 refine qAk (v:=.I (x5:Int)) (os:=[.row (qAi ⟨sta,roots,links,secs,signer,lister,sk,lk,next,list,rev,defs,s5⟩)]) (fun k hk1 hk2=>qBs rfl rfl r5 [1] (by decide) (by show [k[1]?]=_;rw [hk2 1 (by decide)];rfl) rfl rfl rfl rfl rfl) rfl ?_
 refine qBt hT (fun _=>rfl) rfl rfl True.intro ?_
 refine qBt hT (fun _=>rfl) rfl rfl True.intro ?_
 refine qAk (v:=.any) (os:=[.row (wC hr (.ptr 1 0) (.d (.sl 1 (qAj x1))) (.d (.sl 1 (qAj x2))) (.d (.sl 1 (qAj x3))) (.I (x4:Int)) (.I 0) (.sl 1 [] .full) (.d (.str [])) (.sl 5 [] .full) (.sl 1 [] .full) (.sl 1 [] .full) (.sl 5 [] .full) (.sl 2 [] .full) zC0)]) (fun k hk1 hk2=>qBq (i:=0) (off:=17) hT rfl rfl ((hk2 0 List.mem_cons_self).trans rfl) rfl) rfl ?_
 refine qBt hT (fun _=>rfl) rfl rfl True.intro ?_
 refine qBt hT (fun _=>rfl) rfl rfl True.intro ?_
 refine qAk (v:=.any) (os:=[.row (wC hr (.ptr 1 0) (.d (.sl 1 (qAj x1))) (.d (.sl 1 (qAj x2))) (.d (.sl 1 (qAj x3))) (.I (x4:Int)) (.I (x5:Int)) (.sl 1 [] .full) (.d (.str [])) (.sl 5 [] .full) (.sl 1 [] .full) (.sl 1 [] .full) (.sl 5 [] .full) (.sl 2 [] .full) zC0)]) (fun k hk1 hk2=>qBq (i:=0) (off:=18) hT rfl rfl ((hk2 0 List.mem_cons_self).trans rfl) rfl) rfl ?_
 refine wwg ?_
 refine qAp (l:=[(0,.ptr 0 0)]) (h':=[.row (wD hr x1 x2 x3 x4 x5 (.sl 1 [] .full) (.d (.str [])) (.sl 5 [] .full) (.sl 1 [] .full) (.sl 1 [] .full) (.sl 5 [] .full) (.sl 2 [] .full) zC0),.row (qAi ⟨sta,roots,links,secs,signer,lister,sk,lk,next,list,rev,defs,s5⟩)]) yf (HLe.refl _) ?_
 refine ww ?_
 exact rx ⟨rfl,rfl⟩ (h4:=show (2:Nat)=2 from rfl)
def num9:List UInt8:=[76,48,48,48,48,65,66,60,60]
def keyM:List UInt8:=num9++(qBx num9).1++zM.bir++(qBx zM.bir).1++exM++(qBx exM).1
theorem vFk:Spec Tryz.prog 89 [zAV zM] [] (fun r h'=>r=.tup [.d (.str keyM),.I 0]∧h'=[]):=by
 have hv:=qOi zM zM_len
 rw [zM_valid] at hv
 have hr:=qEp 2 (by omega)
 have h1:=digitP_spec num9 (by decide)
 have h2:=digitP_spec zM.bir (by decide)
 have h3:=digitP_spec exM (by decide)
 have l1:(qBx num9).1.length≤1:=by decide
 have l2:(qBx zM.bir).1.length≤1:=by decide
 have l3:(qBx exM).1.length≤1:=by decide
 have q1:zM.num.length=7:=rfl
 have q2:zM.bir.length=6:=rfl
 have q3:zM.exp.length=6:=rfl
 have q4:(List.replicate 2 (60:UInt8)).length=2:=rfl
 unfold keyM
 generalize (qBx num9).1=d1 at h1 l1 ⊢
 generalize (qBx zM.bir).1=d2 at h2 l2 ⊢
 generalize (qBx exM).1=d3 at h3 l3 ⊢
 refine qAb hT Tryz.func89 rfl rfl rfl rfl ?_;intro E hE
 refine wwn ?_
 refine wwc hv ?_
 refine wwn ?_
 refine qAa rfl (fun c1=>?_) (fun c1=>?_)
 ·exact absurd c1 (by simp)
 refine wwn ?_
 refine qBh (fun i=>bif Nat.beq i 1||Nat.beq i 3 then [0] else []) (fun i=>[]) mixed (by kernel_rfl) ?_
 refine wwg ?_
 refine qAk (os:=[]) (fun k hk1 hk2=>qAc (vJx (t2:=#[]) rfl rfl rfl)) rfl ?_
 refine wwdc hr ?_
 refine wwg ?_
 refine qAl (qBh (fun i=>bif Nat.beq i 5||Nat.beq i 8||Nat.beq i 12||Nat.beq i 15 then [0] else []) (fun i=>[]) mixed (by kernel_rfl) ?_)
 refine wwg ?_
 refine wwdc h1 ?_
 refine wwg ?_
 refine wwdc h2 ?_
 refine wwg ?_
 refine wwdc h3 ?_
 refine wwg ?_
 refine ww ?_
 exact wwr
def wE (hr:Int) (x1 x2 x3 x4 x5:Dat) (li key inf grp sec root apps:AV) (zc:List AV):List AV:=wC hr (.ptr 1 0) (.d x1) (.d x2) (.d x3) (.d x4) (.d x5) li key inf grp sec root apps zc
theorem qWd (hr:Int) (x1 x2 x3 x4 x5:Dat) (a:Aut) (hsta:a.sta=[85,84,79]):Spec Tryz.prog 32 [.ptr 0 0] [.row (wE hr x1 x2 x3 x4 x5 (.sl 1 [] .full) (.d (.str [])) (.sl 5 [] .full) (.sl 1 [] .full) (.sl 1 [] .full) (.sl 5 [] .full) (.sl 2 [] .full) zC0),.row (qAi a)]
  (fun r h'=>r=.I 0∧h'=[.row (wE hr x1 x2 x3 x4 x5 (.d (.sl 1 (qGu (qCp zM)))) (.d (.str keyM)) (.sl 5 [] .full) (.sl 1 [] .full) (.sl 1 [] .full) (.sl 5 [] .full) (.sl 2 [] .full) (qLu zM)),.row (qAi a)]):=by
 have hf:=Format44
 have hb:=qOu zM zM_len zM_valid rfl
 have hk:=vFk
 generalize qGu (qCp zM)=LN at hb ⊢
 generalize keyM=KM at hk ⊢
 obtain ⟨sta,roots,links,secs,signer,lister,sk,lk,next,list,rev,defs,seed⟩:=a
 simp only at hsta
 subst hsta
 refine qAb hT Tryz.func32 rfl rfl rfl rfl ?_;intro E hE
 refine wwn ?_
 refine wwc hf ?_
 refine wwn ?_
 refine qAa rfl (fun c1=>?_) (fun c1=>?_)
 ·exact absurd c1 (by simp)
 refine qAp (l:=[(0,.ptr 0 0),(3,.d (.str exM))]) (h':=[.row (wE hr x1 x2 x3 x4 x5 (.sl 1 [] .full) (.d (.str [])) (.sl 5 [] .full) (.sl 1 [] .full) (.sl 1 [] .full) (.sl 5 [] .full) (.sl 2 [] .full) zC0),.row (qAi ⟨[85,84,79],roots,links,secs,signer,lister,sk,lk,next,list,rev,defs,seed⟩)]) yf (HLe.refl _) ?_
 refine wwn ?_
 refine qBh (fun i=>bif [4,12,17,22,27,32,37,42].contains i then [0] else bif Nat.beq i 7 then [1] else []) (fun i=>bif Nat.beq i 42 then [0] else []) mixed (by kernel_rfl) ?_
 refine wwg ?_
 refine qAp (l:=[(0,.ptr 0 0)]) (h':=[.row (wE hr x1 x2 x3 x4 x5 (.sl 1 [] .full) (.d (.str [])) (.sl 5 [] .full) (.sl 1 [] .full) (.sl 1 [] .full) (.sl 5 [] .full) (.sl 2 [] .full) (qLu zM)),.row (qAi ⟨[85,84,79],roots,links,secs,signer,lister,sk,lk,next,list,rev,defs,seed⟩)]) yf (HLe.refl _) ?_
 refine wwn ?_
 refine wwc hb ?_
 refine wwn ?_
 refine qAa rfl (fun c2=>?_) (fun c2=>?_)
 ·exact absurd c2 (by simp)
 refine qAp (l:=[(0,.ptr 0 0)]) (h':=[.row (wE hr x1 x2 x3 x4 x5 (.d (.sl 1 LN)) (.d (.str [])) (.sl 5 [] .full) (.sl 1 [] .full) (.sl 1 [] .full) (.sl 5 [] .full) (.sl 2 [] .full) (qLu zM)),.row (qAi ⟨[85,84,79],roots,links,secs,signer,lister,sk,lk,next,list,rev,defs,seed⟩)]) yf (HLe.refl _) ?_
 refine wwn ?_
 refine wwc hk ?_
 refine wwn ?_
 exact rx ⟨rfl,rfl⟩ (h4:=show (2:Nat)=2 from rfl)
def qVp (P:Int):Nat→List (List Dat)
 | 0=>[]
 | 1=>[[Dat.int .i64 2,.int .i64 1,.int .i64 0,.int .i64 0,.int .i64 0]]
 | 2=>[[Dat.int .i64 2,.int .i64 1,.int .i64 0,.int .i64 0,.int .i64 0],[Dat.int .i64 3,.int .i64 1,.int .i64 0,.int .i64 0,.int .i64 0]]
 | 3=>[[Dat.int .i64 2,.int .i64 1,.int .i64 0,.int .i64 0,.int .i64 0],[Dat.int .i64 3,.int .i64 1,.int .i64 0,.int .i64 0,.int .i64 0],[Dat.int .i64 4,.int .i64 1,.int .i64 0,.int .i64 P,.int .i64 1]]
 | 4=>[[Dat.int .i64 2,.int .i64 1,.int .i64 0,.int .i64 0,.int .i64 0],[Dat.int .i64 3,.int .i64 1,.int .i64 0,.int .i64 0,.int .i64 0],[Dat.int .i64 4,.int .i64 1,.int .i64 0,.int .i64 P,.int .i64 1],[Dat.int .i64 5,.int .i64 1,.int .i64 0,.int .i64 0,.int .i64 0]]
 | _=>[[Dat.int .i64 2,.int .i64 1,.int .i64 0,.int .i64 0,.int .i64 0],[Dat.int .i64 3,.int .i64 1,.int .i64 0,.int .i64 0,.int .i64 0],[Dat.int .i64 4,.int .i64 1,.int .i64 0,.int .i64 P,.int .i64 1],[Dat.int .i64 5,.int .i64 1,.int .i64 0,.int .i64 0,.int .i64 0],[Dat.int .i64 6,.int .i64 1,.int .i64 0,.int .i64 0,.int .i64 0]]
theorem infK_doc (P:Int):qVp P 5=qFt (qEs P):=rfl
theorem vJa (v:Int) (b:Bool) (hb:([2,3,4,5,6].any fun x=>v == x)=b):Spec Tryz.prog 90 [.d (.sl 1 qGj),.I v] [] (fun r h'=>r=.d (.bool b)∧h'=[]):=by
 have h:=hasI_spec [2,3,4,5,6] v (by simp)
 rw [hb] at h
 exact h
theorem vMs (v:Int):Spec Tryz.prog 90 [.d (.sl 1 []),.I v] [] (fun r h'=>r=.d (.bool false)∧h'=[]):=hasI_spec [] v (by simp)
theorem qWc (hr:Int) (x1 x2 x3 x5:Dat) (ck:Int) (hck:qNi ck=true) (li key:Dat) (a:Aut) (zc:List Dat) (hz:zc.length=12):Spec Tryz.prog 33 [.ptr 0 0] [.row (wE hr x1 x2 x3 (.int .i64 ck) x5 (.d li) (.d key) (.sl 5 [] .full) (.sl 1 [] .full) (.sl 1 [] .full) (.sl 5 [] .full) (.sl 2 [] .full) (zc.map .d)),.row (qAi a)]
  (fun r h'=>r=.I 0∧h'=[.row (wE hr x1 x2 x3 (.int .i64 ck) x5 (.d li) (.d key) (.d (.sl 5 (qFt (qEs (qVm ck))))) (.sl 1 [] .full) (.sl 1 [] .full) (.sl 5 [] .full) (.sl 2 [] .full) (zc.map .d)),.row (qAi a)]):=by
 have hp:=qHm ck
 rw [show qPd ck=0 by unfold qPd;rw [if_pos hck]] at hp
 rw [← infK_doc]
 generalize qVm ck=P at hp ⊢
 match zc,hz with
 | [z1,z2,z3,z4,z5,z6,z7,z8,z9,z10,z11,z12],_ =>
 have h2:=vJa 2 true (by decide)
 have h3:=vJa 3 true (by decide)
 have h4:=vJa 4 true (by decide)
 have h5:=vJa 5 true (by decide)
 have h6:=vJa 6 true (by decide)
 refine qAb hT Tryz.func33 rfl rfl rfl rfl ?_;intro E hE
 refine qAo ?_
 refine qBy 0 21 2 5 (es:=[]) rfl rfl rfl ?_
 refine qAp (l:=[(0,.ptr 0 0)]) (h':=[.row (wE hr x1 x2 x3 (.int .i64 ck) x5 (.d li) (.d key) (.sl 5 (qVp P 0) (.right 2)) (.sl 1 [] .full) (.sl 1 [] .full) (.sl 5 [] .full) (.sl 2 [] .full) ([z1,z2,z3,z4,z5,z6,z7,z8,z9,z10,z11,z12].map .d)),.row (qAi a),.right 5 0]) yf (HLe.refl _) ?_
 refine wwn ?_
 refine qBg (ι:=Nat) (fun k=>[(0,.ptr 0 0),(3,.I ((k:Int)+2))]) (fun k=>[.row (wE hr x1 x2 x3 (.int .i64 ck) x5 (.d li) (.d key) (.sl 5 (qVp P k) (.right 2)) (.sl 1 [] .full) (.sl 1 [] .full) (.sl 5 [] .full) (.sl 2 [] .full) ([z1,z2,z3,z4,z5,z6,z7,z8,z9,z10,z11,z12].map .d)),.row (qAi a),.right 5 (qVp P k).length]) (fun k=>k≤5) (fun k=>5-k) 0 (by omega)
  yf (HLe.refl _) ?_
 intro k hk
 rcases (by omega:k=0∨k=1∨k=2∨k=3∨k=4∨k=5) with rfl | rfl | rfl | rfl | rfl | rfl
 ·refine wwn ?_
  refine qAa rfl (fun q=>?_) (fun q=>absurd q (by decide))
  refine wwn ?_
  refine wwc h2 ?_
  refine wwn ?_
  refine qAa rfl (fun q=>absurd q (by decide)) (fun q=>?_)
  refine wwn ?_
  refine qAa rfl (fun q=>absurd q (by decide)) (fun q=>?_)
  refine wwn ?_
  refine qBh (fun i=>bif Nat.beq i 4||Nat.beq i 10 then [0] else bif Nat.beq i 5 then [3] else bif Nat.beq i 7 then [2] else []) (fun i=>bif Nat.beq i 10 then [0] else bif Nat.beq i 7 then [2] else []) mixed (by kernel_rfl) ?_
  refine wwg ?_
  refine qAk (os:=[]) (fun k hk1 hk2=>buildSl_ok hT rfl rfl) rfl ?_
  refine qAk (v:=.sl 5 (qVp P 1) (.right 2)) (os:=[.right 5 1]) (fun k hk1 hk2=>qAh (i:=2) (es2:=[[Dat.int .i64 2,.int .i64 1,.int .i64 0,.int .i64 0,.int .i64 0]]) hT rfl rfl rfl rfl ((hk2 2 List.mem_cons_self).trans rfl) rfl (by show (0+1)*(40+1)≤140737488355328;omega)) rfl ?_
  refine wwg ?_
  refine wwn ?_
  exact ⟨1,[_],by omega,by omega,yf,HLe.refl _,Env.below_mono hE (by simp),rfl,rfl⟩
 ·refine wwn ?_
  refine qAa rfl (fun q=>?_) (fun q=>absurd q (by decide))
  refine wwn ?_
  refine wwc h3 ?_
  refine wwn ?_
  refine qAa rfl (fun q=>absurd q (by decide)) (fun q=>?_)
  refine wwn ?_
  refine qAa rfl (fun q=>absurd q (by decide)) (fun q=>?_)
  refine wwn ?_
  refine qBh (fun i=>bif Nat.beq i 4||Nat.beq i 10 then [0] else bif Nat.beq i 5 then [3] else bif Nat.beq i 7 then [2] else []) (fun i=>bif Nat.beq i 10 then [0] else bif Nat.beq i 7 then [2] else []) mixed (by kernel_rfl) ?_
  refine wwg ?_
  refine qAk (os:=[]) (fun k hk1 hk2=>buildSl_ok hT rfl rfl) rfl ?_
  refine qAk (v:=.sl 5 (qVp P 2) (.right 2)) (os:=[.right 5 2]) (fun k hk1 hk2=>qAh (i:=2) (es2:=[[Dat.int .i64 3,.int .i64 1,.int .i64 0,.int .i64 0,.int .i64 0]]) hT rfl rfl rfl rfl ((hk2 2 List.mem_cons_self).trans rfl) rfl (by show (1+1)*(40+1)≤140737488355328;omega)) rfl ?_
  refine wwg ?_
  refine wwn ?_
  exact ⟨2,[_],by omega,by omega,yf,HLe.refl _,Env.below_mono hE (by simp),rfl,rfl⟩
 ·refine wwn ?_
  refine qAa rfl (fun q=>?_) (fun q=>absurd q (by decide))
  refine wwn ?_
  refine wwc h4 ?_
  refine wwn ?_
  refine qAa rfl (fun q=>absurd q (by decide)) (fun q=>?_)
  refine wwn ?_
  refine qAa rfl (fun q=>?_) (fun q=>absurd q (by decide))
  refine wwn ?_
  refine wwc hp ?_
  refine wwn ?_
  refine qAa rfl (fun q=>absurd q (by decide)) (fun q=>?_)
  refine wwn ?_
  refine qBh (fun i=>bif Nat.beq i 4||Nat.beq i 10 then [0] else bif Nat.beq i 5 then [3] else bif Nat.beq i 7 then [2] else []) (fun i=>bif Nat.beq i 10 then [0] else bif Nat.beq i 7 then [2] else []) mixed (by kernel_rfl) ?_
  refine wwg ?_
  refine qAk (os:=[]) (fun k hk1 hk2=>buildSl_ok hT rfl rfl) rfl ?_
  refine qAk (v:=.sl 5 (qVp P 3) (.right 2)) (os:=[.right 5 3]) (fun k hk1 hk2=>qAh (i:=2) (es2:=[[Dat.int .i64 4,.int .i64 1,.int .i64 0,.int .i64 P,.int .i64 1]]) hT rfl rfl rfl rfl ((hk2 2 List.mem_cons_self).trans rfl) rfl (by show (2+1)*(40+1)≤140737488355328;omega)) rfl ?_
  refine wwg ?_
  refine wwn ?_
  exact ⟨3,[_],by omega,by omega,yf,HLe.refl _,Env.below_mono hE (by simp),rfl,rfl⟩
 ·refine wwn ?_
  refine qAa rfl (fun q=>?_) (fun q=>absurd q (by decide))
  refine wwn ?_
  refine wwc h5 ?_
  refine wwn ?_
  refine qAa rfl (fun q=>absurd q (by decide)) (fun q=>?_)
  refine wwn ?_
  refine qAa rfl (fun q=>absurd q (by decide)) (fun q=>?_)
  refine wwn ?_
  refine qBh (fun i=>bif Nat.beq i 4||Nat.beq i 10 then [0] else bif Nat.beq i 5 then [3] else bif Nat.beq i 7 then [2] else []) (fun i=>bif Nat.beq i 10 then [0] else bif Nat.beq i 7 then [2] else []) mixed (by kernel_rfl) ?_
  refine wwg ?_
  refine qAk (os:=[]) (fun k hk1 hk2=>buildSl_ok hT rfl rfl) rfl ?_
  refine qAk (v:=.sl 5 (qVp P 4) (.right 2)) (os:=[.right 5 4]) (fun k hk1 hk2=>qAh (i:=2) (es2:=[[Dat.int .i64 5,.int .i64 1,.int .i64 0,.int .i64 0,.int .i64 0]]) hT rfl rfl rfl rfl ((hk2 2 List.mem_cons_self).trans rfl) rfl (by show (3+1)*(40+1)≤140737488355328;omega)) rfl ?_
  refine wwg ?_
  refine wwn ?_
  exact ⟨4,[_],by omega,by omega,yf,HLe.refl _,Env.below_mono hE (by simp),rfl,rfl⟩
 ·refine wwn ?_
  refine qAa rfl (fun q=>?_) (fun q=>absurd q (by decide))
  refine wwn ?_
  refine wwc h6 ?_
  refine wwn ?_
  refine qAa rfl (fun q=>absurd q (by decide)) (fun q=>?_)
  refine wwn ?_
  refine qAa rfl (fun q=>absurd q (by decide)) (fun q=>?_)
  refine wwn ?_
  refine qBh (fun i=>bif Nat.beq i 4||Nat.beq i 10 then [0] else bif Nat.beq i 5 then [3] else bif Nat.beq i 7 then [2] else []) (fun i=>bif Nat.beq i 10 then [0] else bif Nat.beq i 7 then [2] else []) mixed (by kernel_rfl) ?_
  refine wwg ?_
  refine qAk (os:=[]) (fun k hk1 hk2=>buildSl_ok hT rfl rfl) rfl ?_
  refine qAk (v:=.sl 5 (qVp P 5) (.right 2)) (os:=[.right 5 5]) (fun k hk1 hk2=>qAh (i:=2) (es2:=[[Dat.int .i64 6,.int .i64 1,.int .i64 0,.int .i64 0,.int .i64 0]]) hT rfl rfl rfl rfl ((hk2 2 List.mem_cons_self).trans rfl) rfl (by show (4+1)*(40+1)≤140737488355328;omega)) rfl ?_
  refine wwg ?_
  refine wwn ?_
  exact ⟨5,[_],by omega,by omega,yf,HLe.refl _,Env.below_mono hE (by simp),rfl,rfl⟩
 ·refine wwn ?_
  refine qAa rfl (fun q=>absurd q (by decide)) (fun q=>?_)
  refine qAp (l:=[(0,.ptr 0 0)]) (h':=[.row (wE hr x1 x2 x3 (.int .i64 ck) x5 (.d li) (.d key) (.d (.sl 5 (qVp P 5))) (.sl 1 [] .full) (.sl 1 [] .full) (.sl 5 [] .full) (.sl 2 [] .full) ([z1,z2,z3,z4,z5,z6,z7,z8,z9,z10,z11,z12].map .d)),.row (qAi a),.dead]) yf ⟨by
   show AllLe _ _
   exact ⟨.refl _,.refl _,.refl _,.refl _,.refl _,.refl _,.refl _,.refl _,.refl _,.refl _,.refl _,.refl _,.refl _,.refl _,.refl _,.refl _,.refl _,.refl _,.refl _,.refl _,.refl _,.dat,AllLe.refl _⟩,ObLe.refl _,trivial,trivial⟩ ?_
  refine wwn ?_
  exact rx ⟨rfl,rfl⟩ (h4:=show (2:Nat)=2 from rfl)
def zDM:List Dat:=[.int .i64 3,.str [80],.str [85,84,79],.str [69,82,73,75,83,83,79,78],.str [65,78,78,65,32,77,65,82,73,65],.str [76,48,48,48,48,65,66],.str [85,84,79],.str [55,52,48,56,49,50],.str [70],.str exM,.str [],.str []]
theorem zDM_eq:qLu zM=zDM.map .d:=rfl
theorem vEx (hr:Int) (x1 x2 x3 x4 x5:Dat) (li key inf:Dat) (zc:List Dat) (hz:zc.length=12) (a:Aut) (gs b:List (List Dat)) (e:Int) (hg:gs.length≤1000):Spec Tryz.prog 92 [.ptr 0 0,.d (.sl 1 b),.I e] [.row (wE hr x1 x2 x3 x4 x5 (.d li) (.d key) (.d inf) (.sl 1 gs (.right 2)) (.sl 1 [] .full) (.sl 5 [] .full) (.sl 2 [] .full) (zc.map .d)),.row (qAi a),.right 1 gs.length]
  (fun r h'=>r=.I e∧h'=[.row (wE hr x1 x2 x3 x4 x5 (.d li) (.d key) (.d inf) (.sl 1 (gs++[[Dat.sl 1 b]]) (.right 2)) (.sl 1 [] .full) (.sl 5 [] .full) (.sl 2 [] .full) (zc.map .d)),.row (qAi a),.right 1 (gs++[[Dat.sl 1 b]]).length]):=by
 match zc,hz with
 | [z1,z2,z3,z4,z5,z6,z7,z8,z9,z10,z11,z12],_ =>
 refine qAb hT Tryz.func92 rfl rfl rfl rfl ?_;intro E hE
 refine wwn ?_
 refine qAd (qAh (i:=2) (es2:=[[Dat.sl 1 b]]) hT rfl rfl rfl rfl rfl rfl (by show (gs.length+1)*(24+1)≤_;omega)) rfl ?_
 refine wwn ?_
 exact rx ⟨rfl,rfl⟩ (h4:=show (3:Nat)=3 from rfl)
theorem qRr (hr:Int) (FA FI INF G1 G2 G3 G4 G5:List (List Dat)) (x3 x4:Dat) (ak P:Int) (li key:Dat) (a:Aut)
  (hz:Spec Tryz.prog 93 [.agg (zDM.map .d)] [] (fun r h'=>r=.tup [.d (.sl 1 G1),.I 0]∧h'=[]))
  (hb2:Spec Tryz.prog 94 [.I 2,.d (.sl 7 [[.int .i64 1,.int .i64 0,.int .i64 40010,.int .i64 73048,.int .i64 1,.int .i64 50,.sl 1 FA]])] [] (fun r h'=>r=.tup [.d (.sl 1 G2),.I 0]∧h'=[]))
  (hb3:Spec Tryz.prog 94 [.I 3,.d (.sl 7 [[.int .i64 2,.int .i64 1,.int .i64 40010,.int .i64 73048,.int .i64 1,.int .i64 50,.sl 1 FI]])] [] (fun r h'=>r=.tup [.d (.sl 1 G3),.I 0]∧h'=[]))
  (hi:Spec Tryz.prog 95 [.d (.sl 5 INF)] [] (fun r h'=>r=.tup [.d (.sl 1 G4),.I 0]∧h'=[]))
  (hp:Spec Tryz.prog 91 [.I ak] [] (fun r h'=>r=.tup [.I P,.I 0]∧h'=[]))
  (ha:Spec Tryz.prog 96 [.I P] [] (fun r h'=>r=.tup [.d (.sl 1 G5),.I 0]∧h'=[])) :
  Spec Tryz.prog 34 [.ptr 0 0] [.row (wE hr (.sl 1 FA) (.sl 1 FI) x3 x4 (.int .i64 ak) (.d li) (.d key) (.d (.sl 5 INF)) (.sl 1 [] .full) (.sl 1 [] .full) (.sl 5 [] .full) (.sl 2 [] .full) (zDM.map .d)),.row (qAi a)] (fun r h'=>r=.I 0∧h'=[.row (wE hr (.sl 1 FA) (.sl 1 FI) x3 x4 (.int .i64 ak) (.d li) (.d key) (.d (.sl 5 INF)) (.d (.sl 1 [[.sl 1 G1],[.sl 1 G2],[.sl 1 G3],[.sl 1 G4],[.sl 1 G5]])) (.sl 1 [] .full) (.sl 5 [] .full) (.sl 2 [] .full) (zDM.map .d)),.row (qAi a)]):=by
 have hh:=vJa 6 true (by decide)
 have add:=fun (gs b:List (List Dat)) (hg:gs.length≤1000)=>vEx hr (.sl 1 FA) (.sl 1 FI) x3 x4 (.int .i64 ak) li key (.sl 5 INF) zDM rfl a gs b 0 hg
 refine qAb hT Tryz.func34 rfl rfl rfl rfl ?_;intro E hE
 refine qAo (qAo (qAo ?_))
 refine qBy 0 22 2 1 (es:=[]) rfl rfl rfl ?_
 refine qAp (l:=[(0,.ptr 0 0)]) (h':=[.row (wE hr (.sl 1 FA) (.sl 1 FI) x3 x4 (.int .i64 ak) (.d li) (.d key) (.d (.sl 5 INF)) (.sl 1 [] (.right 2)) (.sl 1 [] .full) (.sl 5 [] .full) (.sl 2 [] .full) (zDM.map .d)),.row (qAi a),.right 1 0,.room,.room]) yf (HLe.refl _) ?_
 refine wwn ?_
 refine wwc hz ?_
 refine wwn ?_
 refine qAd (qBs (v:=.I 0) (H':=[.row (wE hr (.sl 1 FA) (.sl 1 FI) x3 x4 (.int .i64 ak) (.d li) (.d key) (.d (.sl 5 INF)) (.sl 1 [[.sl 1 G1]] (.right 2)) (.sl 1 [] .full) (.sl 5 [] .full) (.sl 2 [] .full) (zDM.map .d)),.row (qAi a),.right 1 1,.room,.room]) rfl rfl (add [] G1 (by simp)) [0,1,2] (by decide) rfl rfl rfl rfl rfl rfl) rfl ?_
 refine wwn ?_
 refine qAa rfl (fun c1=>?_) (fun c1=>?_)
 ·exact absurd c1 (by simp)
 refine qAp (l:=[(0,.ptr 0 0)]) (h':=[.row (wE hr (.sl 1 FA) (.sl 1 FI) x3 x4 (.int .i64 ak) (.d li) (.d key) (.d (.sl 5 INF)) (.sl 1 [[.sl 1 G1]] (.right 2)) (.sl 1 [] .full) (.sl 5 [] .full) (.sl 2 [] .full) (zDM.map .d)),.row (qAi a),.right 1 1,.room,.room]) yf (HLe.refl _) ?_
 refine wwn ?_
 refine qBh (fun i=>bif Nat.beq i 3||Nat.beq i 7 then [0] else bif Nat.beq i 9||Nat.beq i 10 then [3] else []) (fun i=>bif Nat.beq i 9||Nat.beq i 10 then [3] else []) mixed (by kernel_rfl) ?_
 refine wwg ?_
 refine qAk (v:=.ptr 3 0) (os:=[.row [.I 0,.I 0,.I 0,.I 0,.I 0,.I 0,.sl 1 [] .full]]) (fun k hk1 hk2=>allocAt_ok (i0:=3) (i:=⟨.struct [(0,1,false),(1,1,false),(2,1,false),(3,1,false),(4,1,false),(5,1,false),(6,1,false)],7,72,[.I 0,.I 0,.I 0,.I 0,.I 0,.I 0,.sl 1 [] .full]⟩) hT rfl rfl ((hk2 3 List.mem_cons_self).trans rfl)) rfl ?_
 refine wwg ?_
 refine qAp (l:=[(0,.ptr 0 0),(4,.ptr 3 0)]) (h':=[.row (wE hr (.sl 1 FA) (.sl 1 FI) x3 x4 (.int .i64 ak) (.d li) (.d key) (.d (.sl 5 INF)) (.sl 1 [[.sl 1 G1]] (.right 2)) (.sl 1 [] .full) (.sl 5 [] .full) (.sl 2 [] .full) (zDM.map .d)),.row (qAi a),.right 1 1,.row [.I 1,.I 0,.I 40010,.I 73048,.I 1,.I 50,.d (.sl 1 FA)],.room]) yf (HLe.refl _) ?_
 refine wwn ?_
 refine wwc hb2 ?_
 refine wwn ?_
 refine qAd (qBs (v:=.I 0) (H':=[.row (wE hr (.sl 1 FA) (.sl 1 FI) x3 x4 (.int .i64 ak) (.d li) (.d key) (.d (.sl 5 INF)) (.sl 1 [[.sl 1 G1],[.sl 1 G2]] (.right 2)) (.sl 1 [] .full) (.sl 5 [] .full) (.sl 2 [] .full) (zDM.map .d)),.row (qAi a),.right 1 2,.row [.I 1,.I 0,.I 40010,.I 73048,.I 1,.I 50,.d (.sl 1 FA)],.room]) rfl rfl (add [[.sl 1 G1]] G2 (by simp)) [0,1,2] (by decide) rfl rfl rfl rfl rfl rfl) rfl ?_
 refine wwn ?_
 refine qAa rfl (fun c2=>?_) (fun c2=>?_)
 ·exact absurd c2 (by simp)
 refine qAp (l:=[(0,.ptr 0 0)]) (h':=[.row (wE hr (.sl 1 FA) (.sl 1 FI) x3 x4 (.int .i64 ak) (.d li) (.d key) (.d (.sl 5 INF)) (.sl 1 [[.sl 1 G1],[.sl 1 G2]] (.right 2)) (.sl 1 [] .full) (.sl 5 [] .full) (.sl 2 [] .full) (zDM.map .d)),.row (qAi a),.right 1 2,.row [.I 1,.I 0,.I 40010,.I 73048,.I 1,.I 50,.d (.sl 1 FA)],.room]) yf (HLe.refl _) ?_
 refine wwn ?_
 refine qBh (fun i=>bif Nat.beq i 3||Nat.beq i 7 then [0] else bif Nat.beq i 9||Nat.beq i 10 then [4] else []) (fun i=>bif Nat.beq i 9||Nat.beq i 10 then [4] else []) mixed (by kernel_rfl) ?_
 refine wwg ?_
 refine qAk (v:=.ptr 4 0) (os:=[.row [.I 0,.I 0,.I 0,.I 0,.I 0,.I 0,.sl 1 [] .full]]) (fun k hk1 hk2=>allocAt_ok (i0:=4) (i:=⟨.struct [(0,1,false),(1,1,false),(2,1,false),(3,1,false),(4,1,false),(5,1,false),(6,1,false)],7,72,[.I 0,.I 0,.I 0,.I 0,.I 0,.I 0,.sl 1 [] .full]⟩) hT rfl rfl ((hk2 4 List.mem_cons_self).trans rfl)) rfl ?_
 refine wwg ?_
 refine qAp (l:=[(0,.ptr 0 0),(6,.ptr 4 0)]) (h':=[.row (wE hr (.sl 1 FA) (.sl 1 FI) x3 x4 (.int .i64 ak) (.d li) (.d key) (.d (.sl 5 INF)) (.sl 1 [[.sl 1 G1],[.sl 1 G2]] (.right 2)) (.sl 1 [] .full) (.sl 5 [] .full) (.sl 2 [] .full) (zDM.map .d)),.row (qAi a),.right 1 2,.row [.I 1,.I 0,.I 40010,.I 73048,.I 1,.I 50,.d (.sl 1 FA)],.row [.I 2,.I 1,.I 40010,.I 73048,.I 1,.I 50,.d (.sl 1 FI)]]) yf (HLe.refl _) ?_
 refine wwn ?_
 refine wwc hb3 ?_
 refine wwn ?_
 refine qAd (qBs (v:=.I 0) (H':=[.row (wE hr (.sl 1 FA) (.sl 1 FI) x3 x4 (.int .i64 ak) (.d li) (.d key) (.d (.sl 5 INF)) (.sl 1 [[.sl 1 G1],[.sl 1 G2],[.sl 1 G3]] (.right 2)) (.sl 1 [] .full) (.sl 5 [] .full) (.sl 2 [] .full) (zDM.map .d)),.row (qAi a),.right 1 3,.row [.I 1,.I 0,.I 40010,.I 73048,.I 1,.I 50,.d (.sl 1 FA)],.row [.I 2,.I 1,.I 40010,.I 73048,.I 1,.I 50,.d (.sl 1 FI)]]) rfl rfl (add [[.sl 1 G1],[.sl 1 G2]] G3 (by simp)) [0,1,2] (by decide) rfl rfl rfl rfl rfl rfl) rfl ?_
 refine wwn ?_
 refine qAa rfl (fun c3=>?_) (fun c3=>?_)
 ·exact absurd c3 (by simp)
 refine qAp (l:=[(0,.ptr 0 0)]) (h':=[.row (wE hr (.sl 1 FA) (.sl 1 FI) x3 x4 (.int .i64 ak) (.d li) (.d key) (.d (.sl 5 INF)) (.sl 1 [[.sl 1 G1],[.sl 1 G2],[.sl 1 G3]] (.right 2)) (.sl 1 [] .full) (.sl 5 [] .full) (.sl 2 [] .full) (zDM.map .d)),.row (qAi a),.right 1 3,.row [.I 1,.I 0,.I 40010,.I 73048,.I 1,.I 50,.d (.sl 1 FA)],.row [.I 2,.I 1,.I 40010,.I 73048,.I 1,.I 50,.d (.sl 1 FI)]]) yf (HLe.refl _) ?_
 refine wwn ?_
 refine wwc hi ?_
 refine wwn ?_
 refine qAd (qBs (v:=.I 0) (H':=[.row (wE hr (.sl 1 FA) (.sl 1 FI) x3 x4 (.int .i64 ak) (.d li) (.d key) (.d (.sl 5 INF)) (.sl 1 [[.sl 1 G1],[.sl 1 G2],[.sl 1 G3],[.sl 1 G4]] (.right 2)) (.sl 1 [] .full) (.sl 5 [] .full) (.sl 2 [] .full) (zDM.map .d)),.row (qAi a),.right 1 4,.row [.I 1,.I 0,.I 40010,.I 73048,.I 1,.I 50,.d (.sl 1 FA)],.row [.I 2,.I 1,.I 40010,.I 73048,.I 1,.I 50,.d (.sl 1 FI)]]) rfl rfl (add [[.sl 1 G1],[.sl 1 G2],[.sl 1 G3]] G4 (by simp)) [0,1,2] (by decide) rfl rfl rfl rfl rfl rfl) rfl ?_
 refine wwn ?_
 refine qAa rfl (fun c4=>?_) (fun c4=>?_)
 ·exact absurd c4 (by simp)
 refine qAp (l:=[(0,.ptr 0 0)]) (h':=[.row (wE hr (.sl 1 FA) (.sl 1 FI) x3 x4 (.int .i64 ak) (.d li) (.d key) (.d (.sl 5 INF)) (.sl 1 [[.sl 1 G1],[.sl 1 G2],[.sl 1 G3],[.sl 1 G4]] (.right 2)) (.sl 1 [] .full) (.sl 5 [] .full) (.sl 2 [] .full) (zDM.map .d)),.row (qAi a),.right 1 4,.row [.I 1,.I 0,.I 40010,.I 73048,.I 1,.I 50,.d (.sl 1 FA)],.row [.I 2,.I 1,.I 40010,.I 73048,.I 1,.I 50,.d (.sl 1 FI)]]) yf (HLe.refl _) ?_
 refine wwn ?_
 refine wwc hh ?_
 refine wwn ?_
 refine qAa rfl (fun c5=>?_) (fun c5=>?_)
 ·exact absurd c5 (by simp)
 refine wwn ?_
 refine wwc hp ?_
 refine wwn ?_
 refine qAa rfl (fun c6=>?_) (fun c6=>?_)
 ·exact absurd c6 (by simp)
 refine qAp (l:=[(0,.ptr 0 0),(9,.I P)]) (h':=[.row (wE hr (.sl 1 FA) (.sl 1 FI) x3 x4 (.int .i64 ak) (.d li) (.d key) (.d (.sl 5 INF)) (.sl 1 [[.sl 1 G1],[.sl 1 G2],[.sl 1 G3],[.sl 1 G4]] (.right 2)) (.sl 1 [] .full) (.sl 5 [] .full) (.sl 2 [] .full) (zDM.map .d)),.row (qAi a),.right 1 4,.row [.I 1,.I 0,.I 40010,.I 73048,.I 1,.I 50,.d (.sl 1 FA)],.row [.I 2,.I 1,.I 40010,.I 73048,.I 1,.I 50,.d (.sl 1 FI)]]) yf (HLe.refl _) ?_
 refine qBw ?_
 refine qAl (qAf ?_)
 refine wws ?_
 refine wwc ha ?_
 refine wws ?_
 refine qAd (qBs (v:=.I 0) (H':=[.row (wE hr (.sl 1 FA) (.sl 1 FI) x3 x4 (.int .i64 ak) (.d li) (.d key) (.d (.sl 5 INF)) (.sl 1 [[.sl 1 G1],[.sl 1 G2],[.sl 1 G3],[.sl 1 G4],[.sl 1 G5]] (.right 2)) (.sl 1 [] .full) (.sl 5 [] .full) (.sl 2 [] .full) (zDM.map .d)),.row (qAi a),.right 1 5,.row [.I 1,.I 0,.I 40010,.I 73048,.I 1,.I 50,.d (.sl 1 FA)],.row [.I 2,.I 1,.I 40010,.I 73048,.I 1,.I 50,.d (.sl 1 FI)]]) rfl rfl (add [[.sl 1 G1],[.sl 1 G2],[.sl 1 G3],[.sl 1 G4]] G5 (by simp)) [0,1,2] (by decide) rfl rfl rfl rfl rfl rfl) rfl ?_
 refine wws ?_
 refine qAp (l:=[(2,.I 0)]) (h':=[.row (wE hr (.sl 1 FA) (.sl 1 FI) x3 x4 (.int .i64 ak) (.d li) (.d key) (.d (.sl 5 INF)) (.d (.sl 1 [[.sl 1 G1],[.sl 1 G2],[.sl 1 G3],[.sl 1 G4],[.sl 1 G5]])) (.sl 1 [] .full) (.sl 5 [] .full) (.sl 2 [] .full) (zDM.map .d)),.row (qAi a),.dead,.dead,.dead]) yf ⟨by
   show AllLe _ _
   exact ⟨.refl _,.refl _,.refl _,.refl _,.refl _,.refl _,.refl _,.refl _,.refl _,.refl _,.refl _,.refl _,.refl _,.refl _,.refl _,.refl _,.refl _,.refl _,.refl _,.refl _,.refl _,.refl _,.dat,AllLe.refl _⟩,ObLe.refl _,trivial,trivial,trivial,trivial⟩ ?_
 refine qQu ?_
 exact rx ⟨rfl,rfl⟩ (h4:=show (2:Nat)=2 from rfl)
theorem vAb (hr:Int) (x1 x2 x3 x4 x5 li key inf s1 s2 s3 s4 s5:Dat) (G1 G2 G3 G4 G5 C SO:List (List Dat)) (a:Aut)
  (hEn:Spec Tryz.prog 97 [qEb a.signer] [] (fun r h'=>r=.tup [.d (.sl 1 C),.I 0]∧h'=[]))
  (hM:Spec Tryz.prog 98 [.I (a.sk:Int),.d (.sl 1 C),.d (.sl 1 [[.sl 1 G1],[.sl 1 G2],[.sl 1 G3],[.sl 1 G4],[.sl 1 G5]])] [] (fun r h'=>r=.tup [.agg [.d s1,.d s2,.d s3,.d s4,.d s5],.I 0]∧h'=[]))
  (hS:Spec Tryz.prog 99 [.agg [.d s1,.d s2,.d s3,.d s4,.d s5]] [] (fun r h'=>r=.tup [.d (.sl 1 SO),.I 0]∧h'=[])) :
  Spec Tryz.prog 35 [.ptr 0 0] [.row (wE hr x1 x2 x3 x4 x5 (.d li) (.d key) (.d inf) (.d (.sl 1 [[.sl 1 G1],[.sl 1 G2],[.sl 1 G3],[.sl 1 G4],[.sl 1 G5]])) (.sl 1 [] .full) (.sl 5 [] .full) (.sl 2 [] .full) (zDM.map .d)),.row (qAi a)] (fun r h'=>r=.I 0∧h'=[.row (wE hr x1 x2 x3 x4 x5 (.d li) (.d key) (.d inf) (.d (.sl 1 [[.sl 1 G1],[.sl 1 G2],[.sl 1 G3],[.sl 1 G4],[.sl 1 G5]])) (.d (.sl 1 SO)) (.sl 5 [] .full) (.sl 2 [] .full) (zDM.map .d)),.row (qAi a)]):=by
 have f4:=vMs 4
 have f1:=vMs 1
 have f2:=vMs 2
 obtain ⟨sta,roots,links,secs,⟨y1,y2,y3,y4,y5,y6,y7,y8,y9,y10,y11⟩,lister,sk,lk,next,list,rev,defs,seed⟩:=a
 simp only at hM
 refine qAb hT Tryz.func35 rfl rfl rfl rfl ?_;intro E hE
 refine qAo ?_
 refine wwn ?_
 refine qAd (qAc (indexAddr_ok hT rfl rfl rfl rfl (by show (0:Int)≤0;omega) rfl)) rfl ?_
 refine wwn ?_
 refine wwc f4 ?_
 refine wwn ?_
 refine qAa rfl (fun c1=>?_) (fun c1=>?_)
 ·exact absurd c1 (by simp)
 refine qAp (l:=[(0,.ptr 0 0)]) (h':=[.row (wE hr x1 x2 x3 x4 x5 (.d li) (.d key) (.d inf) (.d (.sl 1 [[.sl 1 G1],[.sl 1 G2],[.sl 1 G3],[.sl 1 G4],[.sl 1 G5]])) (.sl 1 [] .full) (.sl 5 [] .full) (.sl 2 [] .full) (zDM.map .d)),.row (qAi ⟨sta,roots,links,secs,⟨y1,y2,y3,y4,y5,y6,y7,y8,y9,y10,y11⟩,lister,sk,lk,next,list,rev,defs,seed⟩),.room]) yf (HLe.refl _) ?_
 refine wwn ?_
 refine wwc hEn ?_
 refine wwn ?_
 refine qAa rfl (fun c2=>?_) (fun c2=>?_)
 ·exact absurd c2 (by simp)
 refine qAp (l:=[(0,.ptr 0 0),(5,.d (.sl 1 C))]) (h':=[.row (wE hr x1 x2 x3 x4 x5 (.d li) (.d key) (.d inf) (.d (.sl 1 [[.sl 1 G1],[.sl 1 G2],[.sl 1 G3],[.sl 1 G4],[.sl 1 G5]])) (.sl 1 [] .full) (.sl 5 [] .full) (.sl 2 [] .full) (zDM.map .d)),.row (qAi ⟨sta,roots,links,secs,⟨y1,y2,y3,y4,y5,y6,y7,y8,y9,y10,y11⟩,lister,sk,lk,next,list,rev,defs,seed⟩),.room]) yf (HLe.refl _) ?_
 refine wwn ?_
 refine qBh (fun i=>bif Nat.beq i 3||Nat.beq i 11 then [0] else bif Nat.beq i 6 then [1] else bif Nat.beq i 16||Nat.beq i 17 then [2] else []) (fun i=>bif Nat.beq i 16||Nat.beq i 17 then [2] else []) mixed (by kernel_rfl) ?_
 refine wwg ?_
 refine wwdc hM ?_
 refine wwg ?_
 refine qAk (v:=.ptr 2 0) (os:=[.row [.I 0,.sl 2 [] .full,.sl 1 [] .full,.I 0,.I 0]]) (fun k hk1 hk2=>allocAt_ok (i0:=2) (i:=⟨.struct [(0,1,false),(1,1,false),(2,1,false),(3,2,true)],5,72,[.I 0,.sl 2 [] .full,.sl 1 [] .full,.I 0,.I 0]⟩) hT rfl rfl ((hk2 2 List.mem_cons_self).trans rfl)) rfl ?_
 refine wwg ?_
 refine qAp (l:=[(0,.ptr 0 0),(6,.I 0),(7,.ptr 2 0)]) (h':=[.row (wE hr x1 x2 x3 x4 x5 (.d li) (.d key) (.d inf) (.d (.sl 1 [[.sl 1 G1],[.sl 1 G2],[.sl 1 G3],[.sl 1 G4],[.sl 1 G5]])) (.sl 1 [] .full) (.sl 5 [] .full) (.sl 2 [] .full) (zDM.map .d)),.row (qAi ⟨sta,roots,links,secs,⟨y1,y2,y3,y4,y5,y6,y7,y8,y9,y10,y11⟩,lister,sk,lk,next,list,rev,defs,seed⟩),.row [.d s1,.d s2,.d s3,.d s4,.d s5]]) yf (HLe.refl _) ?_
 refine wwn ?_
 refine qAa rfl (fun c3=>?_) (fun c3=>?_)
 ·exact absurd c3 (by simp)
 refine wwn ?_
 refine wwc hS ?_
 refine wwn ?_
 refine qAa rfl (fun c4=>?_) (fun c4=>?_)
 ·exact absurd c4 (by simp)
 refine qAp (l:=[(0,.ptr 0 0)]) (h':=[.row (wE hr x1 x2 x3 x4 x5 (.d li) (.d key) (.d inf) (.d (.sl 1 [[.sl 1 G1],[.sl 1 G2],[.sl 1 G3],[.sl 1 G4],[.sl 1 G5]])) (.d (.sl 1 SO)) (.sl 5 [] .full) (.sl 2 [] .full) (zDM.map .d)),.row (qAi ⟨sta,roots,links,secs,⟨y1,y2,y3,y4,y5,y6,y7,y8,y9,y10,y11⟩,lister,sk,lk,next,list,rev,defs,seed⟩),.row [.d s1,.d s2,.d s3,.d s4,.d s5]]) yf (HLe.refl _) ?_
 refine wwn ?_
 refine qAd (qAc (indexAddr_ok hT rfl rfl rfl rfl (by show (0:Int)≤1;omega) rfl)) rfl ?_
 refine wwn ?_
 refine wwc f1 ?_
 refine wwn ?_
 refine qAa rfl (fun c5=>?_) (fun c5=>?_)
 ·exact absurd c5 (by simp)
 refine wwn ?_
 refine wwc f2 ?_
 refine wwn ?_
 refine qAa rfl (fun c6=>?_) (fun c6=>?_)
 ·exact absurd c6 (by simp)
 refine wwn ?_
 exact rx ⟨rfl,rfl⟩ (h4:=show (2:Nat)=2 from rfl)
def opK:Nat→List (List Dat)
 | 0=>[]
 | 1=>[[Dat.int .i64 2,.int .i64 1,.int .i64 0,.int .i64 0,.int .i64 0]]
 | _=>[[Dat.int .i64 2,.int .i64 1,.int .i64 0,.int .i64 0,.int .i64 0],[.int .i64 3,.int .i64 1,.int .i64 0,.int .i64 0,.int .i64 0]]
theorem vAh (hr P:Int) (x1 x2 x3 x4 x5 li key:Dat) (G1 G2 G3 G4 G5 SO:List (List Dat)) (a:Aut):Spec Tryz.prog 102 [.ptr 0 0] [.row (wE hr x1 x2 x3 x4 x5 (.d li) (.d key) (.d (.sl 5 (qVp P 5))) (.d (.sl 1 [[.sl 1 G1],[.sl 1 G2],[.sl 1 G3],[.sl 1 G4],[.sl 1 G5]])) (.d (.sl 1 SO)) (.sl 5 [] .full) (.sl 2 [] .full) (zDM.map .d)),.row (qAi a)] (fun r h'=>r=.d (.sl 5 (opK 5))∧h'=[.row (wE hr x1 x2 x3 x4 x5 (.d li) (.d key) (.d (.sl 5 (qVp P 5))) (.d (.sl 1 [[.sl 1 G1],[.sl 1 G2],[.sl 1 G3],[.sl 1 G4],[.sl 1 G5]])) (.d (.sl 1 SO)) (.sl 5 [] .full) (.sl 2 [] .full) (zDM.map .d)),.row (qAi a)]):=by
 have f5:=Spec.args (args:=[.sl 1 [] .full,.I 5]) (by exact ⟨.dat,.refl _,trivial⟩) (vMs 5)
 refine qAb hT Tryz.func102 rfl rfl rfl rfl ?_;intro E hE
 refine qAo ?_
 refine qAl (qAf ?_)
 refine wws ?_
 refine qAl (qAf ?_)
 refine wws ?_
 refine qBb 3 5 2 (es:=[]) (.inr ⟨rfl,rfl⟩) rfl ?_
 refine qAp (l:=[(0,.ptr 0 0),(3,.sl 5 (opK 0) (.right 2))]) (h':=[.row (wE hr x1 x2 x3 x4 x5 (.d li) (.d key) (.d (.sl 5 (qVp P 5))) (.d (.sl 1 [[.sl 1 G1],[.sl 1 G2],[.sl 1 G3],[.sl 1 G4],[.sl 1 G5]])) (.d (.sl 1 SO)) (.sl 5 [] .full) (.sl 2 [] .full) (zDM.map .d)),.row (qAi a),.right 5 0]) yf (HLe.refl _) ?_
 refine wwn ?_
 refine qBg (ι:=Nat) (fun i=>[(0,.ptr 0 0),(3,.sl 5 (opK i) (.right 2)),(9,.d (.sl 5 (qVp P 5))),(10,.I 5),(11,.I (i:Int))]) (fun i=>[.row (wE hr x1 x2 x3 x4 x5 (.d li) (.d key) (.d (.sl 5 (qVp P 5))) (.d (.sl 1 [[.sl 1 G1],[.sl 1 G2],[.sl 1 G3],[.sl 1 G4],[.sl 1 G5]])) (.d (.sl 1 SO)) (.sl 5 [] .full) (.sl 2 [] .full) (zDM.map .d)),.row (qAi a),.right 5 (opK i).length]) (fun i=>i≤5) (fun i=>5-i) 0 (by omega)
  yf (HLe.refl _) ?_
 intro i hi
 rcases (by omega:i=0∨i=1∨i=2∨i=3∨i=4∨i=5) with rfl | rfl | rfl | rfl | rfl | rfl
 ·refine wwn ?_
  refine qAa rfl (fun q=>?_) (fun q=>absurd q (by decide))
  refine wwn ?_
  refine qAd (qAc (indexAddr_ok hT rfl rfl rfl rfl (by show (0:Int)≤0;omega) rfl)) rfl ?_
  refine wwn ?_
  refine wwgc f5 ?_
  refine wwn ?_
  refine qAa rfl (fun q=>?_) (fun q=>absurd q (by decide))
  refine wwn ?_
  refine qAd (qAh (i:=2) (es2:=[[Dat.int .i64 2,.int .i64 1,.int .i64 0,.int .i64 0,.int .i64 0]]) hT rfl rfl rfl rfl rfl rfl (by show (0+1)*(40+1)≤140737488355328;omega)) rfl ?_
  refine wwn ?_
  exact ⟨1,[_],by omega,by omega,yf,HLe.refl _,Env.below_mono hE (by simp),rfl,rfl⟩
 ·refine wwn ?_
  refine qAa rfl (fun q=>?_) (fun q=>absurd q (by decide))
  refine wwn ?_
  refine qAd (qAc (indexAddr_ok hT rfl rfl rfl rfl (by show (0:Int)≤1;omega) rfl)) rfl ?_
  refine wwn ?_
  refine wwgc f5 ?_
  refine wwn ?_
  refine qAa rfl (fun q=>?_) (fun q=>absurd q (by decide))
  refine wwn ?_
  refine qAd (qAh (i:=2) (es2:=[[Dat.int .i64 3,.int .i64 1,.int .i64 0,.int .i64 0,.int .i64 0]]) hT rfl rfl rfl rfl rfl rfl (by show (1+1)*(40+1)≤140737488355328;omega)) rfl ?_
  refine wwn ?_
  exact ⟨2,[_],by omega,by omega,yf,HLe.refl _,Env.below_mono hE (by simp),rfl,rfl⟩
 ·refine wwn ?_
  refine qAa rfl (fun q=>?_) (fun q=>absurd q (by decide))
  refine wwn ?_
  refine qAd (qAc (indexAddr_ok hT rfl rfl rfl rfl (by show (0:Int)≤2;omega) rfl)) rfl ?_
  refine wwn ?_
  refine qCh (v:=.d (.bool false)) rfl rfl rfl (fun hg=>absurd hg (by decide)) ?_
  refine wwn ?_
  refine qAa rfl (fun q=>absurd q (by decide)) (fun q=>?_)
  refine wwn ?_
  exact ⟨3,[_],by omega,by omega,yf,HLe.refl _,Env.below_mono hE (by simp),rfl,rfl⟩
 ·refine wwn ?_
  refine qAa rfl (fun q=>?_) (fun q=>absurd q (by decide))
  refine wwn ?_
  refine qAd (qAc (indexAddr_ok hT rfl rfl rfl rfl (by show (0:Int)≤3;omega) rfl)) rfl ?_
  refine wwn ?_
  refine qCh (v:=.d (.bool false)) rfl rfl rfl (fun hg=>absurd hg (by decide)) ?_
  refine wwn ?_
  refine qAa rfl (fun q=>absurd q (by decide)) (fun q=>?_)
  refine wwn ?_
  exact ⟨4,[_],by omega,by omega,yf,HLe.refl _,Env.below_mono hE (by simp),rfl,rfl⟩
 ·refine wwn ?_
  refine qAa rfl (fun q=>?_) (fun q=>absurd q (by decide))
  refine wwn ?_
  refine qAd (qAc (indexAddr_ok hT rfl rfl rfl rfl (by show (0:Int)≤4;omega) rfl)) rfl ?_
  refine wwn ?_
  refine qCh (v:=.d (.bool false)) rfl rfl rfl (fun hg=>absurd hg (by decide)) ?_
  refine wwn ?_
  refine qAa rfl (fun q=>absurd q (by decide)) (fun q=>?_)
  refine wwn ?_
  exact ⟨5,[_],by omega,by omega,yf,HLe.refl _,Env.below_mono hE (by simp),rfl,rfl⟩
 ·refine wwn ?_
  refine qAa rfl (fun q=>absurd q (by decide)) (fun q=>?_)
  refine qAp (l:=[(3,.d (.sl 5 (opK 5)))]) (h':=[.row (wE hr x1 x2 x3 x4 x5 (.d li) (.d key) (.d (.sl 5 (qVp P 5))) (.d (.sl 1 [[.sl 1 G1],[.sl 1 G2],[.sl 1 G3],[.sl 1 G4],[.sl 1 G5]])) (.d (.sl 1 SO)) (.sl 5 [] .full) (.sl 2 [] .full) (zDM.map .d)),.row (qAi a),.dead]) ⟨.dat,trivial⟩ ⟨ObLe.refl _,ObLe.refl _,trivial,trivial⟩ ?_
  refine wwn ?_
  exact rx ⟨rfl,rfl⟩ (h4:=show (2:Nat)=2 from rfl)
end Tdoc
