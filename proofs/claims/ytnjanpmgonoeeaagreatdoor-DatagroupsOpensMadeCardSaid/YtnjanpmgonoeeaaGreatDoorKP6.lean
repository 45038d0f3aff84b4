/- The texts O9 OA OB OC OD ZS OI Y5 ZF ZG OJ OJ2 ZK0 ZJ ZI ZH Y6 ZK G4 OL: each says at its head what it shows. Part 6 of the proof; no conditions beyond the theorems' own. -/
import Derived.Test.YtnjanpmgonoeeaaGreatDoorKP5
import Derived.Test.YtnjanpmgonoeeaaGreatDoorKP4
import Derived.Test.YtnjanpmgonoeeaaGreatDoorKP3
import Derived.Test.YtnjanpmgonoeeaaGreatDoorKP2
/- The two sides of OpenZone answer alike. -/
set_option linter.unusedVariables false
set_option linter.unusedSimpArgs false
namespace Tdoc
open Go Go.Proofs
theorem zoneP_zoneO (b:List UInt8):zoneP b=zoneO b:=by
 have hz:=openZ_eq b 1
 have hwf:=openY_wf b 1
 unfold zoneO zoneP
 rw [hz.1,hz.2]
 generalize openY b 1=q at hwf
 obtain ⟨l,e⟩:=q
 simp only at hwf ⊢
 by_cases h1:e≠0
 ·rw [if_pos h1,if_pos h1]
 rw [if_neg h1,if_neg h1]
 by_cases h2:l.length=1
 case neg=>rw [zoneL_many h2,primL_many h2];rfl
 obtain ⟨t',v,k,rfl⟩:∃ t v k,l=[.mk t v k]:=match l,h2 with
  | [.mk t v k],_=>⟨t,v,k,rfl⟩
 have hw:=hwf _ (List.mem_singleton.mpr rfl)
 have hp:=primF_any (t':=t') (t:=24351) (v:=v) (k:=k) (fun h=>hw.prim (by rw [h];rfl))
 unfold zoneL primL
 simp only [valN]
 by_cases h4:t'=24351
 ·rw [if_pos (hp.mpr h4),if_pos h4];rfl
 ·rw [if_neg (fun h=>h4 (hp.mp h)),if_neg h4];rfl
end Tdoc
/- Plain: details that were read can be written. -/
set_option linter.unusedVariables false
set_option linter.unusedSimpArgs false
namespace Tdoc
open Go
theorem belongs_tag {n t:Int} (h:belongsF n t=true):tagOk t=true∧tagCons t=false:=by
 have ht:t=24334∨t=24336∨t=24337∨t=24338∨t=24339∨t=24340∨t=24341∨t=24386∨t=24345∨t=24358∨t=24347∨t=24405:=by
  unfold belongsF at h
  split at h
  ·simp at h;omega
  ·simp at h;omega
 rcases ht with rfl | rfl | rfl | rfl | rfl | rfl | rfl | rfl | rfl | rfl | rfl | rfl <;> exact ⟨by decide,by decide⟩
theorem detL_all (n:Int):∀ (l seen:List Det),detL n seen l=0→∀ x,x∈l→belongsF n x.tag=true∧x.text.length≤99
 | [],_,_,x,hx=>by cases hx
 | y::l,seen,h,x,hx=>by
  rw [detL] at h
  by_cases h1:belongsF n y.tag=false
  ·rw [if_pos h1] at h;cases h
  rw [if_neg h1] at h
  by_cases h2:(seen.any fun z=>decide (z.tag=y.tag))=true
  ·rw [if_pos h2] at h;cases h
  rw [if_neg h2] at h
  by_cases h3:y.text.length < 1∨y.text.length > 99
  ·rw [if_pos h3] at h;cases h
  rw [if_neg h3] at h
  cases hx with
  | head=>exact ⟨by simpa using h1,by omega⟩
  | tail _ hx=>exact detL_all n l _ h x hx
theorem chkL_kids (d:Nat) (hd:d≤8):∀ (l:List Det) (c:Nat),(∀ x,x∈l→tagOk x.tag=true∧tagCons x.tag=false)→chkL d (kidsD l) c=(0,c+l.length)
 | [],c,_=>rfl
 | x::l,c,h=>by
  obtain ⟨h1,h2⟩:=h x List.mem_cons_self
  have hx:chkN d (.mk x.tag x.text []) c=(0,c+1):=by
   rw [chkN,if_neg (by rw [h1];simp),if_neg (by rw [h2];simp),if_neg (by omega)]
   rfl
  show chkL d (.mk x.tag x.text []::kidsD l) c=_
  rw [chkL,hx,if_pos rfl,chkL_kids d hd l (c+1) (fun y hy=>h y (List.mem_cons_of_mem _ hy)),List.length_cons]
  congr 1;omega
theorem wrL_kids:∀ (l:List Det),(∀ x,x∈l→x.text.length≤99)→(wrL (kidsD l)).length≤110*l.length
 | [],_=>by simp [kidsD,wrL]
 | x::l,h=>by
  have h1:=h x List.mem_cons_self
  have h2:=wrL_kids l fun y hy=>h y (List.mem_cons_of_mem _ hy)
  have h3:=qCw x.tag x.text [] (kidsD l)
  have h4:(wrL ([]:List Node)).length=0:=rfl
  show (wrL (.mk x.tag x.text []::kidsD l)).length≤_
  simp only [List.length_cons]
  omega
theorem detF_chk (n:Int) (hn:n=11∨n=12) (l:List Det):(detF n l).2=chkDs n l:=by
 unfold detF chkDs
 rw [if_neg (by omega)]
 by_cases h1:l.length > 16
 ·rw [if_pos h1,if_pos h1]
 rw [if_neg h1,if_neg h1]
 by_cases h2:detL n [] l≠0
 ·rw [if_pos h2]
 rw [if_neg h2]
 have h2':detL n [] l=0:=by simpa using h2
 rw [h2']
 have hall:=detL_all n l [] h2'
 have hk:=fun (d:Nat) (hd:d≤8) (c:Nat)=>chkL_kids d hd l c (fun x hx=>belongs_tag (hall x hx).1)
 have hw:=wrL_kids l (fun x hx=>(hall x hx).2)
 have hl2:=listD_length l
 have hch:∀ t:Int,tagOk t=true→tagCons t=true→(encodeP [.mk t [] (.mk 92 (listD l) []::kidsD l)]).2=0:=by
  intro t ht hc
  have e1:chkN 2 (.mk 92 (listD l) []) 1=(0,2):=by
   have hc92:tagCons 92=false:=by decide
   rw [chkN,if_neg (by decide),if_neg (by simp [hc92]),if_neg (by omega)];rfl
  have e2:chkL 2 (.mk 92 (listD l) []::kidsD l) 1=(0,2+l.length):=by
   rw [chkL,e1,if_pos rfl,hk 2 (by omega)]
  have e3:chkL 1 [.mk t [] (.mk 92 (listD l) []::kidsD l)] 0=(0,2+l.length):=by
   have e4:chkN 1 (.mk t [] (.mk 92 (listD l) []::kidsD l)) 0=(0,2+l.length):=by
    rw [chkN,if_neg (by rw [ht];simp),if_neg (by rw [hc];simp),if_neg (by omega)]
    exact e2
   rw [chkL,e4,if_pos rfl];rfl
  have w1:=qCw t [] (.mk 92 (listD l) []::kidsD l) []
  have w2:=qCw 92 (listD l) [] (kidsD l)
  have w4:(wrL ([]:List Node)).length=0:=rfl
  simp only [List.length_nil] at w1
  unfold encodeP
  rw [e3,if_neg (by simp),if_neg (by simp only;omega),if_neg (by omega)]
 unfold wrapG
 rcases hn with rfl | rfl
 ·rw [if_neg (by decide)]
  exact hch _ (by decide) (by decide)
 ·rw [if_neg (by decide)]
  exact hch _ (by decide) (by decide)
def tagsB (r:List Node):List UInt8:=(r.map fun x=>[bOf (tagN x / 256),bOf (tagN x)]).flatten
def detsN (r:List Node):List Det:=r.map fun x=>⟨tagN x,valN x⟩
theorem nb_two {hi lo:UInt8} {t:Int} (ht:0≤t∧t < 65536):((nbN [hi,lo]:Nat):Int)=t↔bOf (t / 256)=hi∧bOf t=lo:=by
 have h1:=UInt8.toNat_lt hi
 have h2:=UInt8.toNat_lt lo
 have e:nbN [hi,lo]=256*hi.toNat+lo.toNat:=by simp [nbN]
 rw [e]
 have ek:∀ (a:Int) (c:UInt8),bOf a=c↔a % 256=(c.toNat:Int):=fun a c=>by
  unfold bOf
  constructor
  ·intro h
   rw [← h]
   simp
   omega
  ·intro h
   apply UInt8.toNat_inj.1
   simp
   omega
 rw [ek,ek]
 omega
theorem detG_eq:∀ (r:List Node) (v:List UInt8),(∀ x,x∈r→(0≤tagN x∧tagN x < 65536)∧(tagCons (tagN x)=false→kidN x=[])) →
  detG v r=if (r.all fun x=>!tagCons (tagN x))=true∧tagsB r=v then some (detsN r) else none
 | [],[],_=>by simp [detG,tagsB,detsN]
 | [],c::t,_=>by
  rw [if_neg (by simp [tagsB])]
  cases t <;> rfl
 | x::r,v,h=>by
  obtain ⟨h1,h2⟩:=h x List.mem_cons_self
  have ih:=fun v=>detG_eq r v fun y hy=>h y (List.mem_cons_of_mem _ hy)
  have htb:tagsB (x::r)=bOf (tagN x / 256)::bOf (tagN x)::tagsB r:=rfl
  have hdd:detsN (x::r)=⟨tagN x,valN x⟩::detsN r:=rfl
  rw [htb,hdd]
  match v with
  | []=>rw [if_neg (by simp)];rfl
  | [_]=>rw [if_neg (by simp)];rfl
  | hi::lo::v =>
   rw [detG]
   by_cases hb:bOf (tagN x / 256)=hi∧bOf (tagN x)=lo
   ·have hn:=(nb_two (hi:=hi) (lo:=lo) h1).2 hb
    rw [hn,ih v]
    cases hc:tagCons (tagN x)
    ·have hpr:primF x (tagN x) (-1)=true:=primF_iff.2 ⟨rfl,h2 hc,.inl (by omega)⟩
     rw [if_neg (by rw [hpr];simp),hb.1,hb.2]
     simp only [List.all_cons,hc,Bool.not_false,Bool.true_and,List.cons.injEq,true_and]
     split <;> rfl
    ·rw [if_pos (.inl rfl),if_neg (by simp [hc])]
   ·have hn:((nbN [hi,lo]:Nat):Int)≠tagN x:=fun h=>hb ((nb_two h1).1 h)
    have hpr:primF x ((nbN [hi,lo]:Nat):Int) (-1)=false:=by
     cases hp:primF x ((nbN [hi,lo]:Nat):Int) (-1)
     ·rfl
     ·exact absurd (primF_iff.1 hp).1.symm hn
    rw [if_pos (.inr hpr),if_neg (fun h=>hb (by simp only [List.cons.injEq] at h;exact ⟨h.2.1,h.2.2.1⟩))]
end Tdoc
/- datagroups.OpenDetails. -/
set_option maxHeartbeats 8000000
set_option maxRecDepth 100000
set_option linter.unusedVariables false
set_option linter.unusedSimpArgs false
namespace Tdoc
open Go Go.Proofs
theorem tagsB_append (a b:List Node):tagsB (a++b)=tagsB a++tagsB b:=by simp [tagsB]
theorem detsN_append (a b:List Node):detsN (a++b)=detsN a++detsN b:=by simp [detsN]
theorem tagsB_len:∀ (r:List Node),(tagsB r).length=2*r.length
 | []=>rfl
 | x::r=>by
  have ih:=tagsB_len r
  show (bOf (tagN x / 256)::bOf (tagN x)::tagsB r).length=_
  simp only [List.length_cons,ih];omega
theorem tag_range {d:Nat} {x:Node} (h:WfN d x):0 < tagN x∧tagN x < 65536:=by
 obtain ⟨t,v,k⟩:=x
 exact qCx (chkN_inv h).1
def detB2 (n:Int) (l:List Node):Int×List Det×Int:=match l with
 | []=>(0,[],1)
 | x::r=>if tagN x≠92 then (0,[],1) else if (r.all fun y=>!tagCons (tagN y))=false then (0,[],1) else if tagsB r≠valN x then (0,[],1)
  else if chkDs n (detsN r)≠0 then (0,[],chkDs n (detsN r)) else (n,detsN r,0)
def detP (b:List UInt8):Int×List Det×Int :=
 if (openX b).2.2≠0 then (0,[],(openX b).2.2) else if ¬ ((openX b).1=11∨(openX b).1=12) then (0,[],4) else detB2 (openX b).1 (openX b).2.1
theorem OpenDet_spec (b:List UInt8) (hb:b.length≤9223372036854775807):Spec Tryz.prog 40 [.d (.sl 1 (encB b))] []
  (fun r h'=>r=.tup [.d (.int .i64 (detP b).1),.d (.sl 2 (encDs (detP b).2.1)),.d (.int .i64 (detP b).2.2)]∧h'=[]):=by
 have ho:=Open_spec b (by omega)
 have hwg:=openX_wg b
 have hwf:∀ x,x∈(openX b).2.1→-9223372036854775808≤tagN x∧tagN x≤9223372036854775807:=fun x hx=>by
  have:=tag_range (openX_wf b x hx)
  omega
 unfold detP
 generalize openX b=q at ho hwg hwf
 obtain ⟨n,l,e⟩:=q
 simp only at ho hwg hwf ⊢
 by_cases h1:e=0
 case neg =>
  have hn:(e == 0)=false:=by simpa using h1
  rw [if_pos h1]
  refine qAb hT Tryz.func40 rfl rfl rfl rfl ?_;intro E hE
  refine ww ?_
  refine wwc ho ?_
  refine wwk hn ?_
  refine qAa rfl (fun c1=>?_) (fun c1=>?_)
  ·exact absurd c1 (by rw [hn];simp)
  refine ww ?_
  refine qAa rfl (fun c2=>?_) (fun c2=>?_)
  ·refine ww ?_
   exact wwr
  ·exact absurd (by simpa using c2) h1
 subst h1
 rw [if_neg (by omega)]
 by_cases h2:n=11∨n=12
 case neg =>
  have hnb:=detailed_none n h2
  rw [if_pos h2]
  refine qAb hT Tryz.func40 rfl rfl rfl rfl ?_;intro E hE
  refine ww ?_
  refine wwc ho ?_
  refine ww ?_
  refine wwgc hnb ?_
  refine ww ?_
  refine qAy rfl rfl rfl (fun hg=>⟨(sg (C:=True) hg).1,qAc (sliceNil_ok rfl rfl Tryz.underlying22 rfl)⟩) ?_
  refine ww ?_
  refine qAa rfl (fun c1=>?_) (fun c1=>?_)
  ·refine ww ?_
   refine qAa rfl (fun c2=>?_) (fun c2=>?_)
   ·refine ww ?_
    exact wwr
   ·exact absurd c2 (by simp)
  ·exact absurd c1 (by simp)
 rw [if_neg (by omega)]
 have hdt:=detailed_spec n h2
 obtain ⟨d0,dl,hde⟩:∃ d0 dl,encI (deT n)=d0::dl:=by rcases h2 with rfl | rfl <;> exact ⟨_,_,rfl⟩
 rw [hde] at hdt
 have hlen:=qAh l
 generalize hfin:detB2 n l=fin
 refine qAb hT Tryz.func40 rfl rfl rfl rfl ?_;intro E hE
 refine ww ?_
 refine wwc ho ?_
 refine ww ?_
 refine wwgc hdt ?_
 refine ww ?_
 refine qAy rfl rfl rfl (fun hg=>⟨(sg (C:=True) hg).1,qAc (sliceNil_ok rfl rfl Tryz.underlying22 rfl)⟩) ?_
 refine ww ?_
 refine qAa rfl (fun c1=>?_) (fun c1=>?_)
 ·exact absurd c1 (by simp)
 refine ww ?_
 refine qAa rfl (fun c2=>?_) (fun c2=>?_)
 ·exact absurd c2 (by simp)
 match l,hfin with
 | [],hfin =>
  have hn:(((encNs []).length:Int) == 0)=true:=rfl
  have hfin':((0,[],1):Int×List Det×Int)=fin:=hfin
  subst hfin'
  refine wwk hn ?_
  refine qAa rfl (fun c3=>?_) (fun c3=>?_)
  ·refine ww ?_
   exact wwr
  ·exact absurd c3 (by rw [hn];simp)
 | .mk t0 v0 k0::r,hfin =>
  have hel:(encNs (.mk t0 v0 k0::r))[((0:Int)).toNat]?=some [.int .i64 t0,.sl 1 (encB v0),.sl 3 (encNs k0)]:=rfl
  have hn1:(((encNs (.mk t0 v0 k0::r)).length:Int) == 0)=false:=by rw [hlen];simp;omega
  have hdr:cutL (encNs (.mk t0 v0 k0::r)) 1 ((encNs (.mk t0 v0 k0::r)).length:Int)=encNs r:=by
   unfold cutL
   rw [List.take_of_length_le (by simp)]
   rfl
  have hl1:1≤(encNs (.mk t0 v0 k0::r)).length:=by rw [hlen];simp
  have hlr:=qAh r
  have hwr:wgtL r≤45056:=by simp only [wgtL] at hwg;omega
  have hrl:r.length≤wgtL r:=qDe r
  replace hfin:(if t0≠92 then ((0,[],1):Int×List Det×Int) else if (r.all fun y=>!tagCons (tagN y))=false then (0,[],1) else if tagsB r≠v0 then (0,[],1) else if chkDs n (detsN r)≠0 then (0,[],chkDs n (detsN r)) else (n,detsN r,0))=fin:=hfin
  refine ww ?_
  refine wwgi hel ?_
  refine ww ?_
  refine qAa rfl (fun c3=>?_) (fun c3=>?_)
  ·have c3':t0≠92:=by rw [hn1] at c3;simpa using c3
   rw [if_pos c3'] at hfin
   subst hfin
   refine ww ?_
   exact wwr
  have c3':¬ t0≠92:=by rw [hn1] at c3;simpa using c3
  rw [if_neg c3'] at hfin
  refine ww ?_
  have hd1:(encNs (.mk t0 v0 k0::r)).drop ((1:Int)).toNat=encNs r:=rfl
  rw [hd1]
  refine AW_acquire 6 1 (.inr ⟨rfl,rfl⟩) ?_
  refine AW_acquire 3 2 (.inr ⟨rfl,rfl⟩) ?_
  refine qBg (ι:=Nat) (fun i=>[(2,.d (.int .i64 n)),(5,.d (.sl 3 (encNs (.mk t0 v0 k0::r)))),(37,.d (.sl 3 (encNs r))),(38,.d (.int .i64 (r.length:Int))),(39,.d (.int .i64 (i:Int))),(6,.sl 1 (encB (tagsB (r.take i))) (.right 0)),(3,.sl 2 (encDs (detsN (r.take i))) (.right 1))])
   (fun i=>[.right 1 (encB (tagsB (r.take i))).length,.right 2 (encDs (detsN (r.take i))).length])
   (fun i=>i≤r.length∧(r.drop i).all (fun y=>!tagCons (tagN y))=r.all fun y=>!tagCons (tagN y)) (fun i=>r.length-i) 0 ⟨by omega,by simp⟩ ⟨.refl _,.refl _,.refl _,.int (by rw [hlr]),.refl _,.refl _,.refl _,trivial⟩ (HLe.refl _) ?_
  rintro i ⟨hi,hg⟩
  have hwi:IntKind.i64.wrap ((i:Int)+1)=((i+1:Nat):Int):=by rw [qAd (by omega)];simp
  have hbl:(encB (tagsB (r.take i))).length≤2000000:=by rw [qAg,tagsB_len,List.length_take];omega
  have hdl:(encDs (detsN (r.take i))).length≤1000000:=by rw [qBx];simp [detsN];omega
  have hdl2:(encDs (detsN r)).length≤1000000:=by rw [qBx];simp [detsN];omega
  refine ww ?_
  refine qAa rfl (fun c4=>?_) (fun c4=>?_)
  ·have c4':i < r.length:=by simpa using c4
   have helx:(encNs r)[((i:Int)).toNat]?=some (encN r[i]):=by rw [Int.toNat_natCast];simp [qBv,c4']
   have htk1:r.take (i+1)=r.take i++[r[i]]:=List.take_succ_eq_append_getElem c4'
   have hdr2:r.drop i=r[i]::r.drop (i+1):=List.drop_eq_getElem_cons c4'
   have ht1:encB (tagsB (r.take (i+1)))=encB (tagsB (r.take i))++[[.int .u8 (IntKind.u8.wrap (Int.fdiv (tagN r[i]) (2 ^ (min (8:Int).toNat IntKind.i64.bits))))],[.int .u8 (IntKind.u8.wrap (tagN r[i]))]]:=by rw [htk1,tagsB_append,qBa,bOf_hi,bOf_wrap];rfl
   have ht2:encDs (detsN (r.take (i+1)))=encDs (detsN (r.take i))++[[.int .i64 (tagN r[i]),.str (valN r[i])]]:=by rw [htk1,detsN_append,encDs_append];rfl
   rw [hdr2,List.all_cons] at hg
   have hrng:=hwf r[i] (List.mem_cons_of_mem _ (List.getElem_mem c4'))
   generalize r[i]=y at helx ht1 ht2 hg hrng
   obtain ⟨t,v,k⟩:=y
   rw [encN] at helx
   simp only [tagN,valN] at ht1 ht2 hrng
   replace hg:(!tagCons t&&(r.drop (i+1)).all fun y=>!tagCons (tagN y))=r.all fun y=>!tagCons (tagN y):=hg
   have hcs:=qCn t hrng
   refine ww ?_
   refine wwi helx ?_
   refine ww ?_
   refine wwc hcs ?_
   refine ww ?_
   refine qAa rfl (fun c5=>?_) (fun c5=>?_)
   ·have hc:tagCons t=true:=by simpa using c5
    rw [hc,Bool.not_true,Bool.false_and] at hg
    rw [← hg,if_pos rfl] at hfin
    subst hfin
    refine ww ?_
    exact wwr
   have c5':tagCons t=false:=by simpa using c5
   rw [c5',Bool.not_false,Bool.true_and] at hg
   refine ww ?_
   refine qAe (qAk (i:=0) hT rfl rfl rfl rfl rfl rfl (by show ((encB (tagsB (r.take i))).length+2)*(1+1)≤_;first | omega | (simp only [qAg,qAh,List.length_append,List.length_cons,List.length_nil];omega))) rfl ?_
   refine ww ?_
   refine qBn hT rfl rfl (qAv v) ?_
   rw [qBc]
   refine ww ?_
   refine qAe (qAk (i:=1) hT rfl rfl rfl rfl rfl rfl (by show ((encDs (detsN (r.take i))).length+1)*(24+1)≤_;first | omega | (simp only [qAg,qAh,List.length_append,List.length_cons,List.length_nil];omega))) rfl ?_
   refine ww ?_
   exact ⟨i+1,[_],⟨c4',hg⟩,by omega,⟨.refl _,.refl _,.refl _,.refl _,.int hwi,.slt ht1.symm,.slt ht2.symm,trivial⟩,⟨⟨rfl,by rw [ht1]⟩,⟨rfl,by rw [ht2]⟩,ObLe.refl _,trivial⟩,Env.below_mono hE (by simp),rfl,rfl⟩
  have c4':i=r.length:=by simp at c4;omega
  subst c4'
  rw [List.drop_length,List.all_nil] at hg
  rw [← hg,if_neg (by simp)] at hfin
  rw [List.take_length]
  have hck:=checkD_spec n h2 (detsN r) (by rw [← qBx];exact hdl2)
  have heq:=EqualB_spec (tagsB r) v0
  refine wwe ?_
  refine AW_cut (l:=[(2,.d (.int .i64 n)),(3,.d (.sl 2 (encDs (detsN r)))),(5,.d (.sl 3 (encNs (.mk t0 v0 k0::r)))),(6,.d (.sl 1 (encB (tagsB r))))]) [] [.dead,.dead] (Env.below_mono hE (by simp)) ⟨.refl _,AV.le.dat,.refl _,AV.le.dat,trivial⟩ rfl ⟨trivial,trivial,trivial⟩ rfl ?_
  refine ww ?_
  refine wwi hel ?_
  refine ww ?_
  refine wwc heq ?_
  refine ww ?_
  refine qAa rfl (fun c6=>?_) (fun c6=>?_)
  ·have c6':tagsB r≠v0:=by simpa using c6
   rw [if_pos c6'] at hfin
   subst hfin
   refine ww ?_
   exact wwr
  have c6':¬ tagsB r≠v0:=by simpa using c6
  rw [if_neg c6'] at hfin
  refine ww ?_
  refine wwc hck ?_
  refine ww ?_
  refine qAa rfl (fun c7=>?_) (fun c7=>?_)
  ·have c7':chkDs n (detsN r)≠0:=by simpa using c7
   rw [if_pos c7'] at hfin
   subst hfin
   refine ww ?_
   exact wwr
  have c7':¬ chkDs n (detsN r)≠0:=by simpa using c7
  rw [if_neg c7'] at hfin
  subst hfin
  refine ww ?_
  exact wwr
end Tdoc
/- The two sides of OpenDetails answer alike. -/
set_option linter.unusedVariables false
set_option linter.unusedSimpArgs false
namespace Tdoc
open Go Go.Proofs
theorem kid_nil {d:Nat} {x:Node} (h:WfN d x) (hc:tagCons (tagN x)=false):kidN x=[]:=by
 obtain ⟨t,v,k⟩:=x
 exact h.prim hc
theorem detB_eq (n:Int) (hn:n=11∨n=12) (l:List Node) (hwf:∀ x,x∈l→WfN 2 x):detB2 n l=detB n l:=by
 unfold detB2 detB
 match l,hwf with
 | [],_=>rfl
 | x::r,hwf =>
  have hx:=hwf x List.mem_cons_self
  have hr:∀ y,y∈r→(0≤tagN y∧tagN y < 65536)∧(tagCons (tagN y)=false→kidN y=[]):=fun y hy=>by
   have hy':=hwf y (List.mem_cons_of_mem _ hy)
   have:=tag_range hy'
   exact ⟨by omega,kid_nil hy'⟩
  simp only
  by_cases h1:tagN x=92
  ·have hk:kidN x=[]:=kid_nil hx (by rw [h1];decide)
   have h1':¬ tagN x≠92:=fun h=>h h1
   rw [if_neg h1']
   by_cases hl:((valN x).length:Int)=2*(r.length:Int)
   ·have hp:primF x 92 (2*(r.length:Int))=true:=primF_iff.2 ⟨h1,hk,.inr hl⟩
    rw [if_pos hp]
    unfold contD
    rw [detG_eq r (valN x) hr]
    by_cases ha:(r.all fun y=>!tagCons (tagN y))=false
    ·have hn2:¬ ((r.all fun y=>!tagCons (tagN y))=true∧tagsB r=valN x):=by rw [ha];simp
     rw [if_pos ha,if_neg hn2]
    ·have ha':(r.all fun y=>!tagCons (tagN y))=true:=by simpa using ha
     rw [if_neg ha]
     by_cases ht:tagsB r=valN x
     ·have ht':¬ tagsB r≠valN x:=fun h=>h ht
      have hq:(r.all fun y=>!tagCons (tagN y))=true∧tagsB r=valN x:=⟨ha',ht⟩
      rw [if_neg ht',if_pos hq]
      show _=finD n ([]++detsN r)
      rw [List.nil_append]
      unfold finD
      rw [detF_chk n hn]
     ·have hq:¬ ((r.all fun y=>!tagCons (tagN y))=true∧tagsB r=valN x):=fun h=>ht h.2
      have ht':tagsB r≠valN x:=ht
      rw [if_pos ht',if_neg hq]
   ·have hp:¬ primF x 92 (2*(r.length:Int))=true:=fun h=>hl (by
     rcases (primF_iff.1 h).2.2 with h2 | h2
     ·omega
     ·exact h2)
    rw [if_neg hp]
    by_cases ha:(r.all fun y=>!tagCons (tagN y))=false
    ·rw [if_pos ha]
    ·have ht:tagsB r≠valN x:=fun ht=>hl (by rw [← ht,tagsB_len];simp)
     rw [if_neg ha,if_pos ht]
  ·have h1':tagN x≠92:=h1
   have hp:¬ primF x 92 (2*(r.length:Int))=true:=fun h=>h1 (primF_iff.1 h).1
   rw [if_pos h1',if_neg hp]
theorem detP_detO (b:List UInt8):detP b=detO b:=by
 have hwf:=openX_wf b
 unfold detP detO openZ
 generalize openX b=q at hwf
 obtain ⟨n,l,e⟩:=q
 simp only at hwf ⊢
 by_cases h1:e≠0
 ·rw [if_pos h1,if_pos h1,if_pos h1]
 rw [if_neg h1,if_neg h1]
 by_cases h2:n=11∨n=12
 ·have a1:¬ ¬ (n=11∨n=12):=fun h=>h h2
  have a2:¬ (n < 11∨n > 12):=by omega
  rw [if_neg a1,if_neg a2]
  exact detB_eq n h2 l hwf
 ·have a2:n < 11∨n > 12:=by omega
  rw [if_pos h2,if_pos a2]
  rfl
end Tdoc
/- The reference's comparisons of equal lists. -/
set_option maxHeartbeats 8000000
set_option maxRecDepth 100000
set_option linter.unusedVariables false
set_option linter.unusedSimpArgs false
namespace Tdoc
open Go Go.Proofs
theorem encI_get {l:List Int} {i:Nat} (h:i < l.length):(encI l)[((i:Int)).toNat]?=some [.int .i64 l[i]]:=by simp [encI,h]
theorem SameInts_self (l:List Int) (hl:l.length≤1000000):Spec Tryz.prog 81 [.d (.sl 1 (encI l)),.d (.sl 1 (encI l))] [] (fun r h'=>r=.d (.bool true)∧h'=[]):=by
 have hll:(encI l).length=l.length:=by simp [encI]
 refine qAb hT Tryz.func81 rfl rfl rfl rfl ?_;intro E hE
 refine ww ?_
 refine qAa rfl (fun c1=>?_) (fun c1=>?_)
 ·exact absurd c1 (by simp)
 refine ww ?_
 refine qAn (ι:=Nat) (fun i=>[(0,.d (.sl 1 (encI l))),(1,.d (.sl 1 (encI l))),(5,.d (.int .i64 (i:Int)))]) (fun _=>[]) (fun i=>i≤l.length) (fun i=>l.length-i) 0 (by omega) ⟨.refl _,.refl _,.refl _,trivial⟩ (HLe.refl _) ?_
 intro i hi
 have hwr:IntKind.i64.wrap ((i:Int)+1)=((i+1:Nat):Int):=by rw [qAd (by omega)];simp
 refine ww ?_
 refine qAa rfl (fun c2=>?_) (fun c2=>?_)
 ·have c2':i < l.length:=by rw [hll] at c2;simpa using c2
  have hel:=encI_get c2'
  generalize l[i]=x at hel
  refine ww ?_
  refine qAs (qAc (qAi hT rfl rfl rfl rfl (by omega) hel)) rfl rfl ?_
  refine ww ?_
  refine qAs (qAc (qAi hT rfl rfl rfl rfl (by omega) hel)) rfl rfl ?_
  refine ww ?_
  refine qAa rfl (fun c3=>?_) (fun c3=>?_)
  ·exact absurd c3 (by simp)
  refine ww ?_
  exact ⟨i+1,c2',by omega,⟨.refl _,.refl _,.int hwr,trivial⟩,HLe.refl _⟩
 refine ww ?_
 exact wwr
theorem SameDet_self (l:List Det) (hl:l.length≤1000000):Spec Tryz.prog 48 [.d (.sl 2 (encDs l)),.d (.sl 2 (encDs l))] [] (fun r h'=>r=.d (.bool true)∧h'=[]):=by
 have hll:=qBx l
 refine qAb hT Tryz.func48 rfl rfl rfl rfl ?_;intro E hE
 refine ww ?_
 refine qAa rfl (fun c1=>?_) (fun c1=>?_)
 ·exact absurd c1 (by simp)
 refine ww ?_
 refine qAn (ι:=Nat) (fun i=>[(0,.d (.sl 2 (encDs l))),(1,.d (.sl 2 (encDs l))),(5,.d (.int .i64 (i:Int)))]) (fun _=>[]) (fun i=>i≤l.length) (fun i=>l.length-i) 0 (by omega) ⟨.refl _,.refl _,.refl _,trivial⟩ (HLe.refl _) ?_
 intro i hi
 have hwr:IntKind.i64.wrap ((i:Int)+1)=((i+1:Nat):Int):=by rw [qAd (by omega)];simp
 refine ww ?_
 refine qAa rfl (fun c2=>?_) (fun c2=>?_)
 ·have c2':i < l.length:=by rw [hll] at c2;simpa using c2
  have hel:=encDs_at c2'
  generalize l[i]=x at hel
  obtain ⟨t,s⟩:=x
  unfold encD at hel
  simp only at hel
  refine ww ?_
  refine qAs (qAc (qAi hT rfl rfl rfl rfl (by omega) hel)) rfl rfl ?_
  refine ww ?_
  refine qAs (qAc (qAi hT rfl rfl rfl rfl (by omega) hel)) rfl rfl ?_
  refine ww ?_
  refine qAs (qAc (structNe_ok (ds:=[.int .i64 t,.str s]) (es:=[.int .i64 t,.str s]) (ks:=[some .i64,none]) rfl (by kernel_rfl) (by kernel_rfl) (by kernel_rfl) (by kernel_rfl) rfl rfl rfl rfl)) rfl rfl ?_
  refine ww ?_
  refine qAa rfl (fun c3=>?_) (fun c3=>?_)
  ·exact absurd c3 (by simp [sameL,sameD])
  refine ww ?_
  exact ⟨i+1,c2',by omega,⟨.refl _,.refl _,.int hwr,trivial⟩,HLe.refl _⟩
 refine ww ?_
 exact wwr
theorem SameInf_self (l:List Inf) (hl:l.length≤1000000):Spec Tryz.prog 49 [.d (.sl 5 (encFs l)),.d (.sl 5 (encFs l))] [] (fun r h'=>r=.d (.bool true)∧h'=[]):=by
 have hll:=qCh l
 refine qAb hT Tryz.func49 rfl rfl rfl rfl ?_;intro E hE
 refine ww ?_
 refine qAa rfl (fun c1=>?_) (fun c1=>?_)
 ·exact absurd c1 (by simp)
 refine ww ?_
 refine qAn (ι:=Nat) (fun i=>[(0,.d (.sl 5 (encFs l))),(1,.d (.sl 5 (encFs l))),(5,.d (.int .i64 (i:Int)))]) (fun _=>[]) (fun i=>i≤l.length) (fun i=>l.length-i) 0 (by omega) ⟨.refl _,.refl _,.refl _,trivial⟩ (HLe.refl _) ?_
 intro i hi
 have hwr:IntKind.i64.wrap ((i:Int)+1)=((i+1:Nat):Int):=by rw [qAd (by omega)];simp
 refine ww ?_
 refine qAa rfl (fun c2=>?_) (fun c2=>?_)
 ·have c2':i < l.length:=by rw [hll] at c2;simpa using c2
  have hel:=encFs_at c2'
  generalize l[i]=x at hel
  obtain ⟨a,b,c,d,e⟩:=x
  unfold encF at hel
  simp only at hel
  refine ww ?_
  refine qAs (qAc (qAi hT rfl rfl rfl rfl (by omega) hel)) rfl rfl ?_
  refine ww ?_
  refine qAs (qAc (qAi hT rfl rfl rfl rfl (by omega) hel)) rfl rfl ?_
  refine ww ?_
  refine qAs (qAc (structNe_ok (ds:=[.int .i64 a,.int .i64 b,.int .i64 c,.int .i64 d,.int .i64 e]) (es:=[.int .i64 a,.int .i64 b,.int .i64 c,.int .i64 d,.int .i64 e]) (ks:=[some .i64,some .i64,some .i64,some .i64,some .i64]) rfl (by kernel_rfl) (by kernel_rfl) (by kernel_rfl) (by kernel_rfl) rfl rfl rfl rfl)) rfl rfl ?_
  refine ww ?_
  refine qAa rfl (fun c3=>?_) (fun c3=>?_)
  ·exact absurd c3 (by simp [sameL,sameD])
  refine ww ?_
  exact ⟨i+1,c2',by omega,⟨.refl _,.refl _,.int hwr,trivial⟩,HLe.refl _⟩
 refine ww ?_
 exact wwr
end Tdoc
/- The reference's comparison of objects, of equal ones. -/
set_option maxHeartbeats 8000000
set_option maxRecDepth 100000
set_option linter.unusedVariables false
set_option linter.unusedSimpArgs false
namespace Tdoc
open Go Go.Proofs
theorem SameNodes_spec:∀ (N:Nat) (l:List Node),wgtL l≤N→wgtL l≤1000000 →
  Spec Tryz.prog 16 [.d (.sl 3 (encNs l)),.d (.sl 3 (encNs l))] [] (fun r h'=>r=.d (.bool true)∧h'=[]):=by
 intro N
 induction N using Nat.strongRecOn with
 | _ N ih =>
 intro l hN hw
 have hll:=qAh l
 have hlw:l.length≤wgtL l:=by
  clear hN hw hll ih
  induction l with
  | nil=>simp
  | cons a l ih=>obtain ⟨t,v,k⟩:=a;rw [wgtL,wgtN,List.length_cons];omega
 refine qAb hT Tryz.func16 rfl rfl rfl rfl ?_;intro E hE
 refine ww ?_
 refine qAa rfl (fun c1=>?_) (fun c1=>?_)
 ·exact absurd c1 (by simp)
 refine ww ?_
 refine qAn (ι:=Nat) (fun i=>[(0,.d (.sl 3 (encNs l))),(1,.d (.sl 3 (encNs l))),(5,.d (.int .i64 (i:Int)))]) (fun _=>[]) (fun i=>i≤l.length) (fun i=>l.length-i) 0 (by omega) ⟨.refl _,.refl _,.refl _,trivial⟩ (HLe.refl _) ?_
 intro i hi
 have hwr:IntKind.i64.wrap ((i:Int)+1)=((i+1:Nat):Int):=by rw [qAd (by omega)];simp
 refine ww ?_
 refine qAa rfl (fun c2=>?_) (fun c2=>?_)
 ·have c2':i < l.length:=by rw [hll] at c2;simpa using c2
  have hel:(encNs l)[((i:Int)).toNat]?=some (encN l[i]):=by simp [qBv,c2']
  have hwt:wgtN l[i]≤wgtL l:=by
   have h:=wgtL_append (l.take i) (l.drop i)
   rw [List.take_append_drop,List.drop_eq_getElem_cons c2',wgtL] at h
   omega
  generalize l[i]=x at hel hwt
  obtain ⟨t,v,k⟩:=x
  rw [wgtN] at hwt
  have hrec:=ih (wgtL k) (by omega) k (Nat.le_refl _) (by omega)
  rw [encN] at hel
  refine ww ?_
  refine wwi hel ?_
  refine ww ?_
  refine wwi hel ?_
  refine ww ?_
  refine wwgi hel ?_
  refine ww ?_
  refine AWd_gstep hT rfl rfl rfl rfl rfl (fun hg=>⟨(sg (C:=True) hg).1,qAv v⟩) ?_
  refine ww ?_
  refine wwgi hel ?_
  refine ww ?_
  refine AWd_gstep hT rfl rfl rfl rfl rfl (fun hg=>⟨(sg (C:=True) hg).1,qAv v⟩) ?_
  refine ww ?_
  refine wwgi hel ?_
  refine ww ?_
  refine wwgi hel ?_
  refine ww ?_
  refine wwgc hrec ?_
  refine ww ?_
  refine qAa rfl (fun c3=>?_) (fun c3=>?_)
  ·exact absurd c3 (by simp)
  ·refine ww ?_
   exact ⟨i+1,by omega,by omega,⟨.refl _,.refl _,.int hwr,trivial⟩,HLe.refl _⟩
 ·refine ww ?_
  exact wwr
end Tdoc
/- 'opens': the functions that read a file answer like the reference, for any bytes. -/
set_option maxHeartbeats 8000000
set_option maxRecDepth 100000
set_option linter.unusedVariables false
set_option linter.unusedSimpArgs false
namespace Tdoc
open Go Go.Proofs
theorem grpLoop_len:∀ (r:List UInt8) (out:List Int),out.length≤16→(grpLoop r out).1.length≤16
 | [],out,h=>h
 | c::r,out,h=>by
  unfold grpLoop
  split
  ·simp
  ·split
   ·simp
   ·rename_i h2
    have h3:=ascX_len 0 _ (by omega) (show ascX 0 (out++[(groupR c.toNat).1])=0 by omega)
    exact grpLoop_len r _ (by omega)
theorem groupsX_len (b:List UInt8):(groupsX b).1.length≤16:=by
 unfold groupsX
 split
 ·simp
 ·split
  ·split
   ·simp
   ·exact grpLoop_len _ _ (by simp)
  ·simp
theorem validT_data {t:Tpl} (h:validT t=0):t.data.length≤1024:=by
 unfold validT at h
 split at h
 ·simp at h
 split at h
 ·simp at h
 split at h
 ·simp at h
 split at h
 ·simp at h
 split at h
 ·simp at h
 ·rename_i h5;omega
theorem bioO_ok (b:List UInt8):(bioO b).2.1.length≤8∧∀ t,t∈(bioO b).2.1→t.data.length≤1000000:=by
 have hd:=decTs_ok (openX b).2.1
 have h0:([]:List Tpl).length≤8∧∀ t,t∈([]:List Tpl)→t.data.length≤1000000:=⟨by simp,fun t h=>by cases h⟩
 unfold bioO
 split
 ·exact h0
 split
 ·exact h0
 split
 ·exact h0
 split
 ·exact h0
 ·exact ⟨hd.2,fun t ht=>by have:=validT_data (hd.1 t ht);omega⟩
theorem detO_len (b:List UInt8):(detO b).2.1.length≤16:=by
 rw [← detP_detO]
 unfold detP detB2
 split
 ·simp
 split
 ·simp
 split
 ·simp
 split
 ·simp
 split
 ·simp
 split
 ·simp
 split
 ·simp
 ·rename_i h
  simp only
  unfold chkDs at h
  split at h
  ·simp at h
  ·omega
theorem infoO_len (b:List UInt8):(infoO b).1.length≤16:=by
 unfold infoO decI
 split
 ·simp
 split
 ·simp
 split
 ·split
  ·split
   ·simp
   ·split
    ·simp
    ·rename_i h
     simp only
     unfold validI at h
     split at h
     ·simp at h
     ·omega
  ·simp
 ·simp
theorem opens_spec (b:List UInt8) (hb:b.length≤9223372036854775807):Spec Tryz.prog 35 [.d (.sl 1 (encB b))] [] (fun r h'=>r=.d (.bool true)∧h'=[]):=by
 have p1:=Open_spec b hb
 have r1:=OpenRef_spec b hb
 have s1:=SameNodes_spec _ (openX b).2.1 (Nat.le_refl _) (by have:=openX_wg b;omega)
 generalize openX b=q1 at p1 r1 s1
 obtain ⟨n1,l1,e1⟩:=q1
 have p2:=Groups_spec b hb
 have r2:=GroupsR_spec b hb
 have s2:=SameInts_self (groupsX b).1 (by have:=groupsX_len b;omega)
 generalize groupsX b=q2 at p2 r2 s2
 obtain ⟨l2,e2⟩:=q2
 have p3:=OpenZone_spec b hb
 rw [zoneP_zoneO] at p3
 have r3:=OpenZoneR_spec b hb
 generalize zoneO b=q3 at p3 r3
 obtain ⟨⟨z0,z1,z2,z3,z4,z5,z6,z7,z8,z9,z10,z11⟩,e3⟩:=q3
 have p4:=OpenBio_spec b hb
 have r4:=OpenBioR_spec b hb
 have s4:=SameTpl_spec (bioO b).2.1 (by have:=bioO_ok b;omega) (bioO_ok b).2
 generalize bioO b=q4 at p4 r4 s4
 obtain ⟨n4,l4,e4⟩:=q4
 have p5:=OpenDet_spec b hb
 rw [detP_detO] at p5
 have r5:=OpenDetR_spec b hb
 have s5:=SameDet_self (detO b).2.1 (by have:=detO_len b;omega)
 generalize detO b=q5 at p5 r5 s5
 obtain ⟨n5,l5,e5⟩:=q5
 have p6:=OpenInf_spec b hb
 have r6:=OpenInfR_spec b hb
 have s6:=SameInf_self (infoO b).1 (by have:=infoO_len b;omega)
 generalize infoO b=q6 at p6 r6 s6
 obtain ⟨l6,e6⟩:=q6
 have p7:=OpenActive_spec b hb
 have r7:=OpenActR_spec b hb
 generalize keyO b=q7 at p7 r7
 obtain ⟨k7,e7⟩:=q7
 unfold zAV zCells at p3 r3
 simp only at p1 r1 s1 p2 r2 s2 p3 r3 p4 r4 s4 p5 r5 s5 p6 r6 s6 p7 r7
 refine qAb hT Tryz.func35 rfl rfl rfl rfl ?_;intro E hE
 refine ww ?_
 refine wwc p1 ?_
 refine ww ?_
 refine wwc r1 ?_
 refine ww ?_
 refine wwgc s1 ?_
 refine ww ?_
 refine qAa rfl (fun c1=>?_) (fun c1=>?_)
 ·exact absurd c1 (by simp)
 refine ww ?_
 refine wwc p2 ?_
 refine ww ?_
 refine wwc r2 ?_
 refine ww ?_
 refine wwgc s2 ?_
 refine ww ?_
 refine qAa rfl (fun c2=>?_) (fun c2=>?_)
 ·exact absurd c2 (by simp)
 refine ww ?_
 refine wwc p3 ?_
 refine ww ?_
 refine wwc r3 ?_
 refine ww ?_
 refine qAy rfl rfl rfl (fun hg=>⟨(sg (C:=True) hg).1,qAc (structNe_ok (ds:=[.int .i64 z0,.str z1,.str z2,.str z3,.str z4,.str z5,.str z6,.str z7,.str z8,.str z9,.str z10,.str z11]) (es:=[.int .i64 z0,.str z1,.str z2,.str z3,.str z4,.str z5,.str z6,.str z7,.str z8,.str z9,.str z10,.str z11]) (ks:=[some .i64,none,none,none,none,none,none,none,none,none,none,none]) rfl (by kernel_rfl) (by kernel_rfl) (by kernel_rfl) (by kernel_rfl) rfl rfl rfl rfl)⟩) ?_
 refine ww ?_
 refine qAa rfl (fun c3=>?_) (fun c3=>?_)
 ·exact absurd c3 (by simp [sameL,sameD])
 refine ww ?_
 refine wwc p4 ?_
 refine ww ?_
 refine wwc r4 ?_
 refine ww ?_
 refine wwgc s4 ?_
 refine ww ?_
 refine qAa rfl (fun c4=>?_) (fun c4=>?_)
 ·exact absurd c4 (by simp)
 refine ww ?_
 refine wwc p5 ?_
 refine ww ?_
 refine wwc r5 ?_
 refine ww ?_
 refine wwgc s5 ?_
 refine ww ?_
 refine qAa rfl (fun c5=>?_) (fun c5=>?_)
 ·exact absurd c5 (by simp)
 refine ww ?_
 refine wwc p6 ?_
 refine ww ?_
 refine wwc r6 ?_
 refine ww ?_
 refine wwc p7 ?_
 refine ww ?_
 refine wwc r7 ?_
 refine ww ?_
 refine wwgc s6 ?_
 refine ww ?_
 exact rq ⟨rfl,rfl⟩ rfl (.bool (by simp))
end Tdoc
/- Plain: made names and signs are right. -/
set_option linter.unusedVariables false
set_option linter.unusedSimpArgs false
namespace Tdoc
open Go Go.Proofs
theorem isUp_ne {c:UInt8} (h:isUp c=true):c≠32:=by rintro rfl;revert h;decide
theorem nameL_up:∀ (b:Bool) (w:List UInt8),w.all isUp=true→nameL b w=true
 | _,[],_=>rfl
 | b,c::w,h=>by
  rw [List.all_cons,Bool.and_eq_true] at h
  rw [nameL,if_neg (isUp_ne h.1),nameL_up false w h.2,Bool.and_true]
  exact h.1
theorem nameL_join:∀ (b:Bool) (s w:List UInt8),nameL b s=true→s≠[]→w≠[]→w.all isUp=true→nameL b (s++32::w)=true
 | _,[],_,_,h,_,_=>absurd rfl h
 | b,[c],w,h,_,hw,hu=>by
  rw [nameL] at h
  split at h
  ·simp at h
  ·rename_i h1
   rw [nameL,Bool.and_true] at h
   rw [List.cons_append,List.nil_append,nameL,if_neg h1,h,Bool.true_and,nameL,if_pos rfl,nameL_up true w hu]
   cases w with
   | nil=>exact absurd rfl hw
   | cons x w=>rfl
 | b,c::c2::s,w,h,_,hw,hu=>by
  rw [nameL] at h
  rw [List.cons_append,nameL]
  split at h
  ·rename_i h1
   rw [if_pos h1]
   simp only [Bool.and_eq_true] at h
   rw [nameL_join true (c2::s) w h.2 (by simp) hw hu,h.1.1]
   rfl
  ·rename_i h1
   rw [if_neg h1]
   rw [Bool.and_eq_true] at h
   rw [nameL_join false (c2::s) w h.2 (by simp) hw hu,h.1]
   rfl
def NameM (w:Nat) (s:List UInt8):Prop:=nameL true s=true∧s.length≤11*w
theorem NameM.first {k:Nat} {w:List UInt8} (hu:w.all isUp=true) (hl:w.length≤10):NameM (k+1) w:=⟨nameL_up _ _ hu,by omega⟩
theorem NameM.next {k:Nat} {s w:List UInt8} (h:NameM k s) (hs:s≠[]) (hu:w.all isUp=true) (hl:w.length≤10) (hw:w≠[]):NameM (k+1) (s++32::w):=⟨nameL_join _ _ _ h.1 hs hw hu,by have:=h.2;simp;omega⟩
def signC:List UInt8:=[48,49,50,51,52,53,54,55,56,57,65,66,67,68,69,70,71,72,73,74,75,76,77,78,79,80,81,82,83,84,85,86,87,88,89,90]
theorem signC_plain:plainF signC=true:=by decide
def SignM (n:Nat) (s:List UInt8):Prop:=plainF s=true∧1≤s.length∧s.length≤n
theorem plainF_append (a b:List UInt8):plainF (a++b)=(plainF a&&plainF b):=List.all_append
end Tdoc
/- Dice: names, signs, days. -/
set_option maxHeartbeats 8000000
set_option maxRecDepth 100000
set_option linter.unusedVariables false
set_option linter.unusedSimpArgs false
namespace Tdoc
open Go Go.Proofs
def wordT:List (List UInt8):=[[65],[69,82,73,75,83,83,79,78],[77,65,82,73,65],[68,69],[76,79,83],[79,75],[86,65,78,68,69,82,86,65,76,75],[90,90]]
theorem wordT_ok:∀ w,w∈wordT→w.all isUp=true∧w.length≤10∧w≠[]:=by decide
def wordRow:List AV:=wordT.map fun w=>.d (.str w)
theorem wordRow_at {x:Int} (h1:0≤x) (h2:x < 8):∃ w,wordRow[0+x.toNat*1]?=some (.d (.str w))∧w.all isUp=true∧w.length≤10∧w≠[]:=by
 have hl:x.toNat < wordT.length:=by show x.toNat < 8;omega
 exact ⟨wordT[x.toNat],by simp [wordRow,hl],wordT_ok _ (List.getElem_mem hl)⟩
def DNameP (L:List Int) (w:Nat) (x:List UInt8×Nat):Prop:=NameM w x.1∧x.2≤L.length
theorem NameM.mono {a b:Nat} {s:List UInt8} (h:NameM a s) (hab:a≤b):NameM b s:=⟨h.1,by have:=h.2;omega⟩
theorem DName_spec (L:List Int) (hL:L.length≤1000000) (a:Nat) (ha:a≤L.length) (w:Nat) (hw:w≤100) :
  Spec Tryz.prog 60 [.ptr 0 0,.d (.int .i64 (w:Int))] [.row (diceR L a)] (fun r h'=>∃ x,DNameP L w x∧r=.d (.str x.1)∧h'=[.row (diceR L x.2)]):=by
 have hN:=fun a ha n h1 hn=>qBr L hL a ha n h1 hn
 have hw0:IntKind.i64.wrap ((w:Int)+1)=((w+1:Nat):Int):=by rw [qAd (by omega)];omega
 refine qAb hT Tryz.func60 rfl rfl rfl rfl ?_;intro E hE
 refine ww ?_
 refine qAo (callX rfl rfl (hN a ha ((w+1:Nat):Int) (by omega) (by omega)) [0] (by decide) rfl (by rw [← hw0];rfl) rfl rfl (fun _=>rfl) (fun _=>rfl) (fun _=>rfl)) rfl ?_
 rintro ⟨m,a1⟩ ⟨q1,q2,q3⟩
 simp only at q1 q2 q3 ⊢
 obtain ⟨m,rfl⟩:∃ m':Nat,m=(m':Int):=⟨m.toNat,by omega⟩
 refine ww ?_
 refine qAn (ι:=Nat×Nat×List UInt8) (fun x=>[(0,.ptr 0 0),(5,.ptr 1 0),(6,.d (.str x.2.2)),(7,.d (.int .i64 (x.2.1:Int)))]) (fun x=>[.row (diceR L x.1),.row wordRow])
  (fun x=>x.1≤L.length∧∃ k,NameM k x.2.2∧k+x.2.1≤w) (fun x=>x.2.1) (a1,m,[]) ⟨q3,0,⟨rfl,by simp⟩,by simp only;omega⟩ ⟨.refl _,.refl _,.refl _,.refl _,trivial⟩ (HLe.refl _) ?_
 rintro ⟨b,m,s⟩ ⟨h1,k,hk,hkm⟩
 simp only at h1 hk hkm ⊢
 have hsl:=hk.2
 refine ww ?_
 refine qAa rfl (fun h3=>?_) (fun h3=>?_)
 ·obtain ⟨m,rfl⟩:∃ m',m=m'+1:=⟨m-1,by simp at h3;omega⟩
  have hwm:IntKind.i64.wrap (((m+1:Nat):Int)-1)=(m:Int):=by rw [qAd (by omega)];omega
  refine ww ?_
  refine qAa rfl (fun h4=>?_) (fun h4=>?_)
  ·have h4':s≠[]:=by simpa using h4
   refine ww ?_
   refine qAo (callX rfl rfl (hN b h1 8 (by omega) (by omega)) [0] (by decide) rfl rfl rfl rfl (fun _=>rfl) (fun _=>rfl) (fun _=>rfl)) rfl ?_
   rintro ⟨x,b2⟩ ⟨r1,r2,r3⟩
   simp only at r1 r2 r3 ⊢
   obtain ⟨wd,e1,e2,e3,e4⟩:=wordRow_at r1 r2
   refine ww ?_
   refine qAe (qAc (qAl hT rfl rfl rfl rfl ⟨r1,r2⟩)) rfl ?_
   refine qAe (qBk hT rfl rfl rfl rfl rfl e1) rfl ?_
   refine ww ?_
   refine ⟨(b2,m,s++32::wd),⟨r3,k+1,hk.next h4' e2 e3 e4,by simp only;omega⟩,by simp only;omega,⟨.refl _,.refl _,.str ?_,.int hwm,trivial⟩,HLe.refl _⟩
   simp
  ·have h4':s=[]:=by simpa using h4
   subst h4'
   refine ww ?_
   refine qAo (callX rfl rfl (hN b h1 8 (by omega) (by omega)) [0] (by decide) rfl rfl rfl rfl (fun _=>rfl) (fun _=>rfl) (fun _=>rfl)) rfl ?_
   rintro ⟨x,b2⟩ ⟨r1,r2,r3⟩
   simp only at r1 r2 r3 ⊢
   obtain ⟨wd,e1,e2,e3,e4⟩:=wordRow_at r1 r2
   refine ww ?_
   refine qAe (qAc (qAl hT rfl rfl rfl rfl ⟨r1,r2⟩)) rfl ?_
   refine qAe (qBk hT rfl rfl rfl rfl rfl e1) rfl ?_
   refine ww ?_
   exact ⟨(b2,m,wd),⟨r3,k+1,.first e2 e3,by simp only;omega⟩,by simp only;omega,⟨.refl _,.refl _,.refl _,.int hwm,trivial⟩,HLe.refl _⟩
 ·refine ww ?_
  exact ret_q ⟨(s,b),⟨hk.mono (by omega),h1⟩,rfl,rfl⟩ rfl (.refl _) rfl rfl rfl rfl
def DSignP (L:List Int) (n:Nat) (x:List UInt8×Nat):Prop:=SignM n x.1∧x.2≤L.length
theorem DSigns_spec (L:List Int) (hL:L.length≤1000000) (a:Nat) (ha:a≤L.length) (n:Nat) (h1:1≤n) (hn:n≤100) :
  Spec Tryz.prog 61 [.ptr 0 0,.d (.int .i64 (n:Int))] [.row (diceR L a)] (fun r h'=>∃ x,DSignP L n x∧r=.d (.str x.1)∧h'=[.row (diceR L x.2)]):=by
 have hN:=fun a ha n h1 hn=>qBr L hL a ha n h1 hn
 refine qAb hT Tryz.func61 rfl rfl rfl rfl ?_;intro E hE
 refine ww ?_
 refine qAo (callX rfl rfl (hN a ha (n:Int) (by omega) (by omega)) [0] (by decide) rfl rfl rfl rfl (fun _=>rfl) (fun _=>rfl) (fun _=>rfl)) rfl ?_
 rintro ⟨m,a1⟩ ⟨q1,q2,q3⟩
 simp only at q1 q2 q3 ⊢
 obtain ⟨m,rfl⟩:∃ m':Nat,m=(m':Int):=⟨m.toNat,by omega⟩
 have hw0:IntKind.i64.wrap (1+(m:Int))=((m+1:Nat):Int):=by rw [qAd (by omega)];omega
 refine ww ?_
 refine qAq (qAt 5 1 1 (es:=[]) (.inr ⟨rfl,rfl⟩) rfl ?_)
 refine qAn (ι:=Nat×Nat×List UInt8) (fun x=>[(0,.ptr 0 0),(5,.sl 1 (encB x.2.2) (.right 1)),(6,.d (.int .i64 (x.2.1:Int)))]) (fun x=>[.row (diceR L x.1),.right 1 (encB x.2.2).length])
  (fun x=>x.1≤L.length∧plainF x.2.2=true∧x.2.2.length+x.2.1≤n∧1≤x.2.2.length+x.2.1) (fun x=>x.2.1) (a1,m+1,[]) ⟨q3,rfl,by simp;omega,by simp⟩ ⟨.refl _,.refl _,.int hw0,trivial⟩ (HLe.refl _) ?_
 rintro ⟨b,m,out⟩ ⟨h1,h2,h3,h4⟩
 simp only at h1 h2 h3 h4 ⊢
 have hol:=qAg out
 refine ww ?_
 refine qAa rfl (fun h5=>?_) (fun h5=>?_)
 ·obtain ⟨m,rfl⟩:∃ m',m=m'+1:=⟨m-1,by simp at h5;omega⟩
  refine ww ?_
  refine qAo (callX rfl rfl (hN b h1 36 (by omega) (by omega)) [0] (by decide) rfl rfl rfl rfl (fun _=>rfl) (fun _=>rfl) (fun _=>rfl)) rfl ?_
  rintro ⟨x,b2⟩ ⟨r1,r2,r3⟩
  simp only at r1 r2 r3 ⊢
  have hxl:x.toNat < signC.length:=by show x.toNat < 36;omega
  have hsx:strAt signC x=bI signC[x.toNat]:=by
   have:=qBu hxl
   rw [Int.toNat_of_nonneg r1] at this
   exact this
  have hmem:plainF [signC[x.toNat]]=true:=by
   have:=signC_plain
   unfold plainF at this ⊢
   rw [List.all_eq_true] at this
   simpa using this _ (List.getElem_mem hxl)
  have hsc:strAt (ByteArray.mk #[48,49,50,51,52,53,54,55,56,57,65,66,67,68,69,70,71,72,73,74,75,76,77,78,79,80,81,82,83,84,85,86,87,88,89,90]).data.toList x=bI signC[x.toNat]:=hsx
  generalize signC[x.toNat]=c at hsc hmem
  have hlen:0≤x∧x < ((ByteArray.mk #[48,49,50,51,52,53,54,55,56,57,65,66,67,68,69,70,71,72,73,74,75,76,77,78,79,80,81,82,83,84,85,86,87,88,89,90]).data.toList.length:Int):=⟨r1,r2⟩
  refine ww ?_
  refine qAe (qAk (i:=1) hT rfl rfl rfl rfl rfl rfl (by show ((encB out).length+1)*(1+1)≤_;first | omega | (simp only [qAg,qAh,List.length_append,List.length_cons,List.length_nil];omega))) rfl ?_
  have hwm:IntKind.i64.wrap (((m+1:Nat):Int)-1)=(m:Int):=by rw [qAd (by omega)];omega
  refine ww ?_
  have hres:encB (out++[c])=encB out++[[Dat.int .u8 (strAt (ByteArray.mk #[48,49,50,51,52,53,54,55,56,57,65,66,67,68,69,70,71,72,73,74,75,76,77,78,79,80,81,82,83,84,85,86,87,88,89,90]).data.toList x)]]:=by rw [qBa,hsc];rfl
  exact ⟨(b2,m,out++[c]),⟨r3,by rw [plainF_append,h2,hmem];rfl,by simp only [List.length_append,List.length_singleton];omega,by simp only [List.length_append,List.length_singleton];omega⟩,by simp only;omega,⟨.refl _,AV.le.eq (by rw [hres];rfl),.int hwm,trivial⟩,⟨ObLe.refl _,⟨rfl,by rw [hres]⟩,trivial⟩⟩
 ·have h5':m=0:=by simp at h5;omega
  subst h5'
  refine wwe ?_
  refine qAm (qAj ?_)
  refine wws ?_
  refine qBn hT rfl rfl (qAv out) ?_
  refine ww ?_
  refine ret_q (r:=.d (.str out)) ⟨(out,b),⟨⟨h2,by omega,by omega⟩,h1⟩,rfl,rfl⟩ rfl ?_ rfl rfl rfl rfl
  rw [qBc]
  exact .refl _
theorem DDay_spec (L:List Int) (hL:L.length≤1000000) (a:Nat) (ha:a≤L.length) :
  Spec Tryz.prog 63 [.ptr 0 0] [.row (diceR L a)] (fun r h'=>∃ x,NextP L 72900 x∧r=.d (.int .i64 x.1)∧h'=[.row (diceR L x.2)]):=by
 have hN:=fun a ha n h1 hn=>qBr L hL a ha n h1 hn
 refine qAb hT Tryz.func63 rfl rfl rfl rfl ?_;intro E hE
 refine ww ?_
 refine qAo (callX rfl rfl (hN a ha 243 (by omega) (by omega)) [0] (by decide) rfl rfl rfl rfl (fun _=>rfl) (fun _=>rfl) (fun _=>rfl)) rfl ?_
 rintro ⟨m,a1⟩ ⟨q1,q2,q3⟩
 simp only at q1 q2 q3 ⊢
 refine ww ?_
 refine qAo (callX rfl rfl (hN a1 q3 300 (by omega) (by omega)) [0] (by decide) rfl rfl rfl rfl (fun _=>rfl) (fun _=>rfl) (fun _=>rfl)) rfl ?_
 rintro ⟨k,a2⟩ ⟨r1,r2,r3⟩
 simp only at r1 r2 r3 ⊢
 have hw:IntKind.i64.wrap (IntKind.i64.wrap (m*300)+k)=m*300+k:=by rw [qAd (n:=m*300) (by omega),qAd (by omega)]
 refine ww ?_
 exact ret_q ⟨(m*300+k,a2),⟨by simp only;omega,by simp only;omega,r3⟩,rfl,rfl⟩ rfl (.int hw) rfl rfl rfl rfl
end Tdoc
/- Dice: exact contracts of a number and of signs; templates. -/
set_option maxHeartbeats 8000000
set_option maxRecDepth 100000
set_option linter.unusedVariables false
set_option linter.unusedSimpArgs false
namespace Tdoc
open Go Go.Proofs
def nxV (L:List Int) (a:Nat) (n:Int):Int:=match L[a]? with
 | none=>0
 | some x=>x % n
def nxA (L:List Int) (a:Nat):Nat:=if a < L.length then a+1 else a
theorem nxA_le {L:List Int} {a:Nat} (h:a≤L.length):nxA L a≤L.length:=by unfold nxA;split <;> omega
theorem nxV_range {L:List Int} {a:Nat} {n:Int} (h:1≤n):0≤nxV L a n∧nxV L a n < n:=by
 unfold nxV
 split
 ·omega
 ·exact ⟨Int.emod_nonneg _ (by omega),Int.emod_lt_of_pos _ (by omega)⟩
theorem qCt (l:List Int) (hl:l.length≤1000000) (a:Nat) (ha:a≤l.length) (n:Int) (h1:1≤n) (hn:n≤4611686018427387904) :
  Spec Tryz.prog 12 [.ptr 0 0,.d (.int .i64 n)] [.row (diceR l a)] (fun r h'=>r=.d (.int .i64 (nxV l a n))∧h'=[.row (diceR l (nxA l a))]):=by
 have hll:=qCj l
 unfold diceR
 refine qAb hT Tryz.func12 rfl rfl rfl rfl ?_;intro E hE
 refine ww ?_
 refine qAa rfl (fun h2=>?_) (fun h2=>?_)
 ·have h2':¬ a < l.length:=by rw [hll] at h2;simp at h2;omega
  have hv:nxV l a n=0:=by unfold nxV;rw [List.getElem?_eq_none (by omega)]
  have hv2:nxA l a=a:=by unfold nxA;rw [if_neg h2']
  rw [hv,hv2]
  refine ww ?_
  exact wwr
 ·have h2':a < l.length:=by rw [hll] at h2;simp at h2;omega
  have hw1:IntKind.i64.wrap ((a:Int)+1)=((a+1:Nat):Int):=by rw [qAd (by omega)];simp
  have hw2:IntKind.i64.wrap (((a+1:Nat):Int)-1)=(a:Int):=by rw [qAd (by omega)];omega
  have h0:0≤IntKind.i64.wrap (IntKind.i64.wrap ((a:Int)+1)-1):=by rw [hw1,hw2];omega
  have hel:(encI l)[(IntKind.i64.wrap (IntKind.i64.wrap ((a:Int)+1)-1)).toNat]?=some [.int .i64 l[a]]:=by rw [hw1,hw2];simp [encI,h2']
  have hm:=Mod_spec l[a] n h1 hn
  have hv:nxV l a n=l[a] % n:=by unfold nxV;rw [List.getElem?_eq_getElem h2']
  have hv2:nxA l a=a+1:=by unfold nxA;rw [if_pos h2']
  rw [hv,hv2]
  generalize l[a]=x at hel hm
  refine ww ?_
  refine qAs (qAc (qAi hT rfl rfl rfl rfl h0 hel)) rfl rfl ?_
  refine ww ?_
  refine wwc hm ?_
  refine ww ?_
  refine ret_q ⟨rfl,rfl⟩ rfl (.refl _) ?_ rfl rfl rfl
  rw [hw1];rfl
def sgC (x:Int):UInt8:=signC.getD x.toNat 0
def sgF (L:List Int) (a:Nat):Nat→List UInt8×Nat
 | 0=>([],a)
 | m+1=>(sgC (nxV L a 36)::(sgF L (nxA L a) m).1,(sgF L (nxA L a) m).2)
def signF (L:List Int) (a n:Nat):List UInt8×Nat:=sgF L (nxA L a) ((nxV L a n).toNat+1)
theorem sgC_plain {x:Int} (h:0≤x∧x < 36):plainF [sgC x]=true:=by
 have hxl:x.toNat < signC.length:=by show x.toNat < 36;omega
 have:=signC_plain
 unfold plainF at this ⊢
 rw [List.all_eq_true] at this
 have hg:sgC x=signC[x.toNat]:=by unfold sgC;simp [hxl]
 rw [hg]
 simpa using this _ (List.getElem_mem hxl)
theorem sgF_ok {L:List Int}:∀ (m a:Nat),a≤L.length→plainF (sgF L a m).1=true∧(sgF L a m).1.length=m∧(sgF L a m).2≤L.length
 | 0,a,h=>⟨rfl,rfl,h⟩
 | m+1,a,h=>by
  obtain ⟨h1,h2,h3⟩:=sgF_ok m (nxA L a) (nxA_le h)
  refine ⟨?_,by simp [sgF,h2],h3⟩
  show plainF ([sgC (nxV L a 36)]++(sgF L (nxA L a) m).1)=true
  rw [plainF_append,h1,sgC_plain (nxV_range (by omega))];rfl
theorem signF_ok {L:List Int} {a n:Nat} (ha:a≤L.length) (hn:1≤n):SignM n (signF L a n).1∧(signF L a n).2≤L.length:=by
 have hv:=nxV_range (L:=L) (a:=a) (n:=(n:Int)) (by omega)
 obtain ⟨h1,h2,h3⟩:=sgF_ok (L:=L) ((nxV L a n).toNat+1) (nxA L a) (nxA_le ha)
 exact ⟨⟨h1,by show 1≤(sgF L (nxA L a) ((nxV L a n).toNat+1)).1.length;omega,by show (sgF L (nxA L a) ((nxV L a n).toNat+1)).1.length≤n;omega⟩,h3⟩
theorem SignsD_spec (L:List Int) (hL:L.length≤1000000) (a:Nat) (ha:a≤L.length) (n:Nat) (h1:1≤n) (hn:n≤100) :
  Spec Tryz.prog 61 [.ptr 0 0,.d (.int .i64 (n:Int))] [.row (diceR L a)] (fun r h'=>r=.d (.str (signF L a n).1)∧h'=[.row (diceR L (signF L a n).2)]):=by
 have hN:=qCt L hL a ha (n:Int) (by omega) (by omega)
 have hv:=nxV_range (L:=L) (a:=a) (n:=(n:Int)) (by omega)
 have hA:=nxA_le ha
 unfold signF
 generalize nxV L a n=m at hN hv
 generalize nxA L a=a1 at hN hA
 obtain ⟨m,rfl⟩:∃ m':Nat,m=(m':Int):=⟨m.toNat,by omega⟩
 rw [Int.toNat_natCast]
 have hw0:IntKind.i64.wrap (1+(m:Int))=((m+1:Nat):Int):=by rw [qAd (by omega)];omega
 generalize hfin:sgF L a1 (m+1)=fin
 refine qAb hT Tryz.func61 rfl rfl rfl rfl ?_;intro E hE
 refine ww ?_
 refine qAe (callS1 rfl rfl (hN) [0] (by decide) rfl rfl rfl rfl rfl rfl rfl) rfl ?_
 refine ww ?_
 refine qAq (qAt 5 1 1 (es:=[]) (.inr ⟨rfl,rfl⟩) rfl ?_)
 refine qAn (ι:=Nat×Nat×List UInt8) (fun x=>[(0,.ptr 0 0),(5,.sl 1 (encB x.2.2) (.right 1)),(6,.d (.int .i64 (x.2.1:Int)))]) (fun x=>[.row (diceR L x.1),.right 1 (encB x.2.2).length])
  (fun x=>x.1≤L.length∧x.2.2++(sgF L x.1 x.2.1).1=fin.1∧(sgF L x.1 x.2.1).2=fin.2∧x.2.2.length+x.2.1≤n) (fun x=>x.2.1) (a1,m+1,[]) ⟨hA,by simp only [hfin,List.nil_append],by simp only [hfin],by simp;omega⟩ ⟨.refl _,.refl _,.int hw0,trivial⟩ (HLe.refl _) ?_
 rintro ⟨b,m,out⟩ ⟨h1,h2,h3,h4⟩
 simp only at h1 h2 h3 h4 ⊢
 have hol:=qAg out
 refine ww ?_
 refine qAa rfl (fun h5=>?_) (fun h5=>?_)
 ·obtain ⟨m,rfl⟩:∃ m',m=m'+1:=⟨m-1,by simp at h5;omega⟩
  have hN:=qCt L hL b h1 36 (by omega) (by omega)
  have hv:=nxV_range (L:=L) (a:=b) (n:=36) (by omega)
  have hA:=nxA_le h1
  rw [sgF] at h2 h3
  simp only at h2 h3
  generalize nxA L b=b2 at hN hA h2 h3
  generalize nxV L b 36=x at hN hv h2 h3
  have hxl:x.toNat < signC.length:=by show x.toNat < 36;omega
  have hsx:strAt signC x=bI (sgC x):=by
   have:=qBu hxl
   rw [Int.toNat_of_nonneg hv.1] at this
   rw [this];unfold sgC;simp [hxl]
  have hsc:strAt (ByteArray.mk #[48,49,50,51,52,53,54,55,56,57,65,66,67,68,69,70,71,72,73,74,75,76,77,78,79,80,81,82,83,84,85,86,87,88,89,90]).data.toList x=bI (sgC x):=hsx
  generalize sgC x=c at hsc h2
  have hlen:0≤x∧x < ((ByteArray.mk #[48,49,50,51,52,53,54,55,56,57,65,66,67,68,69,70,71,72,73,74,75,76,77,78,79,80,81,82,83,84,85,86,87,88,89,90]).data.toList.length:Int):=hv
  refine ww ?_
  refine qAe (callS1 rfl rfl (hN) [0] (by decide) rfl rfl rfl rfl rfl rfl rfl) rfl ?_
  refine ww ?_
  refine qAe (qAk (i:=1) hT rfl rfl rfl rfl rfl rfl (by show ((encB out).length+1)*(1+1)≤_;first | omega | (simp only [qAg,qAh,List.length_append,List.length_cons,List.length_nil];omega))) rfl ?_
  have hwm:IntKind.i64.wrap (((m+1:Nat):Int)-1)=(m:Int):=by rw [qAd (by omega)];omega
  refine ww ?_
  have hres:encB (out++[c])=encB out++[[Dat.int .u8 (strAt (ByteArray.mk #[48,49,50,51,52,53,54,55,56,57,65,66,67,68,69,70,71,72,73,74,75,76,77,78,79,80,81,82,83,84,85,86,87,88,89,90]).data.toList x)]]:=by rw [qBa,hsc];rfl
  exact ⟨(b2,m,out++[c]),⟨hA,by rw [← h2];simp,h3,by simp only [List.length_append,List.length_singleton];omega⟩,by simp only;omega,⟨.refl _,AV.le.eq (by rw [hres];rfl),.int hwm,trivial⟩,⟨ObLe.refl _,⟨rfl,by rw [hres]⟩,trivial⟩⟩
 ·have h5':m=0:=by simp at h5;omega
  subst h5'
  simp only [sgF,List.append_nil] at h2 h3
  subst h2
  subst h3
  refine wwe ?_
  refine qAm (qAj ?_)
  refine wws ?_
  refine qBn hT rfl rfl (qAv fin.1) ?_
  refine ww ?_
  refine ret_q (r:=.d (.str fin.1)) ⟨rfl,rfl⟩ rfl ?_ rfl rfl rfl rfl
  rw [qBc]
  exact .refl _
theorem BytesO_spec (l:List Int) (hl:l.length≤1000000) (a:Nat) (ha:a≤l.length) (n:Nat) (hn:n≤1000000) :
  Spec Tryz.prog 112 [.ptr 0 0,.d (.int .i64 (n:Int))] [.row (diceR l a),.room] (fun r h'=>∃ x,BytesP l n x∧r=.sl 1 (encB x.1) (.right 1)∧h'=[.row (diceR l x.2),.right 1 (encB x.1).length]):=by
 have hN:=fun a ha n h1 hn=>qBr l hl a ha n h1 hn
 have hw0:IntKind.i64.wrap ((n:Int)+1)=((n+1:Nat):Int):=by rw [qAd (by omega)];omega
 refine qAb hT Tryz.func112 rfl rfl rfl rfl ?_;intro E hE
 refine ww ?_
 refine qAo (callX rfl rfl (hN a ha ((n+1:Nat):Int) (by omega) (by omega)) [0] (by decide) rfl (by rw [← hw0];rfl) rfl rfl (fun _=>rfl) (fun _=>rfl) (fun _=>rfl)) rfl ?_
 rintro ⟨m,a1⟩ ⟨q1,q2,q3⟩
 simp only at q1 q2 q3 ⊢
 obtain ⟨m,rfl⟩:∃ m':Nat,m=(m':Int):=⟨m.toNat,by omega⟩
 refine ww ?_
 refine qAt 5 1 1 (es:=[]) (.inr ⟨rfl,rfl⟩) rfl ?_
 refine qAn (ι:=Nat×Nat×List UInt8) (fun x=>[(0,.ptr 0 0),(5,.sl 1 (encB x.2.2) (.right 1)),(6,.d (.int .i64 (x.2.1:Int)))]) (fun x=>[.row (diceR l x.1),.right 1 (encB x.2.2).length])
  (fun x=>x.1≤l.length∧x.2.2.length+x.2.1≤n) (fun x=>x.2.1) (a1,m,[]) ⟨q3,by simp;omega⟩ ⟨.refl _,.refl _,.refl _,trivial⟩ (HLe.refl _) ?_
 rintro ⟨b,m,out⟩ ⟨h1,h2⟩
 simp only at h1 h2 ⊢
 have hol:=qAg out
 refine ww ?_
 refine qAa rfl (fun h3=>?_) (fun h3=>?_)
 ·obtain ⟨m,rfl⟩:∃ m',m=m'+1:=⟨m-1,by simp at h3;omega⟩
  refine ww ?_
  refine qAo (callX rfl rfl (hN b h1 256 (by omega) (by omega)) [0] (by decide) rfl rfl rfl rfl (fun _=>rfl) (fun _=>rfl) (fun _=>rfl)) rfl ?_
  rintro ⟨x,b2⟩ ⟨r1,r2,r3⟩
  simp only at r1 r2 r3 ⊢
  have hx:=u8_of ⟨r1,r2⟩
  refine ww ?_
  refine qAe (qAk (i:=1) hT rfl rfl rfl rfl rfl rfl (by show ((encB out).length+1)*(1+1)≤_;omega)) rfl ?_
  have hwm:IntKind.i64.wrap (((m+1:Nat):Int)-1)=(m:Int):=by rw [qAd (by omega)];omega
  refine ww ?_
  have hres:encB (out++[UInt8.ofNat x.toNat])=encB out++[[Dat.int .u8 (IntKind.u8.wrap x)]]:=by rw [qBa,hx];rfl
  exact ⟨(b2,m,out++[UInt8.ofNat x.toNat]),⟨r3,by simp only [List.length_append,List.length_singleton];omega⟩,by simp only;omega,⟨.refl _,AV.le.eq (by rw [hres];rfl),.int hwm,trivial⟩,⟨ObLe.refl _,⟨rfl,by rw [hres]⟩,trivial⟩⟩
 ·refine ww ?_
  exact ret_q ⟨(out,b),⟨by simp only;omega,h1⟩,rfl,rfl⟩ rfl (.refl _) rfl rfl rfl rfl
theorem validT_mk {t:Tpl} (hk:(t.kind=1∧t.part=0)∨(t.kind=2∧1≤t.part∧t.part≤10)∨(t.kind=3∧1≤t.part∧t.part≤2)) (h1:0≤t.frm∧t.frm≤t.til∧t.til≤73048) (h2:0≤t.fmt∧t.fmt≤65535)
  (h3:0≤t.qual∧t.qual≤100) (h4:1≤t.data.length∧t.data.length≤1024):validT t=0:=by
 have hm:mostT t.kind=if t.kind=2 then 10 else if t.kind=3 then 2 else 0:=rfl
 have d1:dayOk t.frm=true:=decide_eq_true ⟨h1.1,by omega⟩
 have d2:dayOk t.til=true:=decide_eq_true ⟨by omega,h1.2.2⟩
 unfold validT
 rw [if_neg (by omega)]
 rw [if_neg (by rw [hm];split <;> (try split) <;> omega)]
 rw [if_neg (by rw [d1,d2];simp;omega)]
 rw [if_neg (by omega)]
 rw [if_neg (by omega)]
def TplP (L:List Int) (k:Int) (x:Tpl×Nat):Prop:=validT x.1=0∧x.1.kind=k∧x.2≤L.length
theorem DTemplate_spec (L:List Int) (hL:L.length≤1000000) (a:Nat) (ha:a≤L.length) (k:Int) (hk:1≤k∧k≤3) :
  Spec Tryz.prog 64 [.ptr 0 0,.d (.int .i64 k)] [.row (diceR L a)] (fun r h'=>∃ x,TplP L k x∧r=tAV x.1∧h'=[.row (diceR L x.2)]):=by
 have hN:=fun a ha n h1 hn=>qBr L hL a ha n h1 hn
 have hB:=fun a ha=>BytesO_spec L hL a ha 40 (by omega)
 refine qAb hT Tryz.func64 rfl rfl rfl rfl ?_;intro E hE
 refine qAq ?_
 refine ww ?_
 refine qAo (callX rfl rfl (hN a ha 40000 (by omega) (by omega)) [0] (by decide) rfl rfl rfl rfl (fun _=>rfl) (fun _=>rfl) (fun _=>rfl)) rfl ?_
 rintro ⟨frm,a1⟩ ⟨p1,p2,p3⟩
 simp only at p1 p2 p3 ⊢
 refine ww ?_
 refine qAo (callX rfl rfl (hN a1 p3 65536 (by omega) (by omega)) [0] (by decide) rfl rfl rfl rfl (fun _=>rfl) (fun _=>rfl) (fun _=>rfl)) rfl ?_
 rintro ⟨fmt,a2⟩ ⟨q1,q2,q3⟩
 simp only at q1 q2 q3 ⊢
 refine ww ?_
 refine qAo (callX rfl rfl (hN a2 q3 101 (by omega) (by omega)) [0] (by decide) rfl rfl rfl rfl (fun _=>rfl) (fun _=>rfl) (fun _=>rfl)) rfl ?_
 rintro ⟨qual,a3⟩ ⟨r1,r2,r3⟩
 simp only at r1 r2 r3 ⊢
 refine wwn ?_
 have hD:=qCt L hL a3 r3 30000 (by omega) (by omega)
 have hv:=nxV_range (L:=L) (a:=a3) (n:=30000) (by omega)
 have hA:=nxA_le r3
 generalize nxV L a3 30000=dl at hD hv
 generalize nxA L a3=a4 at hD hA
 have hw1:IntKind.i64.wrap (frm+dl)=frm+dl:=qAd (by omega)
 refine qAz (fun i=>bif Nat.beq i 1 then [3] else bif Nat.beq i 3 then [0] else bif Nat.beq i 6 then [3] else []) (fun i=>bif Nat.beq i 3 then [0] else bif Nat.beq i 6 then [3] else []) mixed (by kernel_rfl) ?_
 refine wwg ?_
 refine qBd (v:=.d (.int .i64 dl)) (os:=[.row (diceR L a4)]) (fun k hk1 hk2=>callS1 rfl rfl hD [0] (by decide) (by show [k[0]?]=_;rw [hk2 0 List.mem_cons_self];rfl) rfl rfl rfl rfl rfl rfl) rfl ?_
 refine wwg ?_
 refine ww ?_
 refine qAo (callXv rfl rfl (hB a4 hA) [0,1] (by decide) rfl rfl rfl rfl (fun _=>rfl) (v:=fun x=>.sl 1 (encB x.1) (.right 1)) (fun _=>rfl) (fun _=>rfl)) rfl ?_
 rintro ⟨dat,a5⟩ ⟨s1,s2⟩
 simp only at s1 s2 ⊢
 have hdl:=qAg dat
 refine ww ?_
 refine qAo (callX rfl rfl (hN a5 s2 256 (by omega) (by omega)) [0] (by decide) rfl rfl rfl rfl (fun _=>rfl) (fun _=>rfl) (fun _=>rfl)) rfl ?_
 rintro ⟨x,a6⟩ ⟨t1,t2,t3⟩
 simp only at t1 t2 t3 ⊢
 have hx:=u8_of ⟨t1,t2⟩
 refine ww ?_
 refine qAe (qAk (i:=1) hT rfl rfl rfl rfl rfl rfl (by show ((encB dat).length+1)*(1+1)≤_;first | omega | (simp only [qAg,qAh,List.length_append,List.length_cons,List.length_nil];omega))) rfl ?_
 have hres:encB (dat++[UInt8.ofNat x.toNat])=encB dat++[[Dat.int .u8 (IntKind.u8.wrap x)]]:=by rw [qBa,hx];rfl
 rw [← hres]
 have hel:1≤(dat++[UInt8.ofNat x.toNat]).length∧(dat++[UInt8.ofNat x.toNat]).length≤41:=by simp;omega
 generalize dat++[UInt8.ofNat x.toNat]=da at hel
 refine ww ?_
 refine qAa rfl (fun c1=>?_) (fun c1=>?_)
 ·have c1':k=2:=by simpa using c1
  refine ww ?_
  refine qAo (callX rfl rfl (hN a6 t3 10 (by omega) (by omega)) [0] (by decide) rfl rfl rfl rfl (fun _=>rfl) (fun _=>rfl) (fun _=>rfl)) rfl ?_
  rintro ⟨y,a7⟩ ⟨u1,u2,u3⟩
  simp only at u1 u2 u3 ⊢
  have hw2:IntKind.i64.wrap (1+y)=1+y:=qAd (by omega)
  refine ww ?_
  exact rq ⟨(⟨k,1+y,frm,frm+dl,fmt,qual,da⟩,a7),⟨validT_mk (.inr (.inl ⟨c1',by simp only;omega,by simp only;omega⟩)) ⟨p1,by simp only;omega,by simp only;omega⟩ ⟨q1,by simp only;omega⟩ ⟨r1,by simp only;omega⟩ ⟨hel.1,by simp only;omega⟩,rfl,u3⟩,rfl,rfl⟩ rfl (AV.le.agg ⟨.refl _,.int hw2,.refl _,.int hw1,.refl _,.refl _,.dat,trivial⟩)
 have c1':¬ k=2:=by simpa using c1
 refine ww ?_
 refine qAa rfl (fun c2=>?_) (fun c2=>?_)
 ·have c2':k=3:=by simpa using c2
  refine ww ?_
  refine qAo (callX rfl rfl (hN a6 t3 2 (by omega) (by omega)) [0] (by decide) rfl rfl rfl rfl (fun _=>rfl) (fun _=>rfl) (fun _=>rfl)) rfl ?_
  rintro ⟨y,a7⟩ ⟨u1,u2,u3⟩
  simp only at u1 u2 u3 ⊢
  have hw2:IntKind.i64.wrap (1+y)=1+y:=qAd (by omega)
  refine ww ?_
  exact rq ⟨(⟨k,1+y,frm,frm+dl,fmt,qual,da⟩,a7),⟨validT_mk (.inr (.inr ⟨c2',by simp only;omega,by simp only;omega⟩)) ⟨p1,by simp only;omega,by simp only;omega⟩ ⟨q1,by simp only;omega⟩ ⟨r1,by simp only;omega⟩ ⟨hel.1,by simp only;omega⟩,rfl,u3⟩,rfl,rfl⟩ rfl (AV.le.agg ⟨.refl _,.int hw2,.refl _,.int hw1,.refl _,.refl _,.dat,trivial⟩)
 have c2':¬ k=3:=by simpa using c2
 refine ww ?_
 exact rq ⟨(⟨k,0,frm,frm+dl,fmt,qual,da⟩,a6),⟨validT_mk (.inl ⟨by simp only;omega,rfl⟩) ⟨p1,by simp only;omega,by simp only;omega⟩ ⟨q1,by simp only;omega⟩ ⟨r1,by simp only;omega⟩ ⟨hel.1,by simp only;omega⟩,rfl,t3⟩,rfl,rfl⟩ rfl (AV.le.agg ⟨.refl _,.refl _,.refl _,.int hw1,.refl _,.refl _,.dat,trivial⟩)
def TplsP (L:List Int) (k:Int) (x:List Tpl×Nat):Prop:=(∀ t,t∈x.1→validT t=0∧t.kind=k)∧1≤x.1.length∧x.1.length≤3∧x.2≤L.length
theorem DTemplates_spec (L:List Int) (hL:L.length≤1000000) (a:Nat) (ha:a≤L.length) (k:Int) (hk:1≤k∧k≤3) :
  Spec Tryz.prog 18 [.ptr 0 0,.d (.int .i64 k)] [.row (diceR L a)] (fun r h'=>∃ x,TplsP L k x∧r=.d (.sl 7 (encTs x.1))∧h'=[.row (diceR L x.2)]):=by
 have hN:=qBr L hL a ha 3 (by omega) (by omega)
 have hT':=fun a ha=>DTemplate_spec L hL a ha k hk
 refine qAb hT Tryz.func18 rfl rfl rfl rfl ?_;intro E hE
 refine ww ?_
 refine qAo (callX rfl rfl (hN) [0] (by decide) rfl rfl rfl rfl (fun _=>rfl) (fun _=>rfl) (fun _=>rfl)) rfl ?_
 rintro ⟨m,a1⟩ ⟨q1,q2,q3⟩
 simp only at q1 q2 q3 ⊢
 obtain ⟨m,rfl⟩:∃ m':Nat,m=(m':Int):=⟨m.toNat,by omega⟩
 have hw0:IntKind.i64.wrap (1+(m:Int))=((m+1:Nat):Int):=by rw [qAd (by omega)];omega
 refine ww ?_
 refine qAq (qAt 5 7 1 (es:=[]) (.inr ⟨rfl,rfl⟩) rfl ?_)
 refine qAn (ι:=Nat×Nat×List Tpl) (fun x=>[(0,.ptr 0 0),(1,.d (.int .i64 k)),(5,.sl 7 (encTs x.2.2) (.right 1)),(6,.d (.int .i64 (x.2.1:Int)))]) (fun x=>[.row (diceR L x.1),.right 7 (encTs x.2.2).length])
  (fun x=>x.1≤L.length∧(∀ t,t∈x.2.2→validT t=0∧t.kind=k)∧x.2.2.length+x.2.1≤3∧1≤x.2.2.length+x.2.1) (fun x=>x.2.1) (a1,m+1,[]) ⟨q3,(by simp),by simp;omega,by simp⟩ ⟨.refl _,.refl _,.refl _,.int hw0,trivial⟩ (HLe.refl _) ?_
 rintro ⟨b,m,out⟩ ⟨h1,h2,h3,h4⟩
 simp only at h1 h2 h3 h4 ⊢
 have hol:=qCg out
 refine ww ?_
 refine qAa rfl (fun h5=>?_) (fun h5=>?_)
 ·obtain ⟨m,rfl⟩:∃ m',m=m'+1:=⟨m-1,by simp at h5;omega⟩
  have hwm:IntKind.i64.wrap (((m+1:Nat):Int)-1)=(m:Int):=by rw [qAd (by omega)];omega
  refine ww ?_
  refine qAo (callX rfl rfl (hT' b h1) [0] (by decide) rfl rfl rfl rfl (fun _=>rfl) (fun _=>rfl) (fun _=>rfl)) rfl ?_
  rintro ⟨t,b2⟩ ⟨r1,r2,r3⟩
  simp only at r1 r2 r3 ⊢
  unfold tAV tCells
  refine ww ?_
  refine qAe (qAk (i:=1) hT rfl rfl rfl rfl rfl rfl (by show ((encTs out).length+1)*(72+1)≤_;first | omega | (simp only [qAg,qAh,List.length_append,List.length_cons,List.length_nil];omega))) rfl ?_
  refine ww ?_
  have hres:encTs (out++[t])=encTs out++[encT t]:=by rw [encTs_append];rfl
  refine ⟨(b2,m,out++[t]),⟨r3,fun y hy=>?_,by simp only [List.length_append,List.length_singleton];omega,by simp only [List.length_append,List.length_singleton];omega⟩,by simp only;omega,⟨.refl _,.refl _,AV.le.eq (by rw [hres];rfl),.int hwm,trivial⟩,⟨ObLe.refl _,⟨rfl,by rw [hres];rfl⟩,trivial⟩⟩
  rcases List.mem_append.1 hy with hy | hy
  ·exact h2 y hy
  ·rw [List.mem_singleton.1 hy];exact ⟨r1,r2⟩
 ·have h5':m=0:=by simp at h5;omega
  subst h5'
  refine ww ?_
  exact ret_q ⟨(out,b),⟨h2,by simp only;omega,by simp only;omega,h1⟩,rfl,rfl⟩ rfl .dat rfl rfl rfl rfl
end Tdoc
/- made.Spoil. -/
set_option maxHeartbeats 8000000
set_option maxRecDepth 100000
set_option linter.unusedVariables false
set_option linter.unusedSimpArgs false
namespace Tdoc
open Go Go.Proofs
theorem encB_flat (b:List UInt8):flatAV (encB b)=byteAV b:=by
 unfold flatAV encB byteAV
 induction b with
 | nil=>rfl
 | cons c b ih=>simp only [List.map_cons,List.flatten_cons,List.map_append,ih];rfl
theorem byteAV_opt (b:List UInt8) (j:Nat):(byteAV b)[j]?=(b[j]?).map fun c=>AV.d (.int .u8 (c.toNat:Int)):=by simp [byteAV]
theorem rowDat_bytes {cells:List AV} {b:List UInt8} (h:∀ (i:Nat) (c:UInt8),b[i]?=some c→cells[i]?=some (.d (.int .u8 (c.toNat:Int)))):RowDat cells 0 1 (encB b):=by
 refine ⟨fun e he=>?_,fun i e j d he hd=>?_⟩
 ·obtain ⟨c,_,rfl⟩:=List.mem_map.1 he
  rfl
 ·unfold encB at he
  rw [List.getElem?_map,Option.map_eq_some_iff] at he
  obtain ⟨c,hc,rfl⟩:=he
  cases j with
  | succ j=>simp at hd
  | zero =>
   simp at hd
   subst hd
   exact ⟨_,by rw [show 0+(i*1+0)=i by omega];exact h i c hc,rfl⟩
def SpoilP (L:List Int) (b:List UInt8) (x:List UInt8×Nat):Prop:=x.1.length≤b.length+1∧x.2≤L.length
theorem Spoil_nil (L:List Int) (hL:L.length≤1000000) (a:Nat) (ha:a≤L.length) :
  Spec Tryz.prog 37 [.ptr 0 0,.d (.sl 1 (encB []))] [.row (diceR L a)] (fun r h'=>∃ x,SpoilP L [] x∧r=.d (.sl 1 (encB x.1))∧h'=[.row (diceR L x.2)]):=by
 have hN:=qCt L hL a ha 256 (by omega) (by omega)
 have hA:=nxA_le ha
 refine qAb hT Tryz.func37 rfl rfl rfl rfl ?_;intro E hE
 refine ww ?_
 refine qAe (qBi (es:=[]) (es2:=[]) hT rfl rfl rfl (.inr ⟨rfl,rfl⟩) rfl (by decide)) rfl ?_
 refine ww ?_
 refine qAa rfl (fun c1=>?_) (fun c1=>?_)
 ·refine ww ?_
  refine qAe (callS1 (H':=[.row (diceR L (nxA L a))]) rfl rfl hN [0] (by decide) rfl rfl rfl rfl rfl rfl rfl) rfl ?_
  refine ww ?_
  exact rq ⟨([bOf (nxV L a 256)],nxA L a),⟨by simp,hA⟩,rfl,rfl⟩ rfl (AV.le.trans AV.le.dat (AV.le.eq (by rw [bOf_wrap];rfl)))
 ·exact absurd c1 (by decide)
theorem Spoil_cut (L:List Int) (hL:L.length≤1000000) (a:Nat) (ha:a≤L.length) (b:List UInt8) (hb:b.length≤1000000) (hb0:b≠[]) (h2:nxV L (nxA L a) 4=2) :
  Spec Tryz.prog 37 [.ptr 0 0,.d (.sl 1 (encB b))] [.row (diceR L a)] (fun r h'=>∃ x,SpoilP L b x∧r=.d (.sl 1 (encB x.1))∧h'=[.row (diceR L x.2)]):=by
 have hbl:=qAg b
 have hpos:0 < b.length:=List.length_pos_iff.2 hb0
 have hA:=nxA_le ha
 have hA2:=nxA_le hA
 have hN1:=qCt L hL a ha ((encB b).length:Int) (by omega) (by omega)
 have hv1:=nxV_range (L:=L) (a:=a) (n:=((encB b).length:Int)) (by omega)
 have hN2:=qCt L hL (nxA L a) hA 4 (by omega) (by omega)
 rw [h2] at hN2
 obtain ⟨k,hk⟩:∃ k:Nat,nxV L a ((encB b).length:Int)=(k:Int):=⟨(nxV L a ((encB b).length:Int)).toNat,by omega⟩
 rw [hk] at hN1 hv1
 have hkl:k < b.length:=by omega
 have hwk:IntKind.i64.wrap ((k:Int)+1)=((k+1:Nat):Int):=by rw [qAd (by omega)];simp
 have hne:encB b≠[]:=by intro h;rw [h] at hbl;simp at hbl;omega
 have hfl:(flatAV (encB b)).length=b.length:=by rw [encB_flat,qDc]
 have hrow:RowDat (setRun (flatAV (encB b)) (k*1) (((flatAV (encB b)).drop (k+1)).take (((encB b).length-(k+1))*1))) 0 1 (encB (b.eraseIdx k)):=by
  refine rowDat_bytes fun i c hi=>?_
  have hil:i < b.length-1:=by have:=(List.getElem?_eq_some_iff.1 hi).1;rw [List.length_eraseIdx] at this;split at this <;> omega
  have htl:(((flatAV (encB b)).drop (k+1)).take (((encB b).length-(k+1))*1)).length=b.length-(k+1):=by rw [List.length_take,List.length_drop,hfl,hbl];omega
  rw [setRun_at _ _ _ _ (by rw [htl,hfl];omega),htl,List.getElem?_take,List.getElem?_drop,encB_flat,byteAV_opt,byteAV_opt]
  rw [List.getElem?_eraseIdx] at hi
  split at hi
  ·rw [if_neg (by omega),hi];rfl
  ·rw [if_pos (by omega),if_pos (by rw [hbl];omega),show k+1+(i-k*1)=i+1 by omega,hi];rfl
 have hel:(encB (b.eraseIdx k)).length=k+((encB b).length-(k+1)):=by rw [qAg,List.length_eraseIdx,if_pos hkl,hbl];omega
 generalize nxA L (nxA L a)=a2 at hN2 hA2
 generalize nxA L a=a1 at hN1 hN2 hA
 refine qAb hT Tryz.func37 rfl rfl rfl rfl ?_;intro E hE
 refine qAq ?_
 refine ww ?_
 refine qAo (appFresh_ok (i0:=1) hT rfl rfl rfl (.inr rfl) rfl hne (by show (encB b).length*(1+1)≤_;omega) rfl) rfl ?_
 intro cap hcap
 have hf1:k+((encB b).length-(k+1))≤cap:=by omega
 have hf2:(k+((encB b).length-(k+1)))*1≤(flatAV (encB b)).length:=by rw [hfl];omega
 have hf3:(if cap=k+1 then 0 else k+1)+((encB b).length-(k+1))*1≤(flatAV (encB b)).length:=by rw [hfl];split <;> omega
 have hdr:(List.take (((encB b).length-(k+1))*1) (List.drop (if cap=k+1 then 0 else k+1) (flatAV (encB b))))=(List.take (((encB b).length-(k+1))*1) (List.drop (k+1) (flatAV (encB b)))):=by
  split
  ·rw [show (encB b).length-(k+1)=0 by omega];simp
  ·rfl
 refine ww ?_
 refine qAa rfl (fun c1=>?_) (fun c1=>?_)
 ·exact absurd c1 (by simp;omega)
 refine ww ?_
 refine qAe (callS1 (H':=[.row (diceR L a1),.row (flatAV (encB b))]) rfl rfl hN1 [0] (by decide) rfl rfl rfl rfl rfl rfl rfl) rfl ?_
 refine ww ?_
 refine qAe (callS1 (H':=[.row (diceR L a2),.row (flatAV (encB b))]) rfl rfl hN2 [0] (by decide) rfl rfl rfl rfl rfl rfl rfl) rfl ?_
 refine ww ?_
 refine qAa rfl (fun c2=>?_) (fun c2=>?_)
 ·exact absurd c2 (by decide)
 refine ww ?_
 refine qAa rfl (fun c3=>?_) (fun c3=>?_)
 ·exact absurd c3 (by decide)
 refine ww ?_
 refine qAa rfl (fun c4=>?_) (fun c4=>?_)
 ·refine wwn ?_
  refine qAz (fun i=>bif Nat.beq i 7 then [1] else []) (fun i=>bif Nat.beq i 7 then [1] else []) mixed (by kernel_rfl) ?_
  refine wwg ?_
  refine qBl (rowCutE (sz:=1) (v:=.row 1 0 k cap) (l:=0) (r:=k) hT rfl rfl rfl rfl ⟨_,rfl⟩ (by omega) (by omega) (by simp)) rfl rfl ?_
  refine wwg ?_
  refine qBl (rowCutE (sz:=1) (v:=.row 1 (if cap=k+1 then 0 else k+1) ((encB b).length-(k+1)) (cap-(k+1))) (l:=k+1) (r:=(encB b).length) hT rfl rfl rfl ⟨.i64,by rw [← hwk];rfl⟩ rfl (by omega) (by omega) (by simp)) rfl rfl ?_
  refine qBd (os:=[.row (setRun (flatAV (encB b)) (k*1) (((flatAV (encB b)).drop (k+1)).take (((encB b).length-(k+1))*1)))]) (fun kk hk1 hk2=>by rw [← hdr];exact appSelf_ok (i:=1) (n:=k) (cap:=cap) (off2:=if cap=k+1 then 0 else k+1) (m:=(encB b).length-(k+1)) (cap2:=cap-(k+1)) (cells:=flatAV (encB b)) hT rfl rfl rfl rfl rfl ((hk2 1 List.mem_cons_self).trans rfl) hf1 hf2 hf3) rfl ?_
  refine wwg ?_
  refine AW_freeze 5 1 1 (encB (b.eraseIdx k)) rfl rfl hel (by omega) hrow ?_
  refine ww ?_
  exact rq ⟨(b.eraseIdx k,a2),⟨by rw [List.length_eraseIdx];split <;> omega,hA2⟩,rfl,rfl⟩ rfl (.refl _)
 ·exact absurd c4 (by decide)
end Tdoc
/- made.Spoil: the other changes; the contract. -/
set_option maxHeartbeats 8000000
set_option maxRecDepth 100000
set_option linter.unusedVariables false
set_option linter.unusedSimpArgs false
namespace Tdoc
open Go Go.Proofs
theorem rowDat_self (b:List UInt8):RowDat (flatAV (encB b)) 0 1 (encB b):=rowDat_bytes fun i c hi=>by rw [encB_flat,byteAV_opt,hi];rfl
theorem rowDat_set (b:List UInt8) (k:Nat) (n:Int):RowDat ((flatAV (encB b)).set k (.d (.int .u8 (IntKind.u8.wrap n)))) 0 1 (encB (b.set k (bOf n))):=by
 refine rowDat_bytes fun i c hi=>?_
 rw [encB_flat,List.getElem?_set]
 rw [List.getElem?_set] at hi
 split at hi
 ·rename_i h
  subst h
  split at hi
  ·rename_i h
   cases hi
   rw [if_pos rfl,if_pos (by rw [qDc];exact h),bOf_wrap]
  ·cases hi
 ·rename_i h
  rw [if_neg h,byteAV_opt,hi]
  rfl
theorem rowDat_app (b:List UInt8) (n:Int):RowDat (flatAV (encB b)++flatAV [[.int .u8 (IntKind.u8.wrap n)]]) 0 1 (encB (b++[bOf n])):=by
 refine rowDat_bytes fun i c hi=>?_
 have:flatAV [[Dat.int .u8 (IntKind.u8.wrap n)]]=byteAV [bOf n]:=by show [AV.d (.int .u8 (IntKind.u8.wrap n))]=_;rw [bOf_wrap];rfl
 rw [this,encB_flat,show byteAV b++byteAV [bOf n]=byteAV (b++[bOf n]) by simp [byteAV],byteAV_opt,hi]
 rfl
theorem Spoil_buf (L:List Int) (hL:L.length≤1000000) (a:Nat) (ha:a≤L.length) (b:List UInt8) (hb:b.length≤1000000) (hb0:b≠[]) (h2:nxV L (nxA L a) 4≠2) :
  Spec Tryz.prog 37 [.ptr 0 0,.d (.sl 1 (encB b))] [.row (diceR L a)] (fun r h'=>∃ x,SpoilP L b x∧r=.d (.sl 1 (encB x.1))∧h'=[.row (diceR L x.2)]):=by
 have hbl:=qAg b
 have hpos:0 < b.length:=List.length_pos_iff.2 hb0
 have hA:=nxA_le ha
 have hA2:=nxA_le hA
 have hA3:=nxA_le hA2
 have hN1:=qCt L hL a ha ((encB b).length:Int) (by omega) (by omega)
 have hv1:=nxV_range (L:=L) (a:=a) (n:=((encB b).length:Int)) (by omega)
 have hN2:=qCt L hL (nxA L a) hA 4 (by omega) (by omega)
 have hv2:=nxV_range (L:=L) (a:=nxA L a) (n:=4) (by omega)
 have hN3:=qCt L hL (nxA L (nxA L a)) hA2 256 (by omega) (by omega)
 have hN4:=qCt L hL (nxA L (nxA L a)) hA2 8 (by omega) (by omega)
 have hv4:=nxV_range (L:=L) (a:=nxA L (nxA L a)) (n:=8) (by omega)
 obtain ⟨k,hk⟩:∃ k:Nat,nxV L a ((encB b).length:Int)=(k:Int):=⟨(nxV L a ((encB b).length:Int)).toNat,by omega⟩
 rw [hk] at hN1 hv1
 have hkl:k < b.length:=by omega
 have hfl:(flatAV (encB b)).length=b.length:=by rw [encB_flat,qDc]
 have hcell:(flatAV (encB b))[k*1]?=some (.d (.int .u8 ((b[k]).toNat:Int))):=by rw [Nat.mul_one,encB_flat,byteAV_opt];simp [hkl]
 have hself:=rowDat_self b
 generalize hw3:nxV L (nxA L (nxA L a)) 256=v3 at hN3
 generalize hw4:nxV L (nxA L (nxA L a)) 8=v4 at hN4 hv4
 generalize nxA L (nxA L (nxA L a))=a3 at hN3 hN4 hA3
 generalize nxA L (nxA L a)=a2 at hN2 hN3 hN4 hA2
 generalize nxV L (nxA L a) 4=v at hN2 hv2 h2
 generalize nxA L a=a1 at hN1 hN2 hA
 have hlt:k*1 < (flatAV (encB b)).length:=by omega
 have hlt':((k:Int)).toNat*1 < (flatAV (encB b)).length:=by omega
 have hset:∀ n:Int,RowDat ((flatAV (encB b)).set (((k:Int)).toNat*1) (.d (.int .u8 (IntKind.u8.wrap n)))) 0 1 (encB (b.set k (bOf n))):=fun n=>by rw [show ((k:Int)).toNat*1=k by simp];exact rowDat_set b k n
 have hw0:0≤IntKind.u64.wrap v4:=by simp only [IntKind.wrap,IntKind.signed,IntKind.bits];simp;omega
 have happ:=fun n=>rowDat_app b n
 generalize (b[k]).toNat=bk at hcell
 refine qAb hT Tryz.func37 rfl rfl rfl rfl ?_;intro E hE
 refine qAq ?_
 refine ww ?_
 refine qAe (bufApp0_ok (i:=1) hT rfl rfl rfl (.inr rfl) (by intro h;cases h) rfl rfl (by show (encB b).length*(1+1)≤_;omega)) rfl ?_
 refine ww ?_
 refine qAa rfl (fun c1=>?_) (fun c1=>?_)
 ·exact absurd c1 (by simpa [hbl] using hb0)
 refine ww ?_
 refine qAe (callS1 (H':=[.row (diceR L a1),.buf 1 (encB b).length (flatAV (encB b))]) rfl rfl hN1 [0] (by decide) rfl rfl rfl rfl rfl rfl rfl) rfl ?_
 refine ww ?_
 refine qAe (callS1 (H':=[.row (diceR L a2),.buf 1 (encB b).length (flatAV (encB b))]) rfl rfl hN2 [0] (by decide) rfl rfl rfl rfl rfl rfl rfl) rfl ?_
 refine ww ?_
 refine qAa rfl (fun c2=>?_) (fun c2=>?_)
 ·refine ww ?_
  refine qAe (callS1 (H':=[.row (diceR L a3),.buf 1 (encB b).length (flatAV (encB b))]) rfl rfl hN3 [0] (by decide) rfl rfl rfl rfl rfl rfl rfl) rfl ?_
  refine ww ?_
  refine qAe (qAc (qCa (sz:=1) hT rfl rfl rfl rfl (by omega))) rfl ?_
  refine ww ?_
  refine AWk_op0 (bufStoreE hT rfl rfl rfl rfl rfl rfl rfl hlt rfl) rfl ?_
  refine wws ?_
  refine AW_freezeBuf 5 1 1 (encB (b.set k (bOf v3))) rfl rfl (by rw [qAg,List.length_set,hbl]) (hset v3) rfl ?_
  refine ww ?_
  exact rq ⟨(b.set k (bOf v3),a3),⟨by simp,hA3⟩,rfl,rfl⟩ rfl AV.le.dat
 refine ww ?_
 refine qAa rfl (fun c3=>?_) (fun c3=>?_)
 ·refine wwn ?_
  refine qAz (fun i=>bif Nat.beq i 3 then [1] else bif Nat.beq i 5 then [0] else bif Nat.beq i 10 then [1] else []) (fun i=>bif Nat.beq i 5 then [0] else bif Nat.beq i 10 then [1] else []) mixed (by kernel_rfl) ?_
  refine wwg ?_
  refine qBl (qCa (sz:=1) hT rfl rfl rfl rfl (by omega)) rfl rfl ?_
  refine qBd (v:=.d (.int .u8 (bk:Int))) (os:=[]) (fun kk hk1 hk2=>bufLoad_ok hT rfl rfl ((hk2 1 List.mem_cons_self).trans rfl) rfl rfl hcell) rfl ?_
  refine wwg ?_
  refine qBd (os:=[.row (diceR L a3)]) (fun kk hk1 hk2=>callS1 rfl rfl hN4 [0] (by decide) (by show [kk[0]?]=[some _];rw [hk2 0 List.mem_cons_self];rfl) rfl rfl rfl rfl rfl rfl) rfl ?_
  refine wwg ?_
  refine qBl (qCa (sz:=1) hT rfl rfl rfl rfl (by omega)) rfl rfl ?_
  refine qBd (v:=.any) (os:=[.buf 1 (encB b).length ((flatAV (encB b)).set (((k:Int)).toNat*1) (.d (.int .u8 (IntKind.u8.wrap ((BitVec.ofInt IntKind.u8.bits (bk:Int) ^^^ BitVec.ofInt IntKind.u8.bits (IntKind.u8.wrap (1*2 ^ min (IntKind.u64.wrap v4).toNat IntKind.u8.bits))).toNat:Int)))))]) (fun kk hk1 hk2=>by refine bufStoreE (t:=5) (x:=.tmp 47) (y:=.tmp 46) (vy:=.d (.int .u8 (IntKind.u8.wrap ((BitVec.ofInt IntKind.u8.bits (bk:Int) ^^^ BitVec.ofInt IntKind.u8.bits (IntKind.u8.wrap (1*2 ^ min (IntKind.u64.wrap v4).toNat IntKind.u8.bits))).toNat:Int)))) hT rfl rfl rfl ?_ rfl rfl rfl hlt' rfl;exact (hk2 1 List.mem_cons_self).trans rfl) rfl ?_
  refine wwg ?_
  refine AW_freezeBuf 5 1 1 (encB (b.set k (bOf ((BitVec.ofInt IntKind.u8.bits (bk:Int) ^^^ BitVec.ofInt IntKind.u8.bits (IntKind.u8.wrap (1*2 ^ min (IntKind.u64.wrap v4).toNat IntKind.u8.bits))).toNat:Int)))) rfl rfl (by rw [qAg,List.length_set,hbl]) (hset _) rfl ?_
  refine ww ?_
  exact rq ⟨(b.set k (bOf ((BitVec.ofInt IntKind.u8.bits (bk:Int) ^^^ BitVec.ofInt IntKind.u8.bits (IntKind.u8.wrap (1*2 ^ min (IntKind.u64.wrap v4).toNat IntKind.u8.bits))).toNat:Int)),a3),⟨by simp,hA3⟩,rfl,rfl⟩ rfl AV.le.dat
 refine ww ?_
 refine qAa rfl (fun c4=>?_) (fun c4=>?_)
 ·exact absurd (by simpa using c4) h2
 refine ww ?_
 refine qAe (callS1 (H':=[.row (diceR L a3),.buf 1 (encB b).length (flatAV (encB b))]) rfl rfl hN3 [0] (by decide) rfl rfl rfl rfl rfl rfl rfl) rfl ?_
 refine ww ?_
 refine qAe (bufApp_ok hT rfl rfl rfl rfl rfl rfl (by show ((encB b).length+1)*(1+1)≤_;omega)) rfl ?_
 refine wws ?_
 refine AW_freezeBuf 5 1 1 (encB (b++[bOf v3])) rfl rfl (by rw [qAg,List.length_append,hbl];rfl) (happ v3) rfl ?_
 refine ww ?_
 exact rq ⟨(b++[bOf v3],a3),⟨by simp,hA3⟩,rfl,rfl⟩ rfl AV.le.dat
theorem Spoil_spec (L:List Int) (hL:L.length≤1000000) (a:Nat) (ha:a≤L.length) (b:List UInt8) (hb:b.length≤1000000) :
  Spec Tryz.prog 37 [.ptr 0 0,.d (.sl 1 (encB b))] [.row (diceR L a)] (fun r h'=>∃ x,SpoilP L b x∧r=.d (.sl 1 (encB x.1))∧h'=[.row (diceR L x.2)]):=by
 by_cases h0:b=[]
 ·subst h0;exact Spoil_nil L hL a ha
 ·by_cases h2:nxV L (nxA L a) 4=2
  ·exact Spoil_cut L hL a ha b hb h0 h2
  ·exact Spoil_buf L hL a ha b hb h0 h2
end Tdoc
/- Dice: a zone. -/
set_option maxHeartbeats 8000000
set_option maxRecDepth 100000
set_option linter.unusedVariables false
set_option linter.unusedSimpArgs false
namespace Tdoc
open Go Go.Proofs
def kindT:List (List UInt8):=[[80],[73,68],[86],[65,67]]
def stateT:List (List UInt8):=[[85,84,79],[68],[88,88],[65,66,67]]
def birT:List (List UInt8):=[[60,60,60,60,60,60],[56,53,60,60,60,60],[56,53,49,50,60,60],[60,60,48,49,51,49],[48,48,48,50,60,60]]
def sexT:List (List UInt8):=[[77],[70],[60]]
def BirM (s:List UInt8):Prop:=(∃ d,(0≤d∧d≤73048)∧FormatP d s)∨s∈birT
structure ZMade (z:Zon):Prop where
 fmt:1≤z.fmt∧z.fmt≤3
 kind:z.kind∈kindT
 state:z.state∈stateT
 nat:z.nat∈stateT
 sur:NameM 2 z.sur∧z.sur≠[]
 giv:NameM 3 z.giv
 num:SignM (mostN z.fmt).toNat z.num
 bir:BirM z.bir
 sex:z.sex∈sexT
 exp:∃ d,(36524≤d∧d≤73048)∧FormatP d z.exp
 opt:z.opt=[]∨(0 < roomF z∧SignM (roomF z).toNat z.opt)
 sec:z.sec=[]∨(z.fmt=1∧SignM 11 z.sec)
theorem FormatP.len {d:Int} {s:List UInt8} (h:FormatP d s):s.length=6:=by obtain ⟨x,_,rfl⟩:=h;rfl
theorem BirM.len {s:List UInt8} (h:BirM s):s.length=6:=by
 rcases h with ⟨d,_,h⟩ | h
 ·exact h.len
 ·revert s;decide
theorem mem_at {T:List (List UInt8)} {x:Int} (h1:0≤x) (h2:x < (T.length:Int)):∃ w,(T.map fun s=>[Dat.str s])[x.toNat]?=some [.str w]∧w∈T:=by
 have hl:x.toNat < T.length:=by omega
 exact ⟨T[x.toNat],by simp [hl],List.getElem_mem hl⟩
theorem ZMade.len {z:Zon} (h:ZMade z):zLen z:=by
 have m1:mostN z.fmt≤20:=by unfold mostN;split <;> (try split) <;> omega
 have m2:roomF z≤15:=by unfold roomF;split <;> (try split) <;> (try split) <;> omega
 have k1:∀ s,s∈kindT→s.length≤100:=by decide
 have k2:∀ s,s∈stateT→s.length≤100:=by decide
 have k3:∀ s,s∈sexT→s.length≤100:=by decide
 have a1:=k1 _ h.kind
 have a2:=k2 _ h.state
 have a3:=k2 _ h.nat
 have a4:=h.sur.1.2
 have a5:=h.giv.2
 have a6:=h.num.2.2
 have a7:=h.bir.len
 have a8:=k3 _ h.sex
 obtain ⟨d,_,hd⟩:=h.exp
 have a9:=hd.len
 have a10:z.opt.length≤100:=by
  rcases h.opt with h | ⟨_,h⟩
  ·rw [h];simp
  ·have:=h.2.2;omega
 have a11:z.sec.length≤100:=by
  rcases h.sec with h | ⟨_,h⟩
  ·rw [h];simp
  ·have:=h.2.2;omega
 refine ⟨?_,?_,?_,?_,?_,?_,?_,?_,?_,?_,?_⟩ <;> omega
def DZoneP (L:List Int) (x:Zon×Nat):Prop:=ZMade x.1∧x.2≤L.length
def Z0:List AV:=[.d (.int .i64 0),.d (.str []),.d (.str []),.d (.str []),.d (.str []),.d (.str []),.d (.str []),.d (.str []),.d (.str []),.d (.str []),.d (.str []),.d (.str [])]
theorem DZone_spec (L:List Int) (hL:L.length≤1000000) (a:Nat) (ha:a≤L.length) :
  Spec Tryz.prog 17 [.ptr 0 0] [.row (diceR L a)] (fun r h'=>∃ x,DZoneP L x∧r=zAV x.1∧h'=[.row (diceR L x.2)]):=by
 have hN:=fun a ha n h1 hn=>qBr L hL a ha n h1 hn
 have hO:=fun a ha n h1 hn=>One_spec L hL a ha n h1 hn
 have hNm:=fun a ha w hw=>DName_spec L hL a ha w hw
 have hSg:=fun a ha n h1 hn=>DSigns_spec L hL a ha n h1 hn
 have hDy:=fun a ha=>DDay_spec L hL a ha
 refine qAb hT Tryz.func17 rfl rfl rfl rfl ?_;intro E hE
 refine ww ?_
 refine qAo (callX rfl rfl (hN a ha 3 (by omega) (by omega)) [0] (by decide) rfl rfl rfl rfl (fun _=>rfl) (fun _=>rfl) (fun _=>rfl)) rfl ?_
 rintro ⟨f,a1⟩ ⟨p1,p2,p3⟩
 simp only at p1 p2 p3 ⊢
 have hwf:IntKind.i64.wrap (1+f)=1+f:=qAd (by omega)
 refine ww ?_
 refine qAo (callX rfl rfl (hN a1 p3 4 (by omega) (by omega)) [0] (by decide) rfl rfl rfl rfl (fun _=>rfl) (fun _=>rfl) (fun _=>rfl)) rfl ?_
 rintro ⟨k,a2⟩ ⟨q1,q2,q3⟩
 simp only at q1 q2 q3 ⊢
 generalize IntKind.i64.wrap (1+f)=fm at hwf ⊢
 have hfm:1≤fm∧fm≤3:=by omega
 clear hwf p1 p2
 obtain ⟨kind,kat,kme⟩:=mem_at (T:=kindT) q1 q2
 refine ww ?_
 refine wwi kat ?_
 refine ww ?_
 refine qAo (callX rfl rfl (hN a2 q3 4 (by omega) (by omega)) [0] (by decide) rfl rfl rfl rfl (fun _=>rfl) (fun _=>rfl) (fun _=>rfl)) rfl ?_
 rintro ⟨s,a3⟩ ⟨r1,r2,r3⟩
 simp only at r1 r2 r3 ⊢
 obtain ⟨state,sat,sme⟩:=mem_at (T:=stateT) r1 r2
 refine ww ?_
 refine wwi sat ?_
 refine ww ?_
 refine qAo (callX rfl rfl (hN a3 r3 4 (by omega) (by omega)) [0] (by decide) rfl rfl rfl rfl (fun _=>rfl) (fun _=>rfl) (fun _=>rfl)) rfl ?_
 rintro ⟨n,a4⟩ ⟨s1,s2,s3⟩
 simp only at s1 s2 s3 ⊢
 obtain ⟨nat,nat_at,nme⟩:=mem_at (T:=stateT) s1 s2
 refine ww ?_
 refine wwi nat_at ?_
 refine ww ?_
 refine qAo (callX rfl rfl (hNm a4 s3 2 (by omega)) [0] (by decide) rfl rfl rfl rfl (fun _=>rfl) (fun _=>rfl) (fun _=>rfl)) rfl ?_
 rintro ⟨sur0,a5⟩ ⟨t1,t2⟩
 simp only at t1 t2 ⊢
 refine ww ?_
 refine qAo (callX rfl rfl (hNm a5 t2 3 (by omega)) [0] (by decide) rfl rfl rfl rfl (fun _=>rfl) (fun _=>rfl) (fun _=>rfl)) rfl ?_
 rintro ⟨giv,a6⟩ ⟨u1,u2⟩
 simp only at u1 u2 ⊢
 refine wws ?_
 refine qAr (ι:=List UInt8) (fun sur=>[(0,.ptr 0 0),(2,.ptr 1 0),(3,.ptr 2 0)])
  (fun sur=>[.row (diceR L a6),.row Z0,.row [.d (.int .i64 fm),.d (.str kind),.d (.str state),.d (.str sur),.d (.str giv),.d (.str []),.d (.str nat),.d (.str []),.d (.str []),.d (.str []),.d (.str []),.d (.str [])]]) (fun sur=>NameM 2 sur∧sur≠[]) ?_ ?_
 ·refine ww ?_
  refine qAa rfl (fun c1=>?_) (fun c1=>?_)
  ·refine ww ?_
   exact ⟨[79,75],⟨⟨rfl,by simp⟩,by simp⟩,⟨.refl _,.refl _,.refl _,trivial⟩,HLe.refl _⟩
  ·have c1':¬ sur0=[]:=by simpa using c1
   refine ww ?_
   exact ⟨sur0,⟨t1,c1'⟩,⟨.refl _,.refl _,.refl _,trivial⟩,HLe.refl _⟩
 rintro sur ⟨x1,x2⟩
 clear t1
 refine wwe ?_
 refine qAm (qAj ?_)
 refine wws ?_
 refine qAr (ι:=Nat×Nat) (fun x=>[(0,.ptr 0 0),(2,.ptr 1 0),(3,.ptr 2 0),(4,.d (.int .i64 (x.1:Int)))]) (fun x=>[.row (diceR L x.2),.row Z0,.row [.d (.int .i64 fm),.d (.str kind),.d (.str state),.d (.str sur),.d (.str giv),.d (.str []),.d (.str nat),.d (.str []),.d (.str []),.d (.str []),.d (.str []),.d (.str [])]]) (fun x=>(x.1=9∨(x.1=14∧fm=2))∧x.2≤L.length) ?_ ?_
 ·refine ww ?_
  refine AWk_gopX (.d (.bool false)) rfl rfl rfl (fun hg=>⟨by first | exact True.intro | exact ⟨hg,True.intro⟩ | exact ⟨hg,hg,True.intro⟩,callX rfl rfl (hO a6 u2 3 (by omega) (by omega)) [0] (by decide) rfl rfl rfl rfl (fun _=>rfl) (fun _=>rfl) (fun _=>rfl)⟩) ?_ ?_
  ·rintro hg ⟨fl,b⟩ y1
   simp only at y1 ⊢
   have hg':fm=2:=by simp [gval] at hg;omega
   refine ww ?_
   refine qAa rfl (fun c2=>?_) (fun c2=>?_)
   ·refine ww ?_
    exact ⟨(14,b),⟨.inr ⟨rfl,hg'⟩,y1⟩,⟨.refl _,.refl _,.refl _,.refl _,trivial⟩,HLe.refl _⟩
   ·refine ww ?_
    exact ⟨(9,b),⟨.inl rfl,y1⟩,⟨.refl _,.refl _,.refl _,.refl _,trivial⟩,HLe.refl _⟩
  ·intro hg
   refine qBn hT rfl rfl (by intro hh;simp [gval] at hg;simp at hh;omega) ?_
   refine ww ?_
   refine qAa rfl (fun c2=>?_) (fun c2=>?_)
   ·exact absurd c2 (by simp)
   ·refine ww ?_
    exact ⟨(9,a6),⟨.inl rfl,u2⟩,⟨.refl _,.refl _,.refl _,.refl _,trivial⟩,HLe.refl _⟩
 rintro ⟨m1,a7⟩ ⟨v1,v2⟩
 simp only at v1 v2 ⊢
 refine qAr (ι:=Nat×Nat) (fun x=>[(0,.ptr 0 0),(2,.ptr 1 0),(3,.ptr 2 0),(4,.d (.int .i64 (x.1:Int)))]) (fun x=>[.row (diceR L x.2),.row Z0,.row [.d (.int .i64 fm),.d (.str kind),.d (.str state),.d (.str sur),.d (.str giv),.d (.str []),.d (.str nat),.d (.str []),.d (.str []),.d (.str []),.d (.str []),.d (.str [])]]) (fun x=>(9≤x.1∧x.1≤(mostN fm).toNat)∧x.2≤L.length) ?_ ?_
 ·have hm1:9≤m1∧m1≤(mostN fm).toNat:=by unfold mostN;split <;> (try split) <;> omega
  refine ww ?_
  refine AWk_gopX (.d (.bool false)) rfl rfl rfl (fun hg=>⟨by first | exact True.intro | exact ⟨hg,True.intro⟩ | exact ⟨hg,hg,True.intro⟩,callX rfl rfl (hO a7 v2 3 (by omega) (by omega)) [0] (by decide) rfl rfl rfl rfl (fun _=>rfl) (fun _=>rfl) (fun _=>rfl)⟩) ?_ ?_
  ·rintro hg ⟨fl,b⟩ y1
   simp only at y1 ⊢
   have hg':fm=1:=by simp [gval] at hg;omega
   refine ww ?_
   refine qAa rfl (fun c2=>?_) (fun c2=>?_)
   ·refine ww ?_
    exact ⟨(20,b),⟨⟨by simp,by unfold mostN;rw [if_pos hg'];simp⟩,y1⟩,⟨.refl _,.refl _,.refl _,.refl _,trivial⟩,HLe.refl _⟩
   ·refine ww ?_
    exact ⟨(m1,b),⟨hm1,y1⟩,⟨.refl _,.refl _,.refl _,.refl _,trivial⟩,HLe.refl _⟩
  ·intro hg
   refine qBn hT rfl rfl (by intro hh;simp [gval] at hg;simp at hh;omega) ?_
   refine ww ?_
   refine qAa rfl (fun c2=>?_) (fun c2=>?_)
   ·exact absurd c2 (by simp)
   ·refine ww ?_
    exact ⟨(m1,a7),⟨hm1,v2⟩,⟨.refl _,.refl _,.refl _,.refl _,trivial⟩,HLe.refl _⟩
 rintro ⟨m,a8⟩ ⟨w1,w2⟩
 simp only at w1 w2 ⊢
 clear v1 v2
 have hmost:(mostN fm).toNat≤20:=by unfold mostN;split <;> (try split) <;> omega
 refine ww ?_
 refine qAo (callX rfl rfl (hSg a8 w2 m (by omega) (by omega)) [0] (by decide) rfl rfl rfl rfl (fun _=>rfl) (fun _=>rfl) (fun _=>rfl)) rfl ?_
 rintro ⟨num,a9⟩ ⟨y1,y2⟩
 simp only at y1 y2 ⊢
 have hnl:=y1.2.2
 have hnum:SignM (mostN fm).toNat num:=⟨y1.1,y1.2.1,by omega⟩
 refine ww ?_
 refine qAo (callX rfl rfl (hDy a9 y2) [0] (by decide) rfl rfl rfl rfl (fun _=>rfl) (fun _=>rfl) (fun _=>rfl)) rfl ?_
 rintro ⟨day,a10⟩ ⟨z1,z2,z3⟩
 simp only at z1 z2 z3 ⊢
 have hF:=FormatD_spec day ⟨z1,by omega⟩
 refine ww ?_
 refine wwx hF ?_
 rintro bir0 hb0
 refine wws ?_
 refine qAm (qAj ?_)
 refine wws ?_
 refine qAr (ι:=List UInt8×Nat) (fun x=>[(0,.ptr 0 0),(2,.ptr 1 0),(3,.ptr 2 0)])
  (fun x=>[.row (diceR L x.2),.row Z0,.row [.d (.int .i64 fm),.d (.str kind),.d (.str state),.d (.str sur),.d (.str giv),.d (.str num),.d (.str nat),.d (.str x.1),.d (.str []),.d (.str []),.d (.str []),.d (.str [])]]) (fun x=>BirM x.1∧x.2≤L.length) ?_ ?_
 ·refine ww ?_
  refine qAo (callX rfl rfl (hO a10 z3 5 (by omega) (by omega)) [0] (by decide) rfl rfl rfl rfl (fun _=>rfl) (fun _=>rfl) (fun _=>rfl)) rfl ?_
  rintro ⟨fl,b⟩ e1
  simp only at e1 ⊢
  refine ww ?_
  refine qAa rfl (fun c2=>?_) (fun c2=>?_)
  ·refine ww ?_
   refine qAo (callX rfl rfl (hN b e1 5 (by omega) (by omega)) [0] (by decide) rfl rfl rfl rfl (fun _=>rfl) (fun _=>rfl) (fun _=>rfl)) rfl ?_
   rintro ⟨j,b2⟩ ⟨e2,e3,e4⟩
   simp only at e2 e3 e4 ⊢
   obtain ⟨bir,bat,bme⟩:=mem_at (T:=birT) e2 e3
   refine ww ?_
   refine wwi bat ?_
   refine ww ?_
   exact ⟨(bir,b2),⟨.inr bme,e4⟩,⟨.refl _,.refl _,.refl _,trivial⟩,HLe.refl _⟩
  ·refine ww ?_
   exact ⟨(bir0,b),⟨.inl ⟨day,⟨z1,by omega⟩,hb0⟩,e1⟩,⟨.refl _,.refl _,.refl _,trivial⟩,HLe.refl _⟩
 rintro ⟨bir,a11⟩ ⟨b1,b2⟩
 simp only at b1 b2 ⊢
 clear hb0
 refine ww ?_
 refine qAo (callX rfl rfl (hN a11 b2 3 (by omega) (by omega)) [0] (by decide) rfl rfl rfl rfl (fun _=>rfl) (fun _=>rfl) (fun _=>rfl)) rfl ?_
 rintro ⟨j,a12⟩ ⟨e2,e3,e4⟩
 simp only at e2 e3 e4 ⊢
 obtain ⟨sex,sxat,sxme⟩:=mem_at (T:=sexT) e2 e3
 refine ww ?_
 refine wwi sxat ?_
 refine ww ?_
 refine qAo (callX rfl rfl (hN a12 e4 36000 (by omega) (by omega)) [0] (by decide) rfl rfl rfl rfl (fun _=>rfl) (fun _=>rfl) (fun _=>rfl)) rfl ?_
 rintro ⟨dd,a13⟩ ⟨i1,i2,i3⟩
 simp only at i1 i2 i3 ⊢
 have hwd:IntKind.i64.wrap (36524+dd)=36524+dd:=qAd (by omega)
 have hF2:=FormatD_spec (36524+dd) ⟨by omega,by omega⟩
 rw [← hwd] at hF2
 refine ww ?_
 refine wwx hF2 ?_
 rintro exp hex
 rw [hwd] at hex
 refine ww ?_
 have har:([.d (.int .i64 0),.d (.int .i64 15),.d (.int .i64 7),.d (.int .i64 14)]:List AV)[fm.toNat]?=some (.d (.int .i64 (if fm=1 then 15 else if fm=2 then 7 else 14))):=by
  have:fm=1∨fm=2∨fm=3:=by omega
  rcases this with rfl | rfl | rfl <;> rfl
 have hm0:(if fm=1 then 15 else if fm=2 then 7 else 14:Int)≤15:=by split <;> (try split) <;> omega
 have hm1:7≤(if fm=1 then 15 else if fm=2 then 7 else 14:Int):=by split <;> (try split) <;> omega
 generalize hrd:(if fm=1 then 15 else if fm=2 then 7 else 14:Int)=w0 at har hm0 hm1
 refine qAe (qAc (arrIdx_ok hT rfl rfl rfl rfl (by show 0≤fm∧fm < 4;omega) har)) rfl ?_
 refine wws ?_
 generalize hroom:w0-(if num.length > 9 then (num.length:Int)-9+2 else 0)=room
 have hrm : -20≤room∧room≤15:=by rw [← hroom];split <;> omega
 refine qAr (ι:=Unit) (fun _=>[(0,.ptr 0 0),(2,.ptr 1 0),(3,.ptr 2 0),(7,.d (.int .i64 room))])
  (fun x=>[.row (diceR L a13),.row Z0,.row [.d (.int .i64 fm),.d (.str kind),.d (.str state),.d (.str sur),.d (.str giv),.d (.str num),.d (.str nat),.d (.str bir),.d (.str sex),.d (.str exp),.d (.str []),.d (.str [])]]) (fun _=>True) ?_ (fun _ _=>?_)
 ·refine ww ?_
  refine qAa rfl (fun c2=>?_) (fun c2=>?_)
  ·have c2':num.length > 9:=by simp at c2;omega
   rw [if_pos c2'] at hroom
   have hwr:IntKind.i64.wrap (w0-IntKind.i64.wrap ((num.length:Int)-7))=room:=by rw [qAd (n:=(num.length:Int)-7) (by omega),qAd (by omega)];omega
   refine ww ?_
   exact ⟨(),trivial,⟨.refl _,.refl _,.refl _,.int hwr,trivial⟩,HLe.refl _⟩
  ·have c2':¬ num.length > 9:=by simp at c2;omega
   rw [if_neg c2'] at hroom
   have hwr:w0=room:=by omega
   refine ww ?_
   exact ⟨(),trivial,⟨.refl _,.refl _,.refl _,.int hwr,trivial⟩,HLe.refl _⟩
 refine qAr (ι:=List UInt8×Nat) (fun x=>[(0,.ptr 0 0),(2,.ptr 1 0),(3,.ptr 2 0)])
  (fun x=>[.row (diceR L x.2),.row Z0,.row [.d (.int .i64 fm),.d (.str kind),.d (.str state),.d (.str sur),.d (.str giv),.d (.str num),.d (.str nat),.d (.str bir),.d (.str sex),.d (.str exp),.d (.str x.1),.d (.str [])]]) (fun x=>(x.1=[]∨(0 < room∧SignM room.toNat x.1))∧x.2≤L.length) ?_ ?_
 ·refine ww ?_
  refine AWk_gopX (.d (.bool false)) rfl rfl rfl (fun hg=>⟨by first | exact True.intro | exact ⟨hg,True.intro⟩ | exact ⟨hg,hg,True.intro⟩,callX rfl rfl (hO a13 i3 2 (by omega) (by omega)) [0] (by decide) rfl rfl rfl rfl (fun _=>rfl) (fun _=>rfl) (fun _=>rfl)⟩) ?_ ?_
  ·rintro hg ⟨fl,b⟩ e1
   simp only at e1 ⊢
   have hg':0 < room:=by simp [gval] at hg;omega
   refine ww ?_
   refine qAa rfl (fun c2=>?_) (fun c2=>?_)
   ·have hsg:=hSg b e1 room.toNat (by omega) (by omega)
    rw [Int.toNat_of_nonneg (by omega)] at hsg
    refine ww ?_
    refine qAo (callX rfl rfl (hsg) [0] (by decide) rfl rfl rfl rfl (fun _=>rfl) (fun _=>rfl) (fun _=>rfl)) rfl ?_
    rintro ⟨opt,b2⟩ ⟨e2,e3⟩
    simp only at e2 e3 ⊢
    refine ww ?_
    exact ⟨(opt,b2),⟨.inr ⟨hg',e2⟩,e3⟩,⟨.refl _,.refl _,.refl _,trivial⟩,HLe.refl _⟩
   ·refine ww ?_
    exact ⟨([],b),⟨.inl rfl,e1⟩,⟨.refl _,.refl _,.refl _,trivial⟩,HLe.refl _⟩
  ·intro hg
   refine qBn hT rfl rfl (by intro hh;simp [gval] at hg;simp at hh;omega) ?_
   refine ww ?_
   refine qAa rfl (fun c2=>?_) (fun c2=>?_)
   ·exact absurd c2 (by simp)
   ·refine ww ?_
    exact ⟨([],a13),⟨.inl rfl,i3⟩,⟨.refl _,.refl _,.refl _,trivial⟩,HLe.refl _⟩
 rintro ⟨opt,a14⟩ ⟨j1,j2⟩
 simp only at j1 j2 ⊢
 refine qAr (ι:=List UInt8×Nat) (fun x=>[(0,.ptr 0 0),(2,.ptr 1 0),(3,.ptr 2 0)])
  (fun x=>[.row (diceR L x.2),.row Z0,.row [.d (.int .i64 fm),.d (.str kind),.d (.str state),.d (.str sur),.d (.str giv),.d (.str num),.d (.str nat),.d (.str bir),.d (.str sex),.d (.str exp),.d (.str opt),.d (.str x.1)]]) (fun x=>(x.1=[]∨(fm=1∧SignM 11 x.1))∧x.2≤L.length) ?_ ?_
 ·refine ww ?_
  refine AWk_gopX (.d (.bool false)) rfl rfl rfl (fun hg=>⟨by first | exact True.intro | exact ⟨hg,True.intro⟩ | exact ⟨hg,hg,True.intro⟩,callX rfl rfl (hO a14 j2 3 (by omega) (by omega)) [0] (by decide) rfl rfl rfl rfl (fun _=>rfl) (fun _=>rfl) (fun _=>rfl)⟩) ?_ ?_
  ·rintro hg ⟨fl,b⟩ e1
   simp only at e1 ⊢
   have hg':fm=1:=by simp [gval] at hg;omega
   refine ww ?_
   refine qAa rfl (fun c2=>?_) (fun c2=>?_)
   ·refine ww ?_
    refine qAo (callX rfl rfl (hSg b e1 11 (by omega) (by omega)) [0] (by decide) rfl rfl rfl rfl (fun _=>rfl) (fun _=>rfl) (fun _=>rfl)) rfl ?_
    rintro ⟨sec,b2⟩ ⟨e2,e3⟩
    simp only at e2 e3 ⊢
    refine ww ?_
    exact ⟨(sec,b2),⟨.inr ⟨hg',e2⟩,e3⟩,⟨.refl _,.refl _,.refl _,trivial⟩,HLe.refl _⟩
   ·refine ww ?_
    exact ⟨([],b),⟨.inl rfl,e1⟩,⟨.refl _,.refl _,.refl _,trivial⟩,HLe.refl _⟩
  ·intro hg
   refine qBn hT rfl rfl (by intro hh;simp [gval] at hg;simp at hh;omega) ?_
   refine ww ?_
   refine qAa rfl (fun c2=>?_) (fun c2=>?_)
   ·exact absurd c2 (by simp)
   ·refine ww ?_
    exact ⟨([],a14),⟨.inl rfl,j2⟩,⟨.refl _,.refl _,.refl _,trivial⟩,HLe.refl _⟩
 rintro ⟨sec,a15⟩ ⟨k1,k2⟩
 simp only at k1 k2 ⊢
 have hrf:roomF ⟨fm,kind,state,sur,giv,num,nat,bir,sex,exp,opt,sec⟩=room:=by unfold roomF;rw [← hroom,← hrd]
 refine ww ?_
 exact rq ⟨(⟨fm,kind,state,sur,giv,num,nat,bir,sex,exp,opt,sec⟩,a15),⟨⟨hfm,kme,sme,nme,⟨x1,x2⟩,u1,hnum,b1,sxme,⟨_,⟨by omega,by omega⟩,hex⟩,by rw [hrf];exact j1,k1⟩,k2⟩,rfl,rfl⟩ rfl (.refl _)
end Tdoc
/- The reference's file of a zone. -/
set_option maxHeartbeats 8000000
set_option maxRecDepth 100000
set_option linter.unusedVariables false
set_option linter.unusedSimpArgs false
namespace Tdoc
open Go Go.Proofs
theorem encSs_length (l:List (List UInt8)):(encSs l).length=l.length:=by simp [encSs]
theorem checkedS_le (s:List UInt8):(checkedS s).length≤s.length+1:=by unfold checkedS;rw [List.length_append];have:=qBz s;omega
theorem wideS_le (s:List UInt8) (n:Nat):(wideS s n).length≤s.length+n:=by rw [qBq];omega
theorem numberS_le (s:List UInt8):(numberS s).1.length≤s.length+20∧(numberS s).2.length≤s.length+2:=by
 unfold numberS
 split
 ·have h1:=checkedS_le (wideS s 9)
  have h2:=wideS_le s 9
  exact ⟨by simp only;omega,by simp⟩
 ·have:=qBz s
  refine ⟨?_,?_⟩
  ·show (s.take 9++[60]).length≤_
   rw [List.length_append,List.length_take];simp;omega
  ·show (s.drop 9++(digitF s).1++[60]).length≤_
   rw [List.length_append,List.length_append,List.length_drop];simp;omega
theorem buildZ_len {z:Zon} (hz:zLen z):(buildZ z).flatten.length≤200000∧(buildZ z).length≤3:=by
 obtain ⟨z1,z2,z3,z4,z5,z6,z7,z8,z9,z10,z11⟩:=hz
 have a1:=wideS_le z.kind 2
 have a2:=wideS_le z.state 3
 have a3:=checkedS_le z.bir
 have a4:=checkedS_le z.exp
 have a5:=wideS_le z.nat 3
 have a6:=numberS_le z.num
 have a7:=wideS_le ((numberS z.num).2++z.opt) 15
 have a8:=wideS_le ((numberS z.num).2++z.opt) 7
 have a9:=wideS_le z.opt 14
 have a10:=wideS_le z.sec 11
 have a11:(namesF z.sur z.giv (nameW z.fmt)).1.length≤39:=by
  have:=names_len z.sur z.giv (nameW z.fmt)
  have hw:nameW z.fmt≤39:=by unfold nameW;split <;> (try split) <;> omega
  omega
 rw [List.length_append] at a7 a8
 unfold buildZ
 split
 ·refine ⟨?_,by simp⟩
  have d1:=fun s=>qBz s
  simp only [List.flatten_cons,List.flatten_nil,List.length_append,List.length_nil]
  have:=d1 (cutS (wideS z.kind 2++wideS z.state 3++(numberS z.num).1++wideS ((numberS z.num).2++z.opt) 15) 5 30++cutS (checkedS z.bir++z.sex++checkedS z.exp++wideS z.nat 3++wideS z.sec 11) 0 7++cutS (checkedS z.bir++z.sex++checkedS z.exp++wideS z.nat 3++wideS z.sec 11) 8 15++cutS (checkedS z.bir++z.sex++checkedS z.exp++wideS z.nat 3++wideS z.sec 11) 18 29)
  omega
 ·split
  ·refine ⟨?_,by simp⟩
   simp only [List.flatten_cons,List.flatten_nil,List.length_append,List.length_nil]
   have:=qBz (cutS ((numberS z.num).1++wideS z.nat 3++checkedS z.bir++z.sex++checkedS z.exp++wideS ((numberS z.num).2++z.opt) 7) 0 10++cutS ((numberS z.num).1++wideS z.nat 3++checkedS z.bir++z.sex++checkedS z.exp++wideS ((numberS z.num).2++z.opt) 7) 13 20++cutS ((numberS z.num).1++wideS z.nat 3++checkedS z.bir++z.sex++checkedS z.exp++wideS ((numberS z.num).2++z.opt) 7) 21 35)
   omega
  ·have ho:(if z.opt=[] then [60] else (digitF (wideS z.opt 14)).1).length≤1:=by
    split
    ·simp
    ·exact qBz _
   refine ⟨?_,by simp⟩
   generalize (if z.opt=[] then [60] else (digitF (wideS z.opt 14)).1)=o at ho ⊢
   simp only [List.flatten_cons,List.flatten_nil,List.length_append,List.length_nil]
   have:=qBz (cutS ((numberS z.num).1++wideS z.nat 3++checkedS z.bir++z.sex++checkedS z.exp++wideS z.opt 14++o) 0 10++cutS ((numberS z.num).1++wideS z.nat 3++checkedS z.bir++z.sex++checkedS z.exp++wideS z.opt 14++o) 13 20++cutS ((numberS z.num).1++wideS z.nat 3++checkedS z.bir++z.sex++checkedS z.exp++wideS z.opt 14++o) 21 43)
   omega
theorem ZoneR_spec (z:Zon) (hz:zLen z):Spec Tryz.prog 27 [zAV z] [] (fun r h'=>r=.tup [.d (.sl 1 (encB (zoneF z).1)),.d (.int .i64 (zoneF z).2)]∧h'=[]):=by
 have hb:=Build_spec z hz
 unfold zoneF
 by_cases h0:validZ z=0
 case neg =>
  have hbe:buildF z=([],validZ z):=by unfold buildF;rw [if_pos h0]
  rw [if_pos h0]
  rw [hbe] at hb
  generalize validZ z=e at hb h0
  obtain ⟨fmt,kind,state,sur,giv,num,nat,bir,sex,exp,opt,sec⟩:=z
  unfold zAV zCells at hb ⊢
  simp only at hb ⊢
  refine qAb hT Tryz.func27 rfl rfl rfl rfl ?_;intro E hE
  refine qAq ?_
  refine qAm (qAj ?_)
  refine qAe (qBb (i0:=0) rfl rfl rfl) rfl ?_
  refine ww ?_
  refine wwc hb ?_
  refine ww ?_
  refine qAa rfl (fun c1=>?_) (fun c1=>?_)
  ·refine ww ?_
   exact wwr
  ·exact absurd (by simpa using c1) h0
 have hbe:buildF z=(buildZ z,0):=by unfold buildF;rw [if_neg (by simp [h0])]
 obtain ⟨hl1,hl2⟩:=buildZ_len hz
 rw [if_neg (by simp [h0])]
 rw [hbe] at hb
 generalize buildZ z=ls at hb hl1 hl2
 have hll:=encSs_length ls
 have hp:=qDo 24351 ls.flatten (by omega)
 have hw:=WrapR_spec 1 (by omega) [.mk 24351 ls.flatten []] (by simp) ⟨⟨by omega,by omega,by simp,trivial⟩,trivial⟩ (by simp [sizeL,sizeN])
 generalize wrapG 1 [.mk 24351 ls.flatten []]=w at hw
 obtain ⟨w,we⟩:=w
 simp only at hw ⊢
 obtain ⟨fmt,kind,state,sur,giv,num,nat,bir,sex,exp,opt,sec⟩:=z
 unfold zAV zCells at hb ⊢
 simp only at hb ⊢
 refine qAb hT Tryz.func27 rfl rfl rfl rfl ?_;intro E hE
 refine qAq ?_
 refine qAm (qAj ?_)
 refine qAe (qBb (i0:=0) rfl rfl rfl) rfl ?_
 refine ww ?_
 refine wwc hb ?_
 refine ww ?_
 refine qAa rfl (fun c1=>?_) (fun c1=>?_)
 ·exact absurd c1 (by simp)
 refine ww ?_
 refine qAn (ι:=Nat) (fun i=>[(4,.d (.sl 1 (encSs ls))),(6,.d (.str (ls.take i).flatten)),(7,.d (.int .i64 (i:Int)))]) (fun _=>[.row [.d (.int .i64 fmt),.d (.str kind),.d (.str state),.d (.str sur),.d (.str giv),.d (.str num),.d (.str nat),.d (.str bir),.d (.str sex),.d (.str exp),.d (.str opt),.d (.str sec)]]) (fun i=>i≤ls.length) (fun i=>ls.length-i) 0 (by omega) ⟨.refl _,.refl _,.refl _,trivial⟩ (HLe.refl _) ?_
 intro i hi
 have hwr:IntKind.i64.wrap ((i:Int)+1)=((i+1:Nat):Int):=by rw [qAd (by omega)];simp
 refine ww ?_
 refine qAa rfl (fun c2=>?_) (fun c2=>?_)
 ·have c2':i < ls.length:=by rw [hll] at c2;simpa using c2
  have hel:(encSs ls)[((i:Int)).toNat]?=some [.str ls[i]]:=by simp [encSs,c2']
  have htk:(ls.take (i+1)).flatten=(ls.take i).flatten++ls[i]:=by rw [List.take_succ_eq_append_getElem c2',List.flatten_append,List.flatten_cons,List.flatten_nil,List.append_nil]
  have hle:(ls.take i).flatten.length+(ls[i]).length≤200000:=by
   have h2:ls.flatten=(ls.take (i+1)).flatten++(ls.drop (i+1)).flatten:=by rw [← List.flatten_append,List.take_append_drop]
   rw [h2,htk,List.length_append,List.length_append] at hl1
   omega
  generalize ls[i]=x at hel htk hle
  refine ww ?_
  refine wwi hel ?_
  refine ww ?_
  exact ⟨i+1,by omega,by omega,⟨.refl _,AV.le.eq (by rw [htk];rfl),.int hwr,trivial⟩,HLe.refl _⟩
 ·have c2':i=ls.length:=by rw [hll] at c2;simp at c2;omega
  subst c2'
  rw [List.take_length]
  refine ww ?_
  refine qAe (strBytes_ok (s:=ls.flatten) hT rfl rfl rfl) rfl ?_
  refine ww ?_
  refine wwc hp ?_
  refine ww ?_
  refine wwc hw ?_
  refine ww ?_
  exact wwr
end Tdoc
/- Dice: infos. -/
set_option maxHeartbeats 8000000
set_option maxRecDepth 100000
set_option linter.unusedVariables false
set_option linter.unusedSimpArgs false
namespace Tdoc
open Go Go.Proofs
def InfMade (x:Inf):Prop:=(1≤x.ver∧x.ver≤255)∧(((x.proto=2∨x.proto=3)∧(0≤x.par∧x.par≤31)∧x.key=0∧x.kid=0)∨(x.proto=4∧x.par=0∧(0≤x.kid∧x.kid≤119)∧∃ n,x.key=pointG n)∨((x.proto=5∨x.proto=6)∧x.par=0∧x.key=0∧x.kid=0))
def InfB (y x:Inf):Prop:=y.proto < x.proto∨(y.proto=x.proto∧y.kid < x.kid)
def InfsM (l:List Inf):Prop:=(∀ x,x∈l→InfMade x)∧l.Pairwise InfB∧l.length≤7
def DInfsP (L:List Int) (x:List Inf×Nat):Prop:=InfsM x.1∧x.2≤L.length
theorem infs_snoc {l:List Inf} {x:Inf} {P:Inf→Prop} (h1:∀ y,y∈l→InfMade y∧P y) (hp:l.Pairwise InfB) (hb:∀ y,P y→InfB y x) (hx:InfMade x) {R:Inf→Prop} (hR:R x) (hPR:∀ y,P y→R y) :
  (∀ y,y∈l++[x]→InfMade y∧R y)∧(l++[x]).Pairwise InfB:=by
 refine ⟨fun y hy=>?_,?_⟩
 ·rcases List.mem_append.1 hy with hy | hy
  ·exact ⟨(h1 y hy).1,hPR y (h1 y hy).2⟩
  ·rw [List.mem_singleton.1 hy];exact ⟨hx,hR⟩
 ·rw [List.pairwise_append]
  exact ⟨hp,List.pairwise_singleton _ _,fun y hy z hz=>by rw [List.mem_singleton.1 hz];exact hb y (h1 y hy).2⟩
theorem DInfos_spec (L:List Int) (hL:L.length≤1000000) (a:Nat) (ha:a≤L.length) :
  Spec Tryz.prog 20 [.ptr 0 0] [.row (diceR L a)] (fun r h'=>∃ x,DInfsP L x∧r=.d (.sl 5 (encFs x.1))∧h'=[.row (diceR L x.2)]):=by
 have hN:=fun a ha n h1 hn=>qBr L hL a ha n h1 hn
 have hO:=fun a ha=>One_spec L hL a ha 2 (by omega) (by omega)
 refine qAb hT Tryz.func20 rfl rfl rfl rfl ?_;intro E hE
 refine qAq ?_
 refine wwe ?_
 refine qAm (qAj ?_)
 refine wws ?_
 refine qAm (qAj ?_)
 refine wws ?_
 refine qAt 3 5 1 (es:=[]) (.inr ⟨rfl,rfl⟩) rfl ?_
 refine ww ?_
 refine qBg (ι:=Nat×Nat×List Inf) (fun x=>[(0,.ptr 0 0),(3,.sl 5 (encFs x.2.2) (.right 1)),(4,.d (.int .i64 (x.1:Int)))]) (fun x=>[.row (diceR L x.2.1),.right 5 (encFs x.2.2).length])
  (fun x=>(2≤x.1∧x.1≤7)∧x.2.1≤L.length∧(∀ y,y∈x.2.2→InfMade y∧y.proto < (x.1:Int))∧x.2.2.Pairwise InfB∧x.2.2.length≤x.1-2+(if x.1≤4 then 0 else 2)) (fun x=>7-x.1) (2,a,[]) ⟨by omega,ha,by simp,by simp,by simp⟩ ⟨.refl _,.refl _,.refl _,trivial⟩ (HLe.refl _) ?_
 rintro ⟨p,b,out⟩ ⟨h0,h1,h2,h3,h4⟩
 simp only at h0 h1 h2 h3 h4 ⊢
 have hol:=qCh out
 have ho7:out.length≤7:=by revert h4;split <;> omega
 have hwp:IntKind.i64.wrap ((p:Int)+1)=((p+1:Nat):Int):=by rw [qAd (by omega)];omega
 have hmk:∀ x:Inf,encFs (out++[x])=encFs out++[encF x]:=fun x=>by rw [encFs_append];rfl
 have fin:∀ (b2:Nat) (o2:List Inf) (w:List (List Dat)) (junk:List AObj) (τ:Nat→AV),p≤6→b2≤L.length→(∀ y,y∈o2→InfMade y∧y.proto < ((p+1:Nat):Int))→o2.Pairwise InfB→o2.length≤p-1+(if p≤3 then 0 else 2)→encFs o2=w →
   AV.le (τ 0) (.ptr 0 0)→AV.le (τ 3) (.sl 5 w (.right 1))→AV.le (τ 4) (.d (.int .i64 (IntKind.i64.wrap ((p:Int)+1)))) →
   ∃ (y:Nat×Nat×List Inf) (junk':List AObj),((2≤y.1∧y.1≤7)∧y.2.1≤L.length∧(∀ z,z∈y.2.2→InfMade z∧z.proto < (y.1:Int))∧y.2.2.Pairwise InfB∧y.2.2.length≤y.1-2+(if y.1≤4 then 0 else 2))∧7-y.1 < 7-p∧SubL τ [(0,.ptr 0 0),(3,.sl 5 (encFs y.2.2) (.right 1)),(4,.d (.int .i64 (y.1:Int)))] ∧
    HLe ([.row (diceR L b2),.right 5 w.length]++junk) ([.row (diceR L y.2.1),.right 5 (encFs y.2.2).length]++junk')∧E.below [AObj.row (diceR L y.2.1),.right 5 (encFs y.2.2).length].length∧lowS [AObj.row (diceR L y.2.1),.right 5 (encFs y.2.2).length].length [(0,.ptr 0 0),(3,.sl 5 (encFs y.2.2) (.right 1)),(4,.d (.int .i64 (y.1:Int)))]=true∧lowH [AObj.row (diceR L y.2.1),.right 5 (encFs y.2.2).length].length [AObj.row (diceR L y.2.1),.right 5 (encFs y.2.2).length]=true:=by
  rintro b2 o2 w junk τ g1 g2 g3 g4 g5 rfl g7 g8 g9
  rw [hwp] at g9
  refine ⟨(p+1,b2,o2),junk,⟨by omega,g2,g3,g4,?_⟩,by simp only;omega,⟨g7,g8,g9,trivial⟩,HLe.refl _,Env.below_mono hE (by simp),rfl,rfl⟩
  simp only
  by_cases hp:p≤3
  ·rw [if_pos (by omega)];rw [if_pos hp] at g5;omega
  ·rw [if_neg (by omega)];rw [if_neg hp] at g5;omega
 refine ww ?_
 refine qAa rfl (fun c1=>?_) (fun c1=>?_)
 ·have c1':p≤6:=by simp at c1;omega
  have hlen1:out.length+1≤p-1+(if p≤3 then 0 else 2):=by
   revert h4
   by_cases hp:p≤3
   ·rw [if_pos (by omega),if_pos hp];omega
   ·rw [if_neg hp];split <;> omega
  have hout:∀ y,y∈out→InfMade y∧y.proto < ((p+1:Nat):Int):=fun y hy=>⟨(h2 y hy).1,by have:=(h2 y hy).2;omega⟩
  refine ww ?_
  refine qAo (callX rfl rfl (hO b h1) [0] (by decide) rfl rfl rfl rfl (fun _=>rfl) (fun _=>rfl) (fun _=>rfl)) rfl ?_
  rintro ⟨f,b2⟩ r1
  simp only at r1 ⊢
  refine ww ?_
  refine qAa rfl (fun c2=>?_) (fun c2=>?_)
  ·refine ww ?_
   exact fin b2 out _ [] _ c1' r1 hout h3 (by omega) rfl (.refl _) (.refl _) (.refl _)
  ·refine ww ?_
   refine qAo (callX rfl rfl (hN b2 r1 255 (by omega) (by omega)) [0] (by decide) rfl rfl rfl rfl (fun _=>rfl) (fun _=>rfl) (fun _=>rfl)) rfl ?_
   rintro ⟨v,b3⟩ ⟨q1,q2,q3⟩
   simp only at q1 q2 q3 ⊢
   have hwv:IntKind.i64.wrap (1+v)=1+v:=qAd (by omega)
   have hec:∀ y k d:Int,encF ⟨(p:Int),1+v,y,k,d⟩=[.int .i64 (p:Int),.int .i64 (IntKind.i64.wrap (1+v)),.int .i64 y,.int .i64 k,.int .i64 d]:=fun y k d=>by rw [hwv];rfl
   refine ww ?_
   refine qAa rfl (fun c3=>?_) (fun c3=>?_)
   ·have c3':p=2:=by simp at c3;omega
    refine ww ?_
    refine qAa rfl (fun c4=>?_) (fun c4=>?_)
    ·refine ww ?_
     refine qAo (callX rfl rfl (hN b3 q3 32 (by omega) (by omega)) [0] (by decide) rfl rfl rfl rfl (fun _=>rfl) (fun _=>rfl) (fun _=>rfl)) rfl ?_
     rintro ⟨y,b4⟩ ⟨u1,u2,u3⟩
     simp only at u1 u2 u3 ⊢
     refine ww ?_
     refine qAe (qAk (i:=1) hT rfl rfl rfl rfl rfl rfl (by show ((encFs out).length+1)*(40+1)≤_;first | omega | (simp only [qAg,qAh,List.length_append,List.length_cons,List.length_nil];omega))) rfl ?_
     refine ww ?_
     have hx:=infs_snoc (x:=⟨(p:Int),1+v,y,0,0⟩) (R:=fun z=>z.proto < ((p+1:Nat):Int)) h2 h3 (fun z hz=>.inl hz) ⟨⟨by simp only;omega,by simp only;omega⟩,.inl ⟨by simp only;omega,⟨u1,by simp only;omega⟩,rfl,rfl⟩⟩ (by simp only;omega) (fun z hz=>by omega)
     exact fin b4 (out++[⟨(p:Int),1+v,y,0,0⟩]) _ [_] _ c1' u3 hx.1 hx.2 (by rw [List.length_append];exact hlen1) (by rw [hmk,hec]) (.refl _) (.refl _) (.refl _)
    ·exact absurd c3 (by rw [c4];simp)
   have c3':¬ p=2:=by simp at c3;omega
   refine ww ?_
   refine qAa rfl (fun c4=>?_) (fun c4=>?_)
   ·have c4':p=3:=by simp at c4;omega
    refine ww ?_
    refine qAo (callX rfl rfl (hN b3 q3 32 (by omega) (by omega)) [0] (by decide) rfl rfl rfl rfl (fun _=>rfl) (fun _=>rfl) (fun _=>rfl)) rfl ?_
    rintro ⟨y,b4⟩ ⟨u1,u2,u3⟩
    simp only at u1 u2 u3 ⊢
    refine ww ?_
    refine qAe (qAk (i:=1) hT rfl rfl rfl rfl rfl rfl (by show ((encFs out).length+1)*(40+1)≤_;first | omega | (simp only [qAg,qAh,List.length_append,List.length_cons,List.length_nil];omega))) rfl ?_
    refine ww ?_
    have hx:=infs_snoc (x:=⟨(p:Int),1+v,y,0,0⟩) (R:=fun z=>z.proto < ((p+1:Nat):Int)) h2 h3 (fun z hz=>.inl hz) ⟨⟨by simp only;omega,by simp only;omega⟩,.inl ⟨by simp only;omega,⟨u1,by simp only;omega⟩,rfl,rfl⟩⟩ (by simp only;omega) (fun z hz=>by omega)
    exact fin b4 (out++[⟨(p:Int),1+v,y,0,0⟩]) _ [_] _ c1' u3 hx.1 hx.2 (by rw [List.length_append];exact hlen1) (by rw [hmk,hec]) (.refl _) (.refl _) (.refl _)
   have c4':¬ p=3:=by simp at c4;omega
   refine ww ?_
   refine qAa rfl (fun c5=>?_) (fun c5=>?_)
   ·have c5':p=4:=by simp at c5;omega
    subst c5'
    clear c3 c3' c4 c4' c5
    refine ww ?_
    refine qAo (callX rfl rfl (hN b3 q3 3 (by omega) (by omega)) [0] (by decide) rfl rfl rfl rfl (fun _=>rfl) (fun _=>rfl) (fun _=>rfl)) rfl ?_
    rintro ⟨i0,b4⟩ ⟨u1,u2,u3⟩
    simp only at u1 u2 u3 ⊢
    obtain ⟨i0,rfl⟩:∃ i:Nat,i0=(i:Int):=⟨i0.toNat,by omega⟩
    refine ww ?_
    refine qAn (ι:=Nat×Nat×List Inf×Int×Int) (fun x=>[(0,.ptr 0 0),(3,.sl 5 (encFs x.2.2.1) (.right 1)),(4,.d (.int .i64 ((4:Nat):Int))),(5,.ptr 2 0),(6,.d (.int .i64 (x.1:Int)))])
     (fun x=>[.row (diceR L x.2.1),.right 5 (encFs x.2.2.1).length,.row [.d (.int .i64 ((4:Nat):Int)),.d (.int .i64 (IntKind.i64.wrap (1+v))),.d (.int .i64 0),.d (.int .i64 x.2.2.2.1),.d (.int .i64 x.2.2.2.2)]])
     (fun x=>x.1≤3∧x.2.1≤L.length∧(∀ y,y∈x.2.2.1→InfMade y∧(y.proto < 4∨(y.proto=4∧y.kid < 40*((min x.1 2:Nat):Int))))∧x.2.2.1.Pairwise InfB∧x.2.2.1.length≤2+min x.1 2∧(x.1=3→(∃ n,x.2.2.2.1=pointG n)∧80≤x.2.2.2.2∧x.2.2.2.2≤119))
     (fun x=>3-x.1) (i0,b4,out,0,0) ⟨by simp only;omega,u3,fun y hy=>⟨(h2 y hy).1,.inl (h2 y hy).2⟩,h3,by simp at h4;simp only;omega,fun h=>by simp only at h;omega⟩ ⟨.refl _,.refl _,.refl _,.refl _,.refl _,trivial⟩ (HLe.refl _) ?_
    rintro ⟨i,c,o,key,kid⟩ ⟨g1,g2,g3,g4,g5,g6⟩
    simp only at g1 g2 g3 g4 g5 g6 ⊢
    have hol:=qCh o
    have hmko:∀ x:Inf,encFs (o++[x])=encFs o++[encF x]:=fun x=>by rw [encFs_append];rfl
    have hwi:IntKind.i64.wrap ((i:Int)+1)=((i+1:Nat):Int):=by rw [qAd (by omega)];omega
    refine ww ?_
    refine qAa rfl (fun d1=>?_) (fun d1=>?_)
    ·have d1':i < 3:=by simp at d1;omega
     refine ww ?_
     refine qAo (callX rfl rfl (hN c g2 1073741824 (by omega) (by omega)) [0] (by decide) rfl rfl rfl rfl (fun _=>rfl) (fun _=>rfl) (fun _=>rfl)) rfl ?_
     rintro ⟨m,c2⟩ ⟨v1,v2,v3⟩
     simp only at v1 v2 v3 ⊢
     have hP:=Point_spec m
     refine ww ?_
     refine wwc hP ?_
     refine ww ?_
     refine qAo (callX rfl rfl (hN c2 v3 40 (by omega) (by omega)) [0] (by decide) rfl rfl rfl rfl (fun _=>rfl) (fun _=>rfl) (fun _=>rfl)) rfl ?_
     rintro ⟨k,c3⟩ ⟨w1,w2,w3⟩
     simp only at w1 w2 w3 ⊢
     refine ww ?_
     have hkd:IntKind.i64.wrap (IntKind.i64.wrap (40*(i:Int))+k)=40*(i:Int)+k:=by rw [qAd (n:=40*(i:Int)) (by omega),qAd (by omega)]
     generalize IntKind.i64.wrap (IntKind.i64.wrap (40*(i:Int))+k)=kd at hkd ⊢
     refine qAa rfl (fun d2=>?_) (fun d2=>?_)
     ·have d2':i < 2:=by simp at d2;omega
      refine ww ?_
      refine qAe (qAk (i:=1) hT rfl rfl rfl rfl rfl rfl (by show ((encFs o).length+1)*(40+1)≤_;first | omega | (simp only [qAg,qAh,List.length_append,List.length_cons,List.length_nil];omega))) rfl ?_
      refine ww ?_
      have hx:=infs_snoc (x:=⟨((4:Nat):Int),1+v,0,pointG m,kd⟩) (R:=fun z=>z.proto < 4∨(z.proto=4∧z.kid < 40*((min (i+1) 2:Nat):Int))) g3 g4 (fun z hz=>by rcases hz with hz | hz;exact .inl hz;exact .inr ⟨hz.1,by have:=hz.2;simp only;omega⟩) ⟨⟨by simp only;omega,by simp only;omega⟩,.inr (.inl ⟨rfl,rfl,⟨by simp only;omega,by simp only;omega⟩,m,rfl⟩)⟩ (.inr ⟨rfl,by simp only;omega⟩) (fun z hz=>by rcases hz with hz | hz;exact .inl hz;exact .inr ⟨hz.1,by omega⟩)
      exact ⟨(i+1,c3,o++[⟨((4:Nat):Int),1+v,0,pointG m,kd⟩],pointG m,kd),⟨by simp only;omega,w3,hx.1,hx.2,by simp only [List.length_append,List.length_singleton];omega,fun h=>by simp only at h;omega⟩,by simp only;omega,⟨.refl _,AV.le.eq (by rw [hmko,hec];rfl),.refl _,.refl _,.int hwi,trivial⟩,⟨ObLe.refl _,⟨rfl,by rw [hmko,hec]⟩,ObLe.refl _,trivial⟩⟩
     ·have d2':i=2:=by simp at d2;omega
      subst d2'
      refine ww ?_
      exact ⟨(3,c3,o,pointG m,kd),⟨by simp,w3,g3,g4,g5,fun _=>⟨⟨m,rfl⟩,by simp only;omega,by simp only;omega⟩⟩,by simp,⟨.refl _,.refl _,.refl _,.refl _,.int hwi,trivial⟩,HLe.refl _⟩
    ·have d1':i=3:=by simp at d1;omega
     subst d1'
     obtain ⟨⟨m,rfl⟩,k1,k2⟩:=g6 rfl
     refine ww ?_
     refine qAe (qAk (i:=1) hT rfl rfl rfl rfl rfl rfl (by show ((encFs o).length+1)*(40+1)≤_;first | omega | (simp only [qAg,qAh,List.length_append,List.length_cons,List.length_nil];omega))) rfl ?_
     refine ww ?_
     have hx:=infs_snoc (x:=⟨((4:Nat):Int),1+v,0,pointG m,kid⟩) (R:=fun z=>z.proto < ((4+1:Nat):Int)) g3 g4 (fun z hz=>by rcases hz with hz | hz;exact .inl hz;exact .inr ⟨hz.1,by have:=hz.2;simp only;omega⟩) ⟨⟨by simp only;omega,by simp only;omega⟩,.inr (.inl ⟨rfl,rfl,⟨by simp only;omega,by simp only;omega⟩,m,rfl⟩)⟩ (by simp only;omega) (fun z hz=>by omega)
     exact fin c (o++[⟨((4:Nat):Int),1+v,0,pointG m,kid⟩]) _ [_] _ c1' g2 hx.1 hx.2 (by rw [List.length_append];simp at g5 ⊢;omega) (by rw [hmko,hec]) (.refl _) (.refl _) (.refl _)
   have c5':¬ p=4:=by simp at c5;omega
   refine ww ?_
   refine qAe (qAk (i:=1) hT rfl rfl rfl rfl rfl rfl (by show ((encFs out).length+1)*(40+1)≤_;first | omega | (simp only [qAg,qAh,List.length_append,List.length_cons,List.length_nil];omega))) rfl ?_
   refine ww ?_
   have hx:=infs_snoc (x:=⟨(p:Int),1+v,0,0,0⟩) (R:=fun z=>z.proto < ((p+1:Nat):Int)) h2 h3 (fun z hz=>.inl hz) ⟨⟨by simp only;omega,by simp only;omega⟩,.inr (.inr ⟨by simp only;omega,rfl,rfl,rfl⟩)⟩ (by simp only;omega) (fun z hz=>by omega)
   exact fin b3 (out++[⟨(p:Int),1+v,0,0,0⟩]) _ [_] _ c1' q3 hx.1 hx.2 (by rw [List.length_append];exact hlen1) (by rw [hmk,hec]) (.refl _) (.refl _) (.refl _)
 ·have c1':p=7:=by simp at c1;omega
  subst c1'
  refine ww ?_
  exact ret_q ⟨(out,b),⟨⟨fun x hx=>(h2 x hx).1,h3,ho7⟩,h1⟩,rfl,rfl⟩ rfl .dat rfl rfl rfl rfl
end Tdoc
/- Dice: details. -/
set_option maxHeartbeats 8000000
set_option maxRecDepth 100000
set_option linter.unusedVariables false
set_option linter.unusedSimpArgs false
namespace Tdoc
open Go Go.Proofs
theorem flat_at {sz:Nat}:∀ {es:List (List Dat)} {i j:Nat} {e:List Dat} {d:Dat},(∀ e,e∈es→e.length=sz)→es[i]?=some e→e[j]?=some d→es.flatten[i*sz+j]?=some d
 | [],i,j,e,d,_,h,_=>by simp at h
 | a::l,0,j,e,d,hs,h,h2=>by
  simp at h;subst h
  have hj:=(List.getElem?_eq_some_iff.1 h2).1
  rw [List.flatten_cons,Nat.zero_mul,Nat.zero_add,List.getElem?_append_left hj];exact h2
 | a::l,i+1,j,e,d,hs,h,h2=>by
  have ha:=hs a (by simp)
  have:=flat_at (es:=l) (i:=i) (fun e he=>hs e (by simp [he])) (by simpa using h) h2
  rw [List.flatten_cons,List.getElem?_append_right (by rw [ha,Nat.succ_mul];omega),ha,show (i+1)*sz+j-sz=i*sz+j by rw [Nat.succ_mul];omega]
  exact this
theorem RowDat_flat {sz:Nat} {es:List (List Dat)} (hs:∀ e,e∈es→e.length=sz):RowDat (flatAV es) 0 sz es :=
 ⟨hs,fun i e j d h1 h2=>⟨.d d,by unfold flatAV;rw [Nat.zero_add,List.getElem?_map,flat_at hs h1 h2];rfl,rfl⟩⟩
theorem flatAV_append (a b:List (List Dat)):flatAV (a++b)=flatAV a++flatAV b:=by simp [flatAV]
theorem encDs_size (l:List Det):∀ e,e∈encDs l→e.length=2:=fun e he=>by
 obtain ⟨x,_,rfl⟩:=List.mem_map.1 he;rfl
def dTags (n:Int):List Int:=if n=12 then [24345,24358,24347,24405] else [24334,24336,24337,24386,24338,24339,24340,24341]
theorem dTags_len (n:Int):(dTags n).length≤8:=by unfold dTags;split <;> simp
theorem dTags_nodup (n:Int):(dTags n).Nodup:=by unfold dTags;split <;> decide
def DetM (n:Int) (l:List Det):Prop:=(∀ d,d∈l→d.tag∈dTags n∧SignM 99 d.text)∧(l.map Det.tag).Nodup∧l.length≤8
def DetsP (L:List Int) (n:Int) (x:List Det×Nat):Prop:=DetM n x.1∧x.2≤L.length
theorem DetM.swap {n:Int} {a b:Det} {l:List Det} (h:DetM n (a::b::l)):DetM n (b::a::l):=by
 obtain ⟨h1,h2,h3⟩:=h
 refine ⟨fun d hd=>h1 d (by simp only [List.mem_cons] at hd ⊢;rcases hd with h | h | h <;> simp [h]),?_,by simpa using h3⟩
 simp only [List.map_cons,List.nodup_cons,List.mem_cons,not_or] at h2 ⊢
 exact ⟨⟨fun hh=>h2.1.1 hh.symm,h2.2.1⟩,h2.1.2,h2.2.2⟩
theorem DDetails_spec (L:List Int) (hL:L.length≤1000000) (a:Nat) (ha:a≤L.length) (n:Int) :
  Spec Tryz.prog 19 [.ptr 0 0,.d (.int .i64 n)] [.row (diceR L a)] (fun r h'=>∃ x,DetsP L n x∧r=.d (.sl 2 (encDs x.1))∧h'=[.row (diceR L x.2)]):=by
 have hO:=fun a ha=>One_spec L hL a ha 2 (by omega) (by omega)
 have hS:=fun a ha=>SignsD_spec L hL a ha 99 (by omega) (by omega)
 refine qAb hT Tryz.func19 rfl rfl rfl rfl ?_;intro E hE
 refine qAq ?_
 refine wwe ?_
 refine qAm (qAj ?_)
 refine wws ?_
 refine qAm (qAj ?_)
 refine wws ?_
 refine qAr (ι:=Unit) (fun _=>[(0,.ptr 0 0),(1,.d (.int .i64 n)),(5,.d (.sl 1 (encI (dTags n))))]) (fun _=>[.row (diceR L a),.room]) (fun _=>True) ?_ (fun _ _=>?_)
 ·refine ww ?_
  refine qAa rfl (fun c1=>?_) (fun c1=>?_)
  ·have c1':n=12:=by simpa using c1
   subst c1'
   refine ww ?_
   exact ⟨(),trivial,⟨.refl _,.refl _,.dat,trivial⟩,HLe.refl _⟩
  ·have c1':¬ n=12:=by simpa using c1
   have hd:dTags n=[24334,24336,24337,24386,24338,24339,24340,24341]:=by unfold dTags;rw [if_neg c1']
   rw [hd]
   refine ww ?_
   exact ⟨(),trivial,⟨.refl _,.refl _,.dat,trivial⟩,HLe.refl _⟩
 have hTl:=qCj (dTags n)
 have hT8:=dTags_len n
 refine wwe ?_
 refine qAm (qAj ?_)
 refine wws ?_
 refine AW_bufOf 6 2 1 (.inr rfl) rfl rfl ?_
 refine qAr (ι:=List Det×Nat) (fun x=>[(0,.ptr 0 0),(6,.bm 1 x.1.length)]) (fun x=>[.row (diceR L x.2),.buf 2 x.1.length (flatAV (encDs x.1))]) (fun x=>DetM n x.1∧x.2≤L.length) ?_ ?_
 ·refine ww ?_
  refine qAn (ι:=Nat×Nat×List Det) (fun x=>[(0,.ptr 0 0),(5,.d (.sl 1 (encI (dTags n)))),(6,.bm 1 x.2.2.length),(7,.d (.int .i64 (x.1:Int)))]) (fun x=>[.row (diceR L x.2.1),.buf 2 x.2.2.length (flatAV (encDs x.2.2))])
   (fun x=>x.1≤(dTags n).length∧x.2.1≤L.length∧(x.2.2.map Det.tag).Sublist ((dTags n).take x.1)∧∀ d,d∈x.2.2→SignM 99 d.text) (fun x=>(dTags n).length-x.1) (0,a,[]) ⟨by simp,ha,by simp,by simp⟩ ⟨.refl _,.refl _,.refl _,.refl _,trivial⟩ (HLe.refl _) ?_
  rintro ⟨i,b,out⟩ ⟨h1,h2,h3,h4⟩
  simp only at h1 h2 h3 h4 ⊢
  have hol:out.length≤8:=by have:=h3.length_le;rw [List.length_map,List.length_take] at this;omega
  have hwr:IntKind.i64.wrap ((i:Int)+1)=((i+1:Nat):Int):=by rw [qAd (by omega)];simp
  refine ww ?_
  refine qAa rfl (fun c2=>?_) (fun c2=>?_)
  ·have c2':i < (dTags n).length:=by rw [hTl] at c2;simpa using c2
   have hel:(encI (dTags n))[((i:Int)).toNat]?=some [.int .i64 (dTags n)[i]]:=by simp [encI,c2']
   have htk:(dTags n).take (i+1)=(dTags n).take i++[(dTags n)[i]]:=List.take_succ_eq_append_getElem c2'
   have hskip:(out.map Det.tag).Sublist ((dTags n).take (i+1)):=by rw [htk];exact h3.trans (List.sublist_append_left _ _)
   refine ww ?_
   refine qAo (callX rfl rfl (hO b h2) [0] (by decide) rfl rfl rfl rfl (fun _=>rfl) (fun _=>rfl) (fun _=>rfl)) rfl ?_
   rintro ⟨f,b2⟩ r1
   simp only at r1 ⊢
   refine ww ?_
   refine qAa rfl (fun c3=>?_) (fun c3=>?_)
   ·have hs:=hS b2 r1
    have hso:=signF_ok (L:=L) (n:=99) r1 (by omega)
    generalize (dTags n)[i]=tg at hel htk
    generalize signF L b2 99=q at hs hso
    obtain ⟨s,b3⟩:=q
    simp only at hs hso
    have htake:((out++[(⟨tg,s⟩:Det)]).map Det.tag).Sublist ((dTags n).take (i+1)):=by rw [htk,List.map_append];exact h3.append_right _
    have hsg:∀ d,d∈out++[(⟨tg,s⟩:Det)]→SignM 99 d.text:=fun d hd=>by
     rcases List.mem_append.1 hd with hd | hd
     ·exact h4 d hd
     ·rw [List.mem_singleton.1 hd];exact hso.1
    refine wwn ?_
    refine qAz (fun i=>bif Nat.beq i 6 then [0] else bif Nat.beq i 9 then [1] else []) (fun i=>bif Nat.beq i 6 then [0] else bif Nat.beq i 9 then [1] else []) mixed (by kernel_rfl) ?_
    refine wwg ?_
    refine qBl (qAi hT rfl rfl rfl rfl (by omega) hel) rfl rfl ?_
    refine wwg ?_
    refine qBd (v:=.d (.str s)) (os:=[.row (diceR L b3)]) (fun k hk1 hk2=>callS1 rfl rfl hs [0] (by decide) (by show [k[0]?]=_;rw [hk2 0 List.mem_cons_self];rfl) rfl rfl rfl rfl rfl rfl) rfl ?_
    refine wwg ?_
    refine qBd (os:=[]) (fun k hk1 hk2=>qDm hT rfl rfl) rfl ?_
    refine wwg ?_
    refine qBd (v:=.bm 1 (out.length+1)) (os:=[.buf 2 (out.length+1) (flatAV (encDs out)++flatAV [[.int .i64 tg,.str s]])]) (fun k hk1 hk2=>bufApp_ok (i:=1) (sz:=2) (by_:=24) (n:=out.length) (es2:=[[.int .i64 tg,.str s]]) hT rfl rfl rfl rfl (hk2 1 List.mem_cons_self) rfl (by show (out.length+1)*(24+1)≤_;omega)) rfl ?_
    refine wwg ?_
    refine ww ?_
    have hfl:flatAV (encDs (out++[(⟨tg,s⟩:Det)]))=flatAV (encDs out)++flatAV [[.int .i64 tg,.str s]]:=by rw [encDs_append,flatAV_append];rfl
    refine ⟨(i+1,b3,out++[⟨tg,s⟩]),⟨c2',hso.2,htake,hsg⟩,by simp only;omega,⟨.refl _,.refl _,AV.le.eq (by show AV.bm 1 (out.length+1)=AV.bm 1 (out++[(⟨tg,s⟩:Det)]).length;rw [List.length_append];rfl),.int hwr,trivial⟩,?_⟩
    rw [show (out++[(⟨tg,s⟩:Det)]).length=out.length+1 by simp,hfl]
    exact HLe.refl _
   ·refine ww ?_
    exact ⟨(i+1,b2,out),⟨c2',r1,hskip,h4⟩,by simp only;omega,⟨.refl _,.refl _,.refl _,.int hwr,trivial⟩,HLe.refl _⟩
  ·have c2':i=(dTags n).length:=by rw [hTl] at c2;simp at c2;omega
   subst c2'
   rw [List.take_length] at h3
   refine ww ?_
   exact ⟨(out,b),⟨⟨fun d hd=>⟨h3.subset (List.mem_map_of_mem hd),h4 d hd⟩,(dTags_nodup n).sublist h3,hol⟩,h2⟩,⟨.refl _,.refl _,trivial⟩,HLe.refl _⟩
 rintro ⟨l,b⟩ ⟨hd,hb⟩
 simp only at hd hb ⊢
 have hsz:=encDs_size l
 have hll:=hd.2.2
 refine qAr (ι:=List Det×Nat) (fun x=>[(0,.ptr 0 0),(6,.bm 1 x.1.length)]) (fun x=>[.row (diceR L x.2),.buf 2 x.1.length (flatAV (encDs x.1))]) (fun x=>DetM n x.1∧x.2≤L.length) ?_ ?_
 ·refine ww ?_
  refine AWk_gopX (.d (.bool false)) rfl rfl rfl (fun hg=>⟨by first | exact True.intro | exact ⟨hg,True.intro⟩ | exact ⟨hg,hg,True.intro⟩,callX rfl rfl (hO b hb) [0] (by decide) rfl rfl rfl rfl (fun _=>rfl) (fun _=>rfl) (fun _=>rfl)⟩) ?_ ?_
  ·rintro hg ⟨f,b2⟩ r1
   simp only at r1 ⊢
   have hg':1 < l.length:=by simp [gval] at hg;omega
   refine ww ?_
   refine qAa rfl (fun c4=>?_) (fun c4=>?_)
   ·obtain ⟨d0,d1,r,rfl⟩:∃ d0 d1 r,l=d0::d1::r:=match l,hg' with
     | d0::d1::r,_=>⟨d0,d1,r,rfl⟩
     | [x],h=>by simp at h
     | [],h=>by simp at h
    have hn2:(d0::d1::r).length=r.length+2:=rfl
    refine wwn ?_
    refine qAz (fun i=>bif Nat.beq i 4 then [1] else bif Nat.beq i 7 then [1] else bif Nat.beq i 9 then [1] else bif Nat.beq i 11 then [1] else []) (fun i=>bif Nat.beq i 9 then [1] else bif Nat.beq i 11 then [1] else []) mixed (by kernel_rfl) ?_
    refine wwg ?_
    refine qBl (qCa (sz:=2) hT rfl rfl rfl rfl ⟨by omega,by rw [hn2];omega⟩) rfl rfl ?_
    refine qBd (v:=.agg [.d (.int .i64 d1.tag),.d (.str d1.text)]) (os:=[]) (fun k hk1 hk2=>bufLoadN (ti:=⟨.struct [(0,1,false),(1,1,false)],2,24,[.d (.int .i64 0),.d (.str [])]⟩) hT rfl rfl (hk2 1 List.mem_cons_self) rfl rfl (by simp) (by simp [flatAV,encDs,encD]) rfl) rfl ?_
    refine wwg ?_
    refine qBl (qCa (sz:=2) hT rfl rfl rfl rfl ⟨by omega,by rw [hn2];omega⟩) rfl rfl ?_
    refine qBd (v:=.agg [.d (.int .i64 d0.tag),.d (.str d0.text)]) (os:=[]) (fun k hk1 hk2=>bufLoadN (ti:=⟨.struct [(0,1,false),(1,1,false)],2,24,[.d (.int .i64 0),.d (.str [])]⟩) hT rfl rfl (hk2 1 List.mem_cons_self) rfl rfl (by simp) (by simp [flatAV,encDs,encD]) rfl) rfl ?_
    refine wwg ?_
    refine qBl (qCa (sz:=2) hT rfl rfl rfl rfl ⟨by omega,by rw [hn2];omega⟩) rfl rfl ?_
    refine qBd (v:=.any) (os:=[.buf 2 (d0::d1::r).length (flatAV (encDs (d1::d1::r)))]) (fun k hk1 hk2=>bufStoreN (ti:=⟨.struct [(0,1,false),(1,1,false)],2,24,[.d (.int .i64 0),.d (.str [])]⟩) (cs:=[.d (.int .i64 d1.tag),.d (.str d1.text)]) hT rfl rfl rfl rfl (hk2 1 List.mem_cons_self) rfl rfl (by simp) (by simp [flatAV,encDs,encD]) rfl) rfl ?_
    refine wwg ?_
    refine qBl (qCa (sz:=2) hT rfl rfl rfl rfl ⟨by omega,by rw [hn2];omega⟩) rfl rfl ?_
    refine qBd (v:=.any) (os:=[.buf 2 (d0::d1::r).length (flatAV (encDs (d1::d0::r)))]) (fun k hk1 hk2=>bufStoreN (ti:=⟨.struct [(0,1,false),(1,1,false)],2,24,[.d (.int .i64 0),.d (.str [])]⟩) (cs:=[.d (.int .i64 d0.tag),.d (.str d0.text)]) hT rfl rfl rfl rfl (hk2 1 List.mem_cons_self) rfl rfl (by simp) (by simp [flatAV,encDs,encD]) rfl) rfl ?_
    refine wwg ?_
    refine ww ?_
    exact ⟨(d1::d0::r,b2),⟨hd.swap,r1⟩,⟨.refl _,.refl _,trivial⟩,HLe.refl _⟩
   ·refine ww ?_
    exact ⟨(l,b2),⟨hd,r1⟩,⟨.refl _,.refl _,trivial⟩,HLe.refl _⟩
  ·intro hg
   have hg':¬ 1 < l.length:=by simp [gval] at hg;omega
   refine qBn hT rfl rfl (by intro hh;simp at hh;omega) ?_
   refine ww ?_
   refine qAa rfl (fun c4=>?_) (fun c4=>?_)
   ·exact absurd c4 (by simp)
   ·refine ww ?_
    exact ⟨(l,b),⟨hd,hb⟩,⟨.refl _,.refl _,trivial⟩,HLe.refl _⟩
 rintro ⟨l,b⟩ ⟨hd,hb⟩
 simp only at hd hb ⊢
 refine AW_freezeBuf 6 1 2 (encDs l) rfl rfl (qBx l) (RowDat_flat (encDs_size l)) rfl ?_
 refine ww ?_
 exact ret_q ⟨(l,b),⟨hd,hb⟩,rfl,rfl⟩ rfl .dat rfl rfl rfl rfl
end Tdoc
/- Plain: a file written with other forms of lengths has the same group and objects. -/
set_option linter.unusedVariables false
set_option linter.unusedSimpArgs false
namespace Tdoc
open Go Go.Proofs
def FileM (b:List UInt8):Prop:=b=[]∨∃ (n:Int) (k:List Node),1≤n∧n≤16∧b=(wrapG n k).1
theorem encodeP_nil {l:List Node} (h:(encodeP l).1≠[]):(encodeP l).1=wrL l∧(wrL l).length≤4096:=by
 unfold encodeP at h ⊢
 split at h
 ·exact absurd rfl h
 split at h
 ·exact absurd rfl h
 split at h
 ·exact absurd rfl h
 rename_i h1 h2 h3
 rw [if_neg h1,if_neg h2,if_neg h3]
 exact ⟨rfl,by omega⟩
end Tdoc
/- Dice: the file of a group. -/
set_option maxHeartbeats 8000000
set_option maxRecDepth 100000
set_option linter.unusedVariables false
set_option linter.unusedSimpArgs false
namespace Tdoc
open Go Go.Proofs
def FileW (b:List UInt8):Prop:=b=[]∨∃ (n:Int) (k:List Node),b=(wrapG n k).1
theorem FileW.short {b:List UInt8} (h:FileW b):b.length≤4096:=by
 rcases h with rfl | ⟨n,k,rfl⟩
 ·simp
 ·by_cases h0:(wrapG n k).1=[]
  ·rw [h0];simp
  ·unfold wrapG at h0 ⊢
   split
   ·simp
   ·rename_i ht
    rw [if_neg ht] at h0
    have:=encodeP_nil h0
    rw [this.1];exact this.2
theorem wrapM {n:Int} {k:List Node} (h1:1≤n) (h2:n≤16):FileM (wrapG n k).1:=.inr ⟨n,k,h1,h2,rfl⟩
theorem zoneM (z:Zon):FileM (zoneF z).1:=by
 unfold zoneF;split
 ·exact .inl rfl
 ·exact wrapM (by omega) (by omega)
theorem bioM {n:Int} (l:List Tpl):FileM (bioF n l).1:=by
 unfold bioF;split
 ·exact .inl rfl
 split
 ·exact .inl rfl
 split
 ·exact .inl rfl
 ·exact wrapM (by omega) (by omega)
theorem detM {n:Int} (l:List Det):FileM (detF n l).1:=by
 unfold detF;split
 ·exact .inl rfl
 split
 ·exact .inl rfl
 split
 ·exact .inl rfl
 ·rename_i h _ _
  exact wrapM (by omega) (by omega)
theorem infosM (l:List Inf):FileM (infosF l).1:=by
 unfold infosF;split
 ·exact .inl rfl
 ·exact wrapM (by omega) (by omega)
theorem activeM (k:Int):FileM (activeG k).1:=by
 unfold activeG;split
 ·exact wrapM (by omega) (by omega)
 ·exact .inl rfl
theorem FileM.w {b:List UInt8} (h:FileM b):FileW b:=by
 rcases h with h | ⟨n,k,_,_,h⟩
 ·exact .inl h
 ·exact .inr ⟨n,k,h⟩
def DFileP (L:List Int) (n:Int) (x:List UInt8×Nat):Prop:=FileW x.1∧(n≤16→FileM x.1)∧x.2≤L.length
theorem InfsM.key {l:List Inf} (h:InfsM l):∀ x,x∈l→KeyOk x:=fun x hx hp=>by
 obtain ⟨_,h1 | ⟨_,_,_,n,h1⟩ | h1⟩:=h.1 x hx
 ·omega
 ·have:=pointG_range n;rw [h1];omega
 ·omega
theorem DFile_spec (L:List Int) (hL:L.length≤1000000) (a:Nat) (ha:a≤L.length) (n:Int) (h1:1≤n) (h18:n≤18) :
  Spec Tryz.prog 11 [.ptr 0 0,.d (.int .i64 n)] [.row (diceR L a)] (fun r h'=>∃ x,DFileP L n x∧r=.d (.sl 1 (encB x.1))∧h'=[.row (diceR L x.2)]):=by
 have hZ:=DZone_spec L hL a ha
 have hI:=DInfos_spec L hL a ha
 have hNd:=Nodes_spec L hL 2 a (by omega) (by omega) ha
 refine qAb hT Tryz.func11 rfl rfl rfl rfl ?_;intro E hE
 refine ww ?_
 refine qAa rfl (fun c1=>?_) (fun c1=>?_)
 ·have c1':n=1:=by simpa using c1
  refine ww ?_
  refine qAo (callX rfl rfl (hZ) [0] (by decide) rfl rfl rfl rfl (fun _=>rfl) (fun _=>rfl) (fun _=>rfl)) rfl ?_
  rintro ⟨z,a1⟩ ⟨q1,q2⟩
  simp only at q1 q2 ⊢
  have hZR:=ZoneR_spec z q1.len
  have hm:=zoneM z
  generalize zoneF z=w at hZR hm
  obtain ⟨w,we⟩:=w
  obtain ⟨fmt,kind,state,sur,giv,num,nat,bir,sex,exp,opt,sec⟩:=z
  unfold zAV zCells at hZR ⊢
  simp only at hZR hm ⊢
  refine ww ?_
  refine wwc hZR ?_
  refine ww ?_
  exact rq ⟨(w,a1),⟨hm.w,fun _=>hm,q2⟩,rfl,rfl⟩ rfl (.refl _)
 have c1':¬ n=1:=by simpa using c1
 have bio:2≤n→n≤4→True:=fun _ _=>trivial
 have hw1:IntKind.i64.wrap (n-1)=n-1:=qAd (by omega)
 refine ww ?_
 refine qAa rfl (fun c2=>?_) (fun c2=>?_)
 ·have c2':n=2:=by simpa using c2
  have hT':=DTemplates_spec L hL a ha (n-1) (by omega)
  rw [← hw1] at hT'
  refine ww ?_
  refine qAa rfl (fun d2=>?_) (fun d2=>?_)
  ·refine ww ?_
   refine qAo (callX rfl rfl (hT') [0] (by decide) rfl rfl rfl rfl (fun _=>rfl) (fun _=>rfl) (fun _=>rfl)) rfl ?_
   rintro ⟨l,a1⟩ ⟨q1,q2,q3,q4⟩
   simp only at q1 q2 q3 q4 ⊢
   have hB:=bioF_spec n (by omega) l (by omega)
   have hm:=bioM (n:=n) l
   generalize bioF n l=w at hB hm
   obtain ⟨w,we⟩:=w
   simp only at hB hm
   refine ww ?_
   refine wwc hB ?_
   refine ww ?_
   exact rq ⟨(w,a1),⟨hm.w,fun _=>hm,q4⟩,rfl,rfl⟩ rfl (.refl _)
  ·exact absurd c2 (by rw [d2];simp)
 have c2':¬ n=2:=by simpa using c2
 refine ww ?_
 refine qAa rfl (fun c3=>?_) (fun c3=>?_)
 ·have c3':n=3:=by simpa using c3
  have hT':=DTemplates_spec L hL a ha (n-1) (by omega)
  rw [← hw1] at hT'
  refine ww ?_
  refine qAa rfl (fun d2=>?_) (fun d2=>?_)
  ·refine ww ?_
   refine qAo (callX rfl rfl (hT') [0] (by decide) rfl rfl rfl rfl (fun _=>rfl) (fun _=>rfl) (fun _=>rfl)) rfl ?_
   rintro ⟨l,a1⟩ ⟨q1,q2,q3,q4⟩
   simp only at q1 q2 q3 q4 ⊢
   have hB:=bioF_spec n (by omega) l (by omega)
   have hm:=bioM (n:=n) l
   generalize bioF n l=w at hB hm
   obtain ⟨w,we⟩:=w
   simp only at hB hm
   refine ww ?_
   refine wwc hB ?_
   refine ww ?_
   exact rq ⟨(w,a1),⟨hm.w,fun _=>hm,q4⟩,rfl,rfl⟩ rfl (.refl _)
  ·exact absurd c3 (by rw [d2];simp)
 have c3':¬ n=3:=by simpa using c3
 refine ww ?_
 refine qAa rfl (fun c4=>?_) (fun c4=>?_)
 ·have c4':n=4:=by simpa using c4
  have hT':=DTemplates_spec L hL a ha (n-1) (by omega)
  rw [← hw1] at hT'
  refine ww ?_
  refine qAo (callX rfl rfl (hT') [0] (by decide) rfl rfl rfl rfl (fun _=>rfl) (fun _=>rfl) (fun _=>rfl)) rfl ?_
  rintro ⟨l,a1⟩ ⟨q1,q2,q3,q4⟩
  simp only at q1 q2 q3 q4 ⊢
  have hB:=bioF_spec n (by omega) l (by omega)
  have hm:=bioM (n:=n) l
  generalize bioF n l=w at hB hm
  obtain ⟨w,we⟩:=w
  simp only at hB hm
  refine ww ?_
  refine wwc hB ?_
  refine ww ?_
  exact rq ⟨(w,a1),⟨hm.w,fun _=>hm,q4⟩,rfl,rfl⟩ rfl (.refl _)
 have c4':¬ n=4:=by simpa using c4
 have hD:=DDetails_spec L hL a ha n
 refine ww ?_
 refine qAa rfl (fun c5=>?_) (fun c5=>?_)
 ·have c5':n=11:=by simpa using c5
  refine ww ?_
  refine qAa rfl (fun d2=>?_) (fun d2=>?_)
  ·refine ww ?_
   refine qAo (callX rfl rfl (hD) [0] (by decide) rfl rfl rfl rfl (fun _=>rfl) (fun _=>rfl) (fun _=>rfl)) rfl ?_
   rintro ⟨l,a1⟩ ⟨q1,q2⟩
   simp only at q1 q2 ⊢
   have hB:=detF_spec n (by omega) l (by have:=q1.2.2;omega)
   have hm:=detM (n:=n) l
   generalize detF n l=w at hB hm
   obtain ⟨w,we⟩:=w
   simp only at hB hm
   refine ww ?_
   refine wwc hB ?_
   refine ww ?_
   exact rq ⟨(w,a1),⟨hm.w,fun _=>hm,q2⟩,rfl,rfl⟩ rfl (.refl _)
  ·exact absurd c5 (by rw [d2];simp)
 have c5':¬ n=11:=by simpa using c5
 refine ww ?_
 refine qAa rfl (fun c6=>?_) (fun c6=>?_)
 ·have c6':n=12:=by simpa using c6
  refine ww ?_
  refine qAo (callX rfl rfl (hD) [0] (by decide) rfl rfl rfl rfl (fun _=>rfl) (fun _=>rfl) (fun _=>rfl)) rfl ?_
  rintro ⟨l,a1⟩ ⟨q1,q2⟩
  simp only at q1 q2 ⊢
  have hB:=detF_spec n (by omega) l (by have:=q1.2.2;omega)
  have hm:=detM (n:=n) l
  generalize detF n l=w at hB hm
  obtain ⟨w,we⟩:=w
  simp only at hB hm
  refine ww ?_
  refine wwc hB ?_
  refine ww ?_
  exact rq ⟨(w,a1),⟨hm.w,fun _=>hm,q2⟩,rfl,rfl⟩ rfl (.refl _)
 have c6':¬ n=12:=by simpa using c6
 refine ww ?_
 refine qAa rfl (fun c7=>?_) (fun c7=>?_)
 ·have c7':n=14:=by simpa using c7
  refine ww ?_
  refine qAo (callX rfl rfl (hI) [0] (by decide) rfl rfl rfl rfl (fun _=>rfl) (fun _=>rfl) (fun _=>rfl)) rfl ?_
  rintro ⟨l,a1⟩ ⟨q1,q2⟩
  simp only at q1 q2 ⊢
  have hB:=infosF_spec l (by have:=q1.2.2;omega) q1.key
  have hm:=infosM l
  generalize infosF l=w at hB hm
  obtain ⟨w,we⟩:=w
  simp only at hB hm
  refine ww ?_
  refine wwc hB ?_
  refine ww ?_
  exact rq ⟨(w,a1),⟨hm.w,fun _=>hm,q2⟩,rfl,rfl⟩ rfl (.refl _)
 have c7':¬ n=14:=by simpa using c7
 refine ww ?_
 refine qAa rfl (fun c8=>?_) (fun c8=>?_)
 ·have c8':n=15:=by simpa using c8
  refine ww ?_
  refine qAo (callX rfl rfl (qBr L hL a ha 1073741824 (by omega) (by omega)) [0] (by decide) rfl rfl rfl rfl (fun _=>rfl) (fun _=>rfl) (fun _=>rfl)) rfl ?_
  rintro ⟨m,a1⟩ ⟨q1,q2,q3⟩
  simp only at q1 q2 q3 ⊢
  have hP:=Point_spec m
  have hB:=ActiveR_spec (pointG m)
  have hm:=activeM (pointG m)
  generalize activeG (pointG m)=w at hB hm
  generalize pointG m=pt at hP hB
  obtain ⟨w,we⟩:=w
  simp only at hB hm
  refine ww ?_
  refine wwc hP ?_
  refine ww ?_
  refine wwc hB ?_
  refine ww ?_
  exact rq ⟨(w,a1),⟨hm.w,fun _=>hm,q3⟩,rfl,rfl⟩ rfl (.refl _)
 have c8':¬ n=15:=by simpa using c8
 refine ww ?_
 refine qAo (callX rfl rfl (hNd) [0] (by decide) rfl rfl rfl rfl (fun _=>rfl) (fun _=>rfl) (fun _=>rfl)) rfl ?_
 rintro ⟨l,a1⟩ ⟨q1,q2,q3⟩
 simp only at q1 q2 q3 ⊢
 have hsz:=(goodL_size 2 l q1).1
 have h13:szB 2=13:=rfl
 rw [h13] at hsz
 have hB:=WrapR_spec n (by omega) l (by omega) (goodL_fit 2 l q1) (by omega)
 have hm:FileW (wrapG n l).1:=.inr ⟨n,l,rfl⟩
 have hm2:n≤16→FileM (wrapG n l).1:=fun h=>wrapM h1 h
 generalize wrapG n l=w at hB hm hm2
 obtain ⟨w,we⟩:=w
 simp only at hB hm hm2
 refine ww ?_
 refine wwc hB ?_
 refine ww ?_
 exact rq ⟨(w,a1),⟨hm,hm2,q3⟩,rfl,rfl⟩ rfl (.refl _)
end Tdoc
/- DatagroupsWraps: the law is always true. -/
set_option linter.unusedVariables false
set_option linter.unusedSimpArgs false
namespace Tdoc
open Go Go.Proofs
theorem encodeP_length (l:List Node):(encodeP l).1.length≤4096:=by
 unfold encodeP
 split
 ·simp
 ·split
  ·simp
  ·split
   ·simp
   ·simp only;omega
theorem wrapG_length (n:Int) (l:List Node):(wrapG n l).1.length≤4096:=by
 unfold wrapG
 split
 ·simp
 ·exact encodeP_length _
theorem commonP_length (l:List Int):(commonP l).1.length≤4096:=by
 unfold commonP
 split
 ·simp
 ·exact wrapG_length _ _
end Tdoc
/- 'DatagroupsOpensMade': whatever the numbers, the law returns true. -/
set_option maxHeartbeats 8000000
set_option maxRecDepth 100000
set_option linter.unusedVariables false
set_option linter.unusedSimpArgs false
namespace Tdoc
open Go Go.Proofs
theorem datagroupsOpensMade_spec (t:List Int) (ht:t.length≤9223372036854775807):Spec Tryz.prog 6 [.d (.sl 1 (encI t))] [] (fun r h'=>r=.d (.bool true)∧h'=[]):=by
 have hli:=Light_spec t
 refine qAb hT Tryz.func6 rfl rfl rfl rfl ?_;intro E hE
 refine ww ?_
 refine wwc hli ?_
 refine ww ?_
 refine qAa rfl (fun h1=>?_) (fun h1=>?_)
 ·refine ww ?_
  refine wwc awake_spec ?_
  refine ww ?_
  exact wwr
 have h1':t.length≤400:=by simpa using h1
 have hR:=Roll_spec t (by omega)
 have hN:=qBr t (by omega) 0 (by omega) 18 (by omega) (by omega)
 refine wwe ?_
 refine qAq ?_
 refine qAm (qAj ?_)
 refine wws ?_
 refine AWk_opF (callS rfl rfl hR [0] (by decide) rfl rfl rfl rfl rfl rfl) rfl rfl ?_
 refine ww ?_
 refine qAo (callX rfl rfl (hN) [0] (by decide) rfl rfl rfl rfl (fun _=>rfl) (fun _=>rfl) (fun _=>rfl)) rfl ?_
 rintro ⟨n,a1⟩ ⟨q1,q2,q3⟩
 simp only at q1 q2 q3 ⊢
 have hwn:IntKind.i64.wrap (1+n)=1+n:=qAd (by omega)
 have hF:=DFile_spec t (by omega) a1 q3 (1+n) (by omega) (by omega)
 rw [← hwn] at hF
 refine ww ?_
 refine qAo (callX rfl rfl (hF) [0] (by decide) rfl rfl rfl rfl (fun _=>rfl) (fun _=>rfl) (fun _=>rfl)) rfl ?_
 rintro ⟨b,a2⟩ ⟨f0,f1,f2⟩
 simp only at f0 f1 f2 ⊢
 have hbl:=f0.short
 clear f1 hF hN q3
 refine wws ?_
 refine qAr (ι:=List UInt8×Nat) (fun x=>[(3,.ptr 0 0),(4,.d (.sl 1 (encB x.1)))]) (fun x=>[.row (diceR t x.2)]) (fun x=>x.1.length≤100000∧x.2≤t.length) ?_ ?_
 ·have hO:=One_spec t (by omega) a2 f2 6 (by omega) (by omega)
  refine ww ?_
  refine qAo (callX rfl rfl (hO) [0] (by decide) rfl rfl rfl rfl (fun _=>rfl) (fun _=>rfl) (fun _=>rfl)) rfl ?_
  rintro ⟨c,a3⟩ q4
  simp only at q4 ⊢
  refine ww ?_
  refine qAa rfl (fun c1=>?_) (fun c1=>?_)
  ·have hN1:=qBr t (by omega) a3 q4 8 (by omega) (by omega)
   refine ww ?_
   refine qAo (callX rfl rfl (hN1) [0] (by decide) rfl rfl rfl rfl (fun _=>rfl) (fun _=>rfl) (fun _=>rfl)) rfl ?_
   rintro ⟨v1,a4⟩ ⟨r1,r2,r3⟩
   simp only at r1 r2 r3 ⊢
   have hN2:=qBr t (by omega) a4 r3 8 (by omega) (by omega)
   refine ww ?_
   refine qAo (callX rfl rfl (hN2) [0] (by decide) rfl rfl rfl rfl (fun _=>rfl) (fun _=>rfl) (fun _=>rfl)) rfl ?_
   rintro ⟨v2,a5⟩ ⟨s1,s2,s3⟩
   simp only at s1 s2 s3 ⊢
   have hC:=CommonR_spec [IntKind.i64.wrap (1+v1),IntKind.i64.wrap (9+v2)] (by simp)
   have hcl:=commonP_length [IntKind.i64.wrap (1+v1),IntKind.i64.wrap (9+v2)]
   generalize hcm:commonP [IntKind.i64.wrap (1+v1),IntKind.i64.wrap (9+v2)]=cm at hC hcl
   obtain ⟨cb,ce⟩:=cm
   simp only at hC hcl
   refine ww ?_
   refine qAe (callS0L rfl rfl hC rfl (by exact ⟨AV.le.trans AV.le.dat (AV.le.eq rfl),trivial⟩) rfl rfl) rfl ?_
   refine ww ?_
   exact ⟨(cb,a5),⟨by simp only;omega,s3⟩,⟨.refl _,.refl _,trivial⟩,HLe.refl _⟩
  ·refine ww ?_
   exact ⟨(b,a3),⟨by simp only;omega,q4⟩,⟨.refl _,.refl _,trivial⟩,HLe.refl _⟩
 clear hbl f0 f2 b a2
 rintro ⟨b,a2⟩ ⟨hbl,f2⟩
 simp only at hbl f2 ⊢
 refine qAr (ι:=List UInt8×Nat) (fun x=>[(3,.ptr 0 0),(4,.d (.sl 1 (encB x.1)))]) (fun x=>[.row (diceR t x.2)]) (fun x=>x.1.length≤100000∧x.2≤t.length) ?_ ?_
 ·have hO:=One_spec t (by omega) a2 f2 2 (by omega) (by omega)
  refine ww ?_
  refine qAo (callX rfl rfl (hO) [0] (by decide) rfl rfl rfl rfl (fun _=>rfl) (fun _=>rfl) (fun _=>rfl)) rfl ?_
  rintro ⟨c,a3⟩ q4
  simp only at q4 ⊢
  refine ww ?_
  refine qAa rfl (fun c1=>?_) (fun c1=>?_)
  ·have hP:=ParseR_spec b true (by omega)
   by_cases he:(parseX b true).2=0
   case neg =>
    have hps:parseS b true=([],(parseX b true).2):=by unfold parseS;rw [if_pos he]
    rw [hps] at hP
    generalize (parseX b true).2=e at hP he
    refine ww ?_
    refine wwc hP ?_
    refine ww ?_
    refine qAa rfl (fun c2=>?_) (fun c2=>?_)
    ·refine ww ?_
     refine wwc awake_spec ?_
     refine ww ?_
     exact wwr
    ·exact absurd (by simpa using c2) he
   have hg:=qDj he
   have hps:parseS b true=((parseX b true).1,0):=by unfold parseS;rw [he,if_neg (by simp)]
   rw [hps] at hP
   have hL:=Loose_spec t (by omega) _ 1 (parseX b true).1 a3 (Nat.le_refl _) hg.2.1 (by omega) q4
   have hlw:wgtL (parseX b true).1≤45056:=by omega
   generalize (parseX b true).1=l at hP hL hlw
   simp only at hP
   refine ww ?_
   refine wwc hP ?_
   refine ww ?_
   refine qAa rfl (fun c2=>?_) (fun c2=>?_)
   ·exact absurd c2 (by simp)
   refine ww ?_
   refine qAo (callX rfl rfl (hL) [0] (by decide) rfl rfl rfl rfl (fun _=>rfl) (fun _=>rfl) (fun _=>rfl)) rfl ?_
   rintro ⟨c',a4⟩ ⟨d1,d2,d3⟩
   simp only at d1 d2 d3 ⊢
   refine ww ?_
   exact ⟨(c',a4),⟨by simp only;omega,d3⟩,⟨.refl _,.refl _,trivial⟩,HLe.refl _⟩
  ·refine ww ?_
   exact ⟨(b,a3),⟨by simp only;omega,q4⟩,⟨.refl _,.refl _,trivial⟩,HLe.refl _⟩
 clear hbl f2 b a2
 rintro ⟨b,a2⟩ ⟨hbl,f2⟩
 simp only at hbl f2 ⊢
 refine qAr (ι:=List UInt8×Nat) (fun x=>[(3,.ptr 0 0),(4,.d (.sl 1 (encB x.1)))]) (fun x=>[.row (diceR t x.2)]) (fun x=>x.1.length≤100001∧x.2≤t.length) ?_ ?_
 ·have hO:=One_spec t (by omega) a2 f2 2 (by omega) (by omega)
  refine ww ?_
  refine qAo (callX rfl rfl (hO) [0] (by decide) rfl rfl rfl rfl (fun _=>rfl) (fun _=>rfl) (fun _=>rfl)) rfl ?_
  rintro ⟨c,a3⟩ q4
  simp only at q4 ⊢
  refine ww ?_
  refine qAa rfl (fun c1=>?_) (fun c1=>?_)
  ·have hS:=Spoil_spec t (by omega) a3 q4 b (by omega)
   refine ww ?_
   refine qAo (callX rfl rfl (hS) [0] (by decide) rfl rfl rfl rfl (fun _=>rfl) (fun _=>rfl) (fun _=>rfl)) rfl ?_
   rintro ⟨c',a4⟩ ⟨d1,d2⟩
   simp only at d1 d2 ⊢
   refine ww ?_
   exact ⟨(c',a4),⟨by simp only;omega,d2⟩,⟨.refl _,.refl _,trivial⟩,HLe.refl _⟩
  ·refine ww ?_
   exact ⟨(b,a3),⟨by simp only;omega,q4⟩,⟨.refl _,.refl _,trivial⟩,HLe.refl _⟩
 clear hbl f2 b a2
 rintro ⟨b,a2⟩ ⟨hbl,f2⟩
 simp only at hbl f2 ⊢
 have ho:=opens_spec b (by omega)
 refine ww ?_
 refine wwc awake_spec ?_
 refine ww ?_
 refine wwgc ho ?_
 refine ww ?_
 exact rq ⟨rfl,rfl⟩ rfl (.bool (by simp))
end Tdoc
