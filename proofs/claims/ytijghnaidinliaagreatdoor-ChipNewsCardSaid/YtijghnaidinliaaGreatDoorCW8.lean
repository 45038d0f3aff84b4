/- Part 8 of the proof: the texts KO CC CD KP CB CA CE KT JK JL CF KV CG KU. -/
import Derived.Test.YtijghnaidinliaaGreatDoorCW7
set_option maxHeartbeats 8000000
set_option maxRecDepth 100000
set_option linter.unusedVariables false
set_option linter.unusedSimpArgs false
namespace Tdoc
open Go Go.Proofs
def PredFi (g:FuncId) (first cap:List AV) (H:List AObj) (p:Fil→Bool) (l:List Fil):Prop :=
 ∀ c,c∈l→Spec Tryz.prog g (first++([qQh c]++cap)) H (fun r h'=>r=.d (.bool (p c))∧h'=H)
theorem qHp {l:List Fil} {g:FuncId} {first cap:List AV} {H:List AObj} {p:Fil→Bool} (hp:PredFi g first cap H p l) (hH:qDl H.length H=true) (h1:qCk H.length first=true) (h2:qCk H.length cap=true) (hl:l.length≤1000000000) :
  Spec Tryz.prog 144 [.d (.sl 5 (qAc l)),.fn (.func g) first cap] H (fun r h'=>r=.I (qNx p l)∧h'=H):=by
 refine qAb hT Tryz.func144 rfl rfl rfl rfl ?_
 intro E hE
 have hlen:=encFils_length l
 refine ww ?_
 refine qAw (ι:=Nat) (fun k=>[(0,.d (.sl 5 (qAc l))),(1,.fn (.func g) first cap),(7,.d (.int .i64 (qAc l).length)),(8,.I k)]) (fun _=>H) (fun k=>k≤l.length∧∀ j,(hj:j < k)→(hj2:j < l.length)→p l[j]=false) (fun k=>l.length-k) 0
  ⟨by omega,fun j hj=>by omega⟩ yf (HLe.refl _) ?_
 intro k ⟨hk,hb⟩
 refine ww ?_
 refine qAa rfl (fun h1'=>?_) (fun h1'=>?_)
 ·have hlt:k < l.length:=by rw [hlen] at h1';simpa using h1'
  have hel:=encFils_at hlt
  have hpk:=hp l[k] (List.getElem_mem hlt)
  generalize hc:l[k]=c at hel hpk
  obtain ⟨c1,c2,c3,c4,c5⟩:=c
  unfold qCs at hel
  simp only at hel
  refine ww ?_
  refine qAe (qAd (indexAddr_ok hT rfl rfl rfl rfl (by omega) hel)) rfl ?_
  refine ww ?_
  refine qCv (qFo (Q:=fun r h'=>r=.d (.bool (p ⟨c1,c2,c3,c4,c5⟩))∧h'=H) rfl rfl (hpk.mono (fun r h' ⟨q1,q2⟩=>⟨⟨q1,q2⟩,by rw [q1];rfl,by rw [q2];exact hH⟩)) hH rfl ?_) rfl ?_
  ·have:∀ (a b:List AV),qCk H.length a=true→qCk H.length b=true→qCk H.length (a++b)=true:=by
    intro a
    induction a with
    | nil=>intro b _ hb;exact hb
    | cons x a ih=>intro b ha hb;simp only [qCk,Bool.and_eq_true,List.cons_append] at ha ⊢;exact ⟨ha.1,ih b ha.2 hb⟩
   exact this _ _ h1 (this [_] _ (by simp [qCk,low,qQh]) h2)
  rintro v h' ⟨rfl,rfl⟩
  refine ww ?_
  refine qAa rfl (fun h2'=>?_) (fun h2'=>?_)
  ·refine ww ?_
   refine qBf rfl (.refl _) (by simp) rfl rfl hH ⟨?_,rfl⟩
   show AV.d (.int .i64 (k:Int))=_
   rw [fIdx_at hlt (by rw [hc];exact h2') (fun j hj hj2=>hb j hj hj2)]
  ·refine ww ?_
   refine ⟨k+1,⟨by omega,fun j hj hj2=>?_⟩,by omega,⟨.refl _,.refl _,.refl _,AV.le.eq ?_,trivial⟩,HLe.refl _⟩
   ·by_cases hjk:j=k
    ·subst hjk;rw [hc];exact h2'
    ·exact hb j (by omega) hj2
   ·show AV.d (.int .i64 (IntKind.i64.wrap ((k:Int)+1)))=_
    rw [qAj (by omega)];rfl
 ·have hge:k=l.length:=by rw [hlen] at h1';simp at h1';omega
  refine ww ?_
  refine qBf rfl (.refl _) (by simp) rfl rfl hH ⟨?_,rfl⟩
  show AV.d (.int .i64 (-1))=_
  rw [fIdx_none (fun j hj=>hb j (by omega) hj)]
theorem qFx {l:List Fil} {g:FuncId} {first cap:List AV} {H:List AObj} {p:Fil→Bool} (hp:PredFi g first cap H p l) (hH:qDl H.length H=true) (h1:qCk H.length first=true) (h2:qCk H.length cap=true) (hl:l.length≤1000000000) :
  Spec Tryz.prog 117 [.d (.sl 5 (qAc l)),.fn (.func g) first cap] H (fun r h'=>r=.d (.bool (l.any p))∧h'=H):=by
 refine qAb hT Tryz.func117 rfl rfl rfl rfl ?_
 intro E hE
 have hs:=qHp hp hH h1 h2 hl
 refine ww ?_
 refine qCv (qFo (Q:=fun r h'=>r=.I (qNx p l)∧h'=H) rfl rfl (hs.mono (fun r h' ⟨q1,q2⟩=>⟨⟨q1,q2⟩,by rw [q1];rfl,by rw [q2];exact hH⟩)) hH rfl ?_) rfl ?_
 ·simp [qCk,low,h1,h2]
 rintro v h' ⟨rfl,rfl⟩
 refine ww ?_
 refine qBf rfl (.refl _) (by simp) rfl rfl hH ⟨?_,rfl⟩
 show AV.d (.bool (decide (qNx p l≥0)))=_
 rw [fIdx_any]
def PredAp (g:FuncId) (first cap:List AV) (H:List AObj) (p:Apk→Bool) (l:List Apk):Prop :=
 ∀ c,c∈l→Spec Tryz.prog g (first++([qQo c]++cap)) H (fun r h'=>r=.d (.bool (p c))∧h'=H)
theorem qHq {l:List Apk} {g:FuncId} {first cap:List AV} {H:List AObj} {p:Apk→Bool} (hp:PredAp g first cap H p l) (hH:qDl H.length H=true) (h1:qCk H.length first=true) (h2:qCk H.length cap=true) (hl:l.length≤1000000000) :
  Spec Tryz.prog 118 [.d (.sl 2 (qAf l)),.fn (.func g) first cap] H (fun r h'=>r=.I (qNx p l)∧h'=H):=by
 refine qAb hT Tryz.func118 rfl rfl rfl rfl ?_
 intro E hE
 have hlen:=encApks_length l
 refine ww ?_
 refine qAw (ι:=Nat) (fun k=>[(0,.d (.sl 2 (qAf l))),(1,.fn (.func g) first cap),(7,.d (.int .i64 (qAf l).length)),(8,.I k)]) (fun _=>H) (fun k=>k≤l.length∧∀ j,(hj:j < k)→(hj2:j < l.length)→p l[j]=false) (fun k=>l.length-k) 0
  ⟨by omega,fun j hj=>by omega⟩ yf (HLe.refl _) ?_
 intro k ⟨hk,hb⟩
 refine ww ?_
 refine qAa rfl (fun h1'=>?_) (fun h1'=>?_)
 ·have hlt:k < l.length:=by rw [hlen] at h1';simpa using h1'
  have hel:=encApks_at hlt
  have hpk:=hp l[k] (List.getElem_mem hlt)
  generalize hc:l[k]=c at hel hpk
  obtain ⟨c1,c2⟩:=c
  unfold qEx at hel
  simp only at hel
  refine ww ?_
  refine qAe (qAd (indexAddr_ok hT rfl rfl rfl rfl (by omega) hel)) rfl ?_
  refine ww ?_
  refine qCv (qFo (Q:=fun r h'=>r=.d (.bool (p ⟨c1,c2⟩))∧h'=H) rfl rfl (hpk.mono (fun r h' ⟨q1,q2⟩=>⟨⟨q1,q2⟩,by rw [q1];rfl,by rw [q2];exact hH⟩)) hH rfl ?_) rfl ?_
  ·have:∀ (a b:List AV),qCk H.length a=true→qCk H.length b=true→qCk H.length (a++b)=true:=by
    intro a
    induction a with
    | nil=>intro b _ hb;exact hb
    | cons x a ih=>intro b ha hb;simp only [qCk,Bool.and_eq_true,List.cons_append] at ha ⊢;exact ⟨ha.1,ih b ha.2 hb⟩
   exact this _ _ h1 (this [_] _ (by simp [qCk,low,qQo]) h2)
  rintro v h' ⟨rfl,rfl⟩
  refine ww ?_
  refine qAa rfl (fun h2'=>?_) (fun h2'=>?_)
  ·refine ww ?_
   refine qBf rfl (.refl _) (by simp) rfl rfl hH ⟨?_,rfl⟩
   show AV.d (.int .i64 (k:Int))=_
   rw [fIdx_at hlt (by rw [hc];exact h2') (fun j hj hj2=>hb j hj hj2)]
  ·refine ww ?_
   refine ⟨k+1,⟨by omega,fun j hj hj2=>?_⟩,by omega,⟨.refl _,.refl _,.refl _,AV.le.eq ?_,trivial⟩,HLe.refl _⟩
   ·by_cases hjk:j=k
    ·subst hjk;rw [hc];exact h2'
    ·exact hb j (by omega) hj2
   ·show AV.d (.int .i64 (IntKind.i64.wrap ((k:Int)+1)))=_
    rw [qAj (by omega)];rfl
 ·have hge:k=l.length:=by rw [hlen] at h1';simp at h1';omega
  refine ww ?_
  refine qBf rfl (.refl _) (by simp) rfl rfl hH ⟨?_,rfl⟩
  show AV.d (.int .i64 (-1))=_
  rw [fIdx_none (fun j hj=>hb j (by omega) hj)]
theorem qFy {l:List Apk} {g:FuncId} {first cap:List AV} {H:List AObj} {p:Apk→Bool} (hp:PredAp g first cap H p l) (hH:qDl H.length H=true) (h1:qCk H.length first=true) (h2:qCk H.length cap=true) (hl:l.length≤1000000000) :
  Spec Tryz.prog 86 [.d (.sl 2 (qAf l)),.fn (.func g) first cap] H (fun r h'=>r=.d (.bool (l.any p))∧h'=H):=by
 refine qAb hT Tryz.func86 rfl rfl rfl rfl ?_
 intro E hE
 have hs:=qHq hp hH h1 h2 hl
 refine ww ?_
 refine qCv (qFo (Q:=fun r h'=>r=.I (qNx p l)∧h'=H) rfl rfl (hs.mono (fun r h' ⟨q1,q2⟩=>⟨⟨q1,q2⟩,by rw [q1];rfl,by rw [q2];exact hH⟩)) hH rfl ?_) rfl ?_
 ·simp [qCk,low,h1,h2]
 rintro v h' ⟨rfl,rfl⟩
 refine ww ?_
 refine qBf rfl (.refl _) (by simp) rfl rfl hH ⟨?_,rfl⟩
 show AV.d (.bool (decide (qNx p l≥0)))=_
 rw [fIdx_any]
def qHw (f:Fil):List AV:=[.d (.int .i64 f.id),.d (.int .i64 f.sho),.d (.sl 1 (qAg f.con)),.d (.int .i64 f.lev),.d (.int .i64 f.rgt)]
def qIa (a:Apk):List AV:=[.d (.sl 1 (qAg a.name)),.d (.sl 5 (qAc a.files))]
theorem qPs (f g:Fil):Spec Tryz.prog 116 ([]++([qQh g]++[.ptr 0 0])) [.row (qHw f)] (fun r h'=>r=.d (.bool (qDy f g))∧h'=[.row (qHw f)]):=by
 obtain ⟨f1,f2,f3,f4,f5⟩:=f
 obtain ⟨g1,g2,g3,g4,g5⟩:=g
 unfold qQh qHw qDy
 simp only
 refine qAb hT Tryz.func116 rfl rfl rfl rfl ?_;intro E hE
 refine qAi ?_
 refine wwe ?_
 refine qAl (qAh ?_)
 refine qAe (boxAt_ok (i0:=1) rfl rfl rfl) rfl ?_
 refine ww ?_
 exact qBf rfl (.refl _) rfl rfl rfl rfl ⟨rfl,rfl⟩
theorem sameName_spec (a b:Apk):Spec Tryz.prog 87 ([]++([qQo b]++[.ptr 0 0])) [.row (qIa a)] (fun r h'=>r=.d (.bool (a.name == b.name))∧h'=[.row (qIa a)]):=by
 have hq:=qOh a.name b.name
 generalize (a.name == b.name)=q at hq ⊢
 obtain ⟨a1,a2⟩:=a
 obtain ⟨b1,b2⟩:=b
 unfold qQo qIa
 simp only at hq ⊢
 refine qAb hT Tryz.func87 rfl rfl rfl rfl ?_;intro E hE
 refine qAi ?_
 refine wwe ?_
 refine qAl (qAh ?_)
 refine qAe (boxAt_ok (i0:=1) rfl rfl rfl) rfl ?_
 refine ww ?_
 refine wwc hq ?_
 refine ww ?_
 exact qBf rfl (.refl _) rfl rfl rfl rfl ⟨rfl,rfl⟩
theorem chkFil_spec (l:List Fil) (hl:l.length≤9223372036854775807):Spec Tryz.prog 85 [.d (.sl 5 (qAc l))] [] (fun r h'=>r=.I (qEz l)∧h'=[]):=by
 have hll:=encFils_length l
 unfold qEz
 by_cases h1:l.length > 24
 case pos =>
  rw [if_pos h1]
  refine qAb hT Tryz.func85 rfl rfl rfl rfl ?_;intro E hE
  refine ww ?_
  refine qAa rfl (fun c1=>?_) (fun c1=>?_)
  ·refine ww ?_
   exact wwr
  ·exfalso
   rw [hll] at c1
   simp at c1
   omega
 rw [if_neg h1]
 generalize hfin:qJm [] l=fin
 refine qAb hT Tryz.func85 rfl rfl rfl rfl ?_;intro E hE
 refine ww ?_
 refine qAa rfl (fun c1=>?_) (fun c1=>?_)
 ·exfalso
  rw [hll] at c1
  simp at c1
  omega
 refine ww ?_
 refine qBq (ι:=Nat) (fun i=>[(0,.d (.sl 5 (qAc l))),(10,.d (.sl 5 (qAc l))),(11,.I ((qAc l).length:Int)),(12,.I (i:Int))]) (fun _=>[])
  (fun i=>i≤l.length∧qJm (l.take i) (l.drop i)=fin) (fun i=>l.length-i) 0 ⟨by omega,by simpa using hfin⟩ yf (HLe.refl _) ?_
 rintro i ⟨hi,hg⟩
 have hwr:IntKind.i64.wrap ((i:Int)+1)=((i+1:Nat):Int):=by rw [qAj (by omega)];simp
 refine ww ?_
 refine qAa rfl (fun c2=>?_) (fun c2=>?_)
 ·have c2':i < l.length:=by rw [hll] at c2;simpa using c2
  have hel:=encFils_at c2'
  have hdr:l.drop i=l[i]::l.drop (i+1):=List.drop_eq_getElem_cons c2'
  have htk:l.take (i+1)=l.take i++[l[i]]:=List.take_succ_eq_append_getElem c2'
  have hcf:=qFx (p:=qDy l[i]) (l:=l.take i) (fun y hy=>qPs l[i] y) rfl rfl rfl (by rw [List.length_take];omega)
  rw [hdr,qJm] at hg
  have hcl:(qAc l).take ((i:Int)).toNat=qAc (l.take i):=by
   rw [Int.toNat_natCast]
   simp [qAc,List.map_take]
  generalize (l.take i).any (qDy l[i])=b2 at hcf hg
  generalize l[i]=x at hel hg htk hcf
  obtain ⟨x1,x2,x3,x4,x5⟩:=x
  have hxl:=encB_length x3
  unfold qCs at hel
  unfold qHw at hcf
  simp only at hel hg hcf
  refine ww ?_
  refine wwi hel ?_
  refine wws ?_
  refine qAl (qAh ?_)
  refine wws ?_
  refine qEj (ι:=Unit) (fun _=>[(0,.d (.sl 5 (qAc l))),(3,.I (i:Int)),(4,.ptr 0 0),(5,.I (if x4=3 then 15 else 0)),(10,.d (.sl 5 (qAc l))),(11,.I ((qAc l).length:Int)),(12,.I (i:Int))])
   (fun _=>[.row [.I x1,.I x2,.d (.sl 1 (qAg x3)),.I x4,.I x5]]) (fun _=>True) ?_ ?_
  ·refine ww ?_
   refine qAa rfl (fun c3=>?_) (fun c3=>?_)
   ·refine ww ?_
    exact ⟨(),trivial,⟨.refl _,.refl _,.refl _,.int (by rw [if_pos (by simpa using c3)]),.refl _,.refl _,.refl _,trivial⟩,HLe.refl _⟩
   ·refine ww ?_
    exact ⟨(),trivial,⟨.refl _,.refl _,.refl _,.int (by rw [if_neg (by simpa using c3)]),.refl _,.refl _,.refl _,trivial⟩,HLe.refl _⟩
  rintro ⟨⟩ -
  generalize (if x4=3 then (15:Int) else 0)=R at hg ⊢
  refine ww ?_
  refine qAa rfl (fun c3=>?_) (fun c3=>?_)
  ·refine ww ?_
   refine qAa rfl (fun c4=>?_) (fun c4=>?_)
   ·rw [if_pos (by simp at c3;omega)] at hg
    subst hg
    refine ww ?_
    exact wwr
   ·rw [c3] at c4;cases c4
  refine ww ?_
  refine qAa rfl (fun c4=>?_) (fun c4=>?_)
  ·rw [if_pos (by simp at c4;omega)] at hg
   subst hg
   refine ww ?_
   exact wwr
  rw [if_neg (by simp at c3 c4;omega)] at hg
  refine ww ?_
  refine qAa rfl (fun c5=>?_) (fun c5=>?_)
  ·refine ww ?_
   refine qAa rfl (fun c6=>?_) (fun c6=>?_)
   ·rw [if_pos (by simp at c5;omega)] at hg
    subst hg
    refine ww ?_
    exact wwr
   ·rw [c5] at c6;cases c6
  refine ww ?_
  refine qAa rfl (fun c6=>?_) (fun c6=>?_)
  ·rw [if_pos (by simp at c6;omega)] at hg
   subst hg
   refine ww ?_
   exact wwr
  rw [if_neg (by simp at c5 c6;omega)] at hg
  refine ww ?_
  refine qAa rfl (fun c7=>?_) (fun c7=>?_)
  ·rw [hxl] at c7
   rw [if_pos (by simp at c7;omega)] at hg
   subst hg
   refine ww ?_
   exact wwr
  rw [hxl] at c7
  rw [if_neg (by simp at c7;omega)] at hg
  refine ww ?_
  rw [hcl]
  refine qAe (qAr rfl rfl (hcf) [0] (by decide) rfl rfl rfl rfl rfl rfl rfl) rfl ?_
  refine ww ?_
  refine qAa rfl (fun c8=>?_) (fun c8=>?_)
  ·rw [if_pos c8] at hg
   subst hg
   refine ww ?_
   exact wwr
  rw [if_neg (by rw [c8];simp)] at hg
  refine ww ?_
  exact ⟨i+1,[_],⟨c2',by rw [htk];exact hg⟩,by omega,⟨.refl _,.refl _,.refl _,.int hwr,trivial⟩,HLe.refl _,Env.below_mono hE (by simp),rfl,rfl⟩
 ·have c2':i=l.length:=by rw [hll] at c2;simp at c2;omega
  subst c2'
  rw [List.drop_length,qJm] at hg
  subst hg
  refine ww ?_
  exact wwr
theorem validFs_spec (root:List Fil) (apps:List Apk) (hl:root.length≤9223372036854775807) (ha:apps.length≤9223372036854775807) (hf:∀ a,a∈apps→a.files.length≤9223372036854775807):Spec Tryz.prog 46 [.agg [.d (.sl 5 (qAc root)),.d (.sl 2 (qAf apps))]] [] (fun r h'=>r=.I (qEl root apps)∧h'=[]):=by
 have hll:=encApks_length apps
 have hck:=chkFil_spec root hl
 unfold qEl
 generalize hfin:qJn [] apps=fin
 refine qAb hT Tryz.func46 rfl rfl rfl rfl ?_;intro E hE
 refine ww ?_
 refine qAa rfl (fun c1=>?_) (fun c1=>?_)
 ·rw [hll] at c1
  rw [if_pos (by simp at c1;omega)]
  refine ww ?_
  exact wwr
 rw [hll] at c1
 rw [if_neg (by simp at c1;omega)]
 have hsm:apps.length≤4:=by simp at c1;omega
 generalize qEz root=e at hck ⊢
 refine ww ?_
 refine wwc hck ?_
 refine ww ?_
 refine qAa rfl (fun c2=>?_) (fun c2=>?_)
 ·rw [if_pos (by simpa using c2)]
  refine ww ?_
  exact wwr
 rw [if_neg (by simpa using c2)]
 refine ww ?_
 refine qBq (ι:=Nat) (fun i=>[(1,.ptr 0 0),(18,.d (.sl 2 (qAf apps))),(19,.I ((qAf apps).length:Int)),(20,.I (i:Int))]) (fun _=>[.row [.d (.sl 5 (qAc root)),.d (.sl 2 (qAf apps))]])
  (fun i=>i≤apps.length∧qJn (apps.take i) (apps.drop i)=fin) (fun i=>apps.length-i) 0 ⟨by omega,by simpa using hfin⟩ yf (HLe.refl _) ?_
 rintro i ⟨hi,hg⟩
 have hwr:IntKind.i64.wrap ((i:Int)+1)=((i+1:Nat):Int):=by rw [qAj (by omega)];simp
 refine ww ?_
 refine qAa rfl (fun c3=>?_) (fun c3=>?_)
 ·have c3':i < apps.length:=by rw [hll] at c3;simpa using c3
  have hel:=encApks_at c3'
  have hdr:apps.drop i=apps[i]::apps.drop (i+1):=List.drop_eq_getElem_cons c3'
  have htk:apps.take (i+1)=apps.take i++[apps[i]]:=List.take_succ_eq_append_getElem c3'
  have hcf:=qFy (p:=fun b=>apps[i].name == b.name) (l:=apps.take i) (fun y hy=>sameName_spec apps[i] y) rfl rfl rfl (by rw [List.length_take];omega)
  have hcs:=chkFil_spec apps[i].files (hf _ (List.getElem_mem c3'))
  rw [hdr,qJn] at hg
  have hcl:(qAf apps).take ((i:Int)).toNat=qAf (apps.take i):=by
   rw [Int.toNat_natCast]
   simp [qAf,List.map_take]
  generalize ((apps.take i).any fun b=>apps[i].name == b.name)=b2 at hcf hg
  generalize apps[i]=x at hel hg htk hcf hcs
  obtain ⟨x1,x2⟩:=x
  have hxl:=encB_length x1
  unfold qEx at hel
  unfold qIa at hcf
  simp only at hel hg hcf hcs
  generalize qEz x2=ex at hcs hg
  refine ww ?_
  refine wwi hel ?_
  refine ww ?_
  refine qAa rfl (fun c4=>?_) (fun c4=>?_)
  ·rw [hxl] at c4
   rw [if_pos (by simp at c4;omega)] at hg
   subst hg
   refine ww ?_
   exact wwr
  rw [hxl] at c4
  rw [if_neg (by simp at c4;omega)] at hg
  refine ww ?_
  rw [hcl]
  refine ww ?_
  refine qAe (qAr rfl rfl (hcf) [1] (by decide) rfl rfl rfl rfl rfl rfl rfl) rfl ?_
  refine ww ?_
  refine qAa rfl (fun c5=>?_) (fun c5=>?_)
  ·rw [if_pos c5] at hg
   subst hg
   refine ww ?_
   exact wwr
  rw [if_neg (by rw [c5];simp)] at hg
  refine ww ?_
  refine wwc hcs ?_
  refine ww ?_
  refine qAa rfl (fun c6=>?_) (fun c6=>?_)
  ·rw [if_pos (by simpa using c6)] at hg
   subst hg
   refine ww ?_
   exact wwr
  rw [if_neg (by simpa using c6)] at hg
  refine ww ?_
  exact ⟨i+1,[_],⟨c3',by rw [htk];exact hg⟩,by omega,⟨.refl _,.refl _,.refl _,.int hwr,trivial⟩,HLe.refl _,Env.below_mono hE (by simp),rfl,rfl⟩
 ·have c3':i=apps.length:=by rw [hll] at c3;simp at c3;omega
  subst c3'
  rw [List.drop_length,qJn] at hg
  subst hg
  refine ww ?_
  exact wwr
theorem qGj {α:Type} {l:List α} {p:α→Bool} {k:Nat} (h:k < l.length) (h0:(l.take k).any p=false):(l.take (k+1)).any p=p l[k]:=by
 rw [List.take_succ_eq_append_getElem h,List.any_append,h0,Bool.false_or]
 simp
theorem qGi {α:Type} {l:List α} {p:α→Bool} {k i:Nat} (h:k < l.length) (hk:k < i) (hp:p l[k]=true):(l.take i).any p=true:=by
 rw [List.any_eq_true]
 exact ⟨l[k],List.mem_take_iff_getElem.2 ⟨k,by omega,rfl⟩,hp⟩
theorem qIo (l:List Fil) (hl:l.length≤9223372036854775807):Spec Tryz.prog 60 [.d (.sl 5 (qAc l))] [] (fun r h'=>r=.I (qEz l)∧h'=[]):=by
 have hll:=encFils_length l
 unfold qEz
 by_cases h1:l.length > 24
 case pos =>
  rw [if_pos h1]
  refine qAb hT Tryz.func60 rfl rfl rfl rfl ?_;intro E hE
  refine ww ?_
  refine qAa rfl (fun c1=>?_) (fun c1=>?_)
  ·refine ww ?_
   exact wwr
  ·exfalso
   rw [hll] at c1
   simp at c1
   omega
 rw [if_neg h1]
 generalize hfin:qJm [] l=fin
 refine qAb hT Tryz.func60 rfl rfl rfl rfl ?_;intro E hE
 refine ww ?_
 refine qAa rfl (fun c1=>?_) (fun c1=>?_)
 ·exfalso
  rw [hll] at c1
  simp at c1
  omega
 refine ww ?_
 refine qBq (ι:=Nat) (fun i=>[(0,.d (.sl 5 (qAc l))),(3,.I (i:Int))]) (fun _=>[])
  (fun i=>i≤l.length∧qJm (l.take i) (l.drop i)=fin) (fun i=>l.length-i) 0 ⟨by omega,by simpa using hfin⟩ yf (HLe.refl _) ?_
 rintro i ⟨hi,hg⟩
 have hwr:IntKind.i64.wrap ((i:Int)+1)=((i+1:Nat):Int):=by rw [qAj (by omega)];simp
 refine ww ?_
 refine qAa rfl (fun c2=>?_) (fun c2=>?_)
 ·have c2':i < l.length:=by rw [hll] at c2;simpa using c2
  have hel:=encFils_at c2'
  have hdr:l.drop i=l[i]::l.drop (i+1):=List.drop_eq_getElem_cons c2'
  have htk:l.take (i+1)=l.take i++[l[i]]:=List.take_succ_eq_append_getElem c2'
  rw [hdr,qJm] at hg
  generalize l[i]=x at hel hg htk
  obtain ⟨x1,x2,x3,x4,x5⟩:=x
  have hxl:=encB_length x3
  unfold qCs at hel
  simp only at hel hg
  refine ww ?_
  refine wwi hel ?_
  refine ww ?_
  refine qAa rfl (fun c3=>?_) (fun c3=>?_)
  ·have hg:3=fin:=by
    split at hg
    ·exact hg
    ·rw [if_pos (by simp at c3;split <;> omega)] at hg;exact hg
   subst hg
   refine ww ?_
   exact wwr
  rw [if_neg (by simp at c3;omega),if_neg (by simp at c3;split <;> omega)] at hg
  refine ww ?_
  refine qAa rfl (fun c7=>?_) (fun c7=>?_)
  ·rw [hxl] at c7
   rw [if_pos (by simp at c7;omega)] at hg
   subst hg
   refine ww ?_
   exact wwr
  rw [hxl] at c7
  rw [if_neg (by simp at c7;omega)] at hg
  refine ww ?_
  refine qBq (ι:=Nat) (fun k=>[(0,.d (.sl 5 (qAc l))),(3,.I (i:Int)),(4,.ptr 0 0),(6,.I (k:Int))]) (fun _=>[.row [.I x1,.I x2,.d (.sl 1 (qAg x3)),.I x4,.I x5],.row [.I x4,.I x5]])
   (fun k=>k≤i∧(l.take k).any (qDy ⟨x1,x2,x3,x4,x5⟩)=false) (fun k=>i-k) 0 ⟨by omega,rfl⟩ yf (HLe.refl _) ?_
  rintro k ⟨hk,hkn⟩
  have hwk:IntKind.i64.wrap ((k:Int)+1)=((k+1:Nat):Int):=by rw [qAj (by omega)];simp
  refine ww ?_
  refine qAa rfl (fun c8=>?_) (fun c8=>?_)
  ·have c8':k < i:=by simpa using c8
   have hek:=encFils_at (l:=l) (i:=k) (by omega)
   have hsn:=qGj (l:=l) (p:=qDy ⟨x1,x2,x3,x4,x5⟩) (k:=k) (by omega) hkn
   have hst:=qGi (l:=l) (p:=qDy ⟨x1,x2,x3,x4,x5⟩) (k:=k) (i:=i) (by omega) c8'
   generalize l[k]=y at hek hsn hst
   obtain ⟨y1,y2,y3,y4,y5⟩:=y
   unfold qCs at hek
   simp only at hek
   refine ww ?_
   refine wwi hek ?_
   refine ww ?_
   refine wwgi hek ?_
   refine ww ?_
   refine qAa rfl (fun c9=>?_) (fun c9=>?_)
   ·rw [if_pos (hst (by unfold qDy;simp at c9 ⊢;rcases c9 with h | ⟨h,h2⟩ <;> simp [*]))] at hg
    subst hg
    refine ww ?_
    exact wwr
   ·refine ww ?_
    refine ⟨k+1,[],⟨c8',?_⟩,by omega,⟨.refl _,.refl _,.refl _,.int hwk,trivial⟩,HLe.refl _,Env.below_mono hE (by simp),rfl,rfl⟩
    refine hsn.trans ?_
    unfold qDy
    simp at c9 ⊢
    refine ⟨c9.1,fun h=>?_⟩
    by_cases h0:x2=0
    ·exact h0
    ·exact absurd h (c9.2 h0)
  ·have hki:k=i:=by simp at c8;omega
   subst hki
   rw [if_neg (by rw [hkn];simp)] at hg
   refine ww ?_
   exact ⟨k+1,[_,_],⟨c2',by rw [htk];exact hg⟩,by omega,⟨.refl _,.int hwr,trivial⟩,HLe.refl _,Env.below_mono hE (by simp),rfl,rfl⟩
 ·have c2':i=l.length:=by rw [hll] at c2;simp at c2;omega
  subst c2'
  rw [List.drop_length,qJm] at hg
  subst hg
  refine ww ?_
  exact wwr
theorem qGy (root:List Fil) (apps:List Apk) (hl:root.length≤9223372036854775807) (ha:apps.length≤9223372036854775807) (hf:∀ a,a∈apps→a.files.length≤9223372036854775807):Spec Tryz.prog 28 [.agg [.d (.sl 5 (qAc root)),.d (.sl 2 (qAf apps))]] [] (fun r h'=>r=.I (qEl root apps)∧h'=[]):=by
 have hll:=encApks_length apps
 have hck:=qIo root hl
 unfold qEl
 generalize hfin:qJn [] apps=fin
 generalize qEz root=e0 at hck
 refine qAb hT Tryz.func28 rfl rfl rfl rfl ?_;intro E hE
 refine ww ?_
 refine qAa rfl (fun c1=>?_) (fun c1=>?_)
 ·rw [if_pos (by rw [hll] at c1;simp at c1;omega)]
  refine ww ?_
  exact wwr
 rw [if_neg (by rw [hll] at c1;simp at c1;omega)]
 have hl4:apps.length≤4:=by rw [hll] at c1;simp at c1;omega
 refine ww ?_
 refine wwc hck ?_
 refine ww ?_
 refine qAa rfl (fun c2=>?_) (fun c2=>?_)
 ·rw [if_pos (by simpa using c2)]
  refine ww ?_
  exact wwr
 rw [if_neg (by simpa using c2)]
 refine ww ?_
 refine qBq (ι:=Nat) (fun i=>[(1,.ptr 0 0),(4,.I (i:Int))]) (fun _=>[.row [.d (.sl 5 (qAc root)),.d (.sl 2 (qAf apps))]])
  (fun i=>i≤apps.length∧qJn (apps.take i) (apps.drop i)=fin∧∀ b,b∈apps.take i→b.name.length≤16) (fun i=>apps.length-i) 0 ⟨by omega,by simpa using hfin,by simp⟩ yf (HLe.refl _) ?_
 rintro i ⟨hi,hg,hn⟩
 have hwr:IntKind.i64.wrap ((i:Int)+1)=((i+1:Nat):Int):=by rw [qAj (by omega)];simp
 refine ww ?_
 refine qAa rfl (fun c3=>?_) (fun c3=>?_)
 ·have c3':i < apps.length:=by rw [hll] at c3;simpa using c3
  have hel:=encApks_at c3'
  have hdr:apps.drop i=apps[i]::apps.drop (i+1):=List.drop_eq_getElem_cons c3'
  have htk:apps.take (i+1)=apps.take i++[apps[i]]:=List.take_succ_eq_append_getElem c3'
  have hlk:=qIo apps[i].files (hf _ (List.getElem_mem c3'))
  rw [hdr,qJn] at hg
  generalize apps[i]=x at hel hg htk hlk
  obtain ⟨x1,x2⟩:=x
  have hxl:=encB_length x1
  unfold qEx at hel
  simp only at hel hg hlk
  refine ww ?_
  refine wwi hel ?_
  refine ww ?_
  refine qAa rfl (fun c4=>?_) (fun c4=>?_)
  ·rw [hxl] at c4
   rw [if_pos (by simp at c4;omega)] at hg
   subst hg
   refine ww ?_
   exact wwr
  have hx16:1≤x1.length∧x1.length≤16:=by rw [hxl] at c4;simp at c4;omega
  rw [if_neg (by omega)] at hg
  refine ww ?_
  refine qBq (ι:=Nat) (fun k=>[(1,.ptr 0 0),(4,.I (i:Int)),(5,.d (.sl 1 (qAg x1))),(6,.I (k:Int))]) (fun _=>[.row [.d (.sl 5 (qAc root)),.d (.sl 2 (qAf apps))]])
   (fun k=>k≤i∧(apps.take k).any (fun b=>x1 == b.name)=false) (fun k=>i-k) 0 ⟨by omega,rfl⟩ yf (HLe.refl _) ?_
  rintro k ⟨hk,hkn⟩
  have hwk:IntKind.i64.wrap ((k:Int)+1)=((k+1:Nat):Int):=by rw [qAj (by omega)];simp
  refine ww ?_
  refine qAa rfl (fun c5=>?_) (fun c5=>?_)
  ·have c5':k < i:=by simpa using c5
   have hek:=encApks_at (l:=apps) (i:=k) (by omega)
   have hsn:=qGj (l:=apps) (p:=fun b=>x1 == b.name) (k:=k) (by omega) hkn
   have hst:=qGi (l:=apps) (p:=fun b=>x1 == b.name) (k:=k) (i:=i) (by omega) c5'
   have hny:apps[k].name.length≤16:=hn _ (List.mem_take_iff_getElem.2 ⟨k,by omega,rfl⟩)
   generalize apps[k]=y at hek hsn hst hny
   obtain ⟨y1,y2⟩:=y
   unfold qEx at hek
   simp only at hek hny hsn hst
   have hsm:=qQq y1 x1 (by omega) (by omega)
   refine ww ?_
   refine wwi hek ?_
   refine ww ?_
   refine wwc hsm ?_
   refine ww ?_
   refine qAa rfl (fun c6=>?_) (fun c6=>?_)
   ·have c6':y1=x1:=by simpa using c6
    rw [if_pos (hst (by rw [c6'];simp))] at hg
    subst hg
    refine ww ?_
    exact wwr
   ·have c6':¬ y1=x1:=by simpa using c6
    refine ww ?_
    exact ⟨k+1,[],⟨c5',by rw [hsn];simpa using fun h=>c6' h.symm⟩,by omega,⟨.refl _,.refl _,.refl _,.int hwk,trivial⟩,HLe.refl _,Env.below_mono hE (by simp),rfl,rfl⟩
  ·have hki:k=i:=by simp at c5;omega
   subst hki
   rw [if_neg (by rw [hkn];simp)] at hg
   refine wwe ?_
   refine ww ?_
   refine wwi hel ?_
   refine ww ?_
   refine wwc hlk ?_
   refine ww ?_
   generalize qEz x2=e2 at hg
   refine qAa rfl (fun c7=>?_) (fun c7=>?_)
   ·rw [if_pos (by simpa using c7)] at hg
    subst hg
    refine ww ?_
    exact wwr
   rw [if_neg (by simpa using c7)] at hg
   refine ww ?_
   refine ⟨k+1,[],⟨c3',by rw [htk];exact hg,fun b hb=>?_⟩,by omega,⟨.refl _,.int hwr,trivial⟩,HLe.refl _,Env.below_mono hE (by simp),rfl,rfl⟩
   rw [htk] at hb
   rcases List.mem_append.1 hb with h | h
   ·exact hn b h
   ·rw [List.mem_singleton.1 h];exact hx16.2
 ·have c3':i=apps.length:=by rw [hll] at c3;simp at c3;omega
  subst c3'
  rw [List.drop_length,qJn] at hg
  subst hg
  refine ww ?_
  exact wwr
theorem tDays_spec (a b:Int):Spec Tryz.prog 124 [.I a,.I b] [] (fun r h'=>r=.d (.bool (decide (0≤a)&&decide (a≤b)&&decide (b≤73048)))∧h'=[]):=by
 refine qAb hT Tryz.func124 rfl rfl rfl rfl ?_;intro E hE
 refine ww ?_
 exact wwr
theorem bI_getD (s:List UInt8) (i:Nat):qPp s (i:Int)=bI (s.getD i 0):=strAt_nat s i
theorem qMp {s:List UInt8} {i:Nat} (h:i < s.length) (hn:qDo (s.getD i 0)=false):s.all qDo=false:=by
 rw [Bool.eq_false_iff]
 intro ha
 rw [List.all_eq_true] at ha
 have:=ha (s.getD i 0) (by rw [List.getD_eq_getElem?_getD,List.getElem?_eq_getElem h];exact List.getElem_mem h)
 rw [hn] at this
 cases this
theorem qMo {s:List UInt8} (h:∀ j,j < s.length→qDo (s.getD j 0)=true):s.all qDo=true:=by
 rw [List.all_eq_true]
 intro c hc
 obtain ⟨j,hj,rfl⟩:=List.getElem_of_mem hc
 have:=h j hj
 rwa [List.getD_eq_getElem?_getD,List.getElem?_eq_getElem hj] at this
theorem tName_spec (s:List UInt8) (hs:s.length≤9223372036854775807):Spec Tryz.prog 123 [.d (.str s)] [] (fun r h'=>r=.d (.bool (qCn s))∧h'=[]):=by
 have h0:=bI_getD s 0
 have hr0:0≤bI (s.getD 0 0)∧bI (s.getD 0 0) < 256:=by have:=(s.getD 0 0).toNat_lt;unfold bI;omega
 refine qAb hT Tryz.func123 rfl rfl rfl rfl ?_;intro E hE
 refine ww ?_
 refine qAa rfl (fun c1=>?_) (fun c1=>?_)
 ·rw [show qCn s=false by
   unfold qCn
   rw [show ((0:Nat):Int)=0 from rfl] at h0
   simp only [h0,Bool.or_eq_true,decide_eq_true_eq] at c1
   rw [Bool.and_eq_false_iff,Bool.and_eq_false_iff]
   unfold qUr
   simp only [decide_eq_false_iff_not]
   by_cases hq:1≤s.length∧s.length≤16
   ·exact .inl (.inr (by omega))
   ·exact .inl (.inl hq)]
  refine ww ?_
  exact wwr
 have c1':(1≤s.length∧s.length≤16)∧qUr (s.getD 0 0)=true:=by
  rw [show ((0:Nat):Int)=0 from rfl] at h0
  simp only [h0,Bool.or_eq_false_iff,decide_eq_false_iff_not] at c1
  unfold qUr
  simp only [decide_eq_true_eq]
  omega
 rw [show qCn s=s.all qDo by unfold qCn;rw [decide_eq_true c1'.1,c1'.2];rfl]
 generalize hfin:s.all qDo=fin
 refine ww ?_
 refine qAw (ι:=Nat) (fun i=>[(0,.d (.str s)),(23,.I (s.length:Int)),(24,.I (i:Int))]) (fun _=>[]) (fun i=>i≤s.length∧∀ j,j < i→qDo (s.getD j 0)=true) (fun i=>s.length-i) 0 ⟨Nat.zero_le _,fun j hj=>by omega⟩
  yf (HLe.refl _) ?_
 intro i ⟨hi,hall⟩
 have hb:=bI_getD s i
 refine ww ?_
 refine qAa rfl (fun c2=>?_) (fun c2=>?_)
 ·have c2':i < s.length:=by simp at c2;omega
  refine ww ?_
  rw [hb]
  refine ww ?_
  refine qAa rfl (fun c3=>?_) (fun c3=>?_)
  ·rw [qMp c2' (by
    unfold qDo
    simp only [Bool.and_eq_true,Bool.or_eq_true,decide_eq_true_eq] at c3
    rw [decide_eq_false_iff_not]
    omega)] at hfin
   subst hfin
   refine ww ?_
   exact wwr
  refine ww ?_
  refine ⟨i+1,⟨c2',fun j hj=>?_⟩,by omega,⟨.refl _,.refl _,.int (by rw [qAj (by omega)];omega),trivial⟩,HLe.refl _⟩
  by_cases hji:j=i
  ·subst hji
   unfold qDo
   simp only [Bool.and_eq_false_iff,Bool.or_eq_false_iff,decide_eq_false_iff_not] at c3
   rw [decide_eq_true_eq]
   omega
  ·exact hall j (by omega)
 have c2':i=s.length:=by simp at c2;omega
 subst c2'
 rw [qMo hall] at hfin
 subst hfin
 refine ww ?_
 exact wwr
theorem qPv (p:Tp) (hs:p.holder.length≤9223372036854775807):Spec Tryz.prog 92 [qXo p] [] (fun r h'=>r=.I (qCj p)∧h'=[]):=by
 have h1:=tName_spec p.holder hs
 have h2:=qDv p.key
 have h3:=tDays_spec p.frm p.til
 unfold qCj
 generalize qCn p.holder=a at h1 ⊢
 generalize qCz p.key=b at h2 ⊢
 obtain ⟨ho,key,ri,fr,ti⟩:=p
 simp only at *
 refine qAb hT Tryz.func92 rfl rfl rfl rfl ?_;intro E hE
 refine ww ?_
 refine wwc h1 ?_
 refine ww ?_
 refine qAa rfl (fun c1=>?_) (fun c1=>?_)
 ·rw [if_pos (by simpa using c1)]
  refine ww ?_
  exact wwr
 rw [if_neg (by simpa using c1)]
 refine ww ?_
 refine wwc h2 ?_
 refine ww ?_
 refine qAa rfl (fun c2=>?_) (fun c2=>?_)
 ·rw [if_pos (by simpa using c2)]
  refine ww ?_
  exact wwr
 rw [if_neg (by simpa using c2)]
 refine ww ?_
 refine qAa rfl (fun c3=>?_) (fun c3=>?_)
 ·rw [if_pos (by simpa using c3)]
  refine ww ?_
  exact wwr
 rw [if_neg (by simpa using c3)]
 refine ww ?_
 refine wwc h3 ?_
 refine ww ?_
 refine qAa rfl (fun c4=>?_) (fun c4=>?_)
 ·rw [if_pos (by simp at c4;omega)]
  refine ww ?_
  exact wwr
 rw [if_neg (by simp at c4;omega)]
 refine ww ?_
 exact wwr
def PredTp (g:FuncId) (first cap:List AV) (H:List AObj) (p:Tp→Bool) (l:List Tp):Prop :=
 ∀ c,c∈l→Spec Tryz.prog g (first++([qXo c]++cap)) H (fun r h'=>r=.d (.bool (p c))∧h'=H)
theorem qHo {l:List Tp} {g:FuncId} {first cap:List AV} {H:List AObj} {p:Tp→Bool} (hp:PredTp g first cap H p l) (hH:qDl H.length H=true) (h1:qCk H.length first=true) (h2:qCk H.length cap=true) (hl:l.length≤1000000000) :
  Spec Tryz.prog 145 [.d (.sl 5 (qAp l)),.fn (.func g) first cap] H (fun r h'=>r=.I (qNx p l)∧h'=H):=by
 refine qAb hT Tryz.func145 rfl rfl rfl rfl ?_
 intro E hE
 have hlen:=encTps_length l
 refine ww ?_
 refine qAw (ι:=Nat) (fun k=>[(0,.d (.sl 5 (qAp l))),(1,.fn (.func g) first cap),(7,.d (.int .i64 (qAp l).length)),(8,.I k)]) (fun _=>H) (fun k=>k≤l.length∧∀ j,(hj:j < k)→(hj2:j < l.length)→p l[j]=false) (fun k=>l.length-k) 0
  ⟨by omega,fun j hj=>by omega⟩ yf (HLe.refl _) ?_
 intro k ⟨hk,hb⟩
 refine ww ?_
 refine qAa rfl (fun h1'=>?_) (fun h1'=>?_)
 ·have hlt:k < l.length:=by rw [hlen] at h1';simpa using h1'
  have hel:=encTps_at hlt
  have hpk:=hp l[k] (List.getElem_mem hlt)
  generalize hc:l[k]=c at hel hpk
  obtain ⟨c1,c2,c3,c4,c5⟩:=c
  unfold qEi at hel
  simp only at hel
  refine ww ?_
  refine qAe (qAd (indexAddr_ok hT rfl rfl rfl rfl (by omega) hel)) rfl ?_
  refine ww ?_
  refine qCv (qFo (Q:=fun r h'=>r=.d (.bool (p ⟨c1,c2,c3,c4,c5⟩))∧h'=H) rfl rfl (hpk.mono (fun r h' ⟨q1,q2⟩=>⟨⟨q1,q2⟩,by rw [q1];rfl,by rw [q2];exact hH⟩)) hH rfl ?_) rfl ?_
  ·have:∀ (a b:List AV),qCk H.length a=true→qCk H.length b=true→qCk H.length (a++b)=true:=by
    intro a
    induction a with
    | nil=>intro b _ hb;exact hb
    | cons x a ih=>intro b ha hb;simp only [qCk,Bool.and_eq_true,List.cons_append] at ha ⊢;exact ⟨ha.1,ih b ha.2 hb⟩
   exact this _ _ h1 (this [_] _ (by simp [qCk,low,qXo]) h2)
  rintro v h' ⟨rfl,rfl⟩
  refine ww ?_
  refine qAa rfl (fun h2'=>?_) (fun h2'=>?_)
  ·refine ww ?_
   refine qBf rfl (.refl _) (by simp) rfl rfl hH ⟨?_,rfl⟩
   show AV.d (.int .i64 (k:Int))=_
   rw [fIdx_at hlt (by rw [hc];exact h2') (fun j hj hj2=>hb j hj hj2)]
  ·refine ww ?_
   refine ⟨k+1,⟨by omega,fun j hj hj2=>?_⟩,by omega,⟨.refl _,.refl _,.refl _,AV.le.eq ?_,trivial⟩,HLe.refl _⟩
   ·by_cases hjk:j=k
    ·subst hjk;rw [hc];exact h2'
    ·exact hb j (by omega) hj2
   ·show AV.d (.int .i64 (IntKind.i64.wrap ((k:Int)+1)))=_
    rw [qAj (by omega)];rfl
 ·have hge:k=l.length:=by rw [hlen] at h1';simp at h1';omega
  refine ww ?_
  refine qBf rfl (.refl _) (by simp) rfl rfl hH ⟨?_,rfl⟩
  show AV.d (.int .i64 (-1))=_
  rw [fIdx_none (fun j hj=>hb j (by omega) hj)]
theorem qFw {l:List Tp} {g:FuncId} {first cap:List AV} {H:List AObj} {p:Tp→Bool} (hp:PredTp g first cap H p l) (hH:qDl H.length H=true) (h1:qCk H.length first=true) (h2:qCk H.length cap=true) (hl:l.length≤1000000000) :
  Spec Tryz.prog 125 [.d (.sl 5 (qAp l)),.fn (.func g) first cap] H (fun r h'=>r=.d (.bool (l.any p))∧h'=H):=by
 refine qAb hT Tryz.func125 rfl rfl rfl rfl ?_
 intro E hE
 have hs:=qHo hp hH h1 h2 hl
 refine ww ?_
 refine qCv (qFo (Q:=fun r h'=>r=.I (qNx p l)∧h'=H) rfl rfl (hs.mono (fun r h' ⟨q1,q2⟩=>⟨⟨q1,q2⟩,by rw [q1];rfl,by rw [q2];exact hH⟩)) hH rfl ?_) rfl ?_
 ·simp [qCk,low,h1,h2]
 rintro v h' ⟨rfl,rfl⟩
 refine ww ?_
 refine qBf rfl (.refl _) (by simp) rfl rfl hH ⟨?_,rfl⟩
 show AV.d (.bool (decide (qNx p l≥0)))=_
 rw [fIdx_any]
theorem qSl (s:List UInt8) (q:Tp):Spec Tryz.prog 126 ([]++([qXo q]++[.ptr 0 0])) [.row [.d (.str s)]] (fun r h'=>r=.d (.bool (q.holder == s))∧h'=[.row [.d (.str s)]]):=by
 obtain ⟨ho,key,ri,fr,ti⟩:=q
 unfold qXo
 simp only
 refine qAb hT Tryz.func126 rfl rfl rfl rfl ?_;intro E hE
 refine qAi ?_
 refine wwe ?_
 refine qAl (qAh ?_)
 refine qAe (boxAt_ok (i0:=1) rfl rfl rfl) rfl ?_
 refine ww ?_
 exact qBf rfl (.refl _) rfl rfl rfl rfl ⟨rfl,rfl⟩
theorem qUt (l:List Tp) (s:List UInt8) (hl:l.length≤1000000):Spec Tryz.prog 93 [.d (.sl 5 (qAp l)),.d (.str s)] [] (fun r h'=>r=.d (.bool (l.any fun q=>q.holder == s))∧h'=[]):=by
 have c1:=qFw (p:=fun q=>q.holder == s) (l:=l) (fun y hy=>qSl s y) rfl rfl rfl (by omega)
 generalize (l.any fun q=>q.holder == s)=b at c1 ⊢
 refine qAb hT Tryz.func93 rfl rfl rfl rfl ?_;intro E hE
 refine qAi ?_
 refine wwe ?_
 refine qAl (qAh ?_)
 refine qAe (boxAt_ok (i0:=0) rfl rfl rfl) rfl ?_
 refine ww ?_
 refine qAe (qAr rfl rfl (c1) [0] (by decide) rfl rfl rfl rfl rfl rfl rfl) rfl ?_
 refine ww ?_
 exact wwr
theorem validTr_spec (l:List Tp) (day:Int) (hl:l.length≤9223372036854775807) (hs:∀ p,p∈l→p.holder.length≤9223372036854775807):Spec Tryz.prog 49 [.agg [.d (.sl 5 (qAp l)),.I day]] [] (fun r h'=>r=.I (qBk l day)∧h'=[]):=by
 have hll:=encTps_length l
 unfold qBk
 generalize hf1:qJg l=f1
 generalize hf2:qJo [] l=f2
 refine qAb hT Tryz.func49 rfl rfl rfl rfl ?_;intro E hE
 refine ww ?_
 refine qAa rfl (fun c1=>?_) (fun c1=>?_)
 ·rw [hll] at c1
  rw [if_pos (by simp at c1;omega)]
  refine ww ?_
  exact wwr
 rw [hll] at c1
 rw [if_neg (by simp at c1;omega)]
 have hsm:l.length≤2:=by simp at c1;omega
 refine qFz ?_
 refine qEj (ι:=Unit) (fun _=>[(1,.ptr 0 0)]) (fun _=>[.row [.d (.sl 5 (qAp l)),.I day]]) (fun _=>f1=0) ?_ ?_
 ·refine ww ?_
  refine qBq (ι:=Nat) (fun i=>[(1,.ptr 0 0),(19,.d (.sl 5 (qAp l))),(20,.I ((qAp l).length:Int)),(21,.I (i:Int))]) (fun _=>[.row [.d (.sl 5 (qAp l)),.I day]])
   (fun i=>i≤l.length∧qJg (l.drop i)=f1) (fun i=>l.length-i) 0 ⟨by omega,by simpa using hf1⟩ yf (HLe.refl _) ?_
  rintro i ⟨hi,hg⟩
  have hwr:IntKind.i64.wrap ((i:Int)+1)=((i+1:Nat):Int):=by rw [qAj (by omega)];simp
  refine ww ?_
  refine qAa rfl (fun c2=>?_) (fun c2=>?_)
  ·have c2':i < l.length:=by rw [hll] at c2;simpa using c2
   have hel:=encTps_at c2'
   have hdr:l.drop i=l[i]::l.drop (i+1):=List.drop_eq_getElem_cons c2'
   have hpt:=qPv l[i] (hs _ (List.getElem_mem c2'))
   rw [hdr,qJg] at hg
   generalize l[i]=x at hel hg hpt
   obtain ⟨x1,x2,x3,x4,x5⟩:=x
   unfold qEi at hel
   simp only at hel
   generalize qCj ⟨x1,x2,x3,x4,x5⟩=e at hpt hg
   refine ww ?_
   refine wwi hel ?_
   refine ww ?_
   refine wwc hpt ?_
   refine ww ?_
   refine qAa rfl (fun c3=>?_) (fun c3=>?_)
   ·rw [if_pos (by simpa using c3)] at hg
    subst hg
    rw [if_pos (by simpa using c3)]
    refine ww ?_
    exact wwr
   rw [if_neg (by simpa using c3)] at hg
   refine ww ?_
   exact ⟨i+1,[_],⟨c2',hg⟩,by omega,⟨.refl _,.refl _,.refl _,.int hwr,trivial⟩,HLe.refl _,Env.below_mono hE (by simp),rfl,rfl⟩
  ·have c2':i=l.length:=by rw [hll] at c2;simp at c2;omega
   subst c2'
   rw [List.drop_length,qJg] at hg
   refine ww ?_
   exact ⟨(),hg.symm,yf,HLe.refl _⟩
 rintro ⟨⟩ h1
 rw [if_neg (by simpa using h1)]
 refine qEj (ι:=Unit) (fun _=>[(1,.ptr 0 0)]) (fun _=>[.row [.d (.sl 5 (qAp l)),.I day]]) (fun _=>f2=false) ?_ ?_
 ·refine ww ?_
  refine qBq (ι:=Nat) (fun i=>[(1,.ptr 0 0),(32,.d (.sl 5 (qAp l))),(33,.I ((qAp l).length:Int)),(34,.I (i:Int))]) (fun _=>[.row [.d (.sl 5 (qAp l)),.I day]])
   (fun i=>i≤l.length∧qJo (l.take i) (l.drop i)=f2) (fun i=>l.length-i) 0 ⟨by omega,by simpa using hf2⟩ yf (HLe.refl _) ?_
  rintro i ⟨hi,hg⟩
  have hwr:IntKind.i64.wrap ((i:Int)+1)=((i+1:Nat):Int):=by rw [qAj (by omega)];simp
  refine ww ?_
  refine qAa rfl (fun c2=>?_) (fun c2=>?_)
  ·have c2':i < l.length:=by rw [hll] at c2;simpa using c2
   have hel:=encTps_at c2'
   have hdr:l.drop i=l[i]::l.drop (i+1):=List.drop_eq_getElem_cons c2'
   have htk:l.take (i+1)=l.take i++[l[i]]:=List.take_succ_eq_append_getElem c2'
   have hha:=qUt (l.take i) l[i].holder (by rw [List.length_take];omega)
   have hcl:(qAp l).take ((i:Int)).toNat=qAp (l.take i):=by
    rw [Int.toNat_natCast]
    simp [qAp,List.map_take]
   rw [hdr,qJo] at hg
   generalize ((l.take i).any fun q=>q.holder == l[i].holder)=b at hha hg
   generalize l[i]=x at hel hg hha htk
   obtain ⟨x1,x2,x3,x4,x5⟩:=x
   unfold qEi at hel
   simp only at hel hha
   refine ww ?_
   refine wwi hel ?_
   refine wws ?_
   refine qAl (qAy (fun i=>bif Nat.beq i 1 then [0] else bif Nat.beq i 5 then [1] else []) (fun _=>[]) mixed (by kernel_rfl) ?_)
   refine wwg ?_
   rw [hcl]
   refine wwg ?_
   refine wwdc hha ?_
   refine wwg ?_
   refine ww ?_
   refine qAa rfl (fun c3=>?_) (fun c3=>?_)
   ·rw [c3] at hg
    simp only [Bool.true_or] at hg
    subst hg
    rw [if_pos rfl]
    refine ww ?_
    exact wwr
   rw [c3] at hg
   simp only [Bool.false_or] at hg
   rw [← htk] at hg
   refine ww ?_
   exact ⟨i+1,[_],⟨c2',hg⟩,by omega,⟨.refl _,.refl _,.refl _,.int hwr,trivial⟩,HLe.refl _,Env.below_mono hE (by simp),rfl,rfl⟩
  ·have c2':i=l.length:=by rw [hll] at c2;simp at c2;omega
   subst c2'
   rw [List.drop_length,qJo] at hg
   refine ww ?_
   exact ⟨(),hg.symm,yf,HLe.refl _⟩
 rintro ⟨⟩ h2
 rw [if_neg (by rw [h2];simp)]
 refine ww ?_
 refine qAa rfl (fun c5=>?_) (fun c5=>?_)
 ·rw [if_pos (by simpa using c5)]
  refine ww ?_
  exact wwr
 rw [if_neg (by simpa using c5)]
 refine ww ?_
 exact wwr
theorem qRq {s:List UInt8} (h:∀ j,j < s.length→qDo (s.getD j 0)=true∧(j=0→qUr (s.getD j 0)=true)):qCn s=(decide (1≤(s.length:Int))&&decide ((s.length:Int)≤16)):=by
 unfold qCn
 rw [qMo fun j hj=>(h j hj).1,Bool.and_true]
 by_cases h0:1≤s.length
 ·rw [(h 0 (by omega)).2 rfl,Bool.and_true,Bool.eq_iff_iff]
  simp
  omega
 ·rw [decide_eq_false (by omega),Bool.false_and,decide_eq_false (by omega),Bool.false_and]
theorem qUd {s:List UInt8} {i:Nat} (hi:i < s.length) (h:qDo (s.getD i 0)=false∨(i=0∧qUr (s.getD i 0)=false)):qCn s=false:=by
 unfold qCn
 rcases h with h | ⟨rfl,h⟩
 ·rw [qMp hi h,Bool.and_false]
 ·rw [h,Bool.and_false,Bool.false_and]
theorem qOf (s:List UInt8) (hs:s.length≤9223372036854775807):Spec Tryz.prog 95 [.d (.str s)] [] (fun r h'=>r=.d (.bool (qCn s))∧h'=[]):=by
 refine qAb hT Tryz.func95 rfl rfl rfl rfl ?_;intro E hE
 refine ww ?_
 refine qAw (ι:=Nat) (fun i=>[(0,.d (.str s)),(3,.I (i:Int))]) (fun _=>[]) (fun i=>i≤s.length∧∀ j,j < i→qDo (s.getD j 0)=true∧(j=0→qUr (s.getD j 0)=true)) (fun i=>s.length-i) 0 ⟨Nat.zero_le _,fun j h=>by omega⟩
  yf (HLe.refl _) ?_
 rintro i ⟨hi,hall⟩
 have hat:=strAt_nat s i
 obtain ⟨ch,hch⟩:∃ ch,ch=s.getD i 0:=⟨_,rfl⟩
 rw [← hch] at hat
 have hb:0≤bI ch∧bI ch < 256:=by have:=ch.toNat_lt;unfold bI;omega
 refine ww ?_
 refine qAa rfl (fun c2=>?_) (fun c2=>?_)
 ·have hi':i < s.length:=by simp at c2;omega
  have hwr:IntKind.i64.wrap ((i:Int)+1)=((i+1:Nat):Int):=by rw [qAj (by omega)];simp
  refine ww ?_
  rw [hat]
  refine ww ?_
  refine qAa rfl (fun c3=>?_) (fun c3=>?_)
  ·have hno:qCn s=false:=by
    refine qUd hi' ?_
    rw [← hch]
    unfold qDo qUr
    simp only [decide_eq_false_iff_not]
    simp at c3
    omega
   rw [hno]
   refine ww ?_
   exact wwr
  ·refine ww ?_
   refine ⟨i+1,⟨hi',fun j hj=>?_⟩,by omega,⟨.refl _,.int hwr,trivial⟩,HLe.refl _⟩
   rcases Nat.lt_or_ge j i with h | h
   ·exact hall j h
   ·have:j=i:=by omega
    subst this
    rw [← hch]
    unfold qDo qUr
    simp only [decide_eq_true_eq]
    simp at c3
    omega
 ·have hi':i=s.length:=by simp at c2;omega
  subst hi'
  rw [qRq hall]
  refine ww ?_
  exact wwr
theorem qGt (n:Int):Spec Tryz.prog 96 [.I n] [] (fun r h'=>r=.d (.bool (decide (0≤n)&&decide (n≤73048)))∧h'=[]):=by
 refine qAb hT Tryz.func96 rfl rfl rfl rfl ?_;intro E hE
 refine ww ?_
 exact wwr
end Tdoc
namespace Tdoc
open Go
def ptD:List UInt8→Option (Tp×List UInt8)
 | []=>none
 | c::r=>if r.length < c.toNat+12 then none else
  some (⟨r.take c.toNat,(nbV ((r.drop c.toNat).take 4):Nat),(nbV (((r.drop c.toNat).drop 4).take 2):Nat),(nbV (((r.drop c.toNat).drop 6).take 3):Nat),(nbV (((r.drop c.toNat).drop 9).take 3):Nat)⟩,(r.drop c.toNat).drop 12)
def qGd:Nat→List UInt8→Option (List Tp×List UInt8)
 | 0,b=>some ([],b)
 | n+1,b=>match ptD b with
  | none=>none
  | some (p,r)=>match qGd n r with
   | none=>none
   | some (l,r')=>some (p::l,r')
def qJw (b:List UInt8):Int:=(nbV (b.take 3):Nat)
def qDd (b:List UInt8):Option (List Tp×Int) :=
 if b.length < 4 then none else match qGd (b.getD 3 0).toNat (b.drop 4) with
 | none=>none
 | some (l,_)=>if qBp l (qJw b)=(b,0) then some (l,qJw b) else none
def qGs (b:List UInt8):Option (Int×Int×List UInt8×List Tp×Int) :=
 if b.length < 3∨(b.getD 0 0).toNat > 15∨(b.getD 1 0).toNat > 15∨(b.getD 2 0).toNat > 16∨b.length < 3+(b.getD 2 0).toNat then none
 else match qDd (b.drop (3+(b.getD 2 0).toNat)) with
 | none=>none
 | some (l,day)=>some ((b.getD 0 0).toNat,(b.getD 1 0).toNat,(b.drop 3).take (b.getD 2 0).toNat,l,day)
theorem nbV_snoc (v:List UInt8) (c:UInt8):nbV (v++[c])=256*nbV v+c.toNat:=by unfold nbV;rw [List.foldl_append];rfl
theorem nbV3 (a b c:UInt8):nbV [a,b,c]=65536*a.toNat+256*b.toNat+c.toNat:=by show 256*(256*(256*0+a.toNat)+b.toNat)+c.toNat=_;omega
theorem qZb (a b:UInt8):nbV [a,b]=256*a.toNat+b.toNat:=by show 256*(256*0+a.toNat)+b.toNat=_;omega
theorem nbV4 (a b c d:UInt8):nbV [a,b,c,d]=16777216*a.toNat+65536*b.toNat+256*c.toNat+d.toNat:=by show 256*(256*(256*(256*0+a.toNat)+b.toNat)+c.toNat)+d.toNat=_;omega
theorem bOf_toNat (n:Int):(bOf n).toNat=(n % 256).toNat:=by
 unfold bOf
 rw [UInt8.toNat_ofNat']
 omega
theorem qKr {n:Int} (h:0≤n∧n < 16777216):((nbV (qCq n):Nat):Int)=n:=by
 unfold qCq
 rw [nbV3,bOf_toNat,bOf_toNat,bOf_toNat]
 omega
theorem qUc {n:Int} (h:0≤n∧n < 65536):((nbV [bOf (n / 256),bOf n]:Nat):Int)=n:=by
 rw [qZb,bOf_toNat,bOf_toNat]
 omega
theorem qSo {n:Int} (h:0≤n∧n < 4294967296):((nbV (qBr 4 n.toNat):Nat):Int)=n:=by
 rw [octB_succ,octB_succ,octB_succ,octB_succ,show qBr 0 n.toNat=[] from rfl,nbV4]
 simp only [UInt8.toNat_ofNat']
 omega
theorem pointE_get {p:Tp} (h:qCj p=0):qCn p.holder=true∧qCz p.key=true∧(0≤p.rights∧p.rights≤65535)∧0≤p.frm∧p.frm≤p.til∧p.til≤73048:=by
 unfold qCj at h
 split at h
 ·simp at h
 split at h
 ·simp at h
 split at h
 ·simp at h
 split at h
 ·simp at h
 rename_i h1 h2 h3 h4
 exact ⟨by simpa using h1,by simpa using h2,by omega,by omega,by omega,by omega⟩
theorem qRp {s:List UInt8} (h:qCn s=true):1≤s.length∧s.length≤16:=by
 unfold qCn at h
 simp only [Bool.and_eq_true,decide_eq_true_eq] at h
 exact h.1.1
theorem ptD_back (p:Tp) (r:List UInt8) (h:qCj p=0):ptD (tpB p++r)=some (p,r):=by
 obtain ⟨h1,h2,h3,h4,h5,h6⟩:=pointE_get h
 have hl:=qRp h1
 have hk:=elemG_range h2
 obtain ⟨s,key,rights,frm,til⟩:=p
 simp only at *
 have hb:(bOf (s.length:Int)).toNat=s.length:=by rw [bOf_toNat];omega
 have e:tpB ⟨s,key,rights,frm,til⟩++r=bOf s.length::(s++(qBr 4 key.toNat++([bOf (rights / 256),bOf rights]++(qCq frm++(qCq til++r))))):=by
  unfold tpB
  simp only [List.cons_append,List.append_assoc]
 have l4:(qBr 4 key.toNat).length=4:=octB_length 4 _
 rw [e]
 rw [ptD,hb,if_neg (by simp [l4,qCq];omega)]
 rw [List.take_left,List.drop_left]
 have d4:(qBr 4 key.toNat++([bOf (rights / 256),bOf rights]++(qCq frm++(qCq til++r)))).drop 4=[bOf (rights / 256),bOf rights]++(qCq frm++(qCq til++r)):=List.drop_left' l4
 have t4:(qBr 4 key.toNat++([bOf (rights / 256),bOf rights]++(qCq frm++(qCq til++r)))).take 4=qBr 4 key.toNat:=List.take_left' l4
 have dd:∀ (k:Nat) (x:List UInt8),x.drop (4+k)=(x.drop 4).drop k:=fun k x=>by rw [List.drop_drop]
 rw [show (6:Nat)=4+2 from rfl,show (9:Nat)=4+5 from rfl,show (12:Nat)=4+8 from rfl,dd,dd,dd,d4,t4]
 have q2:([bOf (rights / 256),bOf rights]++(qCq frm++(qCq til++r))).take 2=[bOf (rights / 256),bOf rights]:=rfl
 have q6:(([bOf (rights / 256),bOf rights]++(qCq frm++(qCq til++r))).drop 2).take 3=qCq frm:=rfl
 have q9:(([bOf (rights / 256),bOf rights]++(qCq frm++(qCq til++r))).drop 5).take 3=qCq til:=rfl
 have q12:([bOf (rights / 256),bOf rights]++(qCq frm++(qCq til++r))).drop 8=r:=rfl
 rw [q2,q6,q9,q12,qSo (by omega),qUc (by omega),qKr (by omega),qKr (by omega)]
theorem goTp_get {l:List Tp} (h:qJg l=0):∀ p,p∈l→qCj p=0:=by
 induction l with
 | nil=>intro p hp;cases hp
 | cons q l ih =>
  unfold qJg at h
  split at h
  ·rename_i hq;exact absurd h hq
  ·rename_i hq
   intro p hp
   rcases List.mem_cons.1 hp with rfl | hp
   ·simpa using hq
   ·exact ih h p hp
theorem ptsD_back:∀ (l:List Tp) (r:List UInt8),(∀ p,p∈l→qCj p=0)→qGd l.length ((l.map tpB).flatten++r)=some (l,r)
 | [],r,_=>rfl
 | p::l,r,h=>by
  have ih:=ptsD_back l r fun q hq=>h q (List.mem_cons_of_mem _ hq)
  show (match ptD (((p::l).map tpB).flatten++r) with | none=>none | some (p,r)=>match qGd l.length r with | none=>none | some (l,r')=>some (p::l,r'))=_
  rw [show ((p::l).map tpB).flatten++r=tpB p++((l.map tpB).flatten++r) by simp,ptD_back p _ (h p List.mem_cons_self)]
  simp only [ih]
theorem validTr_get {l:List Tp} {day:Int} (h:qBk l day=0):1≤l.length∧l.length≤2∧qJg l=0∧0≤day∧day≤73048:=by
 unfold qBk at h
 split at h
 ·simp at h
 split at h
 ·rename_i h2;exact absurd h h2
 split at h
 ·simp at h
 split at h
 ·simp at h
 rename_i h1 h2 h3 h4
 exact ⟨by omega,by omega,by simpa using h2,by omega,by omega⟩
theorem decTr_back {l:List Tp} {day:Int} (h:qBk l day=0):qDd (qBl l day)=some (l,day):=by
 obtain ⟨h1,h2,h3,h4,h5⟩:=validTr_get h
 have e:qBl l day=qCq day++(bOf (l.length:Int)::((l.map tpB).flatten++[])):=by unfold qBl;simp
 have hd:qJw (qBl l day)=day:=by
  rw [e]
  show ((nbV (qCq day):Nat):Int)=day
  exact qKr (by omega)
 have hn:((qBl l day).getD 3 0).toNat=l.length:=by
  rw [e]
  show (bOf (l.length:Int)).toNat=_
  rw [bOf_toNat];omega
 have hp:qGd l.length ((qBl l day).drop 4)=some (l,[]):=by
  rw [e]
  exact ptsD_back l [] (goTp_get h3)
 have hl:4≤(qBl l day).length:=by rw [e];simp [qCq]
 unfold qDd
 rw [if_neg (by omega),hn,hp]
 simp only [hd]
 rw [if_pos (by unfold qBp;rw [if_neg (by simpa using h)])]
theorem recF_back {pr ur:Int} {pin:List UInt8} {l:List Tp} {day:Int} (h:(qJj pr ur pin l day).2=0):qGs (qJj pr ur pin l day).1=some (pr,ur,pin,l,day):=by
 unfold qJj at h ⊢
 split at h
 ·simp at h
 split at h
 ·simp at h
 split at h
 ·rename_i h3;exact absurd h h3
 rename_i h1 h2 h3
 rw [if_neg h1,if_neg h2,if_neg h3]
 simp only
 have hv:qBk l day=0:=by
  unfold qBp at h3
  split at h3
  ·rename_i hv;exact absurd h3 (by simpa using hv)
  ·rename_i hv;simpa using hv
 have he:(qBp l day).1=qBl l day:=by unfold qBp;rw [if_neg (by simpa using hv)]
 rw [he]
 have b0:(bOf pr).toNat=pr.toNat:=by rw [bOf_toNat];omega
 have b1:(bOf ur).toNat=ur.toNat:=by rw [bOf_toNat];omega
 have b2:(bOf (pin.length:Int)).toNat=pin.length:=by rw [bOf_toNat];omega
 have e:[bOf pr,bOf ur,bOf (pin.length:Int)]++pin++qBl l day=bOf pr::bOf ur::bOf (pin.length:Int)::(pin++qBl l day):=by simp
 rw [e]
 unfold qGs
 have g0:(bOf pr::bOf ur::bOf (pin.length:Int)::(pin++qBl l day)).getD 0 0=bOf pr:=rfl
 have g1:(bOf pr::bOf ur::bOf (pin.length:Int)::(pin++qBl l day)).getD 1 0=bOf ur:=rfl
 have g2:(bOf pr::bOf ur::bOf (pin.length:Int)::(pin++qBl l day)).getD 2 0=bOf (pin.length:Int):=rfl
 rw [g0,g1,g2,b0,b1,b2]
 have d1:(bOf pr::bOf ur::bOf (pin.length:Int)::(pin++qBl l day)).drop (3+pin.length)=qBl l day:=by
  rw [Nat.add_comm,show (bOf pr::bOf ur::bOf (pin.length:Int)::(pin++qBl l day))=[bOf pr,bOf ur,bOf (pin.length:Int)]++(pin++qBl l day) from rfl,← List.append_assoc]
  exact List.drop_left' (by first | (simp;done) | (simp;omega))
 have d2:((bOf pr::bOf ur::bOf (pin.length:Int)::(pin++qBl l day)).drop 3).take pin.length=pin:=by
  show (pin++qBl l day).take pin.length=pin
  exact List.take_left
 rw [if_neg (by simp;omega),d1,d2,decTr_back hv]
 simp only [Option.some.injEq,Prod.mk.injEq,and_true]
 omega
open Go Go.Proofs
theorem qGx (l:List Tp) (day:Int) (hl:l.length≤9223372036854775807) (hs:∀ p,p∈l→p.holder.length≤9223372036854775807):Spec Tryz.prog 51 [.agg [.d (.sl 5 (qAp l)),.I day]] [] (fun r h'=>r=.I (qBk l day)∧h'=[]):=by
 have hll:=encTps_length l
 unfold qBk
 by_cases h1:l.length < 1∨l.length > 2
 case pos =>
  rw [if_pos h1]
  refine qAb hT Tryz.func51 rfl rfl rfl rfl ?_;intro E hE
  refine ww ?_
  refine qAa rfl (fun c1=>?_) (fun c1=>?_)
  ·refine ww ?_
   exact wwr
  ·exfalso
   rw [hll] at c1
   simp at c1
   omega
 rw [if_neg h1]
 generalize hD:(if qJo [] l=true then (15:Int) else if day < 0∨day > 73048 then 8 else 0)=D
 generalize hfin:(if qJg l≠0 then qJg l else D)=fin
 refine qAb hT Tryz.func51 rfl rfl rfl rfl ?_;intro E hE
 refine ww ?_
 refine qAa rfl (fun c1=>?_) (fun c1=>?_)
 ·exfalso
  rw [hll] at c1
  simp at c1
  omega
 refine ww ?_
 refine qBq (ι:=Nat) (fun i=>[(1,.ptr 0 0),(3,.I (i:Int))]) (fun _=>[.row [.d (.sl 5 (qAp l)),.I day]])
  (fun i=>i≤l.length∧(if qJg (l.drop i)≠0 then qJg (l.drop i) else D)=fin) (fun i=>l.length-i) 0 ⟨by omega,by simpa using hfin⟩ yf (HLe.refl _) ?_
 rintro i ⟨hi,hg⟩
 have hwr:IntKind.i64.wrap ((i:Int)+1)=((i+1:Nat):Int):=by rw [qAj (by omega)];simp
 refine ww ?_
 refine qAa rfl (fun c2=>?_) (fun c2=>?_)
 ·have c2':i < l.length:=by rw [hll] at c2;simpa using c2
  have hel:=encTps_at c2'
  have hdr:l.drop i=l[i]::l.drop (i+1):=List.drop_eq_getElem_cons c2'
  have hsx:=hs l[i] (List.getElem_mem c2')
  rw [hdr,qJg] at hg
  generalize l[i]=x at hel hg hsx
  have hA:qCj x≠0→qCj x=fin:=fun h=>by rw [if_pos h,if_pos h] at hg;exact hg
  have hB:qCj x=0→(if qJg (l.drop (i+1))≠0 then qJg (l.drop (i+1)) else D)=fin:=fun h=>by rw [show (if qCj x≠0 then qCj x else qJg (l.drop (i+1)))=qJg (l.drop (i+1)) from if_neg (by simpa using h)] at hg;exact hg
  unfold qCj at hA hB
  obtain ⟨x1,x2,x3,x4,x5⟩:=x
  have hnm:=qOf x1 hsx
  have hel2:=qEt x2
  have hd1:=qGt x4
  have hd2:=qGt x5
  unfold qEi at hel
  simp only at hel hA hB hsx
  clear hg
  refine ww ?_
  refine wwi hel ?_
  refine ww ?_
  refine wwc hnm ?_
  refine ww ?_
  refine qAa rfl (fun c3=>?_) (fun c3=>?_)
  ·rw [if_pos (by simpa using c3)] at hA
   rw [← hA (by decide)]
   refine ww ?_
   exact wwr
  rw [if_neg (by simpa using c3)] at hA hB
  refine ww ?_
  refine wwc hel2 ?_
  refine ww ?_
  refine qAa rfl (fun c4=>?_) (fun c4=>?_)
  ·rw [if_pos (by simpa using c4)] at hA
   rw [← hA (by decide)]
   refine ww ?_
   exact wwr
  rw [if_neg (by simpa using c4)] at hA hB
  refine ww ?_
  refine qAa rfl (fun c5=>?_) (fun c5=>?_)
  ·rw [if_pos (by simp at c5;omega)] at hA
   rw [← hA (by decide)]
   refine ww ?_
   exact wwr
  rw [if_neg (by simp at c5;omega)] at hA hB
  refine ww ?_
  refine wwc hd1 ?_
  refine ww ?_
  refine wwgc hd2 ?_
  refine ww ?_
  refine qAa rfl (fun c6=>?_) (fun c6=>?_)
  ·rw [if_pos (by simp at c6;omega)] at hA
   rw [← hA (by decide)]
   refine ww ?_
   exact wwr
  rw [if_neg (by simp at c6;omega)] at hA hB
  refine ww ?_
  exact ⟨i+1,[_],⟨c2',hB rfl⟩,by omega,⟨.refl _,.int hwr,trivial⟩,HLe.refl _,Env.below_mono hE (by simp),rfl,rfl⟩
 have c2':i=l.length:=by rw [hll] at c2;simp at c2;omega
 subst c2'
 rw [List.drop_length,qJg,if_neg (by simp)] at hg
 subst hg
 subst hD
 have hd:=qGt day
 clear hs hfin c2
 match l,h1,hll with
 | [],h1,_=>exact absurd h1 (by simp)
 | [a],h1,hll =>
  rw [show qJo [] [a]=false from rfl,if_neg (by simp)]
  refine ww ?_
  refine qCw (v:=.iptr (qEi a)) rfl rfl rfl rfl (fun hg=>absurd hg (by simp [gval,qAp])) ?_
  refine ww ?_
  refine qCw (v:=.iptr (qEi a)) rfl rfl rfl rfl (fun hg=>absurd hg (by simp [gval,qAp])) ?_
  refine ww ?_
  refine qAa rfl (fun c3=>?_) (fun c3=>?_)
  ·simp [qAp] at c3
  refine ww ?_
  refine wwc hd ?_
  refine ww ?_
  refine qAa rfl (fun c4=>?_) (fun c4=>?_)
  ·rw [if_pos (by simp at c4;omega)]
   refine ww ?_
   exact wwr
  ·rw [if_neg (by simp at c4;omega)]
   refine ww ?_
   exact wwr
 | [a,b],h1,hll =>
  have h0:(qAp [a,b])[((0:Int)).toNat]?=some (qEi a):=rfl
  have h2:(qAp [a,b])[((1:Int)).toNat]?=some (qEi b):=rfl
  have hdu:qJo [] [a,b]=(a.holder == b.holder):=by simp [qJo]
  rw [hdu]
  obtain ⟨a1,a2,a3,a4,a5⟩:=a
  obtain ⟨b1,b2,b3,b4,b5⟩:=b
  unfold qEi at h0 h2
  simp only at h0 h2 ⊢
  refine ww ?_
  refine wwgi h0 ?_
  refine ww ?_
  refine wwgi h2 ?_
  refine ww ?_
  refine qAa rfl (fun c3=>?_) (fun c3=>?_)
  ·rw [if_pos (by simp [qAp] at c3;simpa using c3)]
   refine ww ?_
   exact wwr
  rw [if_neg (by simp [qAp] at c3;simpa using c3)]
  refine ww ?_
  refine wwc hd ?_
  refine ww ?_
  refine qAa rfl (fun c4=>?_) (fun c4=>?_)
  ·rw [if_pos (by simp at c4;omega)]
   refine ww ?_
   exact wwr
  ·rw [if_neg (by simp at c4;omega)]
   refine ww ?_
   exact wwr
 | _::_::_::_,h1,_=>exact absurd h1 (by simp)
theorem qRu (n:Int):Int.fdiv n (2 ^ (min (16:Int).toNat IntKind.i64.bits))=n / 65536:=by
 rw [show (2 ^ (min (16:Int).toNat IntKind.i64.bits):Int)=65536 from rfl,Int.fdiv_eq_ediv_of_nonneg _ (by omega)]
theorem dayB_enc (n:Int):qAg (qCq n)=[[.int .u8 (IntKind.u8.wrap (Int.fdiv n (2 ^ (min (16:Int).toNat IntKind.i64.bits))))],[.int .u8 (IntKind.u8.wrap (Int.fdiv n (2 ^ (min (8:Int).toNat IntKind.i64.bits))))],[.int .u8 (IntKind.u8.wrap n)]]:=by
 rw [qRu,qKe,bOf_wrap,bOf_wrap,bOf_wrap];rfl
theorem qKq (n:Int):Spec Tryz.prog 65 [.I n] [] (fun r h'=>r=.sl 1 (qAg (qCq n)) .full∧h'=[]):=by
 rw [dayB_enc]
 refine qAb hT Tryz.func65 rfl rfl rfl rfl ?_;intro E hE
 refine ww ?_
 exact wwr
def trN (l:List Tp) (day:Int) (i:Nat):List UInt8:=qCq day++[bOf l.length]++((l.take i).map tpB).flatten
theorem trN_succ {l:List Tp} {day:Int} {i:Nat} (h:i < l.length):trN l day (i+1)=trN l day i++tpB l[i]:=by
 unfold trN
 rw [List.take_succ_eq_append_getElem h,List.map_append,List.flatten_append]
 simp
theorem encB_one (n:Int):qAg [bOf n]=[[.int .u8 (IntKind.u8.wrap n)]]:=by rw [bOf_wrap];rfl
theorem encB_two (n:Int):qAg [bOf (n / 256),bOf n]=[[.int .u8 (IntKind.u8.wrap (Int.fdiv n (2 ^ (min (8:Int).toNat IntKind.i64.bits))))],[.int .u8 (IntKind.u8.wrap n)]]:=by rw [qKe,bOf_wrap,bOf_wrap];rfl
theorem tpB_enc (p:Tp):qAg (tpB p)=((((qAg [bOf p.holder.length]++qAg p.holder)++qAg (qBr 4 p.key.toNat))++qAg [bOf (p.rights / 256),bOf p.rights])++qAg (qCq p.frm))++qAg (qCq p.til):=by
 unfold tpB
 rw [show bOf (p.holder.length:Int)::(p.holder++qBr 4 p.key.toNat++[bOf (p.rights / 256),bOf p.rights]++qCq p.frm++qCq p.til)=[bOf (p.holder.length:Int)]++(p.holder++qBr 4 p.key.toNat++[bOf (p.rights / 256),bOf p.rights]++qCq p.frm++qCq p.til) from rfl]
 simp only [encB_append,List.append_assoc]
theorem goTp_ok:∀ {l:List Tp},qJg l=0→∀ p,p∈l→qCj p=0
 | [],_,p,h=>by cases h
 | q::l,h0,p,h=>by
  rw [qJg] at h0
  split at h0
  ·rename_i h1;exact absurd h0 h1
  rename_i h1
  rcases List.mem_cons.1 h with rfl | h
  ·simpa using h1
  ·exact goTp_ok h0 p h
theorem pointE_ok {p:Tp} (h:qCj p=0):qCn p.holder=true∧qCz p.key=true:=by
 unfold qCj at h
 split at h
 ·exact absurd h (by decide)
 split at h
 ·exact absurd h (by decide)
 rename_i h1 h2
 exact ⟨by simpa using h1,by simpa using h2⟩
theorem validTr_ok {l:List Tp} {day:Int} (h:qBk l day=0):(1≤l.length∧l.length≤2)∧(∀ p,p∈l→qCj p=0):=by
 unfold qBk at h
 split at h
 ·exact absurd h (by decide)
 split at h
 ·rename_i h1;exact absurd h h1
 rename_i h1 h2
 exact ⟨by omega,goTp_ok (by simpa using h2)⟩
theorem qFd {s:List UInt8} (h:qCn s=true):s.length≤16:=by
 unfold qCn at h
 simp only [Bool.and_eq_true,decide_eq_true_eq] at h
 exact h.1.1.2
theorem tpB_len (p:Tp):(tpB p).length=p.holder.length+13:=by simp [tpB,octB_length,qCq]
theorem trN_len {l:List Tp} (day:Int) (h:∀ p,p∈l→p.holder.length≤16):∀ i,i≤l.length→(trN l day i).length≤4+29*i
 | 0,_=>by simp [trN,qCq]
 | i+1,hi=>by
  rw [trN_succ (by omega),List.length_append,tpB_len]
  have h1:=trN_len day h i (by omega)
  have h2:=h _ (List.getElem_mem (show i < l.length by omega))
  omega
theorem trEnc_spec (l:List Tp) (day:Int) (hl:l.length≤9223372036854775807) (hs:∀ p,p∈l→p.holder.length≤9223372036854775807):Spec Tryz.prog 33 [.agg [.d (.sl 5 (qAp l)),.I day]] [] (fun r h'=>r=.tup [.d (.sl 1 (qAg (qBp l day).1)),.d (.int .i64 (qBp l day).2)]∧h'=[]):=by
 have hll:=encTps_length l
 have hv:=validTr_spec l day hl hs
 unfold qBp
 by_cases h0:qBk l day=0
 case neg =>
  rw [if_pos (by simpa using h0)]
  generalize qBk l day=e at hv h0 ⊢
  refine qAb hT Tryz.func33 rfl rfl rfl rfl ?_;intro E hE
  refine ww ?_
  refine wwc hv ?_
  refine ww ?_
  refine qAa rfl (fun c1=>?_) (fun c1=>?_)
  ·refine ww ?_
   exact wwr
  ·exact absurd (by simpa using c1) h0
 rw [if_neg (by simpa using h0)]
 rw [h0] at hv
 obtain ⟨hlen,hpts⟩:=validTr_ok h0
 have hnm:∀ p,p∈l→p.holder.length≤16:=fun p hp=>qFd (pointE_ok (hpts p hp)).1
 have htl:=trN_len (l:=l) day hnm
 have hd:=qKq day
 have ht0:qAg (trN l day 0)=qAg (qCq day)++[[.int .u8 (IntKind.u8.wrap (l.length:Int))]]:=by
  unfold trN
  rw [List.take_zero,List.map_nil,List.flatten_nil,List.append_nil,encB_append,encB_one]
 have htf:qBl l day=trN l day l.length:=by unfold qBl trN;rw [List.take_length]
 rw [htf]
 have hdl:(qAg (qCq day)).length=3:=rfl
 generalize qAg (qCq day)=db at hd ht0 hdl
 refine qAb hT Tryz.func33 rfl rfl rfl rfl ?_;intro E hE
 refine qAi ?_
 refine wwn ?_
 refine wwc hv ?_
 refine wwn ?_
 refine qAa rfl (fun c1=>?_) (fun c1=>?_)
 ·exact absurd c1 (by simp)
 refine wwn ?_
 refine qAy (fun i=>bif Nat.beq i 1||Nat.beq i 4 then [1] else bif Nat.beq i 8 then [0] else []) (fun i=>bif Nat.beq i 8 then [0] else []) mixed (by kernel_rfl) ?_
 refine wwg ?_
 refine wwdc hd ?_
 refine wwg ?_
 refine qAm (os:=[]) (fun k hk1 hk2=>buildSl_ok hT rfl rfl) rfl ?_
 rw [hll]
 refine qAm (v:=.sl 1 (db++[[Dat.int .u8 (IntKind.u8.wrap (l.length:Int))]]) (.right 0)) (os:=[.right 1 (db.length+1)]) (fun k hk1 hk2=>qBx (i:=0) (es2:=[[Dat.int .u8 (IntKind.u8.wrap (l.length:Int))]]) hT rfl rfl rfl (.inl rfl) (by simp) ((hk2 0 List.mem_cons_self).trans rfl) rfl (by show (db.length+1)*(1+1)≤_;omega)) rfl ?_
 refine wwg ?_
 refine wwn ?_
 refine qBq (ι:=Nat) (fun i=>[(1,.ptr 1 0),(5,.sl 1 (qAg (trN l day i)) (.right 0)),(25,.d (.sl 5 (qAp l))),(26,.I (l.length:Int)),(27,.I (i:Int))]) (fun i=>[.right 1 (qAg (trN l day i)).length,.row [.d (.sl 5 (qAp l)),.I day]])
  (fun i=>i≤l.length) (fun i=>l.length-i) 0 (Nat.zero_le _) ⟨.refl _,.slt ht0.symm,.refl _,.int (by rw [hll]),.refl _,trivial⟩ ⟨⟨rfl,by rw [ht0,List.length_append];rfl⟩,ObLe.refl _,trivial⟩ ?_
 intro i hi
 have hwr:IntKind.i64.wrap ((i:Int)+1)=((i+1:Nat):Int):=by rw [qAj (by omega)];simp
 have hpl:(qAg (trN l day i)).length≤62:=by rw [encB_length];have:=htl i hi;omega
 refine wwn ?_
 refine qAa rfl (fun c3=>?_) (fun c3=>?_)
 ·have c3':i < l.length:=by simpa using c3
  have hel:=encTps_at c3'
  have hpo:=pointE_ok (hpts _ (List.getElem_mem c3'))
  have hho:=hnm _ (List.getElem_mem c3')
  have hsn:qAg (trN l day (i+1))=qAg (trN l day i)++qAg (tpB l[i]):=by rw [trN_succ c3',encB_append]
  rw [tpB_enc,encB_one,encB_two] at hsn
  have hge:=qMy l[i].key
  rw [if_pos hpo.2,if_pos hpo.2] at hge
  have hd1:=qKq l[i].frm
  have hd2:=qKq l[i].til
  have l1:(qAg (qBr 4 l[i].key.toNat)).length=4:=by rw [encB_length,octB_length]
  have l2:(qAg (qCq l[i].frm)).length=3:=rfl
  have l3:(qAg (qCq l[i].til)).length=3:=rfl
  have l4:=encB_length l[i].holder
  clear hpo
  generalize l[i]=x at hel hho hsn hge hd1 hd2 l1 l2 l3 l4
  obtain ⟨ho,key,ri,fr,ti⟩:=x
  unfold qEi at hel
  simp only at hel hho hsn hge hd1 hd2 l1 l2 l3 l4
  simp only [← List.append_assoc] at hsn
  generalize qAg (qBr 4 key.toNat)=kb at hge hsn l1
  generalize qAg (qCq fr)=fb at hd1 hsn l2
  generalize qAg (qCq ti)=tb at hd2 hsn l3
  generalize hhb:qAg ho=hb at hsn l4
  generalize qAg (trN l day i)=pre at hsn hpl ⊢
  refine wwn ?_
  refine wwi hel ?_
  refine wwn ?_
  refine wwc hge ?_
  refine wwn ?_
  refine qAa rfl (fun c4=>?_) (fun c4=>?_)
  ·exact absurd c4 (by simp)
  refine wwn ?_
  refine qAy (fun i=>bif Nat.beq i 2||Nat.beq i 8 then [2] else bif Nat.beq i 6||Nat.beq i 9||Nat.beq i 11 then [0] else []) (fun i=>bif Nat.beq i 6||Nat.beq i 9||Nat.beq i 11 then [0] else []) mixed (by kernel_rfl) ?_
  refine wwg ?_
  refine qAm (os:=[]) (fun k hk1 hk2=>buildSl_ok hT rfl rfl) rfl ?_
  refine qAm (v:=.sl 1 (pre++[[Dat.int .u8 (IntKind.u8.wrap (ho.length:Int))]]) (.right 0)) (os:=[.right 1 (pre++[[Dat.int .u8 (IntKind.u8.wrap (ho.length:Int))]]).length]) (fun k hk1 hk2=>qAn (i:=0) (es2:=[[Dat.int .u8 (IntKind.u8.wrap (ho.length:Int))]]) hT rfl rfl rfl rfl ((hk2 0 List.mem_cons_self).trans rfl) rfl (by show ((pre).length+([[Dat.int .u8 (IntKind.u8.wrap (ho.length:Int))]]).length)*(1+1)≤_;simp only [List.length_append,List.length_cons,List.length_nil];omega)) rfl ?_
  refine wwg ?_
  refine qAm (v:=.sl 1 ((pre++[[Dat.int .u8 (IntKind.u8.wrap (ho.length:Int))]])++hb) (.right 0)) (os:=[.right 1 ((pre++[[Dat.int .u8 (IntKind.u8.wrap (ho.length:Int))]])++hb).length]) (fun k hk1 hk2=>qAn (i:=0) (es2:=hb) hT rfl rfl rfl rfl ((hk2 0 List.mem_cons_self).trans rfl) (by rw [← hhb];rfl) (by show (((pre++[[Dat.int .u8 (IntKind.u8.wrap (ho.length:Int))]])).length+(hb).length)*(1+1)≤_;simp only [List.length_append,List.length_cons,List.length_nil];omega)) rfl ?_
  refine wwg ?_
  refine qAm (v:=.sl 1 (((pre++[[Dat.int .u8 (IntKind.u8.wrap (ho.length:Int))]])++hb)++kb) (.right 0)) (os:=[.right 1 (((pre++[[Dat.int .u8 (IntKind.u8.wrap (ho.length:Int))]])++hb)++kb).length]) (fun k hk1 hk2=>qAn (i:=0) (es2:=kb) hT rfl rfl rfl rfl ((hk2 0 List.mem_cons_self).trans rfl) rfl (by show ((((pre++[[Dat.int .u8 (IntKind.u8.wrap (ho.length:Int))]])++hb)).length+(kb).length)*(1+1)≤_;simp only [List.length_append,List.length_cons,List.length_nil];omega)) rfl ?_
  refine wwg ?_
  refine wwn ?_
  refine qAe (qAn (i:=0) (es2:=[[Dat.int .u8 (IntKind.u8.wrap (Int.fdiv ri (2 ^ (min (8:Int).toNat IntKind.i64.bits))))],[Dat.int .u8 (IntKind.u8.wrap ri)]]) hT rfl rfl rfl rfl rfl rfl (by show ((((pre++[[Dat.int .u8 (IntKind.u8.wrap (ho.length:Int))]])++hb)++kb).length+2)*(1+1)≤_;simp only [List.length_append,List.length_cons,List.length_nil];omega)) rfl ?_
  refine wwn ?_
  refine qAy (fun i=>bif Nat.beq i 2||Nat.beq i 6 then [2] else bif Nat.beq i 4||Nat.beq i 8 then [0] else []) (fun i=>bif Nat.beq i 4||Nat.beq i 8 then [0] else []) mixed (by kernel_rfl) ?_
  refine wwg ?_
  refine wwdc hd1 ?_
  refine qAm (v:=.sl 1 (((((pre++[[Dat.int .u8 (IntKind.u8.wrap (ho.length:Int))]])++hb)++kb)++[[Dat.int .u8 (IntKind.u8.wrap (Int.fdiv ri (2 ^ (min (8:Int).toNat IntKind.i64.bits))))],[Dat.int .u8 (IntKind.u8.wrap ri)]])++fb) (.right 0)) (os:=[.right 1 (((((pre++[[Dat.int .u8 (IntKind.u8.wrap (ho.length:Int))]])++hb)++kb)++[[Dat.int .u8 (IntKind.u8.wrap (Int.fdiv ri (2 ^ (min (8:Int).toNat IntKind.i64.bits))))],[Dat.int .u8 (IntKind.u8.wrap ri)]])++fb).length]) (fun k hk1 hk2=>qAn (i:=0) (es2:=fb) hT rfl rfl rfl rfl ((hk2 0 List.mem_cons_self).trans rfl) rfl (by show ((((((pre++[[Dat.int .u8 (IntKind.u8.wrap (ho.length:Int))]])++hb)++kb)++[[Dat.int .u8 (IntKind.u8.wrap (Int.fdiv ri (2 ^ (min (8:Int).toNat IntKind.i64.bits))))],[Dat.int .u8 (IntKind.u8.wrap ri)]])).length+(fb).length)*(1+1)≤_;simp only [List.length_append,List.length_cons,List.length_nil];omega)) rfl ?_
  refine wwg ?_
  refine wwdc hd2 ?_
  refine qAm (v:=.sl 1 ((((((pre++[[Dat.int .u8 (IntKind.u8.wrap (ho.length:Int))]])++hb)++kb)++[[Dat.int .u8 (IntKind.u8.wrap (Int.fdiv ri (2 ^ (min (8:Int).toNat IntKind.i64.bits))))],[Dat.int .u8 (IntKind.u8.wrap ri)]])++fb)++tb) (.right 0)) (os:=[.right 1 ((((((pre++[[Dat.int .u8 (IntKind.u8.wrap (ho.length:Int))]])++hb)++kb)++[[Dat.int .u8 (IntKind.u8.wrap (Int.fdiv ri (2 ^ (min (8:Int).toNat IntKind.i64.bits))))],[Dat.int .u8 (IntKind.u8.wrap ri)]])++fb)++tb).length]) (fun k hk1 hk2=>qAn (i:=0) (es2:=tb) hT rfl rfl rfl rfl ((hk2 0 List.mem_cons_self).trans rfl) rfl (by show (((((((pre++[[Dat.int .u8 (IntKind.u8.wrap (ho.length:Int))]])++hb)++kb)++[[Dat.int .u8 (IntKind.u8.wrap (Int.fdiv ri (2 ^ (min (8:Int).toNat IntKind.i64.bits))))],[Dat.int .u8 (IntKind.u8.wrap ri)]])++fb)).length+(tb).length)*(1+1)≤_;simp only [List.length_append,List.length_cons,List.length_nil];omega)) rfl ?_
  refine wwg ?_
  rw [← hsn]
  refine wwn ?_
  exact ⟨i+1,[_],c3',by omega,⟨.refl _,.refl _,.refl _,.refl _,.int hwr,trivial⟩,HLe.refl _,Env.below_mono hE (by simp),rfl,rfl⟩
 ·have c3':i=l.length:=by simp at c3;omega
  subst c3'
  refine wwn ?_
  refine rq ⟨rfl,rfl⟩ rfl (AV.le.tup ⟨AV.le.dat,.refl _,trivial⟩)
theorem qDw (n m:Nat) (hm:m≤7) (hn:n < 9223372036854775808):Spec Tryz.prog 63 [.I (n:Int),.I (m:Int)] [] (fun r h'=>r=.sl 1 (qAg (qBr m n)) .full∧h'=[]):=by
 refine qAb hT Tryz.func63 rfl rfl rfl rfl ?_;intro E hE
 refine ww ?_
 refine qAe (makeRow_ok (n:=m) hT rfl rfl rfl rfl (by show 1*m≤_;omega) (by omega)) rfl ?_
 rw [qRl]
 refine ww ?_
 refine qAw (ι:=Nat) (fun i=>[(0,.I ((n / 256 ^ i:Nat):Int)),(5,.row 0 0 m m),(6,.I ((m:Int)-1-(i:Int)))]) (fun i=>[.row (qAx (List.replicate (m-i) 0++qBr i n))])
  (fun i=>i≤m) (fun i=>m-i) 0 (by omega) ⟨.int (by simp),.refl _,.int (by rw [qAj (by omega)];omega),trivial⟩ ⟨by simp [qBr];exact ObLe.refl _,trivial⟩ ?_
 intro i hi
 have hle:n / 256 ^ i≤n:=Nat.div_le_self _ _
 have hsu:n / 256 ^ i / 256=n / 256 ^ (i+1):=by rw [Nat.div_div_eq_div_mul,Nat.pow_succ]
 have hoc:=octB_succ i n
 generalize n / 256 ^ i=q at hle hsu hoc ⊢
 refine ww ?_
 refine qAa rfl (fun h3=>?_) (fun h3=>?_)
 ·have h3':i < m:=by simp at h3;omega
  have hby:IntKind.u8.wrap (Int.tmod (q:Int) 256)=((UInt8.ofNat (q % 256)).toNat:Int):=by
   rw [show Int.tmod (q:Int) 256=((q % 256:Nat):Int) from rfl,wrapu8 (by omega),toNat_ofNat (Nat.mod_lt _ (by omega))]
  have hrow:(qAx (List.replicate (m-i) 0++qBr i n)).set (m-1-i) (AV.d (.int .u8 (IntKind.u8.wrap (Int.tmod (q:Int) 256))))=qAx (List.replicate (m-(i+1)) 0++qBr (i+1) n):=by
   rw [hby,hoc,show m-i=(m-(i+1))+1 by omega,show m-1-i=m-(i+1) by omega]
   have:=qKf (0:UInt8) (UInt8.ofNat (q % 256)) (qBr i n) (m-(i+1))
   rw [← this]
   simp [qAx,List.map_set]
  have hlen:(qAx (List.replicate (m-i) 0++qBr i n)).length=m:=by rw [byteAV_length];simp [octB_length];omega
  generalize qAx (List.replicate (m-i) 0++qBr i n)=row at hrow hlen
  refine ww ?_
  refine qAe (qAd (rowAddr_ok (sz:=1) hT rfl rfl rfl rfl (by omega))) rfl ?_
  refine qBb (qCf hT rfl rfl rfl rfl rfl rfl (by show 0+((m:Int)-1-(i:Int)).toNat*1 < row.length;rw [hlen];omega)) rfl ?_
  refine ww ?_
  refine ⟨i+1,by omega,by omega,⟨.int ?_,.refl _,.int (by rw [qAj (by omega)];omega),trivial⟩,⟨?_,trivial⟩⟩
  ·rw [show Int.tdiv (q:Int) 256=((q / 256:Nat):Int) from rfl,hsu,qAj (by omega)]
  ·rw [← hrow]
   exact ObLe.row (by rw [show 0+((m:Int)-1-(i:Int)).toNat*1=m-1-i by omega];rfl)
 ·have h3':i=m:=by simp at h3;omega
  subst h3'
  rw [Nat.sub_self,List.replicate_zero,List.nil_append]
  refine wwe ?_
  refine qKb 5 0 1 (qAg (qBr i n)) rfl rfl (by rw [encB_length,octB_length]) (qDb _) ?_
  refine ww ?_
  exact wwr
theorem oct3 (n:Nat):qBr 3 n=qCq n:=by
 rw [octB_succ,octB_succ,octB_succ,show qBr 0 n=[] from rfl]
 unfold qCq bOf
 have e0:((n:Int) / 65536 % 256).toNat=n / 256 ^ 2 % 256:=by omega
 have e1:((n:Int) / 256 % 256).toNat=n / 256 ^ 1 % 256:=by omega
 have e2:((n:Int) % 256).toNat=n / 256 ^ 0 % 256:=by omega
 rw [e0,e1,e2]
theorem oct2 (n:Nat):qBr 2 n=[bOf ((n:Int) / 256),bOf (n:Int)]:=by
 rw [octB_succ,octB_succ,show qBr 0 n=[] from rfl]
 unfold bOf
 have e1:((n:Int) / 256 % 256).toNat=n / 256 ^ 1 % 256:=by omega
 have e2:((n:Int) % 256).toNat=n / 256 ^ 0 % 256:=by omega
 rw [e1,e2]
theorem qJv (l:List Tp) (day:Int) (hl:l.length≤9223372036854775807) (hs:∀ p,p∈l→p.holder.length≤9223372036854775807):Spec Tryz.prog 32 [.agg [.d (.sl 5 (qAp l)),.I day]] [] (fun r h'=>r=.tup [.d (.sl 1 (qAg (qBp l day).1)),.d (.int .i64 (qBp l day).2)]∧h'=[]):=by
 have hll:=encTps_length l
 have hv:=qGx l day hl hs
 unfold qBp
 by_cases h0:qBk l day=0
 case neg =>
  rw [if_pos (by simpa using h0)]
  generalize qBk l day=e at hv h0 ⊢
  refine qAb hT Tryz.func32 rfl rfl rfl rfl ?_;intro E hE
  refine ww ?_
  refine wwc hv ?_
  refine ww ?_
  refine qAa rfl (fun c1=>?_) (fun c1=>?_)
  ·refine ww ?_
   exact wwr
  ·exact absurd (by simpa using c1) h0
 rw [if_neg (by simpa using h0)]
 have hrg:=(validTr_get h0).2.2.2
 rw [h0] at hv
 obtain ⟨hlen,hpts⟩:=validTr_ok h0
 have hnm:∀ p,p∈l→p.holder.length≤16:=fun p hp=>qFd (pointE_ok (hpts p hp)).1
 have htl:=trN_len (l:=l) day hnm
 have hd:=qDw day.toNat 3 (by omega) (by omega)
 rw [oct3,Int.toNat_of_nonneg hrg.1] at hd
 have ht0:qAg (trN l day 0)=qAg (qCq day)++[[.int .u8 (IntKind.u8.wrap (l.length:Int))]]:=by
  unfold trN
  rw [List.take_zero,List.map_nil,List.flatten_nil,List.append_nil,encB_append,encB_one]
 have htf:qBl l day=trN l day l.length:=by unfold qBl trN;rw [List.take_length]
 rw [htf]
 have hdl:(qAg (qCq day)).length=3:=rfl
 generalize qAg (qCq day)=db at hd ht0 hdl
 refine qAb hT Tryz.func32 rfl rfl rfl rfl ?_;intro E hE
 refine qAi ?_
 refine wwn ?_
 refine wwc hv ?_
 refine wwn ?_
 refine qAa rfl (fun c1=>?_) (fun c1=>?_)
 ·exact absurd c1 (by simp)
 refine wwn ?_
 refine qAy (fun i=>bif Nat.beq i 1||Nat.beq i 4 then [1] else bif Nat.beq i 8 then [0] else []) (fun i=>bif Nat.beq i 8 then [0] else []) mixed (by kernel_rfl) ?_
 refine wwg ?_
 refine wwdc hd ?_
 refine wwg ?_
 refine qAm (os:=[]) (fun k hk1 hk2=>buildSl_ok hT rfl rfl) rfl ?_
 rw [hll]
 refine qAm (v:=.sl 1 (db++[[Dat.int .u8 (IntKind.u8.wrap (l.length:Int))]]) (.right 0)) (os:=[.right 1 (db.length+1)]) (fun k hk1 hk2=>qBx (i:=0) (es2:=[[Dat.int .u8 (IntKind.u8.wrap (l.length:Int))]]) hT rfl rfl rfl (.inl rfl) (by simp) ((hk2 0 List.mem_cons_self).trans rfl) rfl (by show (db.length+1)*(1+1)≤_;omega)) rfl ?_
 refine wwg ?_
 refine wwn ?_
 refine qBq (ι:=Nat) (fun i=>[(1,.ptr 1 0),(5,.sl 1 (qAg (trN l day i)) (.right 0)),(6,.I (i:Int))]) (fun i=>[.right 1 (qAg (trN l day i)).length,.row [.d (.sl 5 (qAp l)),.I day]])
  (fun i=>i≤l.length) (fun i=>l.length-i) 0 (Nat.zero_le _) ⟨.refl _,.slt ht0.symm,.refl _,trivial⟩ ⟨⟨rfl,by rw [ht0,List.length_append];rfl⟩,ObLe.refl _,trivial⟩ ?_
 intro i hi
 have hwr:IntKind.i64.wrap ((i:Int)+1)=((i+1:Nat):Int):=by rw [qAj (by omega)];simp
 have hpl:(qAg (trN l day i)).length≤62:=by rw [encB_length];have:=htl i hi;omega
 refine wwn ?_
 refine qAa rfl (fun c3=>?_) (fun c3=>?_)
 ·have c3':i < l.length:=by rw [hll] at c3;simpa using c3
  have hel:=encTps_at c3'
  have hpp:=pointE_get (hpts _ (List.getElem_mem c3'))
  have hho:=hnm _ (List.getElem_mem c3')
  have hsn:qAg (trN l day (i+1))=qAg (trN l day i)++qAg (tpB l[i]):=by rw [trN_succ c3',encB_append]
  rw [tpB_enc,encB_one] at hsn
  have hge:=qMv l[i].key
  rw [if_pos hpp.2.1,if_pos hpp.2.1] at hge
  have hd0:=qDw l[i].rights.toNat 2 (by omega) (by omega)
  have hd1:=qDw l[i].frm.toNat 3 (by omega) (by omega)
  have hd2:=qDw l[i].til.toNat 3 (by omega) (by omega)
  rw [oct2,Int.toNat_of_nonneg hpp.2.2.1.1] at hd0
  rw [oct3,Int.toNat_of_nonneg hpp.2.2.2.1] at hd1
  rw [oct3,Int.toNat_of_nonneg (by omega)] at hd2
  have l1:(qAg (qBr 4 l[i].key.toNat)).length=4:=by rw [encB_length,octB_length]
  have l2:(qAg (qCq l[i].frm)).length=3:=rfl
  have l3:(qAg (qCq l[i].til)).length=3:=rfl
  have l4:=encB_length l[i].holder
  have l5:(qAg [bOf (l[i].rights / 256),bOf l[i].rights]).length=2:=rfl
  clear hpp
  generalize l[i]=x at hel hho hsn hge hd0 hd1 hd2 l1 l2 l3 l4 l5
  obtain ⟨ho,key,ri,fr,ti⟩:=x
  unfold qEi at hel
  simp only at hel hho hsn hge hd0 hd1 hd2 l1 l2 l3 l4 l5
  simp only [← List.append_assoc] at hsn
  generalize qAg (qBr 4 key.toNat)=kb at hge hsn l1
  generalize qAg (qCq fr)=fb at hd1 hsn l2
  generalize qAg (qCq ti)=tb at hd2 hsn l3
  generalize qAg [bOf (ri / 256),bOf ri]=rb at hd0 hsn l5
  generalize hhb:qAg ho=hb at hsn l4
  generalize qAg (trN l day i)=pre at hsn hpl ⊢
  obtain ⟨A1,a1⟩:∃ A1,A1=pre++[[Dat.int .u8 (IntKind.u8.wrap (ho.length:Int))]]:=⟨_,rfl⟩
  obtain ⟨A2,a2⟩:∃ A2,A2=A1++hb:=⟨_,rfl⟩
  obtain ⟨A3,a3⟩:∃ A3,A3=A2++kb:=⟨_,rfl⟩
  obtain ⟨A4,a4⟩:∃ A4,A4=A3++rb:=⟨_,rfl⟩
  obtain ⟨A5,a5⟩:∃ A5,A5=A4++fb:=⟨_,rfl⟩
  obtain ⟨A6,a6⟩:∃ A6,A6=A5++tb:=⟨_,rfl⟩
  rw [← a1,← a2,← a3,← a4,← a5,← a6] at hsn
  have n1:A1.length≤63:=by rw [a1];simp;omega
  have n2:A2.length≤80:=by rw [a2,List.length_append];omega
  have n3:A3.length≤90:=by rw [a3,List.length_append];omega
  have n4:A4.length≤100:=by rw [a4,List.length_append];omega
  have n5:A5.length≤110:=by rw [a5,List.length_append];omega
  refine wwn ?_
  refine wwi hel ?_
  refine wwn ?_
  refine wwc hge ?_
  refine wwn ?_
  refine qAy (fun i=>bif Nat.beq i 2||Nat.beq i 8 then [2] else bif Nat.beq i 6||Nat.beq i 9 then [0] else []) (fun i=>bif Nat.beq i 6||Nat.beq i 9 then [0] else []) mixed (by kernel_rfl) ?_
  refine wwg ?_
  refine qAm (os:=[]) (fun k hk1 hk2=>buildSl_ok hT rfl rfl) rfl ?_
  refine qAm (v:=.sl 1 A1 (.right 0)) (os:=[.right 1 A1.length]) (fun k hk1 hk2=>by rw [a1];exact qAn (i:=0) (es2:=[[Dat.int .u8 (IntKind.u8.wrap (ho.length:Int))]]) hT rfl rfl rfl rfl ((hk2 0 List.mem_cons_self).trans rfl) rfl (by show (pre.length+1)*(1+1)≤_;omega)) rfl ?_
  refine wwg ?_
  refine qAm (v:=.sl 1 A2 (.right 0)) (os:=[.right 1 A2.length]) (fun k hk1 hk2=>by rw [a2];exact qAn (i:=0) (es2:=hb) hT rfl rfl rfl rfl ((hk2 0 List.mem_cons_self).trans rfl) (by rw [← hhb];rfl) (by show (A1.length+hb.length)*(1+1)≤_;omega)) rfl ?_
  refine wwg ?_
  refine wwn ?_
  refine qAy (fun i=>bif Nat.beq i 4 then [2] else bif Nat.beq i 2||Nat.beq i 6 then [0] else []) (fun i=>bif Nat.beq i 2||Nat.beq i 6 then [0] else []) mixed (by kernel_rfl) ?_
  refine wwg ?_
  refine qAm (v:=.sl 1 A3 (.right 0)) (os:=[.right 1 A3.length]) (fun k hk1 hk2=>by rw [a3];exact qAn (i:=0) (es2:=kb) hT rfl rfl rfl rfl ((hk2 0 List.mem_cons_self).trans rfl) rfl (by show (A2.length+kb.length)*(1+1)≤_;omega)) rfl ?_
  refine wwg ?_
  refine wwdc hd0 ?_
  refine qAm (v:=.sl 1 A4 (.right 0)) (os:=[.right 1 A4.length]) (fun k hk1 hk2=>by rw [a4];exact qAn (i:=0) (es2:=rb) hT rfl rfl rfl rfl ((hk2 0 List.mem_cons_self).trans rfl) rfl (by show (A3.length+rb.length)*(1+1)≤_;omega)) rfl ?_
  refine wwg ?_
  refine wwn ?_
  refine qAy (fun i=>bif Nat.beq i 2||Nat.beq i 6 then [2] else bif Nat.beq i 4||Nat.beq i 8 then [0] else []) (fun i=>bif Nat.beq i 4||Nat.beq i 8 then [0] else []) mixed (by kernel_rfl) ?_
  refine wwg ?_
  refine wwdc hd1 ?_
  refine qAm (v:=.sl 1 A5 (.right 0)) (os:=[.right 1 A5.length]) (fun k hk1 hk2=>by rw [a5];exact qAn (i:=0) (es2:=fb) hT rfl rfl rfl rfl ((hk2 0 List.mem_cons_self).trans rfl) rfl (by show (A4.length+fb.length)*(1+1)≤_;omega)) rfl ?_
  refine wwg ?_
  refine wwdc hd2 ?_
  refine qAm (v:=.sl 1 A6 (.right 0)) (os:=[.right 1 A6.length]) (fun k hk1 hk2=>by rw [a6];exact qAn (i:=0) (es2:=tb) hT rfl rfl rfl rfl ((hk2 0 List.mem_cons_self).trans rfl) rfl (by show (A5.length+tb.length)*(1+1)≤_;omega)) rfl ?_
  refine wwg ?_
  rw [← hsn]
  refine wwn ?_
  exact ⟨i+1,[_],c3',by omega,⟨.refl _,.refl _,.int hwr,trivial⟩,HLe.refl _,Env.below_mono hE (by simp),rfl,rfl⟩
 ·have c3':i=l.length:=by rw [hll] at c3;simp at c3;omega
  subst c3'
  refine wwn ?_
  refine rq ⟨rfl,rfl⟩ rfl (AV.le.tup ⟨AV.le.dat,.refl _,trivial⟩)
theorem qMk (k:Int):Spec Tryz.prog 48 [.I k] [] (fun r h'=>r=.d (.bool (qGr k))∧h'=[]):=by
 have h:qGr k=(decide (k≥0)&&decide (k < 1073741789)):=by unfold qGr;rw [Bool.eq_iff_iff];simp
 rw [h]
 refine qAb hT Tryz.func48 rfl rfl rfl rfl ?_;intro E hE
 refine ww ?_
 exact wwr
structure PerAny (p:Per):Prop where
 root:p.root.length≤9223372036854775807
 apps:p.apps.length≤9223372036854775807
 files:∀ a,a∈p.apps→a.files.length≤9223372036854775807
 infos:p.infos.length≤9223372036854775807
 tps:p.tps.length≤9223372036854775807
 hold:∀ t,t∈p.tps→t.holder.length≤9223372036854775807
theorem PerLen.any {p:Per} (h:PerLen p) (hn:∀ t,t∈p.tps→t.holder.length≤1000000):PerAny p :=
 ⟨by have:=h.root.1;omega,by have:=h.apps.1;omega,fun a ha=>by have:=(h.apps.2.1 a ha).1;omega,by have:=h.infos;omega,by have:=h.tps;omega,fun t ht=>by have:=hn t ht;omega⟩
theorem validPW_spec (p:Per) (hp:PerAny p):Spec Tryz.prog 21 [qBw p] [] (fun r h'=>r=.I (qCi p)∧h'=[]):=by
 have h1:=validFs_spec p.root p.apps hp.root hp.apps hp.files
 have h2:=qMq p.infos hp.infos
 have h3:=qMk p.ck
 have h4:=qMk p.ak
 have h5:=validTr_spec p.tps p.tday hp.tps hp.hold
 have l1:=encB_length p.number
 have l2:=encB_length p.pin
 have l3:=encB_length p.puk
 have l4:=encB_length p.ident
 have l5:=encB_length p.seed
 unfold qCi
 clear hp
 generalize qEl p.root p.apps=e1 at h1 ⊢
 generalize validI p.infos=e2 at h2 ⊢
 generalize qGr p.ck=e3 at h3 ⊢
 generalize qGr p.ak=e4 at h4 ⊢
 generalize qBk p.tps p.tday=e5 at h5 ⊢
 obtain ⟨root,apps,zone,number,pin,puk,pr,ur,basic,infos,ck,ak,tps,tday,ident,seed⟩:=p
 simp only at *
 refine qAb hT Tryz.func21 rfl rfl rfl rfl ?_;intro E hE
 refine ww ?_
 refine wwc h1 ?_
 refine ww ?_
 refine qAa rfl (fun c1=>?_) (fun c1=>?_)
 ·rw [if_pos (by simpa using c1)]
  refine ww ?_
  exact wwr
 rw [if_neg (by simpa using c1)]
 refine ww ?_
 refine qAa rfl (fun c2=>?_) (fun c2=>?_)
 ·rw [l1,l2,l3] at c2
  rw [if_pos (by simp at c2;omega)]
  refine ww ?_
  exact wwr
 rw [l1,l2,l3] at c2
 rw [if_neg (by simp at c2;omega)]
 refine ww ?_
 refine qAw (ι:=Nat) (fun i=>[(1,.ptr 0 0),(40,.agg [.I pr,.I ur]),(41,.I (i:Int))]) (fun _=>[.row (qBj ⟨root,apps,zone,number,pin,puk,pr,ur,basic,infos,ck,ak,tps,tday,ident,seed⟩)])
  (fun i=>i≤2∧(1≤i→1≤pr∧pr≤15)∧(2≤i→1≤ur∧ur≤15)) (fun i=>2-i) 0 ⟨by omega,fun h=>by omega,fun h=>by omega⟩ yf (HLe.refl _) ?_
 rintro i ⟨hi,g1,g2⟩
 rcases (by omega:i=0∨i=1∨i=2) with rfl | rfl | rfl
 ·refine ww ?_
  refine qAa rfl (fun q=>?_) (fun q=>absurd q (by decide))
  refine ww ?_
  refine qAe (qAd (arrIdx_ok hT rfl rfl rfl rfl ⟨by decide,by decide⟩ rfl)) rfl ?_
  refine ww ?_
  refine qAa rfl (fun c3=>?_) (fun c3=>?_)
  ·rw [if_pos (by simp at c3;omega)]
   refine ww ?_
   exact wwr
  refine ww ?_
  exact ⟨1,⟨by omega,fun _=>by simp at c3;omega,fun h=>by omega⟩,by omega,yf,HLe.refl _⟩
 ·refine ww ?_
  refine qAa rfl (fun q=>?_) (fun q=>absurd q (by decide))
  refine ww ?_
  refine qAe (qAd (arrIdx_ok hT rfl rfl rfl rfl ⟨by decide,by decide⟩ rfl)) rfl ?_
  refine ww ?_
  refine qAa rfl (fun c3=>?_) (fun c3=>?_)
  ·rw [if_pos (by simp at c3;omega)]
   refine ww ?_
   exact wwr
  refine ww ?_
  exact ⟨2,⟨by omega,fun _=>g1 (by omega),fun _=>by simp at c3;omega⟩,by omega,yf,HLe.refl _⟩
 ·have g1:=g1 (by omega)
  have g2:=g2 (by omega)
  rw [if_neg (by omega)]
  refine ww ?_
  refine qAa rfl (fun q=>absurd q (by decide)) (fun q=>?_)
  refine ww ?_
  refine wwc h2 ?_
  refine ww ?_
  refine qAa rfl (fun c4=>?_) (fun c4=>?_)
  ·rw [if_pos (by simpa using c4)]
   refine ww ?_
   exact wwr
  rw [if_neg (by simpa using c4)]
  refine ww ?_
  refine wwc h3 ?_
  refine ww ?_
  refine wwgc h4 ?_
  refine ww ?_
  refine qAa rfl (fun c5=>?_) (fun c5=>?_)
  ·rw [if_pos (by simpa using c5)]
   refine ww ?_
   exact wwr
  rw [if_neg (by simpa using c5)]
  refine ww ?_
  refine wwc h5 ?_
  refine ww ?_
  refine qAa rfl (fun c6=>?_) (fun c6=>?_)
  ·rw [if_pos (by simpa using c6)]
   refine ww ?_
   exact wwr
  rw [if_neg (by simpa using c6)]
  refine ww ?_
  refine qAa rfl (fun c7=>?_) (fun c7=>?_)
  ·rw [l4,l5] at c7
   rw [if_pos (by simp at c7;omega)]
   refine ww ?_
   exact wwr
  rw [l4,l5] at c7
  rw [if_neg (by simp at c7;omega)]
  refine ww ?_
  exact wwr
theorem validP_spec (p:Per) (hp:PerLen p) (hn:∀ t,t∈p.tps→t.holder.length≤1000000):Spec Tryz.prog 21 [qBw p] [] (fun r h'=>r=.I (qCi p)∧h'=[]):=validPW_spec p (hp.any hn)
theorem encRec_spec (pr ur:Int) (pin:List UInt8) (l:List Tp) (day:Int) (hpin:pin.length≤9223372036854775807) (hl:l.length≤9223372036854775807) (hs:∀ p,p∈l→p.holder.length≤9223372036854775807) :
  Spec Tryz.prog 12 [.agg [.I pr,.I ur,.d (.sl 1 (qAg pin)),.d (.sl 5 (qAp l)),.I day]] [] (fun r h'=>r=.tup [.d (.sl 1 (qAg (qJj pr ur pin l day).1)),.d (.int .i64 (qJj pr ur pin l day).2)]∧h'=[]):=by
 have h1:=trEnc_spec l day hl hs
 have hpl:=encB_length pin
 have htl:(qBp l day).1.length≤1000:=by
  unfold qBp
  by_cases h0:qBk l day=0
  ·rw [if_neg (by simpa using h0)]
   obtain ⟨hlen,hpts⟩:=validTr_ok h0
   have:=trN_len (l:=l) day (fun p hp=>qFd (pointE_ok (hpts p hp)).1) l.length (Nat.le_refl _)
   have htf:qBl l day=trN l day l.length:=by unfold qBl trN;rw [List.take_length]
   show (qBl l day).length≤1000
   rw [htf];omega
  ·rw [if_pos (by simpa using h0)];simp
 unfold qJj
 generalize qBp l day=R at h1 htl ⊢
 obtain ⟨R1,R2⟩:=R
 simp only at h1 htl ⊢
 refine qAb hT Tryz.func12 rfl rfl rfl rfl ?_;intro E hE
 refine ww ?_
 refine qAw (ι:=Nat) (fun i=>[(1,.ptr 0 0),(12,.agg [.I pr,.I ur]),(13,.I (i:Int))]) (fun _=>[.row [.I pr,.I ur,.d (.sl 1 (qAg pin)),.d (.sl 5 (qAp l)),.I day]])
  (fun i=>i≤2∧(1≤i→0≤pr∧pr≤15)∧(2≤i→0≤ur∧ur≤15)) (fun i=>2-i) 0 ⟨by omega,fun h=>by omega,fun h=>by omega⟩ yf (HLe.refl _) ?_
 rintro i ⟨hi,g1,g2⟩
 rcases (by omega:i=0∨i=1∨i=2) with rfl | rfl | rfl
 ·refine ww ?_
  refine qAa rfl (fun q=>?_) (fun q=>absurd q (by decide))
  refine ww ?_
  refine qAe (qAd (arrIdx_ok hT rfl rfl rfl rfl ⟨by decide,by decide⟩ rfl)) rfl ?_
  refine ww ?_
  refine qAa rfl (fun c3=>?_) (fun c3=>?_)
  ·rw [if_pos (by simp at c3;omega)]
   refine ww ?_
   exact wwr
  refine ww ?_
  exact ⟨1,⟨by omega,fun _=>by simp at c3;omega,fun h=>by omega⟩,by omega,yf,HLe.refl _⟩
 ·refine ww ?_
  refine qAa rfl (fun q=>?_) (fun q=>absurd q (by decide))
  refine ww ?_
  refine qAe (qAd (arrIdx_ok hT rfl rfl rfl rfl ⟨by decide,by decide⟩ rfl)) rfl ?_
  refine ww ?_
  refine qAa rfl (fun c3=>?_) (fun c3=>?_)
  ·rw [if_pos (by simp at c3;omega)]
   refine ww ?_
   exact wwr
  refine ww ?_
  exact ⟨2,⟨by omega,fun _=>g1 (by omega),fun _=>by simp at c3;omega⟩,by omega,yf,HLe.refl _⟩
 ·have g1:=g1 (by omega)
  have g2:=g2 (by omega)
  rw [if_neg (by omega)]
  refine ww ?_
  refine qAa rfl (fun q=>absurd q (by decide)) (fun q=>?_)
  refine ww ?_
  refine qAa rfl (fun c4=>?_) (fun c4=>?_)
  ·rw [hpl] at c4
   rw [if_pos (by simp at c4;omega)]
   refine ww ?_
   exact wwr
  rw [hpl] at c4
  have c4':pin.length≤16:=by simp at c4;omega
  rw [if_neg (by omega)]
  refine ww ?_
  refine wwc h1 ?_
  refine ww ?_
  refine qAa rfl (fun c5=>?_) (fun c5=>?_)
  ·rw [if_pos (by simpa using c5)]
   refine ww ?_
   exact wwr
  rw [if_neg (by simpa using c5)]
  have hC:=qIx [[bOf pr,bOf ur,bOf pin.length],pin,R1] (by simp) (by simp) (by simp;omega)
  have hb:qKp [[bOf pr,bOf ur,bOf pin.length],pin,R1]=[[.sl 1 [[.int .u8 (IntKind.u8.wrap pr)],[.int .u8 (IntKind.u8.wrap ur)],[.int .u8 (IntKind.u8.wrap (pin.length:Int))]]],[.sl 1 (qAg pin)],[.sl 1 (qAg R1)]]:=by
   rw [bOf_wrap,bOf_wrap,bOf_wrap];rfl
  have hf:[[bOf pr,bOf ur,bOf pin.length],pin,R1].flatten=[bOf pr,bOf ur,bOf pin.length]++pin++R1:=by simp
  rw [hb,hf] at hC
  generalize [bOf pr,bOf ur,bOf pin.length]++pin++R1=out at hC ⊢
  refine ww ?_
  rw [hpl]
  refine ww ?_
  refine wwc hC ?_
  refine ww ?_
  exact wwr
theorem qFb (p:Per) (hp:PerAny p):Spec Tryz.prog 22 [qBw p] [] (fun r h'=>r=.I (qCi p)∧h'=[]):=by
 have h1:=qGy p.root p.apps hp.root hp.apps hp.files
 have h2:=validIW_spec p.infos hp.infos
 have h5:=qGx p.tps p.tday hp.tps hp.hold
 have l1:=encB_length p.number
 have l2:=encB_length p.pin
 have l3:=encB_length p.puk
 have l4:=encB_length p.ident
 have l5:=encB_length p.seed
 have k1:qGr p.ck=false↔p.ck < 0∨p.ck≥1073741789:=by unfold qGr;rw [decide_eq_false_iff_not];omega
 have k2:qGr p.ak=false↔p.ak < 0∨p.ak≥1073741789:=by unfold qGr;rw [decide_eq_false_iff_not];omega
 unfold qCi
 clear hp
 generalize qEl p.root p.apps=e1 at h1 ⊢
 generalize validI p.infos=e2 at h2 ⊢
 generalize qGr p.ck=e3 at k1 ⊢
 generalize qGr p.ak=e4 at k2 ⊢
 generalize qBk p.tps p.tday=e5 at h5 ⊢
 obtain ⟨root,apps,zone,number,pin,puk,pr,ur,basic,infos,ck,ak,tps,tday,ident,seed⟩:=p
 simp only at *
 refine qAb hT Tryz.func22 rfl rfl rfl rfl ?_;intro E hE
 refine ww ?_
 refine wwc h1 ?_
 refine ww ?_
 refine qAa rfl (fun c1=>?_) (fun c1=>?_)
 ·rw [if_pos (by simpa using c1)]
  refine ww ?_
  exact wwr
 rw [if_neg (by simpa using c1)]
 refine ww ?_
 refine qAa rfl (fun c2=>?_) (fun c2=>?_)
 ·rw [l1,l2,l3] at c2
  rw [if_pos (by simp at c2;omega)]
  refine ww ?_
  exact wwr
 rw [l1,l2,l3] at c2
 rw [if_neg (by simp at c2;omega)]
 refine ww ?_
 refine qAa rfl (fun c3=>?_) (fun c3=>?_)
 ·rw [if_pos (by simp at c3;omega)]
  refine ww ?_
  exact wwr
 rw [if_neg (by simp at c3;omega)]
 refine ww ?_
 refine wwc h2 ?_
 refine ww ?_
 refine qAa rfl (fun c4=>?_) (fun c4=>?_)
 ·rw [if_pos (by simpa using c4)]
  refine ww ?_
  exact wwr
 rw [if_neg (by simpa using c4)]
 refine ww ?_
 refine qAa rfl (fun c5=>?_) (fun c5=>?_)
 ·rw [if_pos (by rw [k1,k2];simp at c5;omega)]
  refine ww ?_
  exact wwr
 rw [if_neg (by rw [k1,k2];simp at c5;omega)]
 refine ww ?_
 refine wwc h5 ?_
 refine ww ?_
 refine qAa rfl (fun c6=>?_) (fun c6=>?_)
 ·rw [if_pos (by simpa using c6)]
  refine ww ?_
  exact wwr
 rw [if_neg (by simpa using c6)]
 refine ww ?_
 refine qAa rfl (fun c7=>?_) (fun c7=>?_)
 ·rw [l4,l5] at c7
  rw [if_pos (by simp at c7;omega)]
  refine ww ?_
  exact wwr
 rw [l4,l5] at c7
 rw [if_neg (by simp at c7;omega)]
 refine ww ?_
 exact wwr
theorem encRec28_spec (pr ur:Int) (pin:List UInt8) (l:List Tp) (day:Int) (hpin:pin.length≤9223372036854775807) (hl:l.length≤9223372036854775807) (hs:∀ p,p∈l→p.holder.length≤9223372036854775807) :
  Spec Tryz.prog 10 [.agg [.I pr,.I ur,.d (.sl 1 (qAg pin)),.d (.sl 5 (qAp l)),.I day]] [] (fun r h'=>r=.tup [.d (.sl 1 (qAg (qJj pr ur pin l day).1)),.d (.int .i64 (qJj pr ur pin l day).2)]∧h'=[]):=by
 have hen:=qJv l day hl hs
 have hpl:=encB_length pin
 unfold qJj
 by_cases h1:pr < 0∨pr > 15∨ur < 0∨ur > 15
 ·rw [if_pos h1]
  refine qAb hT Tryz.func10 rfl rfl rfl rfl ?_;intro E hE
  refine ww ?_
  refine qAa rfl (fun c1=>?_) (fun c1=>?_)
  ·refine ww ?_
   exact wwr
  ·simp at c1
   omega
 rw [if_neg h1]
 by_cases h2:pin.length > 16
 ·rw [if_pos h2]
  refine qAb hT Tryz.func10 rfl rfl rfl rfl ?_;intro E hE
  refine ww ?_
  refine qAa rfl (fun c1=>?_) (fun c1=>?_)
  ·simp at c1
   omega
  refine ww ?_
  refine qAa rfl (fun c2=>?_) (fun c2=>?_)
  ·refine ww ?_
   exact wwr
  ·rw [hpl] at c2
   simp at c2
   omega
 rw [if_neg h2]
 have htl:(qBp l day).1.length≤70:=by
  unfold qBp
  by_cases h:qBk l day=0
  ·rw [if_neg (by simpa using h)]
   obtain ⟨hlen,hpts⟩:=validTr_ok h
   have:=trN_len (l:=l) day (fun p hp=>qFd (pointE_ok (hpts p hp)).1) l.length (Nat.le_refl _)
   show (qBl l day).length≤70
   rw [show qBl l day=trN l day l.length by unfold qBl trN;rw [List.take_length]]
   omega
  ·rw [if_pos (by simpa using h)]
   simp
 generalize (qBp l day).1=R1 at hen htl ⊢
 generalize (qBp l day).2=e at hen ⊢
 have e3:qAg [bOf pr,bOf ur,bOf (pin.length:Int)]=[[.int .u8 (IntKind.u8.wrap pr)],[.int .u8 (IntKind.u8.wrap ur)],[.int .u8 (IntKind.u8.wrap (pin.length:Int))]]:=by rw [bOf_wrap,bOf_wrap,bOf_wrap];rfl
 have hfin:qAg ([bOf pr,bOf ur,bOf (pin.length:Int)]++pin++R1)=[[.int .u8 (IntKind.u8.wrap pr)],[.int .u8 (IntKind.u8.wrap ur)],[.int .u8 (IntKind.u8.wrap (pin.length:Int))]]++qAg pin++qAg R1:=by rw [encB_append,encB_append,e3]
 have htl2:=encB_length R1
 refine qAb hT Tryz.func10 rfl rfl rfl rfl ?_;intro E hE
 refine qAi ?_
 refine ww ?_
 refine qAa rfl (fun c1=>?_) (fun c1=>?_)
 ·simp at c1
  omega
 refine ww ?_
 refine qAa rfl (fun c2=>?_) (fun c2=>?_)
 ·rw [hpl] at c2
  simp at c2
  omega
 refine ww ?_
 refine wwc hen ?_
 refine ww ?_
 refine qAa rfl (fun c3=>?_) (fun c3=>?_)
 ·rw [if_pos (by simpa using c3)]
  refine ww ?_
  exact wwr
 rw [if_neg (by simpa using c3)]
 simp only
 rw [hfin]
 refine qFz ?_
 refine qAl (qAh ?_)
 refine wws ?_
 rw [hpl]
 refine wws ?_
 refine qAe (qBx (i:=0) (es2:=qAg pin) hT rfl rfl rfl (.inl rfl) (by simp) rfl rfl (by show (3+(qAg pin).length)*(1+1)≤_;omega)) rfl ?_
 refine wws ?_
 refine qAl (qAh ?_)
 refine wws ?_
 refine qAe (qAn (i:=0) (es2:=qAg R1) hT rfl rfl rfl rfl (by rw [List.length_append];rfl) rfl (by show (([_,_,_]++qAg pin).length+(qAg R1).length)*(1+1)≤_;simp only [List.length_append,List.length_cons,List.length_nil];omega)) rfl ?_
 refine wws ?_
 refine qPj ?_
 refine rq ⟨rfl,rfl⟩ rfl (AV.le.tup ⟨AV.le.dat,.refl _,trivial⟩)
theorem qQd (n:Nat) (r:List UInt8) (hn:n < 281474976710656) (hr:r.length≤256):Spec Tryz.prog 76 [.I (n:Int),.d (.sl 1 (qAg r))] [] (fun v h'=>v=.d (.sl 1 (qAg (qBv n r)))∧h'=[]):=by
 have o1:=qEs n 6 (by omega) (by omega)
 have o2:=qEs r.length 2 (by omega) (by omega)
 have la:=octB_length 6 n
 have lb:=octB_length 2 r.length
 have hrl:=encB_length r
 unfold qBv
 generalize qBr 6 n=a at o1 la ⊢
 generalize qBr 2 r.length=b at o2 lb ⊢
 obtain ⟨K,hK⟩:∃ K:Nat,K=264:=⟨_,rfl⟩
 have hz:List.replicate 265 (AV.d (.int .u8 0))=qAx (0::List.replicate K 0):=by
  rw [show (265:Nat)=K+1 by omega,List.replicate_succ]
  simp [qAx]
 have f1:=setRun_fill [1] a (k:=K) (by omega)
 have f2:=setRun_fill ([1]++a) b (k:=K-a.length) (by omega)
 have f3:=setRun_fill ([1]++a++b) r (k:=K-a.length-b.length) (by omega)
 rw [show (([1]++a:List UInt8)).length*1=7 by simp;omega] at f2
 rw [show (([1]++a++b:List UInt8)).length*1=9 by simp;omega] at f3
 rw [show (([1]:List UInt8)).length*1=1 from rfl] at f1
 have ta:(qAg a).take 264=qAg a:=List.take_of_length_le (by rw [encB_length];omega)
 have tb:(qAg b).take 258=qAg b:=List.take_of_length_le (by rw [encB_length];omega)
 have tr:(qAg r).take 256=qAg r:=List.take_of_length_le (by rw [encB_length];omega)
 have hal:=encB_length a
 have hbl:=encB_length b
 have hfin:1::(a++b++r++List.replicate (256-r.length) 0)=[1]++a++b++r++List.replicate (K-a.length-b.length-r.length) (0:UInt8):=by
  rw [show K-a.length-b.length-r.length=256-r.length by omega];simp
 rw [hfin]
 refine qAb hT Tryz.func76 rfl rfl rfl rfl ?_;intro E hE
 refine qAl (qAh ?_)
 refine wws ?_
 refine qAl (qAh ?_)
 refine qAe (makeRow1_ok (n:=265) (z:=.d (.int .u8 0)) hT rfl rfl rfl rfl (by decide) (by decide)) rfl ?_
 rw [hz]
 refine wws ?_
 refine qAl (qAh ?_)
 refine wws ?_
 refine qAe (qAd (rowAddr_ok (sz:=1) hT rfl rfl rfl rfl ⟨by decide,by decide⟩)) rfl ?_
 refine qBb (qCf (i:=0) (off:=0) hT rfl rfl rfl rfl rfl rfl (by rw [byteAV_length];simp)) (forceS_eq _ _) ?_
 refine wws ?_
 refine qAs (l:=[(0,.I (n:Int)),(1,.d (.sl 1 (qAg r))),(5,.row 0 0 265 265)]) (h':=[.row (qAx ([1]++List.replicate K 0))]) yf (HLe.refl _) ?_
 refine qAl (qAh ?_)
 refine wws ?_
 refine wwc o1 ?_
 refine wws ?_
 refine qAl (qAh ?_)
 refine wws ?_
 refine qAe (qAd (rowCut_ok (sz:=1) (l:=1) (r:=265) hT rfl rfl rfl ⟨_,rfl⟩ rfl (by omega) (by omega))) rfl ?_
 refine wws ?_
 refine qAe (copyDat_ok (i:=0) (off:=1) (n:=264) hT rfl rfl rfl rfl rfl (by rw [byteAV_length];simp;omega)) rfl ?_
 rw [ta,f1]
 refine qBm ?_
 refine qAs (l:=[(0,.I (n:Int)),(1,.d (.sl 1 (qAg r))),(5,.row 0 0 265 265)]) (h':=[.row (qAx ([1]++a++List.replicate (K-a.length) 0))]) yf (HLe.refl _) ?_
 refine qAl (qAh ?_)
 refine wws ?_
 rw [hrl]
 refine wwc o2 ?_
 refine wws ?_
 refine qAl (qAh ?_)
 refine wws ?_
 refine qAe (qAd (rowCut_ok (sz:=1) (l:=7) (r:=265) hT rfl rfl rfl ⟨_,rfl⟩ rfl (by omega) (by omega))) rfl ?_
 refine wws ?_
 refine qAe (copyDat_ok (i:=0) (off:=7) (n:=258) hT rfl rfl rfl rfl rfl (by rw [byteAV_length];simp;omega)) rfl ?_
 rw [tb,f2]
 refine qBm ?_
 refine qAs (l:=[(0,.I (n:Int)),(1,.d (.sl 1 (qAg r))),(5,.row 0 0 265 265)]) (h':=[.row (qAx ([1]++a++b++List.replicate (K-a.length-b.length) 0))]) yf (HLe.refl _) ?_
 refine qAl (qAh ?_)
 refine wws ?_
 refine qAe (qAd (rowCut_ok (sz:=1) (l:=9) (r:=265) hT rfl rfl rfl ⟨_,rfl⟩ rfl (by omega) (by omega))) rfl ?_
 refine wws ?_
 refine qAe (copyDat_ok (i:=0) (off:=9) (n:=256) hT rfl rfl rfl rfl rfl (by rw [byteAV_length];simp;omega)) rfl ?_
 rw [tr,f3]
 refine qBm ?_
 have htl:([1]++a++b++r++List.replicate (K-a.length-b.length-r.length) (0:UInt8)).length=265:=by simp;omega
 generalize [1]++a++b++r++List.replicate (K-a.length-b.length-r.length) (0:UInt8)=tot at htl ⊢
 refine qAs (l:=[(5,.row 0 0 265 265)]) (h':=[.row (qAx tot)]) yf (HLe.refl _) ?_
 refine qGl 5 0 1 (qAg tot) rfl rfl (by rw [encB_length,htl]) (by omega) (qDb tot) ?_
 refine ww ?_
 exact wwr
theorem qXn (k:Nat):List.replicate k [Dat.int .u8 0]=qAg (List.replicate k 0):=by unfold qAg;rw [List.map_replicate];rfl
theorem qQi (r:List UInt8) (hr:r.length≤1000000):Spec Tryz.prog 43 [.d (.sl 1 (qAg r))] [] (fun v h'=>v=(if r.length > 256 then .tup [.agg [.d (.sl 1 []),.d (.sl 1 [])],.I 2] else .tup [.agg [.d (.sl 1 (qAg (qBv 0 r))),.d (.sl 1 (qAg (List.replicate 265 0)))],.I 0])∧h'=[]):=by
 have hrl:=encB_length r
 have hi:=qQd 0 r (by omega)
 by_cases h0:r.length > 256
 ·rw [if_pos h0]
  clear hi
  refine qAb hT Tryz.func43 rfl rfl rfl rfl ?_;intro E hE
  refine ww ?_
  refine qAa rfl (fun c1=>?_) (fun c1=>?_)
  ·refine ww ?_
   exact wwr
  ·rw [hrl] at c1
   simp at c1
   omega
 ·rw [if_neg h0]
  have hi:=hi (by omega)
  generalize qAg (qBv 0 r)=im at hi ⊢
  refine qAb hT Tryz.func43 rfl rfl rfl rfl ?_;intro E hE
  refine wwn ?_
  refine qAa rfl (fun c1=>?_) (fun c1=>?_)
  ·rw [hrl] at c1
   simp at c1
   omega
  refine wwn ?_
  refine qAy (fun i=>bif Nat.beq i 5 then [0] else []) (fun i=>bif Nat.beq i 5 then [0] else []) mixed (by kernel_rfl) ?_
  refine wwg ?_
  refine wwdc hi ?_
  refine wwg ?_
  refine qAm (os:=[]) (fun k hk1 hk2=>makeDat_ok (n:=265) (z:=.int .u8 0) hT rfl rfl rfl rfl (by decide) (by decide)) rfl ?_
  rw [qXn]
  generalize qAg (List.replicate 265 0)=ze
  refine wwg ?_
  refine ww ?_
  exact wwr
end Tdoc
