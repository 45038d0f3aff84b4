/- Part 9 of the proof: the texts JB JC J2 J3 J4 J5 J6 Y8 Y4 Y7 Z1 Z2 ZM Y3 Z3 ZN ZC0 Z4 Z5 Z6 ZC ZO ZD ZR ZE ZP ZQ ZU Y9 XA XL XM XN XO XP J7 J8. -/
import Derived.Test.YtelocejblpajcaaGreatDoorTR8
import Derived.Test.YtelocejblpajcaaGreatDoorTR5
set_option linter.unusedVariables false
set_option linter.unusedSimpArgs false
set_option maxHeartbeats 8000000
set_option maxRecDepth 100000
namespace Tdoc
open Go
theorem certF_chk {a:Aut} (ha:qCw a.sta=true) (hn:1≤a.next∧a.next≤1000000) {kind:Int} {issuer own k:Nat} {day u t:Int} (hk:1≤kind∧kind≤4) (hi:1≤issuer∧issuer≤1000000000) (ho:1≤own∧own≤1000000000)
  (hd:issuer=own↔kind=1) (hs:1≤k∧k < qG) (hday:0≤day∧day≤73048) (hu:0≤u∧u≤t):qCu (qEc a kind issuer own k day u t)=0:=by
 have he:=pubS_elem hs
 unfold qCu qEc
 simp only
 rw [if_neg (by simp [ha]),if_neg (by omega),if_neg ?_,if_neg (by simp [he]),if_neg (by unfold qGs;omega)]
 have h1:qEu ((a.next:Nat):Int)=true:=by unfold qEu;exact decide_eq_true (by omega)
 have h2:qEu ((issuer:Nat):Int)=true:=by unfold qEu;exact decide_eq_true (by omega)
 have h3:qEu ((own:Nat):Int)=true:=by unfold qEu;exact decide_eq_true (by omega)
 have h4:decide (((issuer:Nat):Int)=((own:Nat):Int))=decide (kind=1):=by
  by_cases hq:kind=1
  ·rw [decide_eq_true hq,decide_eq_true (by have:=hd.2 hq;omega)]
  ·rw [decide_eq_false hq,decide_eq_false (fun h=>hq (hd.1 (by omega)))]
 simp [h1,h2,h3,h4]
theorem qJc {d:Nat} {t:Int} {v:List UInt8} (h1:qCs t=true) (h2:qBd t=false) (hd:d≤8):(qGm d (.mk t v []) 0).1=0:=by
 rw [qGm,if_neg (by simp [h1]),if_neg (by simp [h2]),if_neg (by omega)];rfl
theorem qHe {d:Nat} {t:Int} {k:List Node} (h1:qCs t=true) (h2:qBd t=true) (hd:d≤8) (hk:∀ n,n∈k→(qGm (d+1) n 0).1=0):(qGm d (.mk t [] k) 0).1=0:=by
 rw [qGm,if_neg (by simp [h1]),if_neg (by simp [h2]),if_neg (by omega)];exact chkL_of hk
theorem vHt (c:Nal):(qDz 1 [qBk c] 0).1=0:=by
 refine chkL_of fun m hm=>?_
 rw [List.mem_singleton.1 hm]
 unfold qBk
 refine qHe (by decide) (by decide) (by omega) fun n hn=>?_
 simp only [List.mem_cons,List.not_mem_nil,or_false] at hn
 rcases hn with rfl | rfl | rfl | rfl | rfl | rfl | rfl <;> exact qJc (by decide) (by decide) (by omega)
theorem qHh (c:Nal) (h:c.sta.length≤3):(wrL [qBk c]).length≤200:=by
 have h0:(wrL ([]:List Node)).length=0:=rfl
 have b1:=wrL_cons_length 19 c.sta [] [.mk 129 [UInt8.ofNat c.kind.toNat] [],.mk 130 (qAw 4 c.num.toNat) [],.mk 131 (qAw 4 c.iss.toNat) [],.mk 132 (qAw 4 c.own.toNat) [],.mk 133 (qAw 4 c.key.toNat) [],.mk 134 (qAw 3 c.frm.toNat++qAw 3 c.unt.toNat++qAw 3 c.til.toNat) []]
 have b2:=wrL_cons_length 129 [UInt8.ofNat c.kind.toNat] [] [.mk 130 (qAw 4 c.num.toNat) [],.mk 131 (qAw 4 c.iss.toNat) [],.mk 132 (qAw 4 c.own.toNat) [],.mk 133 (qAw 4 c.key.toNat) [],.mk 134 (qAw 3 c.frm.toNat++qAw 3 c.unt.toNat++qAw 3 c.til.toNat) []]
 have b3:=wrL_cons_length 130 (qAw 4 c.num.toNat) [] [.mk 131 (qAw 4 c.iss.toNat) [],.mk 132 (qAw 4 c.own.toNat) [],.mk 133 (qAw 4 c.key.toNat) [],.mk 134 (qAw 3 c.frm.toNat++qAw 3 c.unt.toNat++qAw 3 c.til.toNat) []]
 have b4:=wrL_cons_length 131 (qAw 4 c.iss.toNat) [] [.mk 132 (qAw 4 c.own.toNat) [],.mk 133 (qAw 4 c.key.toNat) [],.mk 134 (qAw 3 c.frm.toNat++qAw 3 c.unt.toNat++qAw 3 c.til.toNat) []]
 have b5:=wrL_cons_length 132 (qAw 4 c.own.toNat) [] [.mk 133 (qAw 4 c.key.toNat) [],.mk 134 (qAw 3 c.frm.toNat++qAw 3 c.unt.toNat++qAw 3 c.til.toNat) []]
 have b6:=wrL_cons_length 133 (qAw 4 c.key.toNat) [] [.mk 134 (qAw 3 c.frm.toNat++qAw 3 c.unt.toNat++qAw 3 c.til.toNat) []]
 have b7:=wrL_cons_length 134 (qAw 3 c.frm.toNat++qAw 3 c.unt.toNat++qAw 3 c.til.toNat) [] []
 have b8:=wrL_cons_length 48 [] [.mk 19 c.sta [],.mk 129 [UInt8.ofNat c.kind.toNat] [],.mk 130 (qAw 4 c.num.toNat) [],.mk 131 (qAw 4 c.iss.toNat) [],.mk 132 (qAw 4 c.own.toNat) [],.mk 133 (qAw 4 c.key.toNat) [],.mk 134 (qAw 3 c.frm.toNat++qAw 3 c.unt.toNat++qAw 3 c.til.toNat) []] []
 unfold qBk
 simp only [List.length_append,List.length_cons,List.length_nil,octB_length] at b1 b2 b3 b4 b5 b6 b7 b8
 omega
theorem qZf (c:Nal) (h:c.sta.length≤3):qBj [qBk c]=(wrL [qBk c],0):=by
 have hc:=vHt c
 have hl:=qHh c h
 have hcnt:=(chkL_count 1 [qBk c] 0).1
 have hs:qAu [qBk c]≤20:=by simp [qBk,qAu,qCg]
 unfold qBj
 rw [if_neg (by rw [hc];simp),if_neg (by omega),if_neg (by omega)]
theorem vDr {k:Nat} {c:Nal} (h:qCu c=0):qCu (qBm k c)=0:=h
structure AutOk (a:Aut):Prop where
 sta:qCw a.sta=true
 next:1≤a.next∧a.next≤100
 secs:∀ k,k∈a.secs→1≤k∧k < qG
 seed:a.seed.length≤1000
theorem AutOk.last {a:Aut} (h:AutOk a) (hn:1≤a.secs.length):1≤a.secs.getD (a.secs.length-1) 0∧a.secs.getD (a.secs.length-1) 0 < qG:=by
 have:a.secs.getD (a.secs.length-1) 0=a.secs[a.secs.length-1]'(by omega):=by simp [show a.secs.length-1 < a.secs.length by omega]
 rw [this]
 exact h.secs _ (List.getElem_mem _)
theorem rootF_ok {a:Aut} (h:AutOk a) (hn:a.next≤99) (day:Int):AutOk (qCb a day)∧(qCb a day).secs.length=a.secs.length+1∧(qCb a day).next=a.next+1:=by
 refine ⟨⟨h.sta,?_,?_,?_⟩,by simp [qCb],rfl⟩
 ·have:=h.next;show 1≤a.next+1∧a.next+1≤100;omega
 ·intro k hk
  have hk:k∈a.secs++[qCn a.seed]:=hk
  rcases List.mem_append.1 hk with hk | hk
  ·exact h.secs k hk
  ·rw [List.mem_singleton.1 hk];exact secS_range _
 ·show (qLa (a.seed++[0])).length≤1000
  rw [sumW_length];omega
theorem signersF_ok {a:Aut} (h:AutOk a) (hn:a.next≤98) (day:Int):AutOk (qAz a day)∧(qAz a day).secs=a.secs∧(qAz a day).next=a.next+2:=by
 refine ⟨⟨h.sta,?_,h.secs,?_⟩,rfl,rfl⟩
 ·have:=h.next;show 1≤a.next+1+1∧a.next+1+1≤100;omega
 ·show (qLa _).length≤1000
  rw [sumW_length];omega
theorem linkF_ok {a:Aut} (h:AutOk a) (hn:a.next≤99) (day:Int):AutOk (qFn a day)∧(qFn a day).secs=a.secs∧(qFn a day).next=a.next+1:=by
 refine ⟨⟨h.sta,?_,h.secs,h.seed⟩,rfl,rfl⟩
 have:=h.next;show 1≤a.next+1∧a.next+1≤100;omega
def qJy (l:List (List UInt8)):List (List Dat):=l.map fun b=>[.sl 1 (qAj b)]
theorem encBs_length (l:List (List UInt8)):(qJy l).length=l.length:=by simp [qJy]
theorem encBs_at {l:List (List UInt8)} {i:Nat} (h:i < l.length):(qJy l)[i]?=some [.sl 1 (qAj (l.getD i []))]:=by
 unfold qJy
 rw [List.getElem?_map,List.getElem?_eq_getElem h]
 simp [h]
def qMi (l:List (List UInt8)) (i:Nat):List UInt8:=(l.take i).flatten
theorem flatN_succ {l:List (List UInt8)} {i:Nat} (h:i < l.length):qMi l (i+1)=qMi l i++l.getD i []:=by
 unfold qMi
 rw [List.take_add_one,List.flatten_append,List.getElem?_eq_getElem h]
 simp [h]
theorem flatN_all (l:List (List UInt8)):qMi l l.length=l.flatten:=by unfold qMi;rw [List.take_length]
theorem flatN_le (l:List (List UInt8)):∀ (i:Nat),i≤l.length→(qMi l i).length≤l.flatten.length:=by
 intro i hi
 have h:l.flatten=qMi l i++(l.drop i).flatten:=by unfold qMi;rw [← List.flatten_append,List.take_append_drop]
 rw [h,List.length_append];omega
def qOd (seed:List UInt8) (i:Nat):List UInt8:=((List.range i).map fun i=>qLa (seed++1::qAw 4 i)).flatten
theorem drawN_succ (seed:List UInt8) (i:Nat):qOd seed (i+1)=qOd seed i++qLa (seed++1::qAw 4 i):=by
 unfold qOd
 rw [List.range_succ,List.map_append,List.flatten_append]
 simp
theorem drawN_length (seed:List UInt8):∀ i,(qOd seed i).length=32*i
 | 0=>rfl
 | i+1=>by rw [drawN_succ,List.length_append,drawN_length seed i,sumW_length];omega
theorem drawS_eq (seed:List UInt8) (n i:Nat) (h1:n≤32*i) (h2:32*i < n+32):qFj seed n=(qOd seed i).take n:=by
 have:(n+31) / 32=i:=by omega
 unfold qFj
 rw [this];rfl
theorem drawS_length (seed:List UInt8) (n:Nat):(qFj seed n).length=n:=by
 rw [drawS_eq seed n ((n+31) / 32) (by omega) (by omega),List.length_take,drawN_length];omega
theorem secS_eq (seed:List UInt8):qCn seed=1+nbV ((qFj seed 8).take 7) % (qG-1):=rfl
open Go Go.Proofs
theorem wshl (x:BitVec 32) (m:Int):IntKind.u32.wrap (wI x*2 ^ (min m.toNat IntKind.u32.bits))=wI (x <<< (min m.toNat 32)):=wI_shl x _
theorem wshr (x:BitVec 32) (m:Int):Int.fdiv (wI x) (2 ^ (min m.toNat IntKind.u32.bits))=wI (x >>> (min m.toNat 32)):=wI_shr x _
theorem vJl {n:Nat} (h:1≤n∧n≤31):IntKind.u64.wrap ((BitVec.ofInt IntKind.u64.bits (IntKind.u64.wrap (-(n:Int))) &&& BitVec.ofInt IntKind.u64.bits 31).toNat:Int)=((32-n:Nat):Int):=by
 have hc:∀ n,n∈List.range 32→1≤n→IntKind.u64.wrap ((BitVec.ofInt IntKind.u64.bits (IntKind.u64.wrap (-((n:Nat):Int))) &&& BitVec.ofInt IntKind.u64.bits 31).toNat:Int)=((32-n:Nat):Int):=by decide
 exact hc n (List.mem_range.2 (by omega)) h.1
theorem vFa (x:BitVec 32) (n:Nat) (h:1≤n∧n≤31):Spec Tryz.prog 390 [uV x,.I (-(n:Int))] [] (fun r h'=>r=uV (qKj x n)∧h'=[]):=by
 have hr:=vJl h
 refine qAb hT Tryz.func390 rfl rfl rfl rfl ?_;intro E hE
 refine qAl (qAf ?_)
 refine wws ?_
 refine qAl (qAf ?_)
 refine wws ?_
 refine qAp (l:=[(0,uV x),(5,.d (.int .u64 ((32-n:Nat):Int)))]) (h':=[]) ⟨.refl _,.int hr,trivial⟩ (HLe.refl _) ?_
 have h2:IntKind.u64.wrap (32-((32-n:Nat):Int))=(n:Int):=by rw [wrapu64 (by omega)];omega
 have h3:IntKind.u32.wrap (wI x*2 ^ (min (((32-n:Nat):Int)).toNat IntKind.u32.bits))=wI (x <<< (32-n)):=by
  rw [wshl,Int.toNat_natCast,show min (32-n) 32=32-n by omega]
 have h4:Int.fdiv (wI x) (2 ^ (min (IntKind.u64.wrap (32-((32-n:Nat):Int))).toNat IntKind.u32.bits))=wI (x >>> n):=by
  rw [h2,wshr,Int.toNat_natCast,show min n 32=n by omega]
 refine ww ?_
 refine rq ⟨rfl,rfl⟩ rfl (AV.le.int ?_)
 show IntKind.u32.wrap ((BitVec.ofInt IntKind.u32.bits (IntKind.u32.wrap (wI x*2 ^ (min (((32-n:Nat):Int)).toNat IntKind.u32.bits))) ||| BitVec.ofInt IntKind.u32.bits (Int.fdiv (wI x) (2 ^ (min (IntKind.u64.wrap (32-((32-n:Nat):Int))).toNat IntKind.u32.bits)))).toNat:Int)=_
 rw [h3,h4,wI_or,rotW_comm]
def qVx (x:BitVec 32) (l:List Nat):BitVec 32:=l.foldl (fun a n=>a ^^^ qKj x n) 0
theorem rotsW_take (x:BitVec 32) (l:List Nat) {i:Nat} (h:i < l.length):qVx x (l.take (i+1))=qVx x (l.take i) ^^^ qKj x (l.getD i 0):=by
 unfold qVx
 rw [List.take_add_one,List.foldl_append,List.getElem?_eq_getElem h]
 simp [h]
theorem encNs'_at {l:List Nat} {i:Nat} (h:i < l.length):(encNs' l)[i]?=some [.int .i64 ((l.getD i 0:Nat):Int)]:=by
 unfold encNs'
 rw [List.getElem?_map,List.getElem?_eq_getElem h]
 simp [h]
theorem qYk (x:BitVec 32) (l:List Nat) (hl:l.length≤10) (hn:∀ n,n∈l→1≤n∧n≤31):Spec Tryz.prog 389 [uV x,.d (.sl 1 (encNs' l))] [] (fun r h'=>r=uV (qVx x l)∧h'=[]):=by
 have hlen:(encNs' l).length=l.length:=by simp [encNs']
 refine qAb hT Tryz.func389 rfl rfl rfl rfl ?_;intro E hE
 refine ww ?_
 refine qAq (ι:=Nat) (fun i=>[(0,uV x),(5,uV (qVx x (l.take i))),(8,.d (.sl 1 (encNs' l))),(9,.I (l.length:Int)),(10,.I (i:Int))]) (fun _=>[])
  (fun i=>i≤l.length) (fun i=>l.length-i) 0 (Nat.zero_le _) ⟨.refl _,.refl _,.refl _,.int (by rw [hlen]),.refl _,trivial⟩ (HLe.refl _) ?_
 intro i hi
 refine ww ?_
 refine qAa rfl (fun h1=>?_) (fun h1=>?_)
 ·have h1':i < l.length:=by simp at h1;omega
  have hat:=encNs'_at h1'
  have hni:1≤l.getD i 0∧l.getD i 0≤31:=by
   rw [List.getD_eq_getElem?_getD,List.getElem?_eq_getElem h1'];exact hn _ (List.getElem_mem h1')
  have hstep:=rotsW_take x l h1'
  refine ww ?_
  refine wwi hat ?_
  refine ww ?_
  refine wwc (vFa x (l.getD i 0) hni) ?_
  refine ww ?_
  exact ⟨i+1,h1',by omega,⟨.refl _,.int (by rw [hstep];exact wI_xor _ _),.refl _,.refl _,.int (by rw [qAe (by omega)];omega),trivial⟩,HLe.refl _⟩
 ·have h1':i=l.length:=by simp at h1;omega
  subst h1'
  rw [List.take_length]
  refine ww ?_
  exact wwr
theorem encB_getD {b:List UInt8} {i:Nat} (h:i < b.length):(qAj b)[i]?=some [.int .u8 ((b.getD i 0).toNat:Int)]:=encB_byte h
theorem vCe (b:List UInt8) (h:4≤b.length):Spec Tryz.prog 391 [.d (.sl 1 (qAj b))] [] (fun r h'=>r=uV (qSy b 0)∧h'=[]):=by
 have h0:=encB_getD (b:=b) (i:=0) (by omega)
 have h1:=encB_getD (b:=b) (i:=1) (by omega)
 have h2:=encB_getD (b:=b) (i:=2) (by omega)
 have h3:=encB_getD (b:=b) (i:=3) (by omega)
 refine qAb hT Tryz.func391 rfl rfl rfl rfl ?_;intro E hE
 refine ww ?_
 refine wwi h0 ?_
 refine ww ?_
 refine wwi h1 ?_
 refine ww ?_
 refine wwi h2 ?_
 refine ww ?_
 refine wwi h3 ?_
 refine ww ?_
 refine rq ⟨rfl,rfl⟩ rfl (AV.le.int ?_)
 simp only [wI_byte,wshl,wI_or]
 rfl
theorem vAa:Spec Tryz.prog 349 [] [] (fun r h'=>r=.d (.sl 1 (qFc qPq))∧h'=[]):=by
 refine qAb hT Tryz.func349 rfl rfl rfl rfl ?_;intro E hE
 refine ww ?_
 refine rq ⟨rfl,rfl⟩ rfl ?_
 exact AV.le.dat' rfl
theorem bytesOf_spec (x:BitVec 32):Spec Tryz.prog 353 [uV x] [] (fun r h'=>r=.d (.sl 1 (qAj (qEn x)))∧h'=[]):=by
 refine qAb hT Tryz.func353 rfl rfl rfl rfl ?_;intro E hE
 refine ww ?_
 refine rq ⟨rfl,rfl⟩ rfl (AV.le.dat' ?_)
 simp only [wshr,bW_wrap]
 rfl
theorem qVf (es:List (List Dat)) (hl:es.length≤1000000):Spec Tryz.prog 66 [.d (.sl 1 es)] [.room] (fun r h'=>r=.sl 1 es (.right 0)∧h'=[.right 1 es.length]):=by
 refine qAb hT Tryz.func66 rfl rfl rfl rfl ?_;intro E hE
 refine ww ?_
 refine qCr (eqNil_ok hT (fun _=>rfl) rfl rfl rfl) rfl ?_
 rintro v h' ⟨rfl,b,rfl,hb⟩
 refine ww ?_
 refine qAa rfl (fun h1=>?_) (fun h1=>?_)
 ·obtain rfl:=hb h1
  refine qAl (qAf ?_)
  refine wws ?_
  refine qBb 2 1 0 (es:=[]) (.inr ⟨rfl,rfl⟩) rfl ?_
  refine ww ?_
  exact wwr
 ·refine ww ?_
  refine qAd (qDm (i:=0) hT rfl rfl rfl (.inl rfl) (by simp) rfl rfl (by show es.length*(1+1)≤140737488355328;omega)) rfl ?_
  refine ww ?_
  exact wwr
theorem qCe (es:List (List Dat)) (hl:es.length≤1000000):Spec Tryz.prog 66 [.d (.sl 1 es)] [] (fun r h'=>r=.d (.sl 1 es)∧h'=[]):=by
 refine qAb hT Tryz.func66 rfl rfl rfl rfl ?_;intro E hE
 refine ww ?_
 refine qCr (eqNil_ok hT (fun _=>rfl) rfl rfl rfl) rfl ?_
 rintro v h' ⟨rfl,b,rfl,hb⟩
 refine ww ?_
 refine qAa rfl (fun h1=>?_) (fun h1=>?_)
 ·obtain rfl:=hb h1
  refine ww ?_
  exact qAg rfl AV.le.nils rfl rfl rfl rfl ⟨rfl,rfl⟩
 ·refine ww ?_
  refine qAd (qCz (es:=[]) hT rfl rfl rfl (.inl rfl) rfl (by show (([]:List (List Dat)).length+es.length)*(1+1)≤140737488355328;simp;omega)) rfl ?_
  refine ww ?_
  exact qAg rfl (.refl _) rfl rfl rfl rfl ⟨rfl,rfl⟩
theorem qVe (es:List (List Dat)) (hl:es.length≤1000000):Spec Tryz.prog 83 [.d (.sl 1 es)] [.room] (fun r h'=>r=.sl 1 es (.right 0)∧h'=[.right 1 es.length]):=by
 refine qAb hT Tryz.func83 rfl rfl rfl rfl ?_;intro E hE
 refine ww ?_
 refine qCr (eqNil_ok hT (fun _=>rfl) rfl rfl rfl) rfl ?_
 rintro v h' ⟨rfl,b,rfl,hb⟩
 refine ww ?_
 refine qAa rfl (fun h1=>?_) (fun h1=>?_)
 ·obtain rfl:=hb h1
  refine qAl (qAf ?_)
  refine wws ?_
  refine qBb 2 1 0 (es:=[]) (.inr ⟨rfl,rfl⟩) rfl ?_
  refine ww ?_
  exact wwr
 ·refine ww ?_
  refine qAd (qDm (i:=0) hT rfl rfl rfl (.inl rfl) (by simp) rfl rfl (by show es.length*(8+1)≤140737488355328;omega)) rfl ?_
  refine ww ?_
  exact wwr
theorem qVg (es:List (List Dat)) (hl:es.length≤1000000):Spec Tryz.prog 83 [.d (.sl 1 es)] [] (fun r h'=>r=.d (.sl 1 es)∧h'=[]):=by
 refine qAb hT Tryz.func83 rfl rfl rfl rfl ?_;intro E hE
 refine ww ?_
 refine qCr (eqNil_ok hT (fun _=>rfl) rfl rfl rfl) rfl ?_
 rintro v h' ⟨rfl,b,rfl,hb⟩
 refine ww ?_
 refine qAa rfl (fun h1=>?_) (fun h1=>?_)
 ·obtain rfl:=hb h1
  refine ww ?_
  exact qAg rfl AV.le.nils rfl rfl rfl rfl ⟨rfl,rfl⟩
 ·refine ww ?_
  refine qAd (qCz (es:=[]) hT rfl rfl rfl (.inl rfl) rfl (by show (([]:List (List Dat)).length+es.length)*(8+1)≤140737488355328;simp;omega)) rfl ?_
  refine ww ?_
  exact qAg rfl (.refl _) rfl rfl rfl rfl ⟨rfl,rfl⟩
theorem qMd (es:List (List Dat)) (hl:es.length≤1000000):Spec Tryz.prog 82 [.d (.sl 11 es)] [.room] (fun r h'=>r=.sl 11 es (.right 0)∧h'=[.right 11 es.length]):=by
 refine qAb hT Tryz.func82 rfl rfl rfl rfl ?_;intro E hE
 refine ww ?_
 refine qCr (eqNil_ok hT (fun _=>rfl) rfl rfl rfl) rfl ?_
 rintro v h' ⟨rfl,b,rfl,hb⟩
 refine ww ?_
 refine qAa rfl (fun h1=>?_) (fun h1=>?_)
 ·obtain rfl:=hb h1
  refine qAl (qAf ?_)
  refine wws ?_
  refine qBb 2 11 0 (es:=[]) (.inr ⟨rfl,rfl⟩) rfl ?_
  refine ww ?_
  exact wwr
 ·refine ww ?_
  refine qAd (qDm (i:=0) hT rfl rfl rfl (.inl rfl) (by simp) rfl rfl (by show es.length*(96+1)≤140737488355328;omega)) rfl ?_
  refine ww ?_
  exact wwr
theorem qVh (es:List (List Dat)) (hl:es.length≤1000000):Spec Tryz.prog 84 [.d (.sl 5 es)] [] (fun r h'=>r=.d (.sl 5 es)∧h'=[]):=by
 refine qAb hT Tryz.func84 rfl rfl rfl rfl ?_;intro E hE
 refine ww ?_
 refine qCr (eqNil_ok hT (fun _=>rfl) rfl rfl rfl) rfl ?_
 rintro v h' ⟨rfl,b,rfl,hb⟩
 refine ww ?_
 refine qAa rfl (fun h1=>?_) (fun h1=>?_)
 ·obtain rfl:=hb h1
  refine ww ?_
  exact qAg rfl AV.le.nils rfl rfl rfl rfl ⟨rfl,rfl⟩
 ·refine ww ?_
  refine qAd (qCz (es:=[]) hT rfl rfl rfl (.inl rfl) rfl (by show (([]:List (List Dat)).length+es.length)*(56+1)≤140737488355328;simp;omega)) rfl ?_
  refine ww ?_
  exact qAg rfl (.refl _) rfl rfl rfl rfl ⟨rfl,rfl⟩
theorem wI_nat (m:Nat):IntKind.u32.wrap (m:Int)=wI (BitVec.ofNat 32 m):=by
 rw [wrap32];unfold wI;rw [BitVec.toNat_ofNat];omega
theorem encB_rep0 (b:List UInt8) (j:Nat):qAj (b++[128]++List.replicate (j+1) 0)=qAj (b++[128]++List.replicate j 0)++[[.int .u8 0]]:=by
 rw [List.replicate_succ',← List.append_assoc,encB_append];rfl
theorem vIa (b:List UInt8) (hb:b.length≤900000):Spec Tryz.prog 351 [.d (.sl 1 (qAj b))] [] (fun r h'=>r=.d (.sl 1 (qAj (qWj b)))∧h'=[]):=by
 have hbl:=encB_length b
 have hz:=padZ_lt b.length
 have hcl:=qVf (qAj b) (by omega)
 have hp:=padW_eq b
 rw [len8 _ (by omega)] at hp
 refine qAb hT Tryz.func351 rfl rfl rfl rfl ?_;intro E hE
 refine qAo ?_
 refine ww ?_
 refine qAd (vEl (v:=.sl 1 (qAj b) (.right 0)) (H':=[.right 1 (qAj b).length]) rfl rfl hcl [0] (by decide) rfl rfl rfl rfl rfl rfl rfl) rfl ?_
 refine ww ?_
 refine qAd (qAh (i:=0) hT rfl rfl rfl rfl rfl rfl (by show ((qAj b).length+1)*(1+1)≤_;omega)) rfl ?_
 refine ww ?_
 refine qAq (ι:=Nat) (fun j=>[(0,.d (.sl 1 (qAj b))),(3,.sl 1 (qAj (b++[128]++List.replicate j 0)) (.right 0))]) (fun j=>[.right 1 (qAj (b++[128]++List.replicate j 0)).length]) (fun j=>j≤qPv b.length) (fun j=>qPv b.length-j) 0 (Nat.zero_le _)
  ⟨.refl _,.slt (by rw [List.replicate_zero,List.append_nil,encB_append];rfl),trivial⟩ ⟨⟨rfl,by simp [encB_length]⟩,trivial⟩ ?_
 intro j hj
 have hlj:(qAj (b++[128]++List.replicate j 0)).length=b.length+1+j:=by rw [encB_length];simp;omega
 have hif:=padZ_iff hj
 refine ww ?_
 refine qAa rfl (fun h1=>?_) (fun h1=>?_)
 ·have h1':j < qPv b.length:=by
   rw [hlj] at h1
   have:(b.length+1+j) % 64≠56:=fun hc=>by
    have e:Int.tmod ((b.length+1+j:Nat):Int) 64=(((b.length+1+j) % 64:Nat):Int):=rfl
    rw [e,hc] at h1;exact absurd h1 (by decide)
   have:=fun hc=>this (hif.2 hc)
   omega
  have hs:=encB_rep0 b j
  refine ww ?_
  refine qAd (qAh (i:=0) hT rfl rfl rfl rfl rfl rfl (by show ((qAj (b++[128]++List.replicate j 0)).length+1)*(1+1)≤_;omega)) rfl ?_
  refine ww ?_
  exact ⟨j+1,h1',by omega,⟨.refl _,.slt hs.symm,trivial⟩,⟨⟨rfl,by rw [hs]⟩,trivial⟩⟩
 ·have h1':j=qPv b.length:=by
   rw [hlj] at h1
   refine hif.1 ?_
   have e:Int.tmod ((b.length+1+j:Nat):Int) 64=(((b.length+1+j) % 64:Nat):Int):=rfl
   rw [e] at h1
   simp at h1
   omega
  subst h1'
  refine wwe ?_
  refine qAl (qAf ?_)
  refine wws ?_
  refine qAp (l:=[(3,.sl 1 (qAj (b++[128]++List.replicate (qPv b.length) 0)) (.right 0)),(4,.d (.int .u64 ((8*b.length:Nat):Int)))]) (h':=[.right 1 (qAj (b++[128]++List.replicate (qPv b.length) 0)).length]) ⟨.refl _,.int ?_,trivial⟩ (HLe.refl _) ?_
  ·show IntKind.u64.wrap (8*IntKind.u64.wrap ((qAj b).length:Int))=_
   rw [hbl,wrapu64 (n:=(b.length:Int)) (by omega),wrapu64 (by omega)];omega
  have h5:IntKind.u32.wrap (Int.fdiv ((8*b.length:Nat):Int) (2 ^ (min (32:Int).toNat IntKind.u64.bits)))=wI (BitVec.ofNat 32 (8*b.length / 4294967296)):=by
   rw [← wI_nat];exact congrArg IntKind.u32.wrap (qDy (8*b.length) 32)
  have h6:IntKind.u32.wrap ((8*b.length:Nat):Int)=wI (BitVec.ofNat 32 (8*b.length)):=wI_nat _
  refine ww ?_
  refine wwc (bytesOf_spec (BitVec.ofNat 32 (8*b.length / 4294967296))) ?_
  refine ww ?_
  refine qAd (qAh (i:=0) hT rfl rfl rfl rfl rfl rfl (by show ((qAj (b++[128]++List.replicate (qPv b.length) 0)).length+4)*(1+1)≤_;omega)) rfl ?_
  refine ww ?_
  refine wwc (bytesOf_spec (BitVec.ofNat 32 (8*b.length))) ?_
  refine ww ?_
  refine qAd (qAh (i:=0) hT rfl rfl rfl rfl rfl rfl (by rw [List.length_append];show ((qAj (b++[128]++List.replicate (qPv b.length) 0)).length+4+4)*(1+1)≤_;omega)) rfl ?_
  refine ww ?_
  refine rq ⟨rfl,rfl⟩ rfl (AV.le.dat' ?_)
  rw [hp,← List.append_assoc];simp only [encB_append]
theorem loadI_head {T:Tr} {t:Nat} {ti:TI} {cs:List Dat} {d:Dat} (hf:T.find t=some ti) (ha:ti.agg=false) (hd:cs[0]?=some d):vDk T t cs=some (.d d):=by
 unfold vDk;rw [hf];simp only;rw [ha];simp only;rw [hd]
def kD:List Dat:=kW.map fun x=>.int .u32 (wI x)
set_option maxRecDepth 100000 in
theorem kD_tab:qGy 5=some kD:=by kernel_rfl
set_option maxRecDepth 100000 in
theorem kD_tab4:qGy 4=some kD:=by kernel_rfl
theorem kD_at {n:Nat} (h:n < 64):(kD.drop n)[0]?=some (.int .u32 (wI (kW.getD n 0))):=by
 have hl:kW.length=64:=rfl
 unfold kD
 rw [← List.map_drop,List.getElem?_map,List.getElem?_drop,Nat.add_zero,List.getElem?_eq_getElem (by omega)]
 simp [show n < kW.length by omega]
def vC (v:Vw):List AV:=[uV v.a,uV v.b,uV v.c,uV v.d,uV v.e,uV v.f,uV v.g,uV v.h]
theorem encW_length (v:Vw):(qFc v).length=8:=rfl
theorem encW_at (v:Vw) {i:Nat} (h:i < 8):(qFc v)[i]?=some [.int .u32 (wI ((vwL v).getD i 0))]:=by
 have hl:(vwL v).length=8:=rfl
 unfold qFc
 rw [List.getElem?_map,List.getElem?_eq_getElem (by omega)]
 simp [show i < (vwL v).length by omega]
theorem vC_at (v:Vw) {i:Nat} (h:i < 8):(vC v)[i]?=some (uV ((vwL v).getD i 0)):=by
 have hl:(vwL v).length=8:=rfl
 have:vC v=(vwL v).map uV:=rfl
 rw [this,List.getElem?_map,List.getElem?_eq_getElem (by omega)]
 simp [show i < (vwL v).length by omega]
def vEw (v r:Vw):Vw:=⟨v.a+r.a,v.b+r.b,v.c+r.c,v.d+r.d,v.e+r.e,v.f+r.f,v.g+r.g,v.h+r.h⟩
theorem addV_at (v r:Vw) {i:Nat} (h:i < 8):(vwL (vEw v r)).getD i 0=(vwL v).getD i 0+(vwL r).getD i 0:=by
 rcases (by omega:i=0∨i=1∨i=2∨i=3∨i=4∨i=5∨i=6∨i=7) with rfl | rfl | rfl | rfl | rfl | rfl | rfl | rfl <;> rfl
def vBy (v r:Vw) (i:Nat):List AV:=((vwL (vEw v r)).take i).map uV++List.replicate (8-i) (uV 0)
theorem sumC_set (v r:Vw) {i:Nat} (h:i < 8):(vBy v r i).set i (uV ((vwL v).getD i 0+(vwL r).getD i 0))=vBy v r (i+1):=by
 rw [← addV_at v r h]
 have hl:(vwL (vEw v r)).length=8:=rfl
 unfold vBy
 rw [List.take_add_one,List.map_append,List.set_append_right _ _ (by simp [hl];omega),show 8-i=(8-(i+1))+1 by omega,List.replicate_succ,List.append_assoc]
 simp [hl,show min i 8=i by omega,h]
theorem sumC_length (v r:Vw) {i:Nat} (h:i≤8):(vBy v r i).length=8:=by
 have hl:(vwL (vEw v r)).length=8:=rfl
 unfold vBy;simp [hl];omega
theorem sumC_all (v r:Vw):RowDat (vBy v r 8) 0 1 (qFc (vEw v r)):=by
 refine ⟨fun e he=>?_,fun i e j d he hd=>?_⟩
 ·simp only [qFc,List.mem_map] at he
  obtain ⟨b,_,rfl⟩:=he;rfl
 ·have hi:i < 8:=by have:=(List.getElem?_eq_some_iff.1 he).1;simpa [encW_length] using this
  rw [encW_at _ hi] at he
  cases he
  cases j with
  | zero =>
   simp at hd;subst hd
   have:vBy v r 8=vC (vEw v r):=rfl
   exact ⟨uV ((vwL (vEw v r)).getD i 0),by rw [this,Nat.zero_add,Nat.mul_one,Nat.add_zero];exact vC_at _ hi,rfl⟩
  | succ j=>simp at hd
theorem compW_eq (v:Vw) (b:List UInt8):qUe v b=vEw v (qGo v (qJt b 64) 64):=rfl
theorem vEd (b:List UInt8) (t:Nat):qSy (b.drop t) 0=qSy b t:=by
 unfold qSy
 simp only [List.getD_eq_getElem?_getD,List.getElem?_drop,Nat.zero_add,Nat.add_zero]
theorem rots2 (x:BitVec 32) (i j:Nat):qVx x [i,j]=qKj x i ^^^ qKj x j:=by
 show (0#32 ^^^ qKj x i) ^^^ qKj x j=_
 rw [BitVec.zero_xor]
theorem rots3 (x:BitVec 32) (i j k:Nat):qVx x [i,j,k]=qKj x i ^^^ qKj x j ^^^ qKj x k:=by
 show ((0#32 ^^^ qKj x i) ^^^ qKj x j) ^^^ qKj x k=_
 rw [BitVec.zero_xor]
theorem qTk (x:BitVec 32) (i j:Nat) (hi:1≤i∧i≤31) (hj:1≤j∧j≤31):Spec Tryz.prog 389 [uV x,.d (.sl 1 [[.int .i64 (i:Int)],[.int .i64 (j:Int)]])] [] (fun r h'=>r=uV (qKj x i ^^^ qKj x j)∧h'=[]):=by
 rw [← rots2]
 exact qYk x [i,j] (by simp) (fun n hn=>by simp at hn;rcases hn with rfl | rfl <;> assumption)
theorem qTj (x:BitVec 32) (i j k:Nat) (hi:1≤i∧i≤31) (hj:1≤j∧j≤31) (hk:1≤k∧k≤31):Spec Tryz.prog 389 [uV x,.d (.sl 1 [[.int .i64 (i:Int)],[.int .i64 (j:Int)],[.int .i64 (k:Int)]])] [] (fun r h'=>r=uV (qKj x i ^^^ qKj x j ^^^ qKj x k)∧h'=[]):=by
 rw [← rots3]
 exact qYk x [i,j,k] (by simp) (fun n hn=>by simp at hn;rcases hn with rfl | rfl | rfl <;> assumption)
theorem roundW_zero (v:Vw) (w:List (BitVec 32)):qGo v w 0=v:=rfl
theorem roundW_succ (v:Vw) (w:List (BitVec 32)) (n:Nat):qGo v w (n+1)=vGj (qGo v w n) (kW.getD n 0) (w.getD n 0):=rfl
theorem qSs (v:Vw) (b:List UInt8) (hb:b.length=64):Spec Tryz.prog 352 [.d (.sl 1 (qFc v)),.d (.sl 1 (qAj b))] [] (fun r h'=>r=.tup [.d (.sl 1 (qFc (qUe v b))),.I 0]∧h'=[]):=by
 have hbl:=encB_length b
 obtain ⟨m,hm⟩:∃ m:Nat,m=64:=⟨_,rfl⟩
 have hfin:qUe v b=vEw v (qGo v (qJt b m) m):=by subst hm;exact compW_eq v b
 have hcw:∀ n,n < m→(cellsW b m)[n]?=some (uV ((qJt b m).getD n 0)):=by subst hm;exact fun n h=>cells64 b h
 rw [hfin]
 clear hfin
 refine qAb hT Tryz.func352 rfl rfl rfl rfl ?_;intro E hE
 refine ww ?_
 refine qAa rfl (fun c1=>?_) (fun c1=>?_)
 ·exact absurd c1 (by simp [encW_length,hbl,hb])
 refine ww ?_
 refine qAq (ι:=Nat) (fun t=>[(0,.d (.sl 1 (qFc v))),(1,.d (.sl 1 (qAj b))),(6,.fn (.func 389) [] []),(7,.ptr 0 0),(27,.I (t:Int))]) (fun t=>[.row (cellsW b t)]) (fun t=>t≤m) (fun t=>m-t) 0 (Nat.zero_le _)
  q1 ⟨ObLe.row rfl,trivial⟩ ?_
 intro t ht
 have hcl:=cellsW_length b (t:=t) (by omega)
 refine ww ?_
 refine qAa rfl (fun c2=>?_) (fun c2=>?_)
 ·have ht':t < 64:=by simp at c2;omega
  refine ww ?_
  refine qAa rfl (fun c3=>?_) (fun c3=>?_)
  ·have c3':t < 16:=by simp at c3;omega
   have hw4:IntKind.i64.wrap (4*(t:Int))=((4*t:Nat):Int):=by rw [qAe (by omega)];omega
   refine qAl (qAf ?_)
   refine wk hT rfl rfl ?_
   refine wk hT rfl rfl ?_
   refine wk hT rfl rfl ?_
   refine wk hT rfl rfl ?_
   refine wk hT rfl rfl ?_
   rw [hw4,Int.toNat_natCast,encB_drop]
   refine wwc (vCe (b.drop (4*t)) (by rw [List.length_drop];omega)) ?_
   rw [vEd]
   have hst:=cellsW_set b ht'
   rw [schW_word b c3'] at hst
   refine qAd (qAc (arrPtr_ok hT rfl rfl rfl rfl (by omega))) rfl ?_
   refine qDp (qEw hT rfl rfl rfl rfl rfl rfl (by show 0+((t:Int)).toNat*1 < (cellsW b t).length;rw [hcl];omega)) rfl ?_
   rw [show 0+((t:Int)).toNat*1=t by omega]
   refine ww ?_
   exact ⟨t+1,by omega,by omega,⟨.refl _,.refl _,.refl _,.refl _,.int (by rw [qAe (by omega)];omega),trivial⟩,⟨ObLe.row hst,trivial⟩⟩
  ·have c3':16≤t:=by simp at c3;omega
   have hx:=cellsW_at b (i:=t-15) (t:=t) (by omega)
   have hy:=cellsW_at b (i:=t-2) (t:=t) (by omega)
   have h7:=cellsW_at b (i:=t-7) (t:=t) (by omega)
   have h16:=cellsW_at b (i:=t-16) (t:=t) (by omega)
   have hst:=cellsW_set b ht'
   rw [schW_next b c3'] at hst
   generalize (qJt b t).getD (t-15) 0=x at hx hst
   generalize (qJt b t).getD (t-2) 0=y at hy hst
   generalize (qJt b t).getD (t-7) 0=z7 at h7 hst
   generalize (qJt b t).getD (t-16) 0=z16 at h16 hst
   have e15:IntKind.i64.wrap ((t:Int)-15)=((t-15:Nat):Int):=by rw [qAe (by omega)];omega
   have e2:IntKind.i64.wrap ((t:Int)-2)=((t-2:Nat):Int):=by rw [qAe (by omega)];omega
   have e7:IntKind.i64.wrap ((t:Int)-7)=((t-7:Nat):Int):=by rw [qAe (by omega)];omega
   have e16:IntKind.i64.wrap ((t:Int)-16)=((t-16:Nat):Int):=by rw [qAe (by omega)];omega
   refine ww ?_
   refine qBc (qAc (arrPtr_ok hT rfl rfl rfl rfl (by rw [e15];omega))) rfl rfl ?_
   refine qBc (qBr (v:=uV x) hT rfl rfl rfl rfl rfl (by rw [e15];show (cellsW b t)[0+((t-15:Nat):Int).toNat*1]?=_;rw [show 0+((t-15:Nat):Int).toNat*1=t-15 by omega];exact hx)) rfl rfl ?_
   refine ww ?_
   refine qBc (qAc (arrPtr_ok hT rfl rfl rfl rfl (by rw [e2];omega))) rfl rfl ?_
   refine qBc (qBr (v:=uV y) hT rfl rfl rfl rfl rfl (by rw [e2];show (cellsW b t)[0+((t-2:Nat):Int).toNat*1]?=_;rw [show 0+((t-2:Nat):Int).toNat*1=t-2 by omega];exact hy)) rfl rfl ?_
   refine wwn ?_
   refine qAp (l:=[(0,.d (.sl 1 (qFc v))),(1,.d (.sl 1 (qAj b))),(6,.fn (.func 389) [] []),(7,.ptr 0 0),(8,.I (t:Int)),(9,uV x),(10,uV y),(27,.I (t:Int))]) (h':=[.row (cellsW b t)]) q1 (HLe.refl _) ?_
   refine qBp (fun _=>[0]) (fun i=>bif Nat.beq i 27 then [0] else []) mixed (by kernel_rfl) ?_
   refine wwg ?_
   refine qAk (os:=[]) (fun k hk1 hk2=>buildSl_ok hT rfl rfl) rfl ?_
   refine wwdc (qTk y 17 19 (by omega) (by omega)) ?_
   refine wwg ?_
   refine qAk (os:=[]) (fun k hk1 hk2=>qAc (arrPtr_ok hT rfl rfl rfl rfl (by rw [e7];omega))) rfl ?_
   refine qAk (v:=uV z7) (os:=[]) (fun k hk1 hk2=>qBr hT rfl rfl ((hk2 0 List.mem_cons_self).trans rfl) rfl rfl (by rw [e7];show (cellsW b t)[0+((t-7:Nat):Int).toNat*1]?=_;rw [show 0+((t-7:Nat):Int).toNat*1=t-7 by omega];exact h7)) rfl ?_
   refine wwg ?_
   refine qAk (os:=[]) (fun k hk1 hk2=>buildSl_ok hT rfl rfl) rfl ?_
   refine wwdc (qTk x 7 18 (by omega) (by omega)) ?_
   refine wwg ?_
   refine qAk (os:=[]) (fun k hk1 hk2=>qAc (arrPtr_ok hT rfl rfl rfl rfl (by rw [e16];omega))) rfl ?_
   refine qAk (v:=uV z16) (os:=[]) (fun k hk1 hk2=>qBr hT rfl rfl ((hk2 0 List.mem_cons_self).trans rfl) rfl rfl (by rw [e16];show (cellsW b t)[0+((t-16:Nat):Int).toNat*1]?=_;rw [show 0+((t-16:Nat):Int).toNat*1=t-16 by omega];exact h16)) rfl ?_
   refine wwg ?_
   refine qAk (os:=[]) (fun k hk1 hk2=>qAc (arrPtr_ok hT rfl rfl rfl rfl (by omega))) rfl ?_
   have hval:∀ r,r=wI (sg1 y+z7+sg0 x+z16)→(cellsW b t).set (0+((t:Int)).toNat*1) (.d (.int .u32 r))=cellsW b (t+1):=by
    intro r hr;subst hr;rw [show 0+((t:Int)).toNat*1=t by omega];exact hst
   refine qAk (v:=.any) (os:=[.row ((cellsW b t).set (0+((t:Int)).toNat*1) _)]) (fun k hk1 hk2=>qEw hT rfl rfl ((hk2 0 List.mem_cons_self).trans rfl) rfl rfl rfl (by show 0+((t:Int)).toNat*1 < (cellsW b t).length;rw [hcl];omega)) rfl ?_
   refine wwg ?_
   refine ww ?_
   exact ⟨t+1,by omega,by omega,⟨.refl _,.refl _,.refl _,.refl _,.int (by rw [qAe (by omega)];omega),trivial⟩,⟨ObLe.row (hval _ (by simp only [wshr,wI_xor,wI_add];rfl)),trivial⟩⟩
 have ht':t=m:=by simp at c2;omega
 subst ht'
 generalize cellsW b t=cw at hcw hcl ⊢
 generalize qJt b t=w at hcw ⊢
 refine ww ?_
 refine qAd (qAc (sliceArr_ok hT rfl rfl rfl (by rw [encW_length];omega))) rfl ?_
 refine ww ?_
 refine qAq (ι:=Nat) (fun n=>[(0,.d (.sl 1 (qFc v))),(6,.fn (.func 389) [] []),(7,.ptr 0 0),(11,.ptr 1 0),(78,.I (n:Int))]) (fun n=>[.row (cw),.row (vC (qGo v w n))]) (fun n=>n≤t) (fun n=>t-n) 0 (Nat.zero_le _)
  q1 ⟨ObLe.refl _,ObLe.row (by rw [roundW_zero];rfl),trivial⟩ ?_
 intro n hn
 refine ww ?_
 refine qAa rfl (fun c3=>?_) (fun c3=>?_)
 ·have hn':n < 64:=by simp at c3;omega
  have hr1:=roundW_succ v w n
  have hwn:=hcw n (by omega)
  have hkn:=kD_at hn'
  generalize qGo v w n=r at hr1 ⊢
  generalize w.getD n 0=wn at hr1 hwn
  generalize kW.getD n 0=kn at hr1 hkn
  refine ww ?_
  first | refine qAd (qAc (arrPtr_ok hT rfl rfl rfl rfl (by decide))) rfl ?_ | refine qBc (qAc (arrPtr_ok hT rfl rfl rfl rfl (by decide))) rfl rfl ?_
  refine ww ?_
  first | refine qAd (qAc (arrPtr_ok hT rfl rfl rfl rfl (by decide))) rfl ?_ | refine qBc (qAc (arrPtr_ok hT rfl rfl rfl rfl (by decide))) rfl rfl ?_
  refine wwn ?_
  refine qAp (l:=[(0,.d (.sl 1 (qFc v))),(6,.fn (.func 389) [] []),(7,.ptr 0 0),(11,.ptr 1 0),(12,.I (n:Int)),(13,uV r.a),(14,uV r.e),(78,.I (n:Int))]) (h':=[.row (cw),.row (vC r)]) q1 (HLe.refl _) ?_
  refine wx mixed ?_
  refine wws ?_
  first | refine qAd (qAc (arrPtr_ok hT rfl rfl rfl rfl (by decide))) rfl ?_ | refine qBc (qAc (arrPtr_ok hT rfl rfl rfl rfl (by decide))) rfl rfl ?_
  refine wws ?_
  refine wwc (qTj r.e 6 11 25 (by omega) (by omega) (by omega)) ?_
  refine wws ?_
  first | refine qAd (qAc (arrPtr_ok hT rfl rfl rfl rfl (by decide))) rfl ?_ | refine qBc (qAc (arrPtr_ok hT rfl rfl rfl rfl (by decide))) rfl rfl ?_
  refine wws ?_
  first | refine qAd (qAc (arrPtr_ok hT rfl rfl rfl rfl (by decide))) rfl ?_ | refine qBc (qAc (arrPtr_ok hT rfl rfl rfl rfl (by decide))) rfl rfl ?_
  refine wws ?_
  refine qBc (qAc (arrAddr_ok (cs:=kD) hT rfl rfl (by show (match qGy 5 with | some cs=>AV.iptr cs | none=>.any)=_;rw [kD_tab]) rfl (by omega))) rfl rfl ?_
  refine qBc (qAc (loadI_ok hT rfl rfl (loadI_head rfl rfl (by rw [show ((n:Int)).toNat*1=n by omega];exact hkn)))) rfl rfl ?_
  refine wws ?_
  refine qBc (qAc (arrPtr_ok hT rfl rfl rfl rfl (by omega))) rfl rfl ?_
  refine qBc (qBr (v:=uV wn) hT rfl rfl rfl rfl rfl (by show (cw)[0+((n:Int)).toNat*1]?=_;rw [show 0+((n:Int)).toNat*1=n by omega];exact hwn)) rfl rfl ?_
  refine wwn ?_
  refine qAp (l:=[(0,.d (.sl 1 (qFc v))),(6,.fn (.func 389) [] []),(7,.ptr 0 0),(11,.ptr 1 0),(12,.I (n:Int)),(13,uV r.a),(14,uV r.e),(15,uV (r.h+bs1 r.e+((r.e &&& r.f) ^^^ (~~~ r.e &&& r.g))+kn+wn)),(78,.I (n:Int))]) (h':=[.row cw,.row (vC r)])
   ⟨.refl _,.refl _,.refl _,.refl _,.refl _,.refl _,.refl _,.int (by simp only [wI_not,wI_and,wI_xor,wI_add,uV];rfl),.refl _,trivial⟩ (HLe.refl _) ?_
  generalize hT1:r.h+bs1 r.e+((r.e &&& r.f) ^^^ (~~~ r.e &&& r.g))+kn+wn=T1
  refine wx mixed ?_
  refine wws ?_
  refine wwc (qTj r.a 2 13 22 (by omega) (by omega) (by omega)) ?_
  refine wws ?_
  first | refine qAd (qAc (arrPtr_ok hT rfl rfl rfl rfl (by decide))) rfl ?_ | refine qBc (qAc (arrPtr_ok hT rfl rfl rfl rfl (by decide))) rfl rfl ?_
  refine wws ?_
  first | refine qAd (qAc (arrPtr_ok hT rfl rfl rfl rfl (by decide))) rfl ?_ | refine qBc (qAc (arrPtr_ok hT rfl rfl rfl rfl (by decide))) rfl rfl ?_
  refine wws ?_
  first | refine qAd (qAc (arrPtr_ok hT rfl rfl rfl rfl (by decide))) rfl ?_ | refine qBc (qAc (arrPtr_ok hT rfl rfl rfl rfl (by decide))) rfl rfl ?_
  refine wws ?_
  first | refine qAd (qAc (arrPtr_ok hT rfl rfl rfl rfl (by decide))) rfl ?_ | refine qBc (qAc (arrPtr_ok hT rfl rfl rfl rfl (by decide))) rfl rfl ?_
  refine wws ?_
  refine qAp (l:=[(0,.d (.sl 1 (qFc v))),(6,.fn (.func 389) [] []),(7,.ptr 0 0),(11,.ptr 1 0),(15,uV T1),(16,uV (bs0 r.a+((r.a &&& r.b) ^^^ (r.a &&& r.c) ^^^ (r.b &&& r.c)))),(78,.I (n:Int))]) (h':=[.row cw,.row (vC r)])
   ⟨.refl _,.refl _,.refl _,.refl _,.refl _,.int (by simp only [wI_not,wI_and,wI_xor,wI_add,uV];rfl),.refl _,trivial⟩ (HLe.refl _) ?_
  generalize hT2:bs0 r.a+((r.a &&& r.b) ^^^ (r.a &&& r.c) ^^^ (r.b &&& r.c))=T2
  have hfv:vC (vGj r kn wn)=[uV (T1+T2),uV r.a,uV r.b,uV r.c,uV (r.d+T1),uV r.e,uV r.f,uV r.g]:=by rw [← hT1,← hT2];rfl
  refine ww ?_
  first | refine qAd (qAc (arrPtr_ok hT rfl rfl rfl rfl (by decide))) rfl ?_ | refine qBc (qAc (arrPtr_ok hT rfl rfl rfl rfl (by decide))) rfl rfl ?_
  refine ww ?_
  first | refine qAd (qAc (arrPtr_ok hT rfl rfl rfl rfl (by decide))) rfl ?_ | refine qBc (qAc (arrPtr_ok hT rfl rfl rfl rfl (by decide))) rfl rfl ?_
  refine ww ?_
  first | refine qAd (qAc (arrPtr_ok hT rfl rfl rfl rfl (by decide))) rfl ?_ | refine qBc (qAc (arrPtr_ok hT rfl rfl rfl rfl (by decide))) rfl rfl ?_
  refine ww ?_
  first | refine qAd (qAc (arrPtr_ok hT rfl rfl rfl rfl (by decide))) rfl ?_ | refine qBc (qAc (arrPtr_ok hT rfl rfl rfl rfl (by decide))) rfl rfl ?_
  refine ww ?_
  first | refine qAd (qAc (arrPtr_ok hT rfl rfl rfl rfl (by decide))) rfl ?_ | refine qBc (qAc (arrPtr_ok hT rfl rfl rfl rfl (by decide))) rfl rfl ?_
  refine ww ?_
  first | refine qAd (qAc (arrPtr_ok hT rfl rfl rfl rfl (by decide))) rfl ?_ | refine qBc (qAc (arrPtr_ok hT rfl rfl rfl rfl (by decide))) rfl rfl ?_
  refine ww ?_
  first | refine qAd (qAc (arrPtr_ok hT rfl rfl rfl rfl (by decide))) rfl ?_ | refine qBc (qAc (arrPtr_ok hT rfl rfl rfl rfl (by decide))) rfl rfl ?_
  refine ww ?_
  exact ⟨n+1,by omega,by omega,⟨.refl _,.refl _,.refl _,.refl _,.int (by rw [qAe (by omega)];omega),trivial⟩,⟨ObLe.refl _,ObLe.row (by rw [hr1,hfv];simp only [uV,wI_add]),trivial⟩⟩
 have hn':n=t:=by simp at c3;omega
 subst hn'
 generalize qGo v w n=r
 refine ww ?_
 refine qAd (makeRow1_ok (n:=8) hT rfl rfl rfl rfl (by decide) (by decide)) rfl ?_
 refine ww ?_
 refine qAq (ι:=Nat) (fun i=>[(0,.d (.sl 1 (qFc v))),(11,.ptr 1 0),(17,.row 2 0 8 8),(154,.I 8),(155,.I (i:Int))]) (fun i=>[.row cw,.row (vC r),.row (vBy v r i)]) (fun i=>i≤8) (fun i=>8-i) 0 (Nat.zero_le _)
  q1 ⟨ObLe.refl _,ObLe.refl _,ObLe.row rfl,trivial⟩ ?_
 intro i hi
 refine ww ?_
 refine qAa rfl (fun c4=>?_) (fun c4=>?_)
 ·have hi':i < 8:=by simp at c4;omega
  have hs:=sumC_set v r hi'
  have hv:=encW_at v hi'
  have hr:=vC_at r hi'
  have hsl:=sumC_length v r hi
  generalize (vwL v).getD i 0=x at hs hv
  generalize (vwL r).getD i 0=y at hs hr
  refine wwn ?_
  refine qBp (fun i=>bif Nat.beq i 8 then [1] else bif Nat.beq i 11 then [2] else []) (fun i=>bif Nat.beq i 11 then [2] else []) mixed (by kernel_rfl) ?_
  refine wwg ?_
  refine qAk (os:=[]) (fun k hk1 hk2=>qAc (indexAddr_ok hT rfl rfl rfl rfl (by omega) hv)) rfl ?_
  refine wwg ?_
  refine qAk (os:=[]) (fun k hk1 hk2=>qAc (arrPtr_ok hT rfl rfl rfl rfl (by omega))) rfl ?_
  refine qAk (v:=uV y) (os:=[]) (fun k hk1 hk2=>qBr hT rfl rfl ((hk2 1 List.mem_cons_self).trans rfl) rfl rfl (by show (vC r)[0+((i:Int)).toNat*1]?=_;rw [show 0+((i:Int)).toNat*1=i by omega];exact hr)) rfl ?_
  refine wwg ?_
  refine qAk (os:=[]) (fun k hk1 hk2=>qAc (rowAddr_ok (sz:=1) hT rfl rfl rfl rfl (by omega))) rfl ?_
  have hval:∀ z,z=wI (x+y)→(vBy v r i).set (0+((i:Int)).toNat*1) (.d (.int .u32 z))=vBy v r (i+1):=by
   intro z hz;subst hz;rw [show 0+((i:Int)).toNat*1=i by omega];exact hs
  refine qAk (v:=.any) (os:=[.row ((vBy v r i).set (0+((i:Int)).toNat*1) _)]) (fun k hk1 hk2=>qEw hT rfl rfl ((hk2 2 List.mem_cons_self).trans rfl) rfl rfl rfl (by show 0+((i:Int)).toNat*1 < (vBy v r i).length;rw [hsl];omega)) rfl ?_
  refine wwg ?_
  refine ww ?_
  exact ⟨i+1,hi',by omega,⟨.refl _,.refl _,.refl _,.refl _,.int (by rw [qAe (by omega)];omega),trivial⟩,⟨ObLe.refl _,ObLe.refl _,ObLe.row (hval _ (wI_add x y)),trivial⟩⟩
 have hi':i=8:=by simp at c4;omega
 subst hi'
 refine wwe ?_
 refine qKz 17 2 1 (qFc (vEw v r)) rfl rfl rfl (by decide) (sumC_all v r) ?_
 refine ww ?_
 exact wwr
end Tdoc
namespace Tdoc
open Go
open Go Go.Proofs
def bOf (n:Int):UInt8:=UInt8.ofNat (n % 256).toNat
theorem bOf_wrap (n:Int):IntKind.u8.wrap n=((bOf n).toNat:Int):=by
 rw [qCi];unfold bOf;rw [toNat_ofNat (by omega)];omega
theorem qYg (n:Int):Int.fdiv n (2 ^ (min (8:Int).toNat IntKind.i64.bits))=n / 256:=by
 rw [show (2 ^ (min (8:Int).toNat IntKind.i64.bits):Int)=256 from rfl,Int.fdiv_eq_ediv_of_nonneg _ (by omega)]
structure Tpl where
 kind:Int
 part:Int
 frm:Int
 til:Int
 fmt:Int
 qual:Int
 data:List UInt8
def vMt (t:Tpl):List Dat:=[.int .i64 t.kind,.int .i64 t.part,.int .i64 t.frm,.int .i64 t.til,.int .i64 t.fmt,.int .i64 t.qual,.sl 1 (qAj t.data)]
def qJi (l:List Tpl):List (List Dat):=l.map vMt
theorem encTs_length (l:List Tpl):(qJi l).length=l.length:=by simp [qJi]
theorem encTs_at {l:List Tpl} {i:Nat} (h:i < l.length):(qJi l)[((i:Int)).toNat]?=some (vMt l[i]):=by simp [qJi,h]
def qNf (t:Tpl):List AV:=[.d (.int .i64 t.kind),.d (.int .i64 t.part),.d (.int .i64 t.frm),.d (.int .i64 t.til),.d (.int .i64 t.fmt),.d (.int .i64 t.qual),.d (.sl 1 (qAj t.data))]
def tAV (t:Tpl):AV:=.agg (qNf t)
def qNq (k:Int):Int:=if k=2 then 10 else if k=3 then 2 else 0
def qMl (n:Int):Bool:=decide (0≤n∧n≤73048)
def qDu (t:Tpl):Int :=
 if t.kind≠1∧t.kind≠2∧t.kind≠3 then 14
 else if t.part < 0∨t.part > qNq t.kind∨(qNq t.kind > 0∧t.part=0) then 14
 else if qMl t.frm=false∨qMl t.til=false∨t.frm > t.til then 8
 else if t.fmt < 0∨t.fmt > 65535∨t.qual < 0∨t.qual > 100 then 3
 else if t.data.length < 1∨t.data.length > 1024 then 2 else 0
theorem validT_ok {t:Tpl} (h:qDu t=0):0≤t.frm∧t.frm≤73048∧0≤t.til∧t.til≤73048∧0≤t.fmt∧t.fmt≤65535∧0≤t.qual∧t.qual≤100∧0≤t.part∧t.part≤10∧1≤t.kind∧t.kind≤3∧1≤t.data.length∧t.data.length≤1024:=by
 unfold qDu at h
 split at h
 ·exact absurd h (by omega)
 split at h
 ·exact absurd h (by omega)
 split at h
 ·exact absurd h (by omega)
 split at h
 ·exact absurd h (by omega)
 split at h
 ·exact absurd h (by omega)
 rename_i h1 h2 h3 h4 h5
 have hm:qNq t.kind≤10:=by unfold qNq;split <;> (try split) <;> omega
 simp only [not_or,Bool.not_eq_false,qMl,decide_eq_true_eq] at h3
 omega
def qIl (t:Tpl):List Node:=[.mk 129 [bOf t.kind] [],.mk 130 [bOf t.part] [],.mk 131 (qAw 4 t.frm.toNat) [],.mk 132 (qAw 4 t.til.toNat) [],.mk 133 [bOf t.qual] [],.mk 136 [bOf (t.fmt / 256),bOf t.fmt] []]
def qJl (t:Tpl):Node:=.mk 32608 [] [.mk 161 [] (qIl t),.mk 24366 t.data []]
def qFb:List Tpl→Int
 | []=>0
 | t::l=>if qDu t≠0 then qDu t else qFb l
theorem firstT_mem:∀ {l:List Tpl},qFb l=0→∀ t∈l,qDu t=0
 | [],_,t,ht=>by cases ht
 | a::l,h,t,ht=>by
  rw [qFb] at h
  split at h
  ·rename_i h1;exact absurd h h1
  ·rename_i h1
   rcases List.mem_cons.1 ht with rfl | ht
   ·simpa using h1
   ·exact firstT_mem h t ht
def qMh (l:List Tpl):List Node:=.mk 2 [bOf (l.length:Int)] []::l.map qJl
def qJj (l:List Tpl):List Node×Int:=if l.length < 1∨l.length > 8 then ([],2) else if qFb l≠0 then ([],qFb l) else ([.mk 32609 [] (qMh l)],0)
def qWw (n:Int) (l:List Tpl):Bool:=l.all fun t=>decide (t.kind=n-1)
def vBd (n:Int) (l:List Tpl):List UInt8×Int :=
 if n < 2∨n > 4 then ([],3) else if (qJj l).2≠0 then ([],(qJj l).2) else if qWw n l=false then ([],14) else qEf n (qJj l).1
structure Inf where
 proto:Int
 ver:Int
 par:Int
 key:Int
 kid:Int
def vMh (x:Inf):List Dat:=[.int .i64 x.proto,.int .i64 x.ver,.int .i64 x.par,.int .i64 x.key,.int .i64 x.kid]
def qFt (l:List Inf):List (List Dat):=l.map vMh
theorem encFs_length (l:List Inf):(qFt l).length=l.length:=by simp [qFt]
theorem encFs_at {l:List Inf} {i:Nat} (h:i < l.length):(qFt l)[((i:Int)).toNat]?=some (vMh l[i]):=by simp [qFt,h]
def qQj (x:Inf):List AV:=[.d (.int .i64 x.proto),.d (.int .i64 x.ver),.d (.int .i64 x.par),.d (.int .i64 x.key),.d (.int .i64 x.kid)]
def vLp (p:Int):Int:=if p=2∨p=3 then 31 else 0
def vLw (p:Int):Int:=if p=4 then 255 else 0
def infE (x:Inf):Int :=
 if x.proto < 2∨x.proto > 6 then 14
 else if x.ver < 1∨x.ver > 255∨x.par < 0∨x.par > vLp x.proto∨x.kid < 0∨x.kid > vLw x.proto then 3
 else if (x.proto=4∧qDj x.key=false)∨(x.proto≠4∧x.key≠0) then 10 else 0
def vKc (p x:Inf):Bool:=decide (x.proto < p.proto∨(x.proto=p.proto∧x.kid≤p.kid))
def vBz:Option Inf→List Inf→Int
 | _,[]=>0
 | p,x::l=>if infE x≠0 then infE x else if (match p with | none=>false | some p=>vKc p x)=true then 17 else vBz (some x) l
theorem infL_nil (p:Option Inf):vBz p []=0:=by cases p <;> rfl
theorem infL_cons (p:Option Inf) (x:Inf) (l:List Inf):vBz p (x::l)=if infE x≠0 then infE x else if (match p with | none=>false | some p=>vKc p x)=true then 17 else vBz (some x) l:=by cases p <;> rfl
def validI (l:List Inf):Int:=if l.length > 16 then 2 else vBz none l
def idB (p:Int):List UInt8:=[4,0,127,0,7,2,2]++(if p=2 then [4,1] else if p=3 then [4,2] else if p=4 then [3,1] else if p=5 then [2,1] else [5,1])
def qKp (x:Inf):Node:=.mk 48 [] ([.mk 6 (idB x.proto) [],.mk 2 [bOf x.ver] []]++(if x.proto=2∨x.proto=3 then [.mk 2 [bOf x.par] []] else if x.proto=4 then [.mk 4 (qAw 4 x.key.toNat) [],.mk 2 [bOf x.kid] []] else []))
def qHt (l:List Inf):Node:=.mk 49 [] (l.map qKp)
def infosF (l:List Inf):List UInt8×Int:=if validI l≠0 then ([],validI l) else qEf 14 [qHt l]
def qPb (z:Zon):List UInt8×Int:=if validZ z≠0 then ([],validZ z) else qEf 1 [.mk 24351 (qCp z).flatten []]
theorem octB4_len (n:Nat):(qAw 4 n).length=4:=octB_length 4 n
theorem headT_fit (t:Tpl):qJx (qIl t)∧qAu (qIl t)=6:=by
 refine ⟨?_,by simp [qIl,qAu,qCg]⟩
 simp [qIl,qJx,vGb,octB4_len]
theorem objT_fit {t:Tpl} (h:t.data.length≤1000000):vGb (qJl t)∧qCg (qJl t)=9:=by
 have ⟨h1,h2⟩:=headT_fit t
 refine ⟨?_,by simp [qJl,qCg,qAu,h2]⟩
 exact ⟨by omega,by simp,by simp,⟨⟨by omega,by simp,by simp [qIl],h1⟩,⟨by omega,by omega,by simp,trivial⟩,trivial⟩⟩
theorem objTs_fit:∀ {l:List Tpl},(∀ t∈l,t.data.length≤1000000)→qJx (l.map qJl)∧qAu (l.map qJl)=9*l.length
 | [],_=>by simp [qJx,qAu]
 | t::l,h=>by
  have h1:=objT_fit (h t (by simp))
  have h2:=objTs_fit (l:=l) fun t ht=>h t (by simp [ht])
  rw [List.map_cons]
  exact ⟨⟨h1.1,h2.1⟩,by rw [qAu,h1.2,h2.2,List.length_cons];omega⟩
theorem encTR_fit (l:List Tpl):qJx (qJj l).1∧qAu (qJj l).1≤10000∧(qJj l).1.length≤1:=by
 unfold qJj
 split
 ·simp [qJx,qAu]
 split
 ·simp [qJx,qAu]
 rename_i h1 h2
 have h3:=objTs_fit (l:=l) fun t ht=>by have:=validT_ok (firstT_mem (by simpa using h2) t ht);omega
 have h4:(l.map qJl).length=l.length:=by simp
 simp only [qJx,vGb,qAu,qCg,qMh,h3.2,List.length_cons,h4]
 simp [h3.1]
 omega
theorem objI_fit (x:Inf):vGb (qKp x)∧qCg (qKp x)≤5:=by
 unfold qKp idB
 split
 ·split <;> (try split) <;> (try split) <;> (try split) <;> simp [vGb,qJx,qCg,qAu,octB4_len]
 ·split
  ·split <;> (try split) <;> (try split) <;> (try split) <;> simp [vGb,qJx,qCg,qAu,octB4_len]
  ·split <;> (try split) <;> (try split) <;> (try split) <;> simp [vGb,qJx,qCg,qAu,octB4_len]
theorem objIs_fit:∀ (l:List Inf),qJx (l.map qKp)∧qAu (l.map qKp)≤5*l.length
 | []=>by simp [qJx,qAu]
 | x::l=>by
  have h1:=objI_fit x
  have h2:=objIs_fit l
  rw [List.map_cons]
  exact ⟨⟨h1.1,h2.1⟩,by rw [qAu,List.length_cons];omega⟩
theorem setI_fit {l:List Inf} (h:l.length≤16):qJx [qHt l]∧qAu [qHt l]≤100:=by
 have h1:=objIs_fit l
 simp only [qHt,qJx,vGb,qAu,qCg]
 simp [h1.1]
 omega
end Tdoc
namespace Tdoc
open Go
def nbN (v:List UInt8):Nat:=v.foldl (fun n c=>256*n+c.toNat) 0
theorem nbN_snoc (v:List UInt8) (c:UInt8):nbN (v++[c])=256*nbN v+c.toNat:=by simp [nbN]
theorem nbN_lt:∀ (v:List UInt8),nbN v < 256 ^ v.length:=fun v=>by
 suffices h:∀ (v:List UInt8) (n:Nat),v.foldl (fun n c=>256*n+c.toNat) n < (n+1)*256 ^ v.length by
  have:=h v 0;simpa [nbN] using this
 intro v
 induction v with
 | nil=>intro n;simp
 | cons c v ih =>
  intro n
  have h1:=ih (256*n+c.toNat)
  have h2:=UInt8.toNat_lt c
  rw [List.foldl_cons,List.length_cons,Nat.pow_succ,Nat.mul_comm (256 ^ v.length) 256,← Nat.mul_assoc]
  exact Nat.lt_of_lt_of_le h1 (Nat.mul_le_mul_right _ (by omega))
def fldT:List (Int×Int):=[(129,1),(130,1),(131,4),(132,4),(133,1),(136,2)]
open Go Go.Proofs
theorem qUy (v:List UInt8) (h7:v.length≤7):Spec Tryz.prog 304 [.d (.sl 1 (qAj v))] [] (fun r h'=>r=.tup [.I ((nbN v:Nat):Int),.I 0]∧h'=[]):=by
 have hl:=encB_length v
 refine qAb hT Tryz.func304 rfl rfl rfl rfl ?_;intro E hE
 refine ww ?_
 refine qAa rfl (fun c1=>?_) (fun c1=>?_)
 ·exfalso;rw [hl] at c1;simp at c1;omega
 refine ww ?_
 refine qAq (ι:=Nat) (fun i=>[(0,.d (.sl 1 (qAj v))),(4,.I ((nbN (v.take i):Nat):Int)),(5,.I (i:Int))]) (fun _=>[]) (fun i=>i≤v.length) (fun i=>v.length-i) 0 (by omega) q1 (HLe.refl _) ?_
 intro i hi
 have hwr:IntKind.i64.wrap ((i:Int)+1)=((i+1:Nat):Int):=by rw [qAe (by omega)];simp
 refine ww ?_
 refine qAa rfl (fun c2=>?_) (fun c2=>?_)
 ·have c2':i < v.length:=by rw [hl] at c2;simpa using c2
  have hel:(qAj v)[((i:Int)).toNat]?=some [.int .u8 (v[i].toNat:Int)]:=by simp [qAj,c2']
  have htk:nbN (v.take (i+1))=256*nbN (v.take i)+v[i].toNat:=by rw [List.take_succ_eq_append_getElem c2',nbN_snoc]
  have hlt:nbN (v.take i) < 256 ^ 6:=Nat.lt_of_lt_of_le (nbN_lt _) (Nat.pow_le_pow_right (by omega) (by rw [List.length_take];omega))
  have h6:(256:Nat) ^ 6=281474976710656:=by decide
  rw [h6] at hlt
  have hc:=UInt8.toNat_lt v[i]
  generalize v[i]=c at hel htk hc
  generalize nbN (v.take i)=n at htk hlt
  have hw1:IntKind.i64.wrap (IntKind.i64.wrap (256*(n:Int))+IntKind.i64.wrap (c.toNat:Int))=((256*n+c.toNat:Nat):Int):=by
   rw [qAe (n:=256*(n:Int)) (by omega),qAe (n:=(c.toNat:Int)) (by omega),qAe (by omega)];omega
  refine ww ?_
  refine wwi hel ?_
  refine ww ?_
  exact ⟨i+1,by omega,by omega,⟨.refl _,.int (by rw [htk];exact hw1),.int hwr,trivial⟩,HLe.refl _⟩
 ·have c2':i=v.length:=by rw [hl] at c2;simp at c2;omega
  subst c2'
  rw [List.take_length]
  refine ww ?_
  exact wwr
def At (b:List UInt8) (e p:Nat) (s:List UInt8):Prop:=p+s.length≤e∧∀ i,i < s.length→qAr b (p+i)=(s.getD i 0).toNat
theorem At.left {b:List UInt8} {e p:Nat} {s r:List UInt8} (h:At b e p (s++r)):At b e p s:=by
 obtain ⟨h1,h2⟩:=h
 rw [List.length_append] at h1 h2
 refine ⟨by omega,fun i hi=>?_⟩
 rw [h2 i (by omega),List.getD_eq_getElem?_getD,List.getD_eq_getElem?_getD,List.getElem?_append_left hi]
theorem At.right {b:List UInt8} {e p:Nat} {s r:List UInt8} (h:At b e p (s++r)):At b e (p+s.length) r:=by
 obtain ⟨h1,h2⟩:=h
 rw [List.length_append] at h1 h2
 refine ⟨by omega,fun i hi=>?_⟩
 rw [Nat.add_assoc,h2 _ (by omega),List.getD_eq_getElem?_getD,List.getD_eq_getElem?_getD,List.getElem?_append_right (by omega),Nat.add_sub_cancel_left]
theorem At.head {b:List UInt8} {e p:Nat} {x:UInt8} {r:List UInt8} (h:At b e p (x::r)):qAr b p=x.toNat∧p < e∧At b e (p+1) r:=by
 obtain ⟨h1,h2⟩:=h
 simp only [List.length_cons] at h1 h2
 refine ⟨by simpa using h2 0 (by omega),by omega,by omega,fun i hi=>?_⟩
 have:=h2 (i+1) (by omega)
 rw [Nat.add_comm i 1,← Nat.add_assoc] at this
 rw [this,Nat.add_comm 1 i];rfl
theorem At.mono {b:List UInt8} {e e' p:Nat} {s:List UInt8} (h:At b e p s) (he:p+s.length≤e'):At b e' p s:=⟨he,h.2⟩
theorem At.whole (b:List UInt8):At b b.length 0 b:=⟨by omega,fun i hi=>by unfold qAr;rw [Nat.zero_add]⟩
theorem At.cut {b:List UInt8} {e p:Nat} {s:List UInt8} (h:At b e p s) (he:e≤b.length):(b.drop p).take s.length=s:=by
 obtain ⟨h1,h2⟩:=h
 apply List.ext_getElem
 ·simp;omega
 ·intro i h3 h4
  have:=h2 i h4
  unfold qAr at this
  rw [List.getD_eq_getElem?_getD,List.getElem?_eq_getElem (by omega),List.getD_eq_getElem?_getD,List.getElem?_eq_getElem h4] at this
  simp only [Option.getD_some] at this
  simp only [List.getElem_take,List.getElem_drop]
  exact UInt8.toNat_inj.1 this
theorem toNat_mod (n:Nat):(UInt8.ofNat n).toNat=n % 256:=by simp
theorem tagX_at {b:List UInt8} {e p:Nat} {t:Int} (ht:qCs t=true) (h:At b e p (qLe t)):qJs b e p=(t,0,p+(qLe t).length)∧qAr b p≠0:=by
 have hr:=tagOk_range ht
 unfold qLe at h ⊢
 by_cases h1:t > 255
 ·rw [if_pos h1] at h ⊢
  obtain ⟨a1,a2,a3⟩:=h.head
  obtain ⟨b1,b2,b3⟩:=a3.head
  rw [toNat_mod] at a1 b1
  have hh:qCs t=true:=ht
  unfold qCs at hh
  rw [if_neg (by omega)] at hh
  simp only [Bool.and_eq_true,decide_eq_true_eq,beq_iff_eq] at hh
  have e1:qAr b p=(t / 256).toNat:=by rw [a1];omega
  have e2:qAr b (p+1)=(t % 256).toNat:=by rw [b1];omega
  have e3:((qAr b p*256+qAr b (p+1):Nat):Int)=t:=by rw [e1,e2];omega
  refine ⟨?_,by omega⟩
  unfold qJs
  rw [if_neg (by omega),if_pos (by omega),if_neg (by omega),e3,if_pos ht]
  rfl
 ·rw [if_neg h1] at h ⊢
  obtain ⟨a1,a2,a3⟩:=h.head
  rw [toNat_mod] at a1
  have hh:qCs t=true:=ht
  unfold qCs at hh
  rw [if_pos (by omega)] at hh
  simp only [Bool.and_eq_true,decide_eq_true_eq,Bool.not_eq_true',beq_eq_false_iff_ne] at hh
  have e1:qAr b p=t.toNat:=by rw [a1];omega
  have e3:((qAr b p:Nat):Int)=t:=by rw [e1];omega
  refine ⟨?_,by omega⟩
  unfold qJs
  rw [if_neg (by omega),if_neg (by omega),e3,if_pos ht]
  rfl
inductive Steps (b:List UInt8) (f:Rd) (e:Nat):Nat→Nat→List Node→Nat→Nat→Prop where
 | nil (p c:Nat):Steps b f e p c [] p c
 | cons {p c p1 c1 p2 c2:Nat} {n:Node} {l:List Node}:p < e→qAr b p≠0→f p c=(n,0,p1,c1)→Steps b f e p1 c1 l p2 c2→Steps b f e p c (n::l) p2 c2
theorem Steps.loop {b:List UInt8} {f:Rd} {e p c:Nat} {l:List Node} {p2 c2:Nat} (h:Steps b f e p c l p2 c2) (h2:p2=e):∀ (m:Nat) (out:List Node),l.length < m→qEl f e m p c out=(out++l,0,e,c2):=by
 induction h with
 | nil p c =>
  intro m out hm
  obtain ⟨m,rfl⟩:∃ k,m=k+1:=⟨m-1,by omega⟩
  rw [qEl,if_neg (by omega),List.append_nil,h2]
 | cons h1 h3 h4 h5 ih =>
  intro m out hm
  obtain ⟨m,rfl⟩:∃ k,m=k+1:=⟨m-1,by omega⟩
  rw [qEl,if_pos h1,h4,if_neg (by simp)]
  simp only
  rw [ih h2 m _ (by simp only [List.length_cons] at hm;omega),List.append_assoc]
  rfl
theorem Steps.len {b:List UInt8} {f:Rd} {e p c:Nat} {l:List Node} {p2 c2:Nat} (hf:RdOk f e) (h:Steps b f e p c l p2 c2) (hp:p≤e) (hc:c≤256):p+l.length≤p2∧p2≤e:=by
 induction h with
 | nil p c=>exact ⟨by simp,hp⟩
 | cons h1 h3 h4 h5 ih =>
  have:=hf _ _ hp hc
  rw [h4] at this
  simp only at this
  obtain ⟨i1,i2⟩:=ih this.2.1 (this.2.2.2 trivial).2
  have:=(this.2.2.2 trivial).1
  exact ⟨by simp only [List.length_cons];omega,i2⟩
theorem chkN_inv {d:Nat} {t:Int} {v:List UInt8} {k:List Node} {c:Nat} (h:(qGm d (.mk t v k) c).1=0):qCs t=true∧(qBd t=false→k=[])∧(qBd t=true→v=[])∧d≤8∧(qDz (d+1) k (c+1)).1=0:=by
 rw [qGm] at h
 split at h
 ·exact absurd h (by simp)
 rename_i h1
 split at h
 ·exact absurd h (by simp)
 rename_i h2
 split at h
 ·exact absurd h (by simp)
 rename_i h3
 refine ⟨by simpa using h1,fun hc=>?_,fun hc=>?_,by omega,h⟩
 ·simp [hc] at h2;exact h2
 ·simp [hc] at h2;exact h2
theorem chkL_inv {d:Nat} {a:Node} {l:List Node} {c:Nat} (h:(qDz d (a::l) c).1=0):(qGm d a c).1=0∧(qDz d l 0).1=0:=by
 rw [qDz] at h
 split at h
 ·rename_i h1
  exact ⟨h1,by rw [chkL_any d l 0 _];exact h⟩
 ·rename_i h1;exact absurd h h1
theorem strAt_bI {s:List UInt8} {i:Nat} (h:i < s.length):qDs s (i:Int)=bI s[i]:=strAt_get h
theorem qUd {α:Type} {s:List α} {i:Nat} (h:i < s.length):s.drop i=s[i]::s.drop (i+1):=by simp
theorem wgtC_at (i:Nat):([AV.d (.int .i64 7),.I 3,.I 1]:List AV)[(Int.tmod (i:Int) 3).toNat]?=some (.I (qVl i)):=by
 rw [show Int.tmod (i:Int) 3=((i % 3:Nat):Int) from Int.ofNat_tmod i 3,Int.toNat_natCast]
 unfold qVl
 have:i % 3=0∨i % 3=1∨i % 3=2:=by omega
 rcases this with h | h | h <;> rw [h] <;> rfl
theorem wgtC_range (i:Nat):1≤qVl i∧qVl i≤7:=by unfold qVl;split <;> (try split) <;> omega
theorem digSum_snoc:∀ (i:Nat) (s:List UInt8) (c:UInt8),qDl i (s++[c])=qDl i s+qVl (i+s.length)*qQy (bI c)
 | i,[],c=>by simp [qDl]
 | i,x::s,c=>by
  rw [List.cons_append,qDl,qDl,digSum_snoc (i+1) s c,List.length_cons]
  rw [show i+1+s.length=i+(s.length+1) by omega];omega
theorem validS_take:∀ (s:List UInt8) (i:Nat),qAt s=true→qAt (s.take i)=true
 | [],i,h=>by simp [qAt]
 | c::s,0,h=>rfl
 | c::s,i+1,h=>by
  simp only [qAt,Bool.and_eq_true,List.take_succ_cons] at h ⊢
  exact ⟨h.1,validS_take s i h.2⟩
theorem validS_at:∀ {s:List UInt8} {c:UInt8},qAt s=true→c∈s→0≤qQy (bI c)
 | x::s,c,h,hm=>by
  simp only [qAt,Bool.and_eq_true,decide_eq_true_eq] at h
  rcases List.mem_cons.1 hm with rfl | hm
  ·exact h.1
  ·exact validS_at h.2 hm
theorem fillS_length (s:List UInt8):(qMj s).length=s.length:=by simp [qMj]
end Tdoc
namespace Tdoc
open Go
mutual
theorem chkN_up (d:Nat):∀ (n:Node),(qGm (d+1) n 0).1=0→(qGm d n 0).1=0
 | .mk t v k,h=>by
  have hi:=chkN_inv h
  have hk:=chkL_up (d+1) k (by rw [chkL_any (d+1+1) k 0 (0+1)];exact hi.2.2.2.2)
  rw [qGm,if_neg (by simp [hi.1]),if_neg ?_,if_neg (by have:=hi.2.2.2.1;omega)]
  ·rw [chkL_any (d+1) k (0+1) 0];exact hk
  ·cases hc:qBd t
   ·simp [hi.2.1 hc]
   ·simp [hi.2.2.1 hc]
theorem chkL_up (d:Nat):∀ (l:List Node),(qDz (d+1) l 0).1=0→(qDz d l 0).1=0
 | [],_=>rfl
 | a::l,h=>by
  have hi:=chkL_inv h
  rw [qDz,if_pos (chkN_up d a hi.1),chkL_any d l _ 0]
  exact chkL_up d l hi.2
end
open Go Go.Proofs
def vJq (v:List UInt8):Int×Int:=if 7 < v.length then (0,2) else (((nbN v:Nat):Int),0)
theorem qMa (v:List UInt8) (hv:v.length≤1000000):Spec Tryz.prog 247 [.d (.sl 1 (qAj v))] [] (fun r h'=>r=.tup [.d (.int .i64 (vJq v).1),.d (.int .i64 (vJq v).2)]∧h'=[]):=by
 have hl:=encB_length v
 unfold vJq
 by_cases h7:7 < v.length
 ·rw [if_pos h7]
  refine qAb hT Tryz.func247 rfl rfl rfl rfl ?_;intro E hE
  refine ww ?_
  refine qAa rfl (fun c1=>?_) (fun c1=>?_)
  ·refine ww ?_
   exact wwr
  ·exfalso;rw [hl] at c1;simp at c1;omega
 rw [if_neg h7]
 refine qAb hT Tryz.func247 rfl rfl rfl rfl ?_;intro E hE
 refine ww ?_
 refine qAa rfl (fun c1=>?_) (fun c1=>?_)
 ·exfalso;rw [hl] at c1;simp at c1;omega
 refine ww ?_
 refine qAq (ι:=Nat) (fun i=>[(0,.d (.sl 1 (qAj v))),(4,.I ((nbN (v.take i):Nat):Int)),(10,.d (.sl 1 (qAj v))),(11,.I ((qAj v).length:Int)),(12,.I (i:Int))]) (fun _=>[]) (fun i=>i≤v.length) (fun i=>v.length-i) 0 (by omega) q1 (HLe.refl _) ?_
 intro i hi
 have hwr:IntKind.i64.wrap ((i:Int)+1)=((i+1:Nat):Int):=by rw [qAe (by omega)];simp
 refine ww ?_
 refine qAa rfl (fun c2=>?_) (fun c2=>?_)
 ·have c2':i < v.length:=by rw [hl] at c2;simpa using c2
  have hel:(qAj v)[((i:Int)).toNat]?=some [.int .u8 (v[i].toNat:Int)]:=by simp [qAj,c2']
  have htk:nbN (v.take (i+1))=256*nbN (v.take i)+v[i].toNat:=by rw [List.take_succ_eq_append_getElem c2',nbN_snoc]
  have hlt:nbN (v.take i) < 256 ^ 6:=Nat.lt_of_lt_of_le (nbN_lt _) (Nat.pow_le_pow_right (by omega) (by rw [List.length_take];omega))
  have h6:(256:Nat) ^ 6=281474976710656:=by decide
  rw [h6] at hlt
  have hc:=UInt8.toNat_lt v[i]
  generalize v[i]=c at hel htk hc
  generalize nbN (v.take i)=n at htk hlt
  have hb8:IntKind.i64.wrap (c.toNat:Int)=(c.toNat:Int):=qAe (by omega)
  have hs8:IntKind.i64.wrap ((n:Int)*2 ^ (min (Int.toNat 8) IntKind.i64.bits))=((n*2 ^ 8:Nat):Int):=by
   rw [show min (Int.toNat 8) IntKind.i64.bits=8 from rfl,qAe (by omega)];omega
  have hw1:IntKind.i64.wrap ((BitVec.ofInt IntKind.i64.bits (IntKind.i64.wrap ((n:Int)*2 ^ (min (Int.toNat 8) IntKind.i64.bits))) ||| BitVec.ofInt IntKind.i64.bits (IntKind.i64.wrap (c.toNat:Int))).toNat:Int)=((nbN (v.take (i+1)):Nat):Int):=by
   rw [hb8,hs8,vIv (by omega) (by omega),vCq n c.toNat 8 (by omega),htk];congr 1;omega
  refine ww ?_
  refine wwi hel ?_
  refine ww ?_
  exact ⟨i+1,by omega,by omega,⟨.refl _,.int hw1,.refl _,.refl _,.int hwr,trivial⟩,HLe.refl _⟩
 ·have c2':i=v.length:=by rw [hl] at c2;simp at c2;omega
  subst c2'
  rw [List.take_length]
  refine ww ?_
  exact wwr
theorem vAm (p:Int):Spec Tryz.prog 354 [.I p] [] (fun r h'=>r=.d (.bool (decide (p≥2)&&decide (p≤6)))∧h'=[]):=by
 refine qAb hT Tryz.func354 rfl rfl rfl rfl ?_;intro E hE
 refine ww ?_
 exact wwr
theorem qNr (p:Int):Spec Tryz.prog 292 [.I p] [] (fun r h'=>r=.d (.bool (p == 2||p == 3))∧h'=[]):=by
 refine qAb hT Tryz.func292 rfl rfl rfl rfl ?_;intro E hE
 refine ww ?_
 exact wwr
theorem qTr (b:Bool) (n:Int):Spec Tryz.prog 355 [.d (.bool b),.I n] [] (fun r h'=>r=.I (if b=true then n else 0)∧h'=[]):=by
 refine qAb hT Tryz.func355 rfl rfl rfl rfl ?_;intro E hE
 refine ww ?_
 refine qAa rfl (fun c1=>?_) (fun c1=>?_)
 ·rw [if_pos c1]
  refine ww ?_
  exact wwr
 ·rw [if_neg (by rw [c1];simp)]
  refine ww ?_
  exact wwr
theorem checkI_spec (x:Inf):Spec Tryz.prog 287 [.agg (qQj x)] [] (fun r h'=>r=.I (infE x)∧h'=[]):=by
 obtain ⟨p,v,a,k,d⟩:=x
 have hK:=vAm p
 have hM:=qNr p
 have hm1:=qTr (p == 2||p == 3) 31
 have hm2:=qTr (p == 4) 255
 have hE2:=qFf k
 have e1:(if (p == 2||p == 3)=true then (31:Int) else 0)=vLp p:=by unfold vLp;simp
 have e2:(if (p == 4)=true then (255:Int) else 0)=vLw p:=by unfold vLw;simp
 rw [e1] at hm1
 rw [e2] at hm2
 unfold infE qQj
 simp only
 generalize qDj k=el at hE2
 generalize vLp p=pm at hm1
 generalize vLw p=km at hm2
 refine qAb hT Tryz.func287 rfl rfl rfl rfl ?_;intro E hE
 refine qAo ?_
 refine wwe ?_
 refine qAl (qAf ?_)
 refine qAd (boxAt_ok (i0:=0) rfl rfl rfl) rfl ?_
 refine ww ?_
 refine wwc hK ?_
 refine ww ?_
 refine qAa rfl (fun c1=>?_) (fun c1=>?_)
 ·have c1':p < 2∨p > 6:=by simp at c1;omega
  rw [if_pos c1']
  refine ww ?_
  exact wwr
 have c1':¬ (p < 2∨p > 6):=by simp at c1;omega
 rw [if_neg c1']
 refine ww ?_
 refine qAa rfl (fun c2=>?_) (fun c2=>?_)
 ·have c2':v < 1∨v > 255∨a < 0∨a > pm∨d < 0∨d > km:=by simp only [Bool.or_eq_true,decide_eq_true_eq] at c2;omega
  rw [if_pos c2']
  refine ww ?_
  exact wwr
 simp only [Bool.or_eq_false_iff,decide_eq_false_iff_not] at c2
 refine ww ?_
 refine wwgc hM ?_
 refine ww ?_
 refine wwgc hm1 ?_
 refine ww ?_
 refine qAa rfl (fun c3=>?_) (fun c3=>?_)
 ·have c3':v < 1∨v > 255∨a < 0∨a > pm∨d < 0∨d > km:=by simp only [Bool.or_eq_true,decide_eq_true_eq] at c3;omega
  rw [if_pos c3']
  refine ww ?_
  exact wwr
 simp only [Bool.or_eq_false_iff,decide_eq_false_iff_not] at c3
 refine ww ?_
 refine wwgc hm2 ?_
 refine ww ?_
 refine qAa rfl (fun c4=>?_) (fun c4=>?_)
 ·have c4':v < 1∨v > 255∨a < 0∨a > pm∨d < 0∨d > km:=by simp only [Bool.or_eq_true,decide_eq_true_eq] at c4;omega
  rw [if_pos c4']
  refine ww ?_
  exact wwr
 simp only [Bool.or_eq_false_iff,decide_eq_false_iff_not] at c4
 rw [if_neg (by omega)]
 refine ww ?_
 refine wwgc hE2 ?_
 refine ww ?_
 have hc:((p == 4&&!el)||(!(p == 4)&&k != 0))=decide ((p=4∧el=false)∨(p≠4∧k≠0)):=by
  by_cases h4:p=4 <;> cases el <;> by_cases hk:k=0 <;> simp [h4,hk]
 refine qAa rfl (fun c5=>?_) (fun c5=>?_)
 ·have c5':(p=4∧el=false)∨(p≠4∧k≠0):=by rw [hc] at c5;simpa using c5
  rw [if_pos c5']
  refine ww ?_
  exact wwr
 have c5':¬ ((p=4∧el=false)∨(p≠4∧k≠0)):=by rw [hc] at c5;exact of_decide_eq_false c5
 rw [if_neg c5']
 refine wwe ?_
 refine ww ?_
 exact wwr
def vEi (a b:Int):Int:=if a < b then -1 else if a > b then 1 else 0
def orI (a b:Int):Int:=if a≠0 then a else b
theorem orI_infO (p x:Inf):decide (orI (vEi p.proto x.proto) (vEi p.kid x.kid)≥0)=vKc p x:=by
 unfold orI vEi vKc
 rw [Bool.eq_iff_iff]
 simp only [decide_eq_true_eq]
 split <;> split <;> (try split) <;> (try split) <;> (try split) <;> omega
theorem isNaN_spec (a:Int):Spec Tryz.prog 356 [.I a] [] (fun r h'=>r=.d (.bool false)∧h'=[]):=by
 have h:(a != a)=false:=by simp
 refine qAb hT Tryz.func356 rfl rfl rfl rfl ?_;intro E hE
 refine ww ?_
 rw [h]
 exact wwr
theorem qMc (a b:Int):Spec Tryz.prog 289 [.I a,.I b] [] (fun r h'=>r=.I (vEi a b)∧h'=[]):=by
 have h1:=isNaN_spec a
 have h2:=isNaN_spec b
 unfold vEi
 refine qAb hT Tryz.func289 rfl rfl rfl rfl ?_;intro E hE
 refine ww ?_
 refine wwc h1 ?_
 refine ww ?_
 refine wwc h2 ?_
 refine ww ?_
 refine qAa rfl (fun c1=>?_) (fun c1=>?_)
 ·exact absurd c1 (by simp)
 refine ww ?_
 refine qAa rfl (fun c2=>?_) (fun c2=>?_)
 ·exact absurd c2 (by simp)
 refine ww ?_
 refine qAa rfl (fun c3=>?_) (fun c3=>?_)
 ·rw [if_pos (by simpa using c3)]
  refine ww ?_
  exact wwr
 rw [if_neg (by simpa using c3)]
 refine ww ?_
 refine qAa rfl (fun c4=>?_) (fun c4=>?_)
 ·rw [if_pos (by simpa using c4)]
  refine ww ?_
  exact wwr
 rw [if_neg (by simpa using c4)]
 refine ww ?_
 exact wwr
theorem vKw (a b:Int):Spec Tryz.prog 288 [.d (.sl 1 (qOc [a,b]))] [] (fun r h'=>r=.I (orI a b)∧h'=[]):=by
 unfold orI
 generalize hfin:(if a≠0 then a else b)=fin
 have hlen:(qOc [a,b]).length=2:=rfl
 refine qAb hT Tryz.func288 rfl rfl rfl rfl ?_;intro E hE
 refine ww ?_
 refine qAq (ι:=Nat) (fun i=>[(3,.I 0),(6,.d (.sl 1 (qOc [a,b]))),(7,.I ((qOc [a,b]).length:Int)),(8,.I (i:Int))]) (fun _=>[]) (fun i=>i≤2∧(1≤i→a=0)∧(2≤i→b=0)) (fun i=>2-i) 0 (by omega) q1 (HLe.refl _) ?_
 rintro i ⟨hi,ha,hb⟩
 have hwr:IntKind.i64.wrap ((i:Int)+1)=((i+1:Nat):Int):=by rw [qAe (by omega)];omega
 refine ww ?_
 refine qAa rfl (fun c1=>?_) (fun c1=>?_)
 ·have hlt:i < 2:=by rw [hlen] at c1;simp at c1;omega
  have hel:=encI_at (l:=[a,b]) (i:=i) hlt
  have hv:i=0∧([a,b]:List Int)[i]=a∨i=1∧([a,b]:List Int)[i]=b:=by
   match i,hlt with
   | 0,_=>exact .inl ⟨rfl,rfl⟩
   | 1,_=>exact .inr ⟨rfl,rfl⟩
  generalize ([a,b]:List Int)[i]=c at hel hv
  refine ww ?_
  refine wwi hel ?_
  refine ww ?_
  refine qAa rfl (fun c2=>?_) (fun c2=>?_)
  ·have hc:c=fin:=by
    have:c≠0:=by simpa using c2
    rw [← hfin]
    rcases hv with ⟨h0,h1⟩ | ⟨h0,h1⟩
    ·rw [if_pos (by omega)];exact h1
    ·rw [if_neg (by have:=ha (by omega);omega)];exact h1
   subst hc
   refine ww ?_
   exact wwr
  have hc:c=0:=by simpa using c2
  refine ww ?_
  exact ⟨i+1,⟨by omega,by omega,by omega⟩,by omega,⟨.refl _,.refl _,.refl _,.int hwr,trivial⟩,HLe.refl _⟩
 ·have hge:i=2:=by rw [hlen] at c1;simp at c1;omega
  have h0:fin=0:=by rw [← hfin];have:=ha (by omega);have:=hb (by omega);split <;> omega
  subst h0
  refine ww ?_
  exact wwr
def qWe (l:List Inf) (i:Nat):Option Inf:=if i=0 then none else l[i-1]?
theorem qOm (l:List Inf) (hl:l.length≤1000000):Spec Tryz.prog 188 [.d (.sl 5 (qFt l))] [] (fun r h'=>r=.I (validI l)∧h'=[]):=by
 have hll:=encFs_length l
 unfold validI
 by_cases h1:l.length > 16
 case pos =>
  rw [if_pos h1]
  refine qAb hT Tryz.func188 rfl rfl rfl rfl ?_;intro E hE
  refine ww ?_
  refine qAa rfl (fun c1=>?_) (fun c1=>?_)
  ·refine ww ?_
   exact wwr
  ·exfalso
   rw [hll] at c1
   simp at c1
   omega
 rw [if_neg h1]
 generalize hfin:vBz none l=fin
 refine qAb hT Tryz.func188 rfl rfl rfl rfl ?_;intro E hE
 refine ww ?_
 refine qAa rfl (fun c1=>?_) (fun c1=>?_)
 ·exfalso
  rw [hll] at c1
  simp at c1
  omega
 refine ww ?_
 refine qBg (ι:=Nat) (fun i=>[(0,.d (.sl 5 (qFt l))),(9,.d (.sl 5 (qFt l))),(10,.I ((qFt l).length:Int)),(11,.I (i:Int))]) (fun _=>[])
  (fun i=>i≤l.length∧vBz (qWe l i) (l.drop i)=fin) (fun i=>l.length-i) 0 ⟨by omega,by simpa [qWe] using hfin⟩ q1 (HLe.refl _) ?_
 rintro i ⟨hi,hg⟩
 have hwr:IntKind.i64.wrap ((i:Int)+1)=((i+1:Nat):Int):=by rw [qAe (by omega)];simp
 refine ww ?_
 refine qAa rfl (fun c2=>?_) (fun c2=>?_)
 ·have c2':i < l.length:=by rw [hll] at c2;simpa using c2
  have hel:=encFs_at c2'
  have hdr:l.drop i=l[i]::l.drop (i+1):=List.drop_eq_getElem_cons c2'
  have hpv:qWe l (i+1)=some l[i]:=by unfold qWe;simp [c2']
  rw [hdr,infL_cons] at hg
  have hC:=checkI_spec l[i]
  generalize l[i]=x at hel hC hpv hg
  generalize he:infE x=ve at hC hg
  obtain ⟨x1,x2,x3,x4,x5⟩:=x
  unfold qQj at hC
  unfold vMh at hel
  simp only at hC hel
  by_cases h0:i=0
  ·subst h0
   have hn:decide (((0:Nat):Int) > 0)=false:=rfl
   refine ww ?_
   refine wwi hel ?_
   refine ww ?_
   refine wwc hC ?_
   refine ww ?_
   refine qAa rfl (fun c3=>?_) (fun c3=>?_)
   ·rw [if_pos (by simpa using c3)] at hg
    subst hg
    refine ww ?_
    exact wwr
   rw [if_neg (by simpa using c3)] at hg
   refine wwk hn ?_
   refine qAa rfl (fun c4=>?_) (fun c4=>?_)
   ·exact absurd c4 (by simp)
   simp only [qWe,if_true] at hg
   rw [if_neg (by simp)] at hg
   refine ww ?_
   exact ⟨0+1,[_],⟨c2',by rw [hpv];exact hg⟩,by omega,⟨.refl _,.refl _,.refl _,.int hwr,trivial⟩,HLe.refl _,Env.below_mono hE (by simp),rfl,rfl⟩
  ·have hlt:i-1 < l.length:=by omega
   have help:(qFt l)[(IntKind.i64.wrap ((i:Int)-1)).toNat]?=some (vMh l[i-1]):=by
    rw [qAe (by omega),show (i:Int)-1=((i-1:Nat):Int) by omega];exact encFs_at hlt
   have hp:qWe l i=some l[i-1]:=by unfold qWe;rw [if_neg h0];simp [hlt]
   have hn:decide ((i:Int) > 0)=true:=by simp;omega
   have hwi:IntKind.i64.wrap ((i:Int)-1)=(i:Int)-1:=qAe (by omega)
   rw [hp] at hg
   have hg:(if ve≠0 then ve else if vKc l[i-1] ⟨x1,x2,x3,x4,x5⟩=true then 17 else vBz (some ⟨x1,x2,x3,x4,x5⟩) (l.drop (i+1)))=fin:=hg
   have hio:=orI_infO l[i-1] ⟨x1,x2,x3,x4,x5⟩
   generalize vKc l[i-1] ⟨x1,x2,x3,x4,x5⟩=io at hg hio
   generalize l[i-1]=p at help hio
   obtain ⟨p1,p2,p3,p4,p5⟩:=p
   simp only at hio
   unfold vMh at help
   simp only at help
   have hc1:=qMc p1 x1
   have hc2:=qMc p5 x5
   have hor:=vKw (vEi p1 x1) (vEi p5 x5)
   generalize orI (vEi p1 x1) (vEi p5 x5)=ov at hor hio
   subst hio
   refine ww ?_
   refine wwi hel ?_
   refine ww ?_
   refine wwc hC ?_
   refine ww ?_
   refine qAa rfl (fun c3=>?_) (fun c3=>?_)
   ·rw [if_pos (by simpa using c3)] at hg
    subst hg
    refine ww ?_
    exact wwr
   rw [if_neg (by simpa using c3)] at hg
   refine ww ?_
   refine wwgi help ?_
   refine ww ?_
   refine wwgc hc1 ?_
   refine ww ?_
   refine wwgi help ?_
   refine ww ?_
   refine wwgc hc2 ?_
   refine ww ?_
   refine qDr rfl rfl rfl rfl (fun hg=>⟨(sg (C:=True) hg).1,qKa (args:=[.sl 1 [[Dat.int .i64 (vEi p1 x1)],[Dat.int .i64 (vEi p5 x5)]] .full]) rfl rfl hor rfl (by exact ⟨AV.le.dat,trivial⟩) rfl rfl⟩) ?_
   refine ww ?_
   refine qAa rfl (fun c4=>?_) (fun c4=>?_)
   ·have hov:decide (ov≥0)=true:=by rw [hn] at c4;simpa using c4
    rw [if_pos hov] at hg
    subst hg
    refine ww ?_
    exact wwr
   have hov:¬ decide (ov≥0)=true:=by rw [hn] at c4;simpa using c4
   rw [if_neg hov] at hg
   refine ww ?_
   exact ⟨i+1,[_],⟨c2',by rw [hpv];exact hg⟩,by omega,⟨.refl _,.refl _,.refl _,.int hwr,trivial⟩,HLe.refl _,Env.below_mono hE (by simp),rfl,rfl⟩
 ·have c2':i=l.length:=by rw [hll] at c2;simp at c2;omega
  subst c2'
  rw [List.drop_length,infL_nil] at hg
  subst hg
  refine ww ?_
  exact wwr
def qHv (n:Nat) (es:List (List Dat)):Nat:=(es.length+(n-1)) / n
def qUg (n:Nat) (es:List (List Dat)) (k:Nat):AV:=.d (.sl 1 ((es.drop (k*n)).take n))
def qHd (n:Nat) (es:List (List Dat)):List AV:=(List.range (qHv n es)).map (qUg n es)
theorem qZd {n:Nat} {es:List (List Dat)} {k:Nat} (hn:1≤n):k < qHv n es↔k*n < es.length:=by
 unfold qHv
 rw [← Nat.succ_le_iff,Nat.le_div_iff_mul_le (by omega),Nat.succ_mul]
 omega
theorem qXa (i j n:Nat) (es:List (List Dat)) (hn:1≤n∧n≤1000000000) (hl:es.length≤1000000000) :
  SeqOk Tryz.prog 388 [.ptr i 0,.ptr j 0] (fun h=>h[i]?=some (.row [.d (.sl 1 es)])∧h[j]?=some (.row [.I (n:Int)])) (qHd n es):=by
 refine qXi Tryz.func388 rfl rfl rfl rfl ?_
 intro E l Hs hok hY
 have hlen:(qHd n es).length=qHv n es:=by simp [qHd]
 rw [hlen]
 refine qLt (qGx (.inl rfl) rfl ?_)
 refine wws ?_
 refine qOz (vFw (ι:=Nat) (fun k=>[(0,.fn (.yield l) [] []),(1,.ptr i 0),(2,.ptr j 0),(4,.I ((k*n:Nat):Int))]) (fun k=>Hs k) (fun k=>k≤qHv n es) (fun k=>qHv n es-k) 0 (Nat.zero_le _) ⟨.refl _,.refl _,.refl _,AV.le.int (by simp),trivial⟩ (HLe.refl _) ?_)
 intro k hk
 obtain ⟨h1,h2⟩:=hok k
 have hlt:=qZd (n:=n) (es:=es) (k:=k) hn.1
 have hkn:k*n≤es.length+n:=by
  by_cases h0:k=0
  ·subst h0;simp
  ·have:(k-1)*n < es.length:=(qZd hn.1).1 (by omega)
   have h3:k*n=(k-1)*n+n:=by rw [← Nat.succ_mul];congr 1;omega
   omega
 refine qLt (qLt (qGx (.inl rfl) rfl ?_))
 refine wws ?_
 refine qAd (qBr hT rfl rfl h1 rfl rfl rfl) rfl ?_
 refine wws ?_
 refine qVk rfl (fun c1=>?_) (fun c1=>?_)
 ·have c1':k*n < es.length:=Int.ofNat_lt.1 (of_decide_eq_true c1)
  have hk':=hlt.2 c1'
  have hy:=hY k (qUg n es k) (by simp [qHd,hk'])
  refine qZs ?_
  refine qLt (qOz (qLt ?_))
  refine vFx (.inl rfl) (fun _=>List.range (Hs k).length) (fun _=>[]) mixed rfl (by kernel_rfl) ?_
  refine qBc (qBr hT rfl rfl h2 rfl rfl rfl) rfl rfl ?_
  refine qBc (qBr hT rfl rfl h1 rfl rfl rfl) rfl rfl ?_
  refine wws ?_
  refine qBc (qAc (qWp (t2:=#[]) rfl rfl rfl)) rfl rfl ?_
  refine wws ?_
  have hmn:(if (((es.drop (k*n)).length:Nat):Int) < (n:Int) then (((es.drop (k*n)).length:Nat):Int) else (n:Int))=((min n (es.length-k*n):Nat):Int):=by
   rw [List.length_drop];split <;> omega
  have htk:(es.drop (k*n)).take (k*n+min n (es.length-k*n)-k*n)=(es.drop (k*n)).take n:=by
   rw [Nat.add_sub_cancel_left]
   rcases Nat.le_total n (es.length-k*n) with h | h
   ·rw [Nat.min_eq_left h]
   ·rw [Nat.min_eq_right h,List.take_of_length_le (by simp),List.take_of_length_le (by simp;omega)]
  refine qZr (l:=[(0,.fn (.yield l) [] []),(1,.ptr i 0),(2,.ptr j 0),(4,.I ((k*n:Nat):Int)),(5,.I ((min n (es.length-k*n):Nat):Int))]) (h':=Hs k) ⟨.refl _,.refl _,.refl _,.refl _,AV.le.int hmn,trivial⟩ (HLe.refl _) ?_
  refine qLt (qOy (.inl rfl) ?_)
  have hadd:IntKind.i64.wrap (((k*n:Nat):Int)+((min n (es.length-k*n):Nat):Int))=((k*n+min n (es.length-k*n):Nat):Int):=by rw [qAe (by omega)];omega
  refine qSw (.inl rfl) (pre:=[_,_,_,_,_,_,_,_,_,_]) _ _ rfl ?_
  refine wws ?_
  refine qAd (qBr hT rfl rfl h1 rfl rfl rfl) rfl ?_
  refine wws ?_
  refine qAd (qAc (vKg (l:=k*n) (r:=k*n+min n (es.length-k*n)) hT rfl rfl rfl rfl (by exact congrArg (fun z=>AV.d (.int .i64 z)) hadd) (by exact congrArg (fun z=>AV.d (.int .i64 z)) hadd) (by omega) rfl)) rfl ?_
  rw [htk]
  refine wws ?_
  refine vKz (vGd rfl rfl rfl hy) rfl ?_
  refine qZn (.inl rfl) _ _ _ rfl ?_
  refine wws ?_
  refine qVk rfl (fun c2=>?_) (fun c2=>?_)
  ·exact absurd c2 (by simp)
  refine qZs ?_
  refine qGx (.inl rfl) rfl ?_
  refine wws ?_
  obtain ⟨h1',h2'⟩:=hok (k+1)
  refine qAd (qBr hT rfl rfl h2' rfl rfl rfl) rfl ?_
  refine wws ?_
  exact ⟨k+1,hk',by omega,⟨.refl _,.refl _,.refl _,AV.le.int (by rw [qAe (by omega),Nat.succ_mul];omega),trivial⟩,HLe.refl _⟩
 ·have c1':¬ k*n < es.length:=fun h=>(of_decide_eq_false c1) (Int.ofNat_lt.2 h)
  have hk':k=qHv n es:=by
   have:¬ k < qHv n es:=fun h=>c1' (hlt.1 h)
   omega
  subst hk'
  exact vIn ⟨.inl rfl,rfl⟩
theorem vBs (es:List (List Dat)) (n:Nat) (hn:1≤n∧n≤1000000000):Spec Tryz.prog 350 [.d (.sl 1 es),.I (n:Int)] [.room,.room]
  (fun r h'=>r=.fn (.func 388) [] [.ptr 0 0,.ptr 1 0]∧h'=[.row [.d (.sl 1 es)],.row [.I (n:Int)]]):=by
 refine qAb hT Tryz.func350 rfl rfl rfl rfl ?_;intro E hE
 refine qAl (qAf ?_)
 refine qAd (boxAt_ok (i0:=0) rfl rfl rfl) rfl ?_
 refine qAd (boxAt_ok (i0:=1) rfl rfl rfl) rfl ?_
 refine ww ?_
 refine qAa rfl (fun c1=>?_) (fun c1=>?_)
 ·exact absurd c1 (by simp;omega)
 refine ww ?_
 exact wwr
theorem sumTo_succ (b:List UInt8) (n:Nat):qPc b (n+1)=qUe (qPc b n) (((qWj b).drop (64*n)).take 64):=rfl
def qWk (v:Vw) (i:Nat):List UInt8:=(((vwL v).take i).map qEn).flatten
theorem outN_succ (v:Vw) {i:Nat} (h:i < 8):qWk v (i+1)=qWk v i++qEn ((vwL v).getD i 0):=by
 have hl:(vwL v).length=8:=rfl
 unfold qWk
 rw [List.take_add_one,List.map_append,List.flatten_append]
 simp [hl,h]
theorem outN_length (v:Vw):∀ i,i≤8→(qWk v i).length=4*i
 | 0,_=>rfl
 | i+1,h=>by rw [outN_succ v (by omega),List.length_append,outN_length v i (by omega)];rfl
theorem outN_all (v:Vw):qWk v 8=vLe v:=(outW_eq v).symm
theorem qSi (b:List UInt8) (hb:b.length≤900000):Spec Tryz.prog 281 [.d (.sl 1 (qAj b))] [] (fun r h'=>r=.d (.sl 1 (qAj (qLa b)))∧h'=[]):=by
 have hpl:=padW_length b
 have hpad:=vIa b hb
 have hsum:=sumW_to b
 have hsucc:=sumTo_succ b
 have hz:qFc (qPc b 0)=qFc qPq:=rfl
 generalize qLa b=fin at hsum
 subst hsum
 generalize qPc b=sf at hsucc hz
 generalize qWj b=p at hpl hpad hsucc
 obtain ⟨kk,hkk⟩:∃ kk,p.length / 64=kk:=⟨_,rfl⟩
 rw [hkk]
 have hel:=encB_length p
 have hcn:qHv 64 (qAj p)=kk:=by unfold qHv;rw [hel];omega
 have hck:=vBs (qAj p) 64 (by omega)
 have hsq:=qXa 1 2 64 (qAj p) (by omega) (by omega)
 have hxl:(qHd 64 (qAj p)).length=kk:=by simp [qHd,hcn]
 obtain ⟨Hs,hHs⟩:∃ Hs:Nat→List AObj,Hs=fun k=>[.row [.d (.sl 1 (qFc (sf k)))],.row [.d (.sl 1 (qAj p))],.row [.I (64:Nat)]]:=⟨_,rfl⟩
 refine qSk hT Tryz.func281 rfl rfl rfl rfl ?_
 intro E hE
 refine qXy ?_
 refine ww ?_
 refine qXy ?_
 refine ww ?_
 refine wwc vAa ?_
 refine ww ?_
 refine vIf (Qx:=fun e τ' h'=>e=.normal∧SubL τ' [(3,.ptr 0 0)]∧h'=Hs kk) (qXy ?_) ?_ ?_
 ·refine qAo (qAo ?_)
  refine ww ?_
  refine wwc hpad ?_
  refine ww ?_
  refine qAd (vEl rfl rfl hck [1,2] (by decide) rfl rfl rfl rfl rfl rfl rfl) rfl ?_
  refine ww ?_
  refine qZm (l:=[(11,.fn (.func 388) [] [.ptr 1 0,.ptr 2 0]),(3,.ptr 0 0)]) (h':=Hs 0) q1 (by rw [hHs];exact ⟨ObLe.row (by rw [hz]),ObLe.refl _,ObLe.refl _,trivial⟩) ?_
  refine vFn (vBu Hs rfl hsq rfl (fun k=>by rw [hHs];exact ⟨rfl,rfl⟩) rfl (fun k=>by rw [hHs];rfl) (fun k=>by rw [hHs];rfl)
   (fun x=>look ((4,x)::(12,x)::[(11,.fn (.func 388) [] [.ptr 1 0,.ptr 2 0]),(3,.ptr 0 0)])) ?_ ?_ ?_)
  ·rintro k x hx E' l
   have hx':x=qUg 64 (qAj p) k:=by
    have hlt:k < qHv 64 (qAj p):=by have:=(List.getElem?_eq_some_iff.1 hx).1;simpa [qHd] using this
    simp [qHd,hlt] at hx
    exact hx.symm
   subst hx'
   refine qGx (.inr ⟨l,rfl⟩) rfl ?_
   show AWk _ _ _ _ _ _ (look ((12,qUg 64 (qAj p) k)::[(11,.fn (.func 388) [] [.ptr 1 0,.ptr 2 0]),(3,.ptr 0 0)])) _
   refine wws ?_
   exact ⟨rfl,rfl,rfl⟩
  ·rintro k x hx E' l hE'
   have hlt:k < kk:=by have:=(List.getElem?_eq_some_iff.1 hx).1;omega
   have hx':x=.d (.sl 1 (qAj ((p.drop (64*k)).take 64))):=by
    have hlt:k < qHv 64 (qAj p):=by omega
    simp [qHd,hlt] at hx
    rw [← hx]
    unfold qUg qAj
    rw [List.map_take,List.map_drop,Nat.mul_comm]
   subst hx'
   have hcp:=qSs (sf k) ((p.drop (64*k)).take 64) (by rw [List.length_take,List.length_drop];omega)
   rw [← hsucc k] at hcp
   refine qZr (l:=[(4,.d (.sl 1 (qAj ((p.drop (64*k)).take 64)))),(3,.ptr 0 0)]) q1 (HLe.refl _) ?_
   subst hHs
   refine qOz (qGx (.inr ⟨l,rfl⟩) rfl ?_)
   refine wws ?_
   refine wwc hcp ?_
   refine wws ?_
   exact ⟨rfl,[],HLe.refl _⟩
  ·exact ⟨rfl,q1,by rw [hxl]⟩
 ·rintro E2 hE2 τ' h' ⟨_,hs,rfl⟩
  subst hHs
  refine qZm (h':=[.row [.d (.sl 1 (qFc (sf kk)))],.dead,.dead]) hs ⟨ObLe.refl _,trivial,trivial,trivial⟩ ?_
  refine vMo ?_
  generalize sf kk=v
  refine qAo ?_
  refine qAl (qAf ?_)
  refine wws ?_
  refine qBb 5 1 3 (es:=[]) (.inr ⟨rfl,rfl⟩) rfl ?_
  refine ww ?_
  refine qAq (ι:=Nat) (fun i=>[(5,.sl 1 (qAj (qWk v i)) (.right 3)),(19,.d (.sl 1 (qFc v))),(20,.I 8),(21,.I (i:Int))]) (fun i=>[.row [.d (.sl 1 (qFc v))],.dead,.dead,.right 1 (qAj (qWk v i)).length]) (fun i=>i≤8) (fun i=>8-i) 0 (Nat.zero_le _)
   q1 (HLe.refl _) ?_
  intro i hi
  have hol:=encB_length (qWk v i)
  have hln:=outN_length v i hi
  refine ww ?_
  refine qAa rfl (fun c1=>?_) (fun c1=>?_)
  ·have hi':i < 8:=by simp at c1;omega
   have hv:=encW_at v hi'
   have hs:=outN_succ v hi'
   refine ww ?_
   refine wwi hv ?_
   refine ww ?_
   refine wwc (bytesOf_spec ((vwL v).getD i 0)) ?_
   refine ww ?_
   refine qAd (qAh (i:=3) hT rfl rfl rfl rfl rfl rfl (by show ((qAj (qWk v i)).length+4)*(1+1)≤_;omega)) rfl ?_
   refine ww ?_
   exact ⟨i+1,hi',by omega,⟨.slt (by rw [hs,encB_append]),.refl _,.refl _,.int (by rw [qAe (by omega)];omega),trivial⟩,⟨ObLe.refl _,ObLe.refl _,ObLe.refl _,⟨rfl,by rw [hs,encB_append]⟩,trivial⟩⟩
  ·have hi':i=8:=by simp at c1;omega
   subst hi'
   rw [outN_all]
   refine ww ?_
   refine rq ⟨rfl,rfl⟩ rfl AV.le.dat
 ·rintro e τ' h' he ⟨h1,_⟩
  exact absurd h1 he
theorem qEa (x:BitVec 32) (n:Nat) (h:1≤n∧n≤31):Spec Tryz.prog 364 [uV x,.d (.int .u64 (n:Int))] [] (fun r h'=>r=uV (qKj x n)∧h'=[]):=by
 have h2:IntKind.u64.wrap (32-(n:Int))=((32-n:Nat):Int):=by rw [wrapu64 (by omega)];omega
 have h3:IntKind.u32.wrap (wI x*2 ^ (min (IntKind.u64.wrap (32-(n:Int))).toNat IntKind.u32.bits))=wI (x <<< (32-n)):=by
  rw [h2,wshl,Int.toNat_natCast,show min (32-n) 32=32-n by omega]
 have h4:Int.fdiv (wI x) (2 ^ (min ((n:Int)).toNat IntKind.u32.bits))=wI (x >>> n):=by
  rw [wshr,Int.toNat_natCast,show min n 32=n by omega]
 refine qAb hT Tryz.func364 rfl rfl rfl rfl ?_;intro E hE
 refine ww ?_
 refine rq ⟨rfl,rfl⟩ rfl (AV.le.int ?_)
 show IntKind.u32.wrap ((BitVec.ofInt IntKind.u32.bits (Int.fdiv (wI x) (2 ^ (min ((n:Int)).toNat IntKind.u32.bits))) ||| BitVec.ofInt IntKind.u32.bits (IntKind.u32.wrap (wI x*2 ^ (min (IntKind.u64.wrap (32-(n:Int))).toNat IntKind.u32.bits)))).toNat:Int)=_
 rw [h3,h4,wI_or]
 rfl
theorem vBq:Spec Tryz.prog 302 [] [] (fun r h'=>r=.d (.sl 1 (qFc qPq))∧h'=[]):=by
 refine qAb hT Tryz.func302 rfl rfl rfl rfl ?_;intro E hE
 refine ww ?_
 refine rq ⟨rfl,rfl⟩ rfl ?_
 exact AV.le.dat' rfl
theorem lenW_step:∀ (m n:Nat),qVo (m+1) n=UInt8.ofNat (n / 256 ^ m % 256)::qVo m n
 | 0,n=>by simp [qVo]
 | m+1,n=>by
  rw [qVo,lenW_step m (n / 256),qVo,List.cons_append]
  congr 2
  rw [Nat.div_div_eq_div_mul,Nat.pow_succ,Nat.mul_comm]
theorem lenW_front (m n:Nat):qVo m n=(List.range m).reverse.map fun i=>UInt8.ofNat (n / 256 ^ i % 256):=by
 induction m with
 | zero=>rfl
 | succ m ih=>rw [lenW_step,ih,List.range_succ,List.reverse_append];rfl
def qWr (n k:Nat):List UInt8:=(qVo 8 n).take k
theorem lenK_succ (n:Nat) {k:Nat} (h:k < 8):qWr n (k+1)=qWr n k++[UInt8.ofNat (n / 256 ^ (7-k) % 256)]:=by
 have hl:=lenW_length 8 n
 have hat:(qVo 8 n)[k]?=some (UInt8.ofNat (n / 256 ^ (7-k) % 256)):=by
  rw [lenW_front,List.getElem?_map,List.getElem?_reverse (by simp;omega)]
  simp [show 8-1-k < 8 by omega]
 unfold qWr
 rw [List.take_add_one,hat];rfl
theorem lenK_all (n:Nat):qWr n 8=qVo 8 n:=by unfold qWr;rw [List.take_of_length_le (by rw [lenW_length];omega)]
theorem lenK_length (n:Nat) {k:Nat} (h:k≤8):(qWr n k).length=k:=by unfold qWr;rw [List.length_take,lenW_length];omega
theorem vFf (b:List UInt8) (hb:b.length≤900000):Spec Tryz.prog 301 [.d (.sl 1 (qAj b))] [] (fun r h'=>r=.d (.sl 1 (qAj (qWj b)))∧h'=[]):=by
 have hbl:=encB_length b
 have hz:=padZ_lt b.length
 have hp:=padW_eq b
 refine qAb hT Tryz.func301 rfl rfl rfl rfl ?_;intro E hE
 refine qAo ?_
 refine ww ?_
 refine qAd (qDm (i:=0) hT rfl rfl rfl (.inr rfl) (by simp) rfl rfl (by show (qAj b).length*(1+1)≤140737488355328;omega)) rfl ?_
 refine ww ?_
 refine qAd (qAh (i:=0) hT rfl rfl rfl rfl rfl rfl (by show ((qAj b).length+1)*(1+1)≤_;omega)) rfl ?_
 refine ww ?_
 refine qAq (ι:=Nat) (fun j=>[(0,.d (.sl 1 (qAj b))),(3,.sl 1 (qAj (b++[128]++List.replicate j 0)) (.right 0))]) (fun j=>[.right 1 (qAj (b++[128]++List.replicate j 0)).length]) (fun j=>j≤qPv b.length) (fun j=>qPv b.length-j) 0 (Nat.zero_le _)
  ⟨.refl _,.slt (by rw [List.replicate_zero,List.append_nil,encB_append];rfl),trivial⟩ ⟨⟨rfl,by simp [encB_length]⟩,trivial⟩ ?_
 intro j hj
 have hlj:(qAj (b++[128]++List.replicate j 0)).length=b.length+1+j:=by rw [encB_length];simp;omega
 have hif:=padZ_iff hj
 refine ww ?_
 refine qAa rfl (fun h1=>?_) (fun h1=>?_)
 ·have h1':j < qPv b.length:=by
   rw [hlj] at h1
   have:(b.length+1+j) % 64≠56:=fun hc=>by
    have e:Int.tmod ((b.length+1+j:Nat):Int) 64=(((b.length+1+j) % 64:Nat):Int):=rfl
    rw [e,hc] at h1;exact absurd h1 (by decide)
   have:=fun hc=>this (hif.2 hc)
   omega
  have hs:=encB_rep0 b j
  refine ww ?_
  refine qAd (qAh (i:=0) hT rfl rfl rfl rfl rfl rfl (by show ((qAj (b++[128]++List.replicate j 0)).length+1)*(1+1)≤_;omega)) rfl ?_
  refine ww ?_
  exact ⟨j+1,h1',by omega,⟨.refl _,.slt hs.symm,trivial⟩,⟨⟨rfl,by rw [hs]⟩,trivial⟩⟩
 have h1':j=qPv b.length:=by
  rw [hlj] at h1
  refine hif.1 ?_
  have e:Int.tmod ((b.length+1+j:Nat):Int) 64=(((b.length+1+j) % 64:Nat):Int):=rfl
  rw [e] at h1
  simp at h1
  omega
 subst h1'
 refine wwe ?_
 generalize b++[128]++List.replicate (qPv b.length) 0=pre at hp hlj ⊢
 refine qAl (qAf ?_)
 refine wws ?_
 refine qAp (l:=[(3,.sl 1 (qAj pre) (.right 0)),(4,.I ((8*b.length:Nat):Int))]) (h':=[.right 1 (qAj pre).length]) ⟨.refl _,.int ?_,trivial⟩ (HLe.refl _) ?_
 ·show IntKind.i64.wrap (8*((qAj b).length:Int))=_
  rw [hbl,qAe (by omega)];omega
 rw [hp]
 generalize hn:8*b.length=n
 refine ww ?_
 refine qAq (ι:=Nat) (fun k=>[(3,.sl 1 (qAj (pre++qWr n k)) (.right 0)),(4,.I (n:Int)),(5,.I (7-(k:Int)))]) (fun k=>[.right 1 (qAj (pre++qWr n k)).length]) (fun k=>k≤8) (fun k=>8-k) 0 (Nat.zero_le _)
  ⟨.slt (by rw [show qWr n 0=[] from rfl,List.append_nil]),.refl _,.refl _,trivial⟩ ⟨⟨rfl,by rw [show qWr n 0=[] from rfl,List.append_nil]⟩,trivial⟩ ?_
 intro k hk
 have hlk:(qAj (pre++qWr n k)).length=b.length+1+qPv b.length+k:=by rw [encB_length,List.length_append,lenK_length n hk];rw [encB_length] at hlj;omega
 refine ww ?_
 refine qAa rfl (fun c1=>?_) (fun c1=>?_)
 ·have c1':k < 8:=by simp at c1;omega
  have hs:qAj (pre++qWr n (k+1))=qAj (pre++qWr n k)++[[.int .u8 ((UInt8.ofNat (n / 256 ^ (7-k) % 256)).toNat:Int)]]:=by
   rw [lenK_succ n c1',← List.append_assoc,encB_append];rfl
  have hbyte:IntKind.u8.wrap (Int.fdiv (n:Int) (2 ^ (min (IntKind.u64.wrap (IntKind.i64.wrap (8*(7-(k:Int))))).toNat IntKind.i64.bits)))=((UInt8.ofNat (n / 256 ^ (7-k) % 256)).toNat:Int):=by
   rw [qAe (n:=8*(7-(k:Int))) (by omega),wrapu64 (by omega),show (8*(7-(k:Int)))=((8*(7-k):Nat):Int) by omega,qIn n (8*(7-k)) (by omega),show min (8*(7-k)) 64=8*(7-k) by omega,Nat.pow_mul]
  have hnn:0≤IntKind.u64.wrap (IntKind.i64.wrap (8*(7-(k:Int)))):=by rw [qAe (n:=8*(7-(k:Int))) (by omega),wrapu64 (by omega)];omega
  refine ww ?_
  refine qAd (qAh (i:=0) hT rfl rfl rfl rfl rfl rfl (by show ((qAj (pre++qWr n k)).length+1)*(1+1)≤_;omega)) rfl ?_
  refine ww ?_
  exact ⟨k+1,c1',by omega,⟨.slt (by rw [hs,← hbyte]),.refl _,.int (by rw [qAe (by omega)];omega),trivial⟩,⟨⟨rfl,by rw [hs,← hbyte]⟩,trivial⟩⟩
 ·have c1':k=8:=by simp at c1;omega
  subst c1'
  rw [lenK_all]
  refine ww ?_
  refine rq ⟨rfl,rfl⟩ rfl AV.le.dat
end Tdoc
