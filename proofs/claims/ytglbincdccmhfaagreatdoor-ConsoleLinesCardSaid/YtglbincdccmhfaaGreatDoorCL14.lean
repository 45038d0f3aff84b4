/- Part 14 of the proof: the texts JI JK JL JM JN JO JP JQ JR JS JT SF P8 P9 P10 SG SH SI SJ SL. -/
import Derived.Test.YtglbincdccmhfaaGreatDoorCL13
import Derived.Test.YtglbincdccmhfaaGreatDoorCL12
import Derived.Test.YtglbincdccmhfaaGreatDoorCL6
set_option maxHeartbeats 8000000
set_option maxRecDepth 100000
set_option linter.unusedVariables false
set_option linter.unusedSimpArgs false
namespace Tdoc
open Go Go.Proofs
theorem chk0 {c:Nal} (h:qFd c=0):qDi c.sta=true∧(1≤c.kind∧c.kind≤4)∧(1≤c.num∧c.num≤1073741824)∧(1≤c.iss∧c.iss≤1073741824)∧(1≤c.own∧c.own≤1073741824)∧qIt c.key=true∧0≤c.frm∧c.frm≤c.unt∧c.unt≤c.til∧c.til≤73048:=by
 unfold qFd at h
 split at h
 ·cases h
 rename_i h1
 split at h
 ·cases h
 rename_i h2
 split at h
 ·cases h
 rename_i h3
 split at h
 ·cases h
 rename_i h4
 split at h
 ·cases h
 rename_i h5
 simp only [not_or,Bool.not_eq_false] at h1 h3 h4
 have a1:1≤c.num∧c.num≤1073741824:=of_decide_eq_true h3.1
 have a2:1≤c.iss∧c.iss≤1073741824:=of_decide_eq_true h3.2.1
 have a3:1≤c.own∧c.own≤1073741824:=of_decide_eq_true h3.2.2.1
 exact ⟨h1,by omega,a1,a2,a3,h4,by omega,by omega,by omega,by omega⟩
theorem stateF_len {s:List UInt8} (h:qDi s=true):s.length≤3:=by
 unfold qDi at h
 rw [Bool.and_eq_true] at h
 exact (of_decide_eq_true h.1).2
theorem wide1 (m n:Nat):vBf m [n]=qBi m n:=by
 show ([qBi m n]:List (List UInt8)).flatten=_
 simp
theorem wide3 (m a b c:Nat):vBf m [a,b,c]=qBi m a++qBi m b++qBi m c:=by
 show ([qBi m a,qBi m b,qBi m c]:List (List UInt8)).flatten=_
 simp
theorem vIy {n:Nat} (h:n < 256):IntKind.u8.wrap (n:Int)=((UInt8.ofNat n).toNat:Int):=by rw [wrapu8 (by omega),toNat_ofNat h]
theorem qWm (c:Nal) (h:qFd c=0):Spec Tryz.prog 445 [vBt c] [] (fun r h'=>r=.tup [nAV (qBq c),.I 0]∧h'=[]):=by
 obtain ⟨q1,q2,q3,q4,q5,q6,q7⟩:=chk0 h
 have hkr:=elemG_range q6
 have hge:=qQz c.key
 rw [if_pos q6,if_pos q6] at hge
 obtain ⟨sta,kind,num,iss,own,key,frm,unt,til,sE,sS⟩:=c
 simp only at q1 q2 q3 q4 q5 q6 q7 hkr hge
 clear h
 obtain ⟨kind,rfl⟩:=Int.eq_ofNat_of_zero_le (show 0≤kind by omega)
 obtain ⟨num,rfl⟩:=Int.eq_ofNat_of_zero_le (show 0≤num by omega)
 obtain ⟨iss,rfl⟩:=Int.eq_ofNat_of_zero_le (show 0≤iss by omega)
 obtain ⟨own,rfl⟩:=Int.eq_ofNat_of_zero_le (show 0≤own by omega)
 obtain ⟨key,rfl⟩:=Int.eq_ofNat_of_zero_le (show 0≤key by omega)
 obtain ⟨frm,rfl⟩:=Int.eq_ofNat_of_zero_le (show 0≤frm by omega)
 obtain ⟨unt,rfl⟩:=Int.eq_ofNat_of_zero_le (show 0≤unt by omega)
 obtain ⟨til,rfl⟩:=Int.eq_ofNat_of_zero_le (show 0≤til by omega)
 rw [Int.toNat_natCast] at hge
 have w1:=qGi 4 [num] (by omega) (by simp) (fun n hn=>by simp at hn;omega)
 have w2:=qGi 4 [iss] (by omega) (by simp) (fun n hn=>by simp at hn;omega)
 have w3:=qGi 4 [own] (by omega) (by simp) (fun n hn=>by simp at hn;omega)
 have w4:=qGi 3 [frm,unt,til] (by omega) (by simp) (fun n hn=>by simp at hn;omega)
 rw [wide1] at w1 w2 w3
 rw [wide3] at w4
 have hbd:qBq ⟨sta,(kind:Int),(num:Int),(iss:Int),(own:Int),(key:Int),(frm:Int),(unt:Int),(til:Int),sE,sS⟩=.mk 48 [] [.mk 19 sta [],.mk 129 [UInt8.ofNat kind] [],.mk 130 (qBi 4 num) [],.mk 131 (qBi 4 iss) [],.mk 132 (qBi 4 own) [],.mk 133 (qBi 4 key) [],.mk 134 (qBi 3 frm++qBi 3 unt++qBi 3 til) []]:=rfl
 rw [hbd]
 have hkb:=vIy (n:=kind) (by omega)
 generalize qBi 4 num=b1 at w1 ⊢
 generalize qBi 4 iss=b2 at w2 ⊢
 generalize qBi 4 own=b3 at w3 ⊢
 generalize qBi 4 key=b4 at hge ⊢
 generalize qBi 3 frm++qBi 3 unt++qBi 3 til=b5 at w4 ⊢
 refine qAb hT Tryz.func445 rfl rfl rfl rfl ?_;intro E hE
 refine ww ?_
 refine wwc hge ?_
 refine ww ?_
 refine qAa rfl (fun c1=>?_) (fun c1=>?_)
 ·exact absurd c1 (by simp)
 refine qDq ?_
 refine wwn ?_
 refine qBm (fun i=>bif Nat.beq i 37 then [1] else [0]) (fun i=>bif Nat.beq i 37 then [1] else []) mixed (by kernel_rfl) ?_
 refine wwg ?_
 refine qAj (os:=[]) (fun k hk1 hk2=>strBytes_ok hT rfl rfl rfl) rfl ?_
 refine wwg ?_
 refine qAj (os:=[]) (fun k hk1 hk2=>buildSl_ok hT rfl rfl) rfl ?_
 refine wwg ?_
 refine qAj (os:=[]) (fun k hk1 hk2=>buildSl_ok hT rfl rfl) rfl ?_
 refine wwdc w1 ?_
 refine wwg ?_
 refine qAj (os:=[]) (fun k hk1 hk2=>buildSl_ok hT rfl rfl) rfl ?_
 refine wwdc w2 ?_
 refine wwg ?_
 refine qAj (os:=[]) (fun k hk1 hk2=>buildSl_ok hT rfl rfl) rfl ?_
 refine wwdc w3 ?_
 refine wwg ?_
 refine qAj (os:=[]) (fun k hk1 hk2=>buildSl_ok hT rfl rfl) rfl ?_
 refine wwdc w4 ?_
 refine wwg ?_
 refine qAj (os:=[]) (fun k hk1 hk2=>buildSl_ok hT rfl rfl) rfl ?_
 refine wwg ?_
 refine ww ?_
 refine rq ⟨rfl,rfl⟩ rfl (AV.le.tup ⟨AV.le.agg ⟨.refl _,AV.le.dat' rfl,AV.le.dat' ?_,trivial⟩,.refl _,trivial⟩)
 rw [hkb]
 rfl
theorem vCn {c:Nal} (h:qFd c=0):vFk [qBq c]:=by
 have hl:=stateF_len (chk0 h).1
 unfold qBq
 refine ⟨⟨⟨by omega,by omega⟩,by simp,by simp,?_⟩,trivial⟩
 refine ⟨?_,?_,?_,?_,?_,?_,?_,trivial⟩ <;> refine ⟨⟨by omega,by omega⟩,?_,by simp,trivial⟩ <;> (try simp [octB_length]) <;> omega
theorem qZt (c:Nal):qCz [qBq c]≤20:=by simp [qBq,qCz,qKn]
theorem bytesNl_eq (c:Nal):qSz c=if qFd c≠0 then ([],qFd c) else (wrL [qBq c],0):=rfl
theorem qXg (c:Nal) (hs:c.sta.length≤1000000000):Spec Tryz.prog 327 [vBt c] [] (fun r h'=>r=.tup [.d (.sl 1 (qAx (qSz c).1)),.d (.int .i64 (qSz c).2)]∧h'=[]):=by
 have hck:=qXn c hs
 rw [bytesNl_eq]
 by_cases hc:qFd c=0
 ·have htr:=qWm c hc
  have hbl:=qOb c (stateF_len (chk0 hc).1)
  have hen:=qTy [qBq c] (by simp) (vCn hc) (Nat.le_trans (qZt c) (by omega)) (by omega)
  rw [vCo c (stateF_len (chk0 hc).1)] at hen
  rw [hc] at hck
  rw [if_neg (by simpa using hc)]
  generalize hB:qBq c=B at htr hen
  obtain ⟨bt,bv,bk⟩:=B
  simp only at hen ⊢
  refine qAb hT Tryz.func327 rfl rfl rfl rfl ?_;intro E hE
  refine ww ?_
  refine wwc hck ?_
  refine ww ?_
  refine qAa rfl (fun c1=>?_) (fun c1=>?_)
  ·exact absurd c1 (by simp)
  refine ww ?_
  refine wwc htr ?_
  refine ww ?_
  refine qAa rfl (fun c2=>?_) (fun c2=>?_)
  ·exact absurd c2 (by simp)
  refine ww ?_
  refine wwc hen ?_
  refine ww ?_
  exact wwr
 ·rw [if_pos hc]
  generalize qFd c=e at hck hc
  refine qAb hT Tryz.func327 rfl rfl rfl rfl ?_;intro E hE
  refine ww ?_
  refine wwc hck ?_
  refine ww ?_
  refine qAa rfl (fun c1=>?_) (fun c1=>?_)
  ·refine ww ?_
   exact wwr
  ·exact absurd c1 (by simpa using hc)
def vHx (k:Int) (c:Nal):Nal×Int:=if qFd c≠0 then (nl0,qFd c) else if qRr k=false then (nl0,3) else (qCt k.toNat c,0)
theorem qTl (k:Int) (c:Nal) (hs:c.sta.length≤1000000000):Spec Tryz.prog 227 [.I k,vBt c] [] (fun r h'=>r=.tup [vBt (vHx k c).1,.d (.int .i64 (vHx k c).2)]∧h'=[]):=by
 have hbd:=qXg c hs
 rw [bytesNl_eq] at hbd
 unfold vHx
 by_cases hc:qFd c=0
 ·rw [if_neg (by simpa using hc)] at hbd ⊢
  simp only at hbd
  have hbl:=qOb c (stateF_len (chk0 hc).1)
  have hsg:=vAb k (wrL [qBq c]) (by omega)
  by_cases hk:qRr k=true
  ·rw [if_neg (by simp [hk])]
   rw [show qWh k=0 by unfold qWh;rw [if_pos hk],show vGp k (wrL [qBq c])=(((qKo k.toNat (wrL [qBq c])).1:Nat):Int) by unfold vGp;rw [if_pos hk],show vGo k (wrL [qBq c])=(((qKo k.toNat (wrL [qBq c])).2:Nat):Int) by unfold vGo;rw [if_pos hk]] at hsg
   have hii:qCt k.toNat c={ c with sE:=((qKo k.toNat (wrL [qBq c])).1:Nat),sS:=((qKo k.toNat (wrL [qBq c])).2:Nat) }:=rfl
   rw [hii]
   generalize (((qKo k.toNat (wrL [qBq c])).1:Nat):Int)=x at hsg ⊢
   generalize (((qKo k.toNat (wrL [qBq c])).2:Nat):Int)=y at hsg ⊢
   generalize wrL [qBq c]=B at hbd hsg
   clear hii hc hbl
   refine qAb hT Tryz.func227 rfl rfl rfl rfl ?_;intro E hE
   refine ww ?_
   refine wwc hbd ?_
   refine ww ?_
   refine qAa rfl (fun c1=>?_) (fun c1=>?_)
   ·exact absurd c1 (by simp)
   refine ww ?_
   refine wwc hsg ?_
   refine ww ?_
   refine qAa rfl (fun c2=>?_) (fun c2=>?_)
   ·exact absurd c2 (by simp)
   refine ww ?_
   exact wwr
  ·rw [if_pos (by simpa using hk)]
   rw [show qWh k=3 by unfold qWh;rw [if_neg hk],show vGp k (wrL [qBq c])=0 by unfold vGp;rw [if_neg hk],show vGo k (wrL [qBq c])=0 by unfold vGo;rw [if_neg hk]] at hsg
   generalize wrL [qBq c]=B at hbd hsg
   clear hc hbl
   refine qAb hT Tryz.func227 rfl rfl rfl rfl ?_;intro E hE
   refine ww ?_
   refine wwc hbd ?_
   refine ww ?_
   refine qAa rfl (fun c1=>?_) (fun c1=>?_)
   ·exact absurd c1 (by simp)
   refine ww ?_
   refine wwc hsg ?_
   refine ww ?_
   refine qAa rfl (fun c2=>?_) (fun c2=>?_)
   ·refine ww ?_
    exact wwr
   ·exact absurd c2 (by simp)
 ·rw [if_pos hc] at hbd ⊢
  simp only at hbd
  generalize qFd c=e at hbd hc
  refine qAb hT Tryz.func227 rfl rfl rfl rfl ?_;intro E hE
  refine ww ?_
  refine wwc hbd ?_
  refine ww ?_
  refine qAa rfl (fun c1=>?_) (fun c1=>?_)
  ·refine ww ?_
   exact wwr
  ·exact absurd c1 (by simpa using hc)
def qJw (a:Aut):List AObj:=[.row (vGd a (.sl 11 (qBg a.roots) (.right 2)) (.sl 11 (qBg a.links) (.right 3)) (.sl 1 (encNs' a.secs) (.right 1))),.right 1 (encNs' a.secs).length,.right 11 (qBg a.roots).length,.right 11 (qBg a.links).length]
theorem qMy (day n:Int) (hd:0≤day∧day≤73048) (hn:0≤n∧n≤100000):Spec Tryz.prog 195 [.I day,.I n] [] (fun r h'=>r=.I (qFs day n)∧h'=[]):=by
 refine qAb hT Tryz.func195 rfl rfl rfl rfl ?_;intro E hE
 refine ww ?_
 refine qAe (qAc (qSh (t2:=#[]) rfl rfl rfl)) rfl ?_
 refine ww ?_
 refine qAe (qAc (qSh (t2:=#[]) rfl rfl rfl)) rfl ?_
 refine ww ?_
 refine rq ⟨rfl,rfl⟩ rfl (.int ?_)
 unfold qFs
 have e:(if (73048:Int) < day then (73048:Int) else day)=day:=if_neg (by omega)
 simp only [e]
 rw [qAf (by omega)]
 split <;> omega
theorem qFu (a:Aut) (hs:a.seed.length≤500000):Spec Tryz.prog 225 [.ptr 0 0] (qJw a) (fun r h'=>r=.I (qMc a.seed:Int)∧h'=qJw { a with seed:=qDk a.seed }):=by
 have hd:=qTi a.seed hs
 generalize hk:qMc a.seed=k at hd ⊢
 generalize hx:qDk a.seed=nx at hd ⊢
 obtain ⟨sta,roots,links,secs,signer,lister,sk,lk,next,list,rev,defs,seed⟩:=a
 simp only at hd ⊢
 refine qAb hT Tryz.func225 rfl rfl rfl rfl ?_;intro E hE
 refine ww ?_
 refine wwc hd ?_
 refine ww ?_
 exact wwr
theorem encNs'_len (l:List Nat):(encNs' l).length=l.length:=by simp [encNs']
theorem qIr (a:Aut) (kind:Int) (issuer own k:Nat) (day u t:Int) (hnx:a.next≤1000000) (hiss:1≤issuer∧issuer≤a.secs.length∧a.secs.length≤1000) (hk:1≤k∧k < qG) (hday:0≤day∧day≤73048) (hu:0≤u∧u≤100000∧0≤t∧t≤100000)
  (hsec:1≤a.secs.getD (issuer-1) 0∧a.secs.getD (issuer-1) 0 < qG) (hchk:qFd (qIc a kind issuer own k day u t)=0) :
  Spec Tryz.prog 174 [.ptr 0 0,.I kind,.I (issuer:Int),.I (own:Int),.I (k:Int),.I day,.I u,.I t] (qJw a)
   (fun r h'=>r=.tup [vBt (qCt (a.secs.getD (issuer-1) 0) (qIc a kind issuer own k day u t)),.I 0]∧h'=qJw { a with next:=a.next+1 }):=by
 have hp:=qLn (k:Int)
 have hsk:=secF_nat hk
 rw [show vIq (k:Int)=((qRx k:Nat):Int) by unfold vIq;rw [if_pos hsk,Int.toNat_natCast],show qWh (k:Int)=0 by unfold qWh;rw [if_pos hsk]] at hp
 have hl1:=qMy day u hday ⟨hu.1,hu.2.1⟩
 have hl2:=qMy day t hday ⟨hu.2.2.1,hu.2.2.2⟩
 have hcert:qIc a kind issuer own k day u t=⟨a.sta,kind,(a.next:Int),(issuer:Int),(own:Int),((qRx k:Nat):Int),day,qFs day u,qFs day t,0,0⟩:=rfl
 have hsl:=stateF_len (chk0 hchk).1
 have hsx:=secF_nat hsec
 have his:=qTl ((a.secs.getD (issuer-1) 0:Nat):Int) (qIc a kind issuer own k day u t) (by show a.sta.length≤_;have:(qIc a kind issuer own k day u t).sta=a.sta:=rfl;rw [this] at hsl;omega)
 rw [show vHx ((a.secs.getD (issuer-1) 0:Nat):Int) (qIc a kind issuer own k day u t)=(qCt (a.secs.getD (issuer-1) 0) (qIc a kind issuer own k day u t),0) by unfold vHx;rw [if_neg (by simpa using hchk),if_neg (by rw [hsx];simp),Int.toNat_natCast]] at his
 simp only at his
 have hat:=encNs'_at (l:=a.secs) (i:=issuer-1) (by omega)
 have hw1:IntKind.i64.wrap ((issuer:Int)-1)=((issuer-1:Nat):Int):=by rw [qAf (by omega)];omega
 generalize qCt (a.secs.getD (issuer-1) 0) (qIc a kind issuer own k day u t)=fin at his ⊢
 rw [hcert] at his
 generalize a.secs.getD (issuer-1) 0=sx at his hat
 generalize ((qRx k:Nat):Int)=pk at hp his
 generalize qFs day u=d1 at hl1 his
 generalize qFs day t=d2 at hl2 his
 clear hcert hsx hsl hchk
 obtain ⟨sta,roots,links,secs,signer,lister,sk,lk,next,list,rev,defs,seed⟩:=a
 simp only at *
 have hwn:IntKind.i64.wrap ((next:Int)+1)=((next+1:Nat):Int):=by rw [qAf (by omega)];omega
 refine qAb hT Tryz.func174 rfl rfl rfl rfl ?_;intro E hE
 refine ww ?_
 refine wwc hp ?_
 refine ww ?_
 refine qAa rfl (fun c1=>?_) (fun c1=>?_)
 ·exact absurd c1 (by simp)
 refine qDq ?_
 refine qAt ?_
 refine qAg (qBm (fun i=>bif Nat.beq i 20||Nat.beq i 21 then [5] else [0]) (fun i=>bif Nat.beq i 20||Nat.beq i 21 then [5] else []) mixed (by kernel_rfl) ?_)
 refine wwg ?_
 refine wwdc hl1 ?_
 refine wwg ?_
 refine wwdc hl2 ?_
 refine wwg ?_
 refine qAj (v:=.ptr 5 0) (os:=[.row (qDn nl0)]) (fun kk hk1 hk2=>allocAt_ok (i0:=5) (i:=⟨.struct [(0,1,false),(1,1,false),(2,1,false),(3,1,false),(4,1,false),(5,1,false),(6,1,false),(7,1,false),(8,1,false),(9,2,true)],11,96,qDn nl0⟩) hT rfl rfl ((hk2 5 List.mem_cons_self).trans rfl)) rfl ?_
 refine wwg ?_
 refine qAk (l:=[(0,.ptr 0 0),(2,.I (issuer:Int)),(16,.ptr 4 0),(20,.ptr 5 0)]) (h':=qJw ⟨sta,roots,links,secs,signer,lister,sk,lk,next,list,rev,defs,seed⟩++[.row (qDn nl0),.row (qDn ⟨sta,kind,(next:Int),(issuer:Int),(own:Int),pk,day,d1,d2,0,0⟩)])
  yf (HLe.refl _) ?_
 refine qAg (qAg (qBm (fun i=>bif Nat.beq i 3 then [0] else bif Nat.beq i 8||Nat.beq i 13 then [5] else []) (fun i=>bif Nat.beq i 13 then [5] else []) mixed (by kernel_rfl) ?_))
 refine wwg ?_
 refine qAj (os:=[]) (fun k hk1 hk2=>qAc (indexAddr_ok hT rfl rfl rfl rfl (by rw [hw1];omega) (by rw [hw1,Int.toNat_natCast];exact hat))) rfl ?_
 refine wwg ?_
 refine wwdc his ?_
 refine wwg ?_
 refine qAk (l:=[(0,.ptr 0 0),(16,.ptr 4 0),(19,.I 0),(20,.ptr 5 0)]) (h':=qJw ⟨sta,roots,links,secs,signer,lister,sk,lk,next,list,rev,defs,seed⟩++[.row (qDn nl0),.row (qDn fin)])
  yf (HLe.refl _) ?_
 refine ww ?_
 refine qAa rfl (fun c2=>?_) (fun c2=>?_)
 ·exact absurd c2 (by simp)
 refine qDq ?_
 refine qAg (qAd ?_)
 refine wws ?_
 rw [hwn]
 refine ww ?_
 exact wwr
def qSw (sta:List UInt8) (next:Nat) (kind:Int) (issuer own k:Nat) (day u t:Int):Nal:=⟨sta,kind,next,issuer,own,qRx k,day,qFs day u,qFs day t,0,0⟩
theorem certF_N (a:Aut) (kind:Int) (issuer own k:Nat) (day u t:Int):qIc a kind issuer own k day u t=qSw a.sta a.next kind issuer own k day u t:=rfl
theorem signersF_eq (a:Aut) (day:Int):qHg a day={ a with signer:=qCt (a.secs.getD (a.secs.length-1) 0) (qSw a.sta a.next 3 a.secs.length (1000+a.next) (qMc a.seed) day 90 3740),lister:=qCt (a.secs.getD (a.secs.length-1) 0) (qSw a.sta (a.next+1) 4 a.secs.length (1000+(a.next+1)) (qMc (qDk a.seed)) day 365 730),sk:=qMc a.seed,lk:=qMc (qDk a.seed),next:=a.next+1+1,seed:=qDk (qDk a.seed) }:=rfl
theorem qQh (a:Aut) (ha:AutOk a) (hn:a.next≤98) (hs:1≤a.secs.length∧a.secs.length≤100) (day:Int) (hday:0≤day∧day≤73048) :
  Spec Tryz.prog 173 [.ptr 0 0,.I day] (qJw a) (fun r h'=>r=.I 0∧h'=qJw (qHg a day)):=by
 rw [signersF_eq]
 have hnx:=ha.next
 have hst:=ha.sta
 have hlast:=ha.last hs.1
 have hr1:=secS_range a.seed
 have hr2:=secS_range (qDk a.seed)
 have hs1:=qFu a (by have:=ha.seed;omega)
 have hsl:(qDk a.seed).length=32:=sumW_length _
 have hs2:∀ b:Aut,b.seed=qDk a.seed→Spec Tryz.prog 225 [.ptr 0 0] (qJw b) (fun r h'=>r=.I (qMc (qDk a.seed):Int)∧h'=qJw { b with seed:=qDk (qDk a.seed) }):=fun b hb=>by
  have h:=qFu b (by rw [hb];omega)
  rw [hb] at h
  exact h
 obtain ⟨sta,roots,links,secs,signer,lister,sk,lk,next,list,rev,defs,seed⟩:=a
 simp only at *
 clear ha
 generalize qDk (qDk seed)=n2 at *
 generalize qMc (qDk seed)=k2 at *
 generalize qDk seed=n1 at *
 generalize qMc seed=k1 at *
 have hi1:=qIr ⟨sta,roots,links,secs,signer,lister,k1,lk,next,list,rev,defs,n1⟩ 3 secs.length (1000+next) k1 day 90 3740 (by show next≤_;omega) (by show 1≤secs.length∧secs.length≤secs.length∧secs.length≤1000;omega) hr1 hday (by omega) hlast
  (certF_chk hst (by show 1≤next∧next≤1000000;omega) (by omega) (by omega) (by omega) ⟨fun h=>by omega,fun h=>by omega⟩ hr1 hday (by omega))
 rw [certF_N] at hi1
 simp only at hi1
 generalize qCt (secs.getD (secs.length-1) 0) (qSw sta next 3 secs.length (1000+next) k1 day 90 3740)=c1 at *
 have hi2:=qIr ⟨sta,roots,links,secs,c1,lister,k1,k2,next+1,list,rev,defs,n2⟩ 4 secs.length (1000+(next+1)) k2 day 365 730 (by show next+1≤_;omega) (by show 1≤secs.length∧secs.length≤secs.length∧secs.length≤1000;omega) hr2 hday (by omega) hlast
  (certF_chk hst (by show 1≤next+1∧next+1≤1000000;omega) (by omega) (by omega) (by omega) ⟨fun h=>by omega,fun h=>by omega⟩ hr2 hday (by omega))
 rw [certF_N] at hi2
 simp only at hi2
 generalize qCt (secs.getD (secs.length-1) 0) (qSw sta (next+1) 4 secs.length (1000+(next+1)) k2 day 365 730)=c2 at *
 have hs2:=hs2 ⟨sta,roots,links,secs,c1,lister,k1,lk,next+1,list,rev,defs,n1⟩ rfl
 simp only at hs2
 have hlen:=encNs'_len secs
 have ew1:IntKind.i64.wrap (1000+(next:Int))=((1000+next:Nat):Int):=by rw [qAf (by omega)];omega
 have ew3:IntKind.i64.wrap (1000+((next+1:Nat):Int))=((1000+(next+1):Nat):Int):=by rw [qAf (by omega)];omega
 clear hlast hr1 hr2 hst
 refine qAb hT Tryz.func173 rfl rfl rfl rfl ?_;intro E hE
 refine ww ?_
 refine qAe (qEp (v:=.I (k1:Int)) (H':=qJw ⟨sta,roots,links,secs,signer,lister,sk,lk,next,list,rev,defs,n1⟩) rfl rfl hs1 [0,1,2,3] (by decide) rfl rfl rfl rfl rfl rfl) rfl ?_
 refine wws ?_
 refine qAk (l:=[(0,.ptr 0 0),(1,.I day)]) (h':=qJw ⟨sta,roots,links,secs,signer,lister,k1,lk,next,list,rev,defs,n1⟩) yf (HLe.refl _) ?_
 refine qAg (qAg (qAq (fun i=>bif Nat.beq i 5||Nat.beq i 10||Nat.beq i 15||Nat.beq i 23 then [0] else bif Nat.beq i 17 then [0,1,2,3] else []) (fun i=>bif Nat.beq i 17 then [0,1,2,3] else bif Nat.beq i 23 then [0] else []) mixed (by kernel_rfl) ?_))
 refine wwg ?_
 rw [hlen,ew1]
 refine qAj (v:=.tup [vBt c1,.I 0]) (os:=qJw ⟨sta,roots,links,secs,signer,lister,k1,lk,next+1,list,rev,defs,n1⟩) (fun k hk1 hk2=>qEp rfl rfl hi1 [0,1,2,3] (by decide)
  (by show [k[0]?,k[1]?,k[2]?,k[3]?]=_;rw [hk2 0 (by decide),hk2 1 (by decide),hk2 2 (by decide),hk2 3 (by decide)];rfl) rfl rfl rfl rfl rfl) rfl ?_
 refine wwg ?_
 refine qAk (l:=[(0,.ptr 0 0),(1,.I day),(5,.I 0)]) (h':=qJw ⟨sta,roots,links,secs,c1,lister,k1,lk,next+1,list,rev,defs,n1⟩) yf (HLe.refl _) ?_
 refine ww ?_
 refine qAa rfl (fun q1=>?_) (fun q1=>?_)
 ·exact absurd q1 (by simp)
 refine qDq ?_
 refine qAg (qAd ?_)
 refine wws ?_
 refine qAe (qEp (v:=.I (k2:Int)) (H':=qJw ⟨sta,roots,links,secs,c1,lister,k1,lk,next+1,list,rev,defs,n2⟩) rfl rfl hs2 [0,1,2,3] (by decide) rfl rfl rfl rfl rfl rfl) rfl ?_
 refine wws ?_
 refine qAk (l:=[(0,.ptr 0 0),(1,.I day)]) (h':=qJw ⟨sta,roots,links,secs,c1,lister,k1,k2,next+1,list,rev,defs,n2⟩) yf (HLe.refl _) ?_
 refine qAg (qAq (fun i=>bif Nat.beq i 5||Nat.beq i 10||Nat.beq i 15||Nat.beq i 23 then [0] else bif Nat.beq i 17 then [0,1,2,3] else []) (fun i=>bif Nat.beq i 17 then [0,1,2,3] else bif Nat.beq i 23 then [0] else []) mixed (by kernel_rfl) ?_)
 refine wwg ?_
 rw [hlen,ew3]
 refine qAj (v:=.tup [vBt c2,.I 0]) (os:=qJw ⟨sta,roots,links,secs,c1,lister,k1,k2,next+1+1,list,rev,defs,n2⟩) (fun k hk1 hk2=>qEp rfl rfl hi2 [0,1,2,3] (by decide)
  (by show [k[0]?,k[1]?,k[2]?,k[3]?]=_;rw [hk2 0 (by decide),hk2 1 (by decide),hk2 2 (by decide),hk2 3 (by decide)];rfl) rfl rfl rfl rfl rfl) rfl ?_
 refine wwg ?_
 refine qAk (l:=[(0,.ptr 0 0),(1,.I day),(5,.I 0)]) (h':=qJw ⟨sta,roots,links,secs,c1,c2,k1,k2,next+1+1,list,rev,defs,n2⟩) yf (HLe.refl _) ?_
 refine ww ?_
 exact wwr
theorem rootF_eq (a:Aut) (day:Int):qKq a day={ a with secs:=a.secs++[qMc a.seed],seed:=qDk a.seed,roots:=a.roots++[qCt (qMc a.seed) (qSw a.sta a.next 1 (a.secs.length+1) (a.secs.length+1) (qMc a.seed) day 1825 5475)],next:=a.next+1 }:=rfl
theorem encNs'_snoc (l:List Nat) (k:Nat):encNs' (l++[k])=encNs' l++[[.int .i64 (k:Int)]]:=by unfold encNs';rw [List.map_append];rfl
theorem encNls_snoc (l:List Nal) (c:Nal):qBg (l++[c])=qBg l++[qSs c]:=by unfold qBg;rw [List.map_append];rfl
theorem encNls_len (l:List Nal):(qBg l).length=l.length:=by simp [qBg]
theorem getD_snoc (l:List Nat) (k:Nat):(l++[k]).getD (l.length+1-1) 0=k:=by simp [List.getD_eq_getElem?_getD]
theorem qYl (a:Aut) (ha:AutOk a) (hn:a.next≤98) (hs:a.secs.length≤100∧a.roots.length≤100) (day:Int) (hday:0≤day∧day≤73048) :
  Spec Tryz.prog 172 [.ptr 0 0,.I day] (qJw a) (fun r h'=>r=.I 0∧h'=qJw (qKq a day)):=by
 rw [rootF_eq]
 have hnx:=ha.next
 have hst:=ha.sta
 have hr1:=secS_range a.seed
 have hs1:=qFu a (by have:=ha.seed;omega)
 obtain ⟨sta,roots,links,secs,signer,lister,sk,lk,next,list,rev,defs,seed⟩:=a
 simp only at *
 clear ha
 generalize qDk seed=n1 at *
 generalize qMc seed=k1 at *
 have hgd:=getD_snoc secs k1
 have hll:(secs++[k1]).length=secs.length+1:=by simp
 have hi1:=qIr ⟨sta,roots,links,secs++[k1],signer,lister,sk,lk,next,list,rev,defs,n1⟩ 1 (secs.length+1) (secs.length+1) k1 day 1825 5475 (by show next≤_;omega) (by show 1≤secs.length+1∧secs.length+1≤(secs++[k1]).length∧(secs++[k1]).length≤1000;omega) hr1 hday (by omega)
  (by show 1≤(secs++[k1]).getD (secs.length+1-1) 0∧(secs++[k1]).getD (secs.length+1-1) 0 < qG;rw [hgd];exact hr1)
  (certF_chk hst (by show 1≤next∧next≤1000000;omega) (by omega) (by omega) (by omega) ⟨fun _=>rfl,fun _=>rfl⟩ hr1 hday (by omega))
 rw [certF_N] at hi1
 simp only at hi1
 rw [hgd] at hi1
 generalize qCt k1 (qSw sta next 1 (secs.length+1) (secs.length+1) k1 day 1825 5475)=c1 at *
 have hlen:(encNs' (secs++[k1])).length=secs.length+1:=by rw [encNs'_len,hll]
 have hlen0:=encNs'_len secs
 have hlr:=encNls_len roots
 have hsn:=encNs'_snoc secs k1
 have hsr:=encNls_snoc roots c1
 clear hr1 hst hgd
 refine qAb hT Tryz.func172 rfl rfl rfl rfl ?_;intro E hE
 refine qAg (qAd ?_)
 refine wws ?_
 refine qAg (qAd ?_)
 refine wws ?_
 refine qAe (qEp (v:=.I (k1:Int)) (H':=qJw ⟨sta,roots,links,secs,signer,lister,sk,lk,next,list,rev,defs,n1⟩) rfl rfl hs1 [0,1,2,3] (by decide) rfl rfl rfl rfl rfl rfl) rfl ?_
 refine wws ?_
 refine qAg (qAd ?_)
 refine wws ?_
 refine qAe (qAs (i:=1) hT rfl rfl rfl rfl rfl rfl (by show ((encNs' secs).length+1)*(8+1)≤_;omega)) rfl ?_
 refine wws ?_
 refine qAk (l:=[(0,.ptr 0 0),(1,.I day),(5,.I (k1:Int))]) (h':=qJw ⟨sta,roots,links,secs++[k1],signer,lister,sk,lk,next,list,rev,defs,n1⟩) yf
  ⟨ObLe.row (by show _=vGd _ _ _ (.sl 1 (encNs' (secs++[k1])) (.right 1));rw [hsn];rfl),⟨rfl,by rw [hsn]⟩,ObLe.refl _,ObLe.refl _,trivial⟩ ?_
 refine qAg (qAd ?_)
 refine wws ?_
 refine qAk (l:=[(0,.ptr 0 0),(1,.I day),(5,.I (k1:Int)),(6,.I ((secs.length+1:Nat):Int))]) (h':=qJw ⟨sta,roots,links,secs++[k1],signer,lister,sk,lk,next,list,rev,defs,n1⟩) ⟨.refl _,.refl _,.refl _,.int (by rw [hlen]),trivial⟩ (HLe.refl _) ?_
 refine qAg (qAd ?_)
 refine wws ?_
 refine qAe (qEp (v:=.tup [vBt c1,.I 0]) (H':=qJw ⟨sta,roots,links,secs++[k1],signer,lister,sk,lk,next+1,list,rev,defs,n1⟩) rfl rfl hi1 [0,1,2,3] (by decide) rfl rfl rfl rfl rfl rfl) rfl ?_
 refine wws ?_
 refine qAk (l:=[(0,.ptr 0 0),(7,.ptr 4 0),(8,.I 0)]) (h':=qJw ⟨sta,roots,links,secs++[k1],signer,lister,sk,lk,next+1,list,rev,defs,n1⟩++[.row (qDn c1)]) yf (HLe.refl _) ?_
 refine qAg (qAq (fun i=>bif Nat.beq i 4||Nat.beq i 10 then [0] else bif Nat.beq i 5 then [4] else bif Nat.beq i 7 then [2] else []) (fun i=>bif Nat.beq i 7 then [2] else bif Nat.beq i 10 then [0] else []) mixed (by kernel_rfl) ?_)
 refine wwg ?_
 refine qAj (os:=[]) (fun k hk1 hk2=>buildSl_ok hT rfl rfl) rfl ?_
 refine qAj (v:=.sl 11 (qBg roots++[qSs c1]) (.right 2)) (os:=[.right 11 (qBg roots++[qSs c1]).length]) (fun k hk1 hk2=>qAs (i:=2) (es2:=[qSs c1]) hT rfl rfl rfl rfl ((hk2 2 List.mem_cons_self).trans rfl) rfl (by show ((qBg roots).length+1)*(96+1)≤_;omega)) rfl ?_
 rw [← hsr]
 refine wwg ?_
 refine ww ?_
 exact wwr
def aut1 (sta seed:List UInt8):Aut:=⟨sta,[],[],[],nl0,nl0,0,0,1,1,[],[],seed⟩
theorem beginF_eq (sta seed:List UInt8) (day:Int):qQk sta seed day=qHg (qKq (aut1 sta seed) day) day:=rfl
theorem beginA_eq (sta seed:List UInt8) (day:Int):qQl sta seed day=if qDi sta=false then (aut0,60) else if day < 0∨73048 < day then (aut0,8) else (qQk sta seed day,0):=rfl
theorem vGe {sta seed:List UInt8} (h:qDi sta=true) (hs:seed.length≤1000):AutOk (aut1 sta seed):=⟨h,by show 1≤1∧1≤100;omega,(fun k hk=>by cases hk),hs⟩
def vGc (a:Aut):List AObj:=[.row (vGd a (.sl 11 (qBg a.roots) (.right 3)) (.sl 11 (qBg a.links) (.right 4)) (.sl 1 (encNs' a.secs) (.right 2))),.right 1 (encNs' a.secs).length,.right 11 (qBg a.roots).length,.right 11 (qBg a.links).length]
def qZw (sta:List UInt8) (n:Int) (sd:AV):List AV:=[.d (.str sta),.sl 11 [] .full,.sl 11 [] .full,.sl 1 [] .full]++qDn nl0++qDn nl0++[.d (.int .i64 0),.d (.int .i64 0),.d (.int .i64 n),.d (.int .i64 n),.sl 1 [] .full,.sl 5 [] .full,sd]
theorem autZ_le (sta seed:List UInt8):ObLe (.row ((((qZw sta 1 (.d (.sl 1 (qAx seed)))).set 3 (.sl 1 [] (.right 2))).set 1 (.sl 11 [] (.right 3))).set 2 (.sl 11 [] (.right 4)))) (.row (vGd (aut1 sta seed) (.sl 11 (qBg (aut1 sta seed).roots) (.right 3)) (.sl 11 (qBg (aut1 sta seed).links) (.right 4)) (.sl 1 (encNs' (aut1 sta seed).secs) (.right 2)))):=by
 show AllLe _ _
 repeat' (first | exact trivial | exact AV.le.refl _ | exact AV.le.dat | refine ⟨?_,?_⟩)
theorem autC_le (a:Aut):ObLe (.row (vGd a (.sl 11 (qBg a.roots) (.right 3)) (.sl 11 (qBg a.links) (.right 4)) (.sl 1 (encNs' a.secs) (.right 2)))) (.row (qCc a)):=by
 show AllLe _ _
 exact ⟨.refl _,.dat,.dat,.dat,AllLe.refl _⟩
theorem autL (a:Aut):qEj T 166 (qCc a) 0=some (.agg (qCc a)):=loadA_agg (i:=(T.find 166).getD ⟨.str,0,0,[]⟩) rfl rfl (by show 0+33≤33;omega) (List.take_of_length_le (Nat.le_refl 33))
theorem autS (a:Aut):qDr T 166 (qZw [] 0 (.sl 1 [] .full)) 0 (.agg (qCc a))=some (qCc a):=storeA_agg (i:=(T.find 166).getD ⟨.str,0,0,[]⟩) rfl rfl (by show 0+33≤33;omega) (setRun_full rfl)
theorem qUf (sta seed:List UInt8) (day:Int) (hsta:sta.length≤1000000000) (hseed:seed.length≤1000) (h1:qDi sta=true) (hday:0≤day∧day≤73048):Spec Tryz.prog 134 [.d (.str sta),.d (.sl 1 (qAx seed)),.I day] [] (fun r h'=>r=.tup [qOe (qQk sta seed day),.I 0]∧h'=[]):=by
 have hst:=qIw sta hsta
 rw [h1] at hst
 rw [beginF_eq]
 have hok:=vGe h1 hseed
 have hro:=rootF_ok hok (by show 1≤99;omega) day
 have hrt:=qYl (aut1 sta seed) hok (by show 1≤98;omega) (by show 0≤100∧0≤100;omega) day hday
 have hcl:=qJo (qAx seed) (by rw [encB_length];omega)
 have hl1:(qKq (aut1 sta seed) day).secs.length=(aut1 sta seed).secs.length+1:=hro.2.1
 have hn1:(qKq (aut1 sta seed) day).next=(aut1 sta seed).next+1:=hro.2.2
 rw [show (aut1 sta seed).secs.length=0 from rfl] at hl1
 rw [show (aut1 sta seed).next=1 from rfl] at hn1
 have hok1:=hro.1
 clear hro
 generalize qKq (aut1 sta seed) day=A1 at hrt hok1 hl1 hn1 ⊢
 have hct:=qQh A1 hok1 (by omega) (by omega) day hday
 generalize qHg A1 day=A2 at hct ⊢
 refine qAb hT Tryz.func134 rfl rfl rfl rfl ?_;intro E hE
 refine ww ?_
 refine wwc hst ?_
 refine ww ?_
 refine qAa rfl (fun c1=>?_) (fun c1=>?_)
 ·exact absurd c1 (by simp)
 refine ww ?_
 refine qAa rfl (fun c2=>?_) (fun c2=>?_)
 ·exact absurd c2 (by simp;omega)
 refine ww ?_
 refine wwc hcl ?_
 refine wk hT rfl rfl ?_
 refine wk hT rfl rfl ?_
 refine qBh (storeAgg_ok (i:=1) (off:=0) (cs:=qZw sta 1 (.d (.sl 1 (qAx seed)))) hT rfl rfl rfl rfl rfl rfl (by decide) (setRun_full rfl)) rfl ?_
 refine qHd ?_
 refine qAt (qAt (qAt ?_))
 refine qDe 1 3 2 1 rfl rfl rfl ?_
 refine qDe 1 1 3 11 rfl rfl rfl ?_
 refine qDe 1 2 4 11 rfl rfl rfl ?_
 refine qAk (l:=[(2,.I day),(6,.ptr 0 0),(8,.ptr 1 0)]) (h':=.row (qZw [] 0 (.sl 1 [] .full))::vGc (aut1 sta seed)) yf ⟨ObLe.row rfl,autZ_le sta seed,ObLe.refl _,ObLe.refl _,ObLe.refl _,trivial⟩ ?_
 clear hcl hst h1 hok hok1
 generalize aut1 sta seed=A0 at *
 refine qAg (qAg (qAd ?_))
 refine wws ?_
 refine qAe (qEp (v:=.I 0) (H':=.row (qZw [] 0 (.sl 1 [] .full))::vGc A1) rfl rfl hrt [1,2,3,4] (by decide) rfl rfl rfl rfl rfl rfl) rfl ?_
 refine ww ?_
 refine qAa rfl (fun c3=>?_) (fun c3=>?_)
 ·exact absurd c3 (by simp)
 refine qDq ?_
 refine qAg (qAg (qAd ?_))
 refine wws ?_
 refine qAe (qEp (v:=.I 0) (H':=.row (qZw [] 0 (.sl 1 [] .full))::vGc A2) rfl rfl hct [1,2,3,4] (by decide) rfl rfl rfl rfl rfl rfl) rfl ?_
 refine ww ?_
 refine qAa rfl (fun c4=>?_) (fun c4=>?_)
 ·exact absurd c4 (by simp)
 refine qDq ?_
 refine qAk (l:=[(6,.ptr 0 0),(8,.ptr 1 0)]) (h':=[.row (qZw [] 0 (.sl 1 [] .full)),.row (qCc A2),.dead,.dead,.dead]) yf ⟨ObLe.refl _,autC_le A2,trivial,trivial,trivial,trivial⟩ ?_
 refine qAg (qAd ?_)
 refine qAe (qAn (i:=1) (off:=0) hT rfl rfl rfl (autL A2)) rfl ?_
 refine qBh (qAw (i:=0) (off:=0) hT rfl rfl rfl (autS A2)) (forceS_eq _ _) ?_
 refine ww ?_
 refine rq ⟨rfl,rfl⟩ rfl (.refl _)
theorem qXo (sta seed:List UInt8) (day:Int) (hsta:sta.length≤1000000000) (hseed:seed.length≤1000):Spec Tryz.prog 134 [.d (.str sta),.d (.sl 1 (qAx seed)),.I day] [] (fun r h'=>r=.tup [qOe (qQl sta seed day).1,.d (.int .i64 (qQl sta seed day).2)]∧h'=[]):=by
 have hst:=qIw sta hsta
 rw [beginA_eq]
 by_cases h1:qDi sta=true
 ·rw [if_neg (by rw [h1];simp)]
  by_cases h2:day < 0∨73048 < day
  ·rw [if_pos h2]
   rw [h1] at hst
   refine qAb hT Tryz.func134 rfl rfl rfl rfl ?_;intro E hE
   refine ww ?_
   refine wwc hst ?_
   refine ww ?_
   refine qAa rfl (fun c1=>?_) (fun c1=>?_)
   ·exact absurd c1 (by simp)
   refine ww ?_
   refine qAa rfl (fun c2=>?_) (fun c2=>?_)
   ·refine ww ?_
    exact wwr
   ·exact absurd c2 (by simp;omega)
  ·rw [if_neg h2]
   exact qUf sta seed day hsta hseed h1 (by omega)
 ·rw [if_pos (by simpa using h1)]
  rw [show qDi sta=false by simpa using h1] at hst
  refine qAb hT Tryz.func134 rfl rfl rfl rfl ?_;intro E hE
  refine ww ?_
  refine wwc hst ?_
  refine ww ?_
  refine qAa rfl (fun c1=>?_) (fun c1=>?_)
  ·refine ww ?_
   exact wwr
  ·exact absurd c1 (by simp)
abbrev tiA:TI:=⟨.struct [(0,1,false),(1,1,false),(2,1,false),(3,1,false),(4,11,true),(15,11,true),(26,1,false),(27,1,false),(28,1,false),(29,1,false),(30,1,false),(31,1,false),(32,1,false)],33,384,qZw [] 0 (.sl 1 [] .full)⟩
theorem tiA_find:T.find 166=some tiA:=rfl
theorem L38 {C:List AV} (h:C.length=33):qEj T 166 C 0=some (.agg C):=loadA_agg tiA_find rfl (by rw [h];exact Nat.le_refl _) (List.take_of_length_le (by rw [List.length_drop,h];exact Nat.le_refl _))
theorem S38 {C D:List AV} (h1:D.length=33) (h2:C.length=33):qDr T 166 D 0 (.agg C)=some C:=storeA_agg tiA_find h2 (by rw [h1];exact Nat.le_refl _) (setRun_full (by rw [h1,h2]))
theorem encDfs_len (l:List Dfc):(qQc l).length=l.length:=by simp [qQc]
def vIl (a:Aut) (i j k:Nat):List AV:=vGd a (.sl 11 (qBg a.roots) (.right j)) (.sl 11 (qBg a.links) (.right k)) (.sl 1 (encNs' a.secs) (.right i))
theorem qXl (a:Aut) (hl:a.roots.length≤1000000∧a.links.length≤1000000∧a.secs.length≤1000000∧a.rev.length≤1000000∧a.defs.length≤1000000∧a.seed.length≤1000000) :
  Spec Tryz.prog 96 [qOe a] [.room,.room,.room] (fun r h'=>r=.agg (vIl a 0 1 2)∧h'=[.right 1 (encNs' a.secs).length,.right 11 (qBg a.roots).length,.right 11 (qBg a.links).length]):=by
 obtain ⟨l1,l2,l3,l4,l5,l6⟩:=hl
 have h1:=qJn (qBg a.roots) (by rw [encNls_len];omega)
 have h2:=qJn (qBg a.links) (by rw [encNls_len];omega)
 have h3:=qRd (encNs' a.secs) (by rw [encNs'_len];omega)
 have h4:=qRf (a.rev.map fun n=>[.int .i64 n]) (by rw [List.length_map];omega)
 have h5:=qRg (qQc a.defs) (by rw [encDfs_len];omega)
 have h6:=qJo (qAx a.seed) (by rw [encB_length];omega)
 obtain ⟨sta,roots,links,secs,signer,lister,sk,lk,next,list,rev,defs,seed⟩:=a
 simp only at *
 refine qAb hT Tryz.func96 rfl rfl rfl rfl ?_;intro E hE
 refine qAt (qAt ?_)
 refine qAg (qAd ?_)
 refine qAe (boxAt_ok (i0:=3) (cs:=qCc ⟨sta,roots,links,secs,signer,lister,sk,lk,next,list,rev,defs,seed⟩) rfl rfl rfl) rfl ?_
 refine qAe (allocAt_ok (i0:=4) (i:=tiA) hT rfl tiA_find rfl) rfl ?_
 refine qHd ?_
 refine qAg (qAq (fun i=>bif Nat.beq i 2 then [1] else bif Nat.beq i 5 then [2] else bif Nat.beq i 8 then [0] else [3]) (fun i=>bif Nat.beq i 2 then [1] else bif Nat.beq i 5 then [2] else bif Nat.beq i 8 then [0] else bif Nat.beq i 10||Nat.beq i 12||Nat.beq i 14 then [3] else []) mixed (by kernel_rfl) ?_)
 refine wwg ?_
 refine qAj (v:=.sl 11 (qBg roots) (.right 1)) (os:=[.right 11 (qBg roots).length]) (fun k hk1 hk2=>qEp rfl rfl h1 [1] (by decide) (by show [k[1]?]=_;rw [hk2 1 (by decide)];rfl) rfl rfl rfl rfl rfl) rfl ?_
 refine wwg ?_
 refine qAj (v:=.sl 11 (qBg links) (.right 2)) (os:=[.right 11 (qBg links).length]) (fun k hk1 hk2=>qEp rfl rfl h2 [2] (by decide) (by show [k[2]?]=_;rw [hk2 2 (by decide)];rfl) rfl rfl rfl rfl rfl) rfl ?_
 refine wwg ?_
 refine qAj (v:=.sl 1 (encNs' secs) (.right 0)) (os:=[.right 1 (encNs' secs).length]) (fun k hk1 hk2=>qEp rfl rfl h3 [0] (by decide) (by show [k[0]?]=_;rw [hk2 0 (by decide)];rfl) rfl rfl rfl rfl rfl) rfl ?_
 refine wwg ?_
 refine qAk (l:=[(1,.ptr 3 0),(2,.ptr 4 0)]) (h':=[.right 1 (encNs' secs).length,.right 11 (qBg roots).length,.right 11 (qBg links).length,.row (vIl ⟨sta,roots,links,secs,signer,lister,sk,lk,next,list,rev,defs,seed⟩ 0 1 2),.row (qZw [] 0 (.sl 1 [] .full))]) yf (HLe.refl _) ?_
 refine qAg (qAq (fun _=>[3]) (fun i=>bif Nat.beq i 10||Nat.beq i 12||Nat.beq i 14 then [3] else []) mixed (by kernel_rfl) ?_)
 refine wwg ?_
 refine wwdc h4 ?_
 refine wwg ?_
 refine wwdc h5 ?_
 refine wwg ?_
 refine wwdc h6 ?_
 refine wwg ?_
 refine qAk (l:=[(1,.ptr 3 0),(2,.ptr 4 0)]) (h':=[.right 1 (encNs' secs).length,.right 11 (qBg roots).length,.right 11 (qBg links).length,.row (vIl ⟨sta,roots,links,secs,signer,lister,sk,lk,next,list,rev,defs,seed⟩ 0 1 2),.row (qZw [] 0 (.sl 1 [] .full))]) yf (HLe.refl _) ?_
 refine qAg (qAd ?_)
 refine qAe (qAn (i:=3) (off:=0) hT rfl rfl rfl (L38 (C:=vIl ⟨sta,roots,links,secs,signer,lister,sk,lk,next,list,rev,defs,seed⟩ 0 1 2) rfl)) rfl ?_
 refine qBh (qAw (i:=4) (off:=0) hT rfl rfl rfl (S38 (C:=vIl ⟨sta,roots,links,secs,signer,lister,sk,lk,next,list,rev,defs,seed⟩ 0 1 2) rfl rfl)) (forceS_eq _ _) ?_
 refine ww ?_
 refine rq ⟨rfl,rfl⟩ rfl (.refl _)
def qEc (a:Aut):List Dat:=[.str a.sta,.sl 11 (qBg a.roots),.sl 11 (qBg a.links),.sl 1 (encNs' a.secs)]++qSs a.signer++qSs a.lister++[.int .i64 (a.sk:Int),.int .i64 (a.lk:Int),.int .i64 (a.next:Int),.int .i64 a.list,.sl 1 (a.rev.map fun n=>[.int .i64 n]),.sl 5 (qQc a.defs),.sl 1 (qAx a.seed)]
theorem qUa:Spec Tryz.prog 95 [.d (.sl 33 []),.any] [] (fun r h'=>r=.sl 33 [] .full∧h'=[]):=by
 refine qAb hT Tryz.func95 rfl rfl rfl rfl ?_;intro E hE
 refine ww ?_
 refine qAm (ι:=Unit) (fun _=>[(5,.nils),(8,.d (.sl 33 [])),(9,.I 0),(10,.I 0)]) (fun _=>[]) (fun _=>True) (fun _=>0) () trivial yf (HLe.refl _) ?_
 intro _ _
 refine ww ?_
 refine qAa rfl (fun q=>absurd q (by decide)) (fun q=>?_)
 refine ww ?_
 exact rq ⟨rfl,rfl⟩ rfl AV.le.nilsf
theorem qLu:Spec Tryz.prog 97 [.d (.sl 62 []),.any] [] (fun r h'=>r=.sl 62 [] .full∧h'=[]):=by
 refine qAb hT Tryz.func97 rfl rfl rfl rfl ?_;intro E hE
 refine ww ?_
 refine qAm (ι:=Unit) (fun _=>[(5,.nils),(8,.d (.sl 62 [])),(9,.I 0),(10,.I 0)]) (fun _=>[]) (fun _=>True) (fun _=>0) () trivial yf (HLe.refl _) ?_
 intro _ _
 refine ww ?_
 refine qAa rfl (fun q=>absurd q (by decide)) (fun q=>?_)
 refine ww ?_
 exact rq ⟨rfl,rfl⟩ rfl AV.le.nilsf
theorem qLt:Spec Tryz.prog 99 [.d (.sl 11 []),.any] [] (fun r h'=>r=.sl 11 [] .full∧h'=[]):=by
 refine qAb hT Tryz.func99 rfl rfl rfl rfl ?_;intro E hE
 refine ww ?_
 refine qAm (ι:=Unit) (fun _=>[(5,.nils),(8,.d (.sl 11 [])),(9,.I 0),(10,.I 0)]) (fun _=>[]) (fun _=>True) (fun _=>0) () trivial yf (HLe.refl _) ?_
 intro _ _
 refine ww ?_
 refine qAa rfl (fun q=>absurd q (by decide)) (fun q=>?_)
 refine ww ?_
 exact rq ⟨rfl,rfl⟩ rfl AV.le.nilsf
theorem qUb (a:Aut) (hl:a.roots.length≤1000000∧a.links.length≤1000000∧a.secs.length≤1000000∧a.rev.length≤1000000∧a.defs.length≤1000000∧a.seed.length≤1000000) :
  Spec Tryz.prog 96 [qOe a] [.room,.room,.room] (fun r h'=>r=qOe a∧h'=[.right 1 (encNs' a.secs).length,.right 11 (qBg a.roots).length,.right 11 (qBg a.links).length]) :=
 (qXl a hl).weak (AV.le.agg ⟨.refl _,.dat,.dat,.dat,AllLe.refl _⟩) rfl
theorem qTz (a:Aut) (hl:a.roots.length≤1000000∧a.links.length≤1000000∧a.secs.length≤1000000∧a.rev.length≤1000000∧a.defs.length≤1000000∧a.seed.length≤1000000) :
  Spec Tryz.prog 95 [.d (.sl 33 [qEc a]),.fn (.func 96) [] []] [] (fun r h'=>r=.d (.sl 33 [qEc a])∧h'=[]):=by
 have hc:=qUb a hl
 have hat:([qEc a]:List (List Dat))[((0:Int)).toNat]?=some (qEc a):=rfl
 refine qAb hT Tryz.func95 rfl rfl rfl rfl ?_;intro E hE
 refine qAt (qAt (qAt (qAt ?_)))
 refine ww ?_
 refine qAm (ι:=Nat) (fun i=>[(1,.fn (.func 96) [] []),(5,if i=0 then .nils else .d (.sl 33 [qEc a])),(8,.d (.sl 33 [qEc a])),(9,.I 1),(10,.I (i:Int))]) (fun i=>if i=0 then [.room,.room,.room,.room] else [.dead,.dead,.dead,.dead]) (fun i=>i≤1) (fun i=>1-i) 0 (by omega) yf (HLe.refl _) ?_
 intro i hi
 by_cases h0:i=0
 ·subst h0
  rw [if_pos rfl,if_pos rfl]
  refine ww ?_
  refine qAa rfl (fun q=>?_) (fun q=>absurd q (by decide))
  refine ww ?_
  refine wwi hat ?_
  refine wk hT rfl rfl ?_
  refine qAe (allocAt_ok (i0:=3) (i:=tiA) hT rfl tiA_find rfl) rfl ?_
  refine qBh (qAw (i:=3) (off:=0) hT rfl rfl rfl (S38 rfl rfl)) (forceS_eq _ _) ?_
  refine qHd ?_
  refine qAk (l:=[(1,.fn (.func 96) [] []),(5,.nils),(7,.ptr 3 0),(8,.d (.sl 33 [qEc a])),(9,.I 1),(10,.I 0)]) (h':=[.room,.room,.room,.row (qCc a)]) yf (HLe.refl _) ?_
  refine qAd ?_
  refine wk hT rfl rfl ?_
  refine wk hT rfl rfl ?_
  refine qAe (qAn (i:=3) (off:=0) hT rfl rfl rfl (L38 (C:=qCc a) rfl)) rfl ?_
  refine qAe (qSx (v:=qOe a) (H':=[.right 1 (encNs' a.secs).length,.right 11 (qBg a.roots).length,.right 11 (qBg a.links).length,.row (qCc a)]) rfl rfl hc [0,1,2] (by decide) rfl rfl rfl rfl rfl rfl rfl) rfl ?_
  refine qAe (buildSl_ok (v:=.sl 33 [qEc a] .full) hT rfl rfl) rfl ?_
  refine qAe (qCe (es:=[]) (es2:=[qEc a]) (sz:=33) (by_:=384) hT rfl rfl rfl (.inr ⟨rfl,rfl⟩) rfl (show (0+1)*(384+1)≤140737488355328 by decide)) rfl ?_
  refine ww ?_
  exact ⟨1,Nat.le_refl _,by omega,yf,⟨trivial,trivial,trivial,trivial,trivial⟩⟩
 ·have h1:i=1:=by omega
  subst h1
  rw [if_neg (by decide),if_neg (by decide)]
  refine ww ?_
  refine qAa rfl (fun q=>absurd q (by decide)) (fun q=>?_)
  refine ww ?_
  exact rq ⟨rfl,rfl⟩ rfl (.refl _)
abbrev bC (A P:AV):List AV:=[.I 40000,A,.sl 62 [] .full,P]
theorem qOq:Spec Tryz.prog 78 [.agg (bC (.sl 33 [] .full) (.sl 11 [] .full))] [] (fun r h'=>r=.agg (bC (.sl 33 [] .full) (.sl 11 [] .full))∧h'=[]):=by
 refine qAb hT Tryz.func78 rfl rfl rfl rfl ?_;intro E hE
 refine qAg (qAd ?_)
 refine wws ?_
 refine qAg ?_
 refine qAq (fun i=>bif Nat.beq i 1||Nat.beq i 3||Nat.beq i 6||Nat.beq i 9 then [0] else bif Nat.beq i 12 then [1] else []) (fun i=>bif Nat.beq i 12 then [1] else []) mixed (by kernel_rfl) ?_
 refine wwg ?_
 refine wwdc qUa ?_
 refine wwg ?_
 refine wwdc qLu ?_
 refine wwg ?_
 refine wwdc qLt ?_
 refine wwg ?_
 refine ww ?_
 exact rq ⟨rfl,rfl⟩ rfl (.refl _)
theorem qOp (a:Aut) (hl:a.roots.length≤1000000∧a.links.length≤1000000∧a.secs.length≤1000000∧a.rev.length≤1000000∧a.defs.length≤1000000∧a.seed.length≤1000000) :
  Spec Tryz.prog 78 [.agg (bC (.d (.sl 33 [qEc a])) (.sl 11 [] .full))] [] (fun r h'=>r=.agg (bC (.d (.sl 33 [qEc a])) (.sl 11 [] .full))∧h'=[]):=by
 have h1:=qTz a hl
 generalize qEc a=D at *
 refine qAb hT Tryz.func78 rfl rfl rfl rfl ?_;intro E hE
 refine qAg (qAd ?_)
 refine wws ?_
 refine qAg ?_
 refine qAq (fun i=>bif Nat.beq i 1||Nat.beq i 3||Nat.beq i 6||Nat.beq i 9 then [0] else bif Nat.beq i 12 then [1] else []) (fun i=>bif Nat.beq i 12 then [1] else []) mixed (by kernel_rfl) ?_
 refine wwg ?_
 refine wwdc h1 ?_
 refine wwg ?_
 refine wwdc qLu ?_
 refine wwg ?_
 refine wwdc qLt ?_
 refine wwg ?_
 refine ww ?_
 exact rq ⟨rfl,rfl⟩ rfl (.refl _)
inductive Rule where
 | mk (v:Int) (al:Bool) (c:Cond)
def vDr:Rule→List Dat
 | .mk v al (.mk k c w kids)=>[.int .i64 v,.bool al,.int .i64 k,.int .i64 c,.int .i64 w,.sl 4 (qDt kids)]
def qFb (l:List Rule):List (List Dat):=l.map vDr
def qNn (l:List Rule):AV:=.agg [.d (.sl 6 (qFb l))]
def vFt:Rule→Cond
 | .mk _ _ c=>c
def qGt:Rule→Int
 | .mk v al (.mk k c w kids)=>if v < 1∨v > 3 then 61 else if al=true∧(k≠0∨c≠0∨w≠0∨0 < kids.length) then 1 else if al=false∧qDg 8 (.mk k c w kids)=false then 1 else 0
def qHz:List Rule→Int
 | []=>0
 | r::l=>if qGt r=0 then qHz l else qGt r
def qGa (l:List Rule):Int:=if l.length > 32 then 72 else qHz l
set_option maxRecDepth 100000 in
theorem qOk (l:List Rule) (hs:∀ r,r∈l→qJb (vFt r)):Spec Tryz.prog 216 [qNn l] [] (fun r h'=>r=.I (qGa l)∧h'=[]):=by
 refine qAb hT Tryz.func216 rfl rfl rfl rfl ?_
 intro E hE
 have hlen:(qFb l).length=l.length:=by simp [qFb]
 refine ww ?_
 refine qAa rfl (fun h1=>?_) (fun h1=>?_)
 ·have h1':l.length > 32:=by rw [hlen] at h1;simp at h1;omega
  refine ww ?_
  refine qAh rfl (.refl _) rfl rfl rfl rfl ⟨?_,rfl⟩
  rw [qGa,if_pos h1'];rfl
 ·have h1':¬ l.length > 32:=by rw [hlen] at h1;simp at h1;omega
  rw [qGa,if_neg h1']
  refine ww ?_
  refine qFj (ι:=Nat) (fun k=>[(1,.ptr 0 0),(10,.d (.sl 6 (qFb l))),(11,.d (.int .i64 (qFb l).length)),(12,.I k)]) (fun _=>[.row [.d (.sl 6 (qFb l))]]) (fun k=>k≤l.length∧qHz (l.drop k)=qHz l) (fun k=>l.length-k) 0
   ⟨by omega,rfl⟩ yf (HLe.refl _) ?_
  rintro k ⟨hk,hf⟩
  refine ww ?_
  refine qAa rfl (fun h2=>?_) (fun h2=>?_)
  ·have hlt:k < l.length:=by rw [hlen] at h2;simpa using h2
   have hel:(qFb l)[((k:Int)).toNat]?=some (vDr l[k]):=by simp [qFb,hlt]
   have hd:l.drop k=l[k]::l.drop (k+1):=by simp
   rw [hd] at hf
   have hsm:=hs l[k] (List.getElem_mem hlt)
   generalize l[k]=r at hel hf hsm
   obtain ⟨v,al,⟨ck,cc,cv,kids⟩⟩:=r
   have hkl:=encCs_length kids
   have hv:=qMp 8 (.mk ck cc cv kids) (by omega) hsm
   rw [qHz] at hf
   refine ww ?_
   refine qAe (qAc (indexAddr_ok hT rfl rfl rfl rfl (by omega) hel)) rfl ?_
   refine ww ?_
   refine qAa rfl (fun h3=>?_) (fun h3=>?_)
   ·have h3':v < 1∨v > 3:=by simpa using h3
    refine ww ?_
    refine qAh rfl (.refl _) rfl rfl rfl rfl ⟨?_,rfl⟩
    rw [← hf,qGt,if_pos h3'];rfl
   ·have h3':¬ (v < 1∨v > 3):=by simpa using h3
    refine ww ?_
    refine qAa rfl (fun h4=>?_) (fun h4=>?_)
    ·have h4':al=true∧(ck≠0∨cc≠0∨cv≠0∨0 < kids.length):=by rw [hkl] at h4;simpa [or_assoc,and_assoc] using h4
     refine ww ?_
     refine qAh rfl (.refl _) rfl rfl rfl rfl ⟨?_,rfl⟩
     rw [← hf,qGt,if_neg h3',if_pos h4'];rfl
    ·have h4':¬ (al=true∧(ck≠0∨cc≠0∨cv≠0∨0 < kids.length)):=by rw [hkl] at h4;simpa [or_assoc,and_assoc] using h4
     refine ww ?_
     refine qEk rfl rfl rfl (fun hg=>⟨by first | exact True.intro | exact ⟨hg,True.intro⟩,qBu rfl rfl hv rfl rfl rfl⟩) ?_
     refine ww ?_
     refine qAa rfl (fun h5=>?_) (fun h5=>?_)
     ·have h5':al=false∧qDg 8 (.mk ck cc cv kids)=false:=by simpa using h5
      refine ww ?_
      refine qAh rfl (.refl _) rfl rfl rfl rfl ⟨?_,rfl⟩
      rw [← hf,qGt,if_neg h3',if_neg h4',if_pos h5'];rfl
     ·have h5':¬ (al=false∧qDg 8 (.mk ck cc cv kids)=false):=by simpa using h5
      have hz:qGt (.mk v al (.mk ck cc cv kids))=0:=by rw [qGt,if_neg h3',if_neg h4',if_neg h5']
      rw [if_pos hz] at hf
      refine ww ?_
      refine ⟨k+1,[.dead],⟨by omega,hf⟩,by omega,⟨.refl _,.refl _,.refl _,AV.le.eq ?_,trivial⟩,⟨ObLe.refl _,trivial,trivial⟩,Env.below_mono hE (by simp),rfl,rfl⟩
      show AV.d (.int .i64 (IntKind.i64.wrap ((k:Int)+1)))=_
      rw [qAf (by omega)];rfl
  ·have hge:k=l.length:=by rw [hlen] at h2;simp at h2;omega
   refine ww ?_
   refine qAh rfl (.refl _) rfl rfl rfl rfl ⟨?_,rfl⟩
   rw [← hf,hge,List.drop_length];rfl
theorem flatC_small {kind:Int} {c:Cond} (h:qJb c):qEw (qFn kind c):=by
 cases c
 simp only [qFn]
 split
 ·exact h.2
 ·exact ⟨h,trivial⟩
def PartSmall (text:List UInt8) (n:Nat) (part:PS→Cond×PS):Prop:=∀ s,Inv text s→text.length-s.na < n→qJb (part s).1
theorem loopP_small {text:List UInt8} {n:Nat} {part:PS→Cond×PS} (hp:PartOk text n part) (hs:PartSmall text n part) (kind:Int) {w:List UInt8} (hw:w≠[]):∀ (m:Nat) (l:List Cond) (s:PS),Inv text s→text.length-s.na < n→qEw l→qEw (qIq text kind w part m l s).1
 | 0,l,s,h,hn,hl=>hl
 | m+1,l,s,h,hn,hl=>by
  unfold qIq
  cases hi:(isP text s w).1 with
  | false=>rw [if_neg (by simp)];exact hl
  | true =>
   rw [if_pos rfl]
   obtain ⟨h1,h2,h3⟩:=isP_true h hi
   have hwl:0 < w.length:=List.length_pos_iff.2 hw
   obtain ⟨k1,k2,k3⟩:=hp.inv _ h1 (by omega)
   exact loopP_small hp hs kind hw m _ _ k1 (by omega) (smallCs_append hl (flatC_small (hs _ h1 (by omega))))
theorem seriesP_small {text:List UInt8} {n:Nat} {part:PS→Cond×PS} (hl:text.length≤1000000) (hp:PartOk text n part) (hs:PartSmall text n part) (kind:Int) {w:List UInt8} (hw:w≠[]):PartSmall text n (qCp text kind w part):=by
 intro s h hn
 obtain ⟨k1,k2,k3⟩:=hp.inv s h hn
 have h0:=hs s h hn
 have hwide:=((seriesP_ok hp kind hw).inv s h hn)
 unfold qCp at hwide ⊢
 split
 ·exact h0
 ·rename_i hc
  rw [if_neg hc] at hwide
  obtain ⟨q1,q2,q3⟩:=hwide
  simp only [qJr] at q3
  have:=q1.a;have:=q1.le
  exact ⟨by simp only at *;omega,loopP_small hp hs kind hw _ _ _ k1 (by omega) (flatC_small h0)⟩
theorem atomP_small {text:List UInt8} (hl:text.length≤1000000):∀ n,PartSmall text n (qIe text n)
 | 0=>fun s _ hn=>by omega
 | n+1=>by
  have ih:=atomP_small hl n
  intro s h hn
  unfold qIe
  cases h1:(isP text s notW).1 with
  | true =>
   rw [if_pos rfl]
   obtain ⟨k1,k2,k3⟩:=isP_true h h1
   have:notW.length=3:=rfl
   exact ⟨by simp,ih _ k1 (by omega),trivial⟩
  | false =>
   rw [if_neg (by simp),isP_false h1]
   cases h2:(isP text s lpW).1 with
   | true =>
    rw [if_pos rfl]
    obtain ⟨k1,k2,k3⟩:=isP_true h h2
    have:lpW.length=1:=rfl
    exact seriesP_small hl (conjP_ok text n) (seriesP_small hl (atomP_ok text n) ih 3 (w:=vDv) (by decide)) 4 (w:=orW) (by decide) _ k1 (by omega)
   | false =>
    rw [if_neg (by simp)]
    unfold qGz
    split <;> exact ⟨by simp,trivial⟩
theorem condP_small {text:List UInt8} (hl:text.length≤1000000) (n:Nat):PartSmall text n (qLk text n) :=
 seriesP_small hl (conjP_ok text n) (seriesP_small hl (atomP_ok text n) (atomP_small hl n) 3 (w:=vDv) (by decide)) 4 (w:=orW) (by decide)
def qJs (text:List UInt8) (n:Nat) (s:PS):Rule×PS :=
 if (isP text (qHo text s vds).2 ifW).1 then (.mk (qHo text s vds).1 false (qLk text n (isP text (qHo text s vds).2 ifW).2).1,qHs text (qLk text n (isP text (qHo text s vds).2 ifW).2).2 scW)
 else (.mk (qHo text s vds).1 true (.mk 0 0 0 []),qHs text (isP text (qHo text s vds).2 ifW).2 scW)
theorem isP_wr {text:List UInt8} {s:PS} {w:List UInt8} (h:s.wr=true):isP text s w=(false,s):=by unfold isP;rw [if_pos (.inl h)]
theorem needP_wr {text:List UInt8} {s:PS} {w:List UInt8} (h:s.wr=true):(qHs text s w).wr=true:=by unfold qHs;rw [isP_wr h];rfl
theorem ruleP_ok {text:List UInt8} (hl:text.length≤1000000) {s:PS} (h:Inv text s) (hnt:s.nt≠[]) :
  Inv text (qJs text (text.length+1) s).2∧s.na≤(qJs text (text.length+1) s).2.na∧((qJs text (text.length+1) s).2.wr=true∨s.na < (qJs text (text.length+1) s).2.na)∧qJb (vFt (qJs text (text.length+1) s).1):=by
 obtain ⟨h1,h2⟩:=oneP_inv (l:=vds) h
 have hone:(qHo text s vds).2.wr=true∨s.na < (qHo text s vds).2.na:=by
  unfold qHo
  split
  ·exact .inl rfl
  ·obtain ⟨_,q,_⟩:=h.next
   have:=List.length_pos_iff.2 hnt
   exact .inr (by simp only;omega)
 obtain ⟨h3,h4⟩:=isP_inv (w:=ifW) h1
 unfold qJs
 cases hi:(isP text (qHo text s vds).2 ifW).1 with
 | true =>
  rw [if_pos rfl]
  have hnw:(qHo text s vds).2.wr=false:=by
   cases hb:(qHo text s vds).2.wr with
   | false=>rfl
   | true=>rw [isP_wr hb] at hi;cases hi
  rw [hnw] at hone
  have hone:=hone.resolve_left (by simp)
  obtain ⟨q1,q2,q3⟩:=(condP_ok text (text.length+1)).inv _ h3 (by omega)
  obtain ⟨r1,r2⟩:=needP_inv (w:=scW) q1
  exact ⟨r1,by simp only;omega,.inr (by simp only;omega),condP_small hl _ _ h3 (by omega)⟩
 | false =>
  rw [if_neg (by simp)]
  obtain ⟨r1,r2⟩:=needP_inv (w:=scW) h3
  refine ⟨r1,by simp only;omega,?_,by simp,trivial⟩
  rcases hone with hw | hw
  ·left;rw [isP_wr hw];exact needP_wr hw
  ·right;simp only;omega
set_option maxRecDepth 100000 in
theorem qYi {text:List UInt8} (hl:text.length≤1000000) (s:PS) (h:Inv text s) :
  Spec Tryz.prog 215 [.ptr 0 0] [.row (psr text s)] (fun r h'=>r=.agg ((vDr (qJs text (text.length+1) s).1).map .d)∧h'=[.row (psr text (qJs text (text.length+1) s).2)]):=by
 have hone:=qNp text s vds h.le hl (by decide)
 obtain ⟨q1,q2⟩:=oneP_inv (l:=vds) h
 unfold qJs
 generalize qHo text s vds=r1 at hone q1 q2 ⊢
 obtain ⟨n1,s1⟩:=r1
 simp only at hone q1 q2 ⊢
 have his:=qIs text s1 ifW q1.le hl
 obtain ⟨j1,j2⟩:=isP_inv (w:=ifW) q1
 generalize isP text s1 ifW=r2 at his j1 j2 ⊢
 obtain ⟨b2,s2⟩:=r2
 simp only at his j1 j2 ⊢
 have hcond:=qQf hl (qQe hl (qQn hl (text.length+1))) s2 j1 (by omega)
 obtain ⟨k1,k2,k3⟩:=(condP_ok text (text.length+1)).inv s2 j1 (by omega)
 generalize qLk text (text.length+1) s2=r3 at hcond k1 ⊢
 obtain ⟨⟨k,c,v,kids⟩,s3⟩:=r3
 simp only at hcond k1 ⊢
 have hn1:=qKz text s3 scW k1.le hl
 have hn2:=qKz text s2 scW j1.le hl
 generalize qHs text s3 scW=s4 at hn1 ⊢
 generalize qHs text s2 scW=s5 at hn2 ⊢
 refine qAb hT Tryz.func215 rfl rfl rfl rfl ?_
 intro E hE
 refine ww ?_
 refine qAe (qBu rfl rfl qOg rfl rfl rfl) rfl ?_
 refine qAe (qAl rfl rfl hone [0] (by decide) rfl rfl rfl (lowH_psr 0 _ _) (lowH_psr 0 _ _) rfl rfl) rfl ?_
 refine ww ?_
 refine qAe (qAl rfl rfl his [0] (by decide) rfl rfl rfl (lowH_psr 0 _ _) (lowH_psr 0 _ _) rfl rfl) rfl ?_
 refine ww ?_
 refine qAa rfl (fun hb=>?_) (fun hb=>?_)
 ·subst hb
  rw [if_pos rfl]
  refine ww ?_
  refine qAe (qAl rfl rfl hcond [0] (by decide) rfl rfl rfl (lowH_psr 0 _ _) (lowH_psr 0 _ _) (qGu _ _) rfl) rfl ?_
  refine ww ?_
  refine qAe (qAl rfl rfl hn1 [0] (by decide) rfl rfl rfl (lowH_psr 0 _ _) (lowH_psr 0 _ _) rfl rfl) rfl ?_
  refine ww ?_
  exact qAh (r:=.agg ((vDr (.mk n1 false (.mk k c v kids))).map .d)) rfl (AV.le.agg yf) rfl rfl rfl (lowH_psr _ _ _) ⟨rfl,rfl⟩
 ·subst hb
  rw [if_neg (by simp)]
  refine ww ?_
  refine qAe (qAl rfl rfl hn2 [0] (by decide) rfl rfl rfl (lowH_psr 0 _ _) (lowH_psr 0 _ _) rfl rfl) rfl ?_
  refine ww ?_
  exact qAh (r:=.agg ((vDr (.mk n1 true (.mk 0 0 0 []))).map .d)) rfl (AV.le.agg ⟨.refl _,.refl _,.refl _,.refl _,.refl _,AV.le.dat,trivial⟩) rfl rfl rfl (lowH_psr _ _ _) ⟨rfl,rfl⟩
def qUr (text:List UInt8):Nat→List Rule→PS→List Rule×PS
 | 0,l,s=>(l,s)
 | m+1,l,s=>if s.nt≠[]∧s.wr=false then qUr text m (l++[(qJs text (text.length+1) s).1]) (qJs text (text.length+1) s).2 else (l,s)
def qMt (text:List UInt8):List Rule×PS:=qUr text (text.length+3) [] (qGw text ⟨0,[],0,false⟩)
def qMu (text:List UInt8):List Rule×Int×Int :=
 if text.length > 4096 then ([],0,72)
 else if (qMt text).2.wr=true then ([],(qMt text).2.na,71)
 else if qGa (qMt text).1≠0 then ([],0,72) else ((qMt text).1,0,0)
def meas (text:List UInt8) (s:PS):Nat:=if s.wr=true then 0 else text.length-s.na+1
theorem encRs_append (a:List Rule) (r:Rule):qFb (a++[r])=qFb a++[vDr r]:=by simp [qFb]
set_option maxRecDepth 100000 in
theorem qOl (text:List UInt8) (hl:text.length≤1000000) :
  Spec Tryz.prog 149 [.d (.str text)] [] (fun r h'=>r=.tup [qNn (qMu text).1,.d (.int .i64 (qMu text).2.1),.d (.int .i64 (qMu text).2.2)]∧h'=[]):=by
 refine qAb hT Tryz.func149 rfl rfl rfl rfl ?_
 intro E hE
 have i0:Inv text ⟨0,[],0,false⟩:=⟨rfl,by simp⟩
 have hnext:=qKy text ⟨0,[],0,false⟩ (by simp) hl
 refine ww ?_
 refine qAa rfl (fun h1=>?_) (fun h1=>?_)
 ·have h1':text.length > 4096:=by simp at h1;omega
  unfold qMu
  rw [if_pos h1']
  refine ww ?_
  exact qAh (r:=.tup [qNn [],.I 0,.I 72]) rfl (AV.le.tup ⟨AV.le.agg ⟨AV.le.dat,trivial⟩,.refl _,.refl _,trivial⟩) rfl rfl rfl rfl ⟨rfl,rfl⟩
 ·have h1':¬ text.length > 4096:=by simp at h1;omega
  unfold qMu
  rw [if_neg h1']
  obtain ⟨i1,_,i1w⟩:=i0.next
  generalize hq:qMt text=q
  unfold qMt at hq
  generalize qGw text ⟨0,[],0,false⟩=s0 at hnext i1 i1w hq
  refine ww ?_
  refine qAe (qAl rfl rfl hnext [1] (by decide) rfl rfl rfl rfl (lowH_psr 0 _ _) rfl rfl) rfl ?_
  refine ww ?_
  refine qAt (qDe 2 0 3 6 rfl rfl rfl ?_)
  refine qFj (ι:=List Rule×PS)
   (fun x=>[(2,.ptr 0 0),(5,.ptr 1 0),(6,.ptr 2 0)])
   (fun x=>[.row [.sl 6 [] .full],.row (psr text x.2),.row [.sl 6 (qFb x.1) (.right 3)],.right 6 (qFb x.1).length])
   (fun x=>Inv text x.2∧x.1.length≤x.2.na+(if x.2.wr=true then 1 else 0)∧(∀ r,r∈x.1→qJb (vFt r))∧∃ m,meas text x.2 < m∧qUr text m x.1 x.2=q)
   (fun x=>meas text x.2) ([],s0) ⟨i1,by simp,(fun r hr=>(by cases hr)),text.length+3,(by unfold meas;split <;> omega),hq⟩
   yf (HLe.refl _) ?_
  rintro ⟨l,s⟩ ⟨j1,j2,j3,m,j4,j5⟩
  simp only at j1 j2 j3 j4 j5 ⊢
  obtain ⟨m,rfl⟩:∃ m',m=m'+1:=⟨m-1,by omega⟩
  rw [qUr] at j5
  have hrule:=qYi hl s j1
  have hrok:=ruleP_ok hl j1
  generalize qJs text (text.length+1) s=rs at hrule hrok j5
  obtain ⟨⟨rv,ral,⟨rk,rc,rw_,rkids⟩⟩,s2⟩:=rs
  simp only at hrule hrok j5
  obtain ⟨a,nt,na,wr⟩:=s
  simp only at j1 j2 j4 j5 hrok
  have hna:=j1.a;have hle:=j1.le
  simp only at hna hle
  refine ww ?_
  refine qAa rfl (fun h2=>?_) (fun h2=>?_)
  ·have h2':nt≠[]∧wr=false:=by simpa using h2
   rw [if_pos h2'] at j5
   obtain ⟨k1,k2,k3,k4⟩:=hrok h2'.1
   have hk1:=k1.a;have hk2:=k1.le
   obtain ⟨hnt,rfl⟩:=h2'
   refine wwe ?_
   refine qGj ?_
   refine qBm (fun i=>bif Nat.beq i 1 then [2] else bif Nat.beq i 3 then [1] else bif Nat.beq i 5 then [3] else bif Nat.beq i 7 then [2] else []) (fun i=>bif Nat.beq i 3 then [1] else bif Nat.beq i 5 then [3] else bif Nat.beq i 7 then [2] else []) mixed (by kernel_rfl) ?_
   refine wwg ?_
   refine qAj (v:=.agg ((vDr (.mk rv ral (.mk rk rc rw_ rkids))).map .d)) (os:=[.row (psr text s2)]) (fun k hk1 hk2=>qAl rfl rfl hrule [1] (by decide) (congrArg (fun x=>[x]) ((hk2 1 (by show 1∈[1];simp)).trans rfl)) rfl rfl rfl (lowH_psr 0 _ _) rfl rfl) rfl ?_
   refine qAj (os:=[]) (fun k hk1 hk2=>buildSl_ok hT rfl rfl) rfl ?_
   refine qAj (v:=.sl 6 (qFb l++[vDr (.mk rv ral (.mk rk rc rw_ rkids))]) (.right 3)) (os:=[.right 6 ((qFb l).length+1)]) (fun k hk1 hk2=>qEe (i:=3) hT rfl rfl rfl rfl ((hk2 3 (by show 3∈[3];simp)).trans rfl) rfl (by show ((qFb l).length+1)*(64+1)≤140737488355328;simp [qFb];simp at j2;omega)) rfl ?_
   refine wwg ?_
   refine ⟨(l++[.mk rv ral (.mk rk rc rw_ rkids)],s2),[],⟨k1,?_,?_,m,?_,j5⟩,?_,yf,⟨ObLe.refl _,ObLe.refl _,?_,?_,trivial⟩,Env.below_mono hE (by simp),rfl,?_⟩
   ·simp only [List.length_append,List.length_cons,List.length_nil];simp at j2;split <;> (rcases k3 with k3 | k3 <;> simp_all <;> omega)
   ·intro r hr
    rcases List.mem_append.1 hr with hr | hr
    ·exact j3 r hr
    ·simp at hr;subst hr;exact k4
   ·unfold meas at j4 ⊢;simp only at j4 ⊢;simp at j4;split
    ·omega
    ·rcases k3 with k3 | k3 <;> simp_all <;> omega
   ·unfold meas;simp only;simp;split
    ·omega
    ·rcases k3 with k3 | k3 <;> simp_all <;> omega
   ·simp only [encRs_append];exact ObLe.refl _
   ·simp only [encRs_append,List.length_append];exact ObLe.refl _
   ·simp only [qCd,vGr,qYt];rfl
  ·have h2':¬ (nt≠[]∧wr=false):=by simpa using h2
   rw [if_neg h2'] at j5
   subst j5
   refine wwe ?_
   refine qAk (l:=[(2,.ptr 0 0),(5,.ptr 1 0),(6,.ptr 2 0)]) (h':=[.row [.sl 6 [] .full],.row (psr text ⟨a,nt,na,wr⟩),.row [.d (.sl 6 (qFb l))],.dead]) yf ⟨ObLe.refl _,ObLe.refl _,⟨AV.le.dat,trivial⟩,trivial,trivial⟩ ?_
   have hvalid:=qOk l j3
   refine ww ?_
   refine qAa rfl (fun h3=>?_) (fun h3=>?_)
   ·subst h3
    rw [if_pos rfl]
    refine qAg ?_
    refine qBm (fun i=>bif Nat.beq i 5 then [1] else bif Nat.beq i 6 then [0] else []) (fun i=>bif Nat.beq i 6 then [0] else []) mixed (by kernel_rfl) ?_
    refine wwg ?_
    refine ww ?_
    exact qAh (r:=.tup [qNn [],.I na,.I 71]) rfl (AV.le.tup ⟨AV.le.agg ⟨AV.le.dat,trivial⟩,.refl _,.refl _,trivial⟩) rfl rfl rfl rfl ⟨rfl,rfl⟩
   ·subst h3
    rw [if_neg (by simp)]
    refine ww ?_
    refine qAe (qBu rfl rfl hvalid rfl rfl rfl) rfl ?_
    refine ww ?_
    refine qAa rfl (fun h4=>?_) (fun h4=>?_)
    ·have h4':qGa l≠0:=by simpa using h4
     rw [if_pos h4']
     refine ww ?_
     exact qAh (r:=.tup [qNn [],.I 0,.I 72]) rfl (AV.le.tup ⟨AV.le.agg ⟨AV.le.dat,trivial⟩,.refl _,.refl _,trivial⟩) rfl rfl rfl rfl ⟨rfl,rfl⟩
    ·have h4':¬ qGa l≠0:=by simpa using h4
     rw [if_neg h4']
     refine ww ?_
     exact qAh (r:=.tup [qNn l,.I 0,.I 0]) rfl (AV.le.tup yf) rfl rfl rfl rfl ⟨rfl,rfl⟩
def vHp (x:AV):AV:=bif low 0 x then x else .any
theorem lowA_le (x:AV):AV.le x (vHp x):=by
 unfold vHp
 cases low 0 x
 ·exact AV.le.any x
 ·exact AV.le.refl x
theorem vFw {P:Program} {E:Env} {o:Oper} {ρ:Operand→AV} {H:List AObj} {f:Operand} {asl:List Operand} {ats:Array TypeId} {g:FuncId} {first cap:List AV} (ho:o.op=.call ⟨.value f,asl.toArray,ats⟩) (hf:vHp (ρ f)=.fn (.func g) first cap)
  {args:List AV} {r0:AV} (S:Spec P g args [] (fun r h'=>r=r0∧h'=[])) (hargs:first++(asl.map (fun x=>vHp (ρ x))++cap)=args) (hla:qBe 0 args=true) (hr0:low 0 r0=true):OpS P E o ρ H r0 H :=
 vCz (ρ':=fun x=>vHp (ρ x)) (fun x=>lowA_le _) (qBu ho hf S hargs hla hr0)
abbrev wC (A P:AV) (k:Int) (st tx:List UInt8):List AV :=
 [.I 40000,A,.sl 62 [] .full,P,.I k,.I 0,.I 0,.I 0,.d (.str st),.d (.str tx),.d (.str []),.d (.str []),.d (.str []),.d (.str []),.d (.str []),.d (.str []),.I 0,.d (.sl 1 []),.d (.bool false),.d (.sl 5 []),.I 0,.d (.sl 1 []),.d (.sl 1 []),.d (.sl 3 []),.sl 21 [] .full]
theorem qNo (st tx:List UInt8):Spec Tryz.prog 79 [.ptr 0 0] [.row (wC (.sl 33 [] .full) (.sl 11 [] .full) 2 st tx)] (fun r h'=>r=.fn (.func 102) [.ptr 0 0] []∧h'=[.row (wC (.sl 33 [] .full) (.sl 11 [] .full) 2 st tx)]):=by
 refine qAb hT Tryz.func79 rfl rfl rfl rfl ?_;intro E hE
 refine ww ?_
 refine qAa rfl (fun q=>absurd q (by decide)) (fun q=>?_)
 refine ww ?_
 refine qAa rfl (fun q=>?_) (fun q=>absurd q (by decide))
 refine ww ?_
 exact rq ⟨rfl,rfl⟩ rfl (.refl _)
theorem qMi (D:List (List Dat)) (st tx:List UInt8):Spec Tryz.prog 79 [.ptr 0 0] [.row (wC (.d (.sl 33 D)) (.sl 11 [] .full) 11 st tx)] (fun r h'=>r=.fn (.func 111) [.ptr 0 0] []∧h'=[.row (wC (.d (.sl 33 D)) (.sl 11 [] .full) 11 st tx)]):=by
 refine qAb hT Tryz.func79 rfl rfl rfl rfl ?_;intro E hE
 refine ww ?_
 refine qAa rfl (fun q=>absurd q (by decide)) (fun q=>?_)
 refine ww ?_
 refine qAa rfl (fun q=>absurd q (by decide)) (fun q=>?_)
 refine ww ?_
 refine qAa rfl (fun q=>absurd q (by decide)) (fun q=>?_)
 refine ww ?_
 refine qAa rfl (fun q=>absurd q (by decide)) (fun q=>?_)
 refine ww ?_
 refine qAa rfl (fun q=>absurd q (by decide)) (fun q=>?_)
 refine ww ?_
 refine qAa rfl (fun q=>absurd q (by decide)) (fun q=>?_)
 refine ww ?_
 refine qAa rfl (fun q=>absurd q (by decide)) (fun q=>?_)
 refine ww ?_
 refine qAa rfl (fun q=>absurd q (by decide)) (fun q=>?_)
 refine ww ?_
 refine qAa rfl (fun q=>absurd q (by decide)) (fun q=>?_)
 refine ww ?_
 refine qAa rfl (fun q=>absurd q (by decide)) (fun q=>?_)
 refine ww ?_
 refine qAa rfl (fun q=>?_) (fun q=>absurd q (by decide))
 refine ww ?_
 exact rq ⟨rfl,rfl⟩ rfl (.refl _)
theorem qNq (D E':List (List Dat)) (st tx:List UInt8):Spec Tryz.prog 80 [.ptr 0 0] [.row (wC (.sl 33 D .full) (.sl 11 E' .full) 2 st tx)] (fun r h'=>r=.d (.bool false)∧h'=[.row (wC (.sl 33 D .full) (.sl 11 E' .full) 2 st tx)]):=by
 refine qAb hT Tryz.func80 rfl rfl rfl rfl ?_;intro E hE
 refine ww ?_
 refine qAa rfl (fun q=>absurd q (by decide)) (fun q=>?_)
 refine ww ?_
 refine qAa rfl (fun q=>absurd q (by decide)) (fun q=>?_)
 refine ww ?_
 refine qAa rfl (fun q=>absurd q (by decide)) (fun q=>?_)
 refine ww ?_
 refine qAa rfl (fun q=>absurd q (by decide)) (fun q=>?_)
 refine ww ?_
 refine qAa rfl (fun q=>absurd q (by decide)) (fun q=>?_)
 refine ww ?_
 refine qAa rfl (fun q=>absurd q (by decide)) (fun q=>?_)
 refine ww ?_
 refine qAa rfl (fun q=>absurd q (by decide)) (fun q=>?_)
 refine ww ?_
 refine qAa rfl (fun q=>absurd q (by decide)) (fun q=>?_)
 refine ww ?_
 exact rq ⟨rfl,rfl⟩ rfl (.refl _)
theorem qMj (D E':List (List Dat)) (st tx:List UInt8):Spec Tryz.prog 80 [.ptr 0 0] [.row (wC (.d (.sl 33 D)) (.sl 11 E' .full) 11 st tx)] (fun r h'=>r=.d (.bool false)∧h'=[.row (wC (.d (.sl 33 D)) (.sl 11 E' .full) 11 st tx)]):=by
 refine qAb hT Tryz.func80 rfl rfl rfl rfl ?_;intro E hE
 refine ww ?_
 refine qAa rfl (fun q=>absurd q (by decide)) (fun q=>?_)
 refine ww ?_
 refine qAa rfl (fun q=>absurd q (by decide)) (fun q=>?_)
 refine ww ?_
 refine qAa rfl (fun q=>absurd q (by decide)) (fun q=>?_)
 refine ww ?_
 refine qAa rfl (fun q=>absurd q (by decide)) (fun q=>?_)
 refine ww ?_
 refine qAa rfl (fun q=>absurd q (by decide)) (fun q=>?_)
 refine ww ?_
 refine qAa rfl (fun q=>absurd q (by decide)) (fun q=>?_)
 refine ww ?_
 refine qAa rfl (fun q=>absurd q (by decide)) (fun q=>?_)
 refine ww ?_
 refine qAa rfl (fun q=>absurd q (by decide)) (fun q=>?_)
 refine ww ?_
 exact rq ⟨rfl,rfl⟩ rfl (.refl _)
theorem qXj:Spec Tryz.prog 170 [.d (.sl 33 []),.any] [] (fun r h'=>r=.I (-1)∧h'=[]):=by
 refine qAb hT Tryz.func170 rfl rfl rfl rfl ?_;intro E hE
 refine ww ?_
 refine qAm (ι:=Unit) (fun _=>[(0,.d (.sl 33 [])),(7,.I 0),(8,.I 0)]) (fun _=>[]) (fun _=>True) (fun _=>0) () trivial yf (HLe.refl _) ?_
 intro _ _
 refine ww ?_
 refine qAa rfl (fun q=>absurd q (by decide)) (fun q=>?_)
 refine ww ?_
 exact wwr
theorem qUc:Spec Tryz.prog 132 [.d (.sl 33 []),.any] [] (fun r h'=>r=.d (.bool false)∧h'=[]):=by
 refine qAb hT Tryz.func132 rfl rfl rfl rfl ?_;intro E hE
 refine ww ?_
 refine wwc qXj ?_
 refine ww ?_
 exact rq ⟨rfl,rfl⟩ rfl (.bool rfl)
theorem qWr (a:Aut) (st tx:List UInt8) (htx:tx.length≤1000) (hB:Spec Tryz.prog 134 [.d (.str st),.d (.sl 1 (qAx tx)),.I 40000] [] (fun r h'=>r=.tup [qOe a,.I 0]∧h'=[])) :
  Spec Tryz.prog 102 [.ptr 0 0] [.row (wC (.sl 33 [] .full) (.sl 11 [] .full) 2 st tx)] (fun r h'=>r=.I 0∧h'=[.row (wC (.d (.sl 33 [qEc a])) (.sl 11 [] .full) 2 st tx)]):=by
 have hcn:Spec Tryz.prog 132 [.sl 33 [] .full,.any] [] (fun r h'=>r=.d (.bool false)∧h'=[]):=Spec.args (args':=[.d (.sl 33 []),.any]) ⟨.dat,.refl _,trivial⟩ qUc
 refine qAb hT Tryz.func102 rfl rfl rfl rfl ?_;intro E hE
 refine qAt ?_
 refine ww ?_
 refine qAa rfl (fun q=>absurd q (by decide)) (fun q=>?_)
 refine ww ?_
 refine qAe (vFw rfl rfl hcn rfl rfl rfl) rfl ?_
 refine ww ?_
 refine qAa rfl (fun q=>absurd q (by decide)) (fun q=>?_)
 refine wwe ?_
 refine qAk (l:=[(1,.ptr 2 0),(2,.I 0)]) (h':=[.row (wC (.sl 33 [] .full) (.sl 11 [] .full) 2 st tx),.room,.row [.ptr 0 0]]) yf (HLe.refl _) ?_
 refine qAg ?_
 refine qAq (fun i=>bif Nat.beq i 0||Nat.beq i 5||Nat.beq i 11 then [2] else bif Nat.beq i 4||Nat.beq i 9||Nat.beq i 15 then [0] else bif Nat.beq i 20||Nat.beq i 21 then [1] else []) (fun i=>bif Nat.beq i 20||Nat.beq i 21 then [1] else []) mixed (by kernel_rfl) ?_
 refine wwg ?_
 refine qAj (os:=[]) (fun k hk hr=>strBytes_ok hT rfl rfl rfl) rfl ?_
 refine wwg ?_
 refine wwdc hB ?_
 refine wwg ?_
 refine qAj (os:=[.row (qZw [] 0 (.sl 1 [] .full))]) (v:=.ptr 1 0) (fun k hk hr=>allocAt_ok (i0:=1) (i:=tiA) hT rfl tiA_find ((hr 1 (List.mem_singleton.2 rfl)).trans rfl)) rfl ?_
 refine qAj (os:=[.row (qCc a)]) (v:=.any) (fun k hk hr=>qAw (i:=1) (off:=0) hT rfl rfl ((hr 1 (List.mem_singleton.2 rfl)).trans rfl) (S38 (C:=qCc a) rfl rfl)) rfl ?_
 refine wwg ?_
 refine qAk (l:=[(1,.ptr 2 0),(2,.I 0),(3,.ptr 1 0),(4,.I 0)]) (h':=[.row (wC (.sl 33 [] .full) (.sl 11 [] .full) 2 st tx),.row (qCc a),.row [.ptr 0 0]]) yf (HLe.refl _) ?_
 refine ww ?_
 refine qAa rfl (fun q=>?_) (fun q=>absurd q (by decide))
 refine qAq (fun i=>bif Nat.beq i 0||Nat.beq i 1 then [2] else bif Nat.beq i 5||Nat.beq i 12 then [0] else bif Nat.beq i 6 then [1] else []) (fun i=>bif Nat.beq i 12 then [0] else []) mixed (by kernel_rfl) ?_
 refine wwg ?_
 refine qAj (os:=[]) (v:=.sl 33 [qEc a] .full) (fun k hk hr=>buildSl_ok hT rfl rfl) rfl ?_
 refine wwg ?_
 refine qAj (os:=[]) (fun k hk hr=>qCe (es:=[]) (es2:=[qEc a]) (sz:=33) (by_:=384) hT rfl rfl rfl (.inl rfl) rfl (show (0+1)*(384+1)≤140737488355328 by decide)) rfl ?_
 refine wwg ?_
 refine ww ?_
 exact rq ⟨rfl,rfl⟩ rfl (.refl _)
def qNm (st tx:List UInt8):List Dat:=[.str tx,.sl 11 [],.sl 11 [],.sl 17 [],.sl 8 [],.sl 17 [],.sl 1 [[.int .i64 2],[.int .i64 3],[.int .i64 1]],.sl 1 [],.sl 9 [],.int .i64 0,.sl 1 (st.map fun b=>[.int .u8 (b.toNat:Int)])]
theorem qSa (D:List (List Dat)) (st tx:List UInt8) (rs:List Rule) (i:Int) (hst:st.length≤1000) (hP:Spec Tryz.prog 149 [.d (.str tx)] [] (fun r h'=>r=.tup [qNn rs,.I i,.I 0]∧h'=[])) :
  Spec Tryz.prog 111 [.ptr 0 0] [.row (wC (.d (.sl 33 D)) (.sl 11 [] .full) 11 st tx)] (fun r h'=>r=.I 0∧h'=[.row (wC (.d (.sl 33 D)) (.d (.sl 11 [qNm st tx])) 11 st tx)]):=by
 refine qAb hT Tryz.func111 rfl rfl rfl rfl ?_;intro E hE
 refine ww ?_
 refine qAa rfl (fun q=>absurd q (by decide)) (fun q=>?_)
 refine ww ?_
 refine wwc hP ?_
 refine ww ?_
 refine qAa rfl (fun q=>absurd q (by decide)) (fun q=>?_)
 refine wwe ?_
 refine qAk (l:=[(0,.ptr 0 0)]) (h':=[.row (wC (.d (.sl 33 D)) (.sl 11 [] .full) 11 st tx),.row [.d (.sl 6 (qFb rs))]]) yf (HLe.refl _) ?_
 refine qAg ?_
 refine qAq (fun i=>bif Nat.beq i 5||Nat.beq i 10||Nat.beq i 16||Nat.beq i 24 then [0] else []) (fun i=>bif Nat.beq i 24 then [0] else []) mixed (by kernel_rfl) ?_
 refine wwg ?_
 refine qAj (os:=[]) (v:=.sl 1 [[.int .i64 2],[.int .i64 3],[.int .i64 1]] .full) (fun k hk hr=>buildSl_ok hT rfl rfl) rfl ?_
 refine wwg ?_
 refine qAj (os:=[]) (fun k hk hr=>strBytes_ok hT rfl rfl rfl) rfl ?_
 refine wwg ?_
 refine qAj (os:=[]) (v:=.sl 11 [qNm st tx] .full) (fun k hk hr=>buildSl_ok hT rfl rfl) rfl ?_
 refine wwg ?_
 refine qAj (os:=[]) (fun k hk hr=>qCe (es:=[]) (es2:=[qNm st tx]) (sz:=11) (by_:=240) hT rfl rfl rfl (.inl rfl) rfl (show (0+1)*(240+1)≤140737488355328 by decide)) rfl ?_
 refine wwg ?_
 refine ww ?_
 exact rq ⟨rfl,rfl⟩ rfl (.refl _)
theorem vDy (st tx:List UInt8):qQi T 145 [(0,.agg (bC (.sl 33 [] .full) (.sl 11 [] .full))),(1,.agg (cAct 2 0 0 0 st tx [] [] [] [] [] [] 0 [] false [] [] []))]=some (.agg (wC (.sl 33 [] .full) (.sl 11 [] .full) 2 st tx)):=by kernel_rfl
theorem vBg (D:List (List Dat)) (st tx:List UInt8):qQi T 145 [(0,.agg (bC (.d (.sl 33 D)) (.sl 11 [] .full))),(1,.agg (cAct 11 0 0 0 st tx [] [] [] [] [] [] 0 [] false [] [] []))]=some (.agg (wC (.d (.sl 33 D)) (.sl 11 [] .full) 11 st tx)):=by kernel_rfl
theorem qXc (a:Aut) (st tx:List UInt8) (htx:tx.length≤1000) (hB:Spec Tryz.prog 134 [.d (.str st),.d (.sl 1 (qAx tx)),.I 40000] [] (fun r h'=>r=.tup [qOe a,.I 0]∧h'=[])) :
  Spec Tryz.prog 59 [.agg (bC (.sl 33 [] .full) (.sl 11 [] .full)),.agg (cAct 2 0 0 0 st tx [] [] [] [] [] [] 0 [] false [] [] [])] [] (fun r h'=>r=.tup [.agg (bC (.d (.sl 33 [qEc a])) (.sl 11 [] .full)),.sl 21 [] .full,.I 0]∧h'=[]):=by
 have hF:=qWr a st tx htx hB
 refine qAb hT Tryz.func59 rfl rfl rfl rfl ?_;intro E hE
 refine qAt ?_
 refine qAg (qAd ?_)
 refine wws ?_
 refine qAg ?_
 refine qAq (fun i=>bif Nat.beq i 0 then [1] else bif Nat.beq i 2 then [2] else bif Nat.beq i 4 then [0] else []) (fun i=>bif Nat.beq i 4 then [0] else []) mixed (by kernel_rfl) ?_
 refine wwg ?_
 refine wwdc qOq ?_
 refine qAj (os:=[]) (v:=.agg (cAct 2 0 0 0 st tx [] [] [] [] [] [] 0 [] false [] [] [])) (fun k hk hr=>qAn (i:=2) (off:=0) hT rfl rfl ((hr 2 (List.mem_singleton.2 rfl)).trans rfl) (qEf rfl)) rfl ?_
 refine qAj (os:=[]) (v:=.agg (wC (.sl 33 [] .full) (.sl 11 [] .full) 2 st tx)) (fun k hk hr=>qAc (qOa hT rfl (vDy st tx))) rfl ?_
 refine qAj (os:=[.row (wC (.sl 33 [] .full) (.sl 11 [] .full) 2 st tx)]) (v:=.ptr 0 0) (fun k hk hr=>boxAt_ok (i0:=0) (cs:=wC (.sl 33 [] .full) (.sl 11 [] .full) 2 st tx) rfl rfl ((hr 0 (List.mem_singleton.2 rfl)).trans rfl)) rfl ?_
 refine wwg ?_
 refine qAk (l:=[(2,.ptr 1 0),(4,.ptr 3 0),(7,.ptr 0 0)]) (h':=[.row (wC (.sl 33 [] .full) (.sl 11 [] .full) 2 st tx),.row (bC (.sl 33 [] .full) (.sl 11 [] .full)),.row (cAct 2 0 0 0 st tx [] [] [] [] [] [] 0 [] false [] [] []),.row [.I 0,.sl 33 [] .full,.sl 62 [] .full,.sl 11 [] .full]]) yf (HLe.refl _) ?_
 refine ww ?_
 refine qAe (qEp (v:=.fn (.func 102) [.ptr 0 0] []) (H':=[.row (wC (.sl 33 [] .full) (.sl 11 [] .full) 2 st tx),.row (bC (.sl 33 [] .full) (.sl 11 [] .full)),.row (cAct 2 0 0 0 st tx [] [] [] [] [] [] 0 [] false [] [] []),.row [.I 0,.sl 33 [] .full,.sl 62 [] .full,.sl 11 [] .full]]) rfl rfl (qNo st tx) [0] (by decide) rfl rfl rfl rfl rfl rfl) rfl ?_
 refine ww ?_
 refine qAe (qAc (eqFn_ok rfl Tryz.underlying146 rfl rfl)) rfl ?_
 refine ww ?_
 refine qAa rfl (fun q=>absurd q (by decide)) (fun q=>?_)
 refine ww ?_
 refine qAe (qAl (H':=[.row (wC (.sl 33 [] .full) (.sl 11 [] .full) 2 st tx),.row (bC (.sl 33 [] .full) (.sl 11 [] .full)),.row (cAct 2 0 0 0 st tx [] [] [] [] [] [] 0 [] false [] [] []),.row [.I 0,.sl 33 [] .full,.sl 62 [] .full,.sl 11 [] .full]]) rfl rfl (qNq [] [] st tx) [0] (by decide) rfl rfl rfl rfl rfl rfl rfl) rfl ?_
 refine ww ?_
 refine qAa rfl (fun q=>absurd q (by decide)) (fun q=>?_)
 refine ww ?_
 refine qAe (qAl (H':=[.row (wC (.d (.sl 33 [qEc a])) (.sl 11 [] .full) 2 st tx),.row (bC (.sl 33 [] .full) (.sl 11 [] .full)),.row (cAct 2 0 0 0 st tx [] [] [] [] [] [] 0 [] false [] [] []),.row [.I 0,.sl 33 [] .full,.sl 62 [] .full,.sl 11 [] .full]]) rfl rfl hF [0] (by decide) rfl rfl rfl rfl rfl rfl rfl) rfl ?_
 refine ww ?_
 refine qAa rfl (fun q=>absurd q (by decide)) (fun q=>?_)
 refine wwe ?_
 refine qAg ?_
 refine qAq (fun i=>bif Nat.beq i 3||Nat.beq i 7 then [0] else bif Nat.beq i 8 then [3] else []) (fun i=>bif Nat.beq i 8 then [3] else []) mixed (by kernel_rfl) ?_
 refine wwg ?_
 refine ww ?_
 exact rq ⟨rfl,rfl⟩ rfl (.refl _)
theorem qTf (a:Aut) (hl:a.roots.length≤1000000∧a.links.length≤1000000∧a.secs.length≤1000000∧a.rev.length≤1000000∧a.defs.length≤1000000∧a.seed.length≤1000000) (st tx:List UInt8) (rs:List Rule) (i:Int) (hst:st.length≤1000) (hP:Spec Tryz.prog 149 [.d (.str tx)] [] (fun r h'=>r=.tup [qNn rs,.I i,.I 0]∧h'=[])) :
  Spec Tryz.prog 59 [.agg (bC (.d (.sl 33 [qEc a])) (.sl 11 [] .full)),.agg (cAct 11 0 0 0 st tx [] [] [] [] [] [] 0 [] false [] [] [])] [] (fun r h'=>r=.tup [.agg (bC (.d (.sl 33 [qEc a])) (.d (.sl 11 [qNm st tx]))),.sl 21 [] .full,.I 0]∧h'=[]):=by
 have hF:=qSa [qEc a] st tx rs i hst hP
 have hbc:=qOp a hl
 refine qAb hT Tryz.func59 rfl rfl rfl rfl ?_;intro E hE
 refine qAt ?_
 refine qAg (qAd ?_)
 refine wws ?_
 refine qAg ?_
 refine qAq (fun i=>bif Nat.beq i 0 then [1] else bif Nat.beq i 2 then [2] else bif Nat.beq i 4 then [0] else []) (fun i=>bif Nat.beq i 4 then [0] else []) mixed (by kernel_rfl) ?_
 refine wwg ?_
 refine wwdc hbc ?_
 refine qAj (os:=[]) (v:=.agg (cAct 11 0 0 0 st tx [] [] [] [] [] [] 0 [] false [] [] [])) (fun k hk hr=>qAn (i:=2) (off:=0) hT rfl rfl ((hr 2 (List.mem_singleton.2 rfl)).trans rfl) (qEf rfl)) rfl ?_
 refine qAj (os:=[]) (v:=.agg (wC (.d (.sl 33 [qEc a])) (.sl 11 [] .full) 11 st tx)) (fun k hk hr=>qAc (qOa hT rfl (vBg [qEc a] st tx))) rfl ?_
 refine qAj (os:=[.row (wC (.d (.sl 33 [qEc a])) (.sl 11 [] .full) 11 st tx)]) (v:=.ptr 0 0) (fun k hk hr=>boxAt_ok (i0:=0) (cs:=wC (.d (.sl 33 [qEc a])) (.sl 11 [] .full) 11 st tx) rfl rfl ((hr 0 (List.mem_singleton.2 rfl)).trans rfl)) rfl ?_
 refine wwg ?_
 refine qAk (l:=[(2,.ptr 1 0),(4,.ptr 3 0),(7,.ptr 0 0)]) (h':=[.row (wC (.d (.sl 33 [qEc a])) (.sl 11 [] .full) 11 st tx),.row (bC (.d (.sl 33 [qEc a])) (.sl 11 [] .full)),.row (cAct 11 0 0 0 st tx [] [] [] [] [] [] 0 [] false [] [] []),.row [.I 0,.sl 33 [] .full,.sl 62 [] .full,.sl 11 [] .full]]) yf (HLe.refl _) ?_
 refine ww ?_
 refine qAe (qEp (v:=.fn (.func 111) [.ptr 0 0] []) (H':=[.row (wC (.d (.sl 33 [qEc a])) (.sl 11 [] .full) 11 st tx),.row (bC (.d (.sl 33 [qEc a])) (.sl 11 [] .full)),.row (cAct 11 0 0 0 st tx [] [] [] [] [] [] 0 [] false [] [] []),.row [.I 0,.sl 33 [] .full,.sl 62 [] .full,.sl 11 [] .full]]) rfl rfl (qMi [qEc a] st tx) [0] (by decide) rfl rfl rfl rfl rfl rfl) rfl ?_
 refine ww ?_
 refine qAe (qAc (eqFn_ok rfl Tryz.underlying146 rfl rfl)) rfl ?_
 refine ww ?_
 refine qAa rfl (fun q=>absurd q (by decide)) (fun q=>?_)
 refine ww ?_
 refine qAe (qAl (H':=[.row (wC (.d (.sl 33 [qEc a])) (.sl 11 [] .full) 11 st tx),.row (bC (.d (.sl 33 [qEc a])) (.sl 11 [] .full)),.row (cAct 11 0 0 0 st tx [] [] [] [] [] [] 0 [] false [] [] []),.row [.I 0,.sl 33 [] .full,.sl 62 [] .full,.sl 11 [] .full]]) rfl rfl (qMj [qEc a] [] st tx) [0] (by decide) rfl rfl rfl rfl rfl rfl rfl) rfl ?_
 refine ww ?_
 refine qAa rfl (fun q=>absurd q (by decide)) (fun q=>?_)
 refine ww ?_
 refine qAe (qAl (H':=[.row (wC (.d (.sl 33 [qEc a])) (.d (.sl 11 [qNm st tx])) 11 st tx),.row (bC (.d (.sl 33 [qEc a])) (.sl 11 [] .full)),.row (cAct 11 0 0 0 st tx [] [] [] [] [] [] 0 [] false [] [] []),.row [.I 0,.sl 33 [] .full,.sl 62 [] .full,.sl 11 [] .full]]) rfl rfl hF [0] (by decide) rfl rfl rfl rfl rfl rfl rfl) rfl ?_
 refine ww ?_
 refine qAa rfl (fun q=>absurd q (by decide)) (fun q=>?_)
 refine wwe ?_
 refine qAg ?_
 refine qAq (fun i=>bif Nat.beq i 3||Nat.beq i 7 then [0] else bif Nat.beq i 8 then [3] else []) (fun i=>bif Nat.beq i 8 then [3] else []) mixed (by kernel_rfl) ?_
 refine wwg ?_
 refine ww ?_
 exact rq ⟨rfl,rfl⟩ rfl (.refl _)
theorem readO_of {x:Akt} {s:List UInt8} (h:LineOk x) (hs:joi 32 (qBp x)=s) (hne:s≠[]):readO s=(x,0):=by
 have hl:lineK x=s:=by unfold lineK;rw [if_pos h];exact hs
 have hr:qMh s=x:=by rw [← hs];exact qPh h
 unfold readO
 rw [hr,if_pos ⟨hne,hl⟩]
theorem wordP_dec {s:List UInt8} (h:(decide (s.length≤40)&&decide (s≠[32])&&s.all fun c=>decide (32≤c.toNat∧c.toNat≤126∧c≠95))=true):qRl s:=by
 rw [Bool.and_eq_true,Bool.and_eq_true,List.all_eq_true] at h
 exact ⟨of_decide_eq_true h.1.1,of_decide_eq_true h.1.2,fun c hc=>of_decide_eq_true (h.2 c hc)⟩
def vAw:List UInt8:=[97,99,99,101,112,116,32,105,102,32,112,97,116,104,59,32,114,101,102,117,115,101,59]
theorem read1:readO [102,111,117,110,100,32,85,84,79,32,115,101,101,100]=((⟨2,0,0,0,[85,84,79],[115,101,101,100],[],[],[],[],[],[],0,[],false,0,0,[],[],[]⟩:Akt),0):=readO_of ⟨by decide,rfl,fun f hf=>by
 have hf:f∈[Fld.txt [85,84,79],Fld.txt [115,101,101,100]]:=hf
 simp only [List.mem_cons,List.not_mem_nil,or_false] at hf
 rcases hf with rfl | rfl
 ·exact wordP_dec (by decide)
 ·exact wordP_dec (by decide)⟩ (by rfl) (by decide)
theorem restP_dec {s:List UInt8} (h:(decide (s≠[])&&decide (s.length≤1000)&&decide (s.head?≠some 32)&&s.all fun c=>decide (32≤c.toNat∧c.toNat≤126))=true):qRv s:=by
 rw [Bool.and_eq_true,Bool.and_eq_true,Bool.and_eq_true,List.all_eq_true] at h
 exact ⟨of_decide_eq_true h.1.1.1,of_decide_eq_true h.1.1.2,of_decide_eq_true h.1.2,fun c hc=>of_decide_eq_true (h.2 c hc)⟩
theorem read2:readO [112,111,115,116,32,112,32,97,99,99,101,112,116,32,105,102,32,112,97,116,104,59,32,114,101,102,117,115,101,59]=((⟨11,0,0,0,[112],vAw,[],[],[],[],[],[],0,[],false,0,0,[],[],[]⟩:Akt),0):=readO_of ⟨by decide,rfl,fun f hf=>by
 have hf:f∈[Fld.txt [112],Fld.rst vAw]:=hf
 simp only [List.mem_cons,List.not_mem_nil,or_false] at hf
 rcases hf with rfl | rfl
 ·exact wordP_dec (by decide)
 ·exact restP_dec (by decide)⟩ (by rfl) (by decide)
theorem read3:readO [104,101,108,108,111]=(akt0,77):=readO_0 (by decide)
theorem ito {n:Nat} (h:n < 10):Lib.itoa (n:Int)=[UInt8.ofNat (48+n)]:=by
 unfold Lib.itoa
 rw [if_neg (by omega),Int.toNat_natCast,decD_small h]
theorem itoM:Lib.itoa (-1)=[45,49]:=by
 unfold Lib.itoa
 rw [if_pos (by omega)]
 show 45::Lib.decDigits 1=_
 rw [decD_small (by omega)];rfl
theorem ito77:Lib.itoa 77=[55,55]:=by
 unfold Lib.itoa
 rw [if_neg (by omega)]
 show Lib.decDigits 77=_
 rw [decD_big (by omega),decD_small (by omega)];rfl
theorem linI:joi 32 (qBp (⟨10,0,1,0,[],[],[],[],[],[],[],[],0,[],false,0,0,[],[-1,5],[⟨3,2,1⟩]⟩:Akt))=[105,110,115,112,101,99,116,32,48,32,49,32,45,49,44,53,32,51,58,50,58,49]:=by
 have e:qBp (⟨10,0,1,0,[],[],[],[],[],[],[],[],0,[],false,0,0,[],[-1,5],[⟨3,2,1⟩]⟩:Akt)=[qBc 10,Lib.itoa 0,Lib.itoa 1,qEb [Lib.itoa (-1),Lib.itoa 5],qEb [qBr ⟨3,2,1⟩]]:=rfl
 rw [e]
 unfold qBr
 simp only
 rw [itoM,show Lib.itoa 0=[48] from ito (n:=0) (by omega),show Lib.itoa 1=[49] from ito (n:=1) (by omega),show Lib.itoa 5=[53] from ito (n:=5) (by omega),show Lib.itoa 3=[51] from ito (n:=3) (by omega),show Lib.itoa 2=[50] from ito (n:=2) (by omega)]
 rfl
theorem readI:readO [105,110,115,112,101,99,116,32,48,32,49,32,45,49,44,53,32,51,58,50,58,49]=((⟨10,0,1,0,[],[],[],[],[],[],[],[],0,[],false,0,0,[],[-1,5],[⟨3,2,1⟩]⟩:Akt),0)∧lineK (⟨10,0,1,0,[],[],[],[],[],[],[],[],0,[],false,0,0,[],[-1,5],[⟨3,2,1⟩]⟩:Akt)=[105,110,115,112,101,99,116,32,48,32,49,32,45,49,44,53,32,51,58,50,58,49]:=by
 have h:LineOk (⟨10,0,1,0,[],[],[],[],[],[],[],[],0,[],false,0,0,[],[-1,5],[⟨3,2,1⟩]⟩:Akt):=⟨by decide,rfl,fun f hf=>by
  have hf:f∈[Fld.num 0,Fld.num 1,Fld.nums [-1,5],Fld.flps [⟨3,2,1⟩]]:=hf
  simp only [List.mem_cons,List.not_mem_nil,or_false] at hf
  rcases hf with rfl | rfl | rfl | rfl
  ·show qAv 0;unfold qAv;omega
  ·show qAv 1;unfold qAv;omega
  ·intro n hn
   simp only [List.mem_cons,List.not_mem_nil,or_false] at hn
   unfold qAv
   rcases hn with rfl | rfl <;> omega
  ·intro g hg
   simp only [List.mem_cons,List.not_mem_nil,or_false] at hg
   subst hg
   unfold qAv
   simp only
   omega⟩
 exact ⟨readO_of h linI (by decide),by unfold lineK;rw [if_pos h];exact linI⟩
theorem qSr:Spec Tryz.prog 30 [.I 77] [] (fun r h'=>r=.d (.str [101,114,114,111,114,32,55,55])∧h'=[]):=by
 have hi:=qEq 77 (by omega)
 rw [ito77] at hi
 generalize hx:([55,55]:List UInt8)=w at hi
 have hwl:w.length=2:=by rw [← hx];rfl
 refine qAb hT Tryz.func30 rfl rfl rfl rfl ?_;intro E hE
 refine ww ?_
 refine wwc hi ?_
 refine ww ?_
 exact rq ⟨rfl,rfl⟩ rfl (lz (by rw [← hx];rfl))
theorem parse2:(qMu vAw).2.2=0:=by kernel_rfl
theorem begin1:∃ a:Aut,(a.roots.length≤1000000∧a.links.length≤1000000∧a.secs.length≤1000000∧a.rev.length≤1000000∧a.defs.length≤1000000∧a.seed.length≤1000000)∧qQl [85,84,79] [115,101,101,100] 40000=(a,0):=by
 refine ⟨qQk [85,84,79] [115,101,101,100] 40000,?_,?_⟩
 ·refine ⟨(show (1:Nat)≤1000000 by omega),(show (0:Nat)≤1000000 by omega),(show (1:Nat)≤1000000 by omega),(show (0:Nat)≤1000000 by omega),(show (0:Nat)≤1000000 by omega),?_⟩
  show (qOt _).length≤1000000
  rw [sumW_length];omega
 ·unfold qQl
  rw [if_neg (by decide),if_neg (by decide)]
theorem qQq (a:Aut) (hB:Spec Tryz.prog 134 [.d (.str [85,84,79]),.d (.sl 1 (qAx [115,101,101,100])),.I 40000] [] (fun r h'=>r=.tup [qOe a,.I 0]∧h'=[])):Spec Tryz.prog 31 [.agg (bC (.sl 33 [] .full) (.sl 11 [] .full)),.d (.str [102,111,117,110,100,32,85,84,79,32,115,101,101,100])] [] (fun r h'=>r=.tup [.agg (bC (.d (.sl 33 [qEc a])) (.sl 11 [] .full)),.d (.str [111,107])]∧h'=[]):=by
 have hR:=qIf [102,111,117,110,100,32,85,84,79,32,115,101,101,100] (by decide)
 rw [read1] at hR
 have hSt:=qXc a [85,84,79] [115,101,101,100] (by decide) hB
 refine qAb hT Tryz.func31 rfl rfl rfl rfl ?_;intro E hE
 refine qAg (qAd ?_)
 refine wws ?_
 refine qAg (qAd ?_)
 refine wk hT rfl rfl ?_
 refine wwc hR ?_
 refine wk hT rfl rfl ?_
 refine wk hT rfl rfl ?_
 refine wk hT rfl rfl ?_
 refine wk hT rfl rfl ?_
 refine qBh (qAw (i:=2) (off:=0) hT rfl rfl rfl (qMm rfl rfl)) (forceS_eq _ _) ?_
 refine wws ?_
 refine qAk (l:=[(2,.ptr 0 0),(4,.ptr 1 0),(6,.ptr 2 0),(7,.I 0)]) (h':=[.row (bC (.sl 33 [] .full) (.sl 11 [] .full)),.row [.I 0,.sl 33 [] .full,.sl 62 [] .full,.sl 11 [] .full],.row (cAct 2 0 0 0 [85,84,79] [115,101,101,100] [] [] [] [] [] [] 0 [] false [] [] [])]) yf (HLe.refl _) ?_
 refine ww ?_
 refine qAa rfl (fun q=>absurd q (by decide)) (fun q=>?_)
 refine ww ?_
 refine qAa rfl (fun q=>absurd q (by decide)) (fun q=>?_)
 refine wwe ?_
 refine qAg (qAd ?_)
 refine wk hT rfl rfl ?_
 refine qAe (qAn (i:=2) (off:=0) hT rfl rfl rfl (qEf rfl)) rfl ?_
 refine wwc hSt ?_
 refine wws ?_
 refine qAk (l:=[(2,.ptr 0 0),(4,.ptr 1 0),(7,.I 0),(8,.sl 21 [] .full)]) (h':=[.row (bC (.d (.sl 33 [qEc a])) (.sl 11 [] .full)),.row [.I 0,.sl 33 [] .full,.sl 62 [] .full,.sl 11 [] .full],.dead]) yf ⟨.refl _,.refl _,trivial,trivial⟩ ?_
 refine ww ?_
 refine qAa rfl (fun q=>absurd q (by decide)) (fun q=>?_)
 refine ww ?_
 refine qAa rfl (fun q=>absurd q (by decide)) (fun q=>?_)
 refine ww ?_
 exact rq ⟨rfl,rfl⟩ rfl (.refl _)
theorem qQp (a:Aut) (hl:a.roots.length≤1000000∧a.links.length≤1000000∧a.secs.length≤1000000∧a.rev.length≤1000000∧a.defs.length≤1000000∧a.seed.length≤1000000) (rs:List Rule) (i:Int) (hP:Spec Tryz.prog 149 [.d (.str vAw)] [] (fun r h'=>r=.tup [qNn rs,.I i,.I 0]∧h'=[])):Spec Tryz.prog 31 [.agg (bC (.d (.sl 33 [qEc a])) (.sl 11 [] .full)),.d (.str [112,111,115,116,32,112,32,97,99,99,101,112,116,32,105,102,32,112,97,116,104,59,32,114,101,102,117,115,101,59])] [] (fun r h'=>r=.tup [.agg (bC (.d (.sl 33 [qEc a])) (.d (.sl 11 [qNm [112] vAw]))),.d (.str [111,107])]∧h'=[]):=by
 have hR:=qIf [112,111,115,116,32,112,32,97,99,99,101,112,116,32,105,102,32,112,97,116,104,59,32,114,101,102,117,115,101,59] (by decide)
 rw [read2] at hR
 have hSt:=qTf a hl [112] vAw rs i (by decide) hP
 generalize vAw=tx at *
 refine qAb hT Tryz.func31 rfl rfl rfl rfl ?_;intro E hE
 refine qAg (qAd ?_)
 refine wws ?_
 refine qAg (qAd ?_)
 refine wk hT rfl rfl ?_
 refine wwc hR ?_
 refine wk hT rfl rfl ?_
 refine wk hT rfl rfl ?_
 refine wk hT rfl rfl ?_
 refine wk hT rfl rfl ?_
 refine qBh (qAw (i:=2) (off:=0) hT rfl rfl rfl (qMm rfl rfl)) (forceS_eq _ _) ?_
 refine wws ?_
 refine qAk (l:=[(2,.ptr 0 0),(4,.ptr 1 0),(6,.ptr 2 0),(7,.I 0)]) (h':=[.row (bC (.d (.sl 33 [qEc a])) (.sl 11 [] .full)),.row [.I 0,.sl 33 [] .full,.sl 62 [] .full,.sl 11 [] .full],.row (cAct 11 0 0 0 [112] tx [] [] [] [] [] [] 0 [] false [] [] [])]) yf (HLe.refl _) ?_
 refine ww ?_
 refine qAa rfl (fun q=>absurd q (by decide)) (fun q=>?_)
 refine ww ?_
 refine qAa rfl (fun q=>absurd q (by decide)) (fun q=>?_)
 refine wwe ?_
 refine qAg (qAd ?_)
 refine wk hT rfl rfl ?_
 refine qAe (qAn (i:=2) (off:=0) hT rfl rfl rfl (qEf rfl)) rfl ?_
 refine wwc hSt ?_
 refine wws ?_
 refine qAk (l:=[(2,.ptr 0 0),(4,.ptr 1 0),(7,.I 0),(8,.sl 21 [] .full)]) (h':=[.row (bC (.d (.sl 33 [qEc a])) (.d (.sl 11 [qNm [112] tx]))),.row [.I 0,.sl 33 [] .full,.sl 62 [] .full,.sl 11 [] .full],.dead]) yf ⟨.refl _,.refl _,trivial,trivial⟩ ?_
 refine ww ?_
 refine qAa rfl (fun q=>absurd q (by decide)) (fun q=>?_)
 refine ww ?_
 refine qAa rfl (fun q=>absurd q (by decide)) (fun q=>?_)
 refine ww ?_
 exact rq ⟨rfl,rfl⟩ rfl (.refl _)
theorem qQo (a:Aut) (Q:List (List Dat)):Spec Tryz.prog 31 [.agg (bC (.d (.sl 33 [qEc a])) (.d (.sl 11 Q))),.d (.str [104,101,108,108,111])] [] (fun r h'=>r=.tup [.agg (bC (.d (.sl 33 [qEc a])) (.d (.sl 11 Q))),.d (.str [101,114,114,111,114,32,55,55])]∧h'=[]):=by
 have hR:=qIf [104,101,108,108,111] (by decide)
 rw [read3] at hR
 refine qAb hT Tryz.func31 rfl rfl rfl rfl ?_;intro E hE
 refine qAg (qAd ?_)
 refine wws ?_
 refine qAg (qAd ?_)
 refine wk hT rfl rfl ?_
 refine wwc hR ?_
 refine wk hT rfl rfl ?_
 refine wk hT rfl rfl ?_
 refine wk hT rfl rfl ?_
 refine wk hT rfl rfl ?_
 refine qBh (qAw (i:=2) (off:=0) hT rfl rfl rfl (qMm rfl rfl)) (forceS_eq _ _) ?_
 refine wws ?_
 refine qAk (l:=[(2,.ptr 0 0),(4,.ptr 1 0),(7,.I 77)]) (h':=[.row (bC (.d (.sl 33 [qEc a])) (.d (.sl 11 Q))),.row [.I 0,.sl 33 [] .full,.sl 62 [] .full,.sl 11 [] .full],.dead]) yf ⟨.refl _,.refl _,trivial,trivial⟩ ?_
 refine ww ?_
 refine qAa rfl (fun q=>?_) (fun q=>absurd q (by decide))
 refine qAg ?_
 refine qAq (fun i=>bif Nat.beq i 0 then [0] else bif Nat.beq i 3 then [1] else []) (fun i=>bif Nat.beq i 3 then [1] else []) mixed (by kernel_rfl) ?_
 refine wwg ?_
 refine wwdc qSr ?_
 refine wwg ?_
 refine ww ?_
 exact rq ⟨rfl,rfl⟩ rfl (.refl _)
def qWk:Nat→List (List Dat)
 | 0=>([]:List (List Dat))
 | 1=>[[.str [111,107]]]
 | 2=>[[.str [111,107]],[.str [111,107]]]
 | _=>[[.str [111,107]],[.str [111,107]],[.str [101,114,114,111,114,32,55,55]]]
def vDu (a:Aut):Nat→List AV
 | 0=>bC (.sl 33 [] .full) (.sl 11 [] .full)
 | 1=>bC (.d (.sl 33 [qEc a])) (.sl 11 [] .full)
 | _=>bC (.d (.sl 33 [qEc a])) (.d (.sl 11 [qNm [112] vAw]))
theorem vHq {i:Nat} (hi:i < 3):(qAi [[102,111,117,110,100,32,85,84,79,32,115,101,101,100],[112,111,115,116,32,112,32,97,99,99,101,112,116,32,105,102,32,112,97,116,104,59,32,114,101,102,117,115,101,59],[104,101,108,108,111]])[((i:Int)).toNat]?=some [.str (([[102,111,117,110,100,32,85,84,79,32,115,101,101,100],[112,111,115,116,32,112,32,97,99,99,101,112,116,32,105,102,32,112,97,116,104,59,32,114,101,102,117,115,101,59],[104,101,108,108,111]]:List (List UInt8)).getD i [])]:=by
 rcases (by omega:i=0∨i=1∨i=2) with rfl | rfl | rfl <;> rfl
theorem vHd (i:Nat):(qWk i).length≤3:=by
 match i with
 | 0=>decide
 | 1=>decide
 | 2=>decide
 | i+3=>show 3≤3;omega
theorem vIj (a:Aut) (i:Nat):qBe 0 (vDu a i)=true:=by
 match i with
 | 0=>rfl
 | 1=>rfl
 | i+2=>rfl
theorem vIk (a:Aut) (i:Nat):(vDu a i).length=4:=by
 match i with
 | 0=>rfl
 | 1=>rfl
 | i+2=>rfl
theorem borL {C:List AV} (h:C.length=4):qEj T 69 C 0=some (.agg C):=loadA_agg rfl rfl (by rw [h];exact Nat.le_refl _) (List.take_of_length_le (by rw [List.length_drop,h];exact Nat.le_refl _))
theorem borS {C D:List AV} (h1:D.length=4) (h2:C.length=4):qDr T 69 D 0 (.agg C)=some C:=storeA_agg rfl h2 (by rw [h1];exact Nat.le_refl _) (setRun_full (by rw [h1,h2]))
theorem qXd:Spec Tryz.prog 8 [.d (.str [102,111,117,110,100,32,85,84,79,32,115,101,101,100,10,112,111,115,116,32,112,32,97,99,99,101,112,116,32,105,102,32,112,97,116,104,59,32,114,101,102,117,115,101,59,10,104,101,108,108,111])] [] (fun r h'=>r=.d (.sl 1 (qWk 3))∧h'=[]):=by
 obtain ⟨a,hl,hba⟩:=begin1
 have hB:=qXo [85,84,79] [115,101,101,100] 40000 (by decide) (by decide)
 rw [hba] at hB
 have hP:=qOl vAw (by decide)
 rw [parse2] at hP
 have hA1:=qQq a hB
 have hA2:=qQp a hl _ _ hP
 have hA3:=qQo a [qNm [112] vAw]
 have hans:∀ i,i < 3→∃ o,Spec Tryz.prog 31 [.agg (vDu a i),.d (.str (([[102,111,117,110,100,32,85,84,79,32,115,101,101,100],[112,111,115,116,32,112,32,97,99,99,101,112,116,32,105,102,32,112,97,116,104,59,32,114,101,102,117,115,101,59],[104,101,108,108,111]]:List (List UInt8)).getD i []))] [] (fun r h'=>r=.tup [.agg (vDu a (i+1)),.d (.str o)]∧h'=[])∧qWk (i+1)=qWk i++[[.str o]]∧0 < (([[102,111,117,110,100,32,85,84,79,32,115,101,101,100],[112,111,115,116,32,112,32,97,99,99,101,112,116,32,105,102,32,112,97,116,104,59,32,114,101,102,117,115,101,59],[104,101,108,108,111]]:List (List UInt8)).getD i []).length∧bI ((([[102,111,117,110,100,32,85,84,79,32,115,101,101,100],[112,111,115,116,32,112,32,97,99,99,101,112,116,32,105,102,32,112,97,116,104,59,32,114,101,102,117,115,101,59],[104,101,108,108,111]]:List (List UInt8)).getD i []).getD 0 0)≠35:=by
  intro i hi
  rcases (by omega:i=0∨i=1∨i=2) with rfl | rfl | rfl
  ·exact ⟨_,hA1,rfl,by decide,by decide⟩
  ·exact ⟨_,hA2,rfl,by decide,by decide⟩
  ·exact ⟨_,hA3,rfl,by decide,by decide⟩
 have hT1:=qLm [102,111,117,110,100,32,85,84,79,32,115,101,101,100,10,112,111,115,116,32,112,32,97,99,99,101,112,116,32,105,102,32,112,97,116,104,59,32,114,101,102,117,115,101,59,10,104,101,108,108,111] [10] (by decide)
 rw [show Lib.trimSuffix [102,111,117,110,100,32,85,84,79,32,115,101,101,100,10,112,111,115,116,32,112,32,97,99,99,101,112,116,32,105,102,32,112,97,116,104,59,32,114,101,102,117,115,101,59,10,104,101,108,108,111] [10]=[102,111,117,110,100,32,85,84,79,32,115,101,101,100,10,112,111,115,116,32,112,32,97,99,99,101,112,116,32,105,102,32,112,97,116,104,59,32,114,101,102,117,115,101,59,10,104,101,108,108,111] by decide] at hT1
 have hS1:=qGh 10 [102,111,117,110,100,32,85,84,79,32,115,101,101,100,10,112,111,115,116,32,112,32,97,99,99,101,112,116,32,105,102,32,112,97,116,104,59,32,114,101,102,117,115,101,59,10,104,101,108,108,111] (by decide)
 rw [show spl 10 [102,111,117,110,100,32,85,84,79,32,115,101,101,100,10,112,111,115,116,32,112,32,97,99,99,101,112,116,32,105,102,32,112,97,116,104,59,32,114,101,102,117,115,101,59,10,104,101,108,108,111]=[[102,111,117,110,100,32,85,84,79,32,115,101,101,100],[112,111,115,116,32,112,32,97,99,99,101,112,116,32,105,102,32,112,97,116,104,59,32,114,101,102,117,115,101,59],[104,101,108,108,111]] by decide] at hS1
 have hat:=fun (i:Nat) (hi:i < 3)=>vHq hi
 have hbl:=vIj a
 have hbn:=vIk a
 have hb0:vDu a 0=bC (.sl 33 [] .full) (.sl 11 [] .full):=rfl
 have hoL:=vHd
 clear hA1 hA2 hA3 hP hB hba hl
 have hLl:(qAi [[102,111,117,110,100,32,85,84,79,32,115,101,101,100],[112,111,115,116,32,112,32,97,99,99,101,112,116,32,105,102,32,112,97,116,104,59,32,114,101,102,117,115,101,59],[104,101,108,108,111]]).length=3:=rfl
 generalize ([[102,111,117,110,100,32,85,84,79,32,115,101,101,100],[112,111,115,116,32,112,32,97,99,99,101,112,116,32,105,102,32,112,97,116,104,59,32,114,101,102,117,115,101,59],[104,101,108,108,111]]:List (List UInt8))=Ls at *
 generalize qAi Ls=SL at *
 refine qAb hT Tryz.func8 rfl rfl rfl rfl ?_;intro E hE
 refine ww ?_
 refine wwc hT1 ?_
 refine ww ?_
 refine wwc hS1 ?_
 refine ww ?_
 refine qAa rfl (fun q=>?_) (fun q=>?_)
 ·exfalso
  rw [hLl] at q
  simp at q
 refine ww ?_
 refine qAt (qBj 5 1 1 (es:=[]) (.inr ⟨rfl,rfl⟩) rfl ?_)
 refine qAm (ι:=Nat) (fun i=>[(4,.ptr 0 0),(5,.sl 1 (qWk i) (.right 1)),(23,.d (.sl 1 SL)),(24,.I 3),(25,.I (i:Int))]) (fun i=>[.row (vDu a i),.right 1 (qWk i).length]) (fun i=>i≤3) (fun i=>3-i) 0 (by omega)
  ⟨.refl _,.refl _,.refl _,.int (by rw [hLl];rfl),.refl _,trivial⟩ yf ?_
 intro i hi
 refine ww ?_
 refine qAa rfl (fun c1=>?_) (fun c1=>?_)
 ·have hi':i < 3:=by simp at c1;omega
  obtain ⟨o,hA,ho,hp,h35⟩:=hans i hi'
  have hat:=hat i hi'
  have hln:=hoL i
  have hbi:=hbl i
  have hbi1:=hbl (i+1)
  have hni:=hbn i
  have hni1:=hbn (i+1)
  generalize Ls.getD i []=w at hA hat hp h35
  have hne:¬ w=[]:=fun hh=>by rw [hh] at hp;simp at hp
  have hst:=strAt_n w 0
  generalize hB1:vDu a (i+1)=B1 at hA hbi1 hni1
  generalize vDu a i=B0 at hA hbi hni ⊢
  generalize qWk i=S at ho hln ⊢
  refine ww ?_
  refine wwi hat ?_
  refine ww ?_
  refine qAa rfl (fun q=>?_) (fun q=>?_)
  ·exfalso
   simp only [Bool.or_eq_true,beq_iff_eq] at q
   rcases q with q | q
   ·exact hne q
   ·exact h35 (hst.symm.trans q)
  refine ww ?_
  have la:qBe 0 [.agg B0,.d (.str w)]=true:=by show (qBe 0 B0&&true)=true;rw [hbi];rfl
  have lb:low 0 (.tup [.agg B1,.d (.str o)])=true:=by show (qBe 0 B1&&true)=true;rw [hbi1];rfl
  refine qAe (qAn (i:=0) (off:=0) hT rfl rfl rfl (borL hni)) rfl ?_
  refine wk hT rfl rfl ?_
  refine qAe (qBu rfl rfl hA rfl la lb) rfl ?_
  refine wk hT rfl rfl ?_
  refine qAe (v:=.agg B1) (qAc (extractA_ok rfl rfl)) rfl ?_
  refine qAe (v:=.d (.str o)) (qAc (extractA_ok rfl rfl)) rfl ?_
  refine qBh (qAw (i:=0) (off:=0) hT rfl rfl rfl (borS (C:=B1) hni hni1)) (forceS_eq _ _) ?_
  refine wws ?_
  refine qAk (l:=[(4,.ptr 0 0),(5,.sl 1 S (.right 1)),(8,.d (.str o)),(23,.d (.sl 1 SL)),(24,.I 3),(25,.I (i:Int))]) (h':=[.row B1,.right 1 S.length]) yf (HLe.refl _) ?_
  refine ww ?_
  refine qAe (qAs (i:=1) hT rfl rfl rfl rfl rfl rfl (by show (S.length+1)*(16+1)≤_;omega)) rfl ?_
  refine ww ?_
  exact ⟨i+1,hi',by omega,⟨.refl _,AV.le.eq (by rw [ho];rfl),.refl _,.refl _,.int (by rw [qAf (by omega)];omega),trivial⟩,⟨by rw [hB1];exact ObLe.refl _,by rw [ho];exact ObLe.refl _,trivial⟩⟩
 ·have hi':i=3:=by simp at c1;omega
  subst hi'
  refine qCx ?_
  refine qAk (l:=[(5,.d (.sl 1 (qWk 3)))]) ⟨.dat,trivial⟩ (HLe.refl _) ?_
  refine ww ?_
  exact wwr
theorem qQm:Spec Tryz.prog 4 [] [] (fun r h'=>r=.d (.bool true)∧h'=[]):=by
 have h1:=qXd
 have h2:=qIf [105,110,115,112,101,99,116,32,48,32,49,32,45,49,44,53,32,51,58,50,58,49] (by decide)
 rw [readI.1] at h2
 have h3:=qLp (⟨10,0,1,0,[],[],[],[],[],[],[],[],0,[],false,0,0,[],[-1,5],[⟨3,2,1⟩]⟩:Akt) [] ⟨rfl,by decide,by decide⟩ (by decide)
 rw [readI.2] at h3
 have hC:qBn (⟨10,0,1,0,[],[],[],[],[],[],[],[],0,[],false,0,0,[],[-1,5],[⟨3,2,1⟩]⟩:Akt) []=[.I 10,.I 0,.I 1,.I 0,.d (.str []),.d (.str []),.d (.str []),.d (.str []),.d (.str []),.d (.str []),.d (.str []),.d (.str []),.I 0,.d (.sl 1 []),.d (.bool false),.d (.sl 5 []),.I 0,.d (.sl 1 []),.d (.sl 1 [[.int .i64 (-1)],[.int .i64 5]]),.d (.sl 3 [[.int .i64 3,.int .i64 2,.int .i64 1]])]:=rfl
 simp only at h2
 rw [hC] at h2 h3
 clear hC
 have a0:(qWk 3)[((0:Int)).toNat]?=some [.str [111,107]]:=rfl
 have a1:(qWk 3)[((1:Int)).toNat]?=some [.str [111,107]]:=rfl
 have a2:(qWk 3)[((2:Int)).toNat]?=some [.str [101,114,114,111,114,32,55,55]]:=rfl
 have al:(qWk 3).length=3:=rfl
 generalize qWk 3=OS at *
 refine qAb hT Tryz.func4 rfl rfl rfl rfl ?_;intro E hE
 refine qAg (qAd ?_)
 refine wws ?_
 refine qAg (qAd ?_)
 refine wwc h1 ?_
 refine wws ?_
 refine qAg (qAd ?_)
 refine wwc h2 ?_
 refine wk hT rfl rfl ?_
 refine wk hT rfl rfl ?_
 refine wk hT rfl rfl ?_
 refine wk hT rfl rfl ?_
 refine qBh (qAw (i:=0) (off:=0) hT rfl rfl rfl (qMm rfl rfl)) (forceS_eq _ _) ?_
 refine wws ?_
 refine qAk (l:=[(1,.d (.sl 1 OS)),(2,.ptr 0 0),(3,.I 0)]) (h':=[.row [.I 10,.I 0,.I 1,.I 0,.d (.str []),.d (.str []),.d (.str []),.d (.str []),.d (.str []),.d (.str []),.d (.str []),.d (.str []),.I 0,.d (.sl 1 []),.d (.bool false),.d (.sl 5 []),.I 0,.d (.sl 1 []),.d (.sl 1 [[.int .i64 (-1)],[.int .i64 5]]),.d (.sl 3 [[.int .i64 3,.int .i64 2,.int .i64 1]])]]) yf (HLe.refl _) ?_
 refine qAg (qAd ?_)
 refine wws ?_
 refine wwgi a0 ?_
 refine wws ?_
 refine wwgi a1 ?_
 refine wws ?_
 refine wwgi a2 ?_
 refine wws ?_
 refine wwgc h3 ?_
 refine ww ?_
 refine rq ⟨rfl,rfl⟩ rfl (.bool ?_)
 rw [al]
 decide
def qPn (x:Akt) (P:List (List Dat)):Bool :=
 decide (((x.text.length:Int)+x.state.length+x.sur.length+x.giv.length+x.number.length+x.nat.length+x.bir.length+x.sex.length)≤1500)&&decide (((x.prots.length:Int)+x.faults.length+P.length+x.cuts.length+x.flips.length)≤100)
structure LenW (x:Akt) (P:List (List Dat)):Prop where
 h1:x.text.length≤1000000000000000
 h2:x.state.length≤1000000000000000
 h3:x.sur.length≤1000000000000000
 h4:x.giv.length≤1000000000000000
 h5:x.number.length≤1000000000000000
 h6:x.nat.length≤1000000000000000
 h7:x.bir.length≤1000000000000000
 h8:x.sex.length≤1000000000000000
 h9:x.prots.length≤1000000000000000
 h10:x.faults.length≤1000000000000000
 h11:P.length≤1000000000000000
 h12:x.cuts.length≤1000000000000000
 h13:x.flips.length≤1000000000000000
theorem qPm {x:Akt} {P:List (List Dat)} (hp:P.length=x.pts) (h:qPn x P=true):ActLen x P:=by
 unfold qPn at h
 simp only [Bool.and_eq_true,decide_eq_true_eq] at h
 exact ⟨hp,by omega,by omega⟩
theorem qWo (x:Akt) (P:List (List Dat)) (hx:LenW x P):Spec Tryz.prog 5 [.agg (qBn x P)] [] (fun r h'=>r=.d (.bool (qPn x P))∧h'=[]):=by
 obtain ⟨h1,h2,h3,h4,h5,h6,h7,h8,h9,h10,h11,h12,h13⟩:=hx
 have e1:=encI_length x.prots
 have e2:=encI_length x.faults
 have e3:=encI_length x.cuts
 have e4:=encFp_length x.flips
 obtain ⟨k,a,b,n,st,tx,nu,su,gi,na,bi,se,ex,pr,ba,pt,td,fa,cu,fl⟩:=x
 unfold qPn qBn
 simp only at *
 generalize encI pr=epr at *
 generalize encI fa=efa at *
 generalize encI cu=ecu at *
 generalize qAp fl=efl at *
 refine qAb hT Tryz.func5 rfl rfl rfl rfl ?_;intro E hE
 refine qAg (qAd ?_)
 refine wws ?_
 refine qAg (qAd ?_)
 refine wws ?_
 refine ww ?_
 refine rq ⟨rfl,rfl⟩ rfl (.bool ?_)
 rw [e1,e2,e3,e4]
 simp only [qAf (n:=(tx.length:Int)+st.length) (by omega),qAf (n:=(tx.length:Int)+st.length+su.length) (by omega),qAf (n:=(tx.length:Int)+st.length+su.length+gi.length) (by omega),qAf (n:=(tx.length:Int)+st.length+su.length+gi.length+nu.length) (by omega),qAf (n:=(tx.length:Int)+st.length+su.length+gi.length+nu.length+na.length) (by omega),qAf (n:=(tx.length:Int)+st.length+su.length+gi.length+nu.length+na.length+bi.length) (by omega),qAf (n:=(tx.length:Int)+st.length+su.length+gi.length+nu.length+na.length+bi.length+se.length) (by omega),
  qAf (n:=(pr.length:Int)+fa.length) (by omega),qAf (n:=(pr.length:Int)+fa.length+P.length) (by omega),qAf (n:=(pr.length:Int)+fa.length+P.length+cu.length) (by omega),qAf (n:=(pr.length:Int)+fa.length+P.length+cu.length+fl.length) (by omega)]
theorem consoleLines_of (hA:Spec Tryz.prog 4 [] [] (fun r h'=>r=.d (.bool true)∧h'=[])) (x:Akt) (P:List (List Dat)) (hp:P.length=x.pts) (hk : -9223372036854775808≤x.kind∧x.kind≤9223372036854775807) (hx:LenW x P) :
  Spec Tryz.prog 3 [.agg (qBn x P)] [] (fun r h'=>r=.d (.bool true)∧h'=[]):=by
 have hl:=qWo x P hx
 have hC:=fun h=>qLp x P (qPm hp h) hk
 have hR:=fun h=>qXh x P (qPm hp h)
 clear hx hk hp
 cases hb:qPn x P with
 | false =>
  rw [hb] at hl
  clear hC hR
  refine qAb hT Tryz.func3 rfl rfl rfl rfl ?_;intro E hE
  refine qAg (qAd ?_)
  refine wws ?_
  refine qAk (l:=[(1,.ptr 0 0)]) (h':=[.row (qBn x P)]) yf (HLe.refl _) ?_
  refine ww ?_
  refine wwc hA ?_
  refine wd hT rfl rfl rfl ?_
  refine qBl (v:=.agg (qBn x P)) rfl rfl rfl rfl (fun hg=>⟨(sg (C:=True) hg).1,qAn (i:=0) (off:=0) hT rfl rfl rfl (qEf rfl)⟩) ?_
  refine wwgc hl ?_
  refine wg hT rfl rfl rfl rfl rfl ?_
  refine wg hT rfl rfl rfl rfl rfl ?_
  refine wwk (show (!false)=true from rfl) ?_
  refine rq ⟨rfl,rfl⟩ rfl (.bool ?_)
  rfl
 | true =>
  rw [hb] at hl
  have hC:=hC hb
  have hR:=hR hb
  generalize lineK x=z at hC hR
  refine qAb hT Tryz.func3 rfl rfl rfl rfl ?_;intro E hE
  refine qAg (qAd ?_)
  refine wws ?_
  refine qAk (l:=[(1,.ptr 0 0)]) (h':=[.row (qBn x P)]) yf (HLe.refl _) ?_
  refine ww ?_
  refine wwc hA ?_
  refine wd hT rfl rfl rfl ?_
  refine qBl (v:=.agg (qBn x P)) rfl rfl rfl rfl (fun hg=>⟨(sg (C:=True) hg).1,qAn (i:=0) (off:=0) hT rfl rfl rfl (qEf rfl)⟩) ?_
  refine wwgc hl ?_
  refine wg hT rfl rfl rfl rfl rfl ?_
  refine wg hT rfl rfl rfl rfl rfl ?_
  refine qBl (v:=.agg (qBn x P)) rfl rfl rfl rfl (fun hg=>⟨(sg (C:=True) hg).1,qAn (i:=0) (off:=0) hT rfl rfl rfl (qEf rfl)⟩) ?_
  refine wwgc hC ?_
  refine qBl (v:=.agg (qBn x P)) rfl rfl rfl rfl (fun hg=>⟨(sg (C:=True) hg).1,qAn (i:=0) (off:=0) hT rfl rfl rfl (qEf rfl)⟩) ?_
  refine wwgc hR ?_
  refine ww ?_
  refine rq ⟨rfl,rfl⟩ rfl (.bool ?_)
  simp
end Tdoc
