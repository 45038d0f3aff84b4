/- Part 15 of the proof: the texts JQ KW LH JR JS JT JU LI JV JW JX JY JZ KA KJ KK. -/
import Derived.Test.YtelocejblpajcaaGreatDoorBG14
set_option maxHeartbeats 8000000
set_option maxRecDepth 100000
set_option linter.unusedVariables false
set_option linter.unusedSimpArgs false
namespace Tdoc
open Go Go.Proofs
abbrev tiA:TI:=⟨.struct [(0,1,false),(1,1,false),(2,1,false),(3,1,false),(4,11,true),(15,11,true),(26,1,false),(27,1,false),(28,1,false),(29,1,false),(30,1,false),(31,1,false),(32,1,false)],33,384,qEc [] 0 (.sl 1 [] .full)⟩
theorem tiA_find:T.find 38=some tiA:=rfl
theorem L38 {C:List AV} (h:C.length=33):qMe T 38 C 0=some (.agg C):=loadA_agg tiA_find rfl (by rw [h];exact Nat.le_refl _) (List.take_of_length_le (by rw [List.length_drop,h];exact Nat.le_refl _))
theorem S38 {C D:List AV} (h1:D.length=33) (h2:C.length=33):qHh T 38 D 0 (.agg C)=some C:=storeA_agg tiA_find h2 (by rw [h1];exact Nat.le_refl _) (setRun_full (by rw [h1,h2]))
theorem qJa (n:Int):Spec Tryz.prog 40 [.d (.int .i64 n)] [] (fun r h'=>r=.d (.bool (decide (0≤n∧n≤73048)))∧h'=[]):=by
 refine qAb hT Tryz.func40 rfl rfl rfl rfl ?_;intro E hE
 refine ww ?_
 refine rq ⟨rfl,rfl⟩ rfl (.bool ?_)
 rw [Bool.eq_iff_iff]
 simp
theorem qEt (n:Int):Spec Tryz.prog 152 [.d (.int .i64 n)] [] (fun r h'=>r=.d (.int .i64 (min n 73048))∧h'=[]):=by
 refine qAb hT Tryz.func152 rfl rfl rfl rfl ?_;intro E hE
 refine ww ?_
 refine qAd (qAc (qQx (t2:=#[]) rfl rfl rfl)) rfl ?_
 refine ww ?_
 refine rq ⟨rfl,rfl⟩ rfl (.int ?_)
 split <;> omega
theorem secretR39_spec (a:Aut) (hs:a.seed.length≤500000):Spec Tryz.prog 43 [qEp a] [] (fun r h'=>r=.tup [qEp { a with seed:=qAv a.seed },.d (.int .i64 (qDr a.seed:Int)),.d (.int .i64 (qJu (qDr a.seed):Int))]∧h'=[]):=by
 have hd:=qUg a.seed hs
 have hsr:=secS_range a.seed
 have hp:=qLz ((qDr a.seed:Nat):Int)
 have hsk:=secF_nat hsr
 rw [show qSk ((qDr a.seed:Nat):Int)=((qJu (qDr a.seed):Nat):Int) by unfold qSk;rw [if_pos hsk,Int.toNat_natCast],show qKp ((qDr a.seed:Nat):Int)=0 by unfold qKp;rw [if_pos hsk]] at hp
 clear hsr hsk
 generalize qJu (qDr a.seed)=pk at *
 generalize qDr a.seed=k at *
 generalize hnx:qAv a.seed=nx at *
 clear hnx
 obtain ⟨sta,roots,links,secs,signer,lister,sk,lk,next,list,rev,defs,seed⟩:=a
 simp only at *
 refine qAb hT Tryz.func43 rfl rfl rfl rfl ?_;intro E hE
 refine qAj (qAj ?_)
 refine qAk (qAg ?_)
 refine qAd (boxAt_ok (i0:=0) (cs:=qAe ⟨sta,roots,links,secs,signer,lister,sk,lk,next,list,rev,defs,seed⟩) rfl rfl rfl) rfl ?_
 refine qAd (allocAt_ok (i0:=1) (i:=tiA) hT rfl tiA_find rfl) rfl ?_
 refine ww ?_
 refine wwc hd ?_
 refine ww ?_
 refine wwc hp ?_
 refine wws ?_
 refine qAo (l:=[(1,.ptr 0 0),(2,.ptr 1 0),(5,.d (.int .i64 (k:Int))),(7,.d (.int .i64 (pk:Int)))]) (h':=[.row (qAe ⟨sta,roots,links,secs,signer,lister,sk,lk,next,list,rev,defs,nx⟩),.row (qEc [] 0 (.sl 1 [] .full))]) ⟨.refl _,.refl _,.refl _,.refl _,trivial⟩ (HLe.refl _) ?_
 refine qAk (qAg ?_)
 refine qAd (qBy (i:=0) (off:=0) hT rfl rfl rfl (L38 rfl)) rfl ?_
 refine wk hT rfl rfl ?_
 refine wk hT rfl rfl ?_
 refine qCc (qBe (i:=1) (off:=0) hT rfl rfl rfl (S38 rfl rfl)) (forceS_eq _ _) ?_
 refine ww ?_
 refine rq ⟨rfl,rfl⟩ rfl (.refl _)
theorem rootR39_spec (a:Aut) (own key:Int) (day:Int) (hday:0≤day∧day≤73048):Spec Tryz.prog 71 [qEp a,.d (.int .i64 own),.d (.int .i64 key),.d (.int .i64 day)] [] (fun r h'=>r=qOy ⟨a.sta,1,(a.next:Int),own,own,key,day,qDg day 1825,qDg day 5475,0,0⟩∧h'=[]):=by
 have e1:IntKind.i64.wrap (day+1825)=day+1825:=qAf (by omega)
 have e2:IntKind.i64.wrap (day+5475)=day+5475:=qAf (by omega)
 have h1:=qEt (day+1825)
 have h2:=qEt (day+5475)
 obtain ⟨sta,roots,links,secs,signer,lister,sk,lk,next,list,rev,defs,seed⟩:=a
 simp only at *
 refine qAb hT Tryz.func71 rfl rfl rfl rfl ?_;intro E hE
 refine qAj (qAj ?_)
 refine qAk (qAg ?_)
 refine qAd (boxAt_ok (i0:=0) (cs:=qAe ⟨sta,roots,links,secs,signer,lister,sk,lk,next,list,rev,defs,seed⟩) rfl rfl rfl) rfl ?_
 refine qAd (allocAt_ok (i0:=1) (i:=⟨.struct [(0,1,false),(1,1,false),(2,1,false),(3,1,false),(4,1,false),(5,1,false),(6,1,false),(7,1,false),(8,1,false),(9,2,true)],11,96,qBi nl0⟩) hT rfl rfl rfl) rfl ?_
 refine qCi ?_
 refine qAk (qAw (fun i=>bif Nat.beq i 15 then [1] else [0]) (fun i=>bif Nat.beq i 15 then [1] else []) mixed (by kernel_rfl) ?_)
 refine wwg ?_
 rw [e1]
 refine wwdc h1 ?_
 refine wwg ?_
 rw [e2]
 refine wwdc h2 ?_
 refine wwg ?_
 refine ww ?_
 exact wwr
end Tdoc
namespace Tdoc
open Go Go.Proofs
def vJe:List AV:=[.d (.bool false),.d (.int .i64 0),.d (.int .i64 0),.d (.int .i64 0),.d (.bool false),.d (.bool false),.d (.bool false),.d (.int .i64 0),.d (.bool false),.sl 1 [] .full,.sl 1 [] .full,.d (.int .i64 0),.d (.int .i64 0),.d (.int .i64 0),.d (.int .i64 0),.sl 1 [] .full,.d (.int .i64 0),.d (.int .i64 0),.sl 1 [] .full,.d (.int .i64 0),.d (.int .i64 0),.d (.int .i64 0),.d (.int .i64 0),.sl 1 [] .full,.sl 1 [] .full,.d (.int .i64 0),.sl 1 [] .full,.d (.str []),.d (.int .i64 0),.d (.int .i64 0),.d (.int .i64 0),.d (.int .i64 0),.d (.int .i64 0),.sl 1 [] .full,.d (.bool false),.d (.int .i64 0),.d (.int .i64 0),.d (.int .i64 0),.d (.int .i64 0),.sl 1 [] .full,.d (.int .i64 0)]
def chC (p:Per) (m0 m1:List (List Dat)):List AV:=qKq p++[.d (.sl 1 m0),.d (.sl 1 m1),.d (.sl 1 (qAl p.seed))]++vJe
abbrev tiC:TI:=⟨.struct [(0,16,true),(16,2,true),(18,1,false),(19,1,false),(20,2,true),(22,5,true),(27,1,false),(28,3,true),(31,1,false),(32,1,false),(33,12,true),(45,1,false),(46,6,true),(52,1,false),(53,1,false),(54,6,true)],60,816,vJy++[.sl 1 [] .full,.sl 1 [] .full,.sl 1 [] .full]++vJe⟩
theorem tiC_find:T.find 69=some tiC:=rfl
theorem L60 {C:List AV} (h:C.length=60):qMe T 69 C 0=some (.agg C):=loadA_agg tiC_find rfl (by rw [h];exact Nat.le_refl _) (List.take_of_length_le (by rw [List.length_drop,h];exact Nat.le_refl _))
theorem S60 {C D:List AV} (h1:D.length=60) (h2:C.length=60):qHh T 69 D 0 (.agg C)=some C:=storeA_agg tiC_find h2 (by rw [h1];exact Nat.le_refl _) (setRun_full (by rw [h1,h2]))
theorem recF_len {pr ur:Int} {pin:List UInt8} {l:List Tp} {day:Int}:(vFh pr ur pin l day).1.length≤100:=by
 unfold vFh
 split
 ·simp
 split
 ·simp
 split
 ·simp
 rename_i h1 h2 h3
 have hv:qDo l day=0:=by
  unfold qMi at h3
  by_cases h0:qDo l day=0
  ·exact h0
  ·rw [if_pos (by simpa using h0)] at h3;exact absurd (by simpa using h3) h0
 obtain ⟨hlen,hpts⟩:=validTr_ok hv
 have hl:=trN_len (l:=l) day (fun p hp=>qNb (pointE_ok (hpts p hp)).1) l.length (Nat.le_refl _)
 have htf:qKm l day=trN l day l.length:=by unfold qKm trN;rw [List.take_length]
 have he:(qMi l day).1=qKm l day:=by unfold qMi;rw [if_neg (by simpa using hv)]
 rw [he,htf]
 simp only [List.length_append,List.length_cons,List.length_nil]
 omega
theorem vJf (p:Per) (m0 m1:List (List Dat)):qTz T 69 [(0,qQt p),(1,.agg [.d (.sl 1 m0),.d (.sl 1 m1)]),(2,.d (.sl 1 (qAl p.seed)))]=some (.agg (chC p m0 m1)):=by
 kernel_rfl
def mem0 (p:Per):List UInt8:=qPv 0 (vFh p.pr p.ur p.pin p.tps p.tday).1
theorem newChip_spec (p:Per) (hp:PerLen p) (hn:∀ t,t∈p.tps→t.holder.length≤1000000) (hv:qSo p=0):Spec Tryz.prog 37 [qQt p] [] (fun r h'=>r=.tup [.agg (chC p (qAl (mem0 p)) (qAl (List.replicate 265 0))),.d (.int .i64 0)]∧h'=[]):=by
 have h1:=validP_spec p hp hn
 rw [hv] at h1
 have h2:=encRec_spec p.pr p.ur p.pin p.tps p.tday hp.str.2.1 hp.tps hn
 have hrl:=recF_len (pr:=p.pr) (ur:=p.ur) (pin:=p.pin) (l:=p.tps) (day:=p.tday)
 have h3:=vAb (vFh p.pr p.ur p.pin p.tps p.tday).1 (by omega)
 rw [if_neg (by omega)] at h3
 have h4:=clonePer_spec p hp
 have h5:=qCb (qAl p.seed) (by rw [encB_length];exact hp.str.2.2.2.2)
 unfold mem0
 clear hp hn hv hrl
 generalize qPv 0 (vFh p.pr p.ur p.pin p.tps p.tday).1=im at h3 ⊢
 generalize vFh p.pr p.ur p.pin p.tps p.tday=R at h2 h3
 obtain ⟨R1,R2⟩:=R
 simp only at h2 h3
 generalize qAl (List.replicate 265 0)=ze at h3 ⊢
 generalize qAl im=im at h3 ⊢
 obtain ⟨root,apps,zone,number,pin,puk,pr,ur,basic,infos,ck,ak,tps,tday,ident,seed⟩:=p
 simp only at *
 refine qAb hT Tryz.func37 rfl rfl rfl rfl ?_;intro E hE
 refine qAj ?_
 refine qAk (qAg ?_)
 refine wk hT rfl rfl ?_
 refine qAd (allocAt_ok (i0:=0) (i:=tiC) hT rfl tiC_find rfl) rfl ?_
 refine wws ?_
 refine wwn ?_
 refine wwc h1 ?_
 refine wwn ?_
 refine qAa rfl (fun c1=>?_) (fun c1=>?_)
 ·exact absurd c1 (by simp)
 refine wwn ?_
 refine wwc h2 ?_
 refine wwn ?_
 refine wwc h3 ?_
 refine wwn ?_
 refine qAa rfl (fun c2=>?_) (fun c2=>?_)
 ·exact absurd c2 (by simp)
 refine wwn ?_
 refine qAw (fun i=>bif Nat.beq i 0||Nat.beq i 4 then [1] else bif Nat.beq i 2 then [2] else bif Nat.beq i 7 then [0] else []) (fun i=>bif Nat.beq i 7 then [0] else []) mixed (by kernel_rfl) ?_
 refine wwg ?_
 refine wwdc h4 ?_
 refine wwg ?_
 refine wwdc h5 ?_
 refine qAm (v:=.agg (chC ⟨root,apps,zone,number,pin,puk,pr,ur,basic,infos,ck,ak,tps,tday,ident,seed⟩ im ze)) (os:=[]) (fun k hk1 hk2=>qAc (qRq hT rfl (vJf ⟨root,apps,zone,number,pin,puk,pr,ur,basic,infos,ck,ak,tps,tday,ident,seed⟩ im ze))) rfl ?_
 refine qAm (v:=.any) (os:=[.row (chC ⟨root,apps,zone,number,pin,puk,pr,ur,basic,infos,ck,ak,tps,tday,ident,seed⟩ im ze)]) (fun k hk1 hk2=>qBe (i:=0) (off:=0) hT rfl rfl ((hk2 0 List.mem_cons_self).trans rfl) (S60 rfl rfl)) rfl ?_
 refine wwg ?_
 refine ww ?_
 exact wwr
end Tdoc
namespace Tdoc
open Go Go.Proofs
def numM:List UInt8:=[76,48,48,48,48,65,66]
def peC (hr:Int) (x3 x4 x5 key inf root apps:Dat):List AV:=[.d root,.d apps,.d key,.sl 1 [] .full,.sl 1 [] .full,.sl 1 [] .full,.d (.int .i64 3),.d (.int .i64 10),.d (.bool true),.d inf,.d x4,.d x5,.d (.sl 5 (qDf hr)),.d (.int .i64 30000),.d (.sl 1 (qAl numM)),.d x3]
theorem qZl (hr:Int) (x1 x2 x3 x4 x5 li key inf sec root apps:Dat) (G1 G2 G3 G4 G5:List (List Dat)) (a:Aut) :
  Spec Tryz.prog 38 [.ptr 0 0] [.row (wE hr x1 x2 x3 x4 x5 (.d li) (.d key) (.d inf) (.d (.sl 1 [[.sl 1 G1],[.sl 1 G2],[.sl 1 G3],[.sl 1 G4],[.sl 1 G5]])) (.d sec) (.d root) (.d apps) (zDM.map .d)),.row (qAe a)]
   (fun r h'=>r=.agg (peC hr x3 x4 x5 key inf root apps)∧h'=[.row (wE hr x1 x2 x3 x4 x5 (.d li) (.d key) (.d inf) (.d (.sl 1 [[.sl 1 G1],[.sl 1 G2],[.sl 1 G3],[.sl 1 G4],[.sl 1 G5]])) (.d sec) (.d root) (.d apps) (zDM.map .d)),.row (qAe a)]):=by
 have hc:=cpTrust_spec (qDf hr) 30000 (by simp [qDf])
 have h4:=vHv 4 true (by decide)
 have h6:=vHv 6 true (by decide)
 refine qAb hT Tryz.func38 rfl rfl rfl rfl ?_;intro E hE
 refine qAj ?_
 refine wwn ?_
 refine qAw (fun i=>bif [3,7,12,16,21,27,32].contains i then [0] else bif Nat.beq i 34||Nat.beq i 35 then [2] else []) (fun i=>bif Nat.beq i 34||Nat.beq i 35 then [2] else []) mixed (by kernel_rfl) ?_
 refine wwg ?_
 refine wwdc hc ?_
 refine wwg ?_
 refine qAm (os:=[]) (fun k hk1 hk2=>strBytes_ok hT rfl rfl rfl) rfl ?_
 refine wwg ?_
 refine qAm (v:=.ptr 2 0) (os:=[.row vJy]) (fun k hk1 hk2=>allocAt_ok (i0:=2) (i:=⟨.struct [(0,2,true),(2,1,false),(3,1,false),(4,1,false),(5,1,false),(6,1,false),(7,1,false),(8,1,false),(9,1,false),(10,1,false),(11,1,false),(12,2,true),(14,1,false),(15,1,false)],16,280,vJy⟩) hT rfl rfl ((hk2 2 List.mem_cons_self).trans rfl)) rfl ?_
 refine wwg ?_
 refine qAo (l:=[(0,.ptr 0 0),(2,.ptr 3 0),(3,.ptr 2 0)]) (h':=[.row (wE hr x1 x2 x3 x4 x5 (.d li) (.d key) (.d inf) (.d (.sl 1 [[.sl 1 G1],[.sl 1 G2],[.sl 1 G3],[.sl 1 G4],[.sl 1 G5]])) (.d sec) (.d root) (.d apps) (zDM.map .d)),.row (qAe a),.row (peC hr x3 (.int .i64 0) (.int .i64 0) key inf root apps),.row vJy]) ⟨.refl _,.refl _,.refl _,trivial⟩ (HLe.refl _) ?_
 refine wwn ?_
 refine wwc h4 ?_
 refine wwn ?_
 refine qAa rfl (fun c1=>?_) (fun c1=>?_)
 case refine_2=>exact absurd c1 (by simp)
 refine wwn ?_
 refine wwc h6 ?_
 refine wwn ?_
 refine qAa rfl (fun c2=>?_) (fun c2=>?_)
 case refine_2=>exact absurd c2 (by simp)
 refine wwn ?_
 exact rx ⟨rfl,rfl⟩ (h4:=show (2:Nat)=2 from rfl)
end Tdoc
namespace Tdoc
open Go Go.Proofs
theorem issR_spec (k:Nat) (c:Nal) (hk:1≤k∧k < qG) (hc:qCx c=0):Spec Tryz.prog 70 [.d (.int .i64 (k:Int)),qOy c] [] (fun r h'=>r=.tup [qOy (qBr k c),.d (.int .i64 0)]∧h'=[]):=by
 have hsl:=stateF_len (chk0 hc).1
 have h:=qSd (k:Int) c (by omega)
 rw [show vEu (k:Int) c=(qBr k c,0) by unfold vEu;rw [if_neg (by simpa using hc),if_neg (by rw [secF_nat hk];simp),Int.toNat_natCast]] at h
 exact h
theorem certN_chk {sta:List UInt8} {next:Nat} (ha:qCo sta=true) (hn:1≤next∧next≤1000000) {kind:Int} {issuer own k:Nat} {day u t:Int} (hk:1≤kind∧kind≤4) (hi:1≤issuer∧issuer≤1000000000) (ho:1≤own∧own≤1000000000)
  (hd:issuer=own↔kind=1) (hs:1≤k∧k < qG) (hday:0≤day∧day≤73048) (hu:0≤u∧u≤t):qCx (qEo sta next kind issuer own k day u t)=0 :=
 certF_chk (a:=⟨sta,[],[],[],nl0,nl0,0,0,next,0,[],[],[]⟩) ha hn hk hi ho hd hs hday hu
theorem signersR39_spec (a:Aut) (ha:AutOk a) (hn:a.next≤98) (hs:1≤a.secs.length∧a.secs.length≤100) (day:Int) (hday:0≤day∧day≤73048) :
  Spec Tryz.prog 72 [qEp a,.d (.int .i64 day)] [] (fun r h'=>r=qEp (qBq a day)∧h'=[]):=by
 rw [signersF_eq]
 have hnx:=ha.next
 have hst:=ha.sta
 have hlast:=ha.last hs.1
 have hr1:=secS_range a.seed
 have hr2:=secS_range (qAv a.seed)
 have hs1:=secretR39_spec a (by have:=ha.seed;omega)
 have hsl:(qAv a.seed).length=32:=sumW_length _
 have hs2:∀ b:Aut,b.seed=qAv a.seed→Spec Tryz.prog 43 [qEp b] [] (fun r h'=>r=.tup [qEp { b with seed:=qAv (qAv a.seed) },.d (.int .i64 (qDr (qAv a.seed):Int)),.d (.int .i64 (qJu (qDr (qAv a.seed)):Int))]∧h'=[]):=fun b hb=>by
  have h:=secretR39_spec b (by rw [hb];omega)
  rw [hb] at h
  exact h
 obtain ⟨sta,roots,links,secs,signer,lister,sk,lk,next,list,rev,defs,seed⟩:=a
 simp only at *
 clear ha
 generalize qAv (qAv seed)=n2 at *
 generalize qDr (qAv seed)=k2 at *
 generalize qAv seed=n1 at *
 generalize qDr seed=k1 at *
 have hi1:=issR_spec (secs.getD (secs.length-1) 0) (qEo sta next 3 secs.length (1000+next) k1 day 90 3740) hlast (certN_chk hst (by omega) (by omega) (by omega) (by omega) ⟨fun h=>by omega,fun h=>by omega⟩ hr1 hday (by omega))
 have hi2:=issR_spec (secs.getD (secs.length-1) 0) (qEo sta (next+1) 4 secs.length (1000+(next+1)) k2 day 365 730) hlast (certN_chk hst (by omega) (by omega) (by omega) (by omega) ⟨fun h=>by omega,fun h=>by omega⟩ hr2 hday (by omega))
 generalize qBr (secs.getD (secs.length-1) 0) (qEo sta next 3 secs.length (1000+next) k1 day 90 3740)=c1 at *
 generalize qBr (secs.getD (secs.length-1) 0) (qEo sta (next+1) 4 secs.length (1000+(next+1)) k2 day 365 730)=c2 at *
 rw [show qEo sta next 3 secs.length (1000+next) k1 day 90 3740=⟨sta,3,(next:Int),(secs.length:Int),((1000+next:Nat):Int),((qJu k1:Nat):Int),day,min (day+90) 73048,min (day+3740) 73048,0,0⟩ from rfl] at hi1
 rw [show qEo sta (next+1) 4 secs.length (1000+(next+1)) k2 day 365 730=⟨sta,4,((next+1:Nat):Int),(secs.length:Int),((1000+(next+1):Nat):Int),((qJu k2:Nat):Int),day,min (day+365) 73048,min (day+730) 73048,0,0⟩ from rfl] at hi2
 generalize qJu k1=p1 at *
 generalize qJu k2=p2 at *
 have hs2:=hs2 ⟨sta,roots,links,secs,c1,lister,k1,lk,next+1,list,rev,defs,n1⟩ rfl
 simp only at hs2
 have hat:=encNs'_at (l:=secs) (i:=secs.length-1) (by omega)
 generalize secs.getD (secs.length-1) 0=old at *
 have hlen:=encNs'_len secs
 have en:IntKind.i64.wrap ((secs.length:Int)-1)=((secs.length-1:Nat):Int):=by rw [qAf (by omega)];omega
 have ew1:IntKind.i64.wrap (1000+(next:Int))=((1000+next:Nat):Int):=by rw [qAf (by omega)];omega
 have ew3:IntKind.i64.wrap (1000+((next+1:Nat):Int))=((1000+(next+1):Nat):Int):=by rw [qAf (by omega)];omega
 have ex1:IntKind.i64.wrap ((next:Int)+1)=((next+1:Nat):Int):=by rw [qAf (by omega)];omega
 have ex2:IntKind.i64.wrap (((next+1:Nat):Int)+1)=((next+1+1:Nat):Int):=by rw [qAf (by omega)];omega
 have e90:IntKind.i64.wrap (day+90)=day+90:=qAf (by omega)
 have e3740:IntKind.i64.wrap (day+3740)=day+3740:=qAf (by omega)
 have e365:IntKind.i64.wrap (day+365)=day+365:=qAf (by omega)
 have e730:IntKind.i64.wrap (day+730)=day+730:=qAf (by omega)
 clear hlast hr1 hr2 hst
 refine qAb hT Tryz.func72 rfl rfl rfl rfl ?_;intro E hE
 refine qAj (qAj ?_)
 refine qAk (qAg ?_)
 refine qAd (boxAt_ok (i0:=0) (cs:=qAe ⟨sta,roots,links,secs,signer,lister,sk,lk,next,list,rev,defs,seed⟩) rfl rfl rfl) rfl ?_
 refine qAd (allocAt_ok (i0:=1) (i:=tiA) hT rfl tiA_find rfl) rfl ?_
 refine qCi ?_
 refine qAk (qAg ?_)
 refine wws ?_
 refine qAo (l:=[(1,.d (.int .i64 day)),(2,.ptr 0 0),(4,.ptr 1 0),(5,.d (.int .i64 (secs.length:Int)))]) (h':=[.row (qAe ⟨sta,roots,links,secs,signer,lister,sk,lk,next,list,rev,defs,seed⟩),.row (qEc [] 0 (.sl 1 [] .full))]) ⟨.refl _,.refl _,.refl _,.int (by rw [hlen]),trivial⟩ (HLe.refl _) ?_
 refine qAk (qAg ?_)
 refine qAd (qBy (i:=0) (off:=0) hT rfl rfl rfl (L38 (C:=qAe ⟨sta,roots,links,secs,signer,lister,sk,lk,next,list,rev,defs,seed⟩) rfl)) rfl ?_
 refine wwc hs1 ?_
 refine wk hT rfl rfl ?_
 refine wk hT rfl rfl ?_
 refine wk hT rfl rfl ?_
 refine wk hT rfl rfl ?_
 refine qCc (qBe (i:=0) (off:=0) hT rfl rfl rfl (S38 (C:=qAe ⟨sta,roots,links,secs,signer,lister,sk,lk,next,list,rev,defs,n1⟩) rfl rfl)) (forceS_eq _ _) ?_
 refine wk hT rfl rfl ?_
 refine wk hT rfl rfl ?_
 refine qCi ?_
 refine qAo (l:=[(1,.d (.int .i64 day)),(2,.ptr 0 0),(4,.ptr 1 0),(5,.d (.int .i64 (secs.length:Int))),(6,.d (.int .i64 (k1:Int))),(7,.d (.int .i64 (p1:Int)))]) (h':=[.row (qAe ⟨sta,roots,links,secs,signer,lister,sk,lk,next,list,rev,defs,n1⟩),.row (qEc [] 0 (.sl 1 [] .full))]) ⟨.refl _,.refl _,.refl _,.refl _,.refl _,.refl _,trivial⟩ (HLe.refl _) ?_
 refine qAj ?_
 refine qAk (qAw (fun i=>bif Nat.beq i 17||Nat.beq i 18 then [2] else [0]) (fun i=>bif Nat.beq i 17||Nat.beq i 18 then [2] else []) mixed (by kernel_rfl) ?_)
 refine wwg ?_
 rw [ew1,e90]
 refine wwdc (qEt (day+90)) ?_
 refine wwg ?_
 rw [e3740]
 refine wwdc (qEt (day+3740)) ?_
 refine wwg ?_
 refine qAm (v:=.ptr 2 0) (os:=[.row (qBi nl0)]) (fun kk hk1 hk2=>allocAt_ok (i0:=2) (i:=⟨.struct [(0,1,false),(1,1,false),(2,1,false),(3,1,false),(4,1,false),(5,1,false),(6,1,false),(7,1,false),(8,1,false),(9,2,true)],11,96,qBi nl0⟩) hT rfl rfl ((hk2 2 List.mem_cons_self).trans rfl)) rfl ?_
 refine wwg ?_
 refine qAo (l:=[(1,.d (.int .i64 day)),(2,.ptr 0 0),(4,.ptr 1 0),(5,.d (.int .i64 (secs.length:Int))),(6,.d (.int .i64 (k1:Int))),(7,.d (.int .i64 (p1:Int))),(8,.ptr 2 0)]) (h':=[.row (qAe ⟨sta,roots,links,secs,signer,lister,sk,lk,next,list,rev,defs,n1⟩),.row (qEc [] 0 (.sl 1 [] .full)),.row (qBi ⟨sta,3,(next:Int),(secs.length:Int),((1000+next:Nat):Int),((p1:Nat):Int),day,min (day+90) 73048,min (day+3740) 73048,0,0⟩)]) ⟨.refl _,.refl _,.refl _,.refl _,.refl _,.refl _,.refl _,trivial⟩ (HLe.refl _) ?_
 refine qAk (qAw (fun i=>bif Nat.beq i 1||Nat.beq i 12 then [0] else bif Nat.beq i 6 then [2] else []) (fun i=>bif Nat.beq i 12 then [0] else []) mixed (by kernel_rfl) ?_)
 refine wwg ?_
 refine qAm (os:=[]) (fun k hk1 hk2=>qAc (indexAddr_ok hT rfl rfl rfl rfl (by rw [en];omega) (by rw [en,Int.toNat_natCast];exact hat))) rfl ?_
 refine wwg ?_
 refine wwdc hi1 ?_
 refine wwg ?_
 refine qAk (qAg ?_)
 refine wws ?_
 refine qAk (qAg ?_)
 refine wws ?_
 rw [ex1]
 refine qAo (l:=[(1,.d (.int .i64 day)),(2,.ptr 0 0),(4,.ptr 1 0),(5,.d (.int .i64 (secs.length:Int))),(6,.d (.int .i64 (k1:Int))),(7,.d (.int .i64 (p1:Int))),(8,.ptr 2 0)]) (h':=[.row (qAe ⟨sta,roots,links,secs,c1,lister,k1,lk,next+1,list,rev,defs,n1⟩),.row (qEc [] 0 (.sl 1 [] .full)),.row (qBi ⟨sta,3,(next:Int),(secs.length:Int),((1000+next:Nat):Int),((p1:Nat):Int),day,min (day+90) 73048,min (day+3740) 73048,0,0⟩)]) ⟨.refl _,.refl _,.refl _,.refl _,.refl _,.refl _,.refl _,trivial⟩ (HLe.refl _) ?_
 refine qAk (qAg ?_)
 refine qAd (qBy (i:=0) (off:=0) hT rfl rfl rfl (L38 (C:=qAe ⟨sta,roots,links,secs,c1,lister,k1,lk,next+1,list,rev,defs,n1⟩) rfl)) rfl ?_
 refine wwc hs2 ?_
 refine wk hT rfl rfl ?_
 refine wk hT rfl rfl ?_
 refine wk hT rfl rfl ?_
 refine wk hT rfl rfl ?_
 refine qCc (qBe (i:=0) (off:=0) hT rfl rfl rfl (S38 (C:=qAe ⟨sta,roots,links,secs,c1,lister,k1,lk,next+1,list,rev,defs,n2⟩) rfl rfl)) (forceS_eq _ _) ?_
 refine wk hT rfl rfl ?_
 refine wk hT rfl rfl ?_
 refine qCi ?_
 refine qAo (l:=[(1,.d (.int .i64 day)),(2,.ptr 0 0),(4,.ptr 1 0),(5,.d (.int .i64 (secs.length:Int))),(6,.d (.int .i64 (k2:Int))),(7,.d (.int .i64 (p2:Int))),(8,.ptr 2 0)]) (h':=[.row (qAe ⟨sta,roots,links,secs,c1,lister,k1,lk,next+1,list,rev,defs,n2⟩),.row (qEc [] 0 (.sl 1 [] .full)),.row (qBi ⟨sta,3,(next:Int),(secs.length:Int),((1000+next:Nat):Int),((p1:Nat):Int),day,min (day+90) 73048,min (day+3740) 73048,0,0⟩)]) ⟨.refl _,.refl _,.refl _,.refl _,.refl _,.refl _,.refl _,trivial⟩ (HLe.refl _) ?_
 refine qAk (qAw (fun i=>bif Nat.beq i 17 then [2] else [0]) (fun i=>bif Nat.beq i 17 then [2] else []) mixed (by kernel_rfl) ?_)
 refine wwg ?_
 rw [ew3,e365]
 refine wwdc (qEt (day+365)) ?_
 refine wwg ?_
 rw [e730]
 refine wwdc (qEt (day+730)) ?_
 refine wwg ?_
 refine qAo (l:=[(1,.d (.int .i64 day)),(2,.ptr 0 0),(4,.ptr 1 0),(5,.d (.int .i64 (secs.length:Int))),(6,.d (.int .i64 (k2:Int))),(7,.d (.int .i64 (p2:Int))),(8,.ptr 2 0)]) (h':=[.row (qAe ⟨sta,roots,links,secs,c1,lister,k1,lk,next+1,list,rev,defs,n2⟩),.row (qEc [] 0 (.sl 1 [] .full)),.row (qBi ⟨sta,4,((next+1:Nat):Int),(secs.length:Int),((1000+(next+1):Nat):Int),((p2:Nat):Int),day,min (day+365) 73048,min (day+730) 73048,0,0⟩)]) ⟨.refl _,.refl _,.refl _,.refl _,.refl _,.refl _,.refl _,trivial⟩ (HLe.refl _) ?_
 refine qAk (qAw (fun i=>bif Nat.beq i 1||Nat.beq i 12 then [0] else bif Nat.beq i 6 then [2] else []) (fun i=>bif Nat.beq i 12 then [0] else []) mixed (by kernel_rfl) ?_)
 refine wwg ?_
 refine qAm (os:=[]) (fun k hk1 hk2=>qAc (indexAddr_ok hT rfl rfl rfl rfl (by rw [en];omega) (by rw [en,Int.toNat_natCast];exact hat))) rfl ?_
 refine wwg ?_
 refine wwdc hi2 ?_
 refine wwg ?_
 refine qAk (qAg ?_)
 refine wws ?_
 refine qAk (qAg ?_)
 refine wws ?_
 rw [ex2]
 refine qAo (l:=[(1,.d (.int .i64 day)),(2,.ptr 0 0),(4,.ptr 1 0),(5,.d (.int .i64 (secs.length:Int))),(6,.d (.int .i64 (k2:Int))),(7,.d (.int .i64 (p2:Int))),(8,.ptr 2 0)]) (h':=[.row (qAe ⟨sta,roots,links,secs,c1,c2,k1,k2,next+1+1,list,rev,defs,n2⟩),.row (qEc [] 0 (.sl 1 [] .full)),.row (qBi ⟨sta,4,((next+1:Nat):Int),(secs.length:Int),((1000+(next+1):Nat):Int),((p2:Nat):Int),day,min (day+365) 73048,min (day+730) 73048,0,0⟩)]) ⟨.refl _,.refl _,.refl _,.refl _,.refl _,.refl _,.refl _,trivial⟩ (HLe.refl _) ?_
 refine qAk (qAg ?_)
 refine qAd (qBy (i:=0) (off:=0) hT rfl rfl rfl (L38 (C:=qAe ⟨sta,roots,links,secs,c1,c2,k1,k2,next+1+1,list,rev,defs,n2⟩) rfl)) rfl ?_
 refine qCc (qBe (i:=1) (off:=0) hT rfl rfl rfl (S38 (C:=qAe ⟨sta,roots,links,secs,c1,c2,k1,k2,next+1+1,list,rev,defs,n2⟩) rfl rfl)) (forceS_eq _ _) ?_
 refine ww ?_
 refine rq ⟨rfl,rfl⟩ rfl (.refl _)
end Tdoc
namespace Tdoc
open Go Go.Proofs
theorem autZ_le2 (sta seed:List UInt8):ObLe (.row (qEc sta 1 (.d (.sl 1 (qAl seed))))) (.row (qAe (aut1 sta seed))):=by
 show AllLe _ _
 repeat' (first | exact trivial | exact AV.le.refl _ | exact AV.le.dat | refine ⟨?_,?_⟩)
theorem rootF_1 (sta seed:List UInt8) (day:Int):qCv (aut1 sta seed) day=⟨sta,[qBr (qDr seed) (qEo sta 1 1 1 1 (qDr seed) day 1825 5475)],[],[qDr seed],nl0,nl0,0,0,2,1,[],[],qAv seed⟩:=rfl
theorem qXg (sta seed:List UInt8) (day:Int) (hsta:sta.length≤1000000000) (hseed:seed.length≤1000) (h1:qCo sta=true) (hday:0≤day∧day≤73048):Spec Tryz.prog 16 [.d (.str sta),.d (.sl 1 (qAl seed)),.d (.int .i64 day)] [] (fun r h'=>r=.tup [qEp (qUb sta seed day),.d (.int .i64 0)]∧h'=[]):=by
 have hst:=qHb sta hsta
 rw [h1] at hst
 have hdy:=qJa day
 rw [decide_eq_true hday] at hdy
 rw [beginF_eq]
 have hok:=qRu h1 hseed
 have hro:=rootF_ok hok (by show 1≤99;omega) day
 have hl1:(qCv (aut1 sta seed) day).secs.length=(aut1 sta seed).secs.length+1:=hro.2.1
 have hn1:(qCv (aut1 sta seed) day).next=(aut1 sta seed).next+1:=hro.2.2
 rw [show (aut1 sta seed).secs.length=0 from rfl] at hl1
 rw [show (aut1 sta seed).next=1 from rfl] at hn1
 have hsg:=signersR39_spec (qCv (aut1 sta seed) day) hro.1 (by omega) (by omega) day hday
 generalize qBq (qCv (aut1 sta seed) day) day=A2 at hsg ⊢
 rw [rootF_1] at hsg
 clear hro hl1 hn1
 have hsc:=secretR39_spec (aut1 sta seed) (by show seed.length≤_;omega)
 rw [show (aut1 sta seed).seed=seed from rfl] at hsc
 have hr:=secS_range seed
 have his:=issR_spec (qDr seed) (qEo sta 1 1 1 1 (qDr seed) day 1825 5475) hr (certN_chk h1 (by omega) (by omega) (by omega) (by omega) ⟨fun _=>rfl,fun _=>rfl⟩ hr hday (by omega))
 generalize qBr (qDr seed) (qEo sta 1 1 1 1 (qDr seed) day 1825 5475)=c1 at *
 rw [show qEo sta 1 1 1 1 (qDr seed) day 1825 5475=⟨sta,1,1,1,1,((qJu (qDr seed):Nat):Int),day,qDg day 1825,qDg day 5475,0,0⟩ from rfl] at his
 generalize qJu (qDr seed)=p1 at *
 generalize qDr seed=k1 at *
 rw [show ({ aut1 sta seed with seed:=qAv seed }:Aut)=⟨sta,[],[],[],nl0,nl0,0,0,1,1,[],[],qAv seed⟩ from rfl] at hsc
 generalize qAv seed=n1 at *
 have hrt:=rootR39_spec ⟨sta,[],[],[k1],nl0,nl0,0,0,1,1,[],[],n1⟩ 1 (p1:Int) day hday
 generalize qDg day 1825=d1 at *
 generalize qDg day 5475=d2 at *
 have hel:=encB_length seed
 clear hok hr
 refine qAb hT Tryz.func16 rfl rfl rfl rfl ?_;intro E hE
 refine qAj (qAj (qAj ?_))
 refine qAk (qAg ?_)
 refine qAd (allocAt_ok (i0:=0) (i:=tiA) hT rfl tiA_find rfl) rfl ?_
 refine ww ?_
 refine wwc hst ?_
 refine ww ?_
 refine qAa rfl (fun q1=>?_) (fun q1=>?_)
 ·exact absurd q1 (by simp)
 refine ww ?_
 refine wwc hdy ?_
 refine ww ?_
 refine qAa rfl (fun q2=>?_) (fun q2=>?_)
 ·exact absurd q2 (by simp)
 refine qBv ?_
 refine qAk (qAg ?_)
 refine wws ?_
 refine qAd (qCh (es:=[]) hT rfl rfl rfl (.inl rfl) rfl (by show (([]:List (List Dat)).length+(qAl seed).length)*(1+1)≤140737488355328;simp;omega)) rfl ?_
 refine wk hT rfl rfl ?_
 refine qAd (allocAt_ok (i0:=1) (i:=tiA) hT rfl tiA_find rfl) rfl ?_
 refine qCc (qBe (i:=1) (off:=0) hT rfl rfl rfl (S38 (C:=qEc sta 1 (.d (.sl 1 (qAl seed)))) rfl rfl)) (forceS_eq _ _) ?_
 refine qCi ?_
 refine qAo (l:=[(2,.d (.int .i64 day)),(6,.ptr 0 0),(8,.ptr 1 0)]) (h':=[.row (qEc [] 0 (.sl 1 [] .full)),.row (qAe (aut1 sta seed)),.room]) ⟨.refl _,.refl _,.refl _,trivial⟩ ⟨ObLe.refl _,autZ_le2 sta seed,ObLe.refl _,trivial⟩ ?_
 refine qAk (qAg ?_)
 refine qAd (qBy (i:=1) (off:=0) hT rfl rfl rfl (L38 (C:=qAe (aut1 sta seed)) rfl)) rfl ?_
 refine wwc hsc ?_
 refine wk hT rfl rfl ?_
 refine wk hT rfl rfl ?_
 refine wk hT rfl rfl ?_
 refine wk hT rfl rfl ?_
 refine qCc (qBe (i:=1) (off:=0) hT rfl rfl rfl (S38 (C:=qAe ⟨sta,[],[],[],nl0,nl0,0,0,1,1,[],[],n1⟩) rfl rfl)) (forceS_eq _ _) ?_
 refine wk hT rfl rfl ?_
 refine wk hT rfl rfl ?_
 refine qCi ?_
 refine qAk (qAg ?_)
 refine wws ?_
 refine qAo (l:=[(2,.d (.int .i64 day)),(6,.ptr 0 0),(8,.ptr 1 0),(9,.d (.int .i64 (k1:Int))),(10,.d (.int .i64 (p1:Int)))]) (h':=[.row (qEc [] 0 (.sl 1 [] .full)),.row (qAe ⟨sta,[],[],[k1],nl0,nl0,0,0,1,1,[],[],n1⟩),.room]) ⟨.refl _,.refl _,.refl _,.refl _,.refl _,trivial⟩
  ⟨ObLe.refl _,by show AllLe _ _;exact ⟨.refl _,.refl _,.refl _,AV.le.dat,AllLe.refl _⟩,ObLe.refl _,trivial⟩ ?_
 refine qAk (qAg ?_)
 refine wk hT rfl rfl ?_
 refine qAd (qBy (i:=1) (off:=0) hT rfl rfl rfl (L38 (C:=qAe ⟨sta,[],[],[k1],nl0,nl0,0,0,1,1,[],[],n1⟩) rfl)) rfl ?_
 refine wk hT rfl rfl ?_
 refine wk hT rfl rfl ?_
 refine wwc hrt ?_
 refine wwc his ?_
 refine wk hT rfl rfl ?_
 refine wk hT rfl rfl ?_
 refine wk hT rfl rfl ?_
 refine qAd (allocAt_ok (i0:=2) (i:=⟨.struct [(0,1,false),(1,1,false),(2,1,false),(3,1,false),(4,1,false),(5,1,false),(6,1,false),(7,1,false),(8,1,false),(9,2,true)],11,96,qBi nl0⟩) hT rfl rfl rfl) rfl ?_
 refine wws ?_
 refine qAk (qAg ?_)
 refine wws ?_
 refine qAk (qAg ?_)
 refine wws ?_
 refine qAo (l:=[(2,.d (.int .i64 day)),(6,.ptr 0 0),(8,.ptr 1 0)]) (h':=[.row (qEc [] 0 (.sl 1 [] .full)),.row (qAe ⟨sta,[c1],[],[k1],nl0,nl0,0,0,2,1,[],[],n1⟩),.dead]) ⟨.refl _,.refl _,.refl _,trivial⟩
  ⟨ObLe.refl _,by show AllLe _ _;exact ⟨.refl _,AV.le.dat,AllLe.refl _⟩,trivial,trivial⟩ ?_
 refine qAk (qAg ?_)
 refine qAd (qBy (i:=1) (off:=0) hT rfl rfl rfl (L38 (C:=qAe ⟨sta,[c1],[],[k1],nl0,nl0,0,0,2,1,[],[],n1⟩) rfl)) rfl ?_
 refine wk hT rfl rfl ?_
 refine wwc hsg ?_
 refine qCc (qBe (i:=0) (off:=0) hT rfl rfl rfl (S38 (C:=qAe A2) rfl rfl)) (forceS_eq _ _) ?_
 refine ww ?_
 refine rq ⟨rfl,rfl⟩ rfl (.refl _)
theorem qSh (sta seed:List UInt8) (day:Int) (hsta:sta.length≤1000000000) (hseed:seed.length≤1000):Spec Tryz.prog 16 [.d (.str sta),.d (.sl 1 (qAl seed)),.d (.int .i64 day)] [] (fun r h'=>r=.tup [qEp (qIi sta seed day).1,.d (.int .i64 (qIi sta seed day).2)]∧h'=[]):=by
 have hst:=qHb sta hsta
 have hdy:=qJa day
 rw [beginA_eq]
 by_cases h1:qCo sta=true
 ·rw [if_neg (by rw [h1];simp)]
  by_cases h2:day < 0∨73048 < day
  ·rw [if_pos h2]
   rw [h1] at hst
   rw [decide_eq_false (by omega)] at hdy
   refine qAb hT Tryz.func16 rfl rfl rfl rfl ?_;intro E hE
   refine ww ?_
   refine wwc hst ?_
   refine ww ?_
   refine qAa rfl (fun c1=>?_) (fun c1=>?_)
   ·exact absurd c1 (by simp)
   refine ww ?_
   refine wwc hdy ?_
   refine ww ?_
   refine qAa rfl (fun c2=>?_) (fun c2=>?_)
   ·refine ww ?_
    exact wwr
   ·exact absurd c2 (by simp)
  ·rw [if_neg h2]
   exact qXg sta seed day hsta hseed h1 (by omega)
 ·rw [if_pos (by simpa using h1)]
  rw [show qCo sta=false by simpa using h1] at hst
  refine qAb hT Tryz.func16 rfl rfl rfl rfl ?_;intro E hE
  refine ww ?_
  refine wwc hst ?_
  refine ww ?_
  refine qAa rfl (fun c1=>?_) (fun c1=>?_)
  ·refine ww ?_
   exact wwr
  ·exact absurd c1 (by simp)
end Tdoc
namespace Tdoc
open Go Go.Proofs
theorem encDfs_len (l:List Dfc):(qHk l).length=l.length:=by simp [qHk]
def vDo (a:Aut) (i j k:Nat):List AV:=vJp a (.sl 11 (qBb a.roots) (.right j)) (.sl 11 (qBb a.links) (.right k)) (.sl 1 (encNs' a.secs) (.right i))
theorem qQi (a:Aut) (hl:a.roots.length≤1000000∧a.links.length≤1000000∧a.secs.length≤1000000∧a.rev.length≤1000000∧a.defs.length≤1000000∧a.seed.length≤1000000) :
  Spec Tryz.prog 30 [qEp a] [.room,.room,.room] (fun r h'=>r=.agg (vDo a 0 1 2)∧h'=[.right 1 (encNs' a.secs).length,.right 11 (qBb a.roots).length,.right 11 (qBb a.links).length]):=by
 obtain ⟨l1,l2,l3,l4,l5,l6⟩:=hl
 have h1:=qMc (qBb a.roots) (by rw [encNls_len];omega)
 have h2:=qMc (qBb a.links) (by rw [encNls_len];omega)
 have h3:=qUs (encNs' a.secs) (by rw [encNs'_len];omega)
 have h4:=qUu (a.rev.map fun n=>[.int .i64 n]) (by rw [List.length_map];omega)
 have h5:=qUv (qHk a.defs) (by rw [encDfs_len];omega)
 have h6:=qCb (qAl a.seed) (by rw [encB_length];omega)
 obtain ⟨sta,roots,links,secs,signer,lister,sk,lk,next,list,rev,defs,seed⟩:=a
 simp only at *
 refine qAb hT Tryz.func30 rfl rfl rfl rfl ?_;intro E hE
 refine qAj (qAj ?_)
 refine qAk (qAg ?_)
 refine qAd (boxAt_ok (i0:=3) (cs:=qAe ⟨sta,roots,links,secs,signer,lister,sk,lk,next,list,rev,defs,seed⟩) rfl rfl rfl) rfl ?_
 refine qAd (allocAt_ok (i0:=4) (i:=tiA) hT rfl tiA_find rfl) rfl ?_
 refine qCi ?_
 refine qAk (qAw (fun i=>bif Nat.beq i 2 then [1] else bif Nat.beq i 5 then [2] else bif Nat.beq i 8 then [0] else [3]) (fun i=>bif Nat.beq i 2 then [1] else bif Nat.beq i 5 then [2] else bif Nat.beq i 8 then [0] else bif Nat.beq i 10||Nat.beq i 12||Nat.beq i 14 then [3] else []) mixed (by kernel_rfl) ?_)
 refine wwg ?_
 refine qAm (v:=.sl 11 (qBb roots) (.right 1)) (os:=[.right 11 (qBb roots).length]) (fun k hk1 hk2=>qBx rfl rfl h1 [1] (by decide) (by show [k[1]?]=_;rw [hk2 1 (by decide)];rfl) rfl rfl rfl rfl rfl) rfl ?_
 refine wwg ?_
 refine qAm (v:=.sl 11 (qBb links) (.right 2)) (os:=[.right 11 (qBb links).length]) (fun k hk1 hk2=>qBx rfl rfl h2 [2] (by decide) (by show [k[2]?]=_;rw [hk2 2 (by decide)];rfl) rfl rfl rfl rfl rfl) rfl ?_
 refine wwg ?_
 refine qAm (v:=.sl 1 (encNs' secs) (.right 0)) (os:=[.right 1 (encNs' secs).length]) (fun k hk1 hk2=>qBx rfl rfl h3 [0] (by decide) (by show [k[0]?]=_;rw [hk2 0 (by decide)];rfl) rfl rfl rfl rfl rfl) rfl ?_
 refine wwg ?_
 refine qAo (l:=[(1,.ptr 3 0),(2,.ptr 4 0)]) (h':=[.right 1 (encNs' secs).length,.right 11 (qBb roots).length,.right 11 (qBb links).length,.row (vDo ⟨sta,roots,links,secs,signer,lister,sk,lk,next,list,rev,defs,seed⟩ 0 1 2),.row (qEc [] 0 (.sl 1 [] .full))]) ⟨.refl _,.refl _,trivial⟩ (HLe.refl _) ?_
 refine qAk (qAw (fun _=>[3]) (fun i=>bif Nat.beq i 10||Nat.beq i 12||Nat.beq i 14 then [3] else []) mixed (by kernel_rfl) ?_)
 refine wwg ?_
 refine wwdc h4 ?_
 refine wwg ?_
 refine wwdc h5 ?_
 refine wwg ?_
 refine wwdc h6 ?_
 refine wwg ?_
 refine qAo (l:=[(1,.ptr 3 0),(2,.ptr 4 0)]) (h':=[.right 1 (encNs' secs).length,.right 11 (qBb roots).length,.right 11 (qBb links).length,.row (vDo ⟨sta,roots,links,secs,signer,lister,sk,lk,next,list,rev,defs,seed⟩ 0 1 2),.row (qEc [] 0 (.sl 1 [] .full))]) ⟨.refl _,.refl _,trivial⟩ (HLe.refl _) ?_
 refine qAk (qAg ?_)
 refine qAd (qBy (i:=3) (off:=0) hT rfl rfl rfl (L38 (C:=vDo ⟨sta,roots,links,secs,signer,lister,sk,lk,next,list,rev,defs,seed⟩ 0 1 2) rfl)) rfl ?_
 refine qCc (qBe (i:=4) (off:=0) hT rfl rfl rfl (S38 (C:=vDo ⟨sta,roots,links,secs,signer,lister,sk,lk,next,list,rev,defs,seed⟩ 0 1 2) rfl rfl)) (forceS_eq _ _) ?_
 refine ww ?_
 refine rq ⟨rfl,rfl⟩ rfl (.refl _)
end Tdoc
namespace Tdoc
open Go Go.Proofs
theorem linkF_eq (A:Aut) (m:Nat) (h:A.secs.length=m+1) (day:Int):qHq A day={ A with links:=A.links++[qBr (A.secs.getD (m-1) 0) (qEo A.sta A.next 2 m (m+1) (A.secs.getD m 0) day 1825 5475)],next:=A.next+1 }:=by
 unfold qHq
 simp only [h,certF_N,show m+1-2=m-1 by omega,show m+1-1=m by omega]
theorem rollF_eq (a:Aut) (day:Int):qZg a day=qBq (qHq (qCv a day) day) day:=rfl
theorem rollA_eq (a:Aut) (day:Int):qVn a day=if a.secs.length=0 then (aut0,23) else if day < 0∨73048 < day then (aut0,8) else if 8≤a.secs.length then (aut0,72) else (qZg a day,0):=rfl
structure RollOk (a:Aut):Prop where
 ok:AutOk a
 next:a.next≤90
 len:a.roots.length≤100∧a.links.length≤100∧a.rev.length≤1000000∧a.defs.length≤1000000
theorem autR_le (a:Aut):ObLe (.row (vDo a 1 2 3)) (.row (qAe a)):=by
 show AllLe _ _
 exact ⟨.refl _,.dat,.dat,.dat,AllLe.refl _⟩
theorem qWu (a:Aut) (ha:RollOk a) (hm:1≤a.secs.length∧a.secs.length < 8) (day:Int) (hday:0≤day∧day≤73048):Spec Tryz.prog 17 [qEp a,.d (.int .i64 day)] [] (fun r h'=>r=.tup [qEp (qZg a day),.d (.int .i64 0)]∧h'=[]):=by
 rw [rollF_eq]
 have hseed:=ha.ok.seed
 have hcp:=qQi a ⟨by have:=ha.len.1;omega,by have:=ha.len.2.1;omega,by omega,ha.len.2.2.1,ha.len.2.2.2,by omega⟩
 have hnx:=ha.next
 have hro:=rootF_ok ha.ok (by omega) day
 have hrt:=qSz a ha.ok (by omega) ⟨by omega,ha.len.1⟩ day hday
 have hl0:=encNs'_len a.secs
 have hll:=ha.len.2.1
 obtain ⟨m,hm0⟩:∃ m,a.secs.length=m:=⟨_,rfl⟩
 have hlk:(qCv a day).links=a.links:=rfl
 rw [hm0] at hro hm hl0
 generalize qCv a day=A1 at hro hrt hlk ⊢
 obtain ⟨hok1,hs1,hn1⟩:=hro
 have hkm:1≤A1.secs.getD m 0∧A1.secs.getD m 0 < qG:=by
  have:=hok1.last (by omega)
  rw [hs1] at this
  exact this
 have hkm1:1≤A1.secs.getD (m-1) 0∧A1.secs.getD (m-1) 0 < qG:=by
  have:A1.secs.getD (m-1) 0=A1.secs[m-1]'(by omega):=by simp [show m-1 < A1.secs.length by omega]
  rw [this]
  exact hok1.secs _ (List.getElem_mem _)
 have his:=qIp A1 2 m (m+1) (A1.secs.getD m 0) day 1825 5475 (by omega) (by omega) hkm hday (by omega) hkm1
  (certF_chk hok1.sta (by have:=hok1.next;omega) (by omega) (by omega) (by omega) ⟨fun h=>by omega,fun h=>by omega⟩ hkm hday (by omega))
 have hlf:=linkF_eq A1 m hs1 day
 have hlo:=linkF_ok hok1 (by omega) day
 rw [certF_N] at his
 generalize qBr (A1.secs.getD (m-1) 0) (qEo A1.sta A1.next 2 m (m+1) (A1.secs.getD m 0) day 1825 5475)=c1 at his hlf
 have hct:=qLy (qHq A1 day) hlo.1 (by rw [hlo.2.2];omega) (by rw [hlo.2.1];omega) day hday
 generalize qBq (qHq A1 day) day=A3 at hct ⊢
 rw [hlf] at hct
 clear hlf hlo
 have hat:=encNs'_at (l:=A1.secs) (i:=m) (by omega)
 generalize A1.secs.getD m 0=km at his hat
 have hl1:(encNs' A1.secs).length=m+1:=by rw [encNs'_len,hs1]
 have hll1:(qBb A1.links).length≤100:=by rw [encNls_len,hlk];exact hll
 have hsn:=encNls_snoc A1.links c1
 have en:IntKind.i64.wrap (((m+1:Nat):Int)-1)=(m:Int):=by rw [qAf (by omega)];omega
 clear hkm hkm1 hok1
 obtain ⟨sta,roots,links,secs,signer,lister,sk,lk,next,list,rev,defs,seed⟩:=A1
 simp only at *
 refine qAb hT Tryz.func17 rfl rfl rfl rfl ?_;intro E hE
 refine qAj (qAj (qAj (qAj (qAj (qAj ?_)))))
 refine qAk (qAg ?_)
 refine qAd (boxAt_ok (i0:=0) (cs:=qAe a) rfl rfl rfl) rfl ?_
 refine qAd (allocAt_ok (i0:=4) (i:=tiA) hT rfl tiA_find rfl) rfl ?_
 refine ww ?_
 refine qAa rfl (fun q1=>?_) (fun q1=>?_)
 ·exact absurd q1 (by rw [hl0];simp;omega)
 refine ww ?_
 refine qAa rfl (fun q2=>?_) (fun q2=>?_)
 ·exact absurd q2 (by simp;omega)
 refine ww ?_
 refine qAa rfl (fun q3=>?_) (fun q3=>?_)
 ·exact absurd q3 (by rw [hl0];simp;omega)
 refine wwe ?_
 refine qAk (qAg ?_)
 refine qAd (qBy (i:=0) (off:=0) hT rfl rfl rfl (L38 (C:=qAe a) rfl)) rfl ?_
 refine qAd (qBx (v:=.agg (vDo a 1 2 3)) (H':=[.row (qAe a),.right 1 (encNs' a.secs).length,.right 11 (qBb a.roots).length,.right 11 (qBb a.links).length,.row (qEc [] 0 (.sl 1 [] .full)),.room]) rfl rfl hcp [1,2,3] (by decide) rfl rfl rfl rfl rfl rfl) rfl ?_
 refine qCc (qBe (i:=0) (off:=0) hT rfl rfl rfl (S38 (C:=vDo a 1 2 3) rfl rfl)) (forceS_eq _ _) ?_
 refine qCi ?_
 refine qAo (l:=[(1,.d (.int .i64 day)),(2,.ptr 0 0),(4,.ptr 4 0)]) (h':=qKb a++[.row (qEc [] 0 (.sl 1 [] .full)),.room]) ⟨.refl _,.refl _,.refl _,trivial⟩ (HLe.refl _) ?_
 refine qAk (qAk (qAg ?_))
 refine wws ?_
 refine qAd (qBx (v:=.d (.int .i64 0)) (H':=qKb ⟨sta,roots,links,secs,signer,lister,sk,lk,next,list,rev,defs,seed⟩++[.row (qEc [] 0 (.sl 1 [] .full)),.room]) rfl rfl hrt [0,1,2,3] (by decide) rfl rfl rfl rfl rfl rfl) rfl ?_
 refine ww ?_
 refine qAa rfl (fun q4=>?_) (fun q4=>?_)
 ·exact absurd q4 (by simp)
 refine qBv ?_
 refine qAk (qAg ?_)
 refine wws ?_
 refine qAo (l:=[(1,.d (.int .i64 day)),(2,.ptr 0 0),(4,.ptr 4 0),(7,.d (.int .i64 ((m+1:Nat):Int)))]) (h':=qKb ⟨sta,roots,links,secs,signer,lister,sk,lk,next,list,rev,defs,seed⟩++[.row (qEc [] 0 (.sl 1 [] .full)),.room]) ⟨.refl _,.refl _,.refl _,.int (by rw [hl1]),trivial⟩ (HLe.refl _) ?_
 refine qAk (qAg ?_)
 refine wws ?_
 refine qAd (qAc (indexAddr_ok hT rfl rfl rfl rfl (by rw [en];omega) (by rw [en,Int.toNat_natCast];exact hat))) rfl ?_
 refine wws ?_
 rw [en]
 refine qAd (qBx (v:=.tup [qOy c1,.d (.int .i64 0)]) (H':=qKb ⟨sta,roots,links,secs,signer,lister,sk,lk,next+1,list,rev,defs,seed⟩++[.row (qEc [] 0 (.sl 1 [] .full)),.room]) rfl rfl his [0,1,2,3] (by decide) rfl rfl rfl rfl rfl rfl) rfl ?_
 refine wk hT rfl rfl ?_
 refine wk hT rfl rfl ?_
 refine wk hT rfl rfl ?_
 refine qAd (allocAt_ok (i0:=5) (i:=⟨.struct [(0,1,false),(1,1,false),(2,1,false),(3,1,false),(4,1,false),(5,1,false),(6,1,false),(7,1,false),(8,1,false),(9,2,true)],11,96,qBi nl0⟩) hT rfl rfl rfl) rfl ?_
 refine wws ?_
 refine qAo (l:=[(1,.d (.int .i64 day)),(2,.ptr 0 0),(4,.ptr 4 0),(8,.ptr 5 0),(9,.d (.int .i64 0))]) (h':=qKb ⟨sta,roots,links,secs,signer,lister,sk,lk,next+1,list,rev,defs,seed⟩++[.row (qEc [] 0 (.sl 1 [] .full)),.row (qBi c1)]) ⟨.refl _,.refl _,.refl _,.refl _,.refl _,trivial⟩ (HLe.refl _) ?_
 refine ww ?_
 refine qAa rfl (fun q5=>?_) (fun q5=>?_)
 ·exact absurd q5 (by simp)
 refine qBv ?_
 refine qAk (qAg ?_)
 refine wws ?_
 refine qAd (qAi (i:=3) (es2:=[qJh c1]) hT rfl rfl rfl rfl rfl rfl (by show ((qBb links).length+1)*(96+1)≤_;omega)) rfl ?_
 rw [← hsn]
 refine wws ?_
 refine qAo (l:=[(1,.d (.int .i64 day)),(2,.ptr 0 0),(4,.ptr 4 0)]) (h':=[.row (vDo ⟨sta,roots,links++[c1],secs,signer,lister,sk,lk,next+1,list,rev,defs,seed⟩ 1 2 3),.right 1 (encNs' secs).length,.right 11 (qBb roots).length,.right 11 (qBb (links++[c1])).length,.row (qEc [] 0 (.sl 1 [] .full)),.dead]) ⟨.refl _,.refl _,.refl _,trivial⟩ ⟨ObLe.refl _,ObLe.refl _,ObLe.refl _,ObLe.refl _,ObLe.refl _,trivial,trivial⟩ ?_
 refine qAk (qAk (qAg ?_))
 refine wws ?_
 refine qAd (qBx (v:=.d (.int .i64 0)) (H':=qKb A3++[.row (qEc [] 0 (.sl 1 [] .full)),.dead]) rfl rfl hct [0,1,2,3] (by decide) rfl rfl rfl rfl rfl rfl) rfl ?_
 refine ww ?_
 refine qAa rfl (fun q6=>?_) (fun q6=>?_)
 ·exact absurd q6 (by simp)
 refine qBv ?_
 refine qAo (l:=[(2,.ptr 0 0),(4,.ptr 4 0)]) (h':=[.row (qAe A3),.dead,.dead,.dead,.row (qEc [] 0 (.sl 1 [] .full)),.dead]) ⟨.refl _,.refl _,trivial⟩ ⟨autR_le A3,trivial,trivial,trivial,ObLe.refl _,trivial,trivial⟩ ?_
 refine qAk (qAg ?_)
 refine qAd (qBy (i:=0) (off:=0) hT rfl rfl rfl (L38 (C:=qAe A3) rfl)) rfl ?_
 refine qCc (qBe (i:=4) (off:=0) hT rfl rfl rfl (S38 (C:=qAe A3) rfl rfl)) (forceS_eq _ _) ?_
 refine ww ?_
 refine rq ⟨rfl,rfl⟩ rfl (.refl _)
end Tdoc
namespace Tdoc
open Go Go.Proofs
def vAe (li key:Dat) (p:Per) (m0 m1:List (List Dat)):List AV:=[.d li,.d key]++chC p m0 m1
def qRg:List AV:=[.sl 1 [] .full,.d (.str [])]++(vJy++[.sl 1 [] .full,.sl 1 [] .full,.sl 1 [] .full]++vJe)
abbrev tiD:TI:=⟨.struct [(0,1,false),(1,1,false),(2,60,true)],62,856,qRg⟩
theorem tiD_find:T.find 71=some tiD:=rfl
theorem S62 {C D:List AV} (h1:D.length=62) (h2:C.length=62):qHh T 71 D 0 (.agg C)=some C:=storeA_agg tiD_find h2 (by rw [h1];exact Nat.le_refl _) (setRun_full (by rw [h1,h2]))
theorem vGh (li key:Dat) (p:Per) (m0 m1:List (List Dat)):qTz T 71 [(0,.d li),(1,.d key),(2,.agg (chC p m0 m1))]=some (.agg (vAe li key p m0 m1)):=by
 kernel_rfl
def wM (hr:Int) (x1 x2 x3 x4 x5 li key inf grp sec root apps:AV) (zc:List AV):List AV:=wC hr (.ptr 0 0) x1 x2 x3 x4 x5 li key inf grp sec root apps zc
def wM0 (hr:Int):List AV:=wM hr (.sl 1 [] .full) (.sl 1 [] .full) (.sl 1 [] .full) (.d (.int .i64 0)) (.d (.int .i64 0)) (.sl 1 [] .full) (.d (.str [])) (.sl 5 [] .full) (.sl 1 [] .full) (.sl 1 [] .full) (.sl 5 [] .full) (.sl 2 [] .full) zC0
def wK (hr:Int) (x1 x2 x3 x4 x5 li key inf root apps:Dat) (G1 G2 G3 G4 G5 SO:List (List Dat)):Nat→List AV
 | 0=>wM0 hr
 | 1=>wM hr (.d x1) (.d x2) (.d x3) (.d x4) (.d x5) (.sl 1 [] .full) (.d (.str [])) (.sl 5 [] .full) (.sl 1 [] .full) (.sl 1 [] .full) (.sl 5 [] .full) (.sl 2 [] .full) zC0
 | 2=>wM hr (.d x1) (.d x2) (.d x3) (.d x4) (.d x5) (.d li) (.d key) (.sl 5 [] .full) (.sl 1 [] .full) (.sl 1 [] .full) (.sl 5 [] .full) (.sl 2 [] .full) (zDM.map .d)
 | 3=>wM hr (.d x1) (.d x2) (.d x3) (.d x4) (.d x5) (.d li) (.d key) (.d inf) (.sl 1 [] .full) (.sl 1 [] .full) (.sl 5 [] .full) (.sl 2 [] .full) (zDM.map .d)
 | 4=>wM hr (.d x1) (.d x2) (.d x3) (.d x4) (.d x5) (.d li) (.d key) (.d inf) (.d (.sl 1 [[.sl 1 G1],[.sl 1 G2],[.sl 1 G3],[.sl 1 G4],[.sl 1 G5]])) (.sl 1 [] .full) (.sl 5 [] .full) (.sl 2 [] .full) (zDM.map .d)
 | 5=>wM hr (.d x1) (.d x2) (.d x3) (.d x4) (.d x5) (.d li) (.d key) (.d inf) (.d (.sl 1 [[.sl 1 G1],[.sl 1 G2],[.sl 1 G3],[.sl 1 G4],[.sl 1 G5]])) (.d (.sl 1 SO)) (.sl 5 [] .full) (.sl 2 [] .full) (zDM.map .d)
 | _=>wM hr (.d x1) (.d x2) (.d x3) (.d x4) (.d x5) (.d li) (.d key) (.d inf) (.d (.sl 1 [[.sl 1 G1],[.sl 1 G2],[.sl 1 G3],[.sl 1 G4],[.sl 1 G5]])) (.d (.sl 1 SO)) (.d root) (.d apps) (zDM.map .d)
def aK2 (a b:Aut):Nat→Aut
 | 0=>a
 | _=>b
theorem qZp (hr:Int) (x1 x2 x3 x4 x5 li key inf root apps:Dat) (G1 G2 G3 G4 G5 SO M0 M1:List (List Dat)) (a b:Aut) (p:Per) (hdf:a.defs=[]) (hdg:b.defs=[]) (hsc:1≤a.secs.length) (hln:a.roots.length≤100∧a.links.length≤100∧a.secs.length≤100∧a.rev.length≤1000000∧a.seed.length≤1000) (hdt:a.signer.frm≤40010∧40010≤a.signer.unt)
  (s0:Spec Tryz.prog 31 [.ptr 0 0] [.row (wZ hr),.row (qAe a)] (fun r h'=>r=.d (.int .i64 0)∧h'=[.row (wE hr x1 x2 x3 x4 x5 (.sl 1 [] .full) (.d (.str [])) (.sl 5 [] .full) (.sl 1 [] .full) (.sl 1 [] .full) (.sl 5 [] .full) (.sl 2 [] .full) zC0),.row (qAe b)]))
  (s1:Spec Tryz.prog 32 [.ptr 0 0] [.row (wE hr x1 x2 x3 x4 x5 (.sl 1 [] .full) (.d (.str [])) (.sl 5 [] .full) (.sl 1 [] .full) (.sl 1 [] .full) (.sl 5 [] .full) (.sl 2 [] .full) zC0),.row (qAe b)] (fun r h'=>r=.d (.int .i64 0)∧h'=[.row (wE hr x1 x2 x3 x4 x5 (.d li) (.d key) (.sl 5 [] .full) (.sl 1 [] .full) (.sl 1 [] .full) (.sl 5 [] .full) (.sl 2 [] .full) (zDM.map .d)),.row (qAe b)]))
  (s2:Spec Tryz.prog 33 [.ptr 0 0] [.row (wE hr x1 x2 x3 x4 x5 (.d li) (.d key) (.sl 5 [] .full) (.sl 1 [] .full) (.sl 1 [] .full) (.sl 5 [] .full) (.sl 2 [] .full) (zDM.map .d)),.row (qAe b)] (fun r h'=>r=.d (.int .i64 0)∧h'=[.row (wE hr x1 x2 x3 x4 x5 (.d li) (.d key) (.d inf) (.sl 1 [] .full) (.sl 1 [] .full) (.sl 5 [] .full) (.sl 2 [] .full) (zDM.map .d)),.row (qAe b)]))
  (s3:Spec Tryz.prog 34 [.ptr 0 0] [.row (wE hr x1 x2 x3 x4 x5 (.d li) (.d key) (.d inf) (.sl 1 [] .full) (.sl 1 [] .full) (.sl 5 [] .full) (.sl 2 [] .full) (zDM.map .d)),.row (qAe b)] (fun r h'=>r=.d (.int .i64 0)∧h'=[.row (wE hr x1 x2 x3 x4 x5 (.d li) (.d key) (.d inf) (.d (.sl 1 [[.sl 1 G1],[.sl 1 G2],[.sl 1 G3],[.sl 1 G4],[.sl 1 G5]])) (.sl 1 [] .full) (.sl 5 [] .full) (.sl 2 [] .full) (zDM.map .d)),.row (qAe b)]))
  (s4:Spec Tryz.prog 35 [.ptr 0 0] [.row (wE hr x1 x2 x3 x4 x5 (.d li) (.d key) (.d inf) (.d (.sl 1 [[.sl 1 G1],[.sl 1 G2],[.sl 1 G3],[.sl 1 G4],[.sl 1 G5]])) (.sl 1 [] .full) (.sl 5 [] .full) (.sl 2 [] .full) (zDM.map .d)),.row (qAe b)] (fun r h'=>r=.d (.int .i64 0)∧h'=[.row (wE hr x1 x2 x3 x4 x5 (.d li) (.d key) (.d inf) (.d (.sl 1 [[.sl 1 G1],[.sl 1 G2],[.sl 1 G3],[.sl 1 G4],[.sl 1 G5]])) (.d (.sl 1 SO)) (.sl 5 [] .full) (.sl 2 [] .full) (zDM.map .d)),.row (qAe b)]))
  (s5:Spec Tryz.prog 36 [.ptr 0 0] [.row (wE hr x1 x2 x3 x4 x5 (.d li) (.d key) (.d inf) (.d (.sl 1 [[.sl 1 G1],[.sl 1 G2],[.sl 1 G3],[.sl 1 G4],[.sl 1 G5]])) (.d (.sl 1 SO)) (.sl 5 [] .full) (.sl 2 [] .full) (zDM.map .d)),.row (qAe b)] (fun r h'=>r=.d (.int .i64 0)∧h'=[.row (wE hr x1 x2 x3 x4 x5 (.d li) (.d key) (.d inf) (.d (.sl 1 [[.sl 1 G1],[.sl 1 G2],[.sl 1 G3],[.sl 1 G4],[.sl 1 G5]])) (.d (.sl 1 SO)) (.d root) (.d apps) (zDM.map .d)),.row (qAe b)]))
  (s6:Spec Tryz.prog 38 [.ptr 0 0] [.row (wE hr x1 x2 x3 x4 x5 (.d li) (.d key) (.d inf) (.d (.sl 1 [[.sl 1 G1],[.sl 1 G2],[.sl 1 G3],[.sl 1 G4],[.sl 1 G5]])) (.d (.sl 1 SO)) (.d root) (.d apps) (zDM.map .d)),.row (qAe b)] (fun r h'=>r=.agg (peC hr x3 x4 x5 key inf root apps)∧h'=[.row (wE hr x1 x2 x3 x4 x5 (.d li) (.d key) (.d inf) (.d (.sl 1 [[.sl 1 G1],[.sl 1 G2],[.sl 1 G3],[.sl 1 G4],[.sl 1 G5]])) (.d (.sl 1 SO)) (.d root) (.d apps) (zDM.map .d)),.row (qAe b)]))
  (hle:AV.le (.agg (peC hr x3 x4 x5 key inf root apps)) (qQt p))
  (s7:Spec Tryz.prog 37 [qQt p] [] (fun r h'=>r=.tup [.agg (chC p M0 M1),.d (.int .i64 0)]∧h'=[])) :
  Spec Tryz.prog 11 [qEp a,.agg (qJv 44000 (.d (.sl 1 qFy)) true (.d (.sl 5 (qDf hr))) 30000),.d (.int .i64 40010)] [] (fun r h'=>r=.tup [qEp b,.agg (vAe li key p M0 M1),.d (.int .i64 0)]∧h'=[]):=by
 have hd:=defects0 44000 qFy true (qDf hr) 30000 a.signer.num
 have hdoc:=qXc numM (by decide) (by decide)
 have hcp:=qQi a ⟨by omega,by omega,by omega,by omega,by rw [hdf];simp,by omega⟩
 have hsl:=encNs'_len a.secs
 have hdl:(qHk a.defs).length=0:=by rw [hdf];rfl
 have hdl2:(qHk b.defs).length=0:=by rw [hdg];rfl
 clear hdf hdg
 obtain ⟨FN,hFN⟩:∃ FN:List AV,FN=[.fn (.func 31) [.ptr 7 0] [],.fn (.func 32) [.ptr 7 0] [],.fn (.func 33) [.ptr 7 0] [],.fn (.func 34) [.ptr 7 0] [],.fn (.func 35) [.ptr 7 0] [],.fn (.func 36) [.ptr 7 0] []]:=⟨_,rfl⟩
 refine qAb hT Tryz.func11 rfl rfl rfl rfl ?_;intro E hE
 refine qAj (qAj (qAj (qAj (qAj (qAj (qAj (qAj (qAj (qAj ?_)))))))))
 refine qAk (qAg ?_)
 refine qAd (boxAt_ok (i0:=0) (cs:=qAe a) rfl rfl rfl) rfl ?_
 refine qAd (boxAt_ok (i0:=6) (cs:=qJv 44000 (.d (.sl 1 qFy)) true (.d (.sl 5 (qDf hr))) 30000) rfl rfl rfl) rfl ?_
 refine qAd (allocAt_ok (i0:=4) (i:=tiA) hT rfl tiA_find rfl) rfl ?_
 refine qAd (allocAt_ok (i0:=5) (i:=tiD) hT rfl tiD_find rfl) rfl ?_
 refine wws ?_
 refine qAo (l:=[(2,.d (.int .i64 40010)),(3,.ptr 0 0),(4,.ptr 6 0),(6,.ptr 4 0),(7,.ptr 5 0)]) (h':=[.row (qAe a),.room,.room,.room,.row (qEc [] 0 (.sl 1 [] .full)),.row qRg,.row (qJv 44000 (.d (.sl 1 qFy)) true (.d (.sl 5 (qDf hr))) 30000),.room,.room,.room]) ⟨.refl _,.refl _,.refl _,.refl _,.refl _,trivial⟩ (HLe.refl _) ?_
 refine qAk (qAg ?_)
 refine wws ?_
 refine wwc hd ?_
 refine wws ?_
 refine wwn ?_
 refine qAa rfl (fun c1=>?_) (fun c1=>?_)
 ·exfalso
  rw [hsl] at c1
  generalize a.secs.length=n at *
  simp at c1
  omega
 refine wwn ?_
 refine qAa rfl (fun c2=>?_) (fun c2=>?_)
 ·exact absurd c2 (by simp)
 refine wwn ?_
 refine qAa rfl (fun c3=>?_) (fun c3=>?_)
 ·exact absurd c3 (by simp;omega)
 refine wwn ?_
 refine wwc hdoc ?_
 refine wwn ?_
 refine qAa rfl (fun c4=>?_) (fun c4=>?_)
 ·exact absurd c4 (by simp)
 refine wwn ?_
 rw [hdl]
 refine qAa rfl (fun c5=>?_) (fun c5=>?_)
 ·exact absurd c5 (by decide)
 refine wwn ?_
 refine qAa rfl (fun c6=>?_) (fun c6=>?_)
 ·exact absurd c6 (by simp)
 refine qAo (l:=[(2,.d (.int .i64 40010)),(3,.ptr 0 0),(4,.ptr 6 0),(6,.ptr 4 0),(7,.ptr 5 0),(9,.nils)]) (h':=[.row (qAe a),.room,.room,.room,.row (qEc [] 0 (.sl 1 [] .full)),.row qRg,.row (qJv 44000 (.d (.sl 1 qFy)) true (.d (.sl 5 (qDf hr))) 30000),.room,.room,.room]) ⟨.refl _,.refl _,.refl _,.refl _,.refl _,.refl _,trivial⟩ (HLe.refl _) ?_
 refine wwe ?_
 refine qAk (qAg ?_)
 refine qAd (qBy (i:=0) (off:=0) hT rfl rfl rfl (L38 (C:=qAe a) rfl)) rfl ?_
 refine qAd (qBx (v:=.agg (vDo a 1 2 3)) (H':=[.row (qAe a),.right 1 (encNs' a.secs).length,.right 11 (qBb a.roots).length,.right 11 (qBb a.links).length,.row (qEc [] 0 (.sl 1 [] .full)),.row qRg,.row (qJv 44000 (.d (.sl 1 qFy)) true (.d (.sl 5 (qDf hr))) 30000),.room,.room,.room]) rfl rfl hcp [1,2,3] (by decide) rfl rfl rfl rfl rfl rfl) rfl ?_
 refine qCc (qBe (i:=0) (off:=0) hT rfl rfl rfl (S38 (C:=vDo a 1 2 3) rfl rfl)) (forceS_eq _ _) ?_
 refine qCi ?_
 refine qAo (l:=[(2,.d (.int .i64 40010)),(3,.ptr 0 0),(4,.ptr 6 0),(6,.ptr 4 0),(7,.ptr 5 0),(9,.nils)]) (h':=[.row (qAe a),.dead,.dead,.dead,.row (qEc [] 0 (.sl 1 [] .full)),.row qRg,.row (qJv 44000 (.d (.sl 1 qFy)) true (.d (.sl 5 (qDf hr))) 30000),.room,.room,.room]) ⟨.refl _,.refl _,.refl _,.refl _,.refl _,.refl _,trivial⟩ ⟨autR_le a,trivial,trivial,trivial,ObLe.refl _,ObLe.refl _,ObLe.refl _,ObLe.refl _,ObLe.refl _,ObLe.refl _,trivial⟩ ?_
 refine qAk (qAg ?_)
 refine wk hT rfl rfl ?_
 refine wk hT rfl rfl ?_
 refine wk hT rfl rfl ?_
 refine qAd (boxAt_ok (i0:=7) (cs:=wM0 hr) rfl rfl rfl) rfl ?_
 refine wws ?_
 refine qAo (l:=[(3,.ptr 0 0),(6,.ptr 4 0),(7,.ptr 5 0),(9,.nils),(11,.ptr 7 0)]) (h':=[.row (qAe a),.dead,.dead,.dead,.row (qEc [] 0 (.sl 1 [] .full)),.row qRg,.row (qJv 44000 (.d (.sl 1 qFy)) true (.d (.sl 5 (qDf hr))) 30000),.row (wM0 hr),.room,.room]) ⟨.refl _,.refl _,.refl _,.refl _,.refl _,trivial⟩ (HLe.refl _) ?_
 refine qAk (qAk (qAg ?_))
 refine wws ?_
 refine qAd (buildRowAt_ok (i0:=8) hT rfl rfl rfl) rfl ?_
 refine wws ?_
 refine qAo (l:=[(3,.ptr 0 0),(6,.ptr 4 0),(7,.ptr 5 0),(9,.nils),(11,.ptr 7 0),(92,.row 8 0 6 6),(93,.d (.int .i64 6)),(94,.d (.int .i64 0))]) (h':=[.row (qAe a),.dead,.dead,.dead,.row (qEc [] 0 (.sl 1 [] .full)),.row qRg,.row (qJv 44000 (.d (.sl 1 qFy)) true (.d (.sl 5 (qDf hr))) 30000),.row (wK hr x1 x2 x3 x4 x5 li key inf root apps G1 G2 G3 G4 G5 SO 0),.row FN,.room]) ⟨.refl _,.refl _,.refl _,.refl _,.refl _,.refl _,.refl _,.refl _,trivial⟩ (by rw [hFN];exact HLe.refl _) ?_
 refine qEm ?_
 refine qAp (ι:=Nat) (fun i=>[(3,.ptr 0 0),(6,.ptr 4 0),(7,.ptr 5 0),(9,.nils),(11,.ptr 7 0),(92,.row 8 0 6 6),(93,.d (.int .i64 6)),(94,.d (.int .i64 (i:Int)))]) (fun i=>[.row (qAe (aK2 a b i)),.dead,.dead,.dead,.row (qEc [] 0 (.sl 1 [] .full)),.row qRg,.row (qJv 44000 (.d (.sl 1 qFy)) true (.d (.sl 5 (qDf hr))) 30000),.row (wK hr x1 x2 x3 x4 x5 li key inf root apps G1 G2 G3 G4 G5 SO i),.row FN,.room]) (fun i=>i≤6) (fun i=>6-i) 0 (by omega)
  ⟨.refl _,.refl _,.refl _,.refl _,.refl _,.refl _,.refl _,.refl _,trivial⟩ (HLe.refl _) ?_
 intro i hi
 rcases (by omega:i=0∨i=1∨i=2∨i=3∨i=4∨i=5∨i=6) with rfl | rfl | rfl | rfl | rfl | rfl | rfl
 ·refine wwn ?_
  refine qAa rfl (fun q=>?_) (fun q=>absurd q (by decide))
  refine wwn ?_
  refine qAd (qAc (rowAddr_ok (sz:=1) hT rfl rfl rfl rfl ⟨by decide,by decide⟩)) rfl ?_
  rw [hFN]
  refine wwn ?_
  refine qAd (qBx (v:=.d (.int .i64 0)) (H':=[.row (qAe (aK2 a b 1)),.dead,.dead,.dead,.row (qEc [] 0 (.sl 1 [] .full)),.row qRg,.row (qJv 44000 (.d (.sl 1 qFy)) true (.d (.sl 5 (qDf hr))) 30000),.row (wK hr x1 x2 x3 x4 x5 li key inf root apps G1 G2 G3 G4 G5 SO 1),.row [.fn (.func 31) [.ptr 7 0] [],.fn (.func 32) [.ptr 7 0] [],.fn (.func 33) [.ptr 7 0] [],.fn (.func 34) [.ptr 7 0] [],.fn (.func 35) [.ptr 7 0] [],.fn (.func 36) [.ptr 7 0] []],.room]) rfl rfl s0 [7,0] (by decide) rfl rfl rfl rfl rfl rfl) rfl ?_
  refine wwn ?_
  refine qAa rfl (fun q=>absurd q (by decide)) (fun q=>?_)
  refine wwn ?_
  exact ⟨1,by omega,by omega,⟨.refl _,.refl _,.refl _,.refl _,.refl _,.refl _,.refl _,.refl _,trivial⟩,HLe.refl _⟩
 ·refine wwn ?_
  refine qAa rfl (fun q=>?_) (fun q=>absurd q (by decide))
  refine wwn ?_
  refine qAd (qAc (rowAddr_ok (sz:=1) hT rfl rfl rfl rfl ⟨by decide,by decide⟩)) rfl ?_
  rw [hFN]
  refine wwn ?_
  refine qAd (qBx (v:=.d (.int .i64 0)) (H':=[.row (qAe (aK2 a b 2)),.dead,.dead,.dead,.row (qEc [] 0 (.sl 1 [] .full)),.row qRg,.row (qJv 44000 (.d (.sl 1 qFy)) true (.d (.sl 5 (qDf hr))) 30000),.row (wK hr x1 x2 x3 x4 x5 li key inf root apps G1 G2 G3 G4 G5 SO 2),.row [.fn (.func 31) [.ptr 7 0] [],.fn (.func 32) [.ptr 7 0] [],.fn (.func 33) [.ptr 7 0] [],.fn (.func 34) [.ptr 7 0] [],.fn (.func 35) [.ptr 7 0] [],.fn (.func 36) [.ptr 7 0] []],.room]) rfl rfl s1 [7,0] (by decide) rfl rfl rfl rfl rfl rfl) rfl ?_
  refine wwn ?_
  refine qAa rfl (fun q=>absurd q (by decide)) (fun q=>?_)
  refine wwn ?_
  exact ⟨2,by omega,by omega,⟨.refl _,.refl _,.refl _,.refl _,.refl _,.refl _,.refl _,.refl _,trivial⟩,HLe.refl _⟩
 ·refine wwn ?_
  refine qAa rfl (fun q=>?_) (fun q=>absurd q (by decide))
  refine wwn ?_
  refine qAd (qAc (rowAddr_ok (sz:=1) hT rfl rfl rfl rfl ⟨by decide,by decide⟩)) rfl ?_
  rw [hFN]
  refine wwn ?_
  refine qAd (qBx (v:=.d (.int .i64 0)) (H':=[.row (qAe (aK2 a b 3)),.dead,.dead,.dead,.row (qEc [] 0 (.sl 1 [] .full)),.row qRg,.row (qJv 44000 (.d (.sl 1 qFy)) true (.d (.sl 5 (qDf hr))) 30000),.row (wK hr x1 x2 x3 x4 x5 li key inf root apps G1 G2 G3 G4 G5 SO 3),.row [.fn (.func 31) [.ptr 7 0] [],.fn (.func 32) [.ptr 7 0] [],.fn (.func 33) [.ptr 7 0] [],.fn (.func 34) [.ptr 7 0] [],.fn (.func 35) [.ptr 7 0] [],.fn (.func 36) [.ptr 7 0] []],.room]) rfl rfl s2 [7,0] (by decide) rfl rfl rfl rfl rfl rfl) rfl ?_
  refine wwn ?_
  refine qAa rfl (fun q=>absurd q (by decide)) (fun q=>?_)
  refine wwn ?_
  exact ⟨3,by omega,by omega,⟨.refl _,.refl _,.refl _,.refl _,.refl _,.refl _,.refl _,.refl _,trivial⟩,HLe.refl _⟩
 ·refine wwn ?_
  refine qAa rfl (fun q=>?_) (fun q=>absurd q (by decide))
  refine wwn ?_
  refine qAd (qAc (rowAddr_ok (sz:=1) hT rfl rfl rfl rfl ⟨by decide,by decide⟩)) rfl ?_
  rw [hFN]
  refine wwn ?_
  refine qAd (qBx (v:=.d (.int .i64 0)) (H':=[.row (qAe (aK2 a b 4)),.dead,.dead,.dead,.row (qEc [] 0 (.sl 1 [] .full)),.row qRg,.row (qJv 44000 (.d (.sl 1 qFy)) true (.d (.sl 5 (qDf hr))) 30000),.row (wK hr x1 x2 x3 x4 x5 li key inf root apps G1 G2 G3 G4 G5 SO 4),.row [.fn (.func 31) [.ptr 7 0] [],.fn (.func 32) [.ptr 7 0] [],.fn (.func 33) [.ptr 7 0] [],.fn (.func 34) [.ptr 7 0] [],.fn (.func 35) [.ptr 7 0] [],.fn (.func 36) [.ptr 7 0] []],.room]) rfl rfl s3 [7,0] (by decide) rfl rfl rfl rfl rfl rfl) rfl ?_
  refine wwn ?_
  refine qAa rfl (fun q=>absurd q (by decide)) (fun q=>?_)
  refine wwn ?_
  exact ⟨4,by omega,by omega,⟨.refl _,.refl _,.refl _,.refl _,.refl _,.refl _,.refl _,.refl _,trivial⟩,HLe.refl _⟩
 ·refine wwn ?_
  refine qAa rfl (fun q=>?_) (fun q=>absurd q (by decide))
  refine wwn ?_
  refine qAd (qAc (rowAddr_ok (sz:=1) hT rfl rfl rfl rfl ⟨by decide,by decide⟩)) rfl ?_
  rw [hFN]
  refine wwn ?_
  refine qAd (qBx (v:=.d (.int .i64 0)) (H':=[.row (qAe (aK2 a b 5)),.dead,.dead,.dead,.row (qEc [] 0 (.sl 1 [] .full)),.row qRg,.row (qJv 44000 (.d (.sl 1 qFy)) true (.d (.sl 5 (qDf hr))) 30000),.row (wK hr x1 x2 x3 x4 x5 li key inf root apps G1 G2 G3 G4 G5 SO 5),.row [.fn (.func 31) [.ptr 7 0] [],.fn (.func 32) [.ptr 7 0] [],.fn (.func 33) [.ptr 7 0] [],.fn (.func 34) [.ptr 7 0] [],.fn (.func 35) [.ptr 7 0] [],.fn (.func 36) [.ptr 7 0] []],.room]) rfl rfl s4 [7,0] (by decide) rfl rfl rfl rfl rfl rfl) rfl ?_
  refine wwn ?_
  refine qAa rfl (fun q=>absurd q (by decide)) (fun q=>?_)
  refine wwn ?_
  exact ⟨5,by omega,by omega,⟨.refl _,.refl _,.refl _,.refl _,.refl _,.refl _,.refl _,.refl _,trivial⟩,HLe.refl _⟩
 ·refine wwn ?_
  refine qAa rfl (fun q=>?_) (fun q=>absurd q (by decide))
  refine wwn ?_
  refine qAd (qAc (rowAddr_ok (sz:=1) hT rfl rfl rfl rfl ⟨by decide,by decide⟩)) rfl ?_
  rw [hFN]
  refine wwn ?_
  refine qAd (qBx (v:=.d (.int .i64 0)) (H':=[.row (qAe (aK2 a b 6)),.dead,.dead,.dead,.row (qEc [] 0 (.sl 1 [] .full)),.row qRg,.row (qJv 44000 (.d (.sl 1 qFy)) true (.d (.sl 5 (qDf hr))) 30000),.row (wK hr x1 x2 x3 x4 x5 li key inf root apps G1 G2 G3 G4 G5 SO 6),.row [.fn (.func 31) [.ptr 7 0] [],.fn (.func 32) [.ptr 7 0] [],.fn (.func 33) [.ptr 7 0] [],.fn (.func 34) [.ptr 7 0] [],.fn (.func 35) [.ptr 7 0] [],.fn (.func 36) [.ptr 7 0] []],.room]) rfl rfl s5 [7,0] (by decide) rfl rfl rfl rfl rfl rfl) rfl ?_
  refine wwn ?_
  refine qAa rfl (fun q=>absurd q (by decide)) (fun q=>?_)
  refine wwn ?_
  exact ⟨6,by omega,by omega,⟨.refl _,.refl _,.refl _,.refl _,.refl _,.refl _,.refl _,.refl _,trivial⟩,HLe.refl _⟩
 ·refine wwn ?_
  refine qAa rfl (fun q=>absurd q (by decide)) (fun q=>?_)
  refine qAo (l:=[(3,.ptr 0 0),(6,.ptr 4 0),(7,.ptr 5 0),(9,.nils),(11,.ptr 7 0)]) (h':=[.row (qAe b),.dead,.dead,.dead,.row (qEc [] 0 (.sl 1 [] .full)),.row qRg,.dead,.row (wK hr x1 x2 x3 x4 x5 li key inf root apps G1 G2 G3 G4 G5 SO 6),.dead,.room]) ⟨.refl _,.refl _,.refl _,.refl _,.refl _,trivial⟩ ⟨ObLe.refl _,trivial,trivial,trivial,ObLe.refl _,ObLe.refl _,trivial,ObLe.refl _,trivial,ObLe.refl _,trivial⟩ ?_
  refine wwe ?_
  refine qAk (qAg ?_)
  refine wws ?_
  refine qAd (qBx (v:=.agg (peC hr x3 x4 x5 key inf root apps)) (H':=[.row (qAe b),.dead,.dead,.dead,.row (qEc [] 0 (.sl 1 [] .full)),.row qRg,.dead,.row (wK hr x1 x2 x3 x4 x5 li key inf root apps G1 G2 G3 G4 G5 SO 6),.dead,.room]) rfl rfl s6 [7,0] (by decide) rfl rfl rfl rfl rfl rfl) rfl ?_
  refine qAd (qKa rfl rfl s7 rfl (by exact ⟨hle,trivial⟩) rfl rfl) rfl ?_
  refine wk hT rfl rfl ?_
  refine wk hT rfl rfl ?_
  refine wk hT rfl rfl ?_
  refine qAd (allocAt_ok (i0:=9) (i:=tiC) hT rfl tiC_find rfl) rfl ?_
  refine qCc (qBe (i:=9) (off:=0) hT rfl rfl rfl (S60 (C:=chC p M0 M1) rfl rfl)) (forceS_eq _ _) ?_
  refine wws ?_
  refine qAo (l:=[(3,.ptr 0 0),(6,.ptr 4 0),(7,.ptr 5 0),(9,.nils),(11,.ptr 7 0),(10,.d (.int .i64 0)),(15,.ptr 9 0)]) (h':=[.row (qAe b),.dead,.dead,.dead,.row (qEc [] 0 (.sl 1 [] .full)),.row qRg,.dead,.row (wK hr x1 x2 x3 x4 x5 li key inf root apps G1 G2 G3 G4 G5 SO 6),.dead,.row (chC p M0 M1)]) ⟨.refl _,.refl _,.refl _,.refl _,.refl _,.refl _,.refl _,trivial⟩ (HLe.refl _) ?_
  refine wwn ?_
  refine qAa rfl (fun q=>absurd q (by decide)) (fun q=>?_)
  refine wwe ?_
  refine qAk (qAg ?_)
  refine wws ?_
  refine qAd (appendNone_ok hT rfl rfl rfl rfl rfl) rfl ?_
  refine wws ?_
  refine qAo (l:=[(3,.ptr 0 0),(6,.ptr 4 0),(7,.ptr 5 0),(11,.ptr 7 0),(15,.ptr 9 0)]) (h':=[.row (qAe b),.dead,.dead,.dead,.row (qEc [] 0 (.sl 1 [] .full)),.row qRg,.dead,.row (wK hr x1 x2 x3 x4 x5 li key inf root apps G1 G2 G3 G4 G5 SO 6),.dead,.row (chC p M0 M1)]) ⟨.refl _,.refl _,.refl _,.refl _,.refl _,trivial⟩ (HLe.refl _) ?_
  refine qAk (qAw (fun i=>bif Nat.beq i 0 then [0] else bif Nat.beq i 4||Nat.beq i 8 then [7] else bif Nat.beq i 9 then [9] else bif Nat.beq i 11 then [4] else bif Nat.beq i 12 then [5] else []) (fun i=>bif Nat.beq i 11 then [4] else bif Nat.beq i 12 then [5] else []) mixed (by kernel_rfl) ?_)
  refine qAm (v:=.agg (qAe b)) (os:=[]) (fun k hk1 hk2=>qBy (i:=0) (off:=0) hT rfl rfl ((hk2 0 List.mem_cons_self).trans rfl) (L38 (C:=qAe b) rfl)) rfl ?_
  refine qBo hT (fun _=>rfl) rfl rfl True.intro ?_
  refine qBo hT (fun _=>rfl) rfl rfl True.intro ?_
  refine qBo hT (fun _=>rfl) rfl rfl True.intro ?_
  refine qSj hT rfl rfl rfl rfl (by first | exact List.mem_cons_self | exact sm) rfl ?_
  refine qBo hT (fun _=>rfl) rfl rfl True.intro ?_
  refine qBo hT (fun _=>rfl) rfl rfl True.intro ?_
  refine qBo hT (fun _=>rfl) rfl rfl True.intro ?_
  refine qSj hT rfl rfl rfl rfl (by first | exact List.mem_cons_self | exact sm) rfl ?_
  refine qAm (v:=.agg (chC p M0 M1)) (os:=[]) (fun k hk1 hk2=>qBy (i:=9) (off:=0) hT rfl rfl ((hk2 9 List.mem_cons_self).trans rfl) (L60 (C:=chC p M0 M1) rfl)) rfl ?_
  refine qAm (v:=.agg (vAe li key p M0 M1)) (os:=[]) (fun k hk1 hk2=>qAc (qRq hT rfl (vGh li key p M0 M1))) rfl ?_
  refine qAm (v:=.any) (os:=[.row (qAe b)]) (fun k hk1 hk2=>qBe (i:=4) (off:=0) hT rfl rfl ((hk2 4 List.mem_cons_self).trans rfl) (S38 (C:=qAe b) rfl rfl)) rfl ?_
  refine qAm (v:=.any) (os:=[.row (vAe li key p M0 M1)]) (fun k hk1 hk2=>qBe (i:=5) (off:=0) hT rfl rfl ((hk2 5 List.mem_cons_self).trans rfl) (S62 (C:=vAe li key p M0 M1) rfl rfl)) rfl ?_
  refine wwg ?_
  refine qAo (l:=[(6,.ptr 4 0),(7,.ptr 5 0),(8,.d (.int .i64 0))]) (h':=[.dead,.dead,.dead,.dead,.row (qAe b),.row (vAe li key p M0 M1),.dead,.dead,.dead,.dead]) ⟨.refl _,.refl _,.refl _,trivial⟩ ⟨trivial,trivial,trivial,trivial,ObLe.refl _,ObLe.refl _,trivial,trivial,trivial,trivial,trivial⟩ ?_
  refine qUy ?_
  refine ⟨.tup [qEp b,.agg (vAe li key p M0 M1),.d (.int .i64 0)],.tup [qEp b,.agg (vAe li key p M0 M1),.d (.int .i64 0)],[],?_,fun _ _ h=>h,rfl,rfl,?_,rfl,rfl,rfl⟩
  ·kernel_rfl
  ·kernel_rfl
end Tdoc
namespace Tdoc
open Go Go.Proofs
theorem qSa (a:Aut) (ha:RollOk a∨a.secs=[]) (hl:a.secs.length≤100) (day:Int):Spec Tryz.prog 17 [qEp a,.d (.int .i64 day)] [] (fun r h'=>r=.tup [qEp (qVn a day).1,.d (.int .i64 (qVn a day).2)]∧h'=[]):=by
 have hl0:=encNs'_len a.secs
 rw [rollA_eq]
 by_cases h1:a.secs.length=0
 ·rw [if_pos h1]
  refine qAb hT Tryz.func17 rfl rfl rfl rfl ?_;intro E hE
  refine qAj (qAj (qAj (qAj (qAj (qAj ?_)))))
  refine qAk (qAg ?_)
  refine qAd (boxAt_ok (i0:=0) (cs:=qAe a) rfl rfl rfl) rfl ?_
  refine qAd (allocAt_ok (i0:=4) (i:=tiA) hT rfl tiA_find rfl) rfl ?_
  refine ww ?_
  refine qAa rfl (fun q1=>?_) (fun q1=>?_)
  ·refine ww ?_
   exact wwr
  ·exact absurd q1 (by rw [hl0,h1];simp)
 rw [if_neg h1]
 have ha:RollOk a:=ha.resolve_right (fun h=>h1 (by rw [h];rfl))
 by_cases h2:day < 0∨73048 < day
 ·rw [if_pos h2]
  refine qAb hT Tryz.func17 rfl rfl rfl rfl ?_;intro E hE
  refine qAj (qAj (qAj (qAj (qAj (qAj ?_)))))
  refine qAk (qAg ?_)
  refine qAd (boxAt_ok (i0:=0) (cs:=qAe a) rfl rfl rfl) rfl ?_
  refine qAd (allocAt_ok (i0:=4) (i:=tiA) hT rfl tiA_find rfl) rfl ?_
  refine ww ?_
  refine qAa rfl (fun q1=>?_) (fun q1=>?_)
  ·exact absurd q1 (by rw [hl0];simpa using h1)
  refine ww ?_
  refine qAa rfl (fun q2=>?_) (fun q2=>?_)
  ·refine ww ?_
   exact wwr
  ·exact absurd q2 (by simp;omega)
 rw [if_neg h2]
 by_cases h3:8≤a.secs.length
 ·rw [if_pos h3]
  refine qAb hT Tryz.func17 rfl rfl rfl rfl ?_;intro E hE
  refine qAj (qAj (qAj (qAj (qAj (qAj ?_)))))
  refine qAk (qAg ?_)
  refine qAd (boxAt_ok (i0:=0) (cs:=qAe a) rfl rfl rfl) rfl ?_
  refine qAd (allocAt_ok (i0:=4) (i:=tiA) hT rfl tiA_find rfl) rfl ?_
  refine ww ?_
  refine qAa rfl (fun q1=>?_) (fun q1=>?_)
  ·exact absurd q1 (by rw [hl0];simpa using h1)
  refine ww ?_
  refine qAa rfl (fun q2=>?_) (fun q2=>?_)
  ·exact absurd q2 (by simp;omega)
  refine ww ?_
  refine qAa rfl (fun q3=>?_) (fun q3=>?_)
  ·refine ww ?_
   exact wwr
  ·exact absurd q3 (by rw [hl0];simp;omega)
 rw [if_neg h3]
 exact qWu a ha (by omega) day (by omega)
end Tdoc
namespace Tdoc
open Go Go.Proofs
theorem linkRoot_eq (a:Aut) (day:Int) (h:1≤a.secs.length):qHq (qCv a day) day=⟨a.sta,a.roots++[qBr (qDr a.seed) (qEo a.sta a.next 1 (a.secs.length+1) (a.secs.length+1) (qDr a.seed) day 1825 5475)],
  a.links++[qBr (a.secs.getD (a.secs.length-1) 0) (qEo a.sta (a.next+1) 2 a.secs.length (a.secs.length+1) (qDr a.seed) day 1825 5475)],a.secs++[qDr a.seed],a.signer,a.lister,a.sk,a.lk,a.next+1+1,a.list,a.rev,a.defs,qAv a.seed⟩:=by
 rw [linkF_eq (qCv a day) a.secs.length (by simp [qCv]) day]
 have h1:(a.secs++[qDr a.seed]).getD (a.secs.length-1) 0=a.secs.getD (a.secs.length-1) 0:=by
  simp only [List.getD_eq_getElem?_getD];rw [List.getElem?_append_left (by omega)]
 have h2:(a.secs++[qDr a.seed]).getD a.secs.length 0=qDr a.seed:=by
  simp only [List.getD_eq_getElem?_getD];rw [List.getElem?_append_right (by omega),Nat.sub_self];rfl
 have e:(qCv a day).secs=a.secs++[qDr a.seed]:=rfl
 rw [e,h1,h2]
 rfl
theorem qPd (a:Aut) (ha:RollOk a) (hm:1≤a.secs.length∧a.secs.length < 8) (day:Int) (hday:0≤day∧day≤73048):Spec Tryz.prog 18 [qEp a,.d (.int .i64 day)] [] (fun r h'=>r=.tup [qEp (qZg a day),.d (.int .i64 0)]∧h'=[]):=by
 rw [rollF_eq]
 have hnx:=ha.next
 have hnx1:=ha.ok.next
 have hst:=ha.ok.sta
 have hlast:=ha.ok.last hm.1
 have hro:=rootF_ok ha.ok (by omega) day
 have hlo:=linkF_ok hro.1 (by omega) day
 have hsg:=signersR39_spec (qHq (qCv a day) day) hlo.1 (by omega) (by rw [hlo.2.1];omega) day hday
 generalize qBq (qHq (qCv a day) day) day=A3 at hsg ⊢
 rw [linkRoot_eq a day hm.1] at hsg
 have hdy:=qJa day
 rw [decide_eq_true hday] at hdy
 have hsc:=secretR39_spec a (by have:=ha.ok.seed;omega)
 have hr:=secS_range a.seed
 have hlr:=ha.len.1
 have hll:=ha.len.2.1
 obtain ⟨sta,roots,links,secs,signer,lister,sk,lk,next,list,rev,defs,seed⟩:=a
 simp only at *
 clear ha hro hlo
 generalize qDr seed=k1 at *
 generalize qAv seed=n1 at *
 generalize hn:secs.length=n at *
 have hi1:=issR_spec k1 (qEo sta next 1 (n+1) (n+1) k1 day 1825 5475) hr (certN_chk hst (by omega) (by omega) (by omega) (by omega) ⟨fun _=>rfl,fun _=>rfl⟩ hr hday (by omega))
 have hi2:=issR_spec (secs.getD (n-1) 0) (qEo sta (next+1) 2 n (n+1) k1 day 1825 5475) hlast (certN_chk hst (by omega) (by omega) (by omega) (by omega) ⟨fun h=>by omega,fun h=>by omega⟩ hr hday (by omega))
 generalize qBr k1 (qEo sta next 1 (n+1) (n+1) k1 day 1825 5475)=c1 at *
 generalize qBr (secs.getD (n-1) 0) (qEo sta (next+1) 2 n (n+1) k1 day 1825 5475)=c2 at *
 rw [show qEo sta next 1 (n+1) (n+1) k1 day 1825 5475=⟨sta,1,(next:Int),((n+1:Nat):Int),((n+1:Nat):Int),((qJu k1:Nat):Int),day,qDg day 1825,qDg day 5475,0,0⟩ from rfl] at hi1
 rw [show qEo sta (next+1) 2 n (n+1) k1 day 1825 5475=⟨sta,2,((next+1:Nat):Int),(n:Int),((n+1:Nat):Int),((qJu k1:Nat):Int),day,qDg day 1825,qDg day 5475,0,0⟩ from rfl] at hi2
 generalize qJu k1=p1 at *
 have hrt:=rootR39_spec ⟨sta,roots,links,secs++[k1],signer,lister,sk,lk,next,list,rev,defs,n1⟩ ((n+1:Nat):Int) (p1:Int) day hday
 simp only at hrt
 generalize qDg day 1825=d1 at *
 generalize qDg day 5475=d2 at *
 have hat:=encNs'_at (l:=secs) (i:=n-1) (by omega)
 generalize secs.getD (n-1) 0=old at *
 have hlen:=encNs'_len secs
 rw [hn] at hlen
 have hlr':=encNls_len roots
 have hll':=encNls_len links
 have en:IntKind.i64.wrap ((n:Int)-1)=((n-1:Nat):Int):=by rw [qAf (by omega)];omega
 have e1:IntKind.i64.wrap ((n:Int)+1)=((n+1:Nat):Int):=by rw [qAf (by omega)];omega
 have ex1:IntKind.i64.wrap ((next:Int)+1)=((next+1:Nat):Int):=by rw [qAf (by omega)];omega
 have ex2:IntKind.i64.wrap ((next:Int)+2)=((next+1+1:Nat):Int):=by rw [qAf (by omega)];omega
 have hs1:=encNs'_snoc secs k1
 have hs2:=encNls_snoc roots c1
 have hs3:=encNls_snoc links c2
 clear hlast hr hst
 refine qAb hT Tryz.func18 rfl rfl rfl rfl ?_;intro E hE
 refine qAj (qAj (qAj (qAj (qAj (qAj (qAj (qAj ?_)))))))
 refine qAk (qAg ?_)
 refine qAd (boxAt_ok (i0:=3) (cs:=qAe ⟨sta,roots,links,secs,signer,lister,sk,lk,next,list,rev,defs,seed⟩) rfl rfl rfl) rfl ?_
 refine qAd (allocAt_ok (i0:=4) (i:=tiA) hT rfl tiA_find rfl) rfl ?_
 refine ww ?_
 refine qAa rfl (fun q1=>?_) (fun q1=>?_)
 ·exact absurd q1 (by rw [hlen];simp;omega)
 refine ww ?_
 refine wwc hdy ?_
 refine ww ?_
 refine qAa rfl (fun q2=>?_) (fun q2=>?_)
 ·exact absurd q2 (by simp)
 refine ww ?_
 refine qAa rfl (fun q3=>?_) (fun q3=>?_)
 ·exact absurd q3 (by rw [hlen];simp;omega)
 refine wwe ?_
 refine qAo (l:=[(1,.d (.int .i64 day)),(2,.ptr 3 0),(4,.ptr 4 0),(6,.d (.int .i64 (n:Int)))]) (h':=[.room,.room,.room,.row (qAe ⟨sta,roots,links,secs,signer,lister,sk,lk,next,list,rev,defs,seed⟩),.row (qEc [] 0 (.sl 1 [] .full)),.room,.room,.room]) ⟨.refl _,.refl _,.refl _,.int (by rw [hlen]),trivial⟩ (HLe.refl _) ?_
 refine qAk (qAg ?_)
 refine qAd (qBy (i:=3) (off:=0) hT rfl rfl rfl (L38 (C:=qAe ⟨sta,roots,links,secs,signer,lister,sk,lk,next,list,rev,defs,seed⟩) rfl)) rfl ?_
 refine wwc hsc ?_
 refine wk hT rfl rfl ?_
 refine wk hT rfl rfl ?_
 refine wk hT rfl rfl ?_
 refine wk hT rfl rfl ?_
 refine qCc (qBe (i:=3) (off:=0) hT rfl rfl rfl (S38 (C:=qAe ⟨sta,roots,links,secs,signer,lister,sk,lk,next,list,rev,defs,n1⟩) rfl rfl)) (forceS_eq _ _) ?_
 refine wk hT rfl rfl ?_
 refine wk hT rfl rfl ?_
 refine qCi ?_
 refine qAk (qAg ?_)
 refine wws ?_
 refine qAd (qAc (indexAddr_ok hT rfl rfl rfl rfl (by rw [en];omega) (by rw [en,Int.toNat_natCast];exact hat))) rfl ?_
 refine wws ?_
 refine qAk (qAg ?_)
 refine wws ?_
 refine qAd (qCl (i:=0) (es2:=encNs' secs) hT rfl rfl rfl (.inl rfl) (by simp) rfl rfl (by show (encNs' secs).length*(8+1)≤_;omega)) rfl ?_
 refine wws ?_
 refine qAd (qAi (i:=0) (es2:=[[.int .i64 (k1:Int)]]) hT rfl rfl rfl rfl rfl rfl (by show ((encNs' secs).length+1)*(8+1)≤_;omega)) rfl ?_
 rw [← hs1]
 refine wws ?_
 refine qAo (l:=[(1,.d (.int .i64 day)),(2,.ptr 3 0),(4,.ptr 4 0),(6,.d (.int .i64 (n:Int))),(7,.d (.int .i64 (k1:Int))),(8,.d (.int .i64 (p1:Int))),(9,.d (.int .i64 (old:Int)))]) (h':=[.dead,.room,.room,.row (qAe ⟨sta,roots,links,secs++[k1],signer,lister,sk,lk,next,list,rev,defs,n1⟩),.row (qEc [] 0 (.sl 1 [] .full)),.room,.room,.room]) ⟨.refl _,.refl _,.refl _,.refl _,.refl _,.refl _,.refl _,trivial⟩
  ⟨trivial,ObLe.refl _,ObLe.refl _,by show AllLe _ _;exact ⟨.refl _,.refl _,.refl _,AV.le.dat,AllLe.refl _⟩,ObLe.refl _,ObLe.refl _,ObLe.refl _,ObLe.refl _,trivial⟩ ?_
 refine qAk (qAg ?_)
 refine qAd (qBy (i:=3) (off:=0) hT rfl rfl rfl (L38 (C:=qAe ⟨sta,roots,links,secs++[k1],signer,lister,sk,lk,next,list,rev,defs,n1⟩) rfl)) rfl ?_
 refine wk hT rfl rfl ?_
 refine wk hT rfl rfl ?_
 refine wk hT rfl rfl ?_
 refine wk hT rfl rfl ?_
 rw [e1]
 refine wwc hrt ?_
 refine qAd (allocAt_ok (i0:=5) (i:=⟨.struct [(0,1,false),(1,1,false),(2,1,false),(3,1,false),(4,1,false),(5,1,false),(6,1,false),(7,1,false),(8,1,false),(9,2,true)],11,96,qBi nl0⟩) hT rfl rfl rfl) rfl ?_
 refine wws ?_
 refine qAo (l:=[(1,.d (.int .i64 day)),(2,.ptr 3 0),(4,.ptr 4 0),(6,.d (.int .i64 (n:Int))),(7,.d (.int .i64 (k1:Int))),(9,.d (.int .i64 (old:Int))),(10,.ptr 5 0)]) (h':=[.dead,.room,.room,.row (qAe ⟨sta,roots,links,secs++[k1],signer,lister,sk,lk,next,list,rev,defs,n1⟩),.row (qEc [] 0 (.sl 1 [] .full)),.row (qBi ⟨sta,1,(next:Int),((n+1:Nat):Int),((n+1:Nat):Int),(p1:Int),day,d1,d2,0,0⟩),.room,.room]) ⟨.refl _,.refl _,.refl _,.refl _,.refl _,.refl _,.refl _,trivial⟩ (HLe.refl _) ?_
 refine qAk (qAg ?_)
 refine wws ?_
 refine wwc hi1 ?_
 refine wk hT rfl rfl ?_
 refine wk hT rfl rfl ?_
 refine wk hT rfl rfl ?_
 refine qAd (allocAt_ok (i0:=6) (i:=⟨.struct [(0,1,false),(1,1,false),(2,1,false),(3,1,false),(4,1,false),(5,1,false),(6,1,false),(7,1,false),(8,1,false),(9,2,true)],11,96,qBi nl0⟩) hT rfl rfl rfl) rfl ?_
 refine wws ?_
 refine qAo (l:=[(1,.d (.int .i64 day)),(2,.ptr 3 0),(4,.ptr 4 0),(6,.d (.int .i64 (n:Int))),(7,.d (.int .i64 (k1:Int))),(9,.d (.int .i64 (old:Int))),(10,.ptr 5 0),(11,.ptr 6 0)]) (h':=[.dead,.room,.room,.row (qAe ⟨sta,roots,links,secs++[k1],signer,lister,sk,lk,next,list,rev,defs,n1⟩),.row (qEc [] 0 (.sl 1 [] .full)),.row (qBi ⟨sta,1,(next:Int),((n+1:Nat):Int),((n+1:Nat):Int),(p1:Int),day,d1,d2,0,0⟩),.row (qBi c1),.room]) ⟨.refl _,.refl _,.refl _,.refl _,.refl _,.refl _,.refl _,.refl _,trivial⟩ (HLe.refl _) ?_
 refine qAk (qAw (fun i=>bif Nat.beq i 1 then [3] else bif Nat.beq i 5||Nat.beq i 7||Nat.beq i 9 then [5] else []) (fun i=>bif Nat.beq i 5||Nat.beq i 7||Nat.beq i 9 then [5] else []) mixed (by kernel_rfl) ?_)
 refine wwg ?_
 rw [ex1]
 refine qAo (l:=[(1,.d (.int .i64 day)),(2,.ptr 3 0),(4,.ptr 4 0),(6,.d (.int .i64 (n:Int))),(7,.d (.int .i64 (k1:Int))),(9,.d (.int .i64 (old:Int))),(10,.ptr 5 0),(11,.ptr 6 0)]) (h':=[.dead,.room,.room,.row (qAe ⟨sta,roots,links,secs++[k1],signer,lister,sk,lk,next,list,rev,defs,n1⟩),.row (qEc [] 0 (.sl 1 [] .full)),.row (qBi ⟨sta,2,((next+1:Nat):Int),(n:Int),((n+1:Nat):Int),(p1:Int),day,d1,d2,0,0⟩),.row (qBi c1),.room]) ⟨.refl _,.refl _,.refl _,.refl _,.refl _,.refl _,.refl _,.refl _,trivial⟩ (HLe.refl _) ?_
 refine qAk (qAg ?_)
 refine wws ?_
 refine wwc hi2 ?_
 refine wk hT rfl rfl ?_
 refine wk hT rfl rfl ?_
 refine wk hT rfl rfl ?_
 refine qAd (allocAt_ok (i0:=7) (i:=⟨.struct [(0,1,false),(1,1,false),(2,1,false),(3,1,false),(4,1,false),(5,1,false),(6,1,false),(7,1,false),(8,1,false),(9,2,true)],11,96,qBi nl0⟩) hT rfl rfl rfl) rfl ?_
 refine wws ?_
 refine qAo (l:=[(1,.d (.int .i64 day)),(2,.ptr 3 0),(4,.ptr 4 0),(11,.ptr 6 0),(13,.ptr 7 0)]) (h':=[.dead,.room,.room,.row (qAe ⟨sta,roots,links,secs++[k1],signer,lister,sk,lk,next,list,rev,defs,n1⟩),.row (qEc [] 0 (.sl 1 [] .full)),.dead,.row (qBi c1),.row (qBi c2)]) ⟨.refl _,.refl _,.refl _,.refl _,.refl _,trivial⟩ ⟨trivial,ObLe.refl _,ObLe.refl _,ObLe.refl _,ObLe.refl _,trivial,ObLe.refl _,ObLe.refl _,trivial⟩ ?_
 refine qAk (qAw (fun i=>bif Nat.beq i 2||Nat.beq i 8 then [3] else bif Nat.beq i 3||Nat.beq i 6 then [1] else bif Nat.beq i 4 then [6] else []) (fun i=>bif Nat.beq i 8 then [3] else bif Nat.beq i 3||Nat.beq i 6 then [1] else []) mixed (by kernel_rfl) ?_)
 refine qAm (v:=.sl 11 [] .full) (os:=[]) (fun k hk1 hk2=>buildSl_ok hT rfl rfl) rfl ?_
 refine wwg ?_
 refine qAm (v:=.sl 11 (qBb roots) (.right 1)) (os:=[.right 11 (qBb roots).length]) (fun k hk1 hk2=>by refine qCl (i:=1) (es2:=qBb roots) hT rfl rfl rfl (.inl rfl) ?_ ((hk2 1 List.mem_cons_self).trans rfl) rfl (by show (qBb roots).length*(96+1)≤_;omega);simp) rfl ?_
 refine wwg ?_
 refine qAm (v:=.sl 11 [qJh c1] .full) (os:=[]) (fun k hk1 hk2=>buildSl_ok hT rfl rfl) rfl ?_
 refine qAm (v:=.sl 11 (qBb roots++[qJh c1]) (.right 1)) (os:=[.right 11 (qBb roots++[qJh c1]).length]) (fun k hk1 hk2=>qAi (i:=1) (es2:=[qJh c1]) hT rfl rfl rfl rfl ((hk2 1 List.mem_cons_self).trans rfl) rfl (by show ((qBb roots).length+1)*(96+1)≤_;omega)) rfl ?_
 rw [← hs2]
 refine wwg ?_
 refine qAo (l:=[(1,.d (.int .i64 day)),(2,.ptr 3 0),(4,.ptr 4 0),(13,.ptr 7 0)]) (h':=[.dead,.dead,.room,.row (qAe ⟨sta,roots++[c1],links,secs++[k1],signer,lister,sk,lk,next,list,rev,defs,n1⟩),.row (qEc [] 0 (.sl 1 [] .full)),.dead,.dead,.row (qBi c2)]) ⟨.refl _,.refl _,.refl _,.refl _,trivial⟩ ⟨trivial,trivial,ObLe.refl _,by show AllLe _ _;exact ⟨.refl _,AV.le.dat,AllLe.refl _⟩,ObLe.refl _,trivial,trivial,ObLe.refl _,trivial⟩ ?_
 refine qAk (qAw (fun i=>bif Nat.beq i 2||Nat.beq i 8 then [3] else bif Nat.beq i 3||Nat.beq i 6 then [2] else bif Nat.beq i 4 then [7] else []) (fun i=>bif Nat.beq i 8 then [3] else bif Nat.beq i 3||Nat.beq i 6 then [2] else []) mixed (by kernel_rfl) ?_)
 refine qAm (v:=.sl 11 [] .full) (os:=[]) (fun k hk1 hk2=>buildSl_ok hT rfl rfl) rfl ?_
 refine wwg ?_
 refine qAm (v:=.sl 11 (qBb links) (.right 2)) (os:=[.right 11 (qBb links).length]) (fun k hk1 hk2=>by refine qCl (i:=2) (es2:=qBb links) hT rfl rfl rfl (.inl rfl) ?_ ((hk2 2 List.mem_cons_self).trans rfl) rfl (by show (qBb links).length*(96+1)≤_;omega);simp) rfl ?_
 refine wwg ?_
 refine qAm (v:=.sl 11 [qJh c2] .full) (os:=[]) (fun k hk1 hk2=>buildSl_ok hT rfl rfl) rfl ?_
 refine qAm (v:=.sl 11 (qBb links++[qJh c2]) (.right 2)) (os:=[.right 11 (qBb links++[qJh c2]).length]) (fun k hk1 hk2=>qAi (i:=2) (es2:=[qJh c2]) hT rfl rfl rfl rfl ((hk2 2 List.mem_cons_self).trans rfl) rfl (by show ((qBb links).length+1)*(96+1)≤_;omega)) rfl ?_
 rw [← hs3]
 refine wwg ?_
 refine qAk (qAg ?_)
 refine wws ?_
 rw [ex2]
 refine qAo (l:=[(1,.d (.int .i64 day)),(2,.ptr 3 0),(4,.ptr 4 0)]) (h':=[.dead,.dead,.dead,.row (qAe ⟨sta,roots++[c1],links++[c2],secs++[k1],signer,lister,sk,lk,next+1+1,list,rev,defs,n1⟩),.row (qEc [] 0 (.sl 1 [] .full)),.dead,.dead,.dead]) ⟨.refl _,.refl _,.refl _,trivial⟩ ⟨trivial,trivial,trivial,by show AllLe _ _;exact ⟨.refl _,.refl _,AV.le.dat,AllLe.refl _⟩,ObLe.refl _,trivial,trivial,trivial,trivial⟩ ?_
 refine qAk (qAg ?_)
 refine qAd (qBy (i:=3) (off:=0) hT rfl rfl rfl (L38 (C:=qAe ⟨sta,roots++[c1],links++[c2],secs++[k1],signer,lister,sk,lk,next+1+1,list,rev,defs,n1⟩) rfl)) rfl ?_
 refine wk hT rfl rfl ?_
 refine wwc hsg ?_
 refine qCc (qBe (i:=4) (off:=0) hT rfl rfl rfl (S38 (C:=qAe A3) rfl rfl)) (forceS_eq _ _) ?_
 refine ww ?_
 refine rq ⟨rfl,rfl⟩ rfl (.refl _)
end Tdoc
namespace Tdoc
open Go Go.Proofs
theorem qMk (a:Aut) (ha:RollOk a∨a.secs=[]) (hl:a.secs.length≤100) (day:Int):Spec Tryz.prog 18 [qEp a,.d (.int .i64 day)] [] (fun r h'=>r=.tup [qEp (qVn a day).1,.d (.int .i64 (qVn a day).2)]∧h'=[]):=by
 have hl0:=encNs'_len a.secs
 have hdy:=qJa day
 rw [rollA_eq]
 by_cases h1:a.secs.length=0
 ·rw [if_pos h1]
  refine qAb hT Tryz.func18 rfl rfl rfl rfl ?_;intro E hE
  refine qAj (qAj (qAj (qAj (qAj (qAj (qAj (qAj ?_)))))))
  refine qAk (qAg ?_)
  refine qAd (boxAt_ok (i0:=3) (cs:=qAe a) rfl rfl rfl) rfl ?_
  refine qAd (allocAt_ok (i0:=4) (i:=tiA) hT rfl tiA_find rfl) rfl ?_
  refine ww ?_
  refine qAa rfl (fun q1=>?_) (fun q1=>?_)
  ·refine ww ?_
   exact wwr
  ·exact absurd q1 (by rw [hl0,h1];simp)
 rw [if_neg h1]
 have ha:RollOk a:=ha.resolve_right (fun h=>h1 (by rw [h];rfl))
 by_cases h2:day < 0∨73048 < day
 ·rw [if_pos h2]
  rw [decide_eq_false (by omega)] at hdy
  refine qAb hT Tryz.func18 rfl rfl rfl rfl ?_;intro E hE
  refine qAj (qAj (qAj (qAj (qAj (qAj (qAj (qAj ?_)))))))
  refine qAk (qAg ?_)
  refine qAd (boxAt_ok (i0:=3) (cs:=qAe a) rfl rfl rfl) rfl ?_
  refine qAd (allocAt_ok (i0:=4) (i:=tiA) hT rfl tiA_find rfl) rfl ?_
  refine ww ?_
  refine qAa rfl (fun q1=>?_) (fun q1=>?_)
  ·exact absurd q1 (by rw [hl0];simpa using h1)
  refine ww ?_
  refine wwc hdy ?_
  refine ww ?_
  refine qAa rfl (fun q2=>?_) (fun q2=>?_)
  ·refine ww ?_
   exact wwr
  ·exact absurd q2 (by simp)
 rw [if_neg h2]
 by_cases h3:8≤a.secs.length
 ·rw [if_pos h3]
  rw [decide_eq_true (by omega)] at hdy
  refine qAb hT Tryz.func18 rfl rfl rfl rfl ?_;intro E hE
  refine qAj (qAj (qAj (qAj (qAj (qAj (qAj (qAj ?_)))))))
  refine qAk (qAg ?_)
  refine qAd (boxAt_ok (i0:=3) (cs:=qAe a) rfl rfl rfl) rfl ?_
  refine qAd (allocAt_ok (i0:=4) (i:=tiA) hT rfl tiA_find rfl) rfl ?_
  refine ww ?_
  refine qAa rfl (fun q1=>?_) (fun q1=>?_)
  ·exact absurd q1 (by rw [hl0];simpa using h1)
  refine ww ?_
  refine wwc hdy ?_
  refine ww ?_
  refine qAa rfl (fun q2=>?_) (fun q2=>?_)
  ·exact absurd q2 (by simp)
  refine ww ?_
  refine qAa rfl (fun q3=>?_) (fun q3=>?_)
  ·refine ww ?_
   exact wwr
  ·exact absurd q3 (by rw [hl0];simp;omega)
 rw [if_neg h3]
 exact qPd a ha (by omega) day (by omega)
end Tdoc
namespace Tdoc
open Go Go.Proofs
def qHt (l:List Int):List (List Dat):=l.map fun n=>[.int .i64 n]
theorem encIs_len (l:List Int):(qHt l).length=l.length:=by simp [qHt]
theorem encIs_at {l:List Int} {i:Nat} (h:i < l.length):(qHt l)[i]?=some [.int .i64 l[i]]:=by simp [qHt,h]
theorem encNls_at {l:List Nal} {i:Nat} (h:i < l.length):(qBb l)[i]?=some (qJh l[i]):=by simp [qBb,h]
theorem encDfs_at {l:List Dfc} {i:Nat} (h:i < l.length):(qHk l)[i]?=some (vJb l[i]):=by simp [qHk,h]
theorem encNs'_Is (l:List Nat):encNs' l=qHt (l.map (fun n:Nat=>(n:Int))):=by simp [encNs',qHt]
theorem sameInts_self (l:List Int) (hl:l.length≤1000000):Spec Tryz.prog 61 [.d (.sl 1 (qHt l)),.d (.sl 1 (qHt l))] [] (fun r h'=>r=.d (.bool true)∧h'=[]):=by
 have hll:=encIs_len l
 refine qAb hT Tryz.func61 rfl rfl rfl rfl ?_;intro E hE
 refine ww ?_
 refine qAa rfl (fun c1=>?_) (fun c1=>?_)
 ·exact absurd c1 (by simp)
 refine ww ?_
 refine qAp (ι:=Nat) (fun i=>[(0,.d (.sl 1 (qHt l))),(1,.d (.sl 1 (qHt l))),(5,.d (.int .i64 (i:Int)))]) (fun _=>[]) (fun i=>i≤l.length) (fun i=>l.length-i) 0 (by omega) ⟨.refl _,.refl _,.refl _,trivial⟩ (HLe.refl _) ?_
 intro i hi
 have hwr:IntKind.i64.wrap ((i:Int)+1)=((i+1:Nat):Int):=by rw [qAf (by omega)];simp
 refine ww ?_
 refine qAa rfl (fun c2=>?_) (fun c2=>?_)
 ·have c2':i < l.length:=by rw [hll] at c2;simpa using c2
  have hel:=encIs_at c2'
  generalize l[i]=x at hel
  refine ww ?_
  refine qAx (qAc (indexAddr_ok hT rfl rfl rfl rfl (by omega) hel)) rfl rfl ?_
  refine ww ?_
  refine qAx (qAc (indexAddr_ok hT rfl rfl rfl rfl (by omega) hel)) rfl rfl ?_
  refine ww ?_
  refine qAa rfl (fun c3=>?_) (fun c3=>?_)
  ·exact absurd c3 (by simp)
  refine ww ?_
  exact ⟨i+1,c2',by omega,⟨.refl _,.refl _,.int hwr,trivial⟩,HLe.refl _⟩
 refine ww ?_
 exact wwr
theorem sameNat_self (l:List Nal) (hl:l.length≤1000000):Spec Tryz.prog 60 [.d (.sl 11 (qBb l)),.d (.sl 11 (qBb l))] [] (fun r h'=>r=.d (.bool true)∧h'=[]):=by
 have hll:=encNls_len l
 refine qAb hT Tryz.func60 rfl rfl rfl rfl ?_;intro E hE
 refine ww ?_
 refine qAa rfl (fun c1=>?_) (fun c1=>?_)
 ·exact absurd c1 (by simp)
 refine ww ?_
 refine qAp (ι:=Nat) (fun i=>[(0,.d (.sl 11 (qBb l))),(1,.d (.sl 11 (qBb l))),(5,.d (.int .i64 (i:Int)))]) (fun _=>[]) (fun i=>i≤l.length) (fun i=>l.length-i) 0 (by omega) ⟨.refl _,.refl _,.refl _,trivial⟩ (HLe.refl _) ?_
 intro i hi
 have hwr:IntKind.i64.wrap ((i:Int)+1)=((i+1:Nat):Int):=by rw [qAf (by omega)];simp
 refine ww ?_
 refine qAa rfl (fun c2=>?_) (fun c2=>?_)
 ·have c2':i < l.length:=by rw [hll] at c2;simpa using c2
  have hel:=encNls_at c2'
  generalize l[i]=x at hel
  obtain ⟨sta,kind,num,iss,own,key,frm,unt,til,sE,sS⟩:=x
  unfold qJh at hel
  simp only at hel
  refine ww ?_
  refine qAx (qAc (indexAddr_ok hT rfl rfl rfl rfl (by omega) hel)) rfl rfl ?_
  refine ww ?_
  refine qAx (qAc (indexAddr_ok hT rfl rfl rfl rfl (by omega) hel)) rfl rfl ?_
  refine ww ?_
  refine qAx (qAc (structSelf_ok (ds:=[.str sta,.int .i64 kind,.int .i64 num,.int .i64 iss,.int .i64 own,.int .i64 key,.int .i64 frm,.int .i64 unt,.int .i64 til,.int .i64 sE,.int .i64 sS]) [none,some .i64,some .i64,some .i64,some .i64,some .i64,some .i64,some .i64,some .i64] [some .i64,some .i64] rfl (by kernel_rfl) (by kernel_rfl) (by kernel_rfl) (by kernel_rfl) rfl rfl rfl)) rfl rfl ?_
  refine ww ?_
  refine qAa rfl (fun c3=>?_) (fun c3=>?_)
  ·exact absurd c3 (by simp)
  refine ww ?_
  exact ⟨i+1,c2',by omega,⟨.refl _,.refl _,.int hwr,trivial⟩,HLe.refl _⟩
 refine ww ?_
 exact wwr
theorem qWt (l:List Dfc) (hl:l.length≤1000000):Spec Tryz.prog 62 [.d (.sl 5 (qHk l)),.d (.sl 5 (qHk l))] [] (fun r h'=>r=.d (.bool true)∧h'=[]):=by
 have hll:=encDfs_len l
 refine qAb hT Tryz.func62 rfl rfl rfl rfl ?_;intro E hE
 refine ww ?_
 refine qAa rfl (fun c1=>?_) (fun c1=>?_)
 ·exact absurd c1 (by simp)
 refine ww ?_
 refine qAp (ι:=Nat) (fun i=>[(0,.d (.sl 5 (qHk l))),(1,.d (.sl 5 (qHk l))),(5,.d (.int .i64 (i:Int)))]) (fun _=>[]) (fun i=>i≤l.length) (fun i=>l.length-i) 0 (by omega) ⟨.refl _,.refl _,.refl _,trivial⟩ (HLe.refl _) ?_
 intro i hi
 have hwr:IntKind.i64.wrap ((i:Int)+1)=((i+1:Nat):Int):=by rw [qAf (by omega)];simp
 refine ww ?_
 refine qAa rfl (fun c2=>?_) (fun c2=>?_)
 ·have c2':i < l.length:=by rw [hll] at c2;simpa using c2
  have hel:=encDfs_at c2'
  generalize l[i]=x at hel
  obtain ⟨a,b,c,d,e⟩:=x
  unfold vJb at hel
  simp only at hel
  refine ww ?_
  refine qAx (qAc (indexAddr_ok hT rfl rfl rfl rfl (by omega) hel)) rfl rfl ?_
  refine ww ?_
  refine qAx (qAc (indexAddr_ok hT rfl rfl rfl rfl (by omega) hel)) rfl rfl ?_
  refine ww ?_
  refine qAx (qAc (structNe_ok (ds:=[.int .i64 a,.int .i64 b,.int .i64 c,.str d,.str e]) (es:=[.int .i64 a,.int .i64 b,.int .i64 c,.str d,.str e]) (ks:=[some .i64,some .i64,some .i64,none,none]) rfl (by kernel_rfl) (by kernel_rfl) (by kernel_rfl) (by kernel_rfl) rfl rfl rfl rfl)) rfl rfl ?_
  refine ww ?_
  refine qAa rfl (fun c3=>?_) (fun c3=>?_)
  ·exact absurd c3 (by simp [qSv,vBu])
  refine ww ?_
  exact ⟨i+1,c2',by omega,⟨.refl _,.refl _,.int hwr,trivial⟩,HLe.refl _⟩
 refine ww ?_
 exact wwr
end Tdoc
namespace Tdoc
open Go Go.Proofs
abbrev nlDs (c:Nal):List Dat:=[.str c.sta,.int .i64 c.kind,.int .i64 c.num,.int .i64 c.iss,.int .i64 c.own,.int .i64 c.key,.int .i64 c.frm,.int .i64 c.unt,.int .i64 c.til,.int .i64 c.sE,.int .i64 c.sS]
theorem qOk (a:Aut) (hl:a.roots.length≤1000000∧a.links.length≤1000000∧a.secs.length≤1000000∧a.rev.length≤1000000∧a.defs.length≤1000000∧a.seed.length≤1000000) :
  Spec Tryz.prog 13 [qEp a,qEp a] [] (fun r h'=>r=.d (.bool true)∧h'=[]):=by
 obtain ⟨l1,l2,l3,l4,l5,l6⟩:=hl
 have h1:=sameNat_self a.roots l1
 have h2:=sameNat_self a.links l2
 have h3:=sameInts_self (a.secs.map (fun n:Nat=>(n:Int))) (by rw [List.length_map];exact l3)
 rw [← encNs'_Is] at h3
 have h4:=sameInts_self a.rev l4
 unfold qHt at h4
 have h5:=qWt a.defs l5
 obtain ⟨sta,roots,links,secs,signer,lister,sk,lk,next,list,rev,defs,seed⟩:=a
 simp only at *
 refine qAb hT Tryz.func13 rfl rfl rfl rfl ?_;intro E hE
 refine qAj (qAj ?_)
 refine qAk (qAg ?_)
 refine qAd (boxAt_ok (i0:=0) (cs:=qAe ⟨sta,roots,links,secs,signer,lister,sk,lk,next,list,rev,defs,seed⟩) rfl rfl rfl) rfl ?_
 refine qAd (boxAt_ok (i0:=1) (cs:=qAe ⟨sta,roots,links,secs,signer,lister,sk,lk,next,list,rev,defs,seed⟩) rfl rfl rfl) rfl ?_
 refine ww ?_
 refine wwgc h1 ?_
 refine ww ?_
 refine wwgc h2 ?_
 refine ww ?_
 refine wwgc h3 ?_
 refine ww ?_
 refine qDc rfl rfl rfl (fun hg=>⟨(sg (C:=True) hg).1,qAc (structSelf_ok (ds:=nlDs signer) [none,some .i64,some .i64,some .i64,some .i64,some .i64,some .i64,some .i64,some .i64] [some .i64,some .i64] rfl (by kernel_rfl) (by kernel_rfl) (by kernel_rfl) (by kernel_rfl) rfl rfl rfl)⟩) ?_
 refine ww ?_
 refine qDc rfl rfl rfl (fun hg=>⟨(sg (C:=True) hg).1,qAc (structSelf_ok (ds:=nlDs lister) [none,some .i64,some .i64,some .i64,some .i64,some .i64,some .i64,some .i64,some .i64] [some .i64,some .i64] rfl (by kernel_rfl) (by kernel_rfl) (by kernel_rfl) (by kernel_rfl) rfl rfl rfl)⟩) ?_
 refine ww ?_
 refine qAa rfl (fun c1=>?_) (fun c1=>?_)
 ·exact absurd c1 (by simp)
 refine ww ?_
 refine wwgc h4 ?_
 refine ww ?_
 refine wwgc h5 ?_
 refine ww ?_
 refine wh hT rfl rfl rfl rfl ?_ (fun hg=>⟨(sg (C:=True) hg).1,byteCells_encB seed⟩)
 refine ww ?_
 refine wh hT rfl rfl rfl rfl ?_ (fun hg=>⟨(sg (C:=True) hg).1,byteCells_encB seed⟩)
 rw [bytesOf_encB]
 refine ww ?_
 refine rq ⟨rfl,rfl⟩ rfl (.bool ?_)
 simp
end Tdoc
namespace Tdoc
structure GoodA (a:Aut):Prop where
 ok:AutOk a
 next:a.next=4*a.secs.length
 n:1≤a.secs.length∧a.secs.length≤8
 len:a.roots.length≤a.secs.length∧a.links.length≤a.secs.length
 rev:a.rev=[]
 defs:a.defs=[]
def InvA (a:Aut):Prop:=GoodA a∨a=aut0
theorem GoodA.roll {a:Aut} (h:GoodA a):RollOk a:=⟨h.ok,by have:=h.next;have:=h.n;omega,by have:=h.len.1;have:=h.n;omega,by have:=h.len.2;have:=h.n;omega,by rw [h.rev];simp,by rw [h.defs];simp⟩
theorem InvA.roll {a:Aut} (h:InvA a):RollOk a∨a.secs=[]:=h.imp GoodA.roll fun h=>by rw [h];rfl
theorem InvA.n {a:Aut} (h:InvA a):a.secs.length≤100:=by
 rcases h with h | rfl
 ·have:=h.n;omega
 ·exact Nat.zero_le _
theorem InvA.len {a:Aut} (h:InvA a):a.roots.length≤1000000∧a.links.length≤1000000∧a.secs.length≤1000000∧a.rev.length≤1000000∧a.defs.length≤1000000∧a.seed.length≤1000000:=by
 rcases h with h | rfl
 ·have h1:=h.n
  have h2:=h.len
  have h3:=h.ok.seed
  rw [h.rev,h.defs]
  exact ⟨by omega,by omega,by omega,by simp,by simp,by omega⟩
 ·exact ⟨Nat.zero_le _,Nat.zero_le _,Nat.zero_le _,Nat.zero_le _,Nat.zero_le _,Nat.zero_le _⟩
theorem beginA_inv (sta seed:List UInt8) (day:Int) (hseed:seed.length≤1000):InvA (qIi sta seed day).1:=by
 rw [beginA_eq]
 by_cases h1:qCo sta=false
 ·rw [if_pos h1];exact .inr rfl
 rw [if_neg h1]
 by_cases h2:day < 0∨73048 < day
 ·rw [if_pos h2];exact .inr rfl
 rw [if_neg h2,beginF_eq]
 have h1:qCo sta=true:=by simpa using h1
 have hok:=qRu h1 hseed
 have hr:=rootF_ok hok (by show 1≤99;omega) day
 have hn:(aut1 sta seed).next=1:=rfl
 have hl:(aut1 sta seed).secs.length=0:=rfl
 have hs:=signersF_ok hr.1 (by omega) day
 refine .inl ⟨hs.1,by show (qBq (qCv (aut1 sta seed) day) day).next=_;rw [hs.2.1,hs.2.2];omega,by show 1≤(qBq (qCv (aut1 sta seed) day) day).secs.length∧(qBq (qCv (aut1 sta seed) day) day).secs.length≤8;rw [hs.2.1];omega,?_,rfl,rfl⟩
 exact ⟨by show 1≤_;show 1≤([]++[qDr seed]).length;simp,Nat.zero_le _⟩
theorem rollA_inv {a:Aut} (h:InvA a) (day:Int):InvA (qVn a day).1:=by
 rw [rollA_eq]
 by_cases h1:a.secs.length=0
 ·rw [if_pos h1];exact .inr rfl
 rw [if_neg h1]
 by_cases h2:day < 0∨73048 < day
 ·rw [if_pos h2];exact .inr rfl
 rw [if_neg h2]
 by_cases h3:8≤a.secs.length
 ·rw [if_pos h3];exact .inr rfl
 rw [if_neg h3]
 have h:GoodA a:=h.resolve_right fun h=>h1 (by rw [h];rfl)
 have hn:=h.next
 have hr:=rootF_ok h.ok (by omega) day
 have hl:=linkF_ok hr.1 (by omega) day
 have hs:=signersF_ok hl.1 (by omega) day
 rw [hl.2.1,hl.2.2,hr.2.2] at hs
 have hk:=hr.2.1
 have hq:=linkRoot_eq a day h.n.1
 show InvA (qZg a day)
 rw [rollF_eq]
 have e1:(qBq (qHq (qCv a day) day) day).roots=(qHq (qCv a day) day).roots:=rfl
 have e2:(qBq (qHq (qCv a day) day) day).links=(qHq (qCv a day) day).links:=rfl
 have e3:(qBq (qHq (qCv a day) day) day).rev=a.rev:=rfl
 have e4:(qBq (qHq (qCv a day) day) day).defs=a.defs:=rfl
 have hlen:=h.len
 refine .inl ⟨hs.1,by rw [hs.2.1,hs.2.2];omega,by rw [hs.2.1];omega,?_,by rw [e3];exact h.rev,by rw [e4];exact h.defs⟩
 rw [e1,e2,hs.2.1,hq]
 simp only [List.length_append,List.length_singleton]
 omega
end Tdoc
namespace Tdoc
open Go Go.Proofs
theorem qTq (n:Int):Spec Tryz.prog 286 [.d (.int .i64 n)] [] (fun r h'=>r=.d (.bool (qJb n))∧h'=[]):=by
 have h:qJb n=(decide (n≥0)&&decide (n < 1073741789)):=by unfold qJb;rw [Bool.eq_iff_iff];simp
 rw [h]
 refine qAb hT Tryz.func286 rfl rfl rfl rfl ?_;intro E hE
 refine ww ?_
 exact wwr
theorem qQf (b:List UInt8):Spec Tryz.prog 183 [.d (.sl 1 (qAl b))] [] (fun r h'=>r=.d (.bool (qHn b))∧h'=[]):=by
 have hl:=encB_length b
 have h:qHn b=(decide (((qAl b).length:Int)≥1)&&decide (((qAl b).length:Int)≤1024)):=by unfold qHn;rw [hl,Bool.eq_iff_iff];simp;omega
 rw [h]
 refine qAb hT Tryz.func183 rfl rfl rfl rfl ?_;intro E hE
 refine ww ?_
 exact wwr
theorem soCheck_spec (s:Sec) (hl:s.hs.length≤1000000):Spec Tryz.prog 282 [vBt s] [] (fun r h'=>r=.d (.int .i64 (qTx s))∧h'=[]):=by
 have hll:=encHs_length s.hs
 obtain ⟨ver,hs,cert,sE,sS⟩:=s
 unfold qTx
 simp only at hl hll ⊢
 generalize hfin:goH 0 hs=fin
 refine qAb hT Tryz.func282 rfl rfl rfl rfl ?_;intro E hE
 refine ww ?_
 refine qAa rfl (fun c1=>?_) (fun c1=>?_)
 ·rw [if_pos (by simpa using c1)]
  refine ww ?_
  exact wwr
 rw [if_neg (by simpa using c1)]
 refine ww ?_
 refine qAa rfl (fun c2=>?_) (fun c2=>?_)
 ·rw [hll] at c2
  rw [if_pos (by simp at c2;omega)]
  refine ww ?_
  exact wwr
 rw [hll] at c2
 rw [if_neg (by simp at c2;omega)]
 refine ww ?_
 refine qBt (ι:=Nat×Int) (fun x=>[(1,.ptr 0 0),(3,.d (.int .i64 x.2)),(25,.d (.sl 2 (qFc hs))),(26,.d (.int .i64 ((qFc hs).length:Int))),(27,.d (.int .i64 (x.1:Int)))]) (fun _=>[.row (qMq ⟨ver,hs,cert,sE,sS⟩)])
  (fun x=>x.1≤hs.length∧goH x.2 (hs.drop x.1)=fin) (fun x=>hs.length-x.1) (0,0) ⟨by simp,by simpa using hfin⟩ ⟨.refl _,.refl _,.refl _,.refl _,.refl _,trivial⟩ (HLe.refl _) ?_
 rintro ⟨i,b⟩ ⟨hi,hg⟩
 simp only at hi hg ⊢
 have hwr:IntKind.i64.wrap ((i:Int)+1)=((i+1:Nat):Int):=by rw [qAf (by omega)];simp
 refine ww ?_
 refine qAa rfl (fun c3=>?_) (fun c3=>?_)
 ·have c3':i < hs.length:=by rw [hll] at c3;simpa using c3
  have hel:=encHs_at c3'
  have hdr:hs.drop i=hs[i]::hs.drop (i+1):=List.drop_eq_getElem_cons c3'
  rw [hdr,goH] at hg
  generalize hs[i]=x at hel hg
  obtain ⟨g,d⟩:=x
  unfold vKa at hel
  simp only at hel hg
  have hdl:=encB_length d
  refine ww ?_
  refine wwi hel ?_
  refine ww ?_
  refine qAa rfl (fun c4=>?_) (fun c4=>?_)
  ·rw [if_pos (by simpa using c4)] at hg
   subst hg
   refine ww ?_
   exact wwr
  rw [if_neg (by simp at c4;omega)] at hg
  refine ww ?_
  refine qAa rfl (fun c5=>?_) (fun c5=>?_)
  ·rw [if_pos (by simpa using c5)] at hg
   subst hg
   refine ww ?_
   exact wwr
  rw [if_neg (by simpa using c5)] at hg
  refine ww ?_
  refine qAa rfl (fun c6=>?_) (fun c6=>?_)
  ·rw [hdl] at c6
   rw [if_pos (by simp at c6;omega)] at hg
   subst hg
   refine ww ?_
   exact wwr
  rw [hdl] at c6
  rw [if_neg (by simp at c6;omega)] at hg
  refine ww ?_
  exact ⟨(i+1,g),[_],⟨c3',hg⟩,by simp only;omega,⟨.refl _,.refl _,.refl _,.refl _,.int hwr,trivial⟩,HLe.refl _,Env.below_mono hE (by simp),rfl,rfl⟩
 ·have c3':i=hs.length:=by rw [hll] at c3;simp at c3;omega
  subst c3'
  rw [List.drop_length,goH] at hg
  subst hg
  refine ww ?_
  exact wwr
theorem qXx (n:Int):Spec Tryz.prog 283 [.d (.int .i64 n)] [] (fun r h'=>r=.agg ((qHv (.mk 2 [bOf n] [])).map .d)∧h'=[]):=by
 have e:qHv (.mk 2 [bOf n] [])=[Dat.int .i64 2,.sl 1 [[.int .u8 (IntKind.u8.wrap n)]],.sl 3 []]:=by rw [bOf_wrap];rfl
 rw [e]
 refine qAb hT Tryz.func283 rfl rfl rfl rfl ?_;intro E hE
 refine ww ?_
 exact qAh (r:=.agg [.d (.int .i64 2),.d (.sl 1 [[.int .u8 (IntKind.u8.wrap n)]]),.d (.sl 3 [])]) rfl (AV.le.agg ⟨.refl _,AV.le.dat,AV.le.dat,trivial⟩) rfl rfl rfl rfl ⟨rfl,rfl⟩
end Tdoc
namespace Tdoc
open Go Go.Proofs
def sgA (a b:List UInt8):Nat→List UInt8
 | 0=>[]
 | 1=>a
 | _=>a++b
theorem sigOk_nat {e:Int} (h:qJb e=true):∃ n:Nat,e=(n:Int)∧n < 1073741789:=by
 unfold qJb at h
 simp at h
 exact ⟨e.toNat,by omega,by omega⟩
theorem sEnc_spec (e s:Int):Spec Tryz.prog 187 [.agg [.d (.int .i64 e),.d (.int .i64 s)]] [] (fun r h'=>r=.tup [.d (.sl 1 (qAl (qSt e s).1)),.d (.int .i64 (qSt e s).2)]∧h'=[]):=by
 have h1:=qTq e
 have h2:=qTq s
 have o1:qJb e=true→Spec Tryz.prog 245 [.d (.int .i64 e),.d (.int .i64 4)] [] (fun r h'=>r=.tup [.d (.sl 1 (qAl (qAu 4 e.toNat))),.d (.int .i64 0)]∧h'=[]):=fun h=>by
  obtain ⟨n,rfl,hn⟩:=sigOk_nat h
  exact qDi n 4 (by omega) (by omega)
 have o2:qJb s=true→Spec Tryz.prog 245 [.d (.int .i64 s),.d (.int .i64 4)] [] (fun r h'=>r=.tup [.d (.sl 1 (qAl (qAu 4 s.toNat))),.d (.int .i64 0)]∧h'=[]):=fun h=>by
  obtain ⟨n,rfl,hn⟩:=sigOk_nat h
  exact qDi n 4 (by omega) (by omega)
 have l1:(qAl (qAu 4 e.toNat)).length=4:=by rw [encB_length,octB_length]
 have l2:(qAl (qAu 4 s.toNat)).length=4:=by rw [encB_length,octB_length]
 have hap:=encB_append (qAu 4 e.toNat) (qAu 4 s.toNat)
 unfold qSt qNe
 generalize qAu 4 e.toNat=a at *
 generalize qAu 4 s.toNat=b at *
 generalize qJb e=c at *
 generalize qJb s=d at *
 refine qAb hT Tryz.func187 rfl rfl rfl rfl ?_;intro E hE
 refine qAj ?_
 refine qAk (qAg ?_)
 refine wws ?_
 refine qAk (qAg ?_)
 refine wws ?_
 refine qAz 4 1 0 (es:=[]) (.inr ⟨rfl,rfl⟩) rfl ?_
 refine ww ?_
 refine qAp (ι:=Nat) (fun i=>[(4,.sl 1 (qAl (sgA a b i)) (.right 0)),(13,.agg [.d (.int .i64 e),.d (.int .i64 s)]),(14,.d (.int .i64 (i:Int)))]) (fun i=>[.right 1 (qAl (sgA a b i)).length,.row [.d (.int .i64 e),.d (.int .i64 s)]])
  (fun i=>i≤2∧(1≤i→c=true)∧(2≤i→d=true)) (fun i=>2-i) 0 ⟨by omega,fun h=>by omega,fun h=>by omega⟩ ⟨.refl _,.refl _,.refl _,trivial⟩ (HLe.refl _) ?_
 rintro i ⟨hi,g1,g2⟩
 rcases (by omega:i=0∨i=1∨i=2) with rfl | rfl | rfl
 ·refine ww ?_
  refine qAa rfl (fun q=>?_) (fun q=>?_)
  ·refine ww ?_
   refine qAd (qAc (arrIdx_ok hT rfl rfl rfl rfl ⟨by decide,by decide⟩ rfl)) rfl ?_
   refine ww ?_
   refine wwc h1 ?_
   refine ww ?_
   refine qAa rfl (fun q1=>?_) (fun q1=>?_)
   ·rw [if_pos (.inl (by simpa using q1))]
    refine ww ?_
    refine rq ⟨rfl,rfl⟩ rfl (AV.le.tup ⟨.nils,.refl _,trivial⟩)
   have hc:c=true:=by simpa using q1
   have ho:=o1 hc
   refine ww ?_
   refine wwc ho ?_
   refine ww ?_
   refine qAd (qAi (i:=0) hT rfl rfl rfl rfl rfl rfl (by show (0+(qAl a).length)*(1+1)≤_;omega)) rfl ?_
   refine ww ?_
   exact ⟨1,⟨by omega,fun _=>hc,fun h=>by omega⟩,by omega,⟨.refl _,.refl _,.refl _,trivial⟩,HLe.refl _⟩
  ·exact absurd q (by simp)
 ·refine ww ?_
  refine qAa rfl (fun q=>?_) (fun q=>?_)
  ·refine ww ?_
   refine qAd (qAc (arrIdx_ok hT rfl rfl rfl rfl ⟨by decide,by decide⟩ rfl)) rfl ?_
   refine ww ?_
   refine wwc h2 ?_
   refine ww ?_
   refine qAa rfl (fun q1=>?_) (fun q1=>?_)
   ·rw [if_pos (.inr (by simpa using q1))]
    refine ww ?_
    refine rq ⟨rfl,rfl⟩ rfl (AV.le.tup ⟨.nils,.refl _,trivial⟩)
   have hd:d=true:=by simpa using q1
   have ho:=o2 hd
   refine ww ?_
   refine wwc ho ?_
   refine ww ?_
   refine qAd (qAi (i:=0) hT rfl rfl rfl rfl rfl rfl (by show ((qAl a).length+(qAl b).length)*(1+1)≤_;omega)) rfl ?_
   refine ww ?_
   exact ⟨2,⟨by omega,fun _=>g1 (by omega),fun _=>hd⟩,by omega,⟨.slt hap.symm,.refl _,.refl _,trivial⟩,⟨⟨rfl,by show (qAl a++qAl b).length=(qAl (a++b)).length;rw [hap]⟩,ObLe.refl _,trivial⟩⟩
  ·exact absurd q (by simp)
 ·have hc:=g1 (by omega)
  have hd:=g2 (by omega)
  rw [if_neg (by simp [hc,hd])]
  refine ww ?_
  refine qAa rfl (fun q=>?_) (fun q=>?_)
  ·exact absurd q (by simp)
  refine ww ?_
  refine rq ⟨rfl,rfl⟩ rfl (AV.le.tup ⟨AV.le.dat,.refl _,trivial⟩)
theorem soValid_spec (s:Sec) (hl:s.hs.length≤1000000):Spec Tryz.prog 186 [vBt s] [] (fun r h'=>r=.d (.int .i64 (vBk s))∧h'=[]):=by
 have h1:=soCheck_spec s hl
 have h2:=qQf s.cert
 have h3:=sEnc_spec s.sE s.sS
 unfold vBk
 generalize qTx s=e at h1 ⊢
 generalize qHn s.cert=c at h2 ⊢
 generalize qSt s.sE s.sS=f at h3 ⊢
 obtain ⟨f1,f2⟩:=f
 obtain ⟨ver,hs,cert,sE,sS⟩:=s
 simp only at *
 refine qAb hT Tryz.func186 rfl rfl rfl rfl ?_;intro E hE
 refine ww ?_
 refine wwc h1 ?_
 refine ww ?_
 refine qAa rfl (fun c1=>?_) (fun c1=>?_)
 ·rw [if_pos (by simpa using c1)]
  refine ww ?_
  exact wwr
 rw [if_neg (by simpa using c1)]
 refine ww ?_
 refine wwc h2 ?_
 refine ww ?_
 refine qAa rfl (fun c2=>?_) (fun c2=>?_)
 ·rw [if_pos (by simpa using c2)]
  refine ww ?_
  exact wwr
 rw [if_neg (by simpa using c2)]
 refine ww ?_
 refine wwc h3 ?_
 refine ww ?_
 refine qAa rfl (fun c3=>?_) (fun c3=>?_)
 ·rw [if_pos (by simpa using c3)]
  refine ww ?_
  exact wwr
 rw [if_neg (by simpa using c3)]
 refine ww ?_
 exact wwr
end Tdoc
