/- Part 11 of the proof: the texts JV JW JX JY JZ KA MA KI KJ MB MC MD ME MF MG MH MK ML MM Y5 ZF ZG Z7 Z8 Z9 ZK0 NV ZH OJ OJ2 NW MJ MN MI MO P1 P2 P3 P4 P5 P6 P7. -/
import Derived.Test.YtelocejblpajcaaGreatDoorTR10
set_option maxHeartbeats 8000000
set_option maxRecDepth 100000
set_option linter.unusedVariables false
set_option linter.unusedSimpArgs false
namespace Tdoc
open Go Go.Proofs
theorem qSl (a:Aut) (ha:RollOk a∨a.secs=[]) (hl:a.secs.length≤100) (day:Int):Spec Tryz.prog 17 [qLl a,.I day] [] (fun r h'=>r=.tup [qLl (qVy a day).1,.d (.int .i64 (qVy a day).2)]∧h'=[]):=by
 have hl0:=encNs'_len a.secs
 rw [rollA_eq]
 by_cases h1:a.secs.length=0
 ·rw [if_pos h1]
  refine qAb hT Tryz.func17 rfl rfl rfl rfl ?_;intro E hE
  refine qAo (qAo (qAo (qAo (qAo (qAo ?_)))))
  refine qAl (qAf ?_)
  refine qAd (boxAt_ok (i0:=0) (cs:=qAi a) rfl rfl rfl) rfl ?_
  refine qAd (allocAt_ok (i0:=4) (i:=tiA) hT rfl tiA_find rfl) rfl ?_
  refine ww ?_
  refine qAa rfl (fun q1=>?_) (fun q1=>?_)
  ·refine ww ?_
   exact wwr
  ·exact absurd q1 (by rw [hl0,h1];simp)
 rw [if_neg h1]
 have ha:RollOk a:=ha.resolve_right (fun h=>h1 (by rw [h];rfl))
 by_cases h2:day < 0∨73048 < day
 ·rw [if_pos h2]
  refine qAb hT Tryz.func17 rfl rfl rfl rfl ?_;intro E hE
  refine qAo (qAo (qAo (qAo (qAo (qAo ?_)))))
  refine qAl (qAf ?_)
  refine qAd (boxAt_ok (i0:=0) (cs:=qAi a) rfl rfl rfl) rfl ?_
  refine qAd (allocAt_ok (i0:=4) (i:=tiA) hT rfl tiA_find rfl) rfl ?_
  refine ww ?_
  refine qAa rfl (fun q1=>?_) (fun q1=>?_)
  ·exact absurd q1 (by rw [hl0];simpa using h1)
  refine ww ?_
  refine qAa rfl (fun q2=>?_) (fun q2=>?_)
  ·refine ww ?_
   exact wwr
  ·exact absurd q2 (by simp;omega)
 rw [if_neg h2]
 by_cases h3:8≤a.secs.length
 ·rw [if_pos h3]
  refine qAb hT Tryz.func17 rfl rfl rfl rfl ?_;intro E hE
  refine qAo (qAo (qAo (qAo (qAo (qAo ?_)))))
  refine qAl (qAf ?_)
  refine qAd (boxAt_ok (i0:=0) (cs:=qAi a) rfl rfl rfl) rfl ?_
  refine qAd (allocAt_ok (i0:=4) (i:=tiA) hT rfl tiA_find rfl) rfl ?_
  refine ww ?_
  refine qAa rfl (fun q1=>?_) (fun q1=>?_)
  ·exact absurd q1 (by rw [hl0];simpa using h1)
  refine ww ?_
  refine qAa rfl (fun q2=>?_) (fun q2=>?_)
  ·exact absurd q2 (by simp;omega)
  refine ww ?_
  refine qAa rfl (fun q3=>?_) (fun q3=>?_)
  ·refine ww ?_
   exact wwr
  ·exact absurd q3 (by rw [hl0];simp;omega)
 rw [if_neg h3]
 exact qXk a ha (by omega) day (by omega)
theorem linkRoot_eq (a:Aut) (day:Int) (h:1≤a.secs.length):qFn (qCb a day) day=⟨a.sta,a.roots++[qBm (qCn a.seed) (qOg a.sta a.next 1 (a.secs.length+1) (a.secs.length+1) (qCn a.seed) day 1825 5475)],
  a.links++[qBm (a.secs.getD (a.secs.length-1) 0) (qOg a.sta (a.next+1) 2 a.secs.length (a.secs.length+1) (qCn a.seed) day 1825 5475)],a.secs++[qCn a.seed],a.signer,a.lister,a.sk,a.lk,a.next+1+1,a.list,a.rev,a.defs,qBe a.seed⟩:=by
 rw [linkF_eq (qCb a day) a.secs.length (by simp [qCb]) day]
 have h1:(a.secs++[qCn a.seed]).getD (a.secs.length-1) 0=a.secs.getD (a.secs.length-1) 0:=by
  simp only [List.getD_eq_getElem?_getD];rw [List.getElem?_append_left (by omega)]
 have h2:(a.secs++[qCn a.seed]).getD a.secs.length 0=qCn a.seed:=by
  simp only [List.getD_eq_getElem?_getD];rw [List.getElem?_append_right (by omega),Nat.sub_self];rfl
 have e:(qCb a day).secs=a.secs++[qCn a.seed]:=rfl
 rw [e,h1,h2]
 rfl
def qFd (l:List Int):List (List Dat):=l.map fun n=>[.int .i64 n]
theorem encIs_len (l:List Int):(qFd l).length=l.length:=by simp [qFd]
abbrev nlDs (c:Nal):List Dat:=[.str c.sta,.int .i64 c.kind,.int .i64 c.num,.int .i64 c.iss,.int .i64 c.own,.int .i64 c.key,.int .i64 c.frm,.int .i64 c.unt,.int .i64 c.til,.int .i64 c.sE,.int .i64 c.sS]
end Tdoc
namespace Tdoc
structure GoodA (a:Aut):Prop where
 ok:AutOk a
 next:a.next=4*a.secs.length
 n:1≤a.secs.length∧a.secs.length≤8
 len:a.roots.length≤a.secs.length∧a.links.length≤a.secs.length
 rev:a.rev=[]
 defs:a.defs=[]
def InvA (a:Aut):Prop:=GoodA a∨a=aut0
theorem GoodA.roll {a:Aut} (h:GoodA a):RollOk a:=⟨h.ok,by have:=h.next;have:=h.n;omega,by have:=h.len.1;have:=h.n;omega,by have:=h.len.2;have:=h.n;omega,by rw [h.rev];simp,by rw [h.defs];simp⟩
theorem beginA_inv (sta seed:List UInt8) (day:Int) (hseed:seed.length≤1000):InvA (qIq sta seed day).1:=by
 rw [beginA_eq]
 by_cases h1:qCw sta=false
 ·rw [if_pos h1];exact .inr rfl
 rw [if_neg h1]
 by_cases h2:day < 0∨73048 < day
 ·rw [if_pos h2];exact .inr rfl
 rw [if_neg h2,beginF_eq]
 have h1:qCw sta=true:=by simpa using h1
 have hok:=qSe h1 hseed
 have hr:=rootF_ok hok (by show 1≤99;omega) day
 have hn:(aut1 sta seed).next=1:=rfl
 have hl:(aut1 sta seed).secs.length=0:=rfl
 have hs:=signersF_ok hr.1 (by omega) day
 refine .inl ⟨hs.1,by show (qAz (qCb (aut1 sta seed) day) day).next=_;rw [hs.2.1,hs.2.2];omega,by show 1≤(qAz (qCb (aut1 sta seed) day) day).secs.length∧(qAz (qCb (aut1 sta seed) day) day).secs.length≤8;rw [hs.2.1];omega,?_,rfl,rfl⟩
 exact ⟨by show 1≤_;show 1≤([]++[qCn seed]).length;simp,Nat.zero_le _⟩
theorem rollA_inv {a:Aut} (h:InvA a) (day:Int):InvA (qVy a day).1:=by
 rw [rollA_eq]
 by_cases h1:a.secs.length=0
 ·rw [if_pos h1];exact .inr rfl
 rw [if_neg h1]
 by_cases h2:day < 0∨73048 < day
 ·rw [if_pos h2];exact .inr rfl
 rw [if_neg h2]
 by_cases h3:8≤a.secs.length
 ·rw [if_pos h3];exact .inr rfl
 rw [if_neg h3]
 have h:GoodA a:=h.resolve_right fun h=>h1 (by rw [h];rfl)
 have hn:=h.next
 have hr:=rootF_ok h.ok (by omega) day
 have hl:=linkF_ok hr.1 (by omega) day
 have hs:=signersF_ok hl.1 (by omega) day
 rw [hl.2.1,hl.2.2,hr.2.2] at hs
 have hk:=hr.2.1
 have hq:=linkRoot_eq a day h.n.1
 show InvA (vCy a day)
 rw [rollF_eq]
 have e1:(qAz (qFn (qCb a day) day) day).roots=(qFn (qCb a day) day).roots:=rfl
 have e2:(qAz (qFn (qCb a day) day) day).links=(qFn (qCb a day) day).links:=rfl
 have e3:(qAz (qFn (qCb a day) day) day).rev=a.rev:=rfl
 have e4:(qAz (qFn (qCb a day) day) day).defs=a.defs:=rfl
 have hlen:=h.len
 refine .inl ⟨hs.1,by rw [hs.2.1,hs.2.2];omega,by rw [hs.2.1];omega,?_,by rw [e3];exact h.rev,by rw [e4];exact h.defs⟩
 rw [e1,e2,hs.2.1,hq]
 simp only [List.length_append,List.length_singleton]
 omega
theorem qKn (a b:Nat) (h:a % qG=b % qG):4 ^ a % pG=4 ^ b % pG:=by
 have key:∀ n:Nat,4 ^ n % pG=4 ^ (n % qG) % pG:=fun n=>by
  have h1:=qGz qYw (n / qG)
  have h2:4 ^ n=4 ^ (qG*(n / qG))*4 ^ (n % qG):=by rw [← Nat.pow_add,Nat.div_add_mod]
  rw [h2,Nat.mul_mod,h1,Nat.one_mul,Nat.mod_mod]
 rw [key a,key b,h]
def vMq (key:Nat) (msg:List UInt8) (e s:Nat):Bool:=qNn (4 ^ s % pG*(key ^ (qG-e) % pG) % pG) msg qG == e
theorem verS_sign (k:Nat) (msg:List UInt8):vMq (qFg k) msg (qEx k msg).1 (qEx k msg).2=true:=by
 unfold qEx
 simp only
 generalize hn:1+qNn k msg (qG-1)=n
 generalize he:qNn (qFg n) msg qG=e
 have hlt:e < qG:=by rw [← he];exact numS_lt _ _ (by decide)
 unfold vMq
 have hr:4 ^ ((n+e*k) % qG) % pG*(qFg k ^ (qG-e) % pG) % pG=qFg n:=by
  have h1:qFg k ^ (qG-e) % pG=4 ^ (k*(qG-e)) % pG:=by
   unfold qFg
   rw [← Nat.pow_mod,← Nat.pow_mul]
  rw [h1,qKn ((n+e*k) % qG) (n+e*k) (Nat.mod_mod _ _),← Nat.mul_mod,← Nat.pow_add]
  unfold qFg
  apply qKn
  have h2:n+e*k+k*(qG-e)=n+qG*k:=by
   obtain ⟨d,hd⟩:=Nat.exists_eq_add_of_le (Nat.le_of_lt hlt)
   rw [hd,Nat.add_sub_cancel_left,Nat.add_mul,Nat.mul_comm k d]
   omega
  rw [h2,Nat.add_mul_mod_self_left]
 rw [hr,he]
 simp
open Go
structure GrpOk (b:List UInt8) (n:Int):Prop where
 op:∃ k,qWm b=(n,k,0)
 len:b.length≤4096
structure Sec where
 ver:Int
 hs:List (Int×List UInt8)
 cert:List UInt8
 sE:Int
 sS:Int
def vLf (h:Int×List UInt8):List Dat:=[.int .i64 h.1,.sl 1 (qAj h.2)]
def qFi (l:List (Int×List UInt8)):List (List Dat):=l.map vLf
theorem encHs_length (l:List (Int×List UInt8)):(qFi l).length=l.length:=by simp [qFi]
theorem encHs_at {l:List (Int×List UInt8)} {i:Nat} (h:i < l.length):(qFi l)[i]?=some (vLf l[i]):=by simp [qFi,h]
def qMs (s:Sec):List AV:=[.d (.int .i64 s.ver),.d (.sl 2 (qFi s.hs)),.d (.sl 1 (qAj s.cert)),.d (.int .i64 s.sE),.d (.int .i64 s.sS)]
def vCt (s:Sec):AV:=.agg (qMs s)
def goH:Int→List (Int×List UInt8)→Int
 | _,[]=>0
 | b,h::l=>if h.1 < 1∨h.1 > 16 then 3 else if h.1≤b then 17 else if h.2.length≠32 then 2 else goH h.1 l
def qUh (s:Sec):Int:=if s.ver≠0∧s.ver≠1 then 3 else if s.hs.length < 1∨s.hs.length > 16 then 2 else goH 0 s.hs
def qHx (b:List UInt8):Bool:=decide (1≤b.length∧b.length≤1024)
def qFx (n:Int):Bool:=decide (0≤n∧n < 1073741789)
def qNh (e s:Int):List UInt8:=qAw 4 e.toNat++qAw 4 s.toNat
def qTg (e s:Int):List UInt8×Int:=if qFx e=false∨qFx s=false then ([],3) else (qNh e s,0)
def vCg (s:Sec):Int:=if qUh s≠0 then qUh s else if qHx s.cert=false then 2 else if (qTg s.sE s.sS).2≠0 then 11 else 0
def qFs (h:Int×List UInt8):Node:=.mk 48 [] [.mk 2 [bOf h.1] [],.mk 4 h.2 []]
def qTq (s:Sec):Node:=.mk 48 [] [.mk 2 [bOf s.ver] [],.mk 48 [] (s.hs.map qFs)]
def qLg (s:Sec):List UInt8×Int:=if qUh s≠0 then ([],qUh s) else qBj [qTq s]
def soN (s:Sec):Node:=.mk 48 [] [.mk 4 (qLg s).1 [],.mk 4 s.cert [],.mk 4 (qNh s.sE s.sS) []]
def qWy (s:Sec):List UInt8×Int:=if vCg s≠0 then ([],vCg s) else qEf 18 [soN s]
theorem sigB_length (e s:Int):(qNh e s).length=8:=by simp [qNh,octB_length]
structure Fil where
 id:Int
 sho:Int
 con:List UInt8
 lev:Int
 rgt:Int
def qQk (f:Fil):List Dat:=[.int .i64 f.id,.int .i64 f.sho,.sl 1 (qAj f.con),.int .i64 f.lev,.int .i64 f.rgt]
def qBn (l:List Fil):List (List Dat):=l.map qQk
theorem encFils_length (l:List Fil):(qBn l).length=l.length:=by simp [qBn]
theorem encFils_at {l:List Fil} {i:Nat} (h:i < l.length):(qBn l)[i]?=some (qQk l[i]):=by simp [qBn,h]
def vAt (f:Fil):AV:=.agg [.d (.int .i64 f.id),.d (.int .i64 f.sho),.d (.sl 1 (qAj f.con)),.d (.int .i64 f.lev),.d (.int .i64 f.rgt)]
def qLf (f g:Fil):Bool:=g.id == f.id||(g.sho == f.sho&&f.sho != 0)
def qTw:List Fil→List Fil→Int
 | _,[]=>0
 | pre,f::l=>if f.id < 1∨f.id > 65535∨f.sho < 0∨f.sho > 30 then 3 else if f.lev < 0∨f.lev > 4∨f.rgt < 0∨f.rgt > (if f.lev=3 then 15 else 0) then 3
  else if f.con.length > 4096 then 2 else if pre.any (qLf f)=true then 15 else qTw (pre++[f]) l
def qHw (l:List Fil):Int:=if l.length > 24 then 2 else qTw [] l
structure Apk where
 name:List UInt8
 files:List Fil
def qQm (a:Apk):List Dat:=[.sl 1 (qAj a.name),.sl 5 (qBn a.files)]
def qBz (l:List Apk):List (List Dat):=l.map qQm
theorem encApks_length (l:List Apk):(qBz l).length=l.length:=by simp [qBz]
theorem encApks_at {l:List Apk} {i:Nat} (h:i < l.length):(qBz l)[i]?=some (qQm l[i]):=by simp [qBz,h]
def vBf (a:Apk):AV:=.agg [.d (.sl 1 (qAj a.name)),.d (.sl 5 (qBn a.files))]
def qWu:List Apk→List Apk→Int
 | _,[]=>0
 | pre,a::l=>if a.name.length < 1∨a.name.length > 16 then 2 else if pre.any (fun b=>a.name == b.name)=true then 15 else if qHw a.files≠0 then qHw a.files else qWu (pre++[a]) l
def qJr (root:List Fil) (apps:List Apk):Int:=if apps.length > 4 then 2 else if qHw root≠0 then qHw root else qWu [] apps
structure Tp where
 holder:List UInt8
 key:Int
 rights:Int
 frm:Int
 til:Int
def vAv (p:Tp):List Dat:=[.str p.holder,.int .i64 p.key,.int .i64 p.rights,.int .i64 p.frm,.int .i64 p.til]
def qCm (l:List Tp):List (List Dat):=l.map vAv
theorem encTps_length (l:List Tp):(qCm l).length=l.length:=by simp [qCm]
theorem encTps_at {l:List Tp} {i:Nat} (h:i < l.length):(qCm l)[i]?=some (vAv l[i]):=by simp [qCm,h]
def vLn (p:Tp):AV:=.agg [.d (.str p.holder),.d (.int .i64 p.key),.d (.int .i64 p.rights),.d (.int .i64 p.frm),.d (.int .i64 p.til)]
def qJp (c:UInt8):Bool:=decide ((65≤bI c∧bI c≤90)∨(48≤bI c∧bI c≤57))
def qId (s:List UInt8):Bool:=decide (1≤s.length∧s.length≤16)&&qHz (s.getD 0 0)&&s.all qJp
def qJk (p:Tp):Int:=if qId p.holder=false then 60 else if qDj p.key=false then 10 else if p.rights < 0∨p.rights > 65535 then 62 else if p.frm < 0∨p.frm > p.til∨p.til > 73048 then 8 else 0
def vGa:List Tp→Int
 | []=>0
 | p::l=>if qJk p≠0 then qJk p else vGa l
def qWz:List Tp→List Tp→Bool
 | _,[]=>false
 | pre,p::l=>(pre.any fun q=>q.holder == p.holder)||qWz (pre++[p]) l
def qDw (l:List Tp) (day:Int):Int:=if l.length < 1∨l.length > 2 then 72 else if vGa l≠0 then vGa l else if qWz [] l=true then 15 else if day < 0∨day > 73048 then 8 else 0
def qPg (n:Int):List UInt8:=[bOf (n / 65536),bOf (n / 256),bOf n]
def tpB (p:Tp):List UInt8:=bOf p.holder.length::(p.holder++qAw 4 p.key.toNat++[bOf (p.rights / 256),bOf p.rights]++qPg p.frm++qPg p.til)
def qKk (l:List Tp) (day:Int):List UInt8:=qPg day++[bOf l.length]++(l.map tpB).flatten
def qMk (l:List Tp) (day:Int):List UInt8×Int:=if qDw l day≠0 then ([],qDw l day) else (qKk l day,0)
def vGo (pr ur:Int) (pin:List UInt8) (l:List Tp) (day:Int):List UInt8×Int :=
 if pr < 0∨pr > 15∨ur < 0∨ur > 15 then ([],3) else if pin.length > 16 then ([],2) else if (qMk l day).2≠0 then ([],(qMk l day).2)
 else ([bOf pr,bOf ur,bOf pin.length]++pin++(qMk l day).1,0)
def qQc (n:Nat) (r:List UInt8):List UInt8:=1::(qAw 6 n++qAw 2 r.length++r++List.replicate (256-r.length) 0)
structure Per where
 root:List Fil
 apps:List Apk
 zone:List UInt8
 number:List UInt8
 pin:List UInt8
 puk:List UInt8
 pr:Int
 ur:Int
 basic:Bool
 infos:List Inf
 ck:Int
 ak:Int
 tps:List Tp
 tday:Int
 ident:List UInt8
 seed:List UInt8
def qKo (p:Per):List AV:=[.d (.sl 5 (qBn p.root)),.d (.sl 2 (qBz p.apps)),.d (.str p.zone),.d (.sl 1 (qAj p.number)),.d (.sl 1 (qAj p.pin)),.d (.sl 1 (qAj p.puk)),.d (.int .i64 p.pr),.d (.int .i64 p.ur),.d (.bool p.basic),.d (.sl 5 (qFt p.infos)),
 .I p.ck,.I p.ak,.d (.sl 5 (qCm p.tps)),.I p.tday,.d (.sl 1 (qAj p.ident)),.d (.sl 1 (qAj p.seed))]
def qRe (p:Per):AV:=.agg (qKo p)
def qRi (k:Int):Bool:=decide (0≤k∧k < 1073741789)
def qTb (p:Per):Int :=
 if qJr p.root p.apps≠0 then qJr p.root p.apps
 else if p.zone.length > 64∨p.number.length > 16∨p.pin.length > 16∨p.puk.length > 16 then 2
 else if p.pr < 1∨p.pr > 15∨p.ur < 1∨p.ur > 15 then 3
 else if validI p.infos≠0 then validI p.infos
 else if qRi p.ck=false∨qRi p.ak=false then 3
 else if qDw p.tps p.tday≠0 then qDw p.tps p.tday
 else if p.ident.length < 1∨p.ident.length > 32∨p.seed.length > 64 then 2 else 0
open Go Go.Proofs
theorem qKu (n:Int):Spec Tryz.prog 286 [.I n] [] (fun r h'=>r=.d (.bool (qFx n))∧h'=[]):=by
 have h:qFx n=(decide (n≥0)&&decide (n < 1073741789)):=by unfold qFx;rw [Bool.eq_iff_iff];simp
 rw [h]
 refine qAb hT Tryz.func286 rfl rfl rfl rfl ?_;intro E hE
 refine ww ?_
 exact wwr
theorem qQn (b:List UInt8):Spec Tryz.prog 183 [.d (.sl 1 (qAj b))] [] (fun r h'=>r=.d (.bool (qHx b))∧h'=[]):=by
 have hl:=encB_length b
 have h:qHx b=(decide (((qAj b).length:Int)≥1)&&decide (((qAj b).length:Int)≤1024)):=by unfold qHx;rw [hl,Bool.eq_iff_iff];simp;omega
 rw [h]
 refine qAb hT Tryz.func183 rfl rfl rfl rfl ?_;intro E hE
 refine ww ?_
 exact wwr
theorem soCheck_spec (s:Sec) (hl:s.hs.length≤1000000):Spec Tryz.prog 282 [vCt s] [] (fun r h'=>r=.I (qUh s)∧h'=[]):=by
 have hll:=encHs_length s.hs
 obtain ⟨ver,hs,cert,sE,sS⟩:=s
 unfold qUh
 simp only at hl hll ⊢
 generalize hfin:goH 0 hs=fin
 refine qAb hT Tryz.func282 rfl rfl rfl rfl ?_;intro E hE
 refine ww ?_
 refine qAa rfl (fun c1=>?_) (fun c1=>?_)
 ·rw [if_pos (by simpa using c1)]
  refine ww ?_
  exact wwr
 rw [if_neg (by simpa using c1)]
 refine ww ?_
 refine qAa rfl (fun c2=>?_) (fun c2=>?_)
 ·rw [hll] at c2
  rw [if_pos (by simp at c2;omega)]
  refine ww ?_
  exact wwr
 rw [hll] at c2
 rw [if_neg (by simp at c2;omega)]
 refine ww ?_
 refine qBg (ι:=Nat×Int) (fun x=>[(1,.ptr 0 0),(3,.I x.2),(25,.d (.sl 2 (qFi hs))),(26,.I ((qFi hs).length:Int)),(27,.I (x.1:Int))]) (fun _=>[.row (qMs ⟨ver,hs,cert,sE,sS⟩)])
  (fun x=>x.1≤hs.length∧goH x.2 (hs.drop x.1)=fin) (fun x=>hs.length-x.1) (0,0) ⟨by simp,by simpa using hfin⟩ yf (HLe.refl _) ?_
 rintro ⟨i,b⟩ ⟨hi,hg⟩
 simp only at hi hg ⊢
 have hwr:IntKind.i64.wrap ((i:Int)+1)=((i+1:Nat):Int):=by rw [qAe (by omega)];simp
 refine ww ?_
 refine qAa rfl (fun c3=>?_) (fun c3=>?_)
 ·have c3':i < hs.length:=by rw [hll] at c3;simpa using c3
  have hel:=encHs_at c3'
  have hdr:hs.drop i=hs[i]::hs.drop (i+1):=List.drop_eq_getElem_cons c3'
  rw [hdr,goH] at hg
  generalize hs[i]=x at hel hg
  obtain ⟨g,d⟩:=x
  unfold vLf at hel
  simp only at hel hg
  have hdl:=encB_length d
  refine ww ?_
  refine wwi hel ?_
  refine ww ?_
  refine qAa rfl (fun c4=>?_) (fun c4=>?_)
  ·rw [if_pos (by simpa using c4)] at hg
   subst hg
   refine ww ?_
   exact wwr
  rw [if_neg (by simp at c4;omega)] at hg
  refine ww ?_
  refine qAa rfl (fun c5=>?_) (fun c5=>?_)
  ·rw [if_pos (by simpa using c5)] at hg
   subst hg
   refine ww ?_
   exact wwr
  rw [if_neg (by simpa using c5)] at hg
  refine ww ?_
  refine qAa rfl (fun c6=>?_) (fun c6=>?_)
  ·rw [hdl] at c6
   rw [if_pos (by simp at c6;omega)] at hg
   subst hg
   refine ww ?_
   exact wwr
  rw [hdl] at c6
  rw [if_neg (by simp at c6;omega)] at hg
  refine ww ?_
  exact ⟨(i+1,g),[_],⟨c3',hg⟩,by simp only;omega,⟨.refl _,.refl _,.refl _,.refl _,.int hwr,trivial⟩,HLe.refl _,Env.below_mono hE (by simp),rfl,rfl⟩
 ·have c3':i=hs.length:=by rw [hll] at c3;simp at c3;omega
  subst c3'
  rw [List.drop_length,goH] at hg
  subst hg
  refine ww ?_
  exact wwr
theorem qYo (n:Int):Spec Tryz.prog 283 [.I n] [] (fun r h'=>r=.agg ((qIc (.mk 2 [bOf n] [])).map .d)∧h'=[]):=by
 have e:qIc (.mk 2 [bOf n] [])=[Dat.int .i64 2,.sl 1 [[.int .u8 (IntKind.u8.wrap n)]],.sl 3 []]:=by rw [bOf_wrap];rfl
 rw [e]
 refine qAb hT Tryz.func283 rfl rfl rfl rfl ?_;intro E hE
 refine ww ?_
 exact qAg (r:=.agg [.I 2,.d (.sl 1 [[.int .u8 (IntKind.u8.wrap n)]]),.d (.sl 3 [])]) rfl (AV.le.agg ⟨.refl _,AV.le.dat,AV.le.dat,trivial⟩) rfl rfl rfl rfl ⟨rfl,rfl⟩
theorem qJa (n:Nat):1≤4 ^ n % pG∧4 ^ n % pG < pG:=by
 refine ⟨Nat.pos_of_ne_zero fun h=>?_,Nat.mod_lt _ (by decide)⟩
 have h1:=qGz qYw n
 rw [Nat.mul_comm,Nat.pow_mul,Nat.pow_mod,h] at h1
 rw [Nat.zero_pow (by decide)] at h1
 simp at h1
def onF (c:Nal) (day:Int):Int:=if qCu c≠0 then qCu c else if day < c.frm then 64 else if day > c.til then 63 else 0
theorem qSp (c:Nal) (hs:c.sta.length≤1000000000) (day:Int):Spec Tryz.prog 74 [qEb c,.I day] [] (fun r h'=>r=.I (onF c day)∧h'=[]):=by
 have hc:=qLq c hs
 unfold onF
 generalize qCu c=e at hc ⊢
 obtain ⟨sta,kind,num,iss,own,key,frm,unt,til,sE,sS⟩:=c
 simp only at hs ⊢
 unfold qEb qAv at hc ⊢
 simp only at hc ⊢
 refine qAb hT Tryz.func74 rfl rfl rfl rfl ?_;intro E hE
 refine ww ?_
 refine wwc hc ?_
 refine ww ?_
 refine qAa rfl (fun c1=>?_) (fun c1=>?_)
 ·rw [if_pos (by simpa using c1)]
  refine ww ?_
  exact wwr
 rw [if_neg (by simpa using c1)]
 refine ww ?_
 refine qAa rfl (fun c2=>?_) (fun c2=>?_)
 ·rw [if_pos (by simpa using c2)]
  refine ww ?_
  exact wwr
 rw [if_neg (by simpa using c2)]
 refine ww ?_
 refine qAa rfl (fun c3=>?_) (fun c3=>?_)
 ·rw [if_pos (by simpa using c3)]
  refine ww ?_
  exact wwr
 rw [if_neg (by simpa using c3)]
 refine ww ?_
 exact wwr
theorem qSr (a b:Nat) (ha:1≤a∧a < pG) (hb:1≤b∧b < pG):Spec Tryz.prog 366 [.I (a:Int),.I (b:Int)] [] (fun r h'=>r=.tup [.I ((a*b % pG:Nat):Int),.I 0]∧h'=[]):=by
 have hpg:pG=2147483579:=rfl
 have h1:=qFy (a:Int)
 have h2:=qFy (b:Int)
 rw [show qEy (a:Int)=true by unfold qEy;exact decide_eq_true (by omega)] at h1
 rw [show qEy (b:Int)=true by unfold qEy;exact decide_eq_true (by omega)] at h2
 have hm:a*b≤2147483579*2147483579:=Nat.mul_le_mul (by omega) (by omega)
 have hw:IntKind.i64.wrap ((a:Int)*(b:Int))=((a*b:Nat):Int):=by rw [qAe (by rw [← Int.natCast_mul];omega)];simp
 have ht:Int.tmod (IntKind.i64.wrap ((a:Int)*(b:Int))) 2147483579=((a*b % pG:Nat):Int):=by rw [hw];rfl
 refine qAb hT Tryz.func366 rfl rfl rfl rfl ?_;intro E hE
 refine ww ?_
 refine wwc h1 ?_
 refine ww ?_
 refine wwgc h2 ?_
 refine ww ?_
 refine qAa rfl (fun c1=>?_) (fun c1=>?_)
 ·exact absurd c1 (by simp)
 refine ww ?_
 refine rq ⟨rfl,rfl⟩ rfl (AV.le.tup ⟨AV.le.eq (congrArg (fun x=>AV.d (Dat.int .i64 x)) ht),.refl _,trivial⟩)
theorem vBi (k:Nat) (hk:1≤k∧k < qG) (msg:List UInt8) (hl:msg.length≤700000):Spec Tryz.prog 323 [.I ((qFg k:Nat):Int),.d (.sl 1 (qAj msg)),.agg [.I (((qEx k msg).1:Nat):Int),.I (((qEx k msg).2:Nat):Int)]] [] (fun r h'=>r=.d (.bool true)∧h'=[]):=by
 have hq:=qG_val
 have hpg:pG=2147483579:=rfl
 have hel:=qFf ((qFg k:Nat):Int)
 rw [pubS_elem hk] at hel
 obtain ⟨r1,r2⟩:=signS_range k msg
 have hv:=verS_sign k msg
 generalize (qEx k msg).1=e at r1 hv ⊢
 generalize (qEx k msg).2=s at r2 hv ⊢
 have x1:=qKu (e:Int)
 rw [show qFx (e:Int)=true from decide_eq_true (by omega)] at x1
 have x2:=qKu (s:Int)
 rw [show qFx (s:Int)=true from decide_eq_true (by omega)] at x2
 have hpk:1≤qFg k∧qFg k < pG:=qJa k
 have p1:=qLp 4 s (by omega) (by omega)
 have p2:=qLp (qFg k) (qG-e) hpk (by omega)
 have q1:=qJa s
 have q2:1≤qFg k ^ (qG-e) % pG∧qFg k ^ (qG-e) % pG < pG:=by
  unfold qFg
  rw [← Nat.pow_mod,← Nat.pow_mul]
  exact qJa _
 unfold vMq at hv
 generalize 4 ^ s % pG=a at p1 q1 hv
 generalize qFg k ^ (qG-e) % pG=b at p2 q2 hv
 have hm:=qSr a b q1 q2
 have hlt:a*b % pG < pG:=Nat.mod_lt _ (by omega)
 generalize a*b % pG=c at hm hv hlt
 have hn:=qIe c msg qG (by omega) hl (by omega)
 rw [show qNn c msg qG=e by simpa using hv] at hn
 have hw:IntKind.i64.wrap (1073741789-(e:Int))=((qG-e:Nat):Int):=by rw [qAe (by omega)];omega
 generalize qFg k=pk at hel p2 hpk
 refine qAb hT Tryz.func323 rfl rfl rfl rfl ?_;intro E hE
 refine ww ?_
 refine wwc hel ?_
 refine ww ?_
 refine wwgc x1 ?_
 refine ww ?_
 refine wwgc x2 ?_
 refine ww ?_
 refine qAa rfl (fun c1=>?_) (fun c1=>?_)
 ·exact absurd c1 (by simp)
 refine ww ?_
 refine wwc p1 ?_
 refine ww ?_
 rw [hw]
 refine wwc p2 ?_
 refine ww ?_
 refine wwc hm ?_
 refine ww ?_
 refine wwg ?_
 refine wwdc hn ?_
 refine wwg ?_
 refine ww ?_
 refine rq ⟨rfl,rfl⟩ rfl (.bool (by simp))
def IssBy (k:Nat) (c:Nal):Prop:=qCu c=0∧c.sE=(((qEx k (wrL [qBk c])).1:Nat):Int)∧c.sS=(((qEx k (wrL [qBk c])).2:Nat):Int)
theorem issBy_issue {k:Nat} {c:Nal} (h:qCu c=0):IssBy k (qBm k c):=⟨h,rfl,rfl⟩
theorem qMb (k:Nat) (hk:1≤k∧k < qG) (c:Nal) (hs:c.sta.length≤3) (h:IssBy k c):Spec Tryz.prog 244 [.I ((qFg k:Nat):Int),qEb c] [] (fun r h'=>r=.d (.bool true)∧h'=[]):=by
 have hB:=qQr c (by omega)
 obtain ⟨i1,i2,i3⟩:=h
 have hbl:=qHh c hs
 rw [show qHg c=(wrL [qBk c],0) by unfold qHg;rw [if_neg (by rw [i1];simp)]] at hB
 have hV:=vBi k hk (wrL [qBk c]) (by omega)
 rw [← i2,← i3] at hV
 generalize wrL [qBk c]=B at hB hV
 clear i1 i2 i3 hbl
 generalize qFg k=pk at hV
 obtain ⟨sta,kind,num,iss,own,key,frm,unt,til,sE,sS⟩:=c
 simp only at hs hV ⊢
 unfold qEb qAv at hB ⊢
 simp only at hB ⊢
 refine qAb hT Tryz.func244 rfl rfl rfl rfl ?_;intro E hE
 refine ww ?_
 refine wwc hB ?_
 refine ww ?_
 refine qCh rfl rfl rfl (fun hg=>⟨⟨hg,hg,hg,True.intro⟩,qBl rfl rfl hV rfl rfl rfl⟩) ?_
 refine ww ?_
 exact wwr
theorem vBl (k:Nat) (hk:1≤k∧k < qG) (c:Nal) (hs:c.sta.length≤3) (h:IssBy k c) (h1:c.kind=1) (h2:c.key=((qFg k:Nat):Int)):Spec Tryz.prog 156 [qEb c] [] (fun r h'=>r=.d (.bool true)∧h'=[]):=by
 have hV:=qMb k hk c hs h
 rw [← h2] at hV
 clear h h2
 obtain ⟨sta,kind,num,iss,own,key,frm,unt,til,sE,sS⟩:=c
 simp only at hs h1 hV ⊢
 subst h1
 unfold qEb qAv at hV ⊢
 simp only at hV ⊢
 refine qAb hT Tryz.func156 rfl rfl rfl rfl ?_;intro E hE
 refine ww ?_
 refine wwgc hV ?_
 refine ww ?_
 exact wwr
theorem qLx (k:Nat) (hk:1≤k∧k < qG) (a b:Nal) (day:Int) (hsb:b.sta.length≤3) (hst:a.sta=b.sta) (hio:b.iss=a.own) (hka:a.kind=1∨a.kind=2) (hkb:b.kind≠1) (ha:onF a day=0) (hb:onF b day=0) (hkey:a.key=((qFg k:Nat):Int)) (hib:IssBy k b) :
  Spec Tryz.prog 158 [qEb a,qEb b,.I day] [] (fun r h'=>r=.d (.bool true)∧h'=[]):=by
 have o1:=qSp a (by rw [hst];omega) day
 have o2:=qSp b (by omega) day
 rw [ha] at o1
 rw [hb] at o2
 have hV:=qMb k hk b hsb hib
 rw [← hkey] at hV
 clear ha hb hib hkey
 obtain ⟨sta,kind,num,iss,own,key,frm,unt,til,sE,sS⟩:=b
 obtain ⟨sta',kind',num',iss',own',key',frm',unt',til',sE',sS'⟩:=a
 simp only at hsb hst hio hka hkb hV
 subst hst hio
 unfold qEb qAv at o1 o2 hV ⊢
 simp only at o1 o2 hV ⊢
 refine qAb hT Tryz.func158 rfl rfl rfl rfl ?_;intro E hE
 refine ww ?_
 refine wwgc o1 ?_
 refine ww ?_
 refine wwgc o2 ?_
 refine ww ?_
 refine wwgc hV ?_
 refine ww ?_
 refine rq ⟨rfl,rfl⟩ rfl (.bool ?_)
 rcases hka with rfl | rfl <;> simp [hkb]
theorem qKs (a b:Nal) (day:Int) (hio:b.iss≠a.own) :
  Spec Tryz.prog 158 [qEb a,qEb b,.I day] [] (fun r h'=>r=.d (.bool false)∧h'=[]):=by
 obtain ⟨sta,kind,num,iss,own,key,frm,unt,til,sE,sS⟩:=b
 obtain ⟨sta',kind',num',iss',own',key',frm',unt',til',sE',sS'⟩:=a
 simp only at hio
 have hf:(iss == own')=false:=by simpa using hio
 unfold qEb qAv
 simp only
 refine qAb hT Tryz.func158 rfl rfl rfl rfl ?_;intro E hE
 refine ww ?_
 refine qCh (v:=.I 0) rfl rfl rfl (fun hg=>absurd hg (by simp [gval,hf])) ?_
 refine ww ?_
 refine qCh (v:=.I 0) rfl rfl rfl (fun hg=>absurd hg (by simp [gval,hf])) ?_
 refine ww ?_
 refine qCh (v:=.d (.bool false)) rfl rfl rfl (fun hg=>absurd hg (by simp [gval,hf])) ?_
 refine ww ?_
 refine rq ⟨rfl,rfl⟩ rfl (.bool ?_)
 simp [hf]
theorem encNls_len2 (l:List Nal):(qAm l).length=l.length:=by simp [qAm]
theorem encNls_get {l:List Nal} {i:Nat} (h:i < l.length):(qAm l)[((i:Int)).toNat]?=some (qCt l[i]):=by simp [qAm,h]
theorem numberN_spec (l:List Nal) (s:List UInt8) (hl:l.length≤1000000) (hall:∀ c,c∈l→c.sta=s):Spec Tryz.prog 75 [.d (.sl 11 (qAm l)),.d (.str s)] [] (fun r h'=>r=.I (l.length:Int)∧h'=[]):=by
 have hll:=encNls_len2 l
 refine qAb hT Tryz.func75 rfl rfl rfl rfl ?_;intro E hE
 refine ww ?_
 refine qBg (ι:=Nat) (fun i=>[(1,.d (.str s)),(8,.d (.sl 11 (qAm l))),(9,.I ((qAm l).length:Int)),(5,.I (i:Int)),(10,.I (i:Int))]) (fun _=>[]) (fun i=>i≤l.length) (fun i=>l.length-i) 0 (by omega) yf (HLe.refl _) ?_
 intro i hi
 have hwr:IntKind.i64.wrap ((i:Int)+1)=((i+1:Nat):Int):=by rw [qAe (by omega)];simp
 refine ww ?_
 refine qAa rfl (fun c3=>?_) (fun c3=>?_)
 ·have c3':i < l.length:=by rw [hll] at c3;simpa using c3
  have hel:=encNls_get c3'
  have hst:=hall l[i] (List.getElem_mem c3')
  generalize l[i]=x at hel hst
  obtain ⟨sta,kind,num,iss,own,key,frm,unt,til,sE,sS⟩:=x
  simp only at hst
  subst hst
  unfold qCt at hel
  simp only at hel
  refine ww ?_
  refine wwi hel ?_
  refine ww ?_
  refine qAa rfl (fun c4=>?_) (fun c4=>?_)
  ·refine ww ?_
   exact ⟨i+1,[_],c3',by omega,⟨.refl _,.refl _,.refl _,.int hwr,.int hwr,trivial⟩,HLe.refl _,Env.below_mono hE (by simp),rfl,rfl⟩
  ·simp at c4
 ·have c3':i=l.length:=by rw [hll] at c3;simp at c3;omega
  subst c3'
  refine ww ?_
  exact wwr
end Tdoc
namespace Tdoc
open Go
def utoS:List UInt8:=[85,84,79]
structure CertIs (c:Nal) (k:Nat) (kind num iss own:Int) (key:Nat) (day:Int):Prop where
 by':IssBy k c
 sta:c.sta=utoS
 kind:c.kind=kind
 num:c.num=num
 iss:c.iss=iss
 own:c.own=own
 key:c.key=((qFg key:Nat):Int)
 frm:c.frm≤day
 til:40730≤c.til
theorem CertIs.mono {c:Nal} {k:Nat} {kind num iss own:Int} {key:Nat} {d1 d2:Int} (h:CertIs c k kind num iss own key d1) (hd:d1≤d2):CertIs c k kind num iss own key d2:=⟨h.by',h.sta,h.kind,h.num,h.iss,h.own,h.key,by have:=h.frm;omega,h.til⟩
theorem CertIs.on {c:Nal} {k:Nat} {kind num iss own:Int} {key:Nat} {day:Int} (h:CertIs c k kind num iss own key day) (hd:day≤40730):onF c day=0:=by
 unfold onF
 have h1:=h.by'.1
 have h2:=h.frm
 have h3:=h.til
 rw [if_neg (by simpa using h1),if_neg (by omega),if_neg (by omega)]
theorem certIs_issue {a:Aut} (ha:qCw a.sta=true) (hs:a.sta=utoS) (hn:1≤a.next∧a.next≤1000000) {kind:Int} {issuer own key:Nat} {day u t:Int} (k:Nat) (hk:1≤kind∧kind≤4) (hi:1≤issuer∧issuer≤1000000000) (ho:1≤own∧own≤1000000000)
  (hd:issuer=own↔kind=1) (hkey:1≤key∧key < qG) (hday:40000≤day∧day≤40700) (hu:0≤u∧u≤t) (ht:730≤t):CertIs (qBm k (qEc a kind issuer own key day u t)) k kind a.next issuer own key day:=by
 refine ⟨issBy_issue (certF_chk ha hn hk hi ho hd hkey (by omega) hu),hs,rfl,rfl,rfl,rfl,rfl,Int.le_refl _,?_⟩
 show 40730≤qGs day t
 unfold qGs
 omega
structure Tru (a:Aut) (day:Int):Prop where
 good:GoodA a
 sta:a.sta=utoS
 nr:a.roots.length=a.secs.length
 nl:a.links.length+1=a.secs.length
 root:∀ i c,a.roots[i]?=some c→CertIs c (a.secs.getD i 0) 1 (if i=0 then 1 else 4*i) (i+1) (i+1) (a.secs.getD i 0) day
 link:∀ i c,a.links[i]?=some c→CertIs c (a.secs.getD i 0) 2 (4*i+5) (i+1) (i+2) (a.secs.getD (i+1) 0) day
 signer:∃ own,CertIs a.signer (a.secs.getD (a.secs.length-1) 0) 3 (4*a.secs.length-2) a.secs.length own a.sk day
 lister:∃ own,CertIs a.lister (a.secs.getD (a.secs.length-1) 0) 4 (4*a.secs.length-1) a.secs.length own a.lk day
theorem Tru.mono {a:Aut} {d1 d2:Int} (h:Tru a d1) (hd:d1≤d2):Tru a d2 :=
 ⟨h.good,h.sta,h.nr,h.nl,fun i c hc=>(h.root i c hc).mono hd,fun i c hc=>(h.link i c hc).mono hd,h.signer.imp fun _ h=>h.mono hd,h.lister.imp fun _ h=>h.mono hd⟩
theorem getD_app1 {l:List Nat} {x:Nat} {i:Nat} (h:i < l.length):(l++[x]).getD i 0=l.getD i 0:=by
 simp [List.getD,List.getElem?_append_left h]
theorem getD_app2 {l:List Nat} {x:Nat}:(l++[x]).getD l.length 0=x:=by
 simp [List.getD]
theorem qTf {α:Type} {l:List α} {x c:α} {i:Nat} (h:(l++[x])[i]?=some c):(i < l.length∧l[i]?=some c)∨(i=l.length∧c=x):=by
 rcases Nat.lt_trichotomy i l.length with h1 | h1 | h1
 ·rw [List.getElem?_append_left h1] at h
  exact .inl ⟨h1,h⟩
 ·subst h1
  rw [List.getElem?_append_right (Nat.le_refl _)] at h
  simp at h
  exact .inr ⟨rfl,h.symm⟩
 ·rw [List.getElem?_append_right (by omega)] at h
  rw [List.getElem?_eq_none (by simp;omega)] at h
  cases h
theorem signersF_tru {a:Aut} (hok:AutOk a) (hs:a.sta=utoS) (hn:a.next≤98) (n:Nat) (hl:a.secs.length=n+1) (hn8:n≤8) (hnx:a.next=4*n+2) {day:Int} (hday:40000≤day∧day≤40700) :
  (∃ own,CertIs (qAz a day).signer (a.secs.getD n 0) 3 (4*(n+1:Nat)-2) (n+1:Nat) own (qAz a day).sk day) ∧
  (∃ own,CertIs (qAz a day).lister (a.secs.getD n 0) 4 (4*(n+1:Nat)-1) (n+1:Nat) own (qAz a day).lk day):=by
 have h1:=hok.next
 have c1:=certIs_issue (a:=a) hok.sta hs ⟨by omega,by omega⟩ (kind:=3) (issuer:=n+1) (own:=1000+a.next) (key:=qCn a.seed) (day:=day) (u:=90) (t:=3740) (a.secs.getD n 0) (by omega) (by omega) (by omega) ⟨fun h=>by omega,fun h=>by omega⟩ (secS_range _) hday (by omega) (by omega)
 have c2:=certIs_issue (a:={ a with signer:=qBm (a.secs.getD n 0) (qEc a 3 (n+1) (1000+a.next) (qCn a.seed) day 90 3740),sk:=qCn a.seed,next:=a.next+1,seed:=qBe a.seed }) hok.sta hs ⟨by simp only;omega,by simp only;omega⟩ (kind:=4) (issuer:=n+1) (own:=1000+(a.next+1)) (key:=qCn (qBe a.seed)) (day:=day) (u:=365) (t:=730) (a.secs.getD n 0) (by omega) (by omega) (by omega) ⟨fun h=>by omega,fun h=>by omega⟩ (secS_range _) hday (by omega) (by omega)
 have e:qAz a day={ a with signer:=qBm (a.secs.getD n 0) (qEc a 3 (n+1) (1000+a.next) (qCn a.seed) day 90 3740),sk:=qCn a.seed,lk:=qCn (qBe a.seed),next:=a.next+1+1,seed:=qBe (qBe a.seed),lister:=qBm (a.secs.getD n 0) (qEc { a with signer:=qBm (a.secs.getD n 0) (qEc a 3 (n+1) (1000+a.next) (qCn a.seed) day 90 3740),sk:=qCn a.seed,next:=a.next+1,seed:=qBe a.seed } 4 (n+1) (1000+(a.next+1)) (qCn (qBe a.seed)) day 365 730) }:=by
  unfold qAz
  simp only [hl,Nat.add_sub_cancel]
 rw [e]
 have e1:((a.next:Nat):Int)=4*((n+1:Nat):Int)-2:=by omega
 have e2:((a.next+1:Nat):Int)=4*((n+1:Nat):Int)-1:=by omega
 rw [e1] at c1
 simp only [e2] at c2
 exact ⟨⟨_,c1⟩,⟨_,c2⟩⟩
theorem utoS_state:qCw utoS=true:=by decide
theorem vEq {seed:List UInt8} (hseed:seed.length≤1000):∃ a,qIq utoS seed 40000=(a,0)∧Tru a 40000∧a.secs.length=1:=by
 have hgd:InvA (qIq utoS seed 40000).1:=beginA_inv utoS seed 40000 hseed
 have e0:qIq utoS seed 40000=(qAz (qCb (aut1 utoS seed) 40000) 40000,0):=by
  rw [beginA_eq,if_neg (by rw [utoS_state];simp),if_neg (by omega),beginF_eq]
 rw [e0] at hgd
 refine ⟨_,e0,?_⟩
 simp only at hgd
 have hok:=qSe utoS_state hseed
 have hr:=rootF_ok hok (by show 1≤99;omega) 40000
 have hl0:(aut1 utoS seed).secs.length=0:=rfl
 have hx0:(aut1 utoS seed).next=1:=rfl
 have hsg:=signersF_tru (a:=qCb (aut1 utoS seed) 40000) hr.1 rfl (by omega) 0 (by omega) (by omega) (by omega) (day:=40000) (by omega)
 have hs2:=(signersF_ok hr.1 (by omega) 40000).2.1
 have hrt:=certIs_issue (a:=aut1 utoS seed) utoS_state rfl ⟨by omega,by omega⟩ (kind:=1) (issuer:=1) (own:=1) (key:=qCn seed) (day:=40000) (u:=1825) (t:=5475) (qCn seed) (by omega) (by omega) (by omega) ⟨fun _=>rfl,fun _=>rfl⟩ (secS_range _) (by omega) (by omega) (by omega)
 have er:(qAz (qCb (aut1 utoS seed) 40000) 40000).roots=[qBm (qCn seed) (qEc (aut1 utoS seed) 1 1 1 (qCn seed) 40000 1825 5475)]:=rfl
 have es:(qAz (qCb (aut1 utoS seed) 40000) 40000).secs=[qCn seed]:=rfl
 have el:(qAz (qCb (aut1 utoS seed) 40000) 40000).links=[]:=rfl
 have esr:(qCb (aut1 utoS seed) 40000).secs=[qCn seed]:=rfl
 have est:(qAz (qCb (aut1 utoS seed) 40000) 40000).sta=utoS:=rfl
 rw [esr] at hsg
 generalize qAz (qCb (aut1 utoS seed) 40000) 40000=A at hgd hsg er es el est
 generalize qEc (aut1 utoS seed) 1 1 1 (qCn seed) 40000 1825 5475=c at hrt er
 have hne:A≠aut0:=fun h=>by rw [h] at es;exact absurd es (by simp [aut0])
 have hgd:=hgd.resolve_right hne
 refine ⟨⟨hgd,est,by rw [er,es];rfl,by rw [el,es];rfl,?_,?_,?_,?_⟩,by rw [es];rfl⟩
 ·intro i c' hc
  rw [er] at hc
  cases i with
  | zero =>
   obtain rfl:qBm (qCn seed) c=c':=by simpa using hc
   rw [es]
   exact hrt
  | succ j=>simp at hc
 ·intro i c' hc
  rw [el] at hc
  simp at hc
 ·rw [es];exact hsg.1
 ·rw [es];exact hsg.2
theorem vGl {a:Aut} {d day:Int} (h:Tru a d) (hd:40000≤d∧d≤day∧day≤40700) (hn:a.secs.length < 8):∃ b,qVy a day=(b,0)∧Tru b day∧b.secs.length=a.secs.length+1:=by
 have h:=h.mono hd.2.1
 have hgd:InvA (qVy a day).1:=rollA_inv (.inl h.good) day
 have hg:=h.good
 have hnx:=hg.next
 have hn1:=hg.n
 have e0:qVy a day=(qAz (qFn (qCb a day) day) day,0):=by
  rw [rollA_eq,if_neg (by omega),if_neg (by omega),if_neg (by omega),rollF_eq]
 rw [e0] at hgd
 refine ⟨_,e0,?_⟩
 simp only at hgd
 have hr:=rootF_ok hg.ok (by omega) day
 have hlk:=linkF_ok hr.1 (by omega) day
 have hsg0:=signersF_ok hlk.1 (by omega) day
 obtain ⟨n,hn0⟩:∃ n,a.secs.length=n+1:=⟨a.secs.length-1,by omega⟩
 have hsg:=signersF_tru (a:=qFn (qCb a day) day) hlk.1 h.sta (by omega) (n+1) (by rw [hlk.2.1];omega) (by omega) (by omega) (day:=day) (by omega)
 have hrt:=certIs_issue (a:=a) hg.ok.sta h.sta ⟨by omega,by omega⟩ (kind:=1) (issuer:=n+2) (own:=n+2) (key:=qCn a.seed) (day:=day) (u:=1825) (t:=5475) (qCn a.seed) (by omega) (by omega) (by omega) ⟨fun _=>rfl,fun _=>rfl⟩ (secS_range _) (by omega) (by omega) (by omega)
 have hln:=certIs_issue (a:=qCb a day) hg.ok.sta h.sta ⟨by omega,by omega⟩ (kind:=2) (issuer:=n+1) (own:=n+2) (key:=qCn a.seed) (day:=day) (u:=1825) (t:=5475) (a.secs.getD n 0) (by omega) (by omega) (by omega) ⟨fun h=>by omega,fun h=>by omega⟩ (secS_range _) (by omega) (by omega) (by omega)
 have ers:(qCb a day).secs=a.secs++[qCn a.seed]:=rfl
 have g1:(a.secs++[qCn a.seed]).getD n 0=a.secs.getD n 0:=getD_app1 (by omega)
 have g2:(a.secs++[qCn a.seed]).getD (n+1) 0=qCn a.seed:=by rw [← hn0];exact getD_app2
 have er:(qAz (qFn (qCb a day) day) day).roots=a.roots++[qBm (qCn a.seed) (qEc a 1 (n+2) (n+2) (qCn a.seed) day 1825 5475)]:=by
  show a.roots++[qBm (qCn a.seed) (qEc a 1 (a.secs.length+1) (a.secs.length+1) (qCn a.seed) day 1825 5475)]=_
  rw [hn0]
 have es:(qAz (qFn (qCb a day) day) day).secs=a.secs++[qCn a.seed]:=by rw [hsg0.2.1,hlk.2.1,ers]
 have el:(qAz (qFn (qCb a day) day) day).links=a.links++[qBm (a.secs.getD n 0) (qEc (qCb a day) 2 (n+1) (n+2) (qCn a.seed) day 1825 5475)]:=by
  show a.links++[qBm ((a.secs++[qCn a.seed]).getD ((a.secs++[qCn a.seed]).length-2) 0) (qEc (qCb a day) 2 ((a.secs++[qCn a.seed]).length-1) (a.secs++[qCn a.seed]).length ((a.secs++[qCn a.seed]).getD ((a.secs++[qCn a.seed]).length-1) 0) day 1825 5475)]=_
  have:(a.secs++[qCn a.seed]).length=n+2:=by simp [hn0]
  rw [this,show n+2-2=n from rfl,show n+2-1=n+1 from rfl,g1,g2]
 have est:(qAz (qFn (qCb a day) day) day).sta=utoS:=h.sta
 have e3:(qFn (qCb a day) day).secs=a.secs++[qCn a.seed]:=by rw [hlk.2.1,ers]
 rw [e3,g2] at hsg
 have hx3:(qCb a day).next=4*(n+1)+1:=by omega
 rw [hx3] at hln
 rw [hnx,hn0] at hrt
 generalize qAz (qFn (qCb a day) day) day=A at hgd hsg er es el est
 generalize qBm (qCn a.seed) (qEc a 1 (n+2) (n+2) (qCn a.seed) day 1825 5475)=cr at hrt er
 generalize qBm (a.secs.getD n 0) (qEc (qCb a day) 2 (n+1) (n+2) (qCn a.seed) day 1825 5475)=cl at hln el
 have hne:A≠aut0:=fun h=>by rw [h] at es;exact absurd es (by simp [aut0])
 have hgd:=hgd.resolve_right hne
 have hal:A.secs.length=n+2:=by rw [es];simp [hn0]
 refine ⟨⟨hgd,est,?_,?_,?_,?_,?_,?_⟩,by omega⟩
 ·rw [er,hal];simp [h.nr,hn0]
 ·rw [el,hal];have:=h.nl;simp;omega
 ·intro i c hc
  rw [er] at hc
  rcases qTf hc with ⟨h1,h2⟩ | ⟨h1,h2⟩
  ·rw [es,getD_app1 (by have:=h.nr;omega)]
   exact h.root i c h2
  ·have hi:i=n+1:=by rw [h1,h.nr,hn0]
   subst hi h2
   rw [es,g2,if_neg (by omega)]
   have:=hrt
   refine ⟨this.by',this.sta,this.kind,?_,?_,?_,this.key,this.frm,this.til⟩
   ·rw [this.num];omega
   ·rw [this.iss];omega
   ·rw [this.own];omega
 ·intro i c hc
  rw [el] at hc
  have hll:a.links.length=n:=by have:=h.nl;omega
  rcases qTf hc with ⟨h1,h2⟩ | ⟨h1,h2⟩
  ·rw [es,getD_app1 (by omega),getD_app1 (by omega)]
   exact h.link i c h2
  ·have hi:i=n:=by omega
   subst hi h2
   rw [es,g1,g2]
   have:=hln
   refine ⟨this.by',this.sta,this.kind,?_,?_,?_,this.key,this.frm,this.til⟩
   ·rw [this.num];omega
   ·rw [this.iss];omega
   ·rw [this.own];omega
 ·rw [hal,es,show n+2-1=n+1 from rfl,g2];exact hsg.1
 ·rw [hal,es,show n+2-1=n+1 from rfl,g2];exact hsg.2
open Go Go.Proofs
theorem sameNl_iff (x c:Nal):qEr (nlDs x) (nlDs c)=true↔x=c:=by
 obtain ⟨a1,a2,a3,a4,a5,a6,a7,a8,a9,a10,a11⟩:=x
 obtain ⟨b1,b2,b3,b4,b5,b6,b7,b8,b9,b10,b11⟩:=c
 simp [qEr,qTh]
theorem sameNl_ne {x c:Nal} (h:x≠c):qEr (nlDs x) (nlDs c)=false:=by
 cases hs:qEr (nlDs x) (nlDs c) with
 | false=>rfl
 | true=>exact absurd ((sameNl_iff x c).1 hs) h
def srH (day:Int) (C:List Nal) (R:List Int):List AObj:=[.row [.d (.int .i64 day),.sl 11 (qAm C) (.right 1),.sl 1 (qFd R) (.right 2)],.right 11 (qAm C).length,.right 1 (qFd R).length]
theorem encNls_snoc2 (l:List Nal) (c:Nal):qAm (l++[c])=qAm l++[qCt c]:=by simp [qAm]
theorem encIs_snoc (l:List Int) (n:Int):qFd (l++[n])=qFd l++[[.int .i64 n]]:=by simp [qFd]
theorem vKu (day:Int) (C:List Nal) (R:List Int) (c:Nal) (round:Int) (hl:C.length≤1000) (j:Nat) (hj:C[j]?=some c) :
  Spec Tryz.prog 157 [.ptr 0 0,qEb c,.I round] (srH day C R) (fun r h'=>r=.d (.bool false)∧h'=srH day C R):=by
 have hll:=encNls_len2 C
 have hjl:=(List.getElem?_eq_some_iff.1 hj).1
 unfold srH
 obtain ⟨sta,kind,num,iss,own,key,frm,unt,til,sE,sS⟩:=c
 unfold qEb qAv
 simp only
 refine qAb hT Tryz.func157 rfl rfl rfl rfl ?_;intro E hE
 refine ww ?_
 refine qBg (ι:=Nat) (fun i=>[(0,.ptr 0 0),(4,.ptr 3 0),(12,.d (.sl 11 (qAm C))),(13,.I ((qAm C).length:Int)),(14,.I (i:Int))]) (fun _=>[.row [.I day,.sl 11 (qAm C) (.right 1),.sl 1 (qFd R) (.right 2)],.right 11 (qAm C).length,.right 1 (qFd R).length,.row (qAv ⟨sta,kind,num,iss,own,key,frm,unt,til,sE,sS⟩)]) (fun i=>i≤j) (fun i=>C.length-i) 0 (by omega) ⟨.refl _,.refl _,.dat,.refl _,.refl _,trivial⟩ (HLe.refl _) ?_
 intro i hi
 have hwr:IntKind.i64.wrap ((i:Int)+1)=((i+1:Nat):Int):=by rw [qAe (by omega)];simp
 refine ww ?_
 refine qAa rfl (fun c3=>?_) (fun c3=>?_)
 ·have c3':i < C.length:=by rw [hll] at c3;simpa using c3
  have hel:=encNls_get c3'
  have hcase:C[i]=⟨sta,kind,num,iss,own,key,frm,unt,til,sE,sS⟩∨i < j:=by
   rcases Nat.lt_or_ge i j with h | h
   ·exact .inr h
   ·have:i=j:=by omega
    subst this
    rw [List.getElem?_eq_getElem c3'] at hj
    exact .inl (Option.some.inj hj)
  have hsi:=sameNl_iff C[i] ⟨sta,kind,num,iss,own,key,frm,unt,til,sE,sS⟩
  generalize C[i]=x at hel hcase hsi
  obtain ⟨sta',kind',num',iss',own',key',frm',unt',til',sE',sS'⟩:=x
  unfold qCt at hel
  simp only at hel
  refine ww ?_
  refine wwi hel ?_
  refine ww ?_
  refine qAd (qAc (nestEq_ok (ds:=nlDs ⟨sta',kind',num',iss',own',key',frm',unt',til',sE',sS'⟩) (es:=nlDs ⟨sta,kind,num,iss,own,key,frm,unt,til,sE,sS⟩) [none,some .i64,some .i64,some .i64,some .i64,some .i64,some .i64,some .i64,some .i64] [some .i64,some .i64] rfl (by kernel_rfl) (by kernel_rfl) (by kernel_rfl) (by kernel_rfl) rfl rfl rfl rfl)) rfl ?_
  generalize qEr (nlDs ⟨sta',kind',num',iss',own',key',frm',unt',til',sE',sS'⟩) (nlDs ⟨sta,kind,num,iss,own,key,frm,unt,til,sE,sS⟩)=b at hsi
  refine ww ?_
  refine qAa rfl (fun c4=>?_) (fun c4=>?_)
  ·refine ww ?_
   exact wwr
  ·rcases hcase with h | h
   ·rw [hsi.2 h] at c4;cases c4
   ·refine ww ?_
    exact ⟨i+1,[_],by omega,by omega,⟨.refl _,.refl _,.refl _,.refl _,.int hwr,trivial⟩,HLe.refl _,Env.below_mono hE (by simp),rfl,rfl⟩
 ·rw [hll] at c3
  simp at c3
  omega
theorem vKv (day:Int) (C:List Nal) (R:List Int) (c:Nal) (round:Int) (hl:C.length≤1000∧R.length≤1000) (hn:∀ x,x∈C→x≠c) :
  Spec Tryz.prog 157 [.ptr 0 0,qEb c,.I round] (srH day C R) (fun r h'=>r=.d (.bool true)∧h'=srH day (C++[c]) (R++[round])):=by
 have hll:=encNls_len2 C
 have hrl:=encIs_len R
 unfold srH
 rw [encNls_snoc2,encIs_snoc]
 obtain ⟨sta,kind,num,iss,own,key,frm,unt,til,sE,sS⟩:=c
 unfold qEb qAv qCt
 simp only
 refine qAb hT Tryz.func157 rfl rfl rfl rfl ?_;intro E hE
 refine ww ?_
 refine qBg (ι:=Nat) (fun i=>[(0,.ptr 0 0),(2,.I round),(4,.ptr 3 0),(12,.d (.sl 11 (qAm C))),(13,.I ((qAm C).length:Int)),(14,.I (i:Int))]) (fun _=>[.row [.I day,.sl 11 (qAm C) (.right 1),.sl 1 (qFd R) (.right 2)],.right 11 (qAm C).length,.right 1 (qFd R).length,.row (qAv ⟨sta,kind,num,iss,own,key,frm,unt,til,sE,sS⟩)]) (fun i=>i≤C.length) (fun i=>C.length-i) 0 (by omega) ⟨.refl _,.refl _,.refl _,.dat,.refl _,.refl _,trivial⟩ (HLe.refl _) ?_
 intro i hi
 have hwr:IntKind.i64.wrap ((i:Int)+1)=((i+1:Nat):Int):=by rw [qAe (by omega)];simp
 refine ww ?_
 refine qAa rfl (fun c3=>?_) (fun c3=>?_)
 ·have c3':i < C.length:=by rw [hll] at c3;simpa using c3
  have hel:=encNls_get c3'
  have hsi:=sameNl_ne (hn C[i] (List.getElem_mem c3'))
  generalize C[i]=x at hel hsi
  obtain ⟨sta',kind',num',iss',own',key',frm',unt',til',sE',sS'⟩:=x
  unfold qCt at hel
  simp only at hel
  refine ww ?_
  refine wwi hel ?_
  refine ww ?_
  refine qAd (qAc (nestEq_ok (ds:=nlDs ⟨sta',kind',num',iss',own',key',frm',unt',til',sE',sS'⟩) (es:=nlDs ⟨sta,kind,num,iss,own,key,frm,unt,til,sE,sS⟩) [none,some .i64,some .i64,some .i64,some .i64,some .i64,some .i64,some .i64,some .i64] [some .i64,some .i64] rfl (by kernel_rfl) (by kernel_rfl) (by kernel_rfl) (by kernel_rfl) rfl rfl rfl rfl)) rfl ?_
  rw [hsi]
  refine ww ?_
  refine qAa rfl (fun c4=>?_) (fun c4=>?_)
  ·cases c4
  ·refine ww ?_
   exact ⟨i+1,[_],by omega,by omega,⟨.refl _,.refl _,.refl _,.refl _,.refl _,.int hwr,trivial⟩,HLe.refl _,Env.below_mono hE (by simp),rfl,rfl⟩
 refine wwe ?_
 refine qAl (qBh (fun i=>bif Nat.beq i 8 then [1] else bif Nat.beq i 15 then [2] else bif Nat.beq i 6 then [3] else bif Nat.beq i 5||Nat.beq i 12||Nat.beq i 18||Nat.beq i 21 then [0] else []) (fun i=>bif Nat.beq i 8 then [1] else bif Nat.beq i 15 then [2] else bif Nat.beq i 18||Nat.beq i 21 then [0] else []) mixed (by kernel_rfl) ?_)
 refine wwg ?_
 refine qAk (os:=[]) (fun k hk1 hk2=>buildSl_ok hT rfl rfl) rfl ?_
 refine qAk (v:=.sl 11 (qAm C++[qCt ⟨sta,kind,num,iss,own,key,frm,unt,til,sE,sS⟩]) (.right 1)) (os:=[.right 11 ((qAm C).length+1)]) (fun k hk1 hk2=>qCx (i:=1) (es2:=[qCt ⟨sta,kind,num,iss,own,key,frm,unt,til,sE,sS⟩]) hT rfl rfl rfl rfl ((hk2 1 List.mem_cons_self).trans rfl) rfl (by show ((qAm C).length+1)*(96+1)≤_;rw [hll];omega)) rfl ?_
 refine wwg ?_
 refine qAk (os:=[]) (fun k hk1 hk2=>buildSl_ok hT rfl rfl) rfl ?_
 refine qAk (v:=.sl 1 (qFd R++[[.int .i64 round]]) (.right 2)) (os:=[.right 1 ((qFd R).length+1)]) (fun k hk1 hk2=>qCx (i:=2) (es2:=[[.int .i64 round]]) hT rfl rfl rfl rfl ((hk2 2 List.mem_cons_self).trans rfl) rfl (by show ((qFd R).length+1)*(8+1)≤_;rw [hrl];omega)) rfl ?_
 refine wwg ?_
 refine ww ?_
 have e1:(qAm C++[qCt ⟨sta,kind,num,iss,own,key,frm,unt,til,sE,sS⟩]).length=(qAm C).length+1:=by simp
 have e2:(qFd R++[[Dat.int .i64 round]]).length=(qFd R).length+1:=by simp
 rw [show (qAm C++[[Dat.str sta,.int .i64 kind,.int .i64 num,.int .i64 iss,.int .i64 own,.int .i64 key,.int .i64 frm,.int .i64 unt,.int .i64 til,.int .i64 sE,.int .i64 sS]]).length=(qAm C).length+1 from e1,e2]
 exact wwr
def rds (n:Nat):List Int:=(List.range n).map fun i:Nat=>(i:Int)
theorem qWb (n:Nat):(rds n).length=n:=by simp [rds]
theorem vDc {n i:Nat} (h:i < n):(qFd (rds n))[((i:Int)).toNat]?=some [.int .i64 (i:Int)]:=by simp [rds,qFd,h]
theorem vGp (n:Nat):rds (n+1)=rds n++[(n:Int)]:=by simp [rds,List.range_succ]
theorem qXc (day:Int) (C:List Nal) (c:Nal) (m:Nat) (hl:m≤C.length∧C.length≤1000) (hn:∀ i x,i < m→C[i]?=some x→c.iss≠x.own) :
  Spec Tryz.prog 77 [.ptr 0 0,qEb c,.I (m:Int)] (srH day C (rds C.length)) (fun r h'=>r=.I (-1)∧h'=srH day C (rds C.length)):=by
 have hll:=encNls_len2 C
 unfold srH
 obtain ⟨sta,kind,num,iss,own,key,frm,unt,til,sE,sS⟩:=c
 have hf:=qKs
 unfold qEb qAv at hf ⊢
 simp only at hn ⊢
 refine qAb hT Tryz.func77 rfl rfl rfl rfl ?_;intro E hE
 refine ww ?_
 refine qBg (ι:=Nat) (fun i=>[(0,.ptr 0 0),(4,.ptr 3 0),(7,.I (-1)),(9,.I (m:Int)),(10,.I (i:Int))]) (fun _=>[.row [.I day,.sl 11 (qAm C) (.right 1),.sl 1 (qFd (rds C.length)) (.right 2)],.right 11 (qAm C).length,.right 1 (qFd (rds C.length)).length,.row (qAv ⟨sta,kind,num,iss,own,key,frm,unt,til,sE,sS⟩)]) (fun i=>i≤m) (fun i=>m-i) 0 (by omega) yf (HLe.refl _) ?_
 intro i hi
 have hwr:IntKind.i64.wrap ((i:Int)+1)=((i+1:Nat):Int):=by rw [qAe (by omega)];simp
 refine ww ?_
 refine qAa rfl (fun c3=>?_) (fun c3=>?_)
 ·have c3':i < m:=by simpa using c3
  have hel:=encNls_get (l:=C) (i:=i) (by omega)
  have hne:=hn i C[i] c3' (List.getElem?_eq_getElem _)
  generalize C[i]=x at hel hne
  have hfx:=hf x ⟨sta,kind,num,iss,own,key,frm,unt,til,sE,sS⟩ day hne
  obtain ⟨sta',kind',num',iss',own',key',frm',unt',til',sE',sS'⟩:=x
  unfold qCt at hel
  simp only at hel hfx
  refine ww ?_
  refine qDr (v:=.iptr [.int .i64 0]) rfl rfl rfl rfl (fun hg=>absurd hg (by simp [gval])) ?_
  refine ww ?_
  refine qDr (v:=.iptr [.int .i64 0]) rfl rfl rfl rfl (fun hg=>absurd hg (by simp [gval])) ?_
  refine ww ?_
  refine wwgi hel ?_
  refine ww ?_
  refine qDr rfl rfl rfl rfl (fun hg=>⟨⟨hg,hg,hg,True.intro⟩,qBl rfl rfl hfx rfl rfl rfl⟩) ?_
  refine ww ?_
  refine qAa rfl (fun c4=>?_) (fun c4=>?_)
  ·simp at c4
  ·refine ww ?_
   exact ⟨i+1,[],by omega,by omega,⟨.refl _,.refl _,.refl _,.refl _,.int hwr,trivial⟩,HLe.refl _,Env.below_mono hE (by simp),rfl,rfl⟩
 refine ww ?_
 exact wwr
theorem qQo (day:Int) (C:List Nal) (c:Nal) (m j:Nat) (x:Nal) (hl:m≤C.length∧C.length≤1000) (hj:j < m) (hx:C[j]?=some x) (hn:∀ i y,i < j→C[i]?=some y→c.iss≠y.own)
  (hf1:Spec Tryz.prog 158 [qEb x,qEb c,.I day] [] (fun r h'=>r=.d (.bool true)∧h'=[])) :
  Spec Tryz.prog 77 [.ptr 0 0,qEb c,.I (m:Int)] (srH day C (rds C.length)) (fun r h'=>r=.I (j:Int)∧h'=srH day C (rds C.length)):=by
 have hll:=encNls_len2 C
 have hrl:(qFd (rds C.length)).length=C.length:=by rw [encIs_len,qWb]
 have hrj:=vDc (n:=C.length) (i:=j) (by omega)
 unfold srH
 obtain ⟨sta,kind,num,iss,own,key,frm,unt,til,sE,sS⟩:=c
 have hf:=qKs
 unfold qEb qAv at hf hf1 ⊢
 simp only at hn hf1 ⊢
 refine qAb hT Tryz.func77 rfl rfl rfl rfl ?_;intro E hE
 refine ww ?_
 refine qBg (ι:=Nat) (fun i=>[(0,.ptr 0 0),(4,.ptr 3 0),(7,.I (if i≤j then -1 else (j:Int))),(9,.I (m:Int)),(10,.I (i:Int))]) (fun _=>[.row [.I day,.sl 11 (qAm C) (.right 1),.sl 1 (qFd (rds C.length)) (.right 2)],.right 11 (qAm C).length,.right 1 (qFd (rds C.length)).length,.row (qAv ⟨sta,kind,num,iss,own,key,frm,unt,til,sE,sS⟩)]) (fun i=>i≤m) (fun i=>m-i) 0 (by omega) yf (HLe.refl _) ?_
 intro i hi
 have hwr:IntKind.i64.wrap ((i:Int)+1)=((i+1:Nat):Int):=by rw [qAe (by omega)];simp
 rcases Nat.lt_trichotomy i j with h1 | h1 | h1
 ·rw [if_pos (by omega)]
  refine ww ?_
  refine qAa rfl (fun c3=>?_) (fun c3=>?_)
  ·have hel:=encNls_get (l:=C) (i:=i) (by omega)
   have hne:=hn i C[i] h1 (List.getElem?_eq_getElem _)
   generalize C[i]=y at hel hne
   have hfx:=hf y ⟨sta,kind,num,iss,own,key,frm,unt,til,sE,sS⟩ day hne
   obtain ⟨sta',kind',num',iss',own',key',frm',unt',til',sE',sS'⟩:=y
   unfold qCt at hel
   simp only at hel hfx
   refine ww ?_
   refine qDr (v:=.iptr [.int .i64 0]) rfl rfl rfl rfl (fun hg=>absurd hg (by simp [gval])) ?_
   refine ww ?_
   refine qDr (v:=.iptr [.int .i64 0]) rfl rfl rfl rfl (fun hg=>absurd hg (by simp [gval])) ?_
   refine ww ?_
   refine wwgi hel ?_
   refine ww ?_
   refine qDr rfl rfl rfl rfl (fun hg=>⟨⟨hg,hg,hg,True.intro⟩,qBl rfl rfl hfx rfl rfl rfl⟩) ?_
   refine ww ?_
   refine qAa rfl (fun c4=>?_) (fun c4=>?_)
   ·simp at c4
   ·refine ww ?_
    exact ⟨i+1,[],by omega,by omega,⟨.refl _,.refl _,.int (by rw [if_pos (by omega)]),.refl _,.int hwr,trivial⟩,HLe.refl _,Env.below_mono hE (by simp),rfl,rfl⟩
  ·simp at c3;omega
 ·subst h1
  rw [if_pos (by omega)]
  refine ww ?_
  refine qAa rfl (fun c3=>?_) (fun c3=>?_)
  ·have hel:=encNls_get (l:=C) (i:=i) (by omega)
   rw [List.getElem?_eq_getElem (by omega)] at hx
   rw [Option.some.inj hx] at hel
   obtain ⟨sta',kind',num',iss',own',key',frm',unt',til',sE',sS'⟩:=x
   unfold qCt at hel
   simp only at hel hf1
   refine ww ?_
   refine qDr (v:=.iptr [.int .i64 0]) rfl rfl rfl rfl (fun hg=>absurd hg (by simp [gval])) ?_
   refine ww ?_
   refine qDr (v:=.iptr [.int .i64 0]) rfl rfl rfl rfl (fun hg=>absurd hg (by simp [gval])) ?_
   refine ww ?_
   refine wwgi hel ?_
   refine ww ?_
   refine qDr rfl rfl rfl rfl (fun hg=>⟨⟨hg,hg,hg,True.intro⟩,qBl rfl rfl hf1 rfl rfl rfl⟩) ?_
   refine ww ?_
   refine qAa rfl (fun c4=>?_) (fun c4=>?_)
   ·refine ww ?_
    exact ⟨i+1,[],by omega,by omega,⟨.refl _,.refl _,.int (by rw [if_neg (by omega)]),.refl _,.int hwr,trivial⟩,HLe.refl _,Env.below_mono hE (by simp),rfl,rfl⟩
   ·simp at c4
  ·simp at c3;omega
 ·rw [if_neg (by omega)]
  refine ww ?_
  refine qAa rfl (fun c3=>?_) (fun c3=>?_)
  ·have c3':i < m:=by simpa using c3
   have hri:=vDc (n:=C.length) (i:=i) (by omega)
   have hlt:decide ((j:Int) < 0)=false:=decide_eq_false (by omega)
   have hlt2:decide ((i:Int) < (j:Int))=false:=decide_eq_false (by omega)
   refine ww ?_
   refine wwgi hri ?_
   refine ww ?_
   refine wwgi hrj ?_
   refine ww ?_
   refine qDr (v:=.iptr (qCt nl0)) rfl rfl rfl rfl (fun hg=>absurd hg (by rw [hlt,hlt2];simp [gval])) ?_
   refine ww ?_
   refine qDr (v:=.d (.bool false)) rfl rfl rfl rfl (fun hg=>absurd hg (by rw [hlt,hlt2];simp [gval])) ?_
   refine ww ?_
   refine qAa rfl (fun c4=>?_) (fun c4=>?_)
   ·simp [hlt,hlt2] at c4
   ·refine ww ?_
    exact ⟨i+1,[],by omega,by omega,⟨.refl _,.refl _,.int (by rw [if_neg (by omega)]),.refl _,.int hwr,trivial⟩,HLe.refl _,Env.below_mono hE (by simp),rfl,rfl⟩
  ·have h2:i=m:=by simp at c3;omega
   refine ww ?_
   exact wwr
structure Chn (C:List Nal) (day:Int):Prop where
 len:1≤C.length∧C.length≤100
 own:∀ (i:Nat) (x:Nal),C[i]?=some x→x.own=(i:Int)+1
 iss:∀ (i:Nat) (x:Nal),C[i+1]?=some x→x.iss=(i:Int)+1∧x.kind=2
 fol:∀ (i:Nat) (x y:Nal),C[i]?=some x→C[i+1]?=some y→Spec Tryz.prog 158 [qEb x,qEb y,.I day] [] (fun r h'=>r=.d (.bool true)∧h'=[])
theorem Chn.ne {C:List Nal} {day:Int} (h:Chn C day) {m:Nat} {c:Nal} (hc:C[m]?=some c):∀ x,x∈C.take m→x≠c:=by
 intro x hx he
 obtain ⟨i,hi⟩:=List.mem_iff_getElem?.1 hx
 rw [List.getElem?_take] at hi
 split at hi
 ·have h1:=h.own i x hi
  have h2:=h.own m c hc
  subst he
  omega
 ·cases hi
theorem qMq {C:List Nal} {m i:Nat} (h:i < m):(C.take m)[i]?=C[i]?:=by rw [List.getElem?_take,if_pos h]
theorem vCj {C:List Nal} {m:Nat} {c:Nal} (h:C[m]?=some c):C.take m++[c]=C.take (m+1):=by
 have hm:=(List.getElem?_eq_some_iff.1 h).1
 rw [List.take_add_one,h];rfl
theorem Chn.before {C:List Nal} {day:Int} (h:Chn C day) {k m i:Nat} {y:Nal} (hk:k≤C.length) (hm:m≤k) (hy:C[i+1]?=some y) :
  Spec Tryz.prog 77 [.ptr 0 0,qEb y,.I (m:Int)] (srH day (C.take k) (rds k)) (fun r h'=>r=.I (if i < m then (i:Int) else -1)∧h'=srH day (C.take k) (rds k)):=by
 have hl:=h.len
 have hlk:(C.take k).length=k:=by rw [List.length_take];omega
 have hyi:=(h.iss i y hy).1
 by_cases hi:i < m
 ·rw [if_pos hi]
  have hxl:i < C.length:=by omega
  have hb:=qQo day (C.take k) y m i C[i] (by omega) hi (by rw [qMq (by omega)];exact List.getElem?_eq_getElem hxl) (fun a x ha hx=>by
   rw [qMq (by omega)] at hx
   rw [hyi,h.own a x hx];omega) (h.fol i C[i] y (List.getElem?_eq_getElem hxl) hy)
  rw [hlk] at hb
  exact hb
 ·rw [if_neg hi]
  have hb:=qXc day (C.take k) y m (by omega) (fun a x ha hx=>by
   rw [qMq (by omega)] at hx
   rw [hyi,h.own a x hx];omega)
  rw [hlk] at hb
  exact hb
theorem Chn.add {C:List Nal} {day:Int} (h:Chn C day) {k i:Nat} {y:Nal} (hk:k≤C.length) (hy:C[i]?=some y) (hik:i≤k) :
  Spec Tryz.prog 157 [.ptr 0 0,qEb y,.I (k:Int)] (srH day (C.take k) (rds k)) (fun r h'=>r=.d (.bool (decide (i=k)))∧h'=srH day (C.take (if i=k then k+1 else k)) (rds (if i=k then k+1 else k))):=by
 have hl:=h.len
 have hlk:(C.take k).length=k:=by rw [List.length_take];omega
 by_cases hi:i=k
 ·subst hi
  rw [if_pos rfl,decide_eq_true rfl,vGp,← vCj hy]
  exact vKv day (C.take i) (rds i) y i (by rw [qWb];omega) (h.ne hy)
 ·rw [if_neg hi,decide_eq_false hi]
  exact vKu day (C.take k) (rds k) y k (by omega) i (by rw [qMq (by omega)];exact hy)
theorem vDz (r0:Nal) (L:List Nal) (day:Int) (h:Chn (r0::L) day)
  (hon:Spec Tryz.prog 74 [qEb r0,.I day] [] (fun r h'=>r=.I 0∧h'=[]))
  (hrt:Spec Tryz.prog 156 [qEb r0] [] (fun r h'=>r=.d (.bool true)∧h'=[])) :
  Spec Tryz.prog 76 [.d (.sl 11 (qAm [r0])),.d (.sl 11 (qAm L)),.d (.str r0.sta),.I day] [.room,.room,.room]
   (fun r h'=>r=.ptr 0 0∧h'=srH day (r0::L) (rds (L.length+1))):=by
 have hll:=encNls_len2 L
 have hlen:=h.len
 obtain ⟨C,hC⟩:∃ C,C=r0::L:=⟨_,rfl⟩
 have hCn:C.length=L.length+1:=by rw [hC];rfl
 have hC0:C[0]?=some r0:=by rw [hC];rfl
 have hCi:∀ i y,L[i]?=some y→C[i+1]?=some y:=fun i y hy=>by rw [hC];exact hy
 rw [← hC] at h hlen ⊢
 have hadd0:=h.add (k:=0) (i:=0) (y:=r0) (by omega) hC0 (by omega)
 rw [if_pos rfl,decide_eq_true rfl,show C.take 0=[] from rfl,show rds 0=[] from rfl] at hadd0
 have e0:qAm [r0]=[qCt r0]:=rfl
 rw [e0]
 clear hC
 obtain ⟨sta,kind,num,iss,own,key,frm,unt,til,sE,sS⟩:=r0
 unfold qEb qAv at hon hrt hadd0
 unfold qCt
 simp only at hon hrt hadd0 ⊢
 refine qAb hT Tryz.func76 rfl rfl rfl rfl ?_;intro E hE
 refine qAl (qAf ?_)
 refine wws ?_
 refine qAl (qAf ?_)
 refine wk hT rfl rfl ?_
 refine wk hT rfl rfl ?_
 refine qAd (boxAt_ok (i0:=0) (cs:=[.I day,.sl 11 [] .full,.sl 1 [] .full]) rfl rfl rfl) rfl ?_
 refine wk hT rfl rfl ?_
 refine qDq ?_
 refine qBy 0 1 1 11 (es:=[]) rfl rfl rfl ?_
 refine qBy 0 2 2 1 (es:=[]) rfl rfl rfl ?_
 refine qAp (l:=[(0,.d (.sl 11 [[.str sta,.int .i64 kind,.int .i64 num,.int .i64 iss,.int .i64 own,.int .i64 key,.int .i64 frm,.int .i64 unt,.int .i64 til,.int .i64 sE,.int .i64 sS]])),(1,.d (.sl 11 (qAm L))),(2,.d (.str sta)),(3,.I day),(9,.ptr 0 0)]) (h':=srH day [] []) yf (HLe.refl _) ?_
 refine ww ?_
 refine qBg (ι:=Nat) (fun i=>[(1,.d (.sl 11 (qAm L))),(2,.d (.str sta)),(3,.I day),(9,.ptr 0 0),(20,.d (.sl 11 [[.str sta,.int .i64 kind,.int .i64 num,.int .i64 iss,.int .i64 own,.int .i64 key,.int .i64 frm,.int .i64 unt,.int .i64 til,.int .i64 sE,.int .i64 sS]])),(21,.I 1),(22,.I (i:Int))]) (fun i=>srH day (C.take i) (rds i)) (fun i=>i≤1) (fun i=>1-i) 0 (by omega) yf (HLe.refl _) ?_
 intro i hi
 have hwr:IntKind.i64.wrap ((i:Int)+1)=((i+1:Nat):Int):=by rw [qAe (by omega)];simp
 refine ww ?_
 refine qAa rfl (fun c1=>?_) (fun c1=>?_)
 ·have hi0:i=0:=by simp at c1;omega
  subst hi0
  refine ww ?_
  refine wwi rfl ?_
  refine ww ?_
  refine wwgc hon ?_
  refine ww ?_
  refine wwgc hrt ?_
  refine ww ?_
  refine qAa rfl (fun c2=>?_) (fun c2=>?_)
  ·refine qAf ?_
   refine wws ?_
   refine qAd (qBs (v:=.d (.bool true)) (H':=srH day (C.take 1) (rds 1)++[.row (qAv ⟨sta,kind,num,iss,own,key,frm,unt,til,sE,sS⟩)]) rfl rfl hadd0 [0,1,2] (by decide) rfl rfl rfl rfl rfl rfl) rfl ?_
   refine ww ?_
   exact ⟨1,[_],by omega,by omega,⟨.refl _,.refl _,.refl _,.refl _,.refl _,.refl _,.int hwr,trivial⟩,HLe.refl _,Env.below_mono hE (by simp [srH]),rfl,rfl⟩
  ·simp at c2
 have hi1:i=1:=by simp at c1;omega
 subst hi1
 clear hadd0 hwr
 refine ww ?_
 refine qBg (ι:=Nat) (fun r=>[(1,.d (.sl 11 (qAm L))),(9,.ptr 0 0),(12,.I (r:Int)),(13,.d (.bool (decide (r≤C.length))))]) (fun r=>srH day (C.take (min r C.length)) (rds (min r C.length))) (fun r=>1≤r∧r≤C.length+1) (fun r=>C.length+1-r) 1 (by omega) ⟨.refl _,.refl _,.refl _,.bool (decide_eq_true (by omega)).symm,trivial⟩ (by rw [show min 1 C.length=1 by omega];exact HLe.refl _) ?_
 intro r hr
 have hwr2:IntKind.i64.wrap ((r:Int)+1)=((r+1:Nat):Int):=by rw [qAe (by omega)];simp
 by_cases hrn:r≤C.length
 ·rw [Nat.min_eq_left hrn]
  refine ww ?_
  refine qAa rfl (fun c3=>?_) (fun c3=>?_)
  ·have hlr:((qAm (C.take r)).length:Int)=(r:Int):=by rw [encNls_len2,List.length_take];omega
   refine ww ?_
   refine qBg (ι:=Nat) (fun i=>[(1,.d (.sl 11 (qAm L))),(9,.ptr 0 0),(12,.I (r:Int)),(13,.d (.bool (decide (r≤i)))),(14,.I (r:Int)),(52,.d (.sl 11 (qAm L))),(53,.I ((qAm L).length:Int)),(54,.I (i:Int))])
    (fun i=>srH day (C.take (if r≤i then r+1 else r)) (rds (if r≤i then r+1 else r))) (fun i=>i≤L.length) (fun i=>L.length-i) 0 (by omega) ⟨.refl _,.refl _,.refl _,.bool (decide_eq_false (by omega)).symm,.int hlr,.refl _,.refl _,.refl _,trivial⟩ (by rw [if_neg (by omega)];exact HLe.refl _) ?_
   intro i hi
   have hwr:IntKind.i64.wrap ((i:Int)+1)=((i+1:Nat):Int):=by rw [qAe (by omega)];simp
   rcases Nat.lt_or_ge i L.length with hil | hil
   ·have hel:=encNls_get (l:=L) (i:=i) hil
    have hy:C[i+1]?=some L[i]:=hCi i _ (List.getElem?_eq_getElem hil)
    have hk2:=(h.iss i _ hy).2
    rcases Nat.lt_or_ge i r with hir | hir
    ·rw [if_neg (by omega),decide_eq_false (by omega)]
     have hb:=h.before (k:=r) (m:=r) (i:=i) (by omega) (by omega) hy
     have ha:=h.add (k:=r) (i:=i+1) (by omega) hy (by omega)
     rw [if_pos hir] at hb
     generalize L[i]=y at hel hk2 hb ha
     obtain ⟨sta',kind',num',iss',own',key',frm',unt',til',sE',sS'⟩:=y
     unfold qCt at hel
     unfold qEb qAv at hb ha
     simp only at hel hk2 hb ha
     subst hk2
     refine ww ?_
     refine qAa rfl (fun c4=>?_) (fun c4=>?_)
     ·refine ww ?_
      refine wwi hel ?_
      refine ww ?_
      refine qSv (v:=.I (i:Int)) (h':=srH day (C.take r) (rds r)++[.row (qAv ⟨sta',2,num',iss',own',key',frm',unt',til',sE',sS'⟩)]) rfl rfl rfl rfl (fun hg=>⟨⟨hg,hg,hg,True.intro⟩,qBs rfl rfl hb [0,1,2] (by decide) rfl rfl rfl rfl rfl rfl⟩) ?_
      refine ww ?_
      refine qSv (v:=.d (.bool (decide (i+1=r)))) (h':=srH day (C.take (if i+1=r then r+1 else r)) (rds (if i+1=r then r+1 else r))++[.row (qAv ⟨sta',2,num',iss',own',key',frm',unt',til',sE',sS'⟩)]) rfl (by simp [gval]) rfl rfl (fun hg=>⟨⟨hg,hg,hg,True.intro⟩,qBs rfl rfl ha [0,1,2] (by decide) rfl rfl rfl rfl rfl rfl⟩) ?_
      refine ww ?_
      refine qAa rfl (fun c5=>?_) (fun c5=>?_)
      ·have c5':i+1=r:=by simpa using c5
       refine ww ?_
       exact ⟨i+1,[_],by omega,by omega,⟨.refl _,.refl _,.refl _,.bool (decide_eq_true (by omega)).symm,.refl _,.refl _,.refl _,.int hwr,trivial⟩,by rw [if_pos c5',if_pos (by omega)];exact HLe.refl _,Env.below_mono hE (by simp [srH]),rfl,rfl⟩
      ·have c5':¬ i+1=r:=by simpa using c5
       refine ww ?_
       exact ⟨i+1,[_],by omega,by omega,⟨.refl _,.refl _,.refl _,.bool (decide_eq_false (by omega)).symm,.refl _,.refl _,.refl _,.int hwr,trivial⟩,by rw [if_neg c5',if_neg (by omega)];exact HLe.refl _,Env.below_mono hE (by simp [srH]),rfl,rfl⟩
     ·rw [hll] at c4;simp at c4;omega
    ·rw [if_pos (by omega),decide_eq_true (by omega)]
     have hb:=h.before (k:=r+1) (m:=r) (i:=i) (by omega) (by omega) hy
     rw [if_neg (by omega)] at hb
     generalize L[i]=y at hel hk2 hb
     obtain ⟨sta',kind',num',iss',own',key',frm',unt',til',sE',sS'⟩:=y
     unfold qCt at hel
     unfold qEb qAv at hb
     simp only at hel hk2 hb
     subst hk2
     refine ww ?_
     refine qAa rfl (fun c4=>?_) (fun c4=>?_)
     ·refine ww ?_
      refine wwi hel ?_
      refine ww ?_
      refine qSv (v:=.I (-1)) (h':=srH day (C.take (r+1)) (rds (r+1))++[.row (qAv ⟨sta',2,num',iss',own',key',frm',unt',til',sE',sS'⟩)]) rfl rfl rfl rfl (fun hg=>⟨⟨hg,hg,hg,True.intro⟩,qBs rfl rfl hb [0,1,2] (by decide) rfl rfl rfl rfl rfl rfl⟩) ?_
      refine ww ?_
      refine vIi (.d (.bool false)) rfl rfl rfl rfl ?_
      refine ww ?_
      refine qAa rfl (fun c5=>?_) (fun c5=>?_)
      ·simp at c5
      ·refine ww ?_
       exact ⟨i+1,[_],by omega,by omega,⟨.refl _,.refl _,.refl _,.bool (decide_eq_true (by omega)).symm,.refl _,.refl _,.refl _,.int hwr,trivial⟩,by rw [if_pos (by omega)];exact HLe.refl _,Env.below_mono hE (by simp [srH]),rfl,rfl⟩
     ·rw [hll] at c4;simp at c4;omega
   ·have hil:i=L.length:=by omega
    subst hil
    refine ww ?_
    refine qAa rfl (fun c4=>?_) (fun c4=>?_)
    ·rw [hll] at c4;simp at c4
    refine wwe ?_
    refine ww ?_
    exact ⟨r+1,[],by omega,by omega,⟨.refl _,.refl _,.int hwr2,.bool (by rw [Bool.eq_iff_iff];simp;omega),trivial⟩,by rw [show (if r≤L.length then r+1 else r)=min (r+1) C.length by split <;> omega];exact HLe.refl _,Env.below_mono hE (by simp [srH]),rfl,rfl⟩
  ·simp at c3;omega
 ·have hrn':r=C.length+1:=by omega
  subst hrn'
  rw [Nat.min_eq_right (by omega),List.take_length]
  refine ww ?_
  refine qAa rfl (fun c3=>?_) (fun c3=>?_)
  ·simp at c3
   omega
  refine wwe ?_
  refine ww ?_
  rw [hCn]
  exact wwr
def vGc (s:List UInt8) (k:Nat):Int:=bI (s.getD k 0)-48
def pN (s:List UInt8) (a i:Nat):Int:=if i≤a then 0 else if i=a+1 then vGc s a else 10*vGc s a+vGc s (a+1)
theorem isDig_iff (c:UInt8):qFo c=true↔48≤bI c∧bI c≤57:=by simp [qFo]
theorem six {s:List UInt8} (h:s.length=6):∃ a b c d e f,s=[a,b,c,d,e,f]:=by
 match s,h with
 | [a,b,c,d,e,f],_=>exact ⟨a,b,c,d,e,f,rfl⟩
def vJe (z:Zon):Prop:=z.kind.length≤10000∧z.state.length≤10000∧z.sur.length≤10000∧z.giv.length≤10000∧z.num.length≤10000∧z.nat.length≤10000∧z.bir.length≤10000∧z.sex.length≤10000∧z.exp.length≤10000∧z.opt.length≤10000∧z.sec.length≤10000
theorem vDy {sz:Nat}:∀ {es:List (List Dat)} {i j:Nat} {e:List Dat} {d:Dat},(∀ e,e∈es→e.length=sz)→es[i]?=some e→e[j]?=some d→es.flatten[i*sz+j]?=some d
 | [],i,j,e,d,_,h,_=>by simp at h
 | a::l,0,j,e,d,hs,h,h2=>by
  simp at h;subst h
  have hj:=(List.getElem?_eq_some_iff.1 h2).1
  rw [List.flatten_cons,Nat.zero_mul,Nat.zero_add,List.getElem?_append_left hj];exact h2
 | a::l,i+1,j,e,d,hs,h,h2=>by
  have ha:=hs a (by simp)
  have:=vDy (es:=l) (i:=i) (fun e he=>hs e (by simp [he])) (by simpa using h) h2
  rw [List.flatten_cons,List.getElem?_append_right (by rw [ha,Nat.succ_mul];omega),ha,show (i+1)*sz+j-sz=i*sz+j by rw [Nat.succ_mul];omega]
  exact this
theorem qXj {sz:Nat} {es:List (List Dat)} (hs:∀ e,e∈es→e.length=sz):RowDat (qBi es) 0 sz es :=
 ⟨hs,fun i e j d h1 h2=>⟨.d d,by unfold qBi;rw [Nat.zero_add,List.getElem?_map,vDy hs h1 h2];rfl,rfl⟩⟩
theorem qYz {α:Type} {sz:Nat}:∀ {es:List (List α)} {k:Nat} {e:List α},(∀ e,e∈es→e.length=sz)→es[k]?=some e→(es.flatten.drop (k*sz)).take sz=e
 | [],k,e,_,h=>by simp at h
 | a::l,0,e,hs,h=>by
  simp at h;subst h
  have ha:=hs a (by simp)
  rw [List.flatten_cons,Nat.zero_mul,List.drop_zero,List.take_append_of_le_length (by omega),List.take_of_length_le (by omega)]
 | a::l,k+1,e,hs,h=>by
  have ha:=hs a (by simp)
  rw [List.flatten_cons,show (k+1)*sz=a.length+k*sz by rw [Nat.succ_mul];omega,List.drop_append,List.drop_of_length_le (by omega),List.nil_append,show a.length+k*sz-a.length=k*sz by omega]
  exact qYz (es:=l) (k:=k) (fun e he=>hs e (by simp [he])) (by simpa using h)
theorem flatAV_cut {sz k:Nat} {es:List (List Dat)} {e:List Dat} (hs:∀ e,e∈es→e.length=sz) (h:es[k]?=some e):((qBi es).drop (k*sz)).take sz=e.map .d:=by
 unfold qBi
 rw [← qYz hs h,List.map_take,List.map_drop]
def qRc (l:List Nal) (i:Nat):List Nal:=(List.range l.length).map fun k=>l.getD (if k < i∨l.length-i≤k then l.length-1-k else k) nl0
theorem revC_length (l:List Nal) (i:Nat):(qRc l i).length=l.length:=by simp [qRc]
theorem revC_at {l:List Nal} {i k:Nat} (h:k < l.length):(qRc l i)[k]?=l[if k < i∨l.length-i≤k then l.length-1-k else k]?:=by
 simp only [qRc,List.getElem?_map,List.getElem?_range h,Option.map_some]
 have hlt:(if k < i∨l.length-i≤k then l.length-1-k else k) < l.length:=by split <;> omega
 rw [List.getD_eq_getElem?_getD,List.getElem?_eq_getElem hlt]
 rfl
theorem revC_zero (l:List Nal):qRc l 0=l:=by
 apply List.ext_getElem?
 intro k
 by_cases h:k < l.length
 ·rw [revC_at h,if_neg (by omega)]
 ·rw [List.getElem?_eq_none (by rw [revC_length];omega),List.getElem?_eq_none (by omega)]
theorem revC_half {l:List Nal} {i:Nat} (h:l.length≤2*i+1) (hi:2*i≤l.length):qRc l i=l.reverse:=by
 apply List.ext_getElem?
 intro k
 by_cases hk:k < l.length
 ·rw [revC_at hk,List.getElem?_reverse hk]
  split
  ·rfl
  ·congr 1;omega
 ·rw [List.getElem?_eq_none (by rw [revC_length];omega),List.getElem?_eq_none (by simp;omega)]
theorem revC_succ {l:List Nal} {i:Nat} (h:2*i+1 < l.length) {x y:Nal} (hx:(qRc l i)[l.length-1-i]?=some x) (hy:(qRc l i)[i]?=some y) :
  ((qRc l i).set i x).set (l.length-1-i) y=qRc l (i+1):=by
 rw [revC_at (by omega),if_neg (by omega)] at hx hy
 apply List.ext_getElem?
 intro k
 by_cases hk:k < l.length
 ·rw [revC_at hk,List.getElem?_set,List.getElem?_set]
  simp only [List.length_set,revC_length]
  by_cases h1:l.length-1-i=k
  ·rw [if_pos h1,if_pos (by omega),if_pos (by omega),← hy];congr 1;omega
  ·rw [if_neg h1]
   by_cases h2:i=k
   ·rw [if_pos h2,if_pos (by omega),if_pos (by omega),← hx];congr 1;omega
   ·rw [if_neg h2,revC_at hk]
    congr 1
    by_cases h3:k < i∨l.length-i≤k
    ·rw [if_pos h3,if_pos (by omega)]
    ·rw [if_neg h3,if_neg (by omega)]
 ·rw [List.getElem?_eq_none (by simp [revC_length];omega),List.getElem?_eq_none (by rw [revC_length];omega)]
theorem encNl_size (l:List Nal):∀ e,e∈qAm l→e.length=11:=by
 intro e he
 unfold qAm at he
 obtain ⟨c,_,rfl⟩:=List.mem_map.1 he
 rfl
theorem encNls_flat (l:List Nal):(qBi (qAm l)).length=l.length*11:=by rw [flatAV_length (encNl_size l),encNls_len2]
theorem encNls_set (l:List Nal) (k:Nat) (c:Nal):(qAm l).set k (qCt c)=qAm (l.set k c):=by unfold qAm;rw [List.map_set]
theorem encNls_get? {l:List Nal} {k:Nat} {c:Nal} (h:l[k]?=some c):(qAm l)[k]?=some (qCt c):=by unfold qAm;rw [List.getElem?_map,h];rfl
theorem encNl_cells (c:Nal):(qCt c).map AV.d=qAv c:=rfl
theorem vJs {l:List Nal} {k:Nat} {c:Nal} (h:l[k]?=some c):((qBi (qAm l)).drop (k*11)).take 11=qAv c:=by rw [flatAV_cut (encNl_size l) (encNls_get? h)];rfl
theorem vLq {l:List Nal} {k:Nat} (c:Nal) (h:k < l.length):qBv (qBi (qAm l)) (k*11) (qAv c)=qBi (qAm (l.set k c)):=by
 rw [← encNl_cells,flatAV_setN (encNl_size l) rfl (by rw [encNls_len2];exact h),encNls_set]
theorem qKt (es:List (List Dat)) (k:Nat):qCo k (qBi es)=true:=lowL_of fun c hc=>by
 unfold qBi at hc
 obtain ⟨d,_,rfl⟩:=List.mem_map.1 hc
 rfl
theorem qSm (l:List Nal) (hl:l.length≤1000000):Spec Tryz.prog 78 [.bm 0 l.length] [.buf 11 l.length (qBi (qAm l))] (fun r h'=>r=.tup []∧h'=[.buf 11 l.length (qBi (qAm l.reverse))]):=by
 generalize hn:l.length=n at hl
 have hw1:IntKind.i64.wrap ((n:Int)-1)=(n:Int)-1:=qAe (by omega)
 refine qAb hT Tryz.func78 rfl rfl rfl rfl ?_;intro E hE
 refine ww ?_
 refine qAq (ι:=Nat) (fun i=>[(0,.bm 0 n),(2,.I (i:Int)),(3,.I ((n:Int)-1-i))]) (fun i=>[.buf 11 n (qBi (qAm (qRc l i)))]) (fun i=>2*i≤n+1∧(2*i≤n∨i=0)) (fun i=>n-i) 0 (by omega)
  ⟨.refl _,.refl _,AV.le.eq (by show AV.d (.int .i64 (IntKind.i64.wrap ((n:Int)-1)))=_;rw [hw1];simp),trivial⟩ ⟨⟨rfl,rfl,by rw [revC_zero];exact AllLe.refl _⟩,trivial⟩ ?_
 intro i ⟨hi,hi2⟩
 have hwr:IntKind.i64.wrap ((i:Int)+1)=((i+1:Nat):Int):=by rw [qAe (by omega)];simp
 have hwr2:IntKind.i64.wrap ((n:Int)-1-i-1)=(n:Int)-1-((i+1:Nat):Int):=by rw [qAe (by omega)];omega
 refine ww ?_
 refine qAa rfl (fun h1=>?_) (fun h1=>?_)
 ·have h1':(i:Int) < (n:Int)-1-i:=by simpa using h1
  have hjn:((n:Int)-1-i).toNat=n-1-i:=by omega
  obtain ⟨x,hx⟩:∃ x,(qRc l i)[n-1-i]?=some x:=⟨(qRc l i)[n-1-i]'(by rw [revC_length];omega),by simp⟩
  obtain ⟨y,hy⟩:∃ y,(qRc l i)[i]?=some y:=⟨(qRc l i)[i]'(by rw [revC_length];omega),by simp⟩
  have hsucc:=revC_succ (l:=l) (i:=i) (by omega) (x:=x) (y:=y) (by rw [hn];exact hx) hy
  rw [hn] at hsucc
  have hlr:(qRc l i).length=n:=by rw [revC_length,hn]
  generalize qRc l i=rc at hx hy hsucc hlr
  have c1:=vJs hx
  have c2:=vJs hy
  have c3:=vLq (l:=rc) (k:=i) x (by omega)
  have c4:=vLq (l:=rc.set i x) (k:=n-1-i) y (by simp;omega)
  have f1:=encNls_flat rc
  have f2:=encNls_flat (rc.set i x)
  rw [hlr] at f1
  rw [List.length_set,hlr] at f2
  rw [hsucc] at c4
  generalize qAm (rc.set i x)=B1 at c3 c4 f2
  generalize qAm rc=B0 at c1 c2 c3 f1
  refine wwn ?_
  refine qBp (fun i=>bif Nat.beq i 7||Nat.beq i 11||Nat.beq i 13||Nat.beq i 15 then [0] else []) (fun i=>bif Nat.beq i 13||Nat.beq i 15 then [0] else []) mixed (by kernel_rfl) ?_
  refine wwg ?_
  refine qAk (os:=[]) (fun k hk1 hk2=>qAc (bufAddr_ok (sz:=11) hT rfl rfl rfl rfl (by omega))) rfl ?_
  refine qAk (v:=qEb x) (os:=[]) (fun k hk1 hk2=>qSa (cells:=qBi B0) hT rfl rfl ((hk2 0 List.mem_cons_self).trans rfl) rfl rfl (by decide) (by show ((n:Int)-1-i).toNat*11+11≤_;rw [f1];omega) (by rw [hjn];exact c1)) rfl ?_
  refine wwg ?_
  refine qAk (os:=[]) (fun k hk1 hk2=>qAc (bufAddr_ok (sz:=11) hT rfl rfl rfl rfl (by omega))) rfl ?_
  refine qAk (v:=qEb y) (os:=[]) (fun k hk1 hk2=>qSa (cells:=qBi B0) hT rfl rfl ((hk2 0 List.mem_cons_self).trans rfl) rfl rfl (by decide) (by show ((i:Int)).toNat*11+11≤_;rw [f1];omega) (by rw [Int.toNat_natCast];exact c2)) rfl ?_
  refine qAk (os:=[]) (fun k hk1 hk2=>qAc (bufAddr_ok (sz:=11) hT rfl rfl rfl rfl (by omega))) rfl ?_
  refine qAk (v:=.any) (os:=[.buf 11 n (qBi B1)]) (fun k hk1 hk2=>qUk (cells:=qBi B0) (cs:=qAv x) hT rfl rfl rfl rfl ((hk2 0 List.mem_cons_self).trans rfl) rfl rfl (by show 0 < 11;decide) (by show ((i:Int)).toNat*11+11≤_;rw [f1];omega) (by rw [Int.toNat_natCast,c3];rfl)) rfl ?_
  refine qAk (os:=[]) (fun k hk1 hk2=>qAc (bufAddr_ok (sz:=11) hT rfl rfl rfl rfl (by omega))) rfl ?_
  refine qAk (v:=.any) (os:=[.buf 11 n (qBi (qAm (qRc l (i+1))))]) (fun k hk1 hk2=>qUk (cells:=qBi B1) (cs:=qAv y) hT rfl rfl rfl rfl ((hk2 0 List.mem_cons_self).trans rfl) rfl rfl (by show 0 < 11;decide) (by show ((n:Int)-1-i).toNat*11+11≤_;rw [f2];omega) (by rw [hjn,c4];rfl)) rfl ?_
  refine wwg ?_
  refine ww ?_
  exact ⟨i+1,by omega,by omega,⟨.refl _,AV.le.eq (by show AV.d (.int .i64 (IntKind.i64.wrap ((i:Int)+1)))=_;rw [hwr]),AV.le.eq (by show AV.d (.int .i64 (IntKind.i64.wrap ((n:Int)-1-i-1)))=_;rw [hwr2]),trivial⟩,⟨ObLe.refl _,trivial⟩⟩
 ·have h1':¬ (i:Int) < (n:Int)-1-i:=by simpa using h1
  have hfin:qRc l i=l.reverse:=by
   rcases hi2 with h | h
   ·exact revC_half (by omega) (by omega)
   ·subst h
    rw [revC_zero]
    have hn1:l.length≤1:=by omega
    match l,hn1 with
    | [],_=>rfl
    | [a],_=>rfl
  rw [hfin]
  refine ww ?_
  exact qPt rfl (.refl _) rfl rfl rfl (by show (qCo 1 _&&true)=true;rw [Bool.and_true];exact qKt _ 1) ⟨rfl,rfl⟩
theorem vHk {D:List Nal} {n k:Nat} {x:Nal} (hk:k+1≤n) (hx:D[n-k-1]?=some x):(D.drop (n-k)).reverse++[x]=(D.drop (n-(k+1))).reverse:=by
 have h1:=(List.getElem?_eq_some_iff.1 hx)
 obtain ⟨h1,h2⟩:=h1
 have h3:D.drop (n-(k+1))=x::D.drop (n-k):=by
  rw [show n-(k+1)=n-k-1 by omega,List.drop_eq_getElem_cons h1,h2,show n-k-1+1=n-k by omega]
 rw [h3,List.reverse_cons]
theorem vGm {D:List Nal} {n k:Nat} (hn:D.length=n+1) (hk:k≤n):(D.drop (n-k)).reverse[k]?=D[n-k]?:=by
 have hl:(D.drop (n-k)).length=k+1:=by rw [List.length_drop];omega
 rw [List.getElem?_reverse (by omega),hl,List.getElem?_drop]
 congr 1
 omega
theorem flatAV_app (a b:List (List Dat)):qBi a++qBi b=qBi (a++b):=by unfold qBi;simp
theorem vFe (r0:Nal) (L:List Nal) (c:Nal) (day:Int) (h:Chn (r0::L) day) (hL:L.length≤30) (hst:∀ x,x∈r0::L→x.sta=c.sta) (hk:c.kind≠1) (hi:c.iss=((L.length+1:Nat):Int))
  (hon:Spec Tryz.prog 74 [qEb r0,.I day] [] (fun r h'=>r=.I 0∧h'=[]))
  (hrt:Spec Tryz.prog 156 [qEb r0] [] (fun r h'=>r=.d (.bool true)∧h'=[]))
  (hoc:Spec Tryz.prog 74 [qEb c,.I day] [] (fun r h'=>r=.I 0∧h'=[]))
  (hfc:∀ x,(r0::L)[L.length]?=some x→Spec Tryz.prog 158 [qEb x,qEb c,.I day] [] (fun r h'=>r=.d (.bool true)∧h'=[])) :
  Spec Tryz.prog 21 [.d (.sl 11 (qAm [r0])),.d (.sl 11 (qAm L)),qEb c,.I day] [] (fun r h'=>r=.tup [.d (.sl 11 (qAm (r0::L++[c]))),.I 0]∧h'=[]):=by
 have hfd:=vDz r0 L day h hon hrt
 have hr0:r0.sta=c.sta:=hst r0 (by simp)
 have hnr:=numberN_spec [r0] c.sta (by simp) (fun x hx=>by rw [List.mem_singleton.1 hx];exact hr0)
 have hnl:=numberN_spec L c.sta (by omega) (fun x hx=>hst x (by simp [hx]))
 rw [hr0] at hfd
 have hlen:=h.len
 obtain ⟨C,hC⟩:∃ C,C=r0::L:=⟨_,rfl⟩
 have hCn:C.length=L.length+1:=by rw [hC];rfl
 rw [← hC] at h hlen hfd hfc ⊢
 rw [← hCn] at hfd hi
 obtain ⟨n,hn⟩:∃ n,n=C.length:=⟨_,rfl⟩
 rw [← hn] at hfd hi hlen
 have htk:C.take n=C:=by rw [hn,List.take_length]
 have hDn:(C++[c]).length=n+1:=by rw [hn];simp
 have hbef:∀ k y,k < n→(C++[c])[n-k]?=some y→Spec Tryz.prog 77 [.ptr 0 0,qEb y,.I (n:Int)] (srH day C (rds n)) (fun r h'=>r=.I ((n-k-1:Nat):Int)∧h'=srH day C (rds n)):=by
  intro k y hkn hy
  cases k with
  | zero =>
   rw [List.getElem?_append_right (by omega)] at hy
   have hy:c=y:=by simpa [hn] using hy
   subst hy
   have hxl:n-1 < C.length:=by omega
   have hb:=qQo day C c n (n-1) C[n-1] (by omega) (by omega) (List.getElem?_eq_getElem hxl) (fun a x ha hx=>by rw [hi,h.own a x hx];omega) (hfc C[n-1] (by rw [show L.length=n-1 by omega];exact List.getElem?_eq_getElem hxl))
   rw [← hn] at hb
   exact hb
  | succ k =>
   rw [List.getElem?_append_left (by omega)] at hy
   have hb:=h.before (k:=n) (m:=n) (i:=n-(k+1)-1) (y:=y) (by omega) (by omega) (by rw [← hy];congr 1;omega)
   rw [if_pos (by omega),htk] at hb
   exact hb
 have hfin:=qSm (C++[c]).reverse (by rw [List.length_reverse,hDn];omega)
 rw [List.length_reverse,hDn,List.reverse_reverse] at hfin
 have hlast:(C++[c])[n]?=some c:=by rw [List.getElem?_append_right (by omega)];simp [hn]
 have hone:qBi (qAm ((C++[c]).drop (n-0)).reverse)=qAv c:=by
  rw [Nat.sub_zero,List.drop_append_of_le_length (by omega),hn,List.drop_length]
  rfl
 have hCat:∀ i,i < n→∃ x,C[i]?=some x∧(C++[c])[i]?=some x:=fun i hin=>⟨C[i]'(by omega),List.getElem?_eq_getElem _,by rw [List.getElem?_append_left (by omega)];exact List.getElem?_eq_getElem _⟩
 have hrl:(rds n).length=n:=qWb n
 have hpl:=encNls_len2 L
 have e0:(qAm [r0]).length=1:=rfl
 generalize (C++[c])=D at hbef hfin hDn hlast hone hCat ⊢
 have hap:∀ k x,k+1≤n→D[n-k-1]?=some x→qBi (qAm (D.drop (n-k)).reverse)++qBi [qCt x]=qBi (qAm (D.drop (n-(k+1))).reverse):=fun k x hk hx=>by
  rw [flatAV_app,← vHk hk hx,encNls_snoc2]
 generalize qAm [r0]=R0 at hnr hfd e0 ⊢
 clear hon hrt hfc hst hr0 htk hC
 obtain ⟨sta,kind,num,iss,own,key,frm,unt,til,sE,sS⟩:=c
 simp only at hk hi hnr hnl hfd
 unfold qEb qAv at hoc ⊢
 unfold qAv at hone
 simp only at hoc hone ⊢
 have hkk:(kind == 1)=false:=by simpa using hk
 refine qAb hT Tryz.func21 rfl rfl rfl rfl ?_;intro E hE
 refine qAo (qAo (qAo (qAo ?_)))
 refine ww ?_
 refine wwc hoc ?_
 refine ww ?_
 refine qAa rfl (fun c1=>?_) (fun c1=>?_)
 ·simp at c1
 refine ww ?_
 refine qAa rfl (fun c2=>?_) (fun c2=>?_)
 ·rw [hkk] at c2;cases c2
 refine ww ?_
 refine wwc hnr ?_
 refine ww ?_
 refine wwgc hnl ?_
 refine ww ?_
 refine qAa rfl (fun c3=>?_) (fun c3=>?_)
 ·simp at c3;omega
 refine qBw ?_
 refine qAl (qAf ?_)
 refine wws ?_
 refine qAd (qBs (v:=.ptr 0 0) (H':=srH day C (rds n)++[.room,.row (qAv ⟨sta,kind,num,iss,own,key,frm,unt,til,sE,sS⟩)]) rfl rfl hfd [0,1,2] (by decide) rfl rfl rfl rfl rfl rfl) rfl ?_
 refine wws ?_
 refine qAl (qAf ?_)
 refine wk hT rfl rfl ?_
 refine qAd (buildRowAt_ok (i0:=3) (cells:=qAv ⟨sta,kind,num,iss,own,key,frm,unt,til,sE,sS⟩) hT rfl rfl rfl) rfl ?_
 refine wws ?_
 refine vFt 12 3 11 (n:=1) rfl rfl rfl rfl ?_
 refine qDt ?_
 refine qBg (ι:=Nat) (fun k=>[(11,.ptr 0 0),(12,.bm 3 (k+1))]) (fun k=>srH day C (rds n)++[.buf 11 (k+1) (qBi (qAm (D.drop (n-k)).reverse)),.row (qAv ⟨sta,kind,num,iss,own,key,frm,unt,til,sE,sS⟩)]) (fun k=>k < n) (fun k=>n-k) 0 (by omega) yf (by rw [hone];exact HLe.refl _) ?_
 intro k hkn
 obtain ⟨y,hy1⟩:∃ y,D[n-k]?=some y:=⟨D[n-k]'(by omega),List.getElem?_eq_getElem _⟩
 obtain ⟨x,hx1,hx2⟩:=hCat (n-k-1) (by omega)
 have hb:=hbef k y hkn hy1
 have hcut:=vJs ((vGm hDn (by omega)).trans hy1)
 have hfl:=encNls_flat (D.drop (n-k)).reverse
 rw [List.length_reverse,List.length_drop,hDn,show n+1-(n-k)=k+1 by omega] at hfl
 have hap:=hap k x (by omega) hx2
 have hrk:=vDc (n:=n) (i:=n-k-1) (by omega)
 have hck:(qAm C)[(((n-k-1:Nat):Int)).toNat]?=some (qCt x):=by rw [Int.toNat_natCast];exact encNls_get? hx1
 have hwl:IntKind.i64.wrap (((k+1:Nat):Int)-1)=(k:Int):=by rw [qAe (by omega)];omega
 have hcl:((qAm C).length:Int)=(n:Int):=by rw [encNls_len2,← hn]
 generalize qBi (qAm (D.drop (n-k)).reverse)=cells at hcut hfl hap
 refine qDt ?_
 refine qAl (wx mixed ?_)
 refine wws ?_
 rw [hwl]
 refine qBc (qAc (bufAddr_ok (sz:=11) hT rfl rfl rfl rfl (by omega))) rfl rfl ?_
 refine qBc (v:=qEb y) (qSa (cells:=cells) (cs:=qAv y) hT rfl rfl rfl rfl rfl (by decide) (by show ((k:Int)).toNat*11+11≤_;rw [hfl];omega) (by rw [Int.toNat_natCast];exact hcut)) rfl rfl ?_
 refine wws ?_
 rw [hcl]
 refine qBc (qBs (v:=.I ((n-k-1:Nat):Int)) (H':=srH day C (rds n)++[.buf 11 (k+1) cells,.row (qAv ⟨sta,kind,num,iss,own,key,frm,unt,til,sE,sS⟩)]) rfl rfl hb [0,1,2] (by decide) rfl rfl rfl rfl rfl rfl) rfl rfl ?_
 refine ww ?_
 refine qAa rfl (fun c4=>?_) (fun c4=>?_)
 ·simp at c4;omega
 refine qBw ?_
 obtain ⟨sta',kind',num',iss',own',key',frm',unt',til',sE',sS'⟩:=x
 unfold qCt at hck
 simp only at hck
 refine qAl (qAf ?_)
 refine wws ?_
 refine wwi hck ?_
 refine wws ?_
 refine qAd (bufApp_ok (i:=3) (n:=k+1) (cells:=cells) (es2:=[qCt ⟨sta',kind',num',iss',own',key',frm',unt',til',sE',sS'⟩]) hT rfl rfl rfl rfl rfl rfl (by show (k+1+1)*(96+1)≤_;omega)) rfl ?_
 refine wws ?_
 refine qAp (l:=[(11,.ptr 0 0),(12,.bm 3 (k+1+1)),(13,.I ((n-k-1:Nat):Int))]) (h':=srH day C (rds n)++[.buf 11 (k+1+1) (qBi (qAm (D.drop (n-(k+1))).reverse)),.row (qAv ⟨sta,kind,num,iss,own,key,frm,unt,til,sE,sS⟩)]) yf (by rw [← hap];exact HLe.refl _) ?_
 refine ww ?_
 refine wwi hrk ?_
 refine ww ?_
 refine qAa rfl (fun c5=>?_) (fun c5=>?_)
 ·have hkn1:k+1=n:=by simp at c5;omega
  rw [hkn1,Nat.sub_self,List.drop_zero]
  refine qAl (qAf ?_)
  refine wws ?_
  refine qAd (qBs (v:=.tup []) (H':=srH day C (rds n)++[.buf 11 (n+1) (qBi (qAm D)),.row (qAv ⟨sta,kind,num,iss,own,key,frm,unt,til,sE,sS⟩)]) rfl rfl hfin [3] (by decide) (by show [some (AObj.buf 11 (n+1) (qBi (qAm D.reverse)))]=[some (.buf 11 (n+1) (qIf (fsf [3]) (qBi (qAm D.reverse))))];rw [renL_low _ _ (qKt _ 0)]) (by show (qCo 1 (qBi (qAm D.reverse))&&true)=true;rw [qKt];rfl) rfl rfl rfl (by show qGg _ [3] [.buf 11 (n+1) (qIf _ (qBi (qAm D)))]=_;rw [renL_low _ _ (qKt _ 0)];rfl)) rfl ?_
  refine wws ?_
  refine qAl (qAf ?_)
  refine wws ?_
  refine qMe 8 3 11 (qAm D) rfl rfl (by rw [encNls_len2];exact hDn) (qXj (encNl_size D)) rfl ?_
  refine qQu ?_
  refine rq ⟨rfl,rfl⟩ rfl (AV.le.tup ⟨.dat,.refl _,trivial⟩)
 ·refine qBw ?_
  have hkn1:k+1 < n:=by simp at c5;omega
  exact ⟨k+1,[],hkn1,by omega,yf,HLe.refl _,Env.below_mono hE (by simp [srH]),rfl,by show (qCo 5 (qBi (qAm (D.drop (n-(k+1))).reverse))&&(qCo 5 (qAv ⟨sta,kind,num,iss,own,key,frm,unt,til,sE,sS⟩)&&true))=true;rw [qKt];rfl⟩
theorem smallR09_spec (n:Int):Spec Tryz.prog 236 [.I n] [] (fun r h'=>r=.d (.bool (qFx n))∧h'=[]):=by
 refine qAb hT Tryz.func236 rfl rfl rfl rfl ?_;intro E hE
 refine ww ?_
 refine rq ⟨rfl,rfl⟩ rfl (.bool ?_)
 unfold qFx
 rw [Bool.eq_iff_iff]
 simp
theorem qXh (k:Nat) (hk:1≤k∧k < qG) (msg:List UInt8) (hl:msg.length≤700000):Spec Tryz.prog 159 [.I ((qFg k:Nat):Int),.d (.sl 1 (qAj msg)),.agg [.I (((qEx k msg).1:Nat):Int),.I (((qEx k msg).2:Nat):Int)]] [] (fun r h'=>r=.d (.bool true)∧h'=[]):=by
 have hq:=qG_val
 have hpg:pG=2147483579:=rfl
 have hel:=qHo ((qFg k:Nat):Int)
 rw [pubS_elem hk] at hel
 obtain ⟨r1,r2⟩:=signS_range k msg
 have hv:=verS_sign k msg
 generalize (qEx k msg).1=e at r1 hv ⊢
 generalize (qEx k msg).2=s at r2 hv ⊢
 have x1:=smallR09_spec (e:Int)
 rw [show qFx (e:Int)=true from decide_eq_true (by omega)] at x1
 have x2:=smallR09_spec (s:Int)
 rw [show qFx (s:Int)=true from decide_eq_true (by omega)] at x2
 have hpk:1≤qFg k∧qFg k < pG:=qJa k
 have p1:=qOp 4 s (by omega) (by omega)
 have p2:=qOp (qFg k) (qG-e) hpk.2 (by omega)
 have q1:=qJa s
 have q2:1≤qFg k ^ (qG-e) % pG∧qFg k ^ (qG-e) % pG < pG:=by
  unfold qFg
  rw [← Nat.pow_mod,← Nat.pow_mul]
  exact qJa _
 unfold vMq at hv
 generalize 4 ^ s % pG=a at p1 q1 hv
 generalize qFg k ^ (qG-e) % pG=b at p2 q2 hv
 have hlt:a*b % pG < pG:=Nat.mod_lt _ (by omega)
 have hm:a*b≤2147483579*2147483579:=Nat.mul_le_mul (by omega) (by omega)
 have hw1:IntKind.i64.wrap ((a:Int)*(b:Int))=((a*b:Nat):Int):=by rw [qAe (by rw [← Int.natCast_mul];omega)];simp
 have ht:Int.tmod (IntKind.i64.wrap ((a:Int)*(b:Int))) 2147483579=((a*b % pG:Nat):Int):=by rw [hw1];rfl
 clear hm hw1
 generalize a*b % pG=c at hv hlt ht
 have hn:=qPh c msg (by omega) hl
 rw [show qNn c msg qG=e by simpa using hv] at hn
 have hw:IntKind.i64.wrap (1073741789-(e:Int))=((qG-e:Nat):Int):=by rw [qAe (by omega)];omega
 generalize qFg k=pk at hel p2 hpk
 refine qAb hT Tryz.func159 rfl rfl rfl rfl ?_;intro E hE
 refine ww ?_
 refine wwc hel ?_
 refine ww ?_
 refine wwgc x1 ?_
 refine ww ?_
 refine wwgc x2 ?_
 refine ww ?_
 refine qAa rfl (fun c1=>?_) (fun c1=>?_)
 ·exact absurd c1 (by simp)
 refine ww ?_
 refine wwc p1 ?_
 refine ww ?_
 rw [hw]
 refine wwc p2 ?_
 refine ww ?_
 rw [ht]
 refine wwc hn ?_
 refine ww ?_
 refine rq ⟨rfl,rfl⟩ rfl (.bool (by simp))
theorem qSq (k:Nat) (hk:1≤k∧k < qG) (c:Nal) (hs:c.sta.length≤3) (h:IssBy k c):Spec Tryz.prog 79 [.I ((qFg k:Nat):Int),qEb c] [] (fun r h'=>r=.d (.bool true)∧h'=[]):=by
 have hB:=qVi c (by omega)
 obtain ⟨i1,i2,i3⟩:=h
 have hbl:=qHh c hs
 rw [show qHg c=(wrL [qBk c],0) by unfold qHg;rw [if_neg (by rw [i1];simp)]] at hB
 have hV:=qXh k hk (wrL [qBk c]) (by omega)
 rw [← i2,← i3] at hV
 generalize wrL [qBk c]=B at hB hV
 clear i1 i2 i3 hbl
 generalize qFg k=pk at hV
 obtain ⟨sta,kind,num,iss,own,key,frm,unt,til,sE,sS⟩:=c
 simp only at hs hV ⊢
 unfold qEb qAv at hB ⊢
 simp only at hB ⊢
 refine qAb hT Tryz.func79 rfl rfl rfl rfl ?_;intro E hE
 refine ww ?_
 refine wwc hB ?_
 refine ww ?_
 refine qCh rfl rfl rfl (fun hg=>⟨⟨hg,hg,hg,True.intro⟩,qBl rfl rfl hV rfl rfl rfl⟩) ?_
 refine ww ?_
 exact wwr
theorem qXo (k:Nat) (hk:1≤k∧k < qG) (c:Nal) (hs:c.sta.length≤3) (h:IssBy k c) (h1:c.kind=1) (h2:c.key=((qFg k:Nat):Int)):Spec Tryz.prog 22 [qEb c] [] (fun r h'=>r=.d (.bool true)∧h'=[]):=by
 have hV:=qSq k hk c hs h
 rw [← h2] at hV
 clear h h2
 obtain ⟨sta,kind,num,iss,own,key,frm,unt,til,sE,sS⟩:=c
 simp only at hs h1 hV ⊢
 subst h1
 unfold qEb qAv at hV ⊢
 simp only at hV ⊢
 refine qAb hT Tryz.func22 rfl rfl rfl rfl ?_;intro E hE
 refine ww ?_
 refine wwgc hV ?_
 refine ww ?_
 exact wwr
def qPk (a:Aut):List Nal:=a.roots++a.links++[a.signer,a.lister]
def vCs (n i:Nat):Int:=if i=0 then 1 else if i < n then 4*i else if i+1 < 2*n then 4*((i:Int)-n)+5 else if i+1=2*n then 4*n-2 else 4*n-1
theorem serNo_ne {n i k:Nat} (hn:1≤n) (hi:i < 2*n+1) (hk:k < i):vCs n i≠vCs n k:=by
 unfold vCs
 intro h
 rw [if_neg (show ¬ i=0 by omega)] at h
 split at h <;> split at h <;> (try split at h) <;> (try split at h) <;> (try split at h) <;> (try split at h) <;> omega
theorem vEv {a:Aut} {day:Int} (h:Tru a day):(qPk a).length=2*a.secs.length+1:=by
 have h1:=h.nr
 have h2:=h.nl
 unfold qPk
 simp only [List.length_append,List.length_cons,List.length_nil]
 omega
theorem vEu {a:Aut} {day:Int} (h:Tru a day) {i:Nat} {x:Nal} (hx:(qPk a)[i]?=some x):x.num=vCs a.secs.length i:=by
 have h1:=h.nr
 have h2:=h.nl
 have hn:=h.good.n
 unfold qPk at hx
 unfold vCs
 by_cases c1:i < a.roots.length
 ·rw [List.getElem?_append_left (by rw [List.length_append];omega),List.getElem?_append_left c1] at hx
  rw [(h.root i x hx).num]
  split
  ·rfl
  ·rw [if_pos (by omega)]
 by_cases c2:i < a.roots.length+a.links.length
 ·rw [List.getElem?_append_left (by rw [List.length_append];omega),List.getElem?_append_right (by omega)] at hx
  rw [(h.link _ x hx).num,if_neg (by omega),if_neg (by omega),if_pos (by omega)]
  omega
 rw [List.getElem?_append_right (by rw [List.length_append];omega),List.length_append] at hx
 obtain ⟨o1,s1⟩:=h.signer
 obtain ⟨o2,s2⟩:=h.lister
 by_cases c3:i=a.roots.length+a.links.length
 ·rw [c3,Nat.sub_self] at hx
  have hx:a.signer=x:=by simpa using hx
  rw [← hx,s1.num,if_neg (by omega),if_neg (by omega),if_neg (by omega),if_pos (by omega)]
 ·by_cases c4:i=a.roots.length+a.links.length+1
  ·rw [c4,show a.roots.length+a.links.length+1-(a.roots.length+a.links.length)=1 by omega] at hx
   have hx:a.lister=x:=by simpa using hx
   rw [← hx,s2.num,if_neg (by omega),if_neg (by omega),if_neg (by omega),if_neg (by omega)]
  ·rw [List.getElem?_eq_none (by simp;omega)] at hx
   cases hx
theorem qYi {a:Aut} (h:GoodA a) {i:Nat} (hi:i < a.secs.length):1≤a.secs.getD i 0∧a.secs.getD i 0 < qG:=by
 have:a.secs.getD i 0=a.secs[i]:=by simp [hi]
 rw [this]
 exact h.ok.secs _ (List.getElem_mem _)
theorem utoS_len:utoS.length≤3:=by decide
theorem qZe {a:Aut} {day:Int} (h:Tru a day) (hday:day≤40730) {r0:Nal} (hr:a.roots[0]?=some r0) {i:Nat} {x:Nal} (hx:(r0::a.links)[i]?=some x) :
  i < a.secs.length∧x.own=(i:Int)+1∧(x.kind=1∨x.kind=2)∧x.key=((qFg (a.secs.getD i 0):Nat):Int)∧onF x day=0∧x.sta=utoS:=by
 have h1:=h.nr
 have h2:=h.nl
 cases i with
 | zero =>
  have hx:r0=x:=by simpa using hx
  subst hx
  have hc:=h.root 0 r0 hr
  have hl:=(List.getElem?_eq_some_iff.1 hr).1
  exact ⟨by omega,by rw [hc.own],.inl hc.kind,hc.key,hc.on hday,hc.sta⟩
 | succ j =>
  have hx:a.links[j]?=some x:=by simpa using hx
  have hc:=h.link j x hx
  have hl:=(List.getElem?_eq_some_iff.1 hx).1
  exact ⟨by omega,by rw [hc.own];omega,.inr hc.kind,hc.key,hc.on hday,hc.sta⟩
theorem vMi {a:Aut} {day:Int} (h:Tru a day) (hday:day≤40730) {r0:Nal} (hr:a.roots[0]?=some r0):Chn (r0::a.links) day:=by
 have h2:=h.nl
 have hn:=h.good.n
 refine ⟨by simp only [List.length_cons];omega,fun i x hx=>(qZe h hday hr hx).2.1,fun i x hx=>?_,fun i x y hx hy=>?_⟩
 ·have hx:a.links[i]?=some x:=by simpa using hx
  have hc:=h.link i x hx
  exact ⟨by rw [hc.iss],hc.kind⟩
 ·obtain ⟨q1,q2,q3,q4,q5,q6⟩:=qZe h hday hr hx
  have hy:a.links[i]?=some y:=by simpa using hy
  have hc:=h.link i y hy
  exact qLx (a.secs.getD i 0) (qYi h.good q1) x y day (by rw [hc.sta];exact utoS_len) (by rw [q6,hc.sta]) (by rw [hc.iss,q2]) q3 (by rw [hc.kind];decide) q5 (hc.on hday) q4 hc.by'
theorem vDe {a:Aut} {day:Int} (h:Tru a day) (hday:day≤40730) {r0:Nal} (hr:a.roots[0]?=some r0) {c:Nal} {kind num own:Int} {key:Nat} (hc:CertIs c (a.secs.getD (a.secs.length-1) 0) kind num a.secs.length own key day) (hk:kind≠1) :
  Spec Tryz.prog 21 [.d (.sl 11 (qAm [r0])),.d (.sl 11 (qAm a.links)),qEb c,.I day] [] (fun r h'=>r=.tup [.d (.sl 11 (qAm (r0::a.links++[c]))),.I 0]∧h'=[]):=by
 have h2:=h.nl
 have hn:=h.good.n
 have hrc:=h.root 0 r0 hr
 have o1:=qSp r0 (by rw [hrc.sta];decide) day
 rw [hrc.on hday] at o1
 have o2:=qSp c (by rw [hc.sta];decide) day
 rw [hc.on hday] at o2
 refine vFe r0 a.links c day (vMi h hday hr) (by omega) (fun x hx=>?_) (by rw [hc.kind];exact hk) (by rw [hc.iss];omega) o1
  (vBl (a.secs.getD 0 0) (qYi h.good (by omega)) r0 (by rw [hrc.sta];exact utoS_len) hrc.by' hrc.kind hrc.key) o2 (fun x hx=>?_)
 ·obtain ⟨i,hi⟩:=List.mem_iff_getElem?.1 hx
  rw [(qZe h hday hr hi).2.2.2.2.2,hc.sta]
 ·obtain ⟨q1,q2,q3,q4,q5,q6⟩:=qZe h hday hr hx
  rw [show a.secs.length-1=a.links.length by omega] at hc
  exact qLx (a.secs.getD a.links.length 0) (qYi h.good q1) x c day (by rw [hc.sta];exact utoS_len) (by rw [q6,hc.sta]) (by rw [hc.iss,q2];omega) q3 (by rw [hc.kind];exact hk) q5 (hc.on hday) q4 hc.by'
theorem rootR_of {a:Aut} {day:Int} (h:Tru a day) {c:Nal} (hc:a.roots[a.roots.length-1]?=some c):Spec Tryz.prog 22 [qEb c] [] (fun r h'=>r=.d (.bool true)∧h'=[]):=by
 have h1:=h.nr
 have hn:=h.good.n
 have hrc:=h.root _ c hc
 exact qXo (a.secs.getD (a.roots.length-1) 0) (qYi h.good (by omega)) c (by rw [hrc.sta];exact utoS_len) hrc.by' hrc.kind hrc.key
def qQi {α:Type} (p:α→Bool) (l:List α):Int:=match l.findIdx? p with
 | some i=>i
 | none=>-1
theorem fIdx_at {α:Type} {p:α→Bool} {l:List α} {k:Nat} (hk:k < l.length) (h:p l[k]=true) (hb:∀ j,(hj:j < k)→(hj2:j < l.length)→p l[j]=false):qQi p l=k:=by
 unfold qQi
 have:l.findIdx? p=some k:=by
  rw [List.findIdx?_eq_some_iff_getElem]
  exact ⟨hk,h,fun j hj=>by simpa using hb j hj (by omega)⟩
 rw [this]
theorem fIdx_none {α:Type} {p:α→Bool} {l:List α} (hb:∀ j,(hj:j < l.length)→p l[j]=false):qQi p l = -1:=by
 unfold qQi
 have:l.findIdx? p=none:=by
  rw [List.findIdx?_eq_none_iff]
  intro x hx
  obtain ⟨j,hj,rfl⟩:=List.mem_iff_getElem.1 hx
  simpa using hb j hj
 rw [this]
theorem fIdx_any {α:Type} (p:α→Bool) (l:List α):decide (qQi p l≥0)=l.any p:=by
 unfold qQi
 split
 ·rename_i i h
  obtain ⟨h1,h2,_⟩:=List.findIdx?_eq_some_iff_getElem.1 h
  have:l.any p=true:=List.any_eq_true.2 ⟨_,List.getElem_mem h1,h2⟩
  rw [this];simp
 ·rename_i h
  rw [List.findIdx?_eq_none_iff] at h
  have:l.any p=false:=by rw [List.any_eq_false];intro x hx;simpa using h x hx
  rw [this];decide
end Tdoc
