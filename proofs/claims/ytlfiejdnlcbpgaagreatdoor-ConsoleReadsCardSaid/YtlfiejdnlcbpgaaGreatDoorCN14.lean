/- Part 14 of the proof: the texts JG JH JI JK JL JM JN JO JP JQ JR JS JT SF P8 P9 P10 SG SH. -/
import Derived.Test.YtlfiejdnlcbpgaaGreatDoorCN13
set_option maxHeartbeats 8000000
set_option maxRecDepth 100000
set_option linter.unusedVariables false
set_option linter.unusedSimpArgs false
namespace Tdoc
open Go Go.Proofs
def qRw (k:Int):Bool:=decide (0 < k∧k < 1073741789)
theorem secF_nat {k:Nat} (h:1≤k∧k < qG):qRw (k:Int)=true:=by have:=qG_val;exact decide_eq_true (by omega)
theorem secF_get {k:Int} (h:qRw k=true):∃ n:Nat,k=(n:Int)∧1≤n∧n < qG:=by
 have hq:=qG_val
 have:=of_decide_eq_true h
 exact ⟨k.toNat,by omega,by omega,by omega⟩
theorem qRv (k:Int):Spec Tryz.prog 331 [.I k] [] (fun r h'=>r=.d (.bool (qRw k))∧h'=[]):=by
 refine qAb hT Tryz.func331 rfl rfl rfl rfl ?_;intro E hE
 refine ww ?_
 refine rq ⟨rfl,rfl⟩ rfl (.bool ?_)
 unfold qRw
 simp
def vIt (k:Int):Int:=if qRw k=true then ((qSc k.toNat:Nat):Int) else 0
def qWt (k:Int):Int:=if qRw k=true then 0 else 3
theorem qLr (k:Int):Spec Tryz.prog 232 [.I k] [] (fun r h'=>r=.tup [.I (vIt k),.I (qWt k)]∧h'=[]):=by
 have hs:=qRv k
 unfold vIt qWt
 refine qAb hT Tryz.func232 rfl rfl rfl rfl ?_;intro E hE
 refine ww ?_
 refine wwc hs ?_
 refine ww ?_
 refine qAa rfl (fun c1=>?_) (fun c1=>?_)
 ·have c1':¬ qRw k=true:=by simpa using c1
  rw [if_neg c1',if_neg c1']
  refine ww ?_
  exact wwr
 have c1':qRw k=true:=by simpa using c1
 rw [if_pos c1',if_pos c1']
 obtain ⟨n,rfl,h1,h2⟩:=secF_get c1'
 have hp:=powerK_spec 4 n (by decide) (by omega)
 rw [Int.toNat_natCast]
 unfold qSc
 generalize 4 ^ n % pG=p at hp
 refine ww ?_
 refine wwc hp ?_
 refine ww ?_
 exact wwr
theorem qXr (x k:Nat) (hx:1≤x∧x < pG) (hk:k≤qG):Spec Tryz.prog 366 [.I (x:Int),.I (k:Int)] [] (fun r h'=>r=.tup [.I ((x ^ k % pG:Nat):Int),.I 0]∧h'=[]):=by
 have hq:=qG_val
 have hpg:pG=2147483579:=rfl
 have hr:=qJf (x:Int)
 rw [show qHu (x:Int)=true by unfold qHu;exact decide_eq_true (by omega)] at hr
 have hp:=powerK_spec x k hx.2 hk
 generalize x ^ k % pG=p at hp
 refine qAb hT Tryz.func366 rfl rfl rfl rfl ?_;intro E hE
 refine ww ?_
 refine wwc hr ?_
 refine ww ?_
 refine qAa rfl (fun c1=>?_) (fun c1=>?_)
 ·exact absurd c1 (by simp;omega)
 refine ww ?_
 refine wwc hp ?_
 refine ww ?_
 exact wwr
theorem numS_eq (n:Nat) (msg:List UInt8) (m:Nat):qRo n msg m=nbV ((qOv (qBp 4 n++msg)).take 7) % m:=rfl
theorem qJd (n:Nat) (msg:List UInt8) (m:Nat) (hn:n < 4294967296) (hl:msg.length≤700000) (hm:1≤m∧m≤4294967296):Spec Tryz.prog 365 [.I (n:Int),.d (.sl 1 (qBb msg)),.I (m:Int)] [] (fun r h'=>r=.I ((qRo n msg m:Nat):Int)∧h'=[]):=by
 have hoc:=qHk n 4 (by omega) (by omega)
 have hol:=octB_length 4 n
 have hfl:[qBp 4 n,msg].flatten=qBp 4 n++msg:=by simp
 have hc:=qLy [qBp 4 n,msg] (by simp) (by rw [hfl,List.length_append];omega) (by rw [hfl,List.length_append];omega)
 have hs:=qWh (qBp 4 n++msg) (by rw [List.length_append];omega)
 have he:=numS_eq n msg m
 rw [hfl] at hc
 have hsl:=sumW_length (qBp 4 n++msg)
 generalize qOv (qBp 4 n++msg)=sm1 at hs he hsl
 generalize qBp 4 n++msg=bm at hc hs
 have hnm:=qJp (sm1.take 7) (by rw [List.length_take];omega)
 rw [show vEr (sm1.take 7)=(((nbN (sm1.take 7):Nat):Int),0) by unfold vEr;rw [if_neg (by rw [List.length_take];omega)]] at hnm
 have hel:=encB_length sm1
 have hcut:(qBb sm1).take (7:Int).toNat=qBb (sm1.take 7):=encB_take _ _
 rw [nbV_eq] at he
 generalize nbN (sm1.take 7)=nb at hnm he
 generalize qRo n msg m=fin at he
 subst he
 refine qAb hT Tryz.func365 rfl rfl rfl rfl ?_;intro E hE
 refine ww ?_
 refine wwc hoc ?_
 refine ww ?_
 refine wwc hc ?_
 refine ww ?_
 refine wwc hs ?_
 refine ww ?_
 rw [hcut]
 refine wwc hnm ?_
 refine ww ?_
 refine rq ⟨rfl,rfl⟩ rfl (.int rfl)
def vGv (k:Int) (msg:List UInt8):Int:=if qRw k=true then (((qKt k.toNat msg).1:Nat):Int) else 0
def vGu (k:Int) (msg:List UInt8):Int:=if qRw k=true then (((qKt k.toNat msg).2:Nat):Int) else 0
theorem signS_eq (k:Nat) (msg:List UInt8):qKt k msg=(qRo (qSc (1+qRo k msg (qG-1))) msg qG,(1+qRo k msg (qG-1)+qRo (qSc (1+qRo k msg (qG-1))) msg qG*k) % qG):=rfl
theorem vAj (k:Int) (msg:List UInt8) (hl:msg.length≤700000):Spec Tryz.prog 259 [.I k,.d (.sl 1 (qBb msg))] [] (fun r h'=>r=.tup [.agg [.I (vGv k msg),.I (vGu k msg)],.I (qWt k)]∧h'=[]):=by
 have hp:=qLr k
 unfold vGv vGu
 refine qAb hT Tryz.func259 rfl rfl rfl rfl ?_;intro E hE
 refine ww ?_
 refine wwc hp ?_
 refine ww ?_
 refine qAa rfl (fun c1=>?_) (fun c1=>?_)
 ·have c1':¬ qRw k=true:=by intro h;unfold qWt at c1;rw [if_pos h] at c1;simp at c1
  rw [if_neg c1',if_neg c1']
  refine ww ?_
  exact wwr
 have c1':qRw k=true:=by
  rcases Bool.eq_false_or_eq_true (qRw k) with h | h
  ·exact h
  ·unfold qWt at c1;rw [if_neg (by simp [h])] at c1;simp at c1
 rw [if_pos c1',if_pos c1']
 have he0:qWt k=0:=by unfold qWt;rw [if_pos c1']
 rw [he0]
 obtain ⟨n,rfl,h1,h2⟩:=secF_get c1'
 rw [Int.toNat_natCast]
 have hq:=qG_val
 have hpg:pG=2147483579:=rfl
 have hn1:=qJd n msg (qG-1) (by omega) hl (by decide)
 have hsg:=signS_eq n msg
 have hlt1:=numS_lt n msg (m:=qG-1) (by decide)
 generalize qRo n msg (qG-1)=a at hn1 hsg hlt1
 have hpw:=qXr 4 (1+a) (by decide) (by omega)
 have hps:qSc (1+a)=4 ^ (1+a) % pG:=rfl
 rw [← hps] at hpw
 have hpl:=pubS_lt (1+a)
 generalize qSc (1+a)=r at hpw hsg hpl
 have hn2:=qJd r msg qG (by omega) hl (by decide)
 have hlt2:=numS_lt r msg (m:=qG) (by decide)
 generalize qRo r msg qG=e at hn2 hsg hlt2
 rw [hsg]
 have hmul:e*n≤1152921504606846976:=Nat.le_trans (Nat.mul_le_mul (Nat.le_of_lt hlt2) (Nat.le_of_lt h2)) (by decide)
 have hw1:IntKind.i64.wrap (1+(a:Int))=((1+a:Nat):Int):=by rw [qAh (by omega)];omega
 have hw2:IntKind.i64.wrap ((e:Int)*(n:Int))=((e*n:Nat):Int):=by rw [← Int.natCast_mul];exact qAh (by omega)
 refine ww ?_
 refine wwc hn1 ?_
 refine ww ?_
 refine wwc hpw ?_
 refine ww ?_
 refine wwc hn2 ?_
 refine ww ?_
 refine rq ⟨rfl,rfl⟩ rfl (AV.le.tup ⟨AV.le.agg ⟨.refl _,.int ?_,trivial⟩,.refl _,trivial⟩)
 show Int.tmod (IntKind.i64.wrap (IntKind.i64.wrap (1+(a:Int))+IntKind.i64.wrap ((e:Int)*(n:Int)))) 1073741789=_
 rw [hw1,hw2,qAh (by omega),← Int.natCast_add]
 rfl
theorem strAt_nat (s:List UInt8) (i:Nat):qGa s (i:Int)=bI (s.getD i 0):=by
 unfold qGa bI
 rw [Int.toNat_natCast,List.getD_eq_getElem?_getD]
theorem allUp_of {s:List UInt8} (h:∀ j,j < s.length→qZm (s.getD j 0)=true):s.all qZm=true:=by
 rw [List.all_eq_true]
 intro c hc
 obtain ⟨j,hj,rfl⟩:=List.getElem_of_mem hc
 have:=h j hj
 rwa [List.getD_eq_getElem?_getD,List.getElem?_eq_getElem hj] at this
theorem allUp_not {s:List UInt8} {i:Nat} (hi:i < s.length) (h:qZm (s.getD i 0)=false):s.all qZm=false:=by
 rcases Bool.eq_false_or_eq_true (s.all qZm) with ha | ha
 ·rw [List.all_eq_true] at ha
  have:=ha s[i] (List.getElem_mem hi)
  rw [List.getD_eq_getElem?_getD,List.getElem?_eq_getElem hi] at h
  simp only [Option.getD_some] at h
  rw [this] at h;cases h
 ·exact ha
theorem qJb (s:List UInt8) (hs:s.length≤1000000000):Spec Tryz.prog 177 [.d (.str s)] [] (fun r h'=>r=.d (.bool (qDq s))∧h'=[]):=by
 refine qAb hT Tryz.func177 rfl rfl rfl rfl ?_;intro E hE
 refine ww ?_
 refine qAa rfl (fun c1=>?_) (fun c1=>?_)
 ·have:qDq s=false:=by
   unfold qDq
   rw [decide_eq_false (by simp at c1;omega)];rfl
  rw [this]
  refine ww ?_
  exact wwr
 have hlen:1≤s.length∧s.length≤3:=by simp at c1;omega
 have hsf:qDq s=s.all qZm:=by unfold qDq;rw [decide_eq_true hlen];rfl
 rw [hsf]
 refine ww ?_
 refine qAn (ι:=Nat) (fun i=>[(0,.d (.str s)),(13,.I (s.length:Int)),(14,.I (i:Int))]) (fun _=>[]) (fun i=>i≤s.length∧∀ j,j < i→qZm (s.getD j 0)=true) (fun i=>s.length-i) 0 ⟨Nat.zero_le _,fun j h=>by omega⟩
  yf (HLe.refl _) ?_
 intro i ⟨hi,hup⟩
 have hat:=strAt_nat s i
 refine ww ?_
 refine qAa rfl (fun c2=>?_) (fun c2=>?_)
 ·have hi':i < s.length:=by simp at c2;omega
  refine ww ?_
  refine qAa rfl (fun c3=>?_) (fun c3=>?_)
  ·have:s.all qZm=false:=by
    refine allUp_not hi' ?_
    rw [hat] at c3
    unfold qZm
    simp only [Bool.or_eq_true,decide_eq_true_eq] at c3
    exact decide_eq_false (by omega)
   rw [this]
   refine ww ?_
   exact wwr
  refine ww ?_
  refine ⟨i+1,⟨hi',fun j hj=>?_⟩,by omega,⟨.refl _,.refl _,.int (by rw [qAh (by omega)];omega),trivial⟩,HLe.refl _⟩
  rcases Nat.lt_or_ge j i with h | h
  ·exact hup j h
  ·have:j=i:=by omega
   subst this
   rw [hat] at c3
   unfold qZm
   simp only [Bool.or_eq_false_iff,decide_eq_false_iff_not] at c3
   exact decide_eq_true (by omega)
 have hi':i=s.length:=by simp at c2;omega
 subst hi'
 rw [allUp_of hup]
 refine ww ?_
 exact wwr
theorem qHj (n:Int):Spec Tryz.prog 197 [.I n] [] (fun r h'=>r=.d (.bool (qEh n))∧h'=[]):=by
 refine qAb hT Tryz.func197 rfl rfl rfl rfl ?_;intro E hE
 refine ww ?_
 refine rq ⟨rfl,rfl⟩ rfl (.bool ?_)
 unfold qEh
 rw [Bool.eq_iff_iff]
 simp
theorem chk3 (a b d:Bool) (x y k:Int):((!a||!b||!d||!((x == y) == (k == 1)))=true)↔(a=false∨b=false∨d=false∨(decide (x=y)≠decide (k=1))):=by
 rw [show (x == y)=decide (x=y) from rfl,show (k == 1)=decide (k=1) from rfl]
 generalize decide (x=y)=u
 generalize decide (k=1)=v
 cases a <;> cases b <;> cases d <;> cases u <;> cases v <;> simp
theorem qXy (c:Nal) (hs:c.sta.length≤1000000000):Spec Tryz.prog 450 [vCb c] [] (fun r h'=>r=.I (qFp c)∧h'=[]):=by
 have hst:=qJb c.sta hs
 have h1:=qHj c.num
 have h2:=qHj c.iss
 have h3:=qHj c.own
 have hel:=qJq c.key
 unfold qFp
 refine qAb hT Tryz.func450 rfl rfl rfl rfl ?_;intro E hE
 refine ww ?_
 refine wwc hst ?_
 refine ww ?_
 refine qAa rfl (fun c1=>?_) (fun c1=>?_)
 ·rw [if_pos (by simpa using c1)]
  refine ww ?_
  exact wwr
 rw [if_neg (by simpa using c1)]
 refine ww ?_
 refine qAa rfl (fun c2=>?_) (fun c2=>?_)
 ·rw [if_pos (by simp at c2;omega)]
  refine ww ?_
  exact wwr
 rw [if_neg (by simp at c2;omega)]
 refine ww ?_
 refine wwc h1 ?_
 refine ww ?_
 refine wwgc h2 ?_
 refine ww ?_
 refine wwgc h3 ?_
 refine ww ?_
 refine qAa rfl (fun c3=>?_) (fun c3=>?_)
 ·rw [if_pos ((chk3 _ _ _ _ _ _).1 c3)]
  refine ww ?_
  exact wwr
 rw [if_neg (fun h=>by rw [(chk3 _ _ _ _ _ _).2 h] at c3;cases c3)]
 refine ww ?_
 refine wwc hel ?_
 refine ww ?_
 refine qAa rfl (fun c4=>?_) (fun c4=>?_)
 ·rw [if_pos (by simpa using c4)]
  refine ww ?_
  exact wwr
 rw [if_neg (by simpa using c4)]
 refine ww ?_
 refine qAa rfl (fun c5=>?_) (fun c5=>?_)
 ·rw [if_pos (by simp at c5;omega)]
  refine ww ?_
  exact wwr
 rw [if_neg (by simp at c5;omega)]
 refine ww ?_
 exact wwr
theorem octB_at:∀ (m n k:Nat),k < m→(qBp m n)[k]?=some (UInt8.ofNat (n / 256 ^ (m-1-k) % 256))
 | 0,n,k,h=>by omega
 | m+1,n,0,h=>by rw [octB_succ];simp
 | m+1,n,k+1,h=>by
  rw [octB_succ,List.getElem?_cons_succ,octB_at m n k (by omega),show m+1-1-(k+1)=m-1-k by omega]
theorem octB_take (m n k:Nat) (h:k < m):(qBp m n).take (k+1)=(qBp m n).take k++[UInt8.ofNat (n / 256 ^ (m-1-k) % 256)]:=by
 rw [List.take_add_one,octB_at m n k h];rfl
def qNg (m:Nat) (l:List Nat) (i:Nat):List UInt8:=((l.take i).map (qBp m)).flatten
theorem wideN_succ (m:Nat) {l:List Nat} {i:Nat} (h:i < l.length):qNg m l (i+1)=qNg m l i++qBp m (l.getD i 0):=by
 unfold qNg
 rw [List.take_add_one,List.map_append,List.flatten_append,List.getElem?_eq_getElem h]
 simp [h]
theorem wideN_length (m:Nat) (l:List Nat):∀ i,i≤l.length→(qNg m l i).length=m*i
 | 0,_=>rfl
 | i+1,h=>by rw [wideN_succ m (by omega),List.length_append,wideN_length m l i (by omega),octB_length,Nat.mul_succ]
def vBl (m:Nat) (l:List Nat):List UInt8:=qNg m l l.length
theorem qGu (m:Nat) (l:List Nat) (hm:m≤7) (hl:l.length≤1000) (hn:∀ n,n∈l→n < 9223372036854775808):Spec Tryz.prog 273 [.I (m:Int),.d (.sl 1 (encNs' l))] [] (fun r h'=>r=.d (.sl 1 (qBb (vBl m l)))∧h'=[]):=by
 have hll:(encNs' l).length=l.length:=by simp [encNs']
 unfold vBl
 refine qAb hT Tryz.func273 rfl rfl rfl rfl ?_;intro E hE
 refine qAq ?_
 refine qAf (qAc ?_)
 refine wws ?_
 refine qAf (qAc ?_)
 refine wws ?_
 refine qBc 5 1 0 (es:=[]) (.inr ⟨rfl,rfl⟩) rfl ?_
 refine ww ?_
 refine qAn (ι:=Nat) (fun i=>[(0,.I (m:Int)),(5,.sl 1 (qBb (qNg m l i)) (.right 0)),(9,.d (.sl 1 (encNs' l))),(10,.I (l.length:Int)),(11,.I (i:Int))]) (fun i=>[.right 1 (qBb (qNg m l i)).length]) (fun i=>i≤l.length) (fun i=>l.length-i) 0 (Nat.zero_le _)
  ⟨.refl _,.refl _,.refl _,.int (by rw [hll]),.refl _,trivial⟩ (HLe.refl _) ?_
 intro i hi
 have hwl:=wideN_length m l i hi
 have hml:m*i≤7*1000:=Nat.mul_le_mul hm (by omega)
 refine ww ?_
 refine qAa rfl (fun c1=>?_) (fun c1=>?_)
 ·have hi':i < l.length:=by simp at c1;omega
  have hat:=encNs'_at hi'
  have hsu:=wideN_succ m hi'
  have hnb:l.getD i 0 < 9223372036854775808:=by
   rw [List.getD_eq_getElem?_getD,List.getElem?_eq_getElem hi'];exact hn _ (List.getElem_mem hi')
  generalize l.getD i 0=n at hat hsu hnb
  generalize qNg m l i=pre at hwl hsu ⊢
  have hol:=octB_length m n
  refine ww ?_
  refine wwi hat ?_
  refine ww ?_
  refine qAn (ι:=Nat) (fun k=>[(0,.I (m:Int)),(5,.sl 1 (qBb (pre++(qBp m n).take k)) (.right 0)),(7,.I (n:Int)),(8,.I ((m:Int)-1-(k:Int))),(9,.d (.sl 1 (encNs' l))),(10,.I (l.length:Int)),(11,.I (i:Int))]) (fun k=>[.right 1 (qBb (pre++(qBp m n).take k)).length]) (fun k=>k≤m) (fun k=>m-k) 0 (Nat.zero_le _)
   ⟨.refl _,.slt (by rw [List.take_zero,List.append_nil]),.refl _,.int (by rw [qAh (by omega)];omega),.refl _,.refl _,.refl _,trivial⟩ ⟨⟨rfl,by rw [List.take_zero,List.append_nil]⟩,trivial⟩ ?_
  intro k hk
  have hlk:(qBb (pre++(qBp m n).take k)).length=pre.length+k:=by rw [encB_length,List.length_append,List.length_take,hol];omega
  refine ww ?_
  refine qAa rfl (fun c2=>?_) (fun c2=>?_)
  ·have hk':k < m:=by simp at c2;omega
   have hs:qBb (pre++(qBp m n).take (k+1))=qBb (pre++(qBp m n).take k)++[[.int .u8 ((UInt8.ofNat (n / 256 ^ (m-1-k) % 256)).toNat:Int)]]:=by
    rw [octB_take m n k hk',← List.append_assoc,encB_append];rfl
   have hw8:IntKind.i64.wrap (8*((m:Int)-1-(k:Int)))=((8*(m-1-k):Nat):Int):=by rw [qAh (by omega)];omega
   have hnn:0≤IntKind.i64.wrap (8*((m:Int)-1-(k:Int))):=by rw [hw8];omega
   have hbyte:IntKind.u8.wrap (Int.fdiv (n:Int) (2 ^ (min (IntKind.i64.wrap (8*((m:Int)-1-(k:Int)))).toNat IntKind.i64.bits)))=((UInt8.ofNat (n / 256 ^ (m-1-k) % 256)).toNat:Int):=by
    rw [hw8,qZr n (8*(m-1-k)) hnb,show min (8*(m-1-k)) 64=8*(m-1-k) by omega,Nat.pow_mul]
   refine ww ?_
   refine qAd (qAs (i:=0) hT rfl rfl rfl rfl rfl rfl (by show ((qBb (pre++(qBp m n).take k)).length+1)*(1+1)≤_;omega)) rfl ?_
   refine ww ?_
   exact ⟨k+1,hk',by omega,⟨.refl _,.slt (by rw [hs,← hbyte]),.refl _,.int (by rw [qAh (by omega)];omega),.refl _,.refl _,.refl _,trivial⟩,⟨⟨rfl,by rw [hs,← hbyte]⟩,trivial⟩⟩
  have hk':k=m:=by simp at c2;omega
  subst hk'
  have ht:pre++(qBp k n).take k=qNg k l (i+1):=by rw [hsu,List.take_of_length_le (by rw [hol];omega)]
  rw [ht]
  refine ww ?_
  exact ⟨i+1,hi',by omega,⟨.refl _,.refl _,.refl _,.refl _,.int (by rw [qAh (by omega)];omega),trivial⟩,HLe.refl _⟩
 have hi':i=l.length:=by simp at c1;omega
 subst hi'
 refine ww ?_
 refine rq ⟨rfl,rfl⟩ rfl AV.le.dat
theorem chk0 {c:Nal} (h:qFp c=0):qDq c.sta=true∧(1≤c.kind∧c.kind≤4)∧(1≤c.num∧c.num≤1073741824)∧(1≤c.iss∧c.iss≤1073741824)∧(1≤c.own∧c.own≤1073741824)∧qIy c.key=true∧0≤c.frm∧c.frm≤c.unt∧c.unt≤c.til∧c.til≤73048:=by
 unfold qFp at h
 split at h
 ·cases h
 rename_i h1
 split at h
 ·cases h
 rename_i h2
 split at h
 ·cases h
 rename_i h3
 split at h
 ·cases h
 rename_i h4
 split at h
 ·cases h
 rename_i h5
 simp only [not_or,Bool.not_eq_false] at h1 h3 h4
 have a1:1≤c.num∧c.num≤1073741824:=of_decide_eq_true h3.1
 have a2:1≤c.iss∧c.iss≤1073741824:=of_decide_eq_true h3.2.1
 have a3:1≤c.own∧c.own≤1073741824:=of_decide_eq_true h3.2.2.1
 exact ⟨h1,by omega,a1,a2,a3,h4,by omega,by omega,by omega,by omega⟩
theorem stateF_len {s:List UInt8} (h:qDq s=true):s.length≤3:=by
 unfold qDq at h
 rw [Bool.and_eq_true] at h
 exact (of_decide_eq_true h.1).2
theorem wide1 (m n:Nat):vBl m [n]=qBp m n:=by
 show ([qBp m n]:List (List UInt8)).flatten=_
 simp
theorem wide3 (m a b c:Nat):vBl m [a,b,c]=qBp m a++qBp m b++qBp m c:=by
 show ([qBp m a,qBp m b,qBp m c]:List (List UInt8)).flatten=_
 simp
theorem vIy {n:Nat} (h:n < 256):IntKind.u8.wrap (n:Int)=((UInt8.ofNat n).toNat:Int):=by rw [wrapu8 (by omega),toNat_ofNat h]
theorem qWy (c:Nal) (h:qFp c=0):Spec Tryz.prog 451 [vCb c] [] (fun r h'=>r=.tup [nAV (qBx c),.I 0]∧h'=[]):=by
 obtain ⟨q1,q2,q3,q4,q5,q6,q7⟩:=chk0 h
 have hkr:=elemG_range q6
 have hge:=qRd c.key
 rw [if_pos q6,if_pos q6] at hge
 obtain ⟨sta,kind,num,iss,own,key,frm,unt,til,sE,sS⟩:=c
 simp only at q1 q2 q3 q4 q5 q6 q7 hkr hge
 clear h
 obtain ⟨kind,rfl⟩:=Int.eq_ofNat_of_zero_le (show 0≤kind by omega)
 obtain ⟨num,rfl⟩:=Int.eq_ofNat_of_zero_le (show 0≤num by omega)
 obtain ⟨iss,rfl⟩:=Int.eq_ofNat_of_zero_le (show 0≤iss by omega)
 obtain ⟨own,rfl⟩:=Int.eq_ofNat_of_zero_le (show 0≤own by omega)
 obtain ⟨key,rfl⟩:=Int.eq_ofNat_of_zero_le (show 0≤key by omega)
 obtain ⟨frm,rfl⟩:=Int.eq_ofNat_of_zero_le (show 0≤frm by omega)
 obtain ⟨unt,rfl⟩:=Int.eq_ofNat_of_zero_le (show 0≤unt by omega)
 obtain ⟨til,rfl⟩:=Int.eq_ofNat_of_zero_le (show 0≤til by omega)
 rw [Int.toNat_natCast] at hge
 have w1:=qGu 4 [num] (by omega) (by simp) (fun n hn=>by simp at hn;omega)
 have w2:=qGu 4 [iss] (by omega) (by simp) (fun n hn=>by simp at hn;omega)
 have w3:=qGu 4 [own] (by omega) (by simp) (fun n hn=>by simp at hn;omega)
 have w4:=qGu 3 [frm,unt,til] (by omega) (by simp) (fun n hn=>by simp at hn;omega)
 rw [wide1] at w1 w2 w3
 rw [wide3] at w4
 have hbd:qBx ⟨sta,(kind:Int),(num:Int),(iss:Int),(own:Int),(key:Int),(frm:Int),(unt:Int),(til:Int),sE,sS⟩=.mk 48 [] [.mk 19 sta [],.mk 129 [UInt8.ofNat kind] [],.mk 130 (qBp 4 num) [],.mk 131 (qBp 4 iss) [],.mk 132 (qBp 4 own) [],.mk 133 (qBp 4 key) [],.mk 134 (qBp 3 frm++qBp 3 unt++qBp 3 til) []]:=rfl
 rw [hbd]
 have hkb:=vIy (n:=kind) (by omega)
 generalize qBp 4 num=b1 at w1 ⊢
 generalize qBp 4 iss=b2 at w2 ⊢
 generalize qBp 4 own=b3 at w3 ⊢
 generalize qBp 4 key=b4 at hge ⊢
 generalize qBp 3 frm++qBp 3 unt++qBp 3 til=b5 at w4 ⊢
 refine qAb hT Tryz.func451 rfl rfl rfl rfl ?_;intro E hE
 refine ww ?_
 refine wwc hge ?_
 refine ww ?_
 refine qAa rfl (fun c1=>?_) (fun c1=>?_)
 ·exact absurd c1 (by simp)
 refine qDy ?_
 refine wwn ?_
 refine qBu (fun i=>bif Nat.beq i 37 then [1] else [0]) (fun i=>bif Nat.beq i 37 then [1] else []) mixed (by kernel_rfl) ?_
 refine wwg ?_
 refine qAm (os:=[]) (fun k hk1 hk2=>strBytes_ok hT rfl rfl rfl) rfl ?_
 refine wwg ?_
 refine qAm (os:=[]) (fun k hk1 hk2=>buildSl_ok hT rfl rfl) rfl ?_
 refine wwg ?_
 refine qAm (os:=[]) (fun k hk1 hk2=>buildSl_ok hT rfl rfl) rfl ?_
 refine wwdc w1 ?_
 refine wwg ?_
 refine qAm (os:=[]) (fun k hk1 hk2=>buildSl_ok hT rfl rfl) rfl ?_
 refine wwdc w2 ?_
 refine wwg ?_
 refine qAm (os:=[]) (fun k hk1 hk2=>buildSl_ok hT rfl rfl) rfl ?_
 refine wwdc w3 ?_
 refine wwg ?_
 refine qAm (os:=[]) (fun k hk1 hk2=>buildSl_ok hT rfl rfl) rfl ?_
 refine wwdc w4 ?_
 refine wwg ?_
 refine qAm (os:=[]) (fun k hk1 hk2=>buildSl_ok hT rfl rfl) rfl ?_
 refine wwg ?_
 refine ww ?_
 refine rq ⟨rfl,rfl⟩ rfl (AV.le.tup ⟨AV.le.agg ⟨.refl _,AV.le.dat' rfl,AV.le.dat' ?_,trivial⟩,.refl _,trivial⟩)
 rw [hkb]
 rfl
theorem vCy {c:Nal} (h:qFp c=0):vFq [qBx c]:=by
 have hl:=stateF_len (chk0 h).1
 unfold qBx
 refine ⟨⟨⟨by omega,by omega⟩,by simp,by simp,?_⟩,trivial⟩
 refine ⟨?_,?_,?_,?_,?_,?_,?_,trivial⟩ <;> refine ⟨⟨by omega,by omega⟩,?_,by simp,trivial⟩ <;> (try simp [octB_length]) <;> omega
theorem vAb (c:Nal):qDj [qBx c]≤20:=by simp [qBx,qDj,qKs]
theorem bytesNl_eq (c:Nal):qTd c=if qFp c≠0 then ([],qFp c) else (wrL [qBx c],0):=rfl
theorem qXs (c:Nal) (hs:c.sta.length≤1000000000):Spec Tryz.prog 333 [vCb c] [] (fun r h'=>r=.tup [.d (.sl 1 (qBb (qTd c).1)),.d (.int .i64 (qTd c).2)]∧h'=[]):=by
 have hck:=qXy c hs
 rw [bytesNl_eq]
 by_cases hc:qFp c=0
 ·have htr:=qWy c hc
  have hbl:=qOd c (stateF_len (chk0 hc).1)
  have hen:=qUm [qBx c] (by simp) (vCy hc) (Nat.le_trans (vAb c) (by omega)) (by omega)
  rw [vCz c (stateF_len (chk0 hc).1)] at hen
  rw [hc] at hck
  rw [if_neg (by simpa using hc)]
  generalize hB:qBx c=B at htr hen
  obtain ⟨bt,bv,bk⟩:=B
  simp only at hen ⊢
  refine qAb hT Tryz.func333 rfl rfl rfl rfl ?_;intro E hE
  refine ww ?_
  refine wwc hck ?_
  refine ww ?_
  refine qAa rfl (fun c1=>?_) (fun c1=>?_)
  ·exact absurd c1 (by simp)
  refine ww ?_
  refine wwc htr ?_
  refine ww ?_
  refine qAa rfl (fun c2=>?_) (fun c2=>?_)
  ·exact absurd c2 (by simp)
  refine ww ?_
  refine wwc hen ?_
  refine ww ?_
  exact wwr
 ·rw [if_pos hc]
  generalize qFp c=e at hck hc
  refine qAb hT Tryz.func333 rfl rfl rfl rfl ?_;intro E hE
  refine ww ?_
  refine wwc hck ?_
  refine ww ?_
  refine qAa rfl (fun c1=>?_) (fun c1=>?_)
  ·refine ww ?_
   exact wwr
  ·exact absurd c1 (by simpa using hc)
def vIb (k:Int) (c:Nal):Nal×Int:=if qFp c≠0 then (nl0,qFp c) else if qRw k=false then (nl0,3) else (qDe k.toNat c,0)
theorem qTz (k:Int) (c:Nal) (hs:c.sta.length≤1000000000):Spec Tryz.prog 233 [.I k,vCb c] [] (fun r h'=>r=.tup [vCb (vIb k c).1,.d (.int .i64 (vIb k c).2)]∧h'=[]):=by
 have hbd:=qXs c hs
 rw [bytesNl_eq] at hbd
 unfold vIb
 by_cases hc:qFp c=0
 ·rw [if_neg (by simpa using hc)] at hbd ⊢
  simp only at hbd
  have hbl:=qOd c (stateF_len (chk0 hc).1)
  have hsg:=vAj k (wrL [qBx c]) (by omega)
  by_cases hk:qRw k=true
  ·rw [if_neg (by simp [hk])]
   rw [show qWt k=0 by unfold qWt;rw [if_pos hk],show vGv k (wrL [qBx c])=(((qKt k.toNat (wrL [qBx c])).1:Nat):Int) by unfold vGv;rw [if_pos hk],show vGu k (wrL [qBx c])=(((qKt k.toNat (wrL [qBx c])).2:Nat):Int) by unfold vGu;rw [if_pos hk]] at hsg
   have hii:qDe k.toNat c={ c with sE:=((qKt k.toNat (wrL [qBx c])).1:Nat),sS:=((qKt k.toNat (wrL [qBx c])).2:Nat) }:=rfl
   rw [hii]
   generalize (((qKt k.toNat (wrL [qBx c])).1:Nat):Int)=x at hsg ⊢
   generalize (((qKt k.toNat (wrL [qBx c])).2:Nat):Int)=y at hsg ⊢
   generalize wrL [qBx c]=B at hbd hsg
   clear hii hc hbl
   refine qAb hT Tryz.func233 rfl rfl rfl rfl ?_;intro E hE
   refine ww ?_
   refine wwc hbd ?_
   refine ww ?_
   refine qAa rfl (fun c1=>?_) (fun c1=>?_)
   ·exact absurd c1 (by simp)
   refine ww ?_
   refine wwc hsg ?_
   refine ww ?_
   refine qAa rfl (fun c2=>?_) (fun c2=>?_)
   ·exact absurd c2 (by simp)
   refine ww ?_
   exact wwr
  ·rw [if_pos (by simpa using hk)]
   rw [show qWt k=3 by unfold qWt;rw [if_neg hk],show vGv k (wrL [qBx c])=0 by unfold vGv;rw [if_neg hk],show vGu k (wrL [qBx c])=0 by unfold vGu;rw [if_neg hk]] at hsg
   generalize wrL [qBx c]=B at hbd hsg
   clear hc hbl
   refine qAb hT Tryz.func233 rfl rfl rfl rfl ?_;intro E hE
   refine ww ?_
   refine wwc hbd ?_
   refine ww ?_
   refine qAa rfl (fun c1=>?_) (fun c1=>?_)
   ·exact absurd c1 (by simp)
   refine ww ?_
   refine wwc hsg ?_
   refine ww ?_
   refine qAa rfl (fun c2=>?_) (fun c2=>?_)
   ·refine ww ?_
    exact wwr
   ·exact absurd c2 (by simp)
 ·rw [if_pos hc] at hbd ⊢
  simp only at hbd
  generalize qFp c=e at hbd hc
  refine qAb hT Tryz.func233 rfl rfl rfl rfl ?_;intro E hE
  refine ww ?_
  refine wwc hbd ?_
  refine ww ?_
  refine qAa rfl (fun c1=>?_) (fun c1=>?_)
  ·refine ww ?_
   exact wwr
  ·exact absurd c1 (by simpa using hc)
def qKa (a:Aut):List AObj:=[.row (vGj a (.sl 11 (qBo a.roots) (.right 2)) (.sl 11 (qBo a.links) (.right 3)) (.sl 1 (encNs' a.secs) (.right 1))),.right 1 (encNs' a.secs).length,.right 11 (qBo a.roots).length,.right 11 (qBo a.links).length]
theorem qMy (day n:Int) (hd:0≤day∧day≤73048) (hn:0≤n∧n≤100000):Spec Tryz.prog 201 [.I day,.I n] [] (fun r h'=>r=.I (qGc day n)∧h'=[]):=by
 refine qAb hT Tryz.func201 rfl rfl rfl rfl ?_;intro E hE
 refine ww ?_
 refine qAd (qAe (qSm (t2:=#[]) rfl rfl rfl)) rfl ?_
 refine ww ?_
 refine qAd (qAe (qSm (t2:=#[]) rfl rfl rfl)) rfl ?_
 refine ww ?_
 refine rq ⟨rfl,rfl⟩ rfl (.int ?_)
 unfold qGc
 have e:(if (73048:Int) < day then (73048:Int) else day)=day:=if_neg (by omega)
 simp only [e]
 rw [qAh (by omega)]
 split <;> omega
theorem qGf (a:Aut) (hs:a.seed.length≤500000):Spec Tryz.prog 231 [.ptr 0 0] (qKa a) (fun r h'=>r=.I (qMf a.seed:Int)∧h'=qKa { a with seed:=qDs a.seed }):=by
 have hd:=qTm a.seed hs
 generalize hk:qMf a.seed=k at hd ⊢
 generalize hx:qDs a.seed=nx at hd ⊢
 obtain ⟨sta,roots,links,secs,signer,lister,sk,lk,next,list,rev,defs,seed⟩:=a
 simp only at hd ⊢
 refine qAb hT Tryz.func231 rfl rfl rfl rfl ?_;intro E hE
 refine ww ?_
 refine wwc hd ?_
 refine ww ?_
 exact wwr
theorem encNs'_len (l:List Nat):(encNs' l).length=l.length:=by simp [encNs']
theorem qIw (a:Aut) (kind:Int) (issuer own k:Nat) (day u t:Int) (hnx:a.next≤1000000) (hiss:1≤issuer∧issuer≤a.secs.length∧a.secs.length≤1000) (hk:1≤k∧k < qG) (hday:0≤day∧day≤73048) (hu:0≤u∧u≤100000∧0≤t∧t≤100000)
  (hsec:1≤a.secs.getD (issuer-1) 0∧a.secs.getD (issuer-1) 0 < qG) (hchk:qFp (qIk a kind issuer own k day u t)=0) :
  Spec Tryz.prog 180 [.ptr 0 0,.I kind,.I (issuer:Int),.I (own:Int),.I (k:Int),.I day,.I u,.I t] (qKa a)
   (fun r h'=>r=.tup [vCb (qDe (a.secs.getD (issuer-1) 0) (qIk a kind issuer own k day u t)),.I 0]∧h'=qKa { a with next:=a.next+1 }):=by
 have hp:=qLr (k:Int)
 have hsk:=secF_nat hk
 rw [show vIt (k:Int)=((qSc k:Nat):Int) by unfold vIt;rw [if_pos hsk,Int.toNat_natCast],show qWt (k:Int)=0 by unfold qWt;rw [if_pos hsk]] at hp
 have hl1:=qMy day u hday ⟨hu.1,hu.2.1⟩
 have hl2:=qMy day t hday ⟨hu.2.2.1,hu.2.2.2⟩
 have hcert:qIk a kind issuer own k day u t=⟨a.sta,kind,(a.next:Int),(issuer:Int),(own:Int),((qSc k:Nat):Int),day,qGc day u,qGc day t,0,0⟩:=rfl
 have hsl:=stateF_len (chk0 hchk).1
 have hsx:=secF_nat hsec
 have his:=qTz ((a.secs.getD (issuer-1) 0:Nat):Int) (qIk a kind issuer own k day u t) (by show a.sta.length≤_;have:(qIk a kind issuer own k day u t).sta=a.sta:=rfl;rw [this] at hsl;omega)
 rw [show vIb ((a.secs.getD (issuer-1) 0:Nat):Int) (qIk a kind issuer own k day u t)=(qDe (a.secs.getD (issuer-1) 0) (qIk a kind issuer own k day u t),0) by unfold vIb;rw [if_neg (by simpa using hchk),if_neg (by rw [hsx];simp),Int.toNat_natCast]] at his
 simp only at his
 have hat:=encNs'_at (l:=a.secs) (i:=issuer-1) (by omega)
 have hw1:IntKind.i64.wrap ((issuer:Int)-1)=((issuer-1:Nat):Int):=by rw [qAh (by omega)];omega
 generalize qDe (a.secs.getD (issuer-1) 0) (qIk a kind issuer own k day u t)=fin at his ⊢
 rw [hcert] at his
 generalize a.secs.getD (issuer-1) 0=sx at his hat
 generalize ((qSc k:Nat):Int)=pk at hp his
 generalize qGc day u=d1 at hl1 his
 generalize qGc day t=d2 at hl2 his
 clear hcert hsx hsl hchk
 obtain ⟨sta,roots,links,secs,signer,lister,sk,lk,next,list,rev,defs,seed⟩:=a
 simp only at *
 have hwn:IntKind.i64.wrap ((next:Int)+1)=((next+1:Nat):Int):=by rw [qAh (by omega)];omega
 refine qAb hT Tryz.func180 rfl rfl rfl rfl ?_;intro E hE
 refine ww ?_
 refine wwc hp ?_
 refine ww ?_
 refine qAa rfl (fun c1=>?_) (fun c1=>?_)
 ·exact absurd c1 (by simp)
 refine qDy ?_
 refine qAq ?_
 refine qAf (qBu (fun i=>bif Nat.beq i 20||Nat.beq i 21 then [5] else [0]) (fun i=>bif Nat.beq i 20||Nat.beq i 21 then [5] else []) mixed (by kernel_rfl) ?_)
 refine wwg ?_
 refine wwdc hl1 ?_
 refine wwg ?_
 refine wwdc hl2 ?_
 refine wwg ?_
 refine qAm (v:=.ptr 5 0) (os:=[.row (qDu nl0)]) (fun kk hk1 hk2=>allocAt_ok (i0:=5) (i:=⟨.struct [(0,1,false),(1,1,false),(2,1,false),(3,1,false),(4,1,false),(5,1,false),(6,1,false),(7,1,false),(8,1,false),(9,2,true)],11,96,qDu nl0⟩) hT rfl rfl ((hk2 5 List.mem_cons_self).trans rfl)) rfl ?_
 refine wwg ?_
 refine qAi (l:=[(0,.ptr 0 0),(2,.I (issuer:Int)),(16,.ptr 4 0),(20,.ptr 5 0)]) (h':=qKa ⟨sta,roots,links,secs,signer,lister,sk,lk,next,list,rev,defs,seed⟩++[.row (qDu nl0),.row (qDu ⟨sta,kind,(next:Int),(issuer:Int),(own:Int),pk,day,d1,d2,0,0⟩)])
  yf (HLe.refl _) ?_
 refine qAf (qAf (qBu (fun i=>bif Nat.beq i 3 then [0] else bif Nat.beq i 8||Nat.beq i 13 then [5] else []) (fun i=>bif Nat.beq i 13 then [5] else []) mixed (by kernel_rfl) ?_))
 refine wwg ?_
 refine qAm (os:=[]) (fun k hk1 hk2=>qAe (indexAddr_ok hT rfl rfl rfl rfl (by rw [hw1];omega) (by rw [hw1,Int.toNat_natCast];exact hat))) rfl ?_
 refine wwg ?_
 refine wwdc his ?_
 refine wwg ?_
 refine qAi (l:=[(0,.ptr 0 0),(16,.ptr 4 0),(19,.I 0),(20,.ptr 5 0)]) (h':=qKa ⟨sta,roots,links,secs,signer,lister,sk,lk,next,list,rev,defs,seed⟩++[.row (qDu nl0),.row (qDu fin)])
  yf (HLe.refl _) ?_
 refine ww ?_
 refine qAa rfl (fun c2=>?_) (fun c2=>?_)
 ·exact absurd c2 (by simp)
 refine qDy ?_
 refine qAf (qAc ?_)
 refine wws ?_
 rw [hwn]
 refine ww ?_
 exact wwr
def qTa (sta:List UInt8) (next:Nat) (kind:Int) (issuer own k:Nat) (day u t:Int):Nal:=⟨sta,kind,next,issuer,own,qSc k,day,qGc day u,qGc day t,0,0⟩
theorem certF_N (a:Aut) (kind:Int) (issuer own k:Nat) (day u t:Int):qIk a kind issuer own k day u t=qTa a.sta a.next kind issuer own k day u t:=rfl
theorem signersF_eq (a:Aut) (day:Int):qHq a day={ a with signer:=qDe (a.secs.getD (a.secs.length-1) 0) (qTa a.sta a.next 3 a.secs.length (1000+a.next) (qMf a.seed) day 90 3740),lister:=qDe (a.secs.getD (a.secs.length-1) 0) (qTa a.sta (a.next+1) 4 a.secs.length (1000+(a.next+1)) (qMf (qDs a.seed)) day 365 730),sk:=qMf a.seed,lk:=qMf (qDs a.seed),next:=a.next+1+1,seed:=qDs (qDs a.seed) }:=rfl
theorem qQi (a:Aut) (ha:AutOk a) (hn:a.next≤98) (hs:1≤a.secs.length∧a.secs.length≤100) (day:Int) (hday:0≤day∧day≤73048) :
  Spec Tryz.prog 179 [.ptr 0 0,.I day] (qKa a) (fun r h'=>r=.I 0∧h'=qKa (qHq a day)):=by
 rw [signersF_eq]
 have hnx:=ha.next
 have hst:=ha.sta
 have hlast:=ha.last hs.1
 have hr1:=secS_range a.seed
 have hr2:=secS_range (qDs a.seed)
 have hs1:=qGf a (by have:=ha.seed;omega)
 have hsl:(qDs a.seed).length=32:=sumW_length _
 have hs2:∀ b:Aut,b.seed=qDs a.seed→Spec Tryz.prog 231 [.ptr 0 0] (qKa b) (fun r h'=>r=.I (qMf (qDs a.seed):Int)∧h'=qKa { b with seed:=qDs (qDs a.seed) }):=fun b hb=>by
  have h:=qGf b (by rw [hb];omega)
  rw [hb] at h
  exact h
 obtain ⟨sta,roots,links,secs,signer,lister,sk,lk,next,list,rev,defs,seed⟩:=a
 simp only at *
 clear ha
 generalize qDs (qDs seed)=n2 at *
 generalize qMf (qDs seed)=k2 at *
 generalize qDs seed=n1 at *
 generalize qMf seed=k1 at *
 have hi1:=qIw ⟨sta,roots,links,secs,signer,lister,k1,lk,next,list,rev,defs,n1⟩ 3 secs.length (1000+next) k1 day 90 3740 (by show next≤_;omega) (by show 1≤secs.length∧secs.length≤secs.length∧secs.length≤1000;omega) hr1 hday (by omega) hlast
  (certF_chk hst (by show 1≤next∧next≤1000000;omega) (by omega) (by omega) (by omega) ⟨fun h=>by omega,fun h=>by omega⟩ hr1 hday (by omega))
 rw [certF_N] at hi1
 simp only at hi1
 generalize qDe (secs.getD (secs.length-1) 0) (qTa sta next 3 secs.length (1000+next) k1 day 90 3740)=c1 at *
 have hi2:=qIw ⟨sta,roots,links,secs,c1,lister,k1,k2,next+1,list,rev,defs,n2⟩ 4 secs.length (1000+(next+1)) k2 day 365 730 (by show next+1≤_;omega) (by show 1≤secs.length∧secs.length≤secs.length∧secs.length≤1000;omega) hr2 hday (by omega) hlast
  (certF_chk hst (by show 1≤next+1∧next+1≤1000000;omega) (by omega) (by omega) (by omega) ⟨fun h=>by omega,fun h=>by omega⟩ hr2 hday (by omega))
 rw [certF_N] at hi2
 simp only at hi2
 generalize qDe (secs.getD (secs.length-1) 0) (qTa sta (next+1) 4 secs.length (1000+(next+1)) k2 day 365 730)=c2 at *
 have hs2:=hs2 ⟨sta,roots,links,secs,c1,lister,k1,lk,next+1,list,rev,defs,n1⟩ rfl
 simp only at hs2
 have hlen:=encNs'_len secs
 have ew1:IntKind.i64.wrap (1000+(next:Int))=((1000+next:Nat):Int):=by rw [qAh (by omega)];omega
 have ew3:IntKind.i64.wrap (1000+((next+1:Nat):Int))=((1000+(next+1):Nat):Int):=by rw [qAh (by omega)];omega
 clear hlast hr1 hr2 hst
 refine qAb hT Tryz.func179 rfl rfl rfl rfl ?_;intro E hE
 refine ww ?_
 refine qAd (qFd (v:=.I (k1:Int)) (H':=qKa ⟨sta,roots,links,secs,signer,lister,sk,lk,next,list,rev,defs,n1⟩) rfl rfl hs1 [0,1,2,3] (by decide) rfl rfl rfl rfl rfl rfl) rfl ?_
 refine wws ?_
 refine qAi (l:=[(0,.ptr 0 0),(1,.I day)]) (h':=qKa ⟨sta,roots,links,secs,signer,lister,k1,lk,next,list,rev,defs,n1⟩) yf (HLe.refl _) ?_
 refine qAf (qAf (qAv (fun i=>bif Nat.beq i 5||Nat.beq i 10||Nat.beq i 15||Nat.beq i 23 then [0] else bif Nat.beq i 17 then [0,1,2,3] else []) (fun i=>bif Nat.beq i 17 then [0,1,2,3] else bif Nat.beq i 23 then [0] else []) mixed (by kernel_rfl) ?_))
 refine wwg ?_
 rw [hlen,ew1]
 refine qAm (v:=.tup [vCb c1,.I 0]) (os:=qKa ⟨sta,roots,links,secs,signer,lister,k1,lk,next+1,list,rev,defs,n1⟩) (fun k hk1 hk2=>qFd rfl rfl hi1 [0,1,2,3] (by decide)
  (by show [k[0]?,k[1]?,k[2]?,k[3]?]=_;rw [hk2 0 (by decide),hk2 1 (by decide),hk2 2 (by decide),hk2 3 (by decide)];rfl) rfl rfl rfl rfl rfl) rfl ?_
 refine wwg ?_
 refine qAi (l:=[(0,.ptr 0 0),(1,.I day),(5,.I 0)]) (h':=qKa ⟨sta,roots,links,secs,c1,lister,k1,lk,next+1,list,rev,defs,n1⟩) yf (HLe.refl _) ?_
 refine ww ?_
 refine qAa rfl (fun q1=>?_) (fun q1=>?_)
 ·exact absurd q1 (by simp)
 refine qDy ?_
 refine qAf (qAc ?_)
 refine wws ?_
 refine qAd (qFd (v:=.I (k2:Int)) (H':=qKa ⟨sta,roots,links,secs,c1,lister,k1,lk,next+1,list,rev,defs,n2⟩) rfl rfl hs2 [0,1,2,3] (by decide) rfl rfl rfl rfl rfl rfl) rfl ?_
 refine wws ?_
 refine qAi (l:=[(0,.ptr 0 0),(1,.I day)]) (h':=qKa ⟨sta,roots,links,secs,c1,lister,k1,k2,next+1,list,rev,defs,n2⟩) yf (HLe.refl _) ?_
 refine qAf (qAv (fun i=>bif Nat.beq i 5||Nat.beq i 10||Nat.beq i 15||Nat.beq i 23 then [0] else bif Nat.beq i 17 then [0,1,2,3] else []) (fun i=>bif Nat.beq i 17 then [0,1,2,3] else bif Nat.beq i 23 then [0] else []) mixed (by kernel_rfl) ?_)
 refine wwg ?_
 rw [hlen,ew3]
 refine qAm (v:=.tup [vCb c2,.I 0]) (os:=qKa ⟨sta,roots,links,secs,c1,lister,k1,k2,next+1+1,list,rev,defs,n2⟩) (fun k hk1 hk2=>qFd rfl rfl hi2 [0,1,2,3] (by decide)
  (by show [k[0]?,k[1]?,k[2]?,k[3]?]=_;rw [hk2 0 (by decide),hk2 1 (by decide),hk2 2 (by decide),hk2 3 (by decide)];rfl) rfl rfl rfl rfl rfl) rfl ?_
 refine wwg ?_
 refine qAi (l:=[(0,.ptr 0 0),(1,.I day),(5,.I 0)]) (h':=qKa ⟨sta,roots,links,secs,c1,c2,k1,k2,next+1+1,list,rev,defs,n2⟩) yf (HLe.refl _) ?_
 refine ww ?_
 exact wwr
theorem rootF_eq (a:Aut) (day:Int):qKv a day={ a with secs:=a.secs++[qMf a.seed],seed:=qDs a.seed,roots:=a.roots++[qDe (qMf a.seed) (qTa a.sta a.next 1 (a.secs.length+1) (a.secs.length+1) (qMf a.seed) day 1825 5475)],next:=a.next+1 }:=rfl
theorem encNs'_snoc (l:List Nat) (k:Nat):encNs' (l++[k])=encNs' l++[[.int .i64 (k:Int)]]:=by unfold encNs';rw [List.map_append];rfl
theorem encNls_snoc (l:List Nal) (c:Nal):qBo (l++[c])=qBo l++[qSw c]:=by unfold qBo;rw [List.map_append];rfl
theorem encNls_len (l:List Nal):(qBo l).length=l.length:=by simp [qBo]
theorem getD_snoc (l:List Nat) (k:Nat):(l++[k]).getD (l.length+1-1) 0=k:=by simp [List.getD_eq_getElem?_getD]
theorem qYu (a:Aut) (ha:AutOk a) (hn:a.next≤98) (hs:a.secs.length≤100∧a.roots.length≤100) (day:Int) (hday:0≤day∧day≤73048) :
  Spec Tryz.prog 178 [.ptr 0 0,.I day] (qKa a) (fun r h'=>r=.I 0∧h'=qKa (qKv a day)):=by
 rw [rootF_eq]
 have hnx:=ha.next
 have hst:=ha.sta
 have hr1:=secS_range a.seed
 have hs1:=qGf a (by have:=ha.seed;omega)
 obtain ⟨sta,roots,links,secs,signer,lister,sk,lk,next,list,rev,defs,seed⟩:=a
 simp only at *
 clear ha
 generalize qDs seed=n1 at *
 generalize qMf seed=k1 at *
 have hgd:=getD_snoc secs k1
 have hll:(secs++[k1]).length=secs.length+1:=by simp
 have hi1:=qIw ⟨sta,roots,links,secs++[k1],signer,lister,sk,lk,next,list,rev,defs,n1⟩ 1 (secs.length+1) (secs.length+1) k1 day 1825 5475 (by show next≤_;omega) (by show 1≤secs.length+1∧secs.length+1≤(secs++[k1]).length∧(secs++[k1]).length≤1000;omega) hr1 hday (by omega)
  (by show 1≤(secs++[k1]).getD (secs.length+1-1) 0∧(secs++[k1]).getD (secs.length+1-1) 0 < qG;rw [hgd];exact hr1)
  (certF_chk hst (by show 1≤next∧next≤1000000;omega) (by omega) (by omega) (by omega) ⟨fun _=>rfl,fun _=>rfl⟩ hr1 hday (by omega))
 rw [certF_N] at hi1
 simp only at hi1
 rw [hgd] at hi1
 generalize qDe k1 (qTa sta next 1 (secs.length+1) (secs.length+1) k1 day 1825 5475)=c1 at *
 have hlen:(encNs' (secs++[k1])).length=secs.length+1:=by rw [encNs'_len,hll]
 have hlen0:=encNs'_len secs
 have hlr:=encNls_len roots
 have hsn:=encNs'_snoc secs k1
 have hsr:=encNls_snoc roots c1
 clear hr1 hst hgd
 refine qAb hT Tryz.func178 rfl rfl rfl rfl ?_;intro E hE
 refine qAf (qAc ?_)
 refine wws ?_
 refine qAf (qAc ?_)
 refine wws ?_
 refine qAd (qFd (v:=.I (k1:Int)) (H':=qKa ⟨sta,roots,links,secs,signer,lister,sk,lk,next,list,rev,defs,n1⟩) rfl rfl hs1 [0,1,2,3] (by decide) rfl rfl rfl rfl rfl rfl) rfl ?_
 refine wws ?_
 refine qAf (qAc ?_)
 refine wws ?_
 refine qAd (qAs (i:=1) hT rfl rfl rfl rfl rfl rfl (by show ((encNs' secs).length+1)*(8+1)≤_;omega)) rfl ?_
 refine wws ?_
 refine qAi (l:=[(0,.ptr 0 0),(1,.I day),(5,.I (k1:Int))]) (h':=qKa ⟨sta,roots,links,secs++[k1],signer,lister,sk,lk,next,list,rev,defs,n1⟩) yf
  ⟨ObLe.row (by show _=vGj _ _ _ (.sl 1 (encNs' (secs++[k1])) (.right 1));rw [hsn];rfl),⟨rfl,by rw [hsn]⟩,ObLe.refl _,ObLe.refl _,trivial⟩ ?_
 refine qAf (qAc ?_)
 refine wws ?_
 refine qAi (l:=[(0,.ptr 0 0),(1,.I day),(5,.I (k1:Int)),(6,.I ((secs.length+1:Nat):Int))]) (h':=qKa ⟨sta,roots,links,secs++[k1],signer,lister,sk,lk,next,list,rev,defs,n1⟩) ⟨.refl _,.refl _,.refl _,.int (by rw [hlen]),trivial⟩ (HLe.refl _) ?_
 refine qAf (qAc ?_)
 refine wws ?_
 refine qAd (qFd (v:=.tup [vCb c1,.I 0]) (H':=qKa ⟨sta,roots,links,secs++[k1],signer,lister,sk,lk,next+1,list,rev,defs,n1⟩) rfl rfl hi1 [0,1,2,3] (by decide) rfl rfl rfl rfl rfl rfl) rfl ?_
 refine wws ?_
 refine qAi (l:=[(0,.ptr 0 0),(7,.ptr 4 0),(8,.I 0)]) (h':=qKa ⟨sta,roots,links,secs++[k1],signer,lister,sk,lk,next+1,list,rev,defs,n1⟩++[.row (qDu c1)]) yf (HLe.refl _) ?_
 refine qAf (qAv (fun i=>bif Nat.beq i 4||Nat.beq i 10 then [0] else bif Nat.beq i 5 then [4] else bif Nat.beq i 7 then [2] else []) (fun i=>bif Nat.beq i 7 then [2] else bif Nat.beq i 10 then [0] else []) mixed (by kernel_rfl) ?_)
 refine wwg ?_
 refine qAm (os:=[]) (fun k hk1 hk2=>buildSl_ok hT rfl rfl) rfl ?_
 refine qAm (v:=.sl 11 (qBo roots++[qSw c1]) (.right 2)) (os:=[.right 11 (qBo roots++[qSw c1]).length]) (fun k hk1 hk2=>qAs (i:=2) (es2:=[qSw c1]) hT rfl rfl rfl rfl ((hk2 2 List.mem_cons_self).trans rfl) rfl (by show ((qBo roots).length+1)*(96+1)≤_;omega)) rfl ?_
 rw [← hsr]
 refine wwg ?_
 refine ww ?_
 exact wwr
def aut1 (sta seed:List UInt8):Aut:=⟨sta,[],[],[],nl0,nl0,0,0,1,1,[],[],seed⟩
theorem beginF_eq (sta seed:List UInt8) (day:Int):qQl sta seed day=qHq (qKv (aut1 sta seed) day) day:=rfl
theorem beginA_eq (sta seed:List UInt8) (day:Int):qQm sta seed day=if qDq sta=false then (aut0,60) else if day < 0∨73048 < day then (aut0,8) else (qQl sta seed day,0):=rfl
theorem vGk {sta seed:List UInt8} (h:qDq sta=true) (hs:seed.length≤1000):AutOk (aut1 sta seed):=⟨h,by show 1≤1∧1≤100;omega,(fun k hk=>by cases hk),hs⟩
def vGi (a:Aut):List AObj:=[.row (vGj a (.sl 11 (qBo a.roots) (.right 3)) (.sl 11 (qBo a.links) (.right 4)) (.sl 1 (encNs' a.secs) (.right 2))),.right 1 (encNs' a.secs).length,.right 11 (qBo a.roots).length,.right 11 (qBo a.links).length]
def vAe (sta:List UInt8) (n:Int) (sd:AV):List AV:=[.d (.str sta),.sl 11 [] .full,.sl 11 [] .full,.sl 1 [] .full]++qDu nl0++qDu nl0++[.d (.int .i64 0),.d (.int .i64 0),.d (.int .i64 n),.d (.int .i64 n),.sl 1 [] .full,.sl 5 [] .full,sd]
theorem autZ_le (sta seed:List UInt8):ObLe (.row ((((vAe sta 1 (.d (.sl 1 (qBb seed)))).set 3 (.sl 1 [] (.right 2))).set 1 (.sl 11 [] (.right 3))).set 2 (.sl 11 [] (.right 4)))) (.row (vGj (aut1 sta seed) (.sl 11 (qBo (aut1 sta seed).roots) (.right 3)) (.sl 11 (qBo (aut1 sta seed).links) (.right 4)) (.sl 1 (encNs' (aut1 sta seed).secs) (.right 2)))):=by
 show AllLe _ _
 repeat' (first | exact trivial | exact AV.le.refl _ | exact AV.le.dat | refine ⟨?_,?_⟩)
theorem autC_le (a:Aut):ObLe (.row (vGj a (.sl 11 (qBo a.roots) (.right 3)) (.sl 11 (qBo a.links) (.right 4)) (.sl 1 (encNs' a.secs) (.right 2)))) (.row (qCm a)):=by
 show AllLe _ _
 exact ⟨.refl _,.dat,.dat,.dat,AllLe.refl _⟩
theorem autL (a:Aut):qEv T 169 (qCm a) 0=some (.agg (qCm a)):=loadA_agg (i:=(T.find 169).getD ⟨.str,0,0,[]⟩) rfl rfl (by show 0+33≤33;omega) (List.take_of_length_le (Nat.le_refl 33))
theorem autS (a:Aut):qDz T 169 (vAe [] 0 (.sl 1 [] .full)) 0 (.agg (qCm a))=some (qCm a):=storeA_agg (i:=(T.find 169).getD ⟨.str,0,0,[]⟩) rfl rfl (by show 0+33≤33;omega) (setRun_full rfl)
theorem qUt (sta seed:List UInt8) (day:Int) (hsta:sta.length≤1000000000) (hseed:seed.length≤1000) (h1:qDq sta=true) (hday:0≤day∧day≤73048):Spec Tryz.prog 140 [.d (.str sta),.d (.sl 1 (qBb seed)),.I day] [] (fun r h'=>r=.tup [qOg (qQl sta seed day),.I 0]∧h'=[]):=by
 have hst:=qJb sta hsta
 rw [h1] at hst
 rw [beginF_eq]
 have hok:=vGk h1 hseed
 have hro:=rootF_ok hok (by show 1≤99;omega) day
 have hrt:=qYu (aut1 sta seed) hok (by show 1≤98;omega) (by show 0≤100∧0≤100;omega) day hday
 have hcl:=qJs (qBb seed) (by rw [encB_length];omega)
 have hl1:(qKv (aut1 sta seed) day).secs.length=(aut1 sta seed).secs.length+1:=hro.2.1
 have hn1:(qKv (aut1 sta seed) day).next=(aut1 sta seed).next+1:=hro.2.2
 rw [show (aut1 sta seed).secs.length=0 from rfl] at hl1
 rw [show (aut1 sta seed).next=1 from rfl] at hn1
 have hok1:=hro.1
 clear hro
 generalize qKv (aut1 sta seed) day=A1 at hrt hok1 hl1 hn1 ⊢
 have hct:=qQi A1 hok1 (by omega) (by omega) day hday
 generalize qHq A1 day=A2 at hct ⊢
 refine qAb hT Tryz.func140 rfl rfl rfl rfl ?_;intro E hE
 refine ww ?_
 refine wwc hst ?_
 refine ww ?_
 refine qAa rfl (fun c1=>?_) (fun c1=>?_)
 ·exact absurd c1 (by simp)
 refine ww ?_
 refine qAa rfl (fun c2=>?_) (fun c2=>?_)
 ·exact absurd c2 (by simp;omega)
 refine ww ?_
 refine wwc hcl ?_
 refine wk hT rfl rfl ?_
 refine wk hT rfl rfl ?_
 refine qAu (storeAgg_ok (i:=1) (off:=0) (cs:=vAe sta 1 (.d (.sl 1 (qBb seed)))) hT rfl rfl rfl rfl rfl rfl (by decide) (setRun_full rfl)) rfl ?_
 refine qHm ?_
 refine qAq (qAq (qAq ?_))
 refine qDm 1 3 2 1 rfl rfl rfl ?_
 refine qDm 1 1 3 11 rfl rfl rfl ?_
 refine qDm 1 2 4 11 rfl rfl rfl ?_
 refine qAi (l:=[(2,.I day),(6,.ptr 0 0),(8,.ptr 1 0)]) (h':=.row (vAe [] 0 (.sl 1 [] .full))::vGi (aut1 sta seed)) yf ⟨ObLe.row rfl,autZ_le sta seed,ObLe.refl _,ObLe.refl _,ObLe.refl _,trivial⟩ ?_
 clear hcl hst h1 hok hok1
 generalize aut1 sta seed=A0 at *
 refine qAf (qAf (qAc ?_))
 refine wws ?_
 refine qAd (qFd (v:=.I 0) (H':=.row (vAe [] 0 (.sl 1 [] .full))::vGi A1) rfl rfl hrt [1,2,3,4] (by decide) rfl rfl rfl rfl rfl rfl) rfl ?_
 refine ww ?_
 refine qAa rfl (fun c3=>?_) (fun c3=>?_)
 ·exact absurd c3 (by simp)
 refine qDy ?_
 refine qAf (qAf (qAc ?_))
 refine wws ?_
 refine qAd (qFd (v:=.I 0) (H':=.row (vAe [] 0 (.sl 1 [] .full))::vGi A2) rfl rfl hct [1,2,3,4] (by decide) rfl rfl rfl rfl rfl rfl) rfl ?_
 refine ww ?_
 refine qAa rfl (fun c4=>?_) (fun c4=>?_)
 ·exact absurd c4 (by simp)
 refine qDy ?_
 refine qAi (l:=[(6,.ptr 0 0),(8,.ptr 1 0)]) (h':=[.row (vAe [] 0 (.sl 1 [] .full)),.row (qCm A2),.dead,.dead,.dead]) yf ⟨ObLe.refl _,autC_le A2,trivial,trivial,trivial,trivial⟩ ?_
 refine qAf (qAc ?_)
 refine qAd (qAo (i:=1) (off:=0) hT rfl rfl rfl (autL A2)) rfl ?_
 refine qAu (qAp (i:=0) (off:=0) hT rfl rfl rfl (autS A2)) (forceS_eq _ _) ?_
 refine ww ?_
 refine rq ⟨rfl,rfl⟩ rfl (.refl _)
theorem qXz (sta seed:List UInt8) (day:Int) (hsta:sta.length≤1000000000) (hseed:seed.length≤1000):Spec Tryz.prog 140 [.d (.str sta),.d (.sl 1 (qBb seed)),.I day] [] (fun r h'=>r=.tup [qOg (qQm sta seed day).1,.d (.int .i64 (qQm sta seed day).2)]∧h'=[]):=by
 have hst:=qJb sta hsta
 rw [beginA_eq]
 by_cases h1:qDq sta=true
 ·rw [if_neg (by rw [h1];simp)]
  by_cases h2:day < 0∨73048 < day
  ·rw [if_pos h2]
   rw [h1] at hst
   refine qAb hT Tryz.func140 rfl rfl rfl rfl ?_;intro E hE
   refine ww ?_
   refine wwc hst ?_
   refine ww ?_
   refine qAa rfl (fun c1=>?_) (fun c1=>?_)
   ·exact absurd c1 (by simp)
   refine ww ?_
   refine qAa rfl (fun c2=>?_) (fun c2=>?_)
   ·refine ww ?_
    exact wwr
   ·exact absurd c2 (by simp;omega)
  ·rw [if_neg h2]
   exact qUt sta seed day hsta hseed h1 (by omega)
 ·rw [if_pos (by simpa using h1)]
  rw [show qDq sta=false by simpa using h1] at hst
  refine qAb hT Tryz.func140 rfl rfl rfl rfl ?_;intro E hE
  refine ww ?_
  refine wwc hst ?_
  refine ww ?_
  refine qAa rfl (fun c1=>?_) (fun c1=>?_)
  ·refine ww ?_
   exact wwr
  ·exact absurd c1 (by simp)
abbrev tiA:TI:=⟨.struct [(0,1,false),(1,1,false),(2,1,false),(3,1,false),(4,11,true),(15,11,true),(26,1,false),(27,1,false),(28,1,false),(29,1,false),(30,1,false),(31,1,false),(32,1,false)],33,384,vAe [] 0 (.sl 1 [] .full)⟩
theorem tiA_find:T.find 169=some tiA:=rfl
theorem L38 {C:List AV} (h:C.length=33):qEv T 169 C 0=some (.agg C):=loadA_agg tiA_find rfl (by rw [h];exact Nat.le_refl _) (List.take_of_length_le (by rw [List.length_drop,h];exact Nat.le_refl _))
theorem S38 {C D:List AV} (h1:D.length=33) (h2:C.length=33):qDz T 169 D 0 (.agg C)=some C:=storeA_agg tiA_find h2 (by rw [h1];exact Nat.le_refl _) (setRun_full (by rw [h1,h2]))
theorem encDfs_len (l:List Dfc):(qQd l).length=l.length:=by simp [qQd]
def vIo (a:Aut) (i j k:Nat):List AV:=vGj a (.sl 11 (qBo a.roots) (.right j)) (.sl 11 (qBo a.links) (.right k)) (.sl 1 (encNs' a.secs) (.right i))
theorem qXw (a:Aut) (hl:a.roots.length≤1000000∧a.links.length≤1000000∧a.secs.length≤1000000∧a.rev.length≤1000000∧a.defs.length≤1000000∧a.seed.length≤1000000) :
  Spec Tryz.prog 100 [qOg a] [.room,.room,.room] (fun r h'=>r=.agg (vIo a 0 1 2)∧h'=[.right 1 (encNs' a.secs).length,.right 11 (qBo a.roots).length,.right 11 (qBo a.links).length]):=by
 obtain ⟨l1,l2,l3,l4,l5,l6⟩:=hl
 have h1:=qJr (qBo a.roots) (by rw [encNls_len];omega)
 have h2:=qJr (qBo a.links) (by rw [encNls_len];omega)
 have h3:=qRh (encNs' a.secs) (by rw [encNs'_len];omega)
 have h4:=qRj (a.rev.map fun n=>[.int .i64 n]) (by rw [List.length_map];omega)
 have h5:=qRk (qQd a.defs) (by rw [encDfs_len];omega)
 have h6:=qJs (qBb a.seed) (by rw [encB_length];omega)
 obtain ⟨sta,roots,links,secs,signer,lister,sk,lk,next,list,rev,defs,seed⟩:=a
 simp only at *
 refine qAb hT Tryz.func100 rfl rfl rfl rfl ?_;intro E hE
 refine qAq (qAq ?_)
 refine qAf (qAc ?_)
 refine qAd (boxAt_ok (i0:=3) (cs:=qCm ⟨sta,roots,links,secs,signer,lister,sk,lk,next,list,rev,defs,seed⟩) rfl rfl rfl) rfl ?_
 refine qAd (allocAt_ok (i0:=4) (i:=tiA) hT rfl tiA_find rfl) rfl ?_
 refine qHm ?_
 refine qAf (qAv (fun i=>bif Nat.beq i 2 then [1] else bif Nat.beq i 5 then [2] else bif Nat.beq i 8 then [0] else [3]) (fun i=>bif Nat.beq i 2 then [1] else bif Nat.beq i 5 then [2] else bif Nat.beq i 8 then [0] else bif Nat.beq i 10||Nat.beq i 12||Nat.beq i 14 then [3] else []) mixed (by kernel_rfl) ?_)
 refine wwg ?_
 refine qAm (v:=.sl 11 (qBo roots) (.right 1)) (os:=[.right 11 (qBo roots).length]) (fun k hk1 hk2=>qFd rfl rfl h1 [1] (by decide) (by show [k[1]?]=_;rw [hk2 1 (by decide)];rfl) rfl rfl rfl rfl rfl) rfl ?_
 refine wwg ?_
 refine qAm (v:=.sl 11 (qBo links) (.right 2)) (os:=[.right 11 (qBo links).length]) (fun k hk1 hk2=>qFd rfl rfl h2 [2] (by decide) (by show [k[2]?]=_;rw [hk2 2 (by decide)];rfl) rfl rfl rfl rfl rfl) rfl ?_
 refine wwg ?_
 refine qAm (v:=.sl 1 (encNs' secs) (.right 0)) (os:=[.right 1 (encNs' secs).length]) (fun k hk1 hk2=>qFd rfl rfl h3 [0] (by decide) (by show [k[0]?]=_;rw [hk2 0 (by decide)];rfl) rfl rfl rfl rfl rfl) rfl ?_
 refine wwg ?_
 refine qAi (l:=[(1,.ptr 3 0),(2,.ptr 4 0)]) (h':=[.right 1 (encNs' secs).length,.right 11 (qBo roots).length,.right 11 (qBo links).length,.row (vIo ⟨sta,roots,links,secs,signer,lister,sk,lk,next,list,rev,defs,seed⟩ 0 1 2),.row (vAe [] 0 (.sl 1 [] .full))]) yf (HLe.refl _) ?_
 refine qAf (qAv (fun _=>[3]) (fun i=>bif Nat.beq i 10||Nat.beq i 12||Nat.beq i 14 then [3] else []) mixed (by kernel_rfl) ?_)
 refine wwg ?_
 refine wwdc h4 ?_
 refine wwg ?_
 refine wwdc h5 ?_
 refine wwg ?_
 refine wwdc h6 ?_
 refine wwg ?_
 refine qAi (l:=[(1,.ptr 3 0),(2,.ptr 4 0)]) (h':=[.right 1 (encNs' secs).length,.right 11 (qBo roots).length,.right 11 (qBo links).length,.row (vIo ⟨sta,roots,links,secs,signer,lister,sk,lk,next,list,rev,defs,seed⟩ 0 1 2),.row (vAe [] 0 (.sl 1 [] .full))]) yf (HLe.refl _) ?_
 refine qAf (qAc ?_)
 refine qAd (qAo (i:=3) (off:=0) hT rfl rfl rfl (L38 (C:=vIo ⟨sta,roots,links,secs,signer,lister,sk,lk,next,list,rev,defs,seed⟩ 0 1 2) rfl)) rfl ?_
 refine qAu (qAp (i:=4) (off:=0) hT rfl rfl rfl (S38 (C:=vIo ⟨sta,roots,links,secs,signer,lister,sk,lk,next,list,rev,defs,seed⟩ 0 1 2) rfl rfl)) (forceS_eq _ _) ?_
 refine ww ?_
 refine rq ⟨rfl,rfl⟩ rfl (.refl _)
def qEn (a:Aut):List Dat:=[.str a.sta,.sl 11 (qBo a.roots),.sl 11 (qBo a.links),.sl 1 (encNs' a.secs)]++qSw a.signer++qSw a.lister++[.int .i64 (a.sk:Int),.int .i64 (a.lk:Int),.int .i64 (a.next:Int),.int .i64 a.list,.sl 1 (a.rev.map fun n=>[.int .i64 n]),.sl 5 (qQd a.defs),.sl 1 (qBb a.seed)]
theorem qUo:Spec Tryz.prog 99 [.d (.sl 33 []),.any] [] (fun r h'=>r=.sl 33 [] .full∧h'=[]):=by
 refine qAb hT Tryz.func99 rfl rfl rfl rfl ?_;intro E hE
 refine ww ?_
 refine qAn (ι:=Unit) (fun _=>[(5,.nils),(8,.d (.sl 33 [])),(9,.I 0),(10,.I 0)]) (fun _=>[]) (fun _=>True) (fun _=>0) () trivial yf (HLe.refl _) ?_
 intro _ _
 refine ww ?_
 refine qAa rfl (fun q=>absurd q (by decide)) (fun q=>?_)
 refine ww ?_
 exact rq ⟨rfl,rfl⟩ rfl AV.le.nilsf
theorem qLx:Spec Tryz.prog 101 [.d (.sl 62 []),.any] [] (fun r h'=>r=.sl 62 [] .full∧h'=[]):=by
 refine qAb hT Tryz.func101 rfl rfl rfl rfl ?_;intro E hE
 refine ww ?_
 refine qAn (ι:=Unit) (fun _=>[(5,.nils),(8,.d (.sl 62 [])),(9,.I 0),(10,.I 0)]) (fun _=>[]) (fun _=>True) (fun _=>0) () trivial yf (HLe.refl _) ?_
 intro _ _
 refine ww ?_
 refine qAa rfl (fun q=>absurd q (by decide)) (fun q=>?_)
 refine ww ?_
 exact rq ⟨rfl,rfl⟩ rfl AV.le.nilsf
theorem qLw:Spec Tryz.prog 103 [.d (.sl 11 []),.any] [] (fun r h'=>r=.sl 11 [] .full∧h'=[]):=by
 refine qAb hT Tryz.func103 rfl rfl rfl rfl ?_;intro E hE
 refine ww ?_
 refine qAn (ι:=Unit) (fun _=>[(5,.nils),(8,.d (.sl 11 [])),(9,.I 0),(10,.I 0)]) (fun _=>[]) (fun _=>True) (fun _=>0) () trivial yf (HLe.refl _) ?_
 intro _ _
 refine ww ?_
 refine qAa rfl (fun q=>absurd q (by decide)) (fun q=>?_)
 refine ww ?_
 exact rq ⟨rfl,rfl⟩ rfl AV.le.nilsf
theorem qUp (a:Aut) (hl:a.roots.length≤1000000∧a.links.length≤1000000∧a.secs.length≤1000000∧a.rev.length≤1000000∧a.defs.length≤1000000∧a.seed.length≤1000000) :
  Spec Tryz.prog 100 [qOg a] [.room,.room,.room] (fun r h'=>r=qOg a∧h'=[.right 1 (encNs' a.secs).length,.right 11 (qBo a.roots).length,.right 11 (qBo a.links).length]) :=
 (qXw a hl).weak (AV.le.agg ⟨.refl _,.dat,.dat,.dat,AllLe.refl _⟩) rfl
theorem qUn (a:Aut) (hl:a.roots.length≤1000000∧a.links.length≤1000000∧a.secs.length≤1000000∧a.rev.length≤1000000∧a.defs.length≤1000000∧a.seed.length≤1000000) :
  Spec Tryz.prog 99 [.d (.sl 33 [qEn a]),.fn (.func 100) [] []] [] (fun r h'=>r=.d (.sl 33 [qEn a])∧h'=[]):=by
 have hc:=qUp a hl
 have hat:([qEn a]:List (List Dat))[((0:Int)).toNat]?=some (qEn a):=rfl
 refine qAb hT Tryz.func99 rfl rfl rfl rfl ?_;intro E hE
 refine qAq (qAq (qAq (qAq ?_)))
 refine ww ?_
 refine qAn (ι:=Nat) (fun i=>[(1,.fn (.func 100) [] []),(5,if i=0 then .nils else .d (.sl 33 [qEn a])),(8,.d (.sl 33 [qEn a])),(9,.I 1),(10,.I (i:Int))]) (fun i=>if i=0 then [.room,.room,.room,.room] else [.dead,.dead,.dead,.dead]) (fun i=>i≤1) (fun i=>1-i) 0 (by omega) yf (HLe.refl _) ?_
 intro i hi
 by_cases h0:i=0
 ·subst h0
  rw [if_pos rfl,if_pos rfl]
  refine ww ?_
  refine qAa rfl (fun q=>?_) (fun q=>absurd q (by decide))
  refine ww ?_
  refine wwi hat ?_
  refine wk hT rfl rfl ?_
  refine qAd (allocAt_ok (i0:=3) (i:=tiA) hT rfl tiA_find rfl) rfl ?_
  refine qAu (qAp (i:=3) (off:=0) hT rfl rfl rfl (S38 rfl rfl)) (forceS_eq _ _) ?_
  refine qHm ?_
  refine qAi (l:=[(1,.fn (.func 100) [] []),(5,.nils),(7,.ptr 3 0),(8,.d (.sl 33 [qEn a])),(9,.I 1),(10,.I 0)]) (h':=[.room,.room,.room,.row (qCm a)]) yf (HLe.refl _) ?_
  refine qAc ?_
  refine wk hT rfl rfl ?_
  refine wk hT rfl rfl ?_
  refine qAd (qAo (i:=3) (off:=0) hT rfl rfl rfl (L38 (C:=qCm a) rfl)) rfl ?_
  refine qAd (qOb (v:=qOg a) (H':=[.right 1 (encNs' a.secs).length,.right 11 (qBo a.roots).length,.right 11 (qBo a.links).length,.row (qCm a)]) rfl rfl hc [0,1,2] (by decide) rfl rfl rfl rfl rfl rfl rfl) rfl ?_
  refine qAd (buildSl_ok (v:=.sl 33 [qEn a] .full) hT rfl rfl) rfl ?_
  refine qAd (qCp (es:=[]) (es2:=[qEn a]) (sz:=33) (by_:=384) hT rfl rfl rfl (.inr ⟨rfl,rfl⟩) rfl (show (0+1)*(384+1)≤140737488355328 by decide)) rfl ?_
  refine ww ?_
  exact ⟨1,Nat.le_refl _,by omega,yf,⟨trivial,trivial,trivial,trivial,trivial⟩⟩
 ·have h1:i=1:=by omega
  subst h1
  rw [if_neg (by decide),if_neg (by decide)]
  refine ww ?_
  refine qAa rfl (fun q=>absurd q (by decide)) (fun q=>?_)
  refine ww ?_
  exact rq ⟨rfl,rfl⟩ rfl (.refl _)
abbrev bC (A P:AV):List AV:=[.I 40000,A,.sl 62 [] .full,P]
theorem qOs:Spec Tryz.prog 78 [.agg (bC (.sl 33 [] .full) (.sl 11 [] .full))] [] (fun r h'=>r=.agg (bC (.sl 33 [] .full) (.sl 11 [] .full))∧h'=[]):=by
 refine qAb hT Tryz.func78 rfl rfl rfl rfl ?_;intro E hE
 refine qAf (qAc ?_)
 refine wws ?_
 refine qAf ?_
 refine qAv (fun i=>bif Nat.beq i 1||Nat.beq i 3||Nat.beq i 6||Nat.beq i 9 then [0] else bif Nat.beq i 12 then [1] else []) (fun i=>bif Nat.beq i 12 then [1] else []) mixed (by kernel_rfl) ?_
 refine wwg ?_
 refine wwdc qUo ?_
 refine wwg ?_
 refine wwdc qLx ?_
 refine wwg ?_
 refine wwdc qLw ?_
 refine wwg ?_
 refine ww ?_
 exact rq ⟨rfl,rfl⟩ rfl (.refl _)
theorem qOr (a:Aut) (hl:a.roots.length≤1000000∧a.links.length≤1000000∧a.secs.length≤1000000∧a.rev.length≤1000000∧a.defs.length≤1000000∧a.seed.length≤1000000) :
  Spec Tryz.prog 78 [.agg (bC (.d (.sl 33 [qEn a])) (.sl 11 [] .full))] [] (fun r h'=>r=.agg (bC (.d (.sl 33 [qEn a])) (.sl 11 [] .full))∧h'=[]):=by
 have h1:=qUn a hl
 generalize qEn a=D at *
 refine qAb hT Tryz.func78 rfl rfl rfl rfl ?_;intro E hE
 refine qAf (qAc ?_)
 refine wws ?_
 refine qAf ?_
 refine qAv (fun i=>bif Nat.beq i 1||Nat.beq i 3||Nat.beq i 6||Nat.beq i 9 then [0] else bif Nat.beq i 12 then [1] else []) (fun i=>bif Nat.beq i 12 then [1] else []) mixed (by kernel_rfl) ?_
 refine wwg ?_
 refine wwdc h1 ?_
 refine wwg ?_
 refine wwdc qLx ?_
 refine wwg ?_
 refine wwdc qLw ?_
 refine wwg ?_
 refine ww ?_
 exact rq ⟨rfl,rfl⟩ rfl (.refl _)
inductive Rule where
 | mk (v:Int) (al:Bool) (c:Cond)
def vEa:Rule→List Dat
 | .mk v al (.mk k c w kids)=>[.int .i64 v,.bool al,.int .i64 k,.int .i64 c,.int .i64 w,.sl 4 (qEc kids)]
def qFn (l:List Rule):List (List Dat):=l.map vEa
def qNn (l:List Rule):AV:=.agg [.d (.sl 6 (qFn l))]
def vFz:Rule→Cond
 | .mk _ _ c=>c
def qHe:Rule→Int
 | .mk v al (.mk k c w kids)=>if v < 1∨v > 3 then 61 else if al=true∧(k≠0∨c≠0∨w≠0∨0 < kids.length) then 1 else if al=false∧qDo 8 (.mk k c w kids)=false then 1 else 0
def qIh:List Rule→Int
 | []=>0
 | r::l=>if qHe r=0 then qIh l else qHe r
def qGm (l:List Rule):Int:=if l.length > 32 then 72 else qIh l
set_option maxRecDepth 100000 in
theorem qOm (l:List Rule) (hs:∀ r,r∈l→qJe (vFz r)):Spec Tryz.prog 222 [qNn l] [] (fun r h'=>r=.I (qGm l)∧h'=[]):=by
 refine qAb hT Tryz.func222 rfl rfl rfl rfl ?_
 intro E hE
 have hlen:(qFn l).length=l.length:=by simp [qFn]
 refine ww ?_
 refine qAa rfl (fun h1=>?_) (fun h1=>?_)
 ·have h1':l.length > 32:=by rw [hlen] at h1;simp at h1;omega
  refine ww ?_
  refine qAj rfl (.refl _) rfl rfl rfl rfl ⟨?_,rfl⟩
  rw [qGm,if_pos h1'];rfl
 ·have h1':¬ l.length > 32:=by rw [hlen] at h1;simp at h1;omega
  rw [qGm,if_neg h1']
  refine ww ?_
  refine qEs (ι:=Nat) (fun k=>[(1,.ptr 0 0),(10,.d (.sl 6 (qFn l))),(11,.d (.int .i64 (qFn l).length)),(12,.I k)]) (fun _=>[.row [.d (.sl 6 (qFn l))]]) (fun k=>k≤l.length∧qIh (l.drop k)=qIh l) (fun k=>l.length-k) 0
   ⟨by omega,rfl⟩ yf (HLe.refl _) ?_
  rintro k ⟨hk,hf⟩
  refine ww ?_
  refine qAa rfl (fun h2=>?_) (fun h2=>?_)
  ·have hlt:k < l.length:=by rw [hlen] at h2;simpa using h2
   have hel:(qFn l)[((k:Int)).toNat]?=some (vEa l[k]):=by simp [qFn,hlt]
   have hd:l.drop k=l[k]::l.drop (k+1):=by simp
   rw [hd] at hf
   have hsm:=hs l[k] (List.getElem_mem hlt)
   generalize l[k]=r at hel hf hsm
   obtain ⟨v,al,⟨ck,cc,cv,kids⟩⟩:=r
   have hkl:=encCs_length kids
   have hv:=qMq 8 (.mk ck cc cv kids) (by omega) hsm
   rw [qIh] at hf
   refine ww ?_
   refine qAd (qAe (indexAddr_ok hT rfl rfl rfl rfl (by omega) hel)) rfl ?_
   refine ww ?_
   refine qAa rfl (fun h3=>?_) (fun h3=>?_)
   ·have h3':v < 1∨v > 3:=by simpa using h3
    refine ww ?_
    refine qAj rfl (.refl _) rfl rfl rfl rfl ⟨?_,rfl⟩
    rw [← hf,qHe,if_pos h3'];rfl
   ·have h3':¬ (v < 1∨v > 3):=by simpa using h3
    refine ww ?_
    refine qAa rfl (fun h4=>?_) (fun h4=>?_)
    ·have h4':al=true∧(ck≠0∨cc≠0∨cv≠0∨0 < kids.length):=by rw [hkl] at h4;simpa [or_assoc,and_assoc] using h4
     refine ww ?_
     refine qAj rfl (.refl _) rfl rfl rfl rfl ⟨?_,rfl⟩
     rw [← hf,qHe,if_neg h3',if_pos h4'];rfl
    ·have h4':¬ (al=true∧(ck≠0∨cc≠0∨cv≠0∨0 < kids.length)):=by rw [hkl] at h4;simpa [or_assoc,and_assoc] using h4
     refine ww ?_
     refine qCd rfl rfl rfl (fun hg=>⟨by first | exact True.intro | exact ⟨hg,True.intro⟩,qCf rfl rfl hv rfl rfl rfl⟩) ?_
     refine ww ?_
     refine qAa rfl (fun h5=>?_) (fun h5=>?_)
     ·have h5':al=false∧qDo 8 (.mk ck cc cv kids)=false:=by simpa using h5
      refine ww ?_
      refine qAj rfl (.refl _) rfl rfl rfl rfl ⟨?_,rfl⟩
      rw [← hf,qHe,if_neg h3',if_neg h4',if_pos h5'];rfl
     ·have h5':¬ (al=false∧qDo 8 (.mk ck cc cv kids)=false):=by simpa using h5
      have hz:qHe (.mk v al (.mk ck cc cv kids))=0:=by rw [qHe,if_neg h3',if_neg h4',if_neg h5']
      rw [if_pos hz] at hf
      refine ww ?_
      refine ⟨k+1,[.dead],⟨by omega,hf⟩,by omega,⟨.refl _,.refl _,.refl _,AV.le.eq ?_,trivial⟩,⟨ObLe.refl _,trivial,trivial⟩,Env.below_mono hE (by simp),rfl,rfl⟩
      show AV.d (.int .i64 (IntKind.i64.wrap ((k:Int)+1)))=_
      rw [qAh (by omega)];rfl
  ·have hge:k=l.length:=by rw [hlen] at h2;simp at h2;omega
   refine ww ?_
   refine qAj rfl (.refl _) rfl rfl rfl rfl ⟨?_,rfl⟩
   rw [← hf,hge,List.drop_length];rfl
theorem flatC_small {kind:Int} {c:Cond} (h:qJe c):qFk (qFy kind c):=by
 cases c
 simp only [qFy]
 split
 ·exact h.2
 ·exact ⟨h,trivial⟩
def PartSmall (text:List UInt8) (n:Nat) (part:PS→Cond×PS):Prop:=∀ s,Inv text s→text.length-s.na < n→qJe (part s).1
theorem loopP_small {text:List UInt8} {n:Nat} {part:PS→Cond×PS} (hp:PartOk text n part) (hs:PartSmall text n part) (kind:Int) {w:List UInt8} (hw:w≠[]):∀ (m:Nat) (l:List Cond) (s:PS),Inv text s→text.length-s.na < n→qFk l→qFk (qIv text kind w part m l s).1
 | 0,l,s,h,hn,hl=>hl
 | m+1,l,s,h,hn,hl=>by
  unfold qIv
  cases hi:(isP text s w).1 with
  | false=>rw [if_neg (by simp)];exact hl
  | true =>
   rw [if_pos rfl]
   obtain ⟨h1,h2,h3⟩:=isP_true h hi
   have hwl:0 < w.length:=List.length_pos_iff.2 hw
   obtain ⟨k1,k2,k3⟩:=hp.inv _ h1 (by omega)
   exact loopP_small hp hs kind hw m _ _ k1 (by omega) (smallCs_append hl (flatC_small (hs _ h1 (by omega))))
theorem seriesP_small {text:List UInt8} {n:Nat} {part:PS→Cond×PS} (hl:text.length≤1000000) (hp:PartOk text n part) (hs:PartSmall text n part) (kind:Int) {w:List UInt8} (hw:w≠[]):PartSmall text n (qDb text kind w part):=by
 intro s h hn
 obtain ⟨k1,k2,k3⟩:=hp.inv s h hn
 have h0:=hs s h hn
 have hwide:=((seriesP_ok hp kind hw).inv s h hn)
 unfold qDb at hwide ⊢
 split
 ·exact h0
 ·rename_i hc
  rw [if_neg hc] at hwide
  obtain ⟨q1,q2,q3⟩:=hwide
  simp only [qJv] at q3
  have:=q1.a;have:=q1.le
  exact ⟨by simp only at *;omega,loopP_small hp hs kind hw _ _ _ k1 (by omega) (flatC_small h0)⟩
theorem atomP_small {text:List UInt8} (hl:text.length≤1000000):∀ n,PartSmall text n (qIm text n)
 | 0=>fun s _ hn=>by omega
 | n+1=>by
  have ih:=atomP_small hl n
  intro s h hn
  unfold qIm
  cases h1:(isP text s notW).1 with
  | true =>
   rw [if_pos rfl]
   obtain ⟨k1,k2,k3⟩:=isP_true h h1
   have:notW.length=3:=rfl
   exact ⟨by simp,ih _ k1 (by omega),trivial⟩
  | false =>
   rw [if_neg (by simp),isP_false h1]
   cases h2:(isP text s lpW).1 with
   | true =>
    rw [if_pos rfl]
    obtain ⟨k1,k2,k3⟩:=isP_true h h2
    have:lpW.length=1:=rfl
    exact seriesP_small hl (conjP_ok text n) (seriesP_small hl (atomP_ok text n) ih 3 (w:=vEd) (by decide)) 4 (w:=orW) (by decide) _ k1 (by omega)
   | false =>
    rw [if_neg (by simp)]
    unfold qHi
    split <;> exact ⟨by simp,trivial⟩
theorem condP_small {text:List UInt8} (hl:text.length≤1000000) (n:Nat):PartSmall text n (qLo text n) :=
 seriesP_small hl (conjP_ok text n) (seriesP_small hl (atomP_ok text n) (atomP_small hl n) 3 (w:=vEd) (by decide)) 4 (w:=orW) (by decide)
def qJw (text:List UInt8) (n:Nat) (s:PS):Rule×PS :=
 if (isP text (qHx text s vds).2 ifW).1 then (.mk (qHx text s vds).1 false (qLo text n (isP text (qHx text s vds).2 ifW).2).1,qHz text (qLo text n (isP text (qHx text s vds).2 ifW).2).2 scW)
 else (.mk (qHx text s vds).1 true (.mk 0 0 0 []),qHz text (isP text (qHx text s vds).2 ifW).2 scW)
theorem isP_wr {text:List UInt8} {s:PS} {w:List UInt8} (h:s.wr=true):isP text s w=(false,s):=by unfold isP;rw [if_pos (.inl h)]
theorem needP_wr {text:List UInt8} {s:PS} {w:List UInt8} (h:s.wr=true):(qHz text s w).wr=true:=by unfold qHz;rw [isP_wr h];rfl
theorem ruleP_ok {text:List UInt8} (hl:text.length≤1000000) {s:PS} (h:Inv text s) (hnt:s.nt≠[]) :
  Inv text (qJw text (text.length+1) s).2∧s.na≤(qJw text (text.length+1) s).2.na∧((qJw text (text.length+1) s).2.wr=true∨s.na < (qJw text (text.length+1) s).2.na)∧qJe (vFz (qJw text (text.length+1) s).1):=by
 obtain ⟨h1,h2⟩:=oneP_inv (l:=vds) h
 have hone:(qHx text s vds).2.wr=true∨s.na < (qHx text s vds).2.na:=by
  unfold qHx
  split
  ·exact .inl rfl
  ·obtain ⟨_,q,_⟩:=h.next
   have:=List.length_pos_iff.2 hnt
   exact .inr (by simp only;omega)
 obtain ⟨h3,h4⟩:=isP_inv (w:=ifW) h1
 unfold qJw
 cases hi:(isP text (qHx text s vds).2 ifW).1 with
 | true =>
  rw [if_pos rfl]
  have hnw:(qHx text s vds).2.wr=false:=by
   cases hb:(qHx text s vds).2.wr with
   | false=>rfl
   | true=>rw [isP_wr hb] at hi;cases hi
  rw [hnw] at hone
  have hone:=hone.resolve_left (by simp)
  obtain ⟨q1,q2,q3⟩:=(condP_ok text (text.length+1)).inv _ h3 (by omega)
  obtain ⟨r1,r2⟩:=needP_inv (w:=scW) q1
  exact ⟨r1,by simp only;omega,.inr (by simp only;omega),condP_small hl _ _ h3 (by omega)⟩
 | false =>
  rw [if_neg (by simp)]
  obtain ⟨r1,r2⟩:=needP_inv (w:=scW) h3
  refine ⟨r1,by simp only;omega,?_,by simp,trivial⟩
  rcases hone with hw | hw
  ·left;rw [isP_wr hw];exact needP_wr hw
  ·right;simp only;omega
set_option maxRecDepth 100000 in
theorem qYr {text:List UInt8} (hl:text.length≤1000000) (s:PS) (h:Inv text s) :
  Spec Tryz.prog 221 [.ptr 0 0] [.row (psr text s)] (fun r h'=>r=.agg ((vEa (qJw text (text.length+1) s).1).map .d)∧h'=[.row (psr text (qJw text (text.length+1) s).2)]):=by
 have hone:=qNp text s vds h.le hl (by decide)
 obtain ⟨q1,q2⟩:=oneP_inv (l:=vds) h
 unfold qJw
 generalize qHx text s vds=r1 at hone q1 q2 ⊢
 obtain ⟨n1,s1⟩:=r1
 simp only at hone q1 q2 ⊢
 have his:=qIx text s1 ifW q1.le hl
 obtain ⟨j1,j2⟩:=isP_inv (w:=ifW) q1
 generalize isP text s1 ifW=r2 at his j1 j2 ⊢
 obtain ⟨b2,s2⟩:=r2
 simp only at his j1 j2 ⊢
 have hcond:=qQg hl (qQf hl (qQo hl (text.length+1))) s2 j1 (by omega)
 obtain ⟨k1,k2,k3⟩:=(condP_ok text (text.length+1)).inv s2 j1 (by omega)
 generalize qLo text (text.length+1) s2=r3 at hcond k1 ⊢
 obtain ⟨⟨k,c,v,kids⟩,s3⟩:=r3
 simp only at hcond k1 ⊢
 have hn1:=qLe text s3 scW k1.le hl
 have hn2:=qLe text s2 scW j1.le hl
 generalize qHz text s3 scW=s4 at hn1 ⊢
 generalize qHz text s2 scW=s5 at hn2 ⊢
 refine qAb hT Tryz.func221 rfl rfl rfl rfl ?_
 intro E hE
 refine ww ?_
 refine qAd (qCf rfl rfl qOi rfl rfl rfl) rfl ?_
 refine qAd (qAk rfl rfl hone [0] (by decide) rfl rfl rfl (lowH_psr 0 _ _) (lowH_psr 0 _ _) rfl rfl) rfl ?_
 refine ww ?_
 refine qAd (qAk rfl rfl his [0] (by decide) rfl rfl rfl (lowH_psr 0 _ _) (lowH_psr 0 _ _) rfl rfl) rfl ?_
 refine ww ?_
 refine qAa rfl (fun hb=>?_) (fun hb=>?_)
 ·subst hb
  rw [if_pos rfl]
  refine ww ?_
  refine qAd (qAk rfl rfl hcond [0] (by decide) rfl rfl rfl (lowH_psr 0 _ _) (lowH_psr 0 _ _) (qHf _ _) rfl) rfl ?_
  refine ww ?_
  refine qAd (qAk rfl rfl hn1 [0] (by decide) rfl rfl rfl (lowH_psr 0 _ _) (lowH_psr 0 _ _) rfl rfl) rfl ?_
  refine ww ?_
  exact qAj (r:=.agg ((vEa (.mk n1 false (.mk k c v kids))).map .d)) rfl (AV.le.agg yf) rfl rfl rfl (lowH_psr _ _ _) ⟨rfl,rfl⟩
 ·subst hb
  rw [if_neg (by simp)]
  refine ww ?_
  refine qAd (qAk rfl rfl hn2 [0] (by decide) rfl rfl rfl (lowH_psr 0 _ _) (lowH_psr 0 _ _) rfl rfl) rfl ?_
  refine ww ?_
  exact qAj (r:=.agg ((vEa (.mk n1 true (.mk 0 0 0 []))).map .d)) rfl (AV.le.agg ⟨.refl _,.refl _,.refl _,.refl _,.refl _,AV.le.dat,trivial⟩) rfl rfl rfl (lowH_psr _ _ _) ⟨rfl,rfl⟩
def qVf (text:List UInt8):Nat→List Rule→PS→List Rule×PS
 | 0,l,s=>(l,s)
 | m+1,l,s=>if s.nt≠[]∧s.wr=false then qVf text m (l++[(qJw text (text.length+1) s).1]) (qJw text (text.length+1) s).2 else (l,s)
def qMt (text:List UInt8):List Rule×PS:=qVf text (text.length+3) [] (qHh text ⟨0,[],0,false⟩)
def qMu (text:List UInt8):List Rule×Int×Int :=
 if text.length > 4096 then ([],0,72)
 else if (qMt text).2.wr=true then ([],(qMt text).2.na,71)
 else if qGm (qMt text).1≠0 then ([],0,72) else ((qMt text).1,0,0)
def meas (text:List UInt8) (s:PS):Nat:=if s.wr=true then 0 else text.length-s.na+1
theorem encRs_append (a:List Rule) (r:Rule):qFn (a++[r])=qFn a++[vEa r]:=by simp [qFn]
set_option maxRecDepth 100000 in
theorem qOn (text:List UInt8) (hl:text.length≤1000000) :
  Spec Tryz.prog 155 [.d (.str text)] [] (fun r h'=>r=.tup [qNn (qMu text).1,.d (.int .i64 (qMu text).2.1),.d (.int .i64 (qMu text).2.2)]∧h'=[]):=by
 refine qAb hT Tryz.func155 rfl rfl rfl rfl ?_
 intro E hE
 have i0:Inv text ⟨0,[],0,false⟩:=⟨rfl,by simp⟩
 have hnext:=qLd text ⟨0,[],0,false⟩ (by simp) hl
 refine ww ?_
 refine qAa rfl (fun h1=>?_) (fun h1=>?_)
 ·have h1':text.length > 4096:=by simp at h1;omega
  unfold qMu
  rw [if_pos h1']
  refine ww ?_
  exact qAj (r:=.tup [qNn [],.I 0,.I 72]) rfl (AV.le.tup ⟨AV.le.agg ⟨AV.le.dat,trivial⟩,.refl _,.refl _,trivial⟩) rfl rfl rfl rfl ⟨rfl,rfl⟩
 ·have h1':¬ text.length > 4096:=by simp at h1;omega
  unfold qMu
  rw [if_neg h1']
  obtain ⟨i1,_,i1w⟩:=i0.next
  generalize hq:qMt text=q
  unfold qMt at hq
  generalize qHh text ⟨0,[],0,false⟩=s0 at hnext i1 i1w hq
  refine ww ?_
  refine qAd (qAk rfl rfl hnext [1] (by decide) rfl rfl rfl rfl (lowH_psr 0 _ _) rfl rfl) rfl ?_
  refine ww ?_
  refine qAq (qDm 2 0 3 6 rfl rfl rfl ?_)
  refine qEs (ι:=List Rule×PS)
   (fun x=>[(2,.ptr 0 0),(5,.ptr 1 0),(6,.ptr 2 0)])
   (fun x=>[.row [.sl 6 [] .full],.row (psr text x.2),.row [.sl 6 (qFn x.1) (.right 3)],.right 6 (qFn x.1).length])
   (fun x=>Inv text x.2∧x.1.length≤x.2.na+(if x.2.wr=true then 1 else 0)∧(∀ r,r∈x.1→qJe (vFz r))∧∃ m,meas text x.2 < m∧qVf text m x.1 x.2=q)
   (fun x=>meas text x.2) ([],s0) ⟨i1,by simp,(fun r hr=>(by cases hr)),text.length+3,(by unfold meas;split <;> omega),hq⟩
   yf (HLe.refl _) ?_
  rintro ⟨l,s⟩ ⟨j1,j2,j3,m,j4,j5⟩
  simp only at j1 j2 j3 j4 j5 ⊢
  obtain ⟨m,rfl⟩:∃ m',m=m'+1:=⟨m-1,by omega⟩
  rw [qVf] at j5
  have hrule:=qYr hl s j1
  have hrok:=ruleP_ok hl j1
  generalize qJw text (text.length+1) s=rs at hrule hrok j5
  obtain ⟨⟨rv,ral,⟨rk,rc,rw_,rkids⟩⟩,s2⟩:=rs
  simp only at hrule hrok j5
  obtain ⟨a,nt,na,wr⟩:=s
  simp only at j1 j2 j4 j5 hrok
  have hna:=j1.a;have hle:=j1.le
  simp only at hna hle
  refine ww ?_
  refine qAa rfl (fun h2=>?_) (fun h2=>?_)
  ·have h2':nt≠[]∧wr=false:=by simpa using h2
   rw [if_pos h2'] at j5
   obtain ⟨k1,k2,k3,k4⟩:=hrok h2'.1
   have hk1:=k1.a;have hk2:=k1.le
   obtain ⟨hnt,rfl⟩:=h2'
   refine wwe ?_
   refine qGv ?_
   refine qBu (fun i=>bif Nat.beq i 1 then [2] else bif Nat.beq i 3 then [1] else bif Nat.beq i 5 then [3] else bif Nat.beq i 7 then [2] else []) (fun i=>bif Nat.beq i 3 then [1] else bif Nat.beq i 5 then [3] else bif Nat.beq i 7 then [2] else []) mixed (by kernel_rfl) ?_
   refine wwg ?_
   refine qAm (v:=.agg ((vEa (.mk rv ral (.mk rk rc rw_ rkids))).map .d)) (os:=[.row (psr text s2)]) (fun k hk1 hk2=>qAk rfl rfl hrule [1] (by decide) (congrArg (fun x=>[x]) ((hk2 1 (by show 1∈[1];simp)).trans rfl)) rfl rfl rfl (lowH_psr 0 _ _) rfl rfl) rfl ?_
   refine qAm (os:=[]) (fun k hk1 hk2=>buildSl_ok hT rfl rfl) rfl ?_
   refine qAm (v:=.sl 6 (qFn l++[vEa (.mk rv ral (.mk rk rc rw_ rkids))]) (.right 3)) (os:=[.right 6 ((qFn l).length+1)]) (fun k hk1 hk2=>qEp (i:=3) hT rfl rfl rfl rfl ((hk2 3 (by show 3∈[3];simp)).trans rfl) rfl (by show ((qFn l).length+1)*(64+1)≤140737488355328;simp [qFn];simp at j2;omega)) rfl ?_
   refine wwg ?_
   refine ⟨(l++[.mk rv ral (.mk rk rc rw_ rkids)],s2),[],⟨k1,?_,?_,m,?_,j5⟩,?_,yf,⟨ObLe.refl _,ObLe.refl _,?_,?_,trivial⟩,Env.below_mono hE (by simp),rfl,?_⟩
   ·simp only [List.length_append,List.length_cons,List.length_nil];simp at j2;split <;> (rcases k3 with k3 | k3 <;> simp_all <;> omega)
   ·intro r hr
    rcases List.mem_append.1 hr with hr | hr
    ·exact j3 r hr
    ·simp at hr;subst hr;exact k4
   ·unfold meas at j4 ⊢;simp only at j4 ⊢;simp at j4;split
    ·omega
    ·rcases k3 with k3 | k3 <;> simp_all <;> omega
   ·unfold meas;simp only;simp;split
    ·omega
    ·rcases k3 with k3 | k3 <;> simp_all <;> omega
   ·simp only [encRs_append];exact ObLe.refl _
   ·simp only [encRs_append,List.length_append];exact ObLe.refl _
   ·simp only [qCn,vGx,qZc];rfl
  ·have h2':¬ (nt≠[]∧wr=false):=by simpa using h2
   rw [if_neg h2'] at j5
   subst j5
   refine wwe ?_
   refine qAi (l:=[(2,.ptr 0 0),(5,.ptr 1 0),(6,.ptr 2 0)]) (h':=[.row [.sl 6 [] .full],.row (psr text ⟨a,nt,na,wr⟩),.row [.d (.sl 6 (qFn l))],.dead]) yf ⟨ObLe.refl _,ObLe.refl _,⟨AV.le.dat,trivial⟩,trivial,trivial⟩ ?_
   have hvalid:=qOm l j3
   refine ww ?_
   refine qAa rfl (fun h3=>?_) (fun h3=>?_)
   ·subst h3
    rw [if_pos rfl]
    refine qAf ?_
    refine qBu (fun i=>bif Nat.beq i 5 then [1] else bif Nat.beq i 6 then [0] else []) (fun i=>bif Nat.beq i 6 then [0] else []) mixed (by kernel_rfl) ?_
    refine wwg ?_
    refine ww ?_
    exact qAj (r:=.tup [qNn [],.I na,.I 71]) rfl (AV.le.tup ⟨AV.le.agg ⟨AV.le.dat,trivial⟩,.refl _,.refl _,trivial⟩) rfl rfl rfl rfl ⟨rfl,rfl⟩
   ·subst h3
    rw [if_neg (by simp)]
    refine ww ?_
    refine qAd (qCf rfl rfl hvalid rfl rfl rfl) rfl ?_
    refine ww ?_
    refine qAa rfl (fun h4=>?_) (fun h4=>?_)
    ·have h4':qGm l≠0:=by simpa using h4
     rw [if_pos h4']
     refine ww ?_
     exact qAj (r:=.tup [qNn [],.I 0,.I 72]) rfl (AV.le.tup ⟨AV.le.agg ⟨AV.le.dat,trivial⟩,.refl _,.refl _,trivial⟩) rfl rfl rfl rfl ⟨rfl,rfl⟩
    ·have h4':¬ qGm l≠0:=by simpa using h4
     rw [if_neg h4']
     refine ww ?_
     exact qAj (r:=.tup [qNn l,.I 0,.I 0]) rfl (AV.le.tup yf) rfl rfl rfl rfl ⟨rfl,rfl⟩
def vHt (x:AV):AV:=bif low 0 x then x else .any
theorem lowA_le (x:AV):AV.le x (vHt x):=by
 unfold vHt
 cases low 0 x
 ·exact AV.le.any x
 ·exact AV.le.refl x
theorem vGc {P:Program} {E:Env} {o:Oper} {ρ:Operand→AV} {H:List AObj} {f:Operand} {asl:List Operand} {ats:Array TypeId} {g:FuncId} {first cap:List AV} (ho:o.op=.call ⟨.value f,asl.toArray,ats⟩) (hf:vHt (ρ f)=.fn (.func g) first cap)
  {args:List AV} {r0:AV} (S:Spec P g args [] (fun r h'=>r=r0∧h'=[])) (hargs:first++(asl.map (fun x=>vHt (ρ x))++cap)=args) (hla:qBl 0 args=true) (hr0:low 0 r0=true):OpS P E o ρ H r0 H :=
 vDi (ρ':=fun x=>vHt (ρ x)) (fun x=>lowA_le _) (qCf ho hf S hargs hla hr0)
abbrev wC (A P:AV) (k:Int) (st tx:List UInt8):List AV :=
 [.I 40000,A,.sl 62 [] .full,P,.I k,.I 0,.I 0,.I 0,.d (.str st),.d (.str tx),.d (.str []),.d (.str []),.d (.str []),.d (.str []),.d (.str []),.d (.str []),.I 0,.d (.sl 1 []),.d (.bool false),.d (.sl 5 []),.I 0,.d (.sl 1 []),.d (.sl 1 []),.d (.sl 3 []),.sl 21 [] .full]
theorem qNo (st tx:List UInt8):Spec Tryz.prog 79 [.ptr 0 0] [.row (wC (.sl 33 [] .full) (.sl 11 [] .full) 2 st tx)] (fun r h'=>r=.fn (.func 106) [.ptr 0 0] []∧h'=[.row (wC (.sl 33 [] .full) (.sl 11 [] .full) 2 st tx)]):=by
 refine qAb hT Tryz.func79 rfl rfl rfl rfl ?_;intro E hE
 refine ww ?_
 refine qAa rfl (fun q=>absurd q (by decide)) (fun q=>?_)
 refine ww ?_
 refine qAa rfl (fun q=>?_) (fun q=>absurd q (by decide))
 refine ww ?_
 exact rq ⟨rfl,rfl⟩ rfl (.refl _)
theorem qMk (D:List (List Dat)) (st tx:List UInt8):Spec Tryz.prog 79 [.ptr 0 0] [.row (wC (.d (.sl 33 D)) (.sl 11 [] .full) 11 st tx)] (fun r h'=>r=.fn (.func 115) [.ptr 0 0] []∧h'=[.row (wC (.d (.sl 33 D)) (.sl 11 [] .full) 11 st tx)]):=by
 refine qAb hT Tryz.func79 rfl rfl rfl rfl ?_;intro E hE
 refine ww ?_
 refine qAa rfl (fun q=>absurd q (by decide)) (fun q=>?_)
 refine ww ?_
 refine qAa rfl (fun q=>absurd q (by decide)) (fun q=>?_)
 refine ww ?_
 refine qAa rfl (fun q=>absurd q (by decide)) (fun q=>?_)
 refine ww ?_
 refine qAa rfl (fun q=>absurd q (by decide)) (fun q=>?_)
 refine ww ?_
 refine qAa rfl (fun q=>absurd q (by decide)) (fun q=>?_)
 refine ww ?_
 refine qAa rfl (fun q=>absurd q (by decide)) (fun q=>?_)
 refine ww ?_
 refine qAa rfl (fun q=>absurd q (by decide)) (fun q=>?_)
 refine ww ?_
 refine qAa rfl (fun q=>absurd q (by decide)) (fun q=>?_)
 refine ww ?_
 refine qAa rfl (fun q=>absurd q (by decide)) (fun q=>?_)
 refine ww ?_
 refine qAa rfl (fun q=>absurd q (by decide)) (fun q=>?_)
 refine ww ?_
 refine qAa rfl (fun q=>?_) (fun q=>absurd q (by decide))
 refine ww ?_
 exact rq ⟨rfl,rfl⟩ rfl (.refl _)
theorem qNq (D E':List (List Dat)) (st tx:List UInt8):Spec Tryz.prog 80 [.ptr 0 0] [.row (wC (.sl 33 D .full) (.sl 11 E' .full) 2 st tx)] (fun r h'=>r=.d (.bool false)∧h'=[.row (wC (.sl 33 D .full) (.sl 11 E' .full) 2 st tx)]):=by
 refine qAb hT Tryz.func80 rfl rfl rfl rfl ?_;intro E hE
 refine ww ?_
 refine qAa rfl (fun q=>absurd q (by decide)) (fun q=>?_)
 refine ww ?_
 refine qAa rfl (fun q=>absurd q (by decide)) (fun q=>?_)
 refine ww ?_
 refine qAa rfl (fun q=>absurd q (by decide)) (fun q=>?_)
 refine ww ?_
 refine qAa rfl (fun q=>absurd q (by decide)) (fun q=>?_)
 refine ww ?_
 refine qAa rfl (fun q=>absurd q (by decide)) (fun q=>?_)
 refine ww ?_
 refine qAa rfl (fun q=>absurd q (by decide)) (fun q=>?_)
 refine ww ?_
 refine qAa rfl (fun q=>absurd q (by decide)) (fun q=>?_)
 refine ww ?_
 refine qAa rfl (fun q=>absurd q (by decide)) (fun q=>?_)
 refine ww ?_
 exact rq ⟨rfl,rfl⟩ rfl (.refl _)
theorem qMl (D E':List (List Dat)) (st tx:List UInt8):Spec Tryz.prog 80 [.ptr 0 0] [.row (wC (.d (.sl 33 D)) (.sl 11 E' .full) 11 st tx)] (fun r h'=>r=.d (.bool false)∧h'=[.row (wC (.d (.sl 33 D)) (.sl 11 E' .full) 11 st tx)]):=by
 refine qAb hT Tryz.func80 rfl rfl rfl rfl ?_;intro E hE
 refine ww ?_
 refine qAa rfl (fun q=>absurd q (by decide)) (fun q=>?_)
 refine ww ?_
 refine qAa rfl (fun q=>absurd q (by decide)) (fun q=>?_)
 refine ww ?_
 refine qAa rfl (fun q=>absurd q (by decide)) (fun q=>?_)
 refine ww ?_
 refine qAa rfl (fun q=>absurd q (by decide)) (fun q=>?_)
 refine ww ?_
 refine qAa rfl (fun q=>absurd q (by decide)) (fun q=>?_)
 refine ww ?_
 refine qAa rfl (fun q=>absurd q (by decide)) (fun q=>?_)
 refine ww ?_
 refine qAa rfl (fun q=>absurd q (by decide)) (fun q=>?_)
 refine ww ?_
 refine qAa rfl (fun q=>absurd q (by decide)) (fun q=>?_)
 refine ww ?_
 exact rq ⟨rfl,rfl⟩ rfl (.refl _)
theorem qXu:Spec Tryz.prog 176 [.d (.sl 33 []),.any] [] (fun r h'=>r=.I (-1)∧h'=[]):=by
 refine qAb hT Tryz.func176 rfl rfl rfl rfl ?_;intro E hE
 refine ww ?_
 refine qAn (ι:=Unit) (fun _=>[(0,.d (.sl 33 [])),(7,.I 0),(8,.I 0)]) (fun _=>[]) (fun _=>True) (fun _=>0) () trivial yf (HLe.refl _) ?_
 intro _ _
 refine ww ?_
 refine qAa rfl (fun q=>absurd q (by decide)) (fun q=>?_)
 refine ww ?_
 exact wwr
theorem qUq:Spec Tryz.prog 138 [.d (.sl 33 []),.any] [] (fun r h'=>r=.d (.bool false)∧h'=[]):=by
 refine qAb hT Tryz.func138 rfl rfl rfl rfl ?_;intro E hE
 refine ww ?_
 refine wwc qXu ?_
 refine ww ?_
 exact rq ⟨rfl,rfl⟩ rfl (.bool rfl)
theorem qXc (a:Aut) (st tx:List UInt8) (htx:tx.length≤1000) (hB:Spec Tryz.prog 140 [.d (.str st),.d (.sl 1 (qBb tx)),.I 40000] [] (fun r h'=>r=.tup [qOg a,.I 0]∧h'=[])) :
  Spec Tryz.prog 106 [.ptr 0 0] [.row (wC (.sl 33 [] .full) (.sl 11 [] .full) 2 st tx)] (fun r h'=>r=.I 0∧h'=[.row (wC (.d (.sl 33 [qEn a])) (.sl 11 [] .full) 2 st tx)]):=by
 have hcn:Spec Tryz.prog 138 [.sl 33 [] .full,.any] [] (fun r h'=>r=.d (.bool false)∧h'=[]):=Spec.args (args':=[.d (.sl 33 []),.any]) ⟨.dat,.refl _,trivial⟩ qUq
 refine qAb hT Tryz.func106 rfl rfl rfl rfl ?_;intro E hE
 refine qAq ?_
 refine ww ?_
 refine qAa rfl (fun q=>absurd q (by decide)) (fun q=>?_)
 refine ww ?_
 refine qAd (vGc rfl rfl hcn rfl rfl rfl) rfl ?_
 refine ww ?_
 refine qAa rfl (fun q=>absurd q (by decide)) (fun q=>?_)
 refine wwe ?_
 refine qAi (l:=[(1,.ptr 2 0),(2,.I 0)]) (h':=[.row (wC (.sl 33 [] .full) (.sl 11 [] .full) 2 st tx),.room,.row [.ptr 0 0]]) yf (HLe.refl _) ?_
 refine qAf ?_
 refine qAv (fun i=>bif Nat.beq i 0||Nat.beq i 5||Nat.beq i 11 then [2] else bif Nat.beq i 4||Nat.beq i 9||Nat.beq i 15 then [0] else bif Nat.beq i 20||Nat.beq i 21 then [1] else []) (fun i=>bif Nat.beq i 20||Nat.beq i 21 then [1] else []) mixed (by kernel_rfl) ?_
 refine wwg ?_
 refine qAm (os:=[]) (fun k hk hr=>strBytes_ok hT rfl rfl rfl) rfl ?_
 refine wwg ?_
 refine wwdc hB ?_
 refine wwg ?_
 refine qAm (os:=[.row (vAe [] 0 (.sl 1 [] .full))]) (v:=.ptr 1 0) (fun k hk hr=>allocAt_ok (i0:=1) (i:=tiA) hT rfl tiA_find ((hr 1 (List.mem_singleton.2 rfl)).trans rfl)) rfl ?_
 refine qAm (os:=[.row (qCm a)]) (v:=.any) (fun k hk hr=>qAp (i:=1) (off:=0) hT rfl rfl ((hr 1 (List.mem_singleton.2 rfl)).trans rfl) (S38 (C:=qCm a) rfl rfl)) rfl ?_
 refine wwg ?_
 refine qAi (l:=[(1,.ptr 2 0),(2,.I 0),(3,.ptr 1 0),(4,.I 0)]) (h':=[.row (wC (.sl 33 [] .full) (.sl 11 [] .full) 2 st tx),.row (qCm a),.row [.ptr 0 0]]) yf (HLe.refl _) ?_
 refine ww ?_
 refine qAa rfl (fun q=>?_) (fun q=>absurd q (by decide))
 refine qAv (fun i=>bif Nat.beq i 0||Nat.beq i 1 then [2] else bif Nat.beq i 5||Nat.beq i 12 then [0] else bif Nat.beq i 6 then [1] else []) (fun i=>bif Nat.beq i 12 then [0] else []) mixed (by kernel_rfl) ?_
 refine wwg ?_
 refine qAm (os:=[]) (v:=.sl 33 [qEn a] .full) (fun k hk hr=>buildSl_ok hT rfl rfl) rfl ?_
 refine wwg ?_
 refine qAm (os:=[]) (fun k hk hr=>qCp (es:=[]) (es2:=[qEn a]) (sz:=33) (by_:=384) hT rfl rfl rfl (.inl rfl) rfl (show (0+1)*(384+1)≤140737488355328 by decide)) rfl ?_
 refine wwg ?_
 refine ww ?_
 exact rq ⟨rfl,rfl⟩ rfl (.refl _)
def qNm (st tx:List UInt8):List Dat:=[.str tx,.sl 11 [],.sl 11 [],.sl 17 [],.sl 8 [],.sl 17 [],.sl 1 [[.int .i64 2],[.int .i64 3],[.int .i64 1]],.sl 1 [],.sl 9 [],.int .i64 0,.sl 1 (st.map fun b=>[.int .u8 (b.toNat:Int)])]
theorem qSf (D:List (List Dat)) (st tx:List UInt8) (rs:List Rule) (i:Int) (hst:st.length≤1000) (hP:Spec Tryz.prog 155 [.d (.str tx)] [] (fun r h'=>r=.tup [qNn rs,.I i,.I 0]∧h'=[])) :
  Spec Tryz.prog 115 [.ptr 0 0] [.row (wC (.d (.sl 33 D)) (.sl 11 [] .full) 11 st tx)] (fun r h'=>r=.I 0∧h'=[.row (wC (.d (.sl 33 D)) (.d (.sl 11 [qNm st tx])) 11 st tx)]):=by
 refine qAb hT Tryz.func115 rfl rfl rfl rfl ?_;intro E hE
 refine ww ?_
 refine qAa rfl (fun q=>absurd q (by decide)) (fun q=>?_)
 refine ww ?_
 refine wwc hP ?_
 refine ww ?_
 refine qAa rfl (fun q=>absurd q (by decide)) (fun q=>?_)
 refine wwe ?_
 refine qAi (l:=[(0,.ptr 0 0)]) (h':=[.row (wC (.d (.sl 33 D)) (.sl 11 [] .full) 11 st tx),.row [.d (.sl 6 (qFn rs))]]) yf (HLe.refl _) ?_
 refine qAf ?_
 refine qAv (fun i=>bif Nat.beq i 5||Nat.beq i 10||Nat.beq i 16||Nat.beq i 24 then [0] else []) (fun i=>bif Nat.beq i 24 then [0] else []) mixed (by kernel_rfl) ?_
 refine wwg ?_
 refine qAm (os:=[]) (v:=.sl 1 [[.int .i64 2],[.int .i64 3],[.int .i64 1]] .full) (fun k hk hr=>buildSl_ok hT rfl rfl) rfl ?_
 refine wwg ?_
 refine qAm (os:=[]) (fun k hk hr=>strBytes_ok hT rfl rfl rfl) rfl ?_
 refine wwg ?_
 refine qAm (os:=[]) (v:=.sl 11 [qNm st tx] .full) (fun k hk hr=>buildSl_ok hT rfl rfl) rfl ?_
 refine wwg ?_
 refine qAm (os:=[]) (fun k hk hr=>qCp (es:=[]) (es2:=[qNm st tx]) (sz:=11) (by_:=240) hT rfl rfl rfl (.inl rfl) rfl (show (0+1)*(240+1)≤140737488355328 by decide)) rfl ?_
 refine wwg ?_
 refine ww ?_
 exact rq ⟨rfl,rfl⟩ rfl (.refl _)
theorem vEg (st tx:List UInt8):qQj T 146 [(0,.agg (bC (.sl 33 [] .full) (.sl 11 [] .full))),(1,.agg (cAct 2 0 0 0 st tx [] [] [] [] [] [] 0 [] false [] [] []))]=some (.agg (wC (.sl 33 [] .full) (.sl 11 [] .full) 2 st tx)):=by kernel_rfl
theorem vBm (D:List (List Dat)) (st tx:List UInt8):qQj T 146 [(0,.agg (bC (.d (.sl 33 D)) (.sl 11 [] .full))),(1,.agg (cAct 11 0 0 0 st tx [] [] [] [] [] [] 0 [] false [] [] []))]=some (.agg (wC (.d (.sl 33 D)) (.sl 11 [] .full) 11 st tx)):=by kernel_rfl
theorem qXn (a:Aut) (st tx:List UInt8) (htx:tx.length≤1000) (hB:Spec Tryz.prog 140 [.d (.str st),.d (.sl 1 (qBb tx)),.I 40000] [] (fun r h'=>r=.tup [qOg a,.I 0]∧h'=[])) :
  Spec Tryz.prog 45 [.agg (bC (.sl 33 [] .full) (.sl 11 [] .full)),.agg (cAct 2 0 0 0 st tx [] [] [] [] [] [] 0 [] false [] [] [])] [] (fun r h'=>r=.tup [.agg (bC (.d (.sl 33 [qEn a])) (.sl 11 [] .full)),.sl 21 [] .full,.I 0]∧h'=[]):=by
 have hF:=qXc a st tx htx hB
 refine qAb hT Tryz.func45 rfl rfl rfl rfl ?_;intro E hE
 refine qAq ?_
 refine qAf (qAc ?_)
 refine wws ?_
 refine qAf ?_
 refine qAv (fun i=>bif Nat.beq i 0 then [1] else bif Nat.beq i 2 then [2] else bif Nat.beq i 4 then [0] else []) (fun i=>bif Nat.beq i 4 then [0] else []) mixed (by kernel_rfl) ?_
 refine wwg ?_
 refine wwdc qOs ?_
 refine qAm (os:=[]) (v:=.agg (cAct 2 0 0 0 st tx [] [] [] [] [] [] 0 [] false [] [] [])) (fun k hk hr=>qAo (i:=2) (off:=0) hT rfl rfl ((hr 2 (List.mem_singleton.2 rfl)).trans rfl) (qDa rfl)) rfl ?_
 refine qAm (os:=[]) (v:=.agg (wC (.sl 33 [] .full) (.sl 11 [] .full) 2 st tx)) (fun k hk hr=>qAe (qOc hT rfl (vEg st tx))) rfl ?_
 refine qAm (os:=[.row (wC (.sl 33 [] .full) (.sl 11 [] .full) 2 st tx)]) (v:=.ptr 0 0) (fun k hk hr=>boxAt_ok (i0:=0) (cs:=wC (.sl 33 [] .full) (.sl 11 [] .full) 2 st tx) rfl rfl ((hr 0 (List.mem_singleton.2 rfl)).trans rfl)) rfl ?_
 refine wwg ?_
 refine qAi (l:=[(2,.ptr 1 0),(4,.ptr 3 0),(7,.ptr 0 0)]) (h':=[.row (wC (.sl 33 [] .full) (.sl 11 [] .full) 2 st tx),.row (bC (.sl 33 [] .full) (.sl 11 [] .full)),.row (cAct 2 0 0 0 st tx [] [] [] [] [] [] 0 [] false [] [] []),.row [.I 0,.sl 33 [] .full,.sl 62 [] .full,.sl 11 [] .full]]) yf (HLe.refl _) ?_
 refine ww ?_
 refine qAd (qFd (v:=.fn (.func 106) [.ptr 0 0] []) (H':=[.row (wC (.sl 33 [] .full) (.sl 11 [] .full) 2 st tx),.row (bC (.sl 33 [] .full) (.sl 11 [] .full)),.row (cAct 2 0 0 0 st tx [] [] [] [] [] [] 0 [] false [] [] []),.row [.I 0,.sl 33 [] .full,.sl 62 [] .full,.sl 11 [] .full]]) rfl rfl (qNo st tx) [0] (by decide) rfl rfl rfl rfl rfl rfl) rfl ?_
 refine ww ?_
 refine qAd (qAe (eqFn_ok rfl Tryz.underlying147 rfl rfl)) rfl ?_
 refine ww ?_
 refine qAa rfl (fun q=>absurd q (by decide)) (fun q=>?_)
 refine ww ?_
 refine qAd (qAk (H':=[.row (wC (.sl 33 [] .full) (.sl 11 [] .full) 2 st tx),.row (bC (.sl 33 [] .full) (.sl 11 [] .full)),.row (cAct 2 0 0 0 st tx [] [] [] [] [] [] 0 [] false [] [] []),.row [.I 0,.sl 33 [] .full,.sl 62 [] .full,.sl 11 [] .full]]) rfl rfl (qNq [] [] st tx) [0] (by decide) rfl rfl rfl rfl rfl rfl rfl) rfl ?_
 refine ww ?_
 refine qAa rfl (fun q=>absurd q (by decide)) (fun q=>?_)
 refine ww ?_
 refine qAd (qAk (H':=[.row (wC (.d (.sl 33 [qEn a])) (.sl 11 [] .full) 2 st tx),.row (bC (.sl 33 [] .full) (.sl 11 [] .full)),.row (cAct 2 0 0 0 st tx [] [] [] [] [] [] 0 [] false [] [] []),.row [.I 0,.sl 33 [] .full,.sl 62 [] .full,.sl 11 [] .full]]) rfl rfl hF [0] (by decide) rfl rfl rfl rfl rfl rfl rfl) rfl ?_
 refine ww ?_
 refine qAa rfl (fun q=>absurd q (by decide)) (fun q=>?_)
 refine wwe ?_
 refine qAf ?_
 refine qAv (fun i=>bif Nat.beq i 3||Nat.beq i 7 then [0] else bif Nat.beq i 8 then [3] else []) (fun i=>bif Nat.beq i 8 then [3] else []) mixed (by kernel_rfl) ?_
 refine wwg ?_
 refine ww ?_
 exact rq ⟨rfl,rfl⟩ rfl (.refl _)
theorem qTj (a:Aut) (hl:a.roots.length≤1000000∧a.links.length≤1000000∧a.secs.length≤1000000∧a.rev.length≤1000000∧a.defs.length≤1000000∧a.seed.length≤1000000) (st tx:List UInt8) (rs:List Rule) (i:Int) (hst:st.length≤1000) (hP:Spec Tryz.prog 155 [.d (.str tx)] [] (fun r h'=>r=.tup [qNn rs,.I i,.I 0]∧h'=[])) :
  Spec Tryz.prog 45 [.agg (bC (.d (.sl 33 [qEn a])) (.sl 11 [] .full)),.agg (cAct 11 0 0 0 st tx [] [] [] [] [] [] 0 [] false [] [] [])] [] (fun r h'=>r=.tup [.agg (bC (.d (.sl 33 [qEn a])) (.d (.sl 11 [qNm st tx]))),.sl 21 [] .full,.I 0]∧h'=[]):=by
 have hF:=qSf [qEn a] st tx rs i hst hP
 have hbc:=qOr a hl
 refine qAb hT Tryz.func45 rfl rfl rfl rfl ?_;intro E hE
 refine qAq ?_
 refine qAf (qAc ?_)
 refine wws ?_
 refine qAf ?_
 refine qAv (fun i=>bif Nat.beq i 0 then [1] else bif Nat.beq i 2 then [2] else bif Nat.beq i 4 then [0] else []) (fun i=>bif Nat.beq i 4 then [0] else []) mixed (by kernel_rfl) ?_
 refine wwg ?_
 refine wwdc hbc ?_
 refine qAm (os:=[]) (v:=.agg (cAct 11 0 0 0 st tx [] [] [] [] [] [] 0 [] false [] [] [])) (fun k hk hr=>qAo (i:=2) (off:=0) hT rfl rfl ((hr 2 (List.mem_singleton.2 rfl)).trans rfl) (qDa rfl)) rfl ?_
 refine qAm (os:=[]) (v:=.agg (wC (.d (.sl 33 [qEn a])) (.sl 11 [] .full) 11 st tx)) (fun k hk hr=>qAe (qOc hT rfl (vBm [qEn a] st tx))) rfl ?_
 refine qAm (os:=[.row (wC (.d (.sl 33 [qEn a])) (.sl 11 [] .full) 11 st tx)]) (v:=.ptr 0 0) (fun k hk hr=>boxAt_ok (i0:=0) (cs:=wC (.d (.sl 33 [qEn a])) (.sl 11 [] .full) 11 st tx) rfl rfl ((hr 0 (List.mem_singleton.2 rfl)).trans rfl)) rfl ?_
 refine wwg ?_
 refine qAi (l:=[(2,.ptr 1 0),(4,.ptr 3 0),(7,.ptr 0 0)]) (h':=[.row (wC (.d (.sl 33 [qEn a])) (.sl 11 [] .full) 11 st tx),.row (bC (.d (.sl 33 [qEn a])) (.sl 11 [] .full)),.row (cAct 11 0 0 0 st tx [] [] [] [] [] [] 0 [] false [] [] []),.row [.I 0,.sl 33 [] .full,.sl 62 [] .full,.sl 11 [] .full]]) yf (HLe.refl _) ?_
 refine ww ?_
 refine qAd (qFd (v:=.fn (.func 115) [.ptr 0 0] []) (H':=[.row (wC (.d (.sl 33 [qEn a])) (.sl 11 [] .full) 11 st tx),.row (bC (.d (.sl 33 [qEn a])) (.sl 11 [] .full)),.row (cAct 11 0 0 0 st tx [] [] [] [] [] [] 0 [] false [] [] []),.row [.I 0,.sl 33 [] .full,.sl 62 [] .full,.sl 11 [] .full]]) rfl rfl (qMk [qEn a] st tx) [0] (by decide) rfl rfl rfl rfl rfl rfl) rfl ?_
 refine ww ?_
 refine qAd (qAe (eqFn_ok rfl Tryz.underlying147 rfl rfl)) rfl ?_
 refine ww ?_
 refine qAa rfl (fun q=>absurd q (by decide)) (fun q=>?_)
 refine ww ?_
 refine qAd (qAk (H':=[.row (wC (.d (.sl 33 [qEn a])) (.sl 11 [] .full) 11 st tx),.row (bC (.d (.sl 33 [qEn a])) (.sl 11 [] .full)),.row (cAct 11 0 0 0 st tx [] [] [] [] [] [] 0 [] false [] [] []),.row [.I 0,.sl 33 [] .full,.sl 62 [] .full,.sl 11 [] .full]]) rfl rfl (qMl [qEn a] [] st tx) [0] (by decide) rfl rfl rfl rfl rfl rfl rfl) rfl ?_
 refine ww ?_
 refine qAa rfl (fun q=>absurd q (by decide)) (fun q=>?_)
 refine ww ?_
 refine qAd (qAk (H':=[.row (wC (.d (.sl 33 [qEn a])) (.d (.sl 11 [qNm st tx])) 11 st tx),.row (bC (.d (.sl 33 [qEn a])) (.sl 11 [] .full)),.row (cAct 11 0 0 0 st tx [] [] [] [] [] [] 0 [] false [] [] []),.row [.I 0,.sl 33 [] .full,.sl 62 [] .full,.sl 11 [] .full]]) rfl rfl hF [0] (by decide) rfl rfl rfl rfl rfl rfl rfl) rfl ?_
 refine ww ?_
 refine qAa rfl (fun q=>absurd q (by decide)) (fun q=>?_)
 refine wwe ?_
 refine qAf ?_
 refine qAv (fun i=>bif Nat.beq i 3||Nat.beq i 7 then [0] else bif Nat.beq i 8 then [3] else []) (fun i=>bif Nat.beq i 8 then [3] else []) mixed (by kernel_rfl) ?_
 refine wwg ?_
 refine ww ?_
 exact rq ⟨rfl,rfl⟩ rfl (.refl _)
end Tdoc
