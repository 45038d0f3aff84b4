/- Part 13 of the proof: the texts RB0 J1 JA JB JC J2 J3 J4 J5 J6 Y8 ZR ZQ ZU Y9 XA XL XM XN XO XP J7 J8 J9 JD JE JF JG JH. -/
import Derived.Test.YtglbincdccmhfaaGreatDoorCL9
set_option linter.unusedVariables false
set_option linter.unusedSimpArgs false
set_option maxHeartbeats 8000000
set_option maxRecDepth 100000
namespace Tdoc
open Go
theorem powX_eq:∀ (m x k out:Nat),k < 2 ^ m→out < pG→qUx m x k out=out*x ^ k % pG
 | 0,x,k,out,hk,ho=>by
  have:k=0:=by simpa using hk
  subst this
  rw [qUx,Nat.pow_zero,Nat.mul_one,Nat.mod_eq_of_lt ho]
 | m+1,x,k,out,hk,ho=>by
  rw [qUx]
  by_cases h0:k=0
  ·subst h0;rw [if_pos rfl,Nat.pow_zero,Nat.mul_one,Nat.mod_eq_of_lt ho]
  ·rw [if_neg h0]
   have hk2:k / 2 < 2 ^ m:=by rw [Nat.pow_succ] at hk;omega
   have hpg:0 < pG:=by decide
   have hsq:(x*x % pG) ^ (k / 2) % pG=x ^ (2*(k / 2)) % pG:=by rw [← Nat.pow_mod,Nat.pow_mul,Nat.pow_two]
   by_cases h1:k % 2=1
   ·rw [if_pos h1,powX_eq m _ _ _ hk2 (Nat.mod_lt _ hpg),Nat.mul_mod,Nat.mod_mod,hsq,← Nat.mul_mod]
    have e:k=2*(k / 2)+1:=by omega
    conv=>rhs;rw [e,Nat.pow_succ]
    rw [Nat.mul_assoc,Nat.mul_comm x,← Nat.mul_assoc,Nat.mul_assoc out,← Nat.mul_assoc]
   ·rw [if_neg h1,powX_eq m _ _ _ hk2 ho,Nat.mul_mod,hsq,← Nat.mul_mod]
    have e:k=2*(k / 2):=by omega
    conv=>rhs;rw [e]
def vBs (q:Nat):Nat→Bool
 | 0=>true
 | d+1=>(Nat.ble (d+1) 1||!Nat.beq (q % (d+1)) 0)&&vBs q d
theorem noDiv_at {q:Nat}:∀ {n d:Nat},vBs q n=true→2≤d→d≤n→q % d≠0
 | 0,d,_,h1,h2=>by omega
 | n+1,d,h,h1,h2=>by
  simp only [vBs,Bool.and_eq_true,Bool.or_eq_true,Bool.not_eq_true'] at h
  by_cases he:d=n+1
  ·subst he
   rcases h.1 with h3 | h3
   ·have:=Nat.le_of_ble_eq_true h3;omega
   ·exact Nat.ne_of_beq_eq_false h3
  ·exact noDiv_at h.2 h1 (by omega)
theorem qG_noDiv:vBs qG 32768=true:=by kernel_rfl
theorem qG_coprime {k:Nat} (h1:0 < k) (h2:k < qG):Nat.gcd k qG=1:=by
 have hd:Nat.gcd k qG ∣ qG:=Nat.gcd_dvd_right k qG
 have hk:Nat.gcd k qG≤k:=Nat.gcd_le_left _ h1
 have hp:0 < Nat.gcd k qG:=Nat.gcd_pos_of_pos_left _ h1
 generalize Nat.gcd k qG=g at hd hk hp
 obtain ⟨c,hc⟩:=hd
 by_cases hg:g=1
 ·exact hg
 exfalso
 have hq:qG=1073741789:=rfl
 have hc2:2≤c:=by
  rcases Nat.lt_or_ge c 2 with h | h
  ·have:c=0∨c=1:=by omega
   rcases this with rfl | rfl
   ·omega
   ·omega
  ·exact h
 rcases Nat.lt_or_ge g 32769 with hl | hl
 ·exact noDiv_at qG_noDiv (d:=g) (by omega) (by omega) (by rw [hc];exact Nat.mul_mod_right g c)
 ·rcases Nat.lt_or_ge c 32769 with hm | hm
  ·exact noDiv_at qG_noDiv (d:=c) hc2 (by omega) (by rw [hc];exact Nat.mul_mod_left g c)
  ·have:=Nat.mul_le_mul hl hm
   omega
theorem vDq:4 ^ qG % pG=1:=by
 have h:qUx 31 4 qG 1=1:=by kernel_rfl
 rw [powX_eq 31 4 qG 1 (by decide) (by decide),Nat.one_mul] at h
 exact h
theorem qKv {a k:Nat} (h:a ^ k % pG=1) (m:Nat):a ^ (k*m) % pG=1:=by
 rw [Nat.pow_mul,Nat.pow_mod,h,Nat.one_pow];rfl
theorem qRy (a:Nat) (m n:Nat):a ^ m % pG=1→a ^ n % pG=1→a ^ (Nat.gcd m n) % pG=1:=by
 induction m,n using Nat.gcd.induction with
 | H0 n=>intro _ h;simpa using h
 | H1 m n hm ih =>
  intro h1 h2
  rw [Nat.gcd_rec]
  refine ih ?_ h1
  have e:n=m*(n / m)+n % m:=(Nat.div_add_mod n m).symm
  rw [e,Nat.pow_add,Nat.mul_mod,qKv h1,Nat.one_mul,Nat.mod_mod] at h2
  exact h2
theorem vBl {k:Nat} (hk:1≤k∧k < qG):qIt ((4 ^ k % pG:Nat):Int)=true:=by
 have hone:4 ^ k % pG≠1:=fun h=>by
  have:=qRy 4 k qG h vDq
  rw [qG_coprime hk.1 hk.2] at this
  exact absurd this (by decide)
 have hpow:(4 ^ k % pG) ^ qG % pG=1:=by
  rw [← Nat.pow_mod,← Nat.pow_mul,Nat.mul_comm,qKv vDq]
 have hpos:0 < 4 ^ k % pG:=by
  rcases Nat.eq_zero_or_pos (4 ^ k % pG) with h | h
  ·rw [h,Nat.zero_pow (by decide)] at hpow
   exact absurd hpow (by decide)
  ·exact h
 have hlt:4 ^ k % pG < 2147483579:=Nat.mod_lt _ (by decide)
 unfold qIt qHk
 rw [Int.toNat_natCast,powX_eq 30 _ _ _ (by decide) (by decide),Nat.one_mul,hpow]
 generalize 4 ^ k % pG=x at hone hpos hlt
 have h1:(0:Int) < (x:Int):=by omega
 have h2:((x:Nat):Int)≠1:=by omega
 have h3:(x:Int) < 2147483579:=by omega
 rw [decide_eq_true (show (0:Int) < (x:Int)∧(x:Int) < 2147483579 from ⟨h1,h3⟩),decide_eq_true h2]
 rfl
open Go Go.Proofs
theorem wrapu64 {n:Int} (h:0≤n∧n < 18446744073709551616):IntKind.u64.wrap n=n:=by
 simp only [IntKind.wrap,IntKind.signed,IntKind.bits]
 simp
 omega
def blen (k:Nat):Nat:=if k=0 then 0 else k.log2+1
theorem qOc (k:Nat):k < 2 ^ blen k:=by
 unfold blen
 split
 ·rename_i h;subst h;decide
 ·exact Nat.lt_log2_self
theorem qOd {k:Nat} (h:0 < k):1≤blen k∧2 ^ (blen k-1)≤k:=by
 unfold blen
 rw [if_neg (by omega)]
 exact ⟨by omega,by rw [Nat.add_sub_cancel];exact Nat.log2_self_le (by omega)⟩
theorem vFz {k m:Nat} (h1:k < 2 ^ m) (h2:m=0∨2 ^ (m-1)≤k):blen k=m:=by
 rcases Nat.eq_zero_or_pos k with h0 | h0
 ·subst h0
  rcases h2 with h2 | h2
  ·subst h2;rfl
  ·exact absurd h2 (by have:=Nat.two_pow_pos (m-1);omega)
 ·obtain ⟨a1,a2⟩:=qOd h0
  have a3:=qOc k
  rcases h2 with h2 | h2
  ·subst h2;simp at h1;omega
  ·have b1:blen k-1 < m:=(Nat.pow_lt_pow_iff_right (a:=2) (by omega)).1 (Nat.lt_of_le_of_lt a2 h1)
   have b2:m-1 < blen k:=(Nat.pow_lt_pow_iff_right (a:=2) (by omega)).1 (Nat.lt_of_le_of_lt h2 a3)
   rcases Nat.eq_zero_or_pos m with h | h
   ·subst h;simp at h1;omega
   ·omega
theorem qVr {k n:Nat} (h:2 ^ n≤k):blen k=n+blen (k / 2 ^ n):=by
 have hp:0 < k / 2 ^ n:=Nat.div_pos h (Nat.two_pow_pos n)
 obtain ⟨a1,a2⟩:=qOd hp
 have a3:=qOc (k / 2 ^ n)
 refine vFz ?_ (.inr ?_)
 ·rw [Nat.pow_add,Nat.mul_comm];exact (Nat.div_lt_iff_lt_mul (Nat.two_pow_pos n)).1 a3
 ·rw [show n+blen (k / 2 ^ n)-1=(blen (k / 2 ^ n)-1)+n by omega,Nat.pow_add]
  exact (Nat.le_div_iff_mul_le (Nat.two_pow_pos n)).1 a2
theorem qTa {k i:Nat} (h:i < blen k):k / 2 ^ i≠0:=by
 have h0:0 < k:=by
  rcases Nat.eq_zero_or_pos k with h0 | h0
  ·subst h0;simp [blen] at h
  ·exact h0
 have:=(qOd h0).2
 have h3:2 ^ i≤2 ^ (blen k-1):=Nat.pow_le_pow_right (by omega) (by omega)
 have:=Nat.div_pos (Nat.le_trans h3 this) (Nat.two_pow_pos i)
 omega
theorem vGa {k:Nat} (h:k≤qG):blen k≤30:=by
 rcases Nat.eq_zero_or_pos k with h0 | h0
 ·subst h0;simp [blen]
 ·obtain ⟨a1,a2⟩:=qOd h0
  have hq:qG < 2 ^ 30:=by decide
  have:=(Nat.pow_lt_pow_iff_right (a:=2) (by omega)).1 (Nat.lt_of_le_of_lt a2 (Nat.lt_of_le_of_lt h hq))
  omega
set_option maxRecDepth 100000 in
theorem qVq:∀ n,n < 256→blen n=if n=0 then 0 else if n=1 then 1 else if n < 4 then 2 else if n < 8 then 3 else if n < 16 then 4 else if n < 32 then 5 else if n < 64 then 6 else if n < 128 then 7 else 8:=by
 have h:∀ n,n∈List.range 256→blen n=if n=0 then 0 else if n=1 then 1 else if n < 4 then 2 else if n < 8 then 3 else if n < 16 then 4 else if n < 32 then 5 else if n < 64 then 6 else if n < 128 then 7 else 8:=by decide
 exact fun n hn=>h n (List.mem_range.2 hn)
def qYx:List UInt8:=(List.range 256).map fun n=>UInt8.ofNat (if n=0 then 0 else if n=1 then 1 else if n < 4 then 2 else if n < 8 then 3 else if n < 16 then 4 else if n < 32 then 5 else if n < 64 then 6 else if n < 128 then 7 else 8)
set_option maxRecDepth 100000 in
theorem lenTab_at {n:Nat} (h:n < 256):qFp qYx (n:Int)=((blen n:Nat):Int):=by
 have hc:∀ n,n∈List.range 256→qFp qYx ((n:Nat):Int)=((if n=0 then 0 else if n=1 then 1 else if n < 4 then 2 else if n < 8 then 3 else if n < 16 then 4 else if n < 32 then 5 else if n < 64 then 6 else if n < 128 then 7 else 8:Nat):Int):=by decide
 rw [hc n (List.mem_range.2 h),qVq n h]
theorem qTw (k:Nat) (hk:k < 4294967296):Spec Tryz.prog 153 [.d (.int .u64 (k:Int))] [] (fun r h'=>r=.I (blen k:Int)∧h'=[]):=by
 refine qAb hT Tryz.func153 rfl rfl rfl rfl ?_;intro E hE
 refine ww ?_
 refine qAa rfl (fun h1=>?_) (fun h1=>?_)
 ·exact absurd h1 (by simp;omega)
 refine qDq ?_
 refine qEs (ι:=Nat×Nat) (fun y=>[(0,.d (.int .u64 (y.1:Int))),(2,.I (y.2:Int))]) (fun _=>[]) (fun y=>y.1 < 65536∧y.2+blen y.1=blen k∧y.2≤16) ?_ ?_
 ·refine ww ?_
  refine qAa rfl (fun h2=>?_) (fun h2=>?_)
  ·have h2':65536≤k:=by simp at h2;omega
   have hb:=qVr (k:=k) (n:=16) h2'
   have hs:Int.fdiv (k:Int) (2 ^ (min (16:Int).toNat IntKind.u64.bits))=((k / 2 ^ 16:Nat):Int):=qDm k 16
   refine ww ?_
   exact ⟨(k / 2 ^ 16,16),⟨by simp only;omega,hb.symm,by omega⟩,⟨.int hs,.refl _,trivial⟩,HLe.refl _⟩
  ·have h2':k < 65536:=by simp at h2;omega
   refine ww ?_
   exact ⟨(k,0),⟨h2',Nat.zero_add _,by omega⟩,yf,HLe.refl _⟩
 rintro ⟨y,n⟩ ⟨hy,hn,hn2⟩
 simp only at hy hn hn2 ⊢
 refine qEs (ι:=Nat×Nat) (fun y=>[(0,.d (.int .u64 (y.1:Int))),(2,.I (y.2:Int))]) (fun _=>[]) (fun y=>y.1 < 256∧y.2+blen y.1=blen k∧y.2≤24) ?_ ?_
 ·refine ww ?_
  refine qAa rfl (fun h2=>?_) (fun h2=>?_)
  ·have h2':256≤y:=by simp at h2;omega
   have hb:=qVr (k:=y) (n:=8) h2'
   have hs:Int.fdiv (y:Int) (2 ^ (min (8:Int).toNat IntKind.u64.bits))=((y / 2 ^ 8:Nat):Int):=qDm y 8
   refine ww ?_
   exact ⟨(y / 2 ^ 8,n+8),⟨by simp only;omega,by simp only;omega,by simp only;omega⟩,⟨.int hs,.int (by rw [qAf (by omega)];omega),trivial⟩,HLe.refl _⟩
  ·have h2':y < 256:=by simp at h2;omega
   refine ww ?_
   exact ⟨(y,n),⟨h2',hn,by simp only;omega⟩,yf,HLe.refl _⟩
 rintro ⟨z,m⟩ ⟨hz,hm,hm2⟩
 simp only at hz hm hm2 ⊢
 have hw:IntKind.u8.wrap (z:Int)=(z:Int):=wrapu8 (by omega)
 have hat:=lenTab_at hz
 have hbz:blen z≤8:=by rw [qVq z hz];repeat (first | omega | split)
 refine ww ?_
 refine rq ⟨rfl,rfl⟩ rfl (AV.le.int ?_)
 show IntKind.i64.wrap ((m:Int)+IntKind.i64.wrap (qFp qYx (IntKind.u8.wrap (z:Int))))=_
 rw [hw,hat,qAf (n:=((blen z:Nat):Int)) (by omega),qAf (by omega)]
 omega
theorem vAh (k:Nat) (hk:k < 4294967296):Spec Tryz.prog 443 [.d (.int .u64 (k:Int))] [] (fun r h'=>r=.I (blen k:Int)∧h'=[]):=by
 refine qAb hT Tryz.func443 rfl rfl rfl rfl ?_;intro E hE
 refine ww ?_
 refine qAa rfl (fun h1=>?_) (fun h1=>?_)
 ·exact absurd h1 (by decide)
 refine ww ?_
 refine wwc (qTw k hk) ?_
 refine ww ?_
 exact wwr
theorem powerK_spec (x k:Nat) (hx:x < pG) (hk:k≤qG):Spec Tryz.prog 326 [.I (x:Int),.I (k:Int)] [] (fun r h'=>r=.I ((x ^ k % pG:Nat):Int)∧h'=[]):=by
 have hq:qG=1073741789:=rfl
 have hlen:Spec Tryz.prog 443 [.d (.int .u64 (IntKind.u64.wrap (k:Int)))] [] (fun r h'=>r=.I (blen k:Int)∧h'=[]):=by
  rw [wrapu64 (by omega)];exact vAh k (by omega)
 have hfin:=powX_eq (blen k) x k 1 (qOc k) (by decide)
 rw [Nat.one_mul] at hfin
 have hb30:=vGa hk
 have hbz:k / 2 ^ blen k=0:=Nat.div_eq_of_lt (qOc k)
 have hne:∀ i,i < blen k→k / 2 ^ i≠0:=fun i h=>qTa h
 generalize x ^ k % pG=fin at hfin
 generalize blen k=bl at hlen hfin hb30 hbz hne
 refine qAb hT Tryz.func326 rfl rfl rfl rfl ?_;intro E hE
 refine ww ?_
 refine wwc hlen ?_
 refine ww ?_
 refine qAm (ι:=Nat×Nat×Nat) (fun y=>[(0,.I (y.2.1:Int)),(1,.I (k:Int)),(5,.I (y.2.2:Int)),(9,.I (bl:Int)),(10,.I (y.1:Int))]) (fun _=>[])
  (fun y=>y.1≤bl∧y.2.1 < pG∧y.2.2 < pG∧qUx (bl-y.1) y.2.1 (k / 2 ^ y.1) y.2.2=fin) (fun y=>bl-y.1) (0,x,1) ⟨by omega,hx,show 1 < pG by decide,by simpa using hfin⟩ yf (HLe.refl _) ?_
 rintro ⟨i,x,out⟩ ⟨hi,hx,ho,hg⟩
 simp only at hi hx ho hg ⊢
 refine ww ?_
 refine qAa rfl (fun h1=>?_) (fun h1=>?_)
 ·have h1':i < bl:=by simp at h1;omega
  have hq:=hne i h1'
  have hq2:k / 2 ^ i < 9223372036854775808:=Nat.lt_of_le_of_lt (Nat.div_le_self _ _) (by omega)
  obtain ⟨m,hm⟩:∃ m,bl-i=m+1:=⟨bl-i-1,by omega⟩
  rw [hm,qUx,if_neg hq,Nat.div_div_eq_div_mul,← Nat.pow_succ] at hg
  have hm':m=bl-(i+1):=by omega
  subst hm'
  have hsh:Int.fdiv (k:Int) (2 ^ (min ((i:Int)).toNat IntKind.i64.bits))=((k / 2 ^ i:Nat):Int):=by
   rw [show min ((i:Int)).toNat IntKind.i64.bits=i by simp [IntKind.bits];omega]
   exact qDm k i
  have hand:IntKind.i64.wrap ((BitVec.ofInt IntKind.i64.bits (Int.fdiv (k:Int) (2 ^ (min ((i:Int)).toNat IntKind.i64.bits))) &&& BitVec.ofInt IntKind.i64.bits 1).toNat:Int)=((k / 2 ^ i % 2:Nat):Int):=by
   rw [hsh]
   have:=qTb (a:=k / 2 ^ i) (b:=1) hq2 (by omega)
   rw [Nat.and_one_is_mod] at this
   exact this
  have hxx:=mulP_lt hx hx
  have hox:=mulP_lt ho hx
  have hm1:IntKind.i64.wrap ((x:Int)*(x:Int))=((x*x:Nat):Int):=by rw [← Int.natCast_mul];exact qAf (by omega)
  have hm2:IntKind.i64.wrap ((out:Int)*(x:Int))=((out*x:Nat):Int):=by rw [← Int.natCast_mul];exact qAf (by omega)
  have ht1:Int.tmod (IntKind.i64.wrap ((x:Int)*(x:Int))) 2147483579=((x*x % pG:Nat):Int):=by rw [hm1];rfl
  have ht2:Int.tmod (IntKind.i64.wrap ((out:Int)*(x:Int))) 2147483579=((out*x % pG:Nat):Int):=by rw [hm2];rfl
  have hwi:IntKind.i64.wrap ((i:Int)+1)=((i+1:Nat):Int):=by rw [qAf (by omega)];omega
  have hl1:x*x % pG < pG:=Nat.mod_lt _ (by decide)
  have hl2:out*x % pG < pG:=Nat.mod_lt _ (by decide)
  generalize k / 2 ^ i % 2=bt at hand hg
  refine ww ?_
  refine qAa rfl (fun h2=>?_) (fun h2=>?_)
  ·have h2':bt=1:=by rw [hand] at h2;simp at h2;omega
   rw [if_pos h2'] at hg
   refine ww ?_
   exact ⟨(i+1,x*x % pG,out*x % pG),⟨h1',hl1,hl2,hg⟩,by simp only;omega,⟨.int ht1,.refl _,.int ht2,.refl _,.int hwi,trivial⟩,HLe.refl _⟩
  ·have h2':¬ bt=1:=by rw [hand] at h2;simp at h2;omega
   rw [if_neg h2'] at hg
   refine ww ?_
   exact ⟨(i+1,x*x % pG,out),⟨h1',hl1,ho,hg⟩,by simp only;omega,⟨.int ht1,.refl _,.refl _,.refl _,.int hwi,trivial⟩,HLe.refl _⟩
 ·have h1':i=bl:=by simp at h1;omega
  subst h1'
  have hg':out=fin:=by rw [← hg,Nat.sub_self];rfl
  subst hg'
  refine ww ?_
  exact wwr
end Tdoc
namespace Tdoc
open Go
def nbV (v:List UInt8):Nat:=v.foldl (fun n c=>256*n+c.toNat) 0
def qMk (seed:List UInt8) (n:Nat):List UInt8:=(((List.range ((n+31) / 32)).map fun i=>qOt (seed++1::qBi 4 i)).flatten).take n
def qDk (seed:List UInt8):List UInt8:=qOt (seed++[0])
def qMc (seed:List UInt8):Nat:=1+nbV ((qMk seed 8).take 7) % (qG-1)
theorem secS_range (seed:List UInt8):1≤qMc seed∧qMc seed < qG:=by
 have h:nbV ((qMk seed 8).take 7) % (qG-1) < qG-1:=Nat.mod_lt _ (by decide)
 have hq:qG=1073741789:=rfl
 unfold qMc
 omega
def qRk (n:Nat) (msg:List UInt8) (m:Nat):Nat:=nbV ((qOt (qBi 4 n++msg)).take 7) % m
def qRx (k:Nat):Nat:=4 ^ k % pG
def qKo (k:Nat) (msg:List UInt8):Nat×Nat :=
 (qRk (qRx (1+qRk k msg (qG-1))) msg qG,(1+qRk k msg (qG-1)+qRk (qRx (1+qRk k msg (qG-1))) msg qG*k) % qG)
theorem numS_lt (n:Nat) (msg:List UInt8) {m:Nat} (h:0 < m):qRk n msg m < m:=Nat.mod_lt _ h
theorem pubS_elem {k:Nat} (h:1≤k∧k < qG):qIt ((qRx k:Nat):Int)=true:=vBl h
theorem pubS_lt (k:Nat):qRx k < pG:=Nat.mod_lt _ (by decide)
structure Nal where
 sta:List UInt8
 kind:Int
 num:Int
 iss:Int
 own:Int
 key:Int
 frm:Int
 unt:Int
 til:Int
 sE:Int
 sS:Int
def qSs (c:Nal):List Dat:=[.str c.sta,.int .i64 c.kind,.int .i64 c.num,.int .i64 c.iss,.int .i64 c.own,.int .i64 c.key,.int .i64 c.frm,.int .i64 c.unt,.int .i64 c.til,.int .i64 c.sE,.int .i64 c.sS]
def qBg (l:List Nal):List (List Dat):=l.map qSs
def qDn (c:Nal):List AV:=[.d (.str c.sta),.d (.int .i64 c.kind),.d (.int .i64 c.num),.d (.int .i64 c.iss),.d (.int .i64 c.own),.d (.int .i64 c.key),.d (.int .i64 c.frm),.d (.int .i64 c.unt),.d (.int .i64 c.til),.d (.int .i64 c.sE),.d (.int .i64 c.sS)]
def vBt (c:Nal):AV:=.agg (qDn c)
def nl0:Nal:=⟨[],0,0,0,0,0,0,0,0,0,0⟩
def qDi (s:List UInt8):Bool:=decide (1≤s.length∧s.length≤3)&&s.all qZe
def qDx (n:Int):Bool:=decide (1≤n∧n≤1073741824)
def qFd (c:Nal):Int :=
 if qDi c.sta=false then 60
 else if c.kind < 1∨c.kind > 4 then 61
 else if qDx c.num=false∨qDx c.iss=false∨qDx c.own=false∨(decide (c.iss=c.own)≠decide (c.kind=1)) then 3
 else if qIt c.key=false then 10
 else if c.frm < 0∨c.frm > c.unt∨c.unt > c.til∨c.til > 73048 then 8 else 0
def qBq (c:Nal):Node:=.mk 48 [] [.mk 19 c.sta [],.mk 129 [UInt8.ofNat c.kind.toNat] [],.mk 130 (qBi 4 c.num.toNat) [],.mk 131 (qBi 4 c.iss.toNat) [],.mk 132 (qBi 4 c.own.toNat) [],.mk 133 (qBi 4 c.key.toNat) [],
 .mk 134 (qBi 3 c.frm.toNat++qBi 3 c.unt.toNat++qBi 3 c.til.toNat) []]
def qSz (c:Nal):List UInt8×Int:=if qFd c≠0 then ([],qFd c) else (wrL [qBq c],0)
def qCt (k:Nat) (c:Nal):Nal:={ c with sE:=((qKo k (wrL [qBq c])).1:Nat),sS:=((qKo k (wrL [qBq c])).2:Nat) }
structure Dfc where
 kind:Int
 param:Int
 signer:Int
 first:List UInt8
 last:List UInt8
def vJb (x:Dfc):List Dat:=[.int .i64 x.kind,.int .i64 x.param,.int .i64 x.signer,.str x.first,.str x.last]
def qQc (l:List Dfc):List (List Dat):=l.map vJb
structure Aut where
 sta:List UInt8
 roots:List Nal
 links:List Nal
 secs:List Nat
 signer:Nal
 lister:Nal
 sk:Nat
 lk:Nat
 next:Nat
 list:Int
 rev:List Int
 defs:List Dfc
 seed:List UInt8
def aut0:Aut:=⟨[],[],[],[],nl0,nl0,0,0,0,0,[],[],[]⟩
def encNs' (l:List Nat):List (List Dat):=l.map fun (n:Nat)=>[Dat.int .i64 (n:Int)]
def vGd (a:Aut) (rc lc sc:AV):List AV:=[.d (.str a.sta),rc,lc,sc]++qDn a.signer++qDn a.lister++[.d (.int .i64 (a.sk:Int)),.d (.int .i64 (a.lk:Int)),.d (.int .i64 (a.next:Int)),.d (.int .i64 a.list),.d (.sl 1 (a.rev.map fun n=>[.int .i64 n])),.d (.sl 5 (qQc a.defs)),.d (.sl 1 (qAx a.seed))]
def qCc (a:Aut):List AV:=vGd a (.d (.sl 11 (qBg a.roots))) (.d (.sl 11 (qBg a.links))) (.d (.sl 1 (encNs' a.secs)))
def qOe (a:Aut):AV:=.agg (qCc a)
def qFs (day n:Int):Int:=min (day+n) 73048
def qIc (a:Aut) (kind:Int) (issuer own k:Nat) (day u t:Int):Nal:=⟨a.sta,kind,a.next,issuer,own,qRx k,day,qFs day u,qFs day t,0,0⟩
def qHg (a:Aut) (day:Int):Aut :=
 let n:=a.secs.length
 let old:=a.secs.getD (n-1) 0
 let k:=qMc a.seed
 let s:=qCt old (qIc a 3 n (1000+a.next) k day 90 3740)
 let seed1:=qDk a.seed
 let a1:Aut:={ a with signer:=s,sk:=k,next:=a.next+1,seed:=seed1 }
 let k2:=qMc seed1
 let l:=qCt old (qIc a1 4 n (1000+a1.next) k2 day 365 730)
 { a1 with lister:=l,lk:=k2,next:=a1.next+1,seed:=qDk seed1 }
def qKq (a:Aut) (day:Int):Aut :=
 let k:=qMc a.seed
 let n:=a.secs.length+1
 { a with secs:=a.secs++[k],seed:=qDk a.seed,roots:=a.roots++[qCt k (qIc a 1 n n k day 1825 5475)],next:=a.next+1 }
def qQk (sta seed:List UInt8) (day:Int):Aut:=qHg (qKq ⟨sta,[],[],[],nl0,nl0,0,0,1,1,[],[],seed⟩ day) day
def qQl (sta seed:List UInt8) (day:Int):Aut×Int :=
 if qDi sta=false then (aut0,60) else if day < 0∨73048 < day then (aut0,8) else (qQk sta seed day,0)
theorem certF_chk {a:Aut} (ha:qDi a.sta=true) (hn:1≤a.next∧a.next≤1000000) {kind:Int} {issuer own k:Nat} {day u t:Int} (hk:1≤kind∧kind≤4) (hi:1≤issuer∧issuer≤1000000000) (ho:1≤own∧own≤1000000000)
  (hd:issuer=own↔kind=1) (hs:1≤k∧k < qG) (hday:0≤day∧day≤73048) (hu:0≤u∧u≤t):qFd (qIc a kind issuer own k day u t)=0:=by
 have he:=pubS_elem hs
 unfold qFd qIc
 simp only
 rw [if_neg (by simp [ha]),if_neg (by omega),if_neg ?_,if_neg (by simp [he]),if_neg (by unfold qFs;omega)]
 have h1:qDx ((a.next:Nat):Int)=true:=by unfold qDx;exact decide_eq_true (by omega)
 have h2:qDx ((issuer:Nat):Int)=true:=by unfold qDx;exact decide_eq_true (by omega)
 have h3:qDx ((own:Nat):Int)=true:=by unfold qDx;exact decide_eq_true (by omega)
 have h4:decide (((issuer:Nat):Int)=((own:Nat):Int))=decide (kind=1):=by
  by_cases hq:kind=1
  ·rw [decide_eq_true hq,decide_eq_true (by have:=hd.2 hq;omega)]
  ·rw [decide_eq_false hq,decide_eq_false (fun h=>hq (hd.1 (by omega)))]
 simp [h1,h2,h3,h4]
theorem vCk {d:Nat} {t:Int} {v:List UInt8} (h1:qIj t=true) (h2:qDw t=false) (hd:d≤8):(qMl d (.mk t v []) 0).1=0:=by
 rw [qMl,if_neg (by simp [h1]),if_neg (by simp [h2]),if_neg (by omega)];rfl
theorem vCl {d:Nat} {t:Int} {k:List Node} (h1:qIj t=true) (h2:qDw t=true) (hd:d≤8) (hk:∀ n,n∈k→(qMl (d+1) n 0).1=0):(qMl d (.mk t [] k) 0).1=0:=by
 rw [qMl,if_neg (by simp [h1]),if_neg (by simp [h2]),if_neg (by omega)];exact chkL_of hk
theorem vCp (c:Nal):(qIu 1 [qBq c] 0).1=0:=by
 refine chkL_of fun m hm=>?_
 rw [List.mem_singleton.1 hm]
 unfold qBq
 refine vCl (by decide) (by decide) (by omega) fun n hn=>?_
 simp only [List.mem_cons,List.not_mem_nil,or_false] at hn
 rcases hn with rfl | rfl | rfl | rfl | rfl | rfl | rfl <;> exact vCk (by decide) (by decide) (by omega)
theorem qOb (c:Nal) (h:c.sta.length≤3):(wrL [qBq c]).length≤200:=by
 have h0:(wrL ([]:List Node)).length=0:=rfl
 have b1:=wrL_cons_length 19 c.sta [] [.mk 129 [UInt8.ofNat c.kind.toNat] [],.mk 130 (qBi 4 c.num.toNat) [],.mk 131 (qBi 4 c.iss.toNat) [],.mk 132 (qBi 4 c.own.toNat) [],.mk 133 (qBi 4 c.key.toNat) [],.mk 134 (qBi 3 c.frm.toNat++qBi 3 c.unt.toNat++qBi 3 c.til.toNat) []]
 have b2:=wrL_cons_length 129 [UInt8.ofNat c.kind.toNat] [] [.mk 130 (qBi 4 c.num.toNat) [],.mk 131 (qBi 4 c.iss.toNat) [],.mk 132 (qBi 4 c.own.toNat) [],.mk 133 (qBi 4 c.key.toNat) [],.mk 134 (qBi 3 c.frm.toNat++qBi 3 c.unt.toNat++qBi 3 c.til.toNat) []]
 have b3:=wrL_cons_length 130 (qBi 4 c.num.toNat) [] [.mk 131 (qBi 4 c.iss.toNat) [],.mk 132 (qBi 4 c.own.toNat) [],.mk 133 (qBi 4 c.key.toNat) [],.mk 134 (qBi 3 c.frm.toNat++qBi 3 c.unt.toNat++qBi 3 c.til.toNat) []]
 have b4:=wrL_cons_length 131 (qBi 4 c.iss.toNat) [] [.mk 132 (qBi 4 c.own.toNat) [],.mk 133 (qBi 4 c.key.toNat) [],.mk 134 (qBi 3 c.frm.toNat++qBi 3 c.unt.toNat++qBi 3 c.til.toNat) []]
 have b5:=wrL_cons_length 132 (qBi 4 c.own.toNat) [] [.mk 133 (qBi 4 c.key.toNat) [],.mk 134 (qBi 3 c.frm.toNat++qBi 3 c.unt.toNat++qBi 3 c.til.toNat) []]
 have b6:=wrL_cons_length 133 (qBi 4 c.key.toNat) [] [.mk 134 (qBi 3 c.frm.toNat++qBi 3 c.unt.toNat++qBi 3 c.til.toNat) []]
 have b7:=wrL_cons_length 134 (qBi 3 c.frm.toNat++qBi 3 c.unt.toNat++qBi 3 c.til.toNat) [] []
 have b8:=wrL_cons_length 48 [] [.mk 19 c.sta [],.mk 129 [UInt8.ofNat c.kind.toNat] [],.mk 130 (qBi 4 c.num.toNat) [],.mk 131 (qBi 4 c.iss.toNat) [],.mk 132 (qBi 4 c.own.toNat) [],.mk 133 (qBi 4 c.key.toNat) [],.mk 134 (qBi 3 c.frm.toNat++qBi 3 c.unt.toNat++qBi 3 c.til.toNat) []] []
 unfold qBq
 simp only [List.length_append,List.length_cons,List.length_nil,octB_length] at b1 b2 b3 b4 b5 b6 b7 b8
 omega
theorem vCo (c:Nal) (h:c.sta.length≤3):qLh [qBq c]=(wrL [qBq c],0):=by
 have hc:=vCp c
 have hl:=qOb c h
 have hcnt:=(chkL_count 1 [qBq c] 0).1
 have hs:qCz [qBq c]≤20:=by simp [qBq,qCz,qKn]
 unfold qLh
 rw [if_neg (by rw [hc];simp),if_neg (by omega),if_neg (by omega)]
structure AutOk (a:Aut):Prop where
 sta:qDi a.sta=true
 next:1≤a.next∧a.next≤100
 secs:∀ k,k∈a.secs→1≤k∧k < qG
 seed:a.seed.length≤1000
theorem AutOk.last {a:Aut} (h:AutOk a) (hn:1≤a.secs.length):1≤a.secs.getD (a.secs.length-1) 0∧a.secs.getD (a.secs.length-1) 0 < qG:=by
 have:a.secs.getD (a.secs.length-1) 0=a.secs[a.secs.length-1]'(by omega):=by simp [show a.secs.length-1 < a.secs.length by omega]
 rw [this]
 exact h.secs _ (List.getElem_mem _)
theorem rootF_ok {a:Aut} (h:AutOk a) (hn:a.next≤99) (day:Int):AutOk (qKq a day)∧(qKq a day).secs.length=a.secs.length+1∧(qKq a day).next=a.next+1:=by
 refine ⟨⟨h.sta,?_,?_,?_⟩,by simp [qKq],rfl⟩
 ·have:=h.next;show 1≤a.next+1∧a.next+1≤100;omega
 ·intro k hk
  have hk:k∈a.secs++[qMc a.seed]:=hk
  rcases List.mem_append.1 hk with hk | hk
  ·exact h.secs k hk
  ·rw [List.mem_singleton.1 hk];exact secS_range _
 ·show (qOt (a.seed++[0])).length≤1000
  rw [sumW_length];omega
def qQd (l:List (List UInt8)):List (List Dat):=l.map fun b=>[.sl 1 (qAx b)]
theorem encBs_length (l:List (List UInt8)):(qQd l).length=l.length:=by simp [qQd]
theorem encBs_at {l:List (List UInt8)} {i:Nat} (h:i < l.length):(qQd l)[i]?=some [.sl 1 (qAx (l.getD i []))]:=by
 unfold qQd
 rw [List.getElem?_map,List.getElem?_eq_getElem h]
 simp [h]
def qJu (l:List (List UInt8)) (i:Nat):List UInt8:=(l.take i).flatten
theorem flatN_succ {l:List (List UInt8)} {i:Nat} (h:i < l.length):qJu l (i+1)=qJu l i++l.getD i []:=by
 unfold qJu
 rw [List.take_add_one,List.flatten_append,List.getElem?_eq_getElem h]
 simp [h]
theorem flatN_all (l:List (List UInt8)):qJu l l.length=l.flatten:=by unfold qJu;rw [List.take_length]
theorem flatN_le (l:List (List UInt8)):∀ (i:Nat),i≤l.length→(qJu l i).length≤l.flatten.length:=by
 intro i hi
 have h:l.flatten=qJu l i++(l.drop i).flatten:=by unfold qJu;rw [← List.flatten_append,List.take_append_drop]
 rw [h,List.length_append];omega
def qLi (seed:List UInt8) (i:Nat):List UInt8:=((List.range i).map fun i=>qOt (seed++1::qBi 4 i)).flatten
theorem drawN_succ (seed:List UInt8) (i:Nat):qLi seed (i+1)=qLi seed i++qOt (seed++1::qBi 4 i):=by
 unfold qLi
 rw [List.range_succ,List.map_append,List.flatten_append]
 simp
theorem drawN_length (seed:List UInt8):∀ i,(qLi seed i).length=32*i
 | 0=>rfl
 | i+1=>by rw [drawN_succ,List.length_append,drawN_length seed i,sumW_length];omega
theorem drawS_eq (seed:List UInt8) (n i:Nat) (h1:n≤32*i) (h2:32*i < n+32):qMk seed n=(qLi seed i).take n:=by
 have:(n+31) / 32=i:=by omega
 unfold qMk
 rw [this];rfl
theorem drawS_length (seed:List UInt8) (n:Nat):(qMk seed n).length=n:=by
 rw [drawS_eq seed n ((n+31) / 32) (by omega) (by omega),List.length_take,drawN_length];omega
theorem secS_eq (seed:List UInt8):qMc seed=1+nbV ((qMk seed 8).take 7) % (qG-1):=rfl
open Go Go.Proofs
theorem wshl (x:BitVec 32) (m:Int):IntKind.u32.wrap (wI x*2 ^ (min m.toNat IntKind.u32.bits))=wI (x <<< (min m.toNat 32)):=wI_shl x _
theorem wshr (x:BitVec 32) (m:Int):Int.fdiv (wI x) (2 ^ (min m.toNat IntKind.u32.bits))=wI (x >>> (min m.toNat 32)):=wI_shr x _
theorem vEe {n:Nat} (h:1≤n∧n≤31):IntKind.u64.wrap ((BitVec.ofInt IntKind.u64.bits (IntKind.u64.wrap (-(n:Int))) &&& BitVec.ofInt IntKind.u64.bits 31).toNat:Int)=((32-n:Nat):Int):=by
 have hc:∀ n,n∈List.range 32→1≤n→IntKind.u64.wrap ((BitVec.ofInt IntKind.u64.bits (IntKind.u64.wrap (-((n:Nat):Int))) &&& BitVec.ofInt IntKind.u64.bits 31).toNat:Int)=((32-n:Nat):Int):=by decide
 exact hc n (List.mem_range.2 (by omega)) h.1
theorem vAc (x:BitVec 32) (n:Nat) (h:1≤n∧n≤31):Spec Tryz.prog 529 [uV x,.I (-(n:Int))] [] (fun r h'=>r=uV (qHj x n)∧h'=[]):=by
 have hr:=vEe h
 refine qAb hT Tryz.func529 rfl rfl rfl rfl ?_;intro E hE
 refine qAg (qAd ?_)
 refine wws ?_
 refine qAg (qAd ?_)
 refine wws ?_
 refine qAk (l:=[(0,uV x),(5,.d (.int .u64 ((32-n:Nat):Int)))]) (h':=[]) ⟨.refl _,.int hr,trivial⟩ (HLe.refl _) ?_
 have h2:IntKind.u64.wrap (32-((32-n:Nat):Int))=(n:Int):=by rw [wrapu64 (by omega)];omega
 have h3:IntKind.u32.wrap (wI x*2 ^ (min (((32-n:Nat):Int)).toNat IntKind.u32.bits))=wI (x <<< (32-n)):=by
  rw [wshl,Int.toNat_natCast,show min (32-n) 32=32-n by omega]
 have h4:Int.fdiv (wI x) (2 ^ (min (IntKind.u64.wrap (32-((32-n:Nat):Int))).toNat IntKind.u32.bits))=wI (x >>> n):=by
  rw [h2,wshr,Int.toNat_natCast,show min n 32=n by omega]
 refine ww ?_
 refine rq ⟨rfl,rfl⟩ rfl (AV.le.int ?_)
 show IntKind.u32.wrap ((BitVec.ofInt IntKind.u32.bits (IntKind.u32.wrap (wI x*2 ^ (min (((32-n:Nat):Int)).toNat IntKind.u32.bits))) ||| BitVec.ofInt IntKind.u32.bits (Int.fdiv (wI x) (2 ^ (min (IntKind.u64.wrap (32-((32-n:Nat):Int))).toNat IntKind.u32.bits)))).toNat:Int)=_
 rw [h3,h4,wI_or,rotW_comm]
def qRu (x:BitVec 32) (l:List Nat):BitVec 32:=l.foldl (fun a n=>a ^^^ qHj x n) 0
theorem rotsW_take (x:BitVec 32) (l:List Nat) {i:Nat} (h:i < l.length):qRu x (l.take (i+1))=qRu x (l.take i) ^^^ qHj x (l.getD i 0):=by
 unfold qRu
 rw [List.take_add_one,List.foldl_append,List.getElem?_eq_getElem h]
 simp [h]
theorem encNs'_at {l:List Nat} {i:Nat} (h:i < l.length):(encNs' l)[i]?=some [.int .i64 ((l.getD i 0:Nat):Int)]:=by
 unfold encNs'
 rw [List.getElem?_map,List.getElem?_eq_getElem h]
 simp [h]
theorem qUs (x:BitVec 32) (l:List Nat) (hl:l.length≤10) (hn:∀ n,n∈l→1≤n∧n≤31):Spec Tryz.prog 528 [uV x,.d (.sl 1 (encNs' l))] [] (fun r h'=>r=uV (qRu x l)∧h'=[]):=by
 have hlen:(encNs' l).length=l.length:=by simp [encNs']
 refine qAb hT Tryz.func528 rfl rfl rfl rfl ?_;intro E hE
 refine ww ?_
 refine qAm (ι:=Nat) (fun i=>[(0,uV x),(5,uV (qRu x (l.take i))),(8,.d (.sl 1 (encNs' l))),(9,.I (l.length:Int)),(10,.I (i:Int))]) (fun _=>[])
  (fun i=>i≤l.length) (fun i=>l.length-i) 0 (Nat.zero_le _) ⟨.refl _,.refl _,.refl _,.int (by rw [hlen]),.refl _,trivial⟩ (HLe.refl _) ?_
 intro i hi
 refine ww ?_
 refine qAa rfl (fun h1=>?_) (fun h1=>?_)
 ·have h1':i < l.length:=by simp at h1;omega
  have hat:=encNs'_at h1'
  have hni:1≤l.getD i 0∧l.getD i 0≤31:=by
   rw [List.getD_eq_getElem?_getD,List.getElem?_eq_getElem h1'];exact hn _ (List.getElem_mem h1')
  have hstep:=rotsW_take x l h1'
  refine ww ?_
  refine wwi hat ?_
  refine ww ?_
  refine wwc (vAc x (l.getD i 0) hni) ?_
  refine ww ?_
  exact ⟨i+1,h1',by omega,⟨.refl _,.int (by rw [hstep];exact wI_xor _ _),.refl _,.refl _,.int (by rw [qAf (by omega)];omega),trivial⟩,HLe.refl _⟩
 ·have h1':i=l.length:=by simp at h1;omega
  subst h1'
  rw [List.take_length]
  refine ww ?_
  exact wwr
theorem encB_getD {b:List UInt8} {i:Nat} (h:i < b.length):(qAx b)[i]?=some [.int .u8 ((b.getD i 0).toNat:Int)]:=encB_byte h
theorem qXu (b:List UInt8) (h:4≤b.length):Spec Tryz.prog 530 [.d (.sl 1 (qAx b))] [] (fun r h'=>r=uV (qRm b 0)∧h'=[]):=by
 have h0:=encB_getD (b:=b) (i:=0) (by omega)
 have h1:=encB_getD (b:=b) (i:=1) (by omega)
 have h2:=encB_getD (b:=b) (i:=2) (by omega)
 have h3:=encB_getD (b:=b) (i:=3) (by omega)
 refine qAb hT Tryz.func530 rfl rfl rfl rfl ?_;intro E hE
 refine ww ?_
 refine wwi h0 ?_
 refine ww ?_
 refine wwi h1 ?_
 refine ww ?_
 refine wwi h2 ?_
 refine ww ?_
 refine wwi h3 ?_
 refine ww ?_
 refine rq ⟨rfl,rfl⟩ rfl (AV.le.int ?_)
 simp only [wI_byte,wshl,wI_or]
 rfl
theorem qWd:Spec Tryz.prog 431 [] [] (fun r h'=>r=.d (.sl 1 (qMf qUn))∧h'=[]):=by
 refine qAb hT Tryz.func431 rfl rfl rfl rfl ?_;intro E hE
 refine ww ?_
 refine rq ⟨rfl,rfl⟩ rfl ?_
 exact AV.le.dat' rfl
theorem bytesOf_spec (x:BitVec 32):Spec Tryz.prog 435 [uV x] [] (fun r h'=>r=.d (.sl 1 (qAx (qEa x)))∧h'=[]):=by
 refine qAb hT Tryz.func435 rfl rfl rfl rfl ?_;intro E hE
 refine ww ?_
 refine rq ⟨rfl,rfl⟩ rfl (AV.le.dat' ?_)
 simp only [wshr,bW_wrap]
 rfl
theorem qRe (es:List (List Dat)) (hl:es.length≤1000000):Spec Tryz.prog 127 [.d (.sl 1 es)] [.room] (fun r h'=>r=.sl 1 es (.right 0)∧h'=[.right 1 es.length]):=by
 refine qAb hT Tryz.func127 rfl rfl rfl rfl ?_;intro E hE
 refine ww ?_
 refine qDp (eqNil_ok hT (fun _=>rfl) rfl rfl rfl) rfl ?_
 rintro v h' ⟨rfl,b,rfl,hb⟩
 refine ww ?_
 refine qAa rfl (fun h1=>?_) (fun h1=>?_)
 ·obtain rfl:=hb h1
  refine qAg (qAd ?_)
  refine wws ?_
  refine qBj 2 1 0 (es:=[]) (.inr ⟨rfl,rfl⟩) rfl ?_
  refine ww ?_
  exact wwr
 ·refine ww ?_
  refine qAe (qFw (i:=0) hT rfl rfl rfl (.inl rfl) (by simp) rfl rfl (by show es.length*(1+1)≤140737488355328;omega)) rfl ?_
  refine ww ?_
  exact wwr
theorem qJo (es:List (List Dat)) (hl:es.length≤1000000):Spec Tryz.prog 127 [.d (.sl 1 es)] [] (fun r h'=>r=.d (.sl 1 es)∧h'=[]):=by
 refine qAb hT Tryz.func127 rfl rfl rfl rfl ?_;intro E hE
 refine ww ?_
 refine qDp (eqNil_ok hT (fun _=>rfl) rfl rfl rfl) rfl ?_
 rintro v h' ⟨rfl,b,rfl,hb⟩
 refine ww ?_
 refine qAa rfl (fun h1=>?_) (fun h1=>?_)
 ·obtain rfl:=hb h1
  refine ww ?_
  exact qAh rfl AV.le.nils rfl rfl rfl rfl ⟨rfl,rfl⟩
 ·refine ww ?_
  refine qAe (qCe (es:=[]) hT rfl rfl rfl (.inl rfl) rfl (by show (([]:List (List Dat)).length+es.length)*(1+1)≤140737488355328;simp;omega)) rfl ?_
  refine ww ?_
  exact qAh rfl (.refl _) rfl rfl rfl rfl ⟨rfl,rfl⟩
theorem qRd (es:List (List Dat)) (hl:es.length≤1000000):Spec Tryz.prog 125 [.d (.sl 1 es)] [.room] (fun r h'=>r=.sl 1 es (.right 0)∧h'=[.right 1 es.length]):=by
 refine qAb hT Tryz.func125 rfl rfl rfl rfl ?_;intro E hE
 refine ww ?_
 refine qDp (eqNil_ok hT (fun _=>rfl) rfl rfl rfl) rfl ?_
 rintro v h' ⟨rfl,b,rfl,hb⟩
 refine ww ?_
 refine qAa rfl (fun h1=>?_) (fun h1=>?_)
 ·obtain rfl:=hb h1
  refine qAg (qAd ?_)
  refine wws ?_
  refine qBj 2 1 0 (es:=[]) (.inr ⟨rfl,rfl⟩) rfl ?_
  refine ww ?_
  exact wwr
 ·refine ww ?_
  refine qAe (qFw (i:=0) hT rfl rfl rfl (.inl rfl) (by simp) rfl rfl (by show es.length*(8+1)≤140737488355328;omega)) rfl ?_
  refine ww ?_
  exact wwr
theorem qRf (es:List (List Dat)) (hl:es.length≤1000000):Spec Tryz.prog 125 [.d (.sl 1 es)] [] (fun r h'=>r=.d (.sl 1 es)∧h'=[]):=by
 refine qAb hT Tryz.func125 rfl rfl rfl rfl ?_;intro E hE
 refine ww ?_
 refine qDp (eqNil_ok hT (fun _=>rfl) rfl rfl rfl) rfl ?_
 rintro v h' ⟨rfl,b,rfl,hb⟩
 refine ww ?_
 refine qAa rfl (fun h1=>?_) (fun h1=>?_)
 ·obtain rfl:=hb h1
  refine ww ?_
  exact qAh rfl AV.le.nils rfl rfl rfl rfl ⟨rfl,rfl⟩
 ·refine ww ?_
  refine qAe (qCe (es:=[]) hT rfl rfl rfl (.inl rfl) rfl (by show (([]:List (List Dat)).length+es.length)*(8+1)≤140737488355328;simp;omega)) rfl ?_
  refine ww ?_
  exact qAh rfl (.refl _) rfl rfl rfl rfl ⟨rfl,rfl⟩
theorem qJn (es:List (List Dat)) (hl:es.length≤1000000):Spec Tryz.prog 124 [.d (.sl 11 es)] [.room] (fun r h'=>r=.sl 11 es (.right 0)∧h'=[.right 11 es.length]):=by
 refine qAb hT Tryz.func124 rfl rfl rfl rfl ?_;intro E hE
 refine ww ?_
 refine qDp (eqNil_ok hT (fun _=>rfl) rfl rfl rfl) rfl ?_
 rintro v h' ⟨rfl,b,rfl,hb⟩
 refine ww ?_
 refine qAa rfl (fun h1=>?_) (fun h1=>?_)
 ·obtain rfl:=hb h1
  refine qAg (qAd ?_)
  refine wws ?_
  refine qBj 2 11 0 (es:=[]) (.inr ⟨rfl,rfl⟩) rfl ?_
  refine ww ?_
  exact wwr
 ·refine ww ?_
  refine qAe (qFw (i:=0) hT rfl rfl rfl (.inl rfl) (by simp) rfl rfl (by show es.length*(96+1)≤140737488355328;omega)) rfl ?_
  refine ww ?_
  exact wwr
theorem qRg (es:List (List Dat)) (hl:es.length≤1000000):Spec Tryz.prog 126 [.d (.sl 5 es)] [] (fun r h'=>r=.d (.sl 5 es)∧h'=[]):=by
 refine qAb hT Tryz.func126 rfl rfl rfl rfl ?_;intro E hE
 refine ww ?_
 refine qDp (eqNil_ok hT (fun _=>rfl) rfl rfl rfl) rfl ?_
 rintro v h' ⟨rfl,b,rfl,hb⟩
 refine ww ?_
 refine qAa rfl (fun h1=>?_) (fun h1=>?_)
 ·obtain rfl:=hb h1
  refine ww ?_
  exact qAh rfl AV.le.nils rfl rfl rfl rfl ⟨rfl,rfl⟩
 ·refine ww ?_
  refine qAe (qCe (es:=[]) hT rfl rfl rfl (.inl rfl) rfl (by show (([]:List (List Dat)).length+es.length)*(56+1)≤140737488355328;simp;omega)) rfl ?_
  refine ww ?_
  exact qAh rfl (.refl _) rfl rfl rfl rfl ⟨rfl,rfl⟩
theorem wI_nat (m:Nat):IntKind.u32.wrap (m:Int)=wI (BitVec.ofNat 32 m):=by
 rw [wrap32];unfold wI;rw [BitVec.toNat_ofNat];omega
theorem encB_rep0 (b:List UInt8) (j:Nat):qAx (b++[128]++List.replicate (j+1) 0)=qAx (b++[128]++List.replicate j 0)++[[.int .u8 0]]:=by
 rw [List.replicate_succ',← List.append_assoc,encB_append];rfl
theorem vCw (b:List UInt8) (hb:b.length≤900000):Spec Tryz.prog 433 [.d (.sl 1 (qAx b))] [] (fun r h'=>r=.d (.sl 1 (qAx (qWj b)))∧h'=[]):=by
 have hbl:=encB_length b
 have hz:=padZ_lt b.length
 have hcl:=qRe (qAx b) (by omega)
 have hp:=padW_eq b
 rw [len8 _ (by omega)] at hp
 refine qAb hT Tryz.func433 rfl rfl rfl rfl ?_;intro E hE
 refine qAt ?_
 refine ww ?_
 refine qAe (qSx (v:=.sl 1 (qAx b) (.right 0)) (H':=[.right 1 (qAx b).length]) rfl rfl hcl [0] (by decide) rfl rfl rfl rfl rfl rfl rfl) rfl ?_
 refine ww ?_
 refine qAe (qAs (i:=0) hT rfl rfl rfl rfl rfl rfl (by show ((qAx b).length+1)*(1+1)≤_;omega)) rfl ?_
 refine ww ?_
 refine qAm (ι:=Nat) (fun j=>[(0,.d (.sl 1 (qAx b))),(3,.sl 1 (qAx (b++[128]++List.replicate j 0)) (.right 0))]) (fun j=>[.right 1 (qAx (b++[128]++List.replicate j 0)).length]) (fun j=>j≤qUz b.length) (fun j=>qUz b.length-j) 0 (Nat.zero_le _)
  ⟨.refl _,.slt (by rw [List.replicate_zero,List.append_nil,encB_append];rfl),trivial⟩ ⟨⟨rfl,by simp [encB_length]⟩,trivial⟩ ?_
 intro j hj
 have hlj:(qAx (b++[128]++List.replicate j 0)).length=b.length+1+j:=by rw [encB_length];simp;omega
 have hif:=padZ_iff hj
 refine ww ?_
 refine qAa rfl (fun h1=>?_) (fun h1=>?_)
 ·have h1':j < qUz b.length:=by
   rw [hlj] at h1
   have:(b.length+1+j) % 64≠56:=fun hc=>by
    have e:Int.tmod ((b.length+1+j:Nat):Int) 64=(((b.length+1+j) % 64:Nat):Int):=rfl
    rw [e,hc] at h1;exact absurd h1 (by decide)
   have:=fun hc=>this (hif.2 hc)
   omega
  have hs:=encB_rep0 b j
  refine ww ?_
  refine qAe (qAs (i:=0) hT rfl rfl rfl rfl rfl rfl (by show ((qAx (b++[128]++List.replicate j 0)).length+1)*(1+1)≤_;omega)) rfl ?_
  refine ww ?_
  exact ⟨j+1,h1',by omega,⟨.refl _,.slt hs.symm,trivial⟩,⟨⟨rfl,by rw [hs]⟩,trivial⟩⟩
 ·have h1':j=qUz b.length:=by
   rw [hlj] at h1
   refine hif.1 ?_
   have e:Int.tmod ((b.length+1+j:Nat):Int) 64=(((b.length+1+j) % 64:Nat):Int):=rfl
   rw [e] at h1
   simp at h1
   omega
  subst h1'
  refine wwe ?_
  refine qAg (qAd ?_)
  refine wws ?_
  refine qAk (l:=[(3,.sl 1 (qAx (b++[128]++List.replicate (qUz b.length) 0)) (.right 0)),(4,.d (.int .u64 ((8*b.length:Nat):Int)))]) (h':=[.right 1 (qAx (b++[128]++List.replicate (qUz b.length) 0)).length]) ⟨.refl _,.int ?_,trivial⟩ (HLe.refl _) ?_
  ·show IntKind.u64.wrap (8*IntKind.u64.wrap ((qAx b).length:Int))=_
   rw [hbl,wrapu64 (n:=(b.length:Int)) (by omega),wrapu64 (by omega)];omega
  have h5:IntKind.u32.wrap (Int.fdiv ((8*b.length:Nat):Int) (2 ^ (min (32:Int).toNat IntKind.u64.bits)))=wI (BitVec.ofNat 32 (8*b.length / 4294967296)):=by
   rw [← wI_nat];exact congrArg IntKind.u32.wrap (qDm (8*b.length) 32)
  have h6:IntKind.u32.wrap ((8*b.length:Nat):Int)=wI (BitVec.ofNat 32 (8*b.length)):=wI_nat _
  refine ww ?_
  refine wwc (bytesOf_spec (BitVec.ofNat 32 (8*b.length / 4294967296))) ?_
  refine ww ?_
  refine qAe (qAs (i:=0) hT rfl rfl rfl rfl rfl rfl (by show ((qAx (b++[128]++List.replicate (qUz b.length) 0)).length+4)*(1+1)≤_;omega)) rfl ?_
  refine ww ?_
  refine wwc (bytesOf_spec (BitVec.ofNat 32 (8*b.length))) ?_
  refine ww ?_
  refine qAe (qAs (i:=0) hT rfl rfl rfl rfl rfl rfl (by rw [List.length_append];show ((qAx (b++[128]++List.replicate (qUz b.length) 0)).length+4+4)*(1+1)≤_;omega)) rfl ?_
  refine ww ?_
  refine rq ⟨rfl,rfl⟩ rfl (AV.le.dat' ?_)
  rw [hp,← List.append_assoc];simp only [encB_append]
theorem loadI_head {T:Tr} {t:Nat} {ti:TI} {cs:List Dat} {d:Dat} (hf:T.find t=some ti) (ha:ti.agg=false) (hd:cs[0]?=some d):qYu T t cs=some (.d d):=by
 unfold qYu;rw [hf];simp only;rw [ha];simp only;rw [hd]
def kD:List Dat:=kW.map fun x=>.int .u32 (wI x)
set_option maxRecDepth 100000 in
theorem kD_tab:qGs 9=some kD:=by kernel_rfl
theorem kD_at {n:Nat} (h:n < 64):(kD.drop n)[0]?=some (.int .u32 (wI (kW.getD n 0))):=by
 have hl:kW.length=64:=rfl
 unfold kD
 rw [← List.map_drop,List.getElem?_map,List.getElem?_drop,Nat.add_zero,List.getElem?_eq_getElem (by omega)]
 simp [show n < kW.length by omega]
def vC (v:Vw):List AV:=[uV v.a,uV v.b,uV v.c,uV v.d,uV v.e,uV v.f,uV v.g,uV v.h]
theorem encW_length (v:Vw):(qMf v).length=8:=rfl
theorem encW_at (v:Vw) {i:Nat} (h:i < 8):(qMf v)[i]?=some [.int .u32 (wI ((vwL v).getD i 0))]:=by
 have hl:(vwL v).length=8:=rfl
 unfold qMf
 rw [List.getElem?_map,List.getElem?_eq_getElem (by omega)]
 simp [show i < (vwL v).length by omega]
theorem vC_at (v:Vw) {i:Nat} (h:i < 8):(vC v)[i]?=some (uV ((vwL v).getD i 0)):=by
 have hl:(vwL v).length=8:=rfl
 have:vC v=(vwL v).map uV:=rfl
 rw [this,List.getElem?_map,List.getElem?_eq_getElem (by omega)]
 simp [show i < (vwL v).length by omega]
def vBb (v r:Vw):Vw:=⟨v.a+r.a,v.b+r.b,v.c+r.c,v.d+r.d,v.e+r.e,v.f+r.f,v.g+r.g,v.h+r.h⟩
theorem addV_at (v r:Vw) {i:Nat} (h:i < 8):(vwL (vBb v r)).getD i 0=(vwL v).getD i 0+(vwL r).getD i 0:=by
 rcases (by omega:i=0∨i=1∨i=2∨i=3∨i=4∨i=5∨i=6∨i=7) with rfl | rfl | rfl | rfl | rfl | rfl | rfl | rfl <;> rfl
def qXr (v r:Vw) (i:Nat):List AV:=((vwL (vBb v r)).take i).map uV++List.replicate (8-i) (uV 0)
theorem sumC_set (v r:Vw) {i:Nat} (h:i < 8):(qXr v r i).set i (uV ((vwL v).getD i 0+(vwL r).getD i 0))=qXr v r (i+1):=by
 rw [← addV_at v r h]
 have hl:(vwL (vBb v r)).length=8:=rfl
 unfold qXr
 rw [List.take_add_one,List.map_append,List.set_append_right _ _ (by simp [hl];omega),show 8-i=(8-(i+1))+1 by omega,List.replicate_succ,List.append_assoc]
 simp [hl,show min i 8=i by omega,h]
theorem sumC_length (v r:Vw) {i:Nat} (h:i≤8):(qXr v r i).length=8:=by
 have hl:(vwL (vBb v r)).length=8:=rfl
 unfold qXr;simp [hl];omega
theorem sumC_all (v r:Vw):RowDat (qXr v r 8) 0 1 (qMf (vBb v r)):=by
 refine ⟨fun e he=>?_,fun i e j d he hd=>?_⟩
 ·simp only [qMf,List.mem_map] at he
  obtain ⟨b,_,rfl⟩:=he;rfl
 ·have hi:i < 8:=by have:=(List.getElem?_eq_some_iff.1 he).1;simpa [encW_length] using this
  rw [encW_at _ hi] at he
  cases he
  cases j with
  | zero =>
   simp at hd;subst hd
   have:qXr v r 8=vC (vBb v r):=rfl
   exact ⟨uV ((vwL (vBb v r)).getD i 0),by rw [this,Nat.zero_add,Nat.mul_one,Nat.add_zero];exact vC_at _ hi,rfl⟩
  | succ j=>simp at hd
theorem compW_eq (v:Vw) (b:List UInt8):qWx v b=vBb v (qGm v (qJz b 64) 64):=rfl
theorem qZp (b:List UInt8) (t:Nat):qRm (b.drop t) 0=qRm b t:=by
 unfold qRm
 simp only [List.getD_eq_getElem?_getD,List.getElem?_drop,Nat.zero_add,Nat.add_zero]
theorem rots2 (x:BitVec 32) (i j:Nat):qRu x [i,j]=qHj x i ^^^ qHj x j:=by
 show (0#32 ^^^ qHj x i) ^^^ qHj x j=_
 rw [BitVec.zero_xor]
theorem rots3 (x:BitVec 32) (i j k:Nat):qRu x [i,j,k]=qHj x i ^^^ qHj x j ^^^ qHj x k:=by
 show ((0#32 ^^^ qHj x i) ^^^ qHj x j) ^^^ qHj x k=_
 rw [BitVec.zero_xor]
theorem qPf (x:BitVec 32) (i j:Nat) (hi:1≤i∧i≤31) (hj:1≤j∧j≤31):Spec Tryz.prog 528 [uV x,.d (.sl 1 [[.int .i64 (i:Int)],[.int .i64 (j:Int)]])] [] (fun r h'=>r=uV (qHj x i ^^^ qHj x j)∧h'=[]):=by
 rw [← rots2]
 exact qUs x [i,j] (by simp) (fun n hn=>by simp at hn;rcases hn with rfl | rfl <;> assumption)
theorem qPe (x:BitVec 32) (i j k:Nat) (hi:1≤i∧i≤31) (hj:1≤j∧j≤31) (hk:1≤k∧k≤31):Spec Tryz.prog 528 [uV x,.d (.sl 1 [[.int .i64 (i:Int)],[.int .i64 (j:Int)],[.int .i64 (k:Int)]])] [] (fun r h'=>r=uV (qHj x i ^^^ qHj x j ^^^ qHj x k)∧h'=[]):=by
 rw [← rots3]
 exact qUs x [i,j,k] (by simp) (fun n hn=>by simp at hn;rcases hn with rfl | rfl | rfl <;> assumption)
theorem roundW_zero (v:Vw) (w:List (BitVec 32)):qGm v w 0=v:=rfl
theorem roundW_succ (v:Vw) (w:List (BitVec 32)) (n:Nat):qGm v w (n+1)=vEc (qGm v w n) (kW.getD n 0) (w.getD n 0):=rfl
theorem qOo (v:Vw) (b:List UInt8) (hb:b.length=64):Spec Tryz.prog 434 [.d (.sl 1 (qMf v)),.d (.sl 1 (qAx b))] [] (fun r h'=>r=.tup [.d (.sl 1 (qMf (qWx v b))),.I 0]∧h'=[]):=by
 have hbl:=encB_length b
 obtain ⟨m,hm⟩:∃ m:Nat,m=64:=⟨_,rfl⟩
 have hfin:qWx v b=vBb v (qGm v (qJz b m) m):=by subst hm;exact compW_eq v b
 have hcw:∀ n,n < m→(cellsW b m)[n]?=some (uV ((qJz b m).getD n 0)):=by subst hm;exact fun n h=>cells64 b h
 rw [hfin]
 clear hfin
 refine qAb hT Tryz.func434 rfl rfl rfl rfl ?_;intro E hE
 refine ww ?_
 refine qAa rfl (fun c1=>?_) (fun c1=>?_)
 ·exact absurd c1 (by simp [encW_length,hbl,hb])
 refine ww ?_
 refine qAm (ι:=Nat) (fun t=>[(0,.d (.sl 1 (qMf v))),(1,.d (.sl 1 (qAx b))),(6,.fn (.func 528) [] []),(7,.ptr 0 0),(27,.I (t:Int))]) (fun t=>[.row (cellsW b t)]) (fun t=>t≤m) (fun t=>m-t) 0 (Nat.zero_le _)
  yf ⟨ObLe.row rfl,trivial⟩ ?_
 intro t ht
 have hcl:=cellsW_length b (t:=t) (by omega)
 refine ww ?_
 refine qAa rfl (fun c2=>?_) (fun c2=>?_)
 ·have ht':t < 64:=by simp at c2;omega
  refine ww ?_
  refine qAa rfl (fun c3=>?_) (fun c3=>?_)
  ·have c3':t < 16:=by simp at c3;omega
   have hw4:IntKind.i64.wrap (4*(t:Int))=((4*t:Nat):Int):=by rw [qAf (by omega)];omega
   refine qAg (qAd ?_)
   refine wk hT rfl rfl ?_
   refine wk hT rfl rfl ?_
   refine wk hT rfl rfl ?_
   refine wk hT rfl rfl ?_
   refine wk hT rfl rfl ?_
   rw [hw4,Int.toNat_natCast,encB_drop]
   refine wwc (qXu (b.drop (4*t)) (by rw [List.length_drop];omega)) ?_
   rw [qZp]
   have hst:=cellsW_set b ht'
   rw [schW_word b c3'] at hst
   refine qAe (qAc (arrPtr_ok hT rfl rfl rfl rfl (by omega))) rfl ?_
   refine qBh (qHe hT rfl rfl rfl rfl rfl rfl (by show 0+((t:Int)).toNat*1 < (cellsW b t).length;rw [hcl];omega)) rfl ?_
   rw [show 0+((t:Int)).toNat*1=t by omega]
   refine ww ?_
   exact ⟨t+1,by omega,by omega,⟨.refl _,.refl _,.refl _,.refl _,.int (by rw [qAf (by omega)];omega),trivial⟩,⟨ObLe.row hst,trivial⟩⟩
  ·have c3':16≤t:=by simp at c3;omega
   have hx:=cellsW_at b (i:=t-15) (t:=t) (by omega)
   have hy:=cellsW_at b (i:=t-2) (t:=t) (by omega)
   have h7:=cellsW_at b (i:=t-7) (t:=t) (by omega)
   have h16:=cellsW_at b (i:=t-16) (t:=t) (by omega)
   have hst:=cellsW_set b ht'
   rw [schW_next b c3'] at hst
   generalize (qJz b t).getD (t-15) 0=x at hx hst
   generalize (qJz b t).getD (t-2) 0=y at hy hst
   generalize (qJz b t).getD (t-7) 0=z7 at h7 hst
   generalize (qJz b t).getD (t-16) 0=z16 at h16 hst
   have e15:IntKind.i64.wrap ((t:Int)-15)=((t-15:Nat):Int):=by rw [qAf (by omega)];omega
   have e2:IntKind.i64.wrap ((t:Int)-2)=((t-2:Nat):Int):=by rw [qAf (by omega)];omega
   have e7:IntKind.i64.wrap ((t:Int)-7)=((t-7:Nat):Int):=by rw [qAf (by omega)];omega
   have e16:IntKind.i64.wrap ((t:Int)-16)=((t-16:Nat):Int):=by rw [qAf (by omega)];omega
   refine ww ?_
   refine qBs (qAc (arrPtr_ok hT rfl rfl rfl rfl (by rw [e15];omega))) rfl rfl ?_
   refine qBs (qCj (v:=uV x) hT rfl rfl rfl rfl rfl (by rw [e15];show (cellsW b t)[0+((t-15:Nat):Int).toNat*1]?=_;rw [show 0+((t-15:Nat):Int).toNat*1=t-15 by omega];exact hx)) rfl rfl ?_
   refine ww ?_
   refine qBs (qAc (arrPtr_ok hT rfl rfl rfl rfl (by rw [e2];omega))) rfl rfl ?_
   refine qBs (qCj (v:=uV y) hT rfl rfl rfl rfl rfl (by rw [e2];show (cellsW b t)[0+((t-2:Nat):Int).toNat*1]?=_;rw [show 0+((t-2:Nat):Int).toNat*1=t-2 by omega];exact hy)) rfl rfl ?_
   refine wwn ?_
   refine qAk (l:=[(0,.d (.sl 1 (qMf v))),(1,.d (.sl 1 (qAx b))),(6,.fn (.func 528) [] []),(7,.ptr 0 0),(8,.I (t:Int)),(9,uV x),(10,uV y),(27,.I (t:Int))]) (h':=[.row (cellsW b t)]) yf (HLe.refl _) ?_
   refine qBm (fun _=>[0]) (fun i=>bif Nat.beq i 27 then [0] else []) mixed (by kernel_rfl) ?_
   refine wwg ?_
   refine qAj (os:=[]) (fun k hk1 hk2=>buildSl_ok hT rfl rfl) rfl ?_
   refine wwdc (qPf y 17 19 (by omega) (by omega)) ?_
   refine wwg ?_
   refine qAj (os:=[]) (fun k hk1 hk2=>qAc (arrPtr_ok hT rfl rfl rfl rfl (by rw [e7];omega))) rfl ?_
   refine qAj (v:=uV z7) (os:=[]) (fun k hk1 hk2=>qCj hT rfl rfl ((hk2 0 List.mem_cons_self).trans rfl) rfl rfl (by rw [e7];show (cellsW b t)[0+((t-7:Nat):Int).toNat*1]?=_;rw [show 0+((t-7:Nat):Int).toNat*1=t-7 by omega];exact h7)) rfl ?_
   refine wwg ?_
   refine qAj (os:=[]) (fun k hk1 hk2=>buildSl_ok hT rfl rfl) rfl ?_
   refine wwdc (qPf x 7 18 (by omega) (by omega)) ?_
   refine wwg ?_
   refine qAj (os:=[]) (fun k hk1 hk2=>qAc (arrPtr_ok hT rfl rfl rfl rfl (by rw [e16];omega))) rfl ?_
   refine qAj (v:=uV z16) (os:=[]) (fun k hk1 hk2=>qCj hT rfl rfl ((hk2 0 List.mem_cons_self).trans rfl) rfl rfl (by rw [e16];show (cellsW b t)[0+((t-16:Nat):Int).toNat*1]?=_;rw [show 0+((t-16:Nat):Int).toNat*1=t-16 by omega];exact h16)) rfl ?_
   refine wwg ?_
   refine qAj (os:=[]) (fun k hk1 hk2=>qAc (arrPtr_ok hT rfl rfl rfl rfl (by omega))) rfl ?_
   have hval:∀ r,r=wI (sg1 y+z7+sg0 x+z16)→(cellsW b t).set (0+((t:Int)).toNat*1) (.d (.int .u32 r))=cellsW b (t+1):=by
    intro r hr;subst hr;rw [show 0+((t:Int)).toNat*1=t by omega];exact hst
   refine qAj (v:=.any) (os:=[.row ((cellsW b t).set (0+((t:Int)).toNat*1) _)]) (fun k hk1 hk2=>qHe hT rfl rfl ((hk2 0 List.mem_cons_self).trans rfl) rfl rfl rfl (by show 0+((t:Int)).toNat*1 < (cellsW b t).length;rw [hcl];omega)) rfl ?_
   refine wwg ?_
   refine ww ?_
   exact ⟨t+1,by omega,by omega,⟨.refl _,.refl _,.refl _,.refl _,.int (by rw [qAf (by omega)];omega),trivial⟩,⟨ObLe.row (hval _ (by simp only [wshr,wI_xor,wI_add];rfl)),trivial⟩⟩
 have ht':t=m:=by simp at c2;omega
 subst ht'
 generalize cellsW b t=cw at hcw hcl ⊢
 generalize qJz b t=w at hcw ⊢
 refine ww ?_
 refine qAe (qAc (sliceArr_ok hT rfl rfl rfl (by rw [encW_length];omega))) rfl ?_
 refine ww ?_
 refine qAm (ι:=Nat) (fun n=>[(0,.d (.sl 1 (qMf v))),(6,.fn (.func 528) [] []),(7,.ptr 0 0),(11,.ptr 1 0),(78,.I (n:Int))]) (fun n=>[.row (cw),.row (vC (qGm v w n))]) (fun n=>n≤t) (fun n=>t-n) 0 (Nat.zero_le _)
  yf ⟨ObLe.refl _,ObLe.row (by rw [roundW_zero];rfl),trivial⟩ ?_
 intro n hn
 refine ww ?_
 refine qAa rfl (fun c3=>?_) (fun c3=>?_)
 ·have hn':n < 64:=by simp at c3;omega
  have hr1:=roundW_succ v w n
  have hwn:=hcw n (by omega)
  have hkn:=kD_at hn'
  generalize qGm v w n=r at hr1 ⊢
  generalize w.getD n 0=wn at hr1 hwn
  generalize kW.getD n 0=kn at hr1 hkn
  refine ww ?_
  first | refine qAe (qAc (arrPtr_ok hT rfl rfl rfl rfl (by decide))) rfl ?_ | refine qBs (qAc (arrPtr_ok hT rfl rfl rfl rfl (by decide))) rfl rfl ?_
  refine ww ?_
  first | refine qAe (qAc (arrPtr_ok hT rfl rfl rfl rfl (by decide))) rfl ?_ | refine qBs (qAc (arrPtr_ok hT rfl rfl rfl rfl (by decide))) rfl rfl ?_
  refine wwn ?_
  refine qAk (l:=[(0,.d (.sl 1 (qMf v))),(6,.fn (.func 528) [] []),(7,.ptr 0 0),(11,.ptr 1 0),(12,.I (n:Int)),(13,uV r.a),(14,uV r.e),(78,.I (n:Int))]) (h':=[.row (cw),.row (vC r)]) yf (HLe.refl _) ?_
  refine wx mixed ?_
  refine wws ?_
  first | refine qAe (qAc (arrPtr_ok hT rfl rfl rfl rfl (by decide))) rfl ?_ | refine qBs (qAc (arrPtr_ok hT rfl rfl rfl rfl (by decide))) rfl rfl ?_
  refine wws ?_
  refine wwc (qPe r.e 6 11 25 (by omega) (by omega) (by omega)) ?_
  refine wws ?_
  first | refine qAe (qAc (arrPtr_ok hT rfl rfl rfl rfl (by decide))) rfl ?_ | refine qBs (qAc (arrPtr_ok hT rfl rfl rfl rfl (by decide))) rfl rfl ?_
  refine wws ?_
  first | refine qAe (qAc (arrPtr_ok hT rfl rfl rfl rfl (by decide))) rfl ?_ | refine qBs (qAc (arrPtr_ok hT rfl rfl rfl rfl (by decide))) rfl rfl ?_
  refine wws ?_
  refine qBs (qAc (arrAddr_ok (cs:=kD) hT rfl rfl (by show (match qGs 9 with | some cs=>AV.iptr cs | none=>.any)=_;rw [kD_tab]) rfl (by omega))) rfl rfl ?_
  refine qBs (qAc (loadI_ok hT rfl rfl (loadI_head rfl rfl (by rw [show ((n:Int)).toNat*1=n by omega];exact hkn)))) rfl rfl ?_
  refine wws ?_
  refine qBs (qAc (arrPtr_ok hT rfl rfl rfl rfl (by omega))) rfl rfl ?_
  refine qBs (qCj (v:=uV wn) hT rfl rfl rfl rfl rfl (by show (cw)[0+((n:Int)).toNat*1]?=_;rw [show 0+((n:Int)).toNat*1=n by omega];exact hwn)) rfl rfl ?_
  refine wwn ?_
  refine qAk (l:=[(0,.d (.sl 1 (qMf v))),(6,.fn (.func 528) [] []),(7,.ptr 0 0),(11,.ptr 1 0),(12,.I (n:Int)),(13,uV r.a),(14,uV r.e),(15,uV (r.h+bs1 r.e+((r.e &&& r.f) ^^^ (~~~ r.e &&& r.g))+kn+wn)),(78,.I (n:Int))]) (h':=[.row cw,.row (vC r)])
   ⟨.refl _,.refl _,.refl _,.refl _,.refl _,.refl _,.refl _,.int (by simp only [wI_not,wI_and,wI_xor,wI_add,uV];rfl),.refl _,trivial⟩ (HLe.refl _) ?_
  generalize hT1:r.h+bs1 r.e+((r.e &&& r.f) ^^^ (~~~ r.e &&& r.g))+kn+wn=T1
  refine wx mixed ?_
  refine wws ?_
  refine wwc (qPe r.a 2 13 22 (by omega) (by omega) (by omega)) ?_
  refine wws ?_
  first | refine qAe (qAc (arrPtr_ok hT rfl rfl rfl rfl (by decide))) rfl ?_ | refine qBs (qAc (arrPtr_ok hT rfl rfl rfl rfl (by decide))) rfl rfl ?_
  refine wws ?_
  first | refine qAe (qAc (arrPtr_ok hT rfl rfl rfl rfl (by decide))) rfl ?_ | refine qBs (qAc (arrPtr_ok hT rfl rfl rfl rfl (by decide))) rfl rfl ?_
  refine wws ?_
  first | refine qAe (qAc (arrPtr_ok hT rfl rfl rfl rfl (by decide))) rfl ?_ | refine qBs (qAc (arrPtr_ok hT rfl rfl rfl rfl (by decide))) rfl rfl ?_
  refine wws ?_
  first | refine qAe (qAc (arrPtr_ok hT rfl rfl rfl rfl (by decide))) rfl ?_ | refine qBs (qAc (arrPtr_ok hT rfl rfl rfl rfl (by decide))) rfl rfl ?_
  refine wws ?_
  refine qAk (l:=[(0,.d (.sl 1 (qMf v))),(6,.fn (.func 528) [] []),(7,.ptr 0 0),(11,.ptr 1 0),(15,uV T1),(16,uV (bs0 r.a+((r.a &&& r.b) ^^^ (r.a &&& r.c) ^^^ (r.b &&& r.c)))),(78,.I (n:Int))]) (h':=[.row cw,.row (vC r)])
   ⟨.refl _,.refl _,.refl _,.refl _,.refl _,.int (by simp only [wI_not,wI_and,wI_xor,wI_add,uV];rfl),.refl _,trivial⟩ (HLe.refl _) ?_
  generalize hT2:bs0 r.a+((r.a &&& r.b) ^^^ (r.a &&& r.c) ^^^ (r.b &&& r.c))=T2
  have hfv:vC (vEc r kn wn)=[uV (T1+T2),uV r.a,uV r.b,uV r.c,uV (r.d+T1),uV r.e,uV r.f,uV r.g]:=by rw [← hT1,← hT2];rfl
  refine ww ?_
  first | refine qAe (qAc (arrPtr_ok hT rfl rfl rfl rfl (by decide))) rfl ?_ | refine qBs (qAc (arrPtr_ok hT rfl rfl rfl rfl (by decide))) rfl rfl ?_
  refine ww ?_
  first | refine qAe (qAc (arrPtr_ok hT rfl rfl rfl rfl (by decide))) rfl ?_ | refine qBs (qAc (arrPtr_ok hT rfl rfl rfl rfl (by decide))) rfl rfl ?_
  refine ww ?_
  first | refine qAe (qAc (arrPtr_ok hT rfl rfl rfl rfl (by decide))) rfl ?_ | refine qBs (qAc (arrPtr_ok hT rfl rfl rfl rfl (by decide))) rfl rfl ?_
  refine ww ?_
  first | refine qAe (qAc (arrPtr_ok hT rfl rfl rfl rfl (by decide))) rfl ?_ | refine qBs (qAc (arrPtr_ok hT rfl rfl rfl rfl (by decide))) rfl rfl ?_
  refine ww ?_
  first | refine qAe (qAc (arrPtr_ok hT rfl rfl rfl rfl (by decide))) rfl ?_ | refine qBs (qAc (arrPtr_ok hT rfl rfl rfl rfl (by decide))) rfl rfl ?_
  refine ww ?_
  first | refine qAe (qAc (arrPtr_ok hT rfl rfl rfl rfl (by decide))) rfl ?_ | refine qBs (qAc (arrPtr_ok hT rfl rfl rfl rfl (by decide))) rfl rfl ?_
  refine ww ?_
  first | refine qAe (qAc (arrPtr_ok hT rfl rfl rfl rfl (by decide))) rfl ?_ | refine qBs (qAc (arrPtr_ok hT rfl rfl rfl rfl (by decide))) rfl rfl ?_
  refine ww ?_
  exact ⟨n+1,by omega,by omega,⟨.refl _,.refl _,.refl _,.refl _,.int (by rw [qAf (by omega)];omega),trivial⟩,⟨ObLe.refl _,ObLe.row (by rw [hr1,hfv];simp only [uV,wI_add]),trivial⟩⟩
 have hn':n=t:=by simp at c3;omega
 subst hn'
 generalize qGm v w n=r
 refine ww ?_
 refine qAe (makeRow1_ok (n:=8) hT rfl rfl rfl rfl (by decide) (by decide)) rfl ?_
 refine ww ?_
 refine qAm (ι:=Nat) (fun i=>[(0,.d (.sl 1 (qMf v))),(11,.ptr 1 0),(17,.row 2 0 8 8),(154,.I 8),(155,.I (i:Int))]) (fun i=>[.row cw,.row (vC r),.row (qXr v r i)]) (fun i=>i≤8) (fun i=>8-i) 0 (Nat.zero_le _)
  yf ⟨ObLe.refl _,ObLe.refl _,ObLe.row rfl,trivial⟩ ?_
 intro i hi
 refine ww ?_
 refine qAa rfl (fun c4=>?_) (fun c4=>?_)
 ·have hi':i < 8:=by simp at c4;omega
  have hs:=sumC_set v r hi'
  have hv:=encW_at v hi'
  have hr:=vC_at r hi'
  have hsl:=sumC_length v r hi
  generalize (vwL v).getD i 0=x at hs hv
  generalize (vwL r).getD i 0=y at hs hr
  refine wwn ?_
  refine qBm (fun i=>bif Nat.beq i 8 then [1] else bif Nat.beq i 11 then [2] else []) (fun i=>bif Nat.beq i 11 then [2] else []) mixed (by kernel_rfl) ?_
  refine wwg ?_
  refine qAj (os:=[]) (fun k hk1 hk2=>qAc (indexAddr_ok hT rfl rfl rfl rfl (by omega) hv)) rfl ?_
  refine wwg ?_
  refine qAj (os:=[]) (fun k hk1 hk2=>qAc (arrPtr_ok hT rfl rfl rfl rfl (by omega))) rfl ?_
  refine qAj (v:=uV y) (os:=[]) (fun k hk1 hk2=>qCj hT rfl rfl ((hk2 1 List.mem_cons_self).trans rfl) rfl rfl (by show (vC r)[0+((i:Int)).toNat*1]?=_;rw [show 0+((i:Int)).toNat*1=i by omega];exact hr)) rfl ?_
  refine wwg ?_
  refine qAj (os:=[]) (fun k hk1 hk2=>qAc (rowAddr_ok (sz:=1) hT rfl rfl rfl rfl (by omega))) rfl ?_
  have hval:∀ z,z=wI (x+y)→(qXr v r i).set (0+((i:Int)).toNat*1) (.d (.int .u32 z))=qXr v r (i+1):=by
   intro z hz;subst hz;rw [show 0+((i:Int)).toNat*1=i by omega];exact hs
  refine qAj (v:=.any) (os:=[.row ((qXr v r i).set (0+((i:Int)).toNat*1) _)]) (fun k hk1 hk2=>qHe hT rfl rfl ((hk2 2 List.mem_cons_self).trans rfl) rfl rfl rfl (by show 0+((i:Int)).toNat*1 < (qXr v r i).length;rw [hsl];omega)) rfl ?_
  refine wwg ?_
  refine ww ?_
  exact ⟨i+1,hi',by omega,⟨.refl _,.refl _,.refl _,.refl _,.int (by rw [qAf (by omega)];omega),trivial⟩,⟨ObLe.refl _,ObLe.refl _,ObLe.row (hval _ (wI_add x y)),trivial⟩⟩
 have hi':i=8:=by simp at c4;omega
 subst hi'
 refine wwe ?_
 refine qLz 17 2 1 (qMf (vBb v r)) rfl rfl rfl (by decide) (sumC_all v r) ?_
 refine ww ?_
 exact wwr
end Tdoc
namespace Tdoc
open Go
open Go Go.Proofs
end Tdoc
namespace Tdoc
open Go
open Go Go.Proofs
def vEm (v:List UInt8):Int×Int:=if 7 < v.length then (0,2) else (((nbN v:Nat):Int),0)
theorem qJl (v:List UInt8) (hv:v.length≤1000000):Spec Tryz.prog 273 [.d (.sl 1 (qAx v))] [] (fun r h'=>r=.tup [.d (.int .i64 (vEm v).1),.d (.int .i64 (vEm v).2)]∧h'=[]):=by
 have hl:=encB_length v
 unfold vEm
 by_cases h7:7 < v.length
 ·rw [if_pos h7]
  refine qAb hT Tryz.func273 rfl rfl rfl rfl ?_;intro E hE
  refine ww ?_
  refine qAa rfl (fun c1=>?_) (fun c1=>?_)
  ·refine ww ?_
   exact wwr
  ·exfalso;rw [hl] at c1;simp at c1;omega
 rw [if_neg h7]
 refine qAb hT Tryz.func273 rfl rfl rfl rfl ?_;intro E hE
 refine ww ?_
 refine qAa rfl (fun c1=>?_) (fun c1=>?_)
 ·exfalso;rw [hl] at c1;simp at c1;omega
 refine ww ?_
 refine qAm (ι:=Nat) (fun i=>[(0,.d (.sl 1 (qAx v))),(4,.I ((nbN (v.take i):Nat):Int)),(10,.d (.sl 1 (qAx v))),(11,.I ((qAx v).length:Int)),(12,.I (i:Int))]) (fun _=>[]) (fun i=>i≤v.length) (fun i=>v.length-i) 0 (by omega) yf (HLe.refl _) ?_
 intro i hi
 have hwr:IntKind.i64.wrap ((i:Int)+1)=((i+1:Nat):Int):=by rw [qAf (by omega)];simp
 refine ww ?_
 refine qAa rfl (fun c2=>?_) (fun c2=>?_)
 ·have c2':i < v.length:=by rw [hl] at c2;simpa using c2
  have hel:(qAx v)[((i:Int)).toNat]?=some [.int .u8 (v[i].toNat:Int)]:=by simp [qAx,c2']
  have htk:nbN (v.take (i+1))=256*nbN (v.take i)+v[i].toNat:=by rw [List.take_succ_eq_append_getElem c2',nbN_snoc]
  have hlt:nbN (v.take i) < 256 ^ 6:=Nat.lt_of_lt_of_le (nbN_lt _) (Nat.pow_le_pow_right (by omega) (by rw [List.length_take];omega))
  have h6:(256:Nat) ^ 6=281474976710656:=by decide
  rw [h6] at hlt
  have hc:=UInt8.toNat_lt v[i]
  generalize v[i]=c at hel htk hc
  generalize nbN (v.take i)=n at htk hlt
  have hb8:IntKind.i64.wrap (c.toNat:Int)=(c.toNat:Int):=qAf (by omega)
  have hs8:IntKind.i64.wrap ((n:Int)*2 ^ (min (Int.toNat 8) IntKind.i64.bits))=((n*2 ^ 8:Nat):Int):=by
   rw [show min (Int.toNat 8) IntKind.i64.bits=8 from rfl,qAf (by omega)];omega
  have hw1:IntKind.i64.wrap ((BitVec.ofInt IntKind.i64.bits (IntKind.i64.wrap ((n:Int)*2 ^ (min (Int.toNat 8) IntKind.i64.bits))) ||| BitVec.ofInt IntKind.i64.bits (IntKind.i64.wrap (c.toNat:Int))).toNat:Int)=((nbN (v.take (i+1)):Nat):Int):=by
   rw [hb8,hs8,vHe (by omega) (by omega),vDk n c.toNat 8 (by omega),htk];congr 1;omega
  refine ww ?_
  refine wwi hel ?_
  refine ww ?_
  exact ⟨i+1,by omega,by omega,⟨.refl _,.int hw1,.refl _,.refl _,.int hwr,trivial⟩,HLe.refl _⟩
 ·have c2':i=v.length:=by rw [hl] at c2;simp at c2;omega
  subst c2'
  rw [List.take_length]
  refine ww ?_
  exact wwr
def qFl (n:Nat) (es:List (List Dat)):Nat:=(es.length+(n-1)) / n
def qQg (n:Nat) (es:List (List Dat)) (k:Nat):AV:=.d (.sl 1 ((es.drop (k*n)).take n))
def qFc (n:Nat) (es:List (List Dat)):List AV:=(List.range (qFl n es)).map (qQg n es)
theorem qVo {n:Nat} {es:List (List Dat)} {k:Nat} (hn:1≤n):k < qFl n es↔k*n < es.length:=by
 unfold qFl
 rw [← Nat.succ_le_iff,Nat.le_div_iff_mul_le (by omega),Nat.succ_mul]
 omega
theorem qSv (i j n:Nat) (es:List (List Dat)) (hn:1≤n∧n≤1000000000) (hl:es.length≤1000000000) :
  SeqOk Tryz.prog 527 [.ptr i 0,.ptr j 0] (fun h=>h[i]?=some (.row [.d (.sl 1 es)])∧h[j]?=some (.row [.I (n:Int)])) (qFc n es):=by
 refine qTh Tryz.func527 rfl rfl rfl rfl ?_
 intro E l Hs hok hY
 have hlen:(qFc n es).length=qFl n es:=by simp [qFc]
 rw [hlen]
 refine qIz (qEt (.inl rfl) rfl ?_)
 refine wws ?_
 refine qMb (vAt (ι:=Nat) (fun k=>[(0,.fn (.yield l) [] []),(1,.ptr i 0),(2,.ptr j 0),(4,.I ((k*n:Nat):Int))]) (fun k=>Hs k) (fun k=>k≤qFl n es) (fun k=>qFl n es-k) 0 (Nat.zero_le _) ⟨.refl _,.refl _,.refl _,AV.le.int (by simp),trivial⟩ (HLe.refl _) ?_)
 intro k hk
 obtain ⟨h1,h2⟩:=hok k
 have hlt:=qVo (n:=n) (es:=es) (k:=k) hn.1
 have hkn:k*n≤es.length+n:=by
  by_cases h0:k=0
  ·subst h0;simp
  ·have:(k-1)*n < es.length:=(qVo hn.1).1 (by omega)
   have h3:k*n=(k-1)*n+n:=by rw [← Nat.succ_mul];congr 1;omega
   omega
 refine qIz (qIz (qEt (.inl rfl) rfl ?_))
 refine wws ?_
 refine qAe (qCj hT rfl rfl h1 rfl rfl rfl) rfl ?_
 refine wws ?_
 refine qRi rfl (fun c1=>?_) (fun c1=>?_)
 ·have c1':k*n < es.length:=Int.ofNat_lt.1 (of_decide_eq_true c1)
  have hk':=hlt.2 c1'
  have hy:=hY k (qQg n es k) (by simp [qFc,hk'])
  refine qWa ?_
  refine qIz (qMb (qIz ?_))
  refine vAu (.inl rfl) (fun _=>List.range (Hs k).length) (fun _=>[]) mixed rfl (by kernel_rfl) ?_
  refine qBs (qCj hT rfl rfl h2 rfl rfl rfl) rfl rfl ?_
  refine qBs (qCj hT rfl rfl h1 rfl rfl rfl) rfl rfl ?_
  refine wws ?_
  refine qBs (qAc (qSh (t2:=#[]) rfl rfl rfl)) rfl rfl ?_
  refine wws ?_
  have hmn:(if (((es.drop (k*n)).length:Nat):Int) < (n:Int) then (((es.drop (k*n)).length:Nat):Int) else (n:Int))=((min n (es.length-k*n):Nat):Int):=by
   rw [List.length_drop];split <;> omega
  have htk:(es.drop (k*n)).take (k*n+min n (es.length-k*n)-k*n)=(es.drop (k*n)).take n:=by
   rw [Nat.add_sub_cancel_left]
   rcases Nat.le_total n (es.length-k*n) with h | h
   ·rw [Nat.min_eq_left h]
   ·rw [Nat.min_eq_right h,List.take_of_length_le (by simp),List.take_of_length_le (by simp;omega)]
  refine qVz (l:=[(0,.fn (.yield l) [] []),(1,.ptr i 0),(2,.ptr j 0),(4,.I ((k*n:Nat):Int)),(5,.I ((min n (es.length-k*n):Nat):Int))]) (h':=Hs k) ⟨.refl _,.refl _,.refl _,.refl _,AV.le.int hmn,trivial⟩ (HLe.refl _) ?_
  refine qIz (qMa (.inl rfl) ?_)
  have hadd:IntKind.i64.wrap (((k*n:Nat):Int)+((min n (es.length-k*n):Nat):Int))=((k*n+min n (es.length-k*n):Nat):Int):=by rw [qAf (by omega)];omega
  refine qOs (.inl rfl) (pre:=[_,_,_,_,_,_,_,_,_,_]) _ _ rfl ?_
  refine wws ?_
  refine qAe (qCj hT rfl rfl h1 rfl rfl rfl) rfl ?_
  refine wws ?_
  refine qAe (qAc (vFr (l:=k*n) (r:=k*n+min n (es.length-k*n)) hT rfl rfl rfl rfl (by exact congrArg (fun z=>AV.d (.int .i64 z)) hadd) (by exact congrArg (fun z=>AV.d (.int .i64 z)) hadd) (by omega) rfl)) rfl ?_
  rw [htk]
  refine wws ?_
  refine vGi (vBc rfl rfl rfl hy) rfl ?_
  refine qVx (.inl rfl) _ _ _ rfl ?_
  refine wws ?_
  refine qRi rfl (fun c2=>?_) (fun c2=>?_)
  ·exact absurd c2 (by simp)
  refine qWa ?_
  refine qEt (.inl rfl) rfl ?_
  refine wws ?_
  obtain ⟨h1',h2'⟩:=hok (k+1)
  refine qAe (qCj hT rfl rfl h2' rfl rfl rfl) rfl ?_
  refine wws ?_
  exact ⟨k+1,hk',by omega,⟨.refl _,.refl _,.refl _,AV.le.int (by rw [qAf (by omega),Nat.succ_mul];omega),trivial⟩,HLe.refl _⟩
 ·have c1':¬ k*n < es.length:=fun h=>(of_decide_eq_false c1) (Int.ofNat_lt.2 h)
  have hk':k=qFl n es:=by
   have:¬ k < qFl n es:=fun h=>c1' (hlt.1 h)
   omega
  subst hk'
  exact vDh ⟨.inl rfl,rfl⟩
theorem qXm (es:List (List Dat)) (n:Nat) (hn:1≤n∧n≤1000000000):Spec Tryz.prog 432 [.d (.sl 1 es),.I (n:Int)] [.room,.room]
  (fun r h'=>r=.fn (.func 527) [] [.ptr 0 0,.ptr 1 0]∧h'=[.row [.d (.sl 1 es)],.row [.I (n:Int)]]):=by
 refine qAb hT Tryz.func432 rfl rfl rfl rfl ?_;intro E hE
 refine qAg (qAd ?_)
 refine qAe (boxAt_ok (i0:=0) rfl rfl rfl) rfl ?_
 refine qAe (boxAt_ok (i0:=1) rfl rfl rfl) rfl ?_
 refine ww ?_
 refine qAa rfl (fun c1=>?_) (fun c1=>?_)
 ·exact absurd c1 (by simp;omega)
 refine ww ?_
 exact wwr
theorem sumTo_succ (b:List UInt8) (n:Nat):qPa b (n+1)=qWx (qPa b n) (((qWj b).drop (64*n)).take 64):=rfl
def vBo (v:Vw) (i:Nat):List UInt8:=(((vwL v).take i).map qEa).flatten
theorem outN_succ (v:Vw) {i:Nat} (h:i < 8):vBo v (i+1)=vBo v i++qEa ((vwL v).getD i 0):=by
 have hl:(vwL v).length=8:=rfl
 unfold vBo
 rw [List.take_add_one,List.map_append,List.flatten_append]
 simp [hl,h]
theorem outN_length (v:Vw):∀ i,i≤8→(vBo v i).length=4*i
 | 0,_=>rfl
 | i+1,h=>by rw [outN_succ v (by omega),List.length_append,outN_length v i (by omega)];rfl
theorem outN_all (v:Vw):vBo v 8=vGq v:=(outW_eq v).symm
theorem qVv (b:List UInt8) (hb:b.length≤900000):Spec Tryz.prog 310 [.d (.sl 1 (qAx b))] [] (fun r h'=>r=.d (.sl 1 (qAx (qOt b)))∧h'=[]):=by
 have hpl:=padW_length b
 have hpad:=vCw b hb
 have hsum:=sumW_to b
 have hsucc:=sumTo_succ b
 have hz:qMf (qPa b 0)=qMf qUn:=rfl
 generalize qOt b=fin at hsum
 subst hsum
 generalize qPa b=sf at hsucc hz
 generalize qWj b=p at hpl hpad hsucc
 obtain ⟨kk,hkk⟩:∃ kk,p.length / 64=kk:=⟨_,rfl⟩
 rw [hkk]
 have hel:=encB_length p
 have hcn:qFl 64 (qAx p)=kk:=by unfold qFl;rw [hel];omega
 have hck:=qXm (qAx p) 64 (by omega)
 have hsq:=qSv 1 2 64 (qAx p) (by omega) (by omega)
 have hxl:(qFc 64 (qAx p)).length=kk:=by simp [qFc,hcn]
 obtain ⟨Hs,hHs⟩:∃ Hs:Nat→List AObj,Hs=fun k=>[.row [.d (.sl 1 (qMf (sf k)))],.row [.d (.sl 1 (qAx p))],.row [.I (64:Nat)]]:=⟨_,rfl⟩
 refine qOh hT Tryz.func310 rfl rfl rfl rfl ?_
 intro E hE
 refine qUg ?_
 refine ww ?_
 refine qUg ?_
 refine ww ?_
 refine wwc qWd ?_
 refine ww ?_
 refine vDc (Qx:=fun e τ' h'=>e=.normal∧SubL τ' [(3,.ptr 0 0)]∧h'=Hs kk) (qUg ?_) ?_ ?_
 ·refine qAt (qAt ?_)
  refine ww ?_
  refine wwc hpad ?_
  refine ww ?_
  refine qAe (qSx rfl rfl hck [1,2] (by decide) rfl rfl rfl rfl rfl rfl rfl) rfl ?_
  refine ww ?_
  refine qVw (l:=[(11,.fn (.func 527) [] [.ptr 1 0,.ptr 2 0]),(3,.ptr 0 0)]) (h':=Hs 0) yf (by rw [hHs];exact ⟨ObLe.row (by rw [hz]),ObLe.refl _,ObLe.refl _,trivial⟩) ?_
  refine vAm (qXp Hs rfl hsq rfl (fun k=>by rw [hHs];exact ⟨rfl,rfl⟩) rfl (fun k=>by rw [hHs];rfl) (fun k=>by rw [hHs];rfl)
   (fun x=>look ((4,x)::(12,x)::[(11,.fn (.func 527) [] [.ptr 1 0,.ptr 2 0]),(3,.ptr 0 0)])) ?_ ?_ ?_)
  ·rintro k x hx E' l
   have hx':x=qQg 64 (qAx p) k:=by
    have hlt:k < qFl 64 (qAx p):=by have:=(List.getElem?_eq_some_iff.1 hx).1;simpa [qFc] using this
    simp [qFc,hlt] at hx
    exact hx.symm
   subst hx'
   refine qEt (.inr ⟨l,rfl⟩) rfl ?_
   show AWk _ _ _ _ _ _ (look ((12,qQg 64 (qAx p) k)::[(11,.fn (.func 527) [] [.ptr 1 0,.ptr 2 0]),(3,.ptr 0 0)])) _
   refine wws ?_
   exact ⟨rfl,rfl,rfl⟩
  ·rintro k x hx E' l hE'
   have hlt:k < kk:=by have:=(List.getElem?_eq_some_iff.1 hx).1;omega
   have hx':x=.d (.sl 1 (qAx ((p.drop (64*k)).take 64))):=by
    have hlt:k < qFl 64 (qAx p):=by omega
    simp [qFc,hlt] at hx
    rw [← hx]
    unfold qQg qAx
    rw [List.map_take,List.map_drop,Nat.mul_comm]
   subst hx'
   have hcp:=qOo (sf k) ((p.drop (64*k)).take 64) (by rw [List.length_take,List.length_drop];omega)
   rw [← hsucc k] at hcp
   refine qVz (l:=[(4,.d (.sl 1 (qAx ((p.drop (64*k)).take 64)))),(3,.ptr 0 0)]) yf (HLe.refl _) ?_
   subst hHs
   refine qMb (qEt (.inr ⟨l,rfl⟩) rfl ?_)
   refine wws ?_
   refine wwc hcp ?_
   refine wws ?_
   exact ⟨rfl,[],HLe.refl _⟩
  ·exact ⟨rfl,yf,by rw [hxl]⟩
 ·rintro E2 hE2 τ' h' ⟨_,hs,rfl⟩
  subst hHs
  refine qVw (h':=[.row [.d (.sl 1 (qMf (sf kk)))],.dead,.dead]) hs ⟨ObLe.refl _,trivial,trivial,trivial⟩ ?_
  refine vIp ?_
  generalize sf kk=v
  refine qAt ?_
  refine qAg (qAd ?_)
  refine wws ?_
  refine qBj 5 1 3 (es:=[]) (.inr ⟨rfl,rfl⟩) rfl ?_
  refine ww ?_
  refine qAm (ι:=Nat) (fun i=>[(5,.sl 1 (qAx (vBo v i)) (.right 3)),(19,.d (.sl 1 (qMf v))),(20,.I 8),(21,.I (i:Int))]) (fun i=>[.row [.d (.sl 1 (qMf v))],.dead,.dead,.right 1 (qAx (vBo v i)).length]) (fun i=>i≤8) (fun i=>8-i) 0 (Nat.zero_le _)
   yf (HLe.refl _) ?_
  intro i hi
  have hol:=encB_length (vBo v i)
  have hln:=outN_length v i hi
  refine ww ?_
  refine qAa rfl (fun c1=>?_) (fun c1=>?_)
  ·have hi':i < 8:=by simp at c1;omega
   have hv:=encW_at v hi'
   have hs:=outN_succ v hi'
   refine ww ?_
   refine wwi hv ?_
   refine ww ?_
   refine wwc (bytesOf_spec ((vwL v).getD i 0)) ?_
   refine ww ?_
   refine qAe (qAs (i:=3) hT rfl rfl rfl rfl rfl rfl (by show ((qAx (vBo v i)).length+4)*(1+1)≤_;omega)) rfl ?_
   refine ww ?_
   exact ⟨i+1,hi',by omega,⟨.slt (by rw [hs,encB_append]),.refl _,.refl _,.int (by rw [qAf (by omega)];omega),trivial⟩,⟨ObLe.refl _,ObLe.refl _,ObLe.refl _,⟨rfl,by rw [hs,encB_append]⟩,trivial⟩⟩
  ·have hi':i=8:=by simp at c1;omega
   subst hi'
   rw [outN_all]
   refine ww ?_
   refine rq ⟨rfl,rfl⟩ rfl AV.le.dat
 ·rintro e τ' h' he ⟨h1,_⟩
  exact absurd h1 he
theorem vGu (n:Nat):(List.replicate n [AV.d (.int .u8 0)]).flatten=qBa (List.replicate n 0):=by
 rw [qKe];unfold qBa;rw [List.map_replicate];rfl
theorem vAj (n:Nat) (hn:1≤n∧n≤1000000):Spec Tryz.prog 436 [.nils,.I (n:Int)] [.room] (fun r h'=>∃ cap:Nat,n≤cap∧r=.row 0 0 0 cap∧h'=[.row (qBa (List.replicate n 0))]):=by
 refine qAb hT Tryz.func436 rfl rfl rfl rfl ?_;intro E hE
 refine ww ?_
 refine qAa rfl (fun c1=>?_) (fun c1=>?_)
 ·exact absurd c1 (by simp)
 refine ww ?_
 refine qAe (qAc (capNil_ok (sz:=1) hT rfl rfl rfl)) rfl ?_
 refine ww ?_
 refine qAa rfl (fun c2=>?_) (fun c2=>?_)
 ·refine ww ?_
  refine qAe (qAc (capNil_ok (sz:=1) hT rfl rfl rfl)) rfl ?_
  refine qAe (qAc (nilCut_ok (sz:=1) hT rfl rfl rfl rfl)) rfl ?_
  refine ww ?_
  refine qDp (growMake_ok (k':=.i64) (n:=n) (i0:=0) (sz:=1) hT rfl rfl rfl (.inr rfl) ?_ ⟨by omega,by decide⟩ (by show n*(1+1)≤_;omega) rfl) rfl ?_
  ·exact congrArg (fun z=>AV.d (.int .i64 z)) (by show IntKind.i64.wrap ((n:Int)-IntKind.i64.wrap (0-0))=(n:Int);rw [show IntKind.i64.wrap ((0:Int)-0)=0 from rfl,qAf (by omega)];omega)
  rintro v h' ⟨cap,hcap,rfl,rfl⟩
  rw [vGu]
  refine ww ?_
  refine qAe (qAc (qYk (sz:=1) (l:=0) (r:=0) (v:=.row 0 0 0 cap) hT rfl rfl rfl rfl ⟨_,rfl⟩ (by omega) (by omega) (by simp))) rfl ?_
  refine ww ?_
  exact rq (h6:=by show (qBe 1 (qBa _)&&true)=true;rw [Bool.and_true];exact lowL_bytes _ _) ⟨cap,hcap,rfl,rfl⟩ rfl (.refl _)
 ·exfalso
  rw [qAf (n:=0-0) (by omega),qAf (by omega)] at c2
  simp at c2
  omega
theorem qYe:∀ (new:List UInt8) (pre old post:List UInt8),old.length=new.length→qCk (qBa (pre++old++post)) pre.length (qBa new)=qBa (pre++new++post)
 | [],pre,old,post,h=>by cases old with | nil=>rfl | cons _ _=>simp at h
 | c::new,pre,old,post,h=>by
  cases old with
  | nil=>simp at h
  | cons d old =>
   have e:(qBa (pre++d::old++post)).set pre.length (.d (.int .u8 (c.toNat:Int)))=qBa ((pre++[c])++old++post):=by
    unfold qBa
    rw [List.append_assoc,List.map_append,List.set_append_right _ _ (by simp)]
    simp
   have ih:=qYe new (pre++[c]) old post (by simpa using h)
   show qCk ((qBa (pre++d::old++post)).set pre.length (.d (.int .u8 (c.toNat:Int)))) (pre.length+1) (qBa new)=_
   rw [e]
   simpa using ih
theorem setRun_fill (pre new:List UInt8) {k:Nat} (h:new.length≤k):qCk (qBa (pre++List.replicate k 0)) (pre.length*1) (qDy (qAx new))=qBa (pre++new++List.replicate (k-new.length) 0):=by
 have e:List.replicate k (0:UInt8)=List.replicate new.length 0++List.replicate (k-new.length) 0:=by rw [List.replicate_append_replicate];congr 1;omega
 rw [flatAV_encB,Nat.mul_one,e,← List.append_assoc]
 exact qYe new pre _ _ (by simp)
theorem qLv (l:List (List UInt8)) (hl:l.length≤10) (h0:1≤l.flatten.length) (hb:l.flatten.length≤900000):Spec Tryz.prog 311 [.d (.sl 1 (qQd l))] [] (fun r h'=>r=.d (.sl 1 (qAx l.flatten))∧h'=[]):=by
 have hll:=encBs_length l
 have hle:=flatN_le l
 have hall:=flatN_all l
 have hsuc:∀ i,i < l.length→qJu l (i+1)=qJu l i++l.getD i []:=fun i h=>flatN_succ h
 have hz:qJu l 0=[]:=rfl
 have hg:=vAj l.flatten.length (by omega)
 generalize qJu l=fl at hle hall hsuc hz
 generalize l.flatten=tot at *
 refine qAb hT Tryz.func311 rfl rfl rfl rfl ?_;intro E hE
 refine ww ?_
 refine qAm (ι:=Nat) (fun i=>[(0,.d (.sl 1 (qQd l))),(3,.I ((fl i).length:Int)),(9,.d (.sl 1 (qQd l))),(10,.I (l.length:Int)),(11,.I (i:Int))]) (fun _=>[]) (fun i=>i≤l.length) (fun i=>l.length-i) 0 (Nat.zero_le _)
  ⟨.refl _,.int (by rw [hz];rfl),.refl _,.int (by rw [hll]),.refl _,trivial⟩ (HLe.refl _) ?_
 intro i hi
 refine ww ?_
 refine qAa rfl (fun c1=>?_) (fun c1=>?_)
 ·have hi':i < l.length:=by simp at c1;omega
  have hat:=encBs_at hi'
  have h1:=hle (i+1) hi'
  have hs:=hsuc i hi'
  have hlen:(fl (i+1)).length=(fl i).length+(l.getD i []).length:=by rw [hs,List.length_append]
  generalize l.getD i []=s at hat hs hlen
  have hel:=encB_length s
  refine ww ?_
  refine wwi hat ?_
  refine ww ?_
  refine qAa rfl (fun c2=>?_) (fun c2=>?_)
  ·exfalso
   rw [hel,qAf (by omega)] at c2
   simp at c2
   omega
  refine ww ?_
  exact ⟨i+1,hi',by omega,⟨.refl _,.int (by rw [hel,hlen,qAf (by omega)];omega),.refl _,.refl _,.int (by rw [qAf (by omega)];omega),trivial⟩,HLe.refl _⟩
 have hi':i=l.length:=by simp at c1;omega
 subst hi'
 rw [hall]
 refine qAt ?_
 refine ww ?_
 refine qUh (vIh rfl rfl hg [0] (by decide) rfl rfl rfl rfl (fun _=>by show (qBe 0 (qBa _)&&true)=true;rw [Bool.and_true];exact lowL_bytes _ _) (fun _=>rfl) (fun _=>rfl)) rfl ?_
 intro cap hcap
 refine ww ?_
 refine qAm (ι:=Nat) (fun i=>[(6,.row 0 0 (fl i).length cap),(25,.d (.sl 1 (qQd l))),(26,.I (l.length:Int)),(27,.I (i:Int))]) (fun i=>[.row (qBa (fl i++List.replicate (tot.length-(fl i).length) 0))]) (fun i=>i≤l.length) (fun i=>l.length-i) 0 (Nat.zero_le _)
  ⟨by rw [hz];exact .refl _,.refl _,.int (by rw [hll]),.refl _,trivial⟩ ⟨ObLe.row (by rw [hz];rfl),trivial⟩ ?_
 intro i hi
 refine ww ?_
 refine qAa rfl (fun c1=>?_) (fun c1=>?_)
 ·have hi':i < l.length:=by simp at c1;omega
  have hat:=encBs_at hi'
  have h1:=hle (i+1) hi'
  have hs:=hsuc i hi'
  have hlen:(fl (i+1)).length=(fl i).length+(l.getD i []).length:=by rw [hs,List.length_append]
  generalize l.getD i []=s at hat hs hlen
  have hel:=encB_length s
  have hfill:=setRun_fill (fl i) s (k:=tot.length-(fl i).length) (by omega)
  rw [← hs,show tot.length-(fl i).length-s.length=tot.length-(fl (i+1)).length by omega] at hfill
  refine ww ?_
  refine wwi hat ?_
  refine ww ?_
  refine qAe (appRowD_ok (i:=0) (es2:=qAx s) hT rfl rfl rfl rfl rfl rfl (by rw [hel];omega) (by show ((fl i).length+(qAx s).length)*1≤_;rw [hel,byteAV_length,List.length_append,List.length_replicate];omega)) rfl ?_
  refine ww ?_
  exact ⟨i+1,hi',by omega,⟨by rw [hel,← hlen];exact .refl _,.refl _,.refl _,.int (by rw [qAf (by omega)];omega),trivial⟩,⟨ObLe.row hfill,trivial⟩⟩
 have hi':i=l.length:=by simp at c1;omega
 subst hi'
 refine qCx ?_
 refine qAk (l:=[(6,.row 0 0 tot.length cap)]) (h':=[.row (qBa tot)]) ⟨by rw [hall];exact .refl _,trivial⟩ ⟨ObLe.row (by rw [hall,Nat.sub_self];simp),trivial⟩ ?_
 refine qLz 6 0 1 (qAx tot) rfl rfl (encB_length tot) hcap (qFy tot) ?_
 refine ww ?_
 exact wwr
theorem nbV_eq (v:List UInt8):nbV v=nbN v:=rfl
theorem qOw (b more:List UInt8) (h1:1≤more.length) (hl:b.length+more.length≤800000):Spec Tryz.prog 213 [.d (.sl 1 (qAx b)),.d (.sl 1 (qAx more))] [] (fun r h'=>r=.d (.sl 1 (qAx (qOt (b++more))))∧h'=[]):=by
 have hf:[b,more].flatten=b++more:=by simp
 have hc:=qLv [b,more] (by simp) (by rw [hf,List.length_append];omega) (by rw [hf,List.length_append];omega)
 have hs:=qVv (b++more) (by rw [List.length_append];omega)
 rw [hf] at hc
 generalize b++more=bm at hc hs
 refine qAb hT Tryz.func213 rfl rfl rfl rfl ?_;intro E hE
 refine ww ?_
 refine wwc hc ?_
 refine ww ?_
 refine wwc hs ?_
 refine ww ?_
 exact wwr
theorem vAk (seed:List UInt8) (n:Nat) (hs:seed.length≤500000) (h1:1≤n) (hn:n≤1024):Spec Tryz.prog 148 [.d (.sl 1 (qAx seed)),.I (n:Int)] [] (fun r h'=>r=.tup [.d (.sl 1 (qAx (qMk seed n))),.d (.sl 1 (qAx (qDk seed))),.I 0]∧h'=[]):=by
 have hdq:∀ i,n≤32*i→32*i < n+32→qMk seed n=(qLi seed i).take n:=drawS_eq seed n
 have hsu:∀ i,qLi seed (i+1)=qLi seed i++qOt (seed++1::qBi 4 i):=drawN_succ seed
 have hln:∀ i,(qLi seed i).length=32*i:=drawN_length seed
 have hz:qLi seed 0=[]:=rfl
 have hnx:=qOw seed [0] (by simp) (by simp;omega)
 have hnx2:qDk seed=qOt (seed++[0]):=rfl
 rw [← hnx2] at hnx
 generalize qDk seed=nx at hnx
 generalize qMk seed n=fin at hdq
 generalize qLi seed=dn at hdq hsu hln hz
 refine qAb hT Tryz.func148 rfl rfl rfl rfl ?_;intro E hE
 refine qAt ?_
 refine qAg (qAd ?_)
 refine wws ?_
 refine qBj 4 1 0 (es:=[]) (.inr ⟨rfl,rfl⟩) rfl ?_
 refine ww ?_
 refine qAa rfl (fun c1=>?_) (fun c1=>?_)
 ·exact absurd c1 (by simp;omega)
 refine ww ?_
 refine qAm (ι:=Nat) (fun i=>[(0,.d (.sl 1 (qAx seed))),(1,.I (n:Int)),(4,.sl 1 (qAx (dn i)) (.right 0)),(7,.I (i:Int))]) (fun i=>[.right 1 (qAx (dn i)).length]) (fun i=>32*i < n+32) (fun i=>n+32-32*i) 0 (by omega)
  ⟨.refl _,.refl _,.slt (by rw [hz];rfl),.refl _,trivial⟩ ⟨⟨rfl,by rw [hz];rfl⟩,trivial⟩ ?_
 intro i hi
 have hl:=hln i
 have hel:=encB_length (dn i)
 refine ww ?_
 refine qAa rfl (fun c2=>?_) (fun c2=>?_)
 ·have c2':32*i < n:=by simp at c2;omega
  have hs1:=hsu i
  have hoc:=qHb i 4 (by omega) (by omega)
  have h5:([[Dat.int .u8 1]]++qAx (qBi 4 i):List (List Dat))=qAx (1::qBi 4 i):=rfl
  have hol:=octB_length 4 i
  have hw:=qOw seed (1::qBi 4 i) (by simp) (by simp;omega)
  have hsl:=sumW_length (seed++1::qBi 4 i)
  generalize qOt (seed++1::qBi 4 i)=sm1 at hs1 hw hsl
  have hes:=encB_length sm1
  refine ww ?_
  refine wwc hoc ?_
  refine ww ?_
  refine qAe (qCe (es:=[[.int .u8 1]]) hT rfl rfl rfl (.inl rfl) rfl (by show (1+(qAx (qBi 4 i)).length)*(1+1)≤140737488355328;rw [encB_length,hol];omega)) rfl ?_
  rw [h5]
  refine ww ?_
  refine wwc hw ?_
  refine ww ?_
  refine qAe (qAs (i:=0) hT rfl rfl rfl rfl rfl rfl (by show ((qAx (dn i)).length+(qAx sm1).length)*(1+1)≤_;omega)) rfl ?_
  refine ww ?_
  exact ⟨i+1,by omega,by omega,⟨.refl _,.refl _,.slt (by rw [hs1,encB_append]),.int (by rw [qAf (by omega)];omega),trivial⟩,⟨⟨rfl,by rw [hs1,encB_append]⟩,trivial⟩⟩
 have c2':n≤32*i:=by simp at c2;omega
 rw [hdq i c2' hi]
 refine qCx ?_
 refine qAk (l:=[(0,.d (.sl 1 (qAx seed))),(1,.I (n:Int)),(4,.d (.sl 1 (qAx (dn i))))]) (h':=[.dead]) ⟨.refl _,.refl _,.dat,trivial⟩ ⟨trivial,trivial⟩ ?_
 refine ww ?_
 refine qBs (qAc (vCj (r:=n) hT rfl rfl rfl rfl rfl (by omega) (congrArg (fun z=>AV.d (.sl 1 z)) (encB_take _ _)))) rfl rfl ?_
 refine ww ?_
 refine wwc hnx ?_
 refine ww ?_
 exact wwr
theorem qG_val:qG=1073741789:=rfl
theorem nbN_lt7 (v:List UInt8) (h:v.length≤7):nbN v < 72057594037927936:=by
 have:=nbN_lt v
 exact Nat.lt_of_lt_of_le this (Nat.le_trans (Nat.pow_le_pow_right (by omega) h) (by decide))
theorem qTi (seed:List UInt8) (hs:seed.length≤500000):Spec Tryz.prog 206 [.d (.sl 1 (qAx seed))] [] (fun r h'=>r=.tup [.I (qMc seed:Int),.d (.sl 1 (qAx (qDk seed)))]∧h'=[]):=by
 have hd:=vAk seed 8 hs (by omega) (by omega)
 have hsq:=secS_eq seed
 rw [nbV_eq] at hsq
 have hdl:=drawS_length seed 8
 generalize qMk seed 8=ds at hd hsq hdl
 generalize qDk seed=nx at hd
 have hnm:=qJl (ds.take 7) (by rw [List.length_take];omega)
 have hlt:=nbN_lt7 (ds.take 7) (by rw [List.length_take];omega)
 rw [show vEm (ds.take 7)=(((nbN (ds.take 7):Nat):Int),0) by unfold vEm;rw [if_neg (by rw [List.length_take];omega)]] at hnm
 have hel:=encB_length ds
 have hcut:(qAx ds).take (7:Int).toNat=qAx (ds.take 7):=encB_take _ _
 generalize nbN (ds.take 7)=nb at hnm hsq hlt
 refine qAb hT Tryz.func206 rfl rfl rfl rfl ?_;intro E hE
 refine ww ?_
 refine wwc hd ?_
 refine ww ?_
 rw [hcut]
 refine ww ?_
 refine wwc hnm ?_
 refine ww ?_
 refine rq ⟨rfl,rfl⟩ rfl (AV.le.tup ⟨.int ?_,.refl _,trivial⟩)
 have hq:=qG_val
 have hm:Int.tmod (nb:Int) 1073741788=((nb % (qG-1):Nat):Int):=rfl
 have hml:nb % (qG-1) < qG-1:=Nat.mod_lt _ (by decide)
 show IntKind.i64.wrap (1+Int.tmod (nb:Int) 1073741788)=_
 rw [hm,hsq,qAf (by omega)];omega
def qRr (k:Int):Bool:=decide (0 < k∧k < 1073741789)
theorem secF_nat {k:Nat} (h:1≤k∧k < qG):qRr (k:Int)=true:=by have:=qG_val;exact decide_eq_true (by omega)
theorem secF_get {k:Int} (h:qRr k=true):∃ n:Nat,k=(n:Int)∧1≤n∧n < qG:=by
 have hq:=qG_val
 have:=of_decide_eq_true h
 exact ⟨k.toNat,by omega,by omega,by omega⟩
theorem qRq (k:Int):Spec Tryz.prog 325 [.I k] [] (fun r h'=>r=.d (.bool (qRr k))∧h'=[]):=by
 refine qAb hT Tryz.func325 rfl rfl rfl rfl ?_;intro E hE
 refine ww ?_
 refine rq ⟨rfl,rfl⟩ rfl (.bool ?_)
 unfold qRr
 simp
def vIq (k:Int):Int:=if qRr k=true then ((qRx k.toNat:Nat):Int) else 0
def qWh (k:Int):Int:=if qRr k=true then 0 else 3
theorem qLn (k:Int):Spec Tryz.prog 226 [.I k] [] (fun r h'=>r=.tup [.I (vIq k),.I (qWh k)]∧h'=[]):=by
 have hs:=qRq k
 unfold vIq qWh
 refine qAb hT Tryz.func226 rfl rfl rfl rfl ?_;intro E hE
 refine ww ?_
 refine wwc hs ?_
 refine ww ?_
 refine qAa rfl (fun c1=>?_) (fun c1=>?_)
 ·have c1':¬ qRr k=true:=by simpa using c1
  rw [if_neg c1',if_neg c1']
  refine ww ?_
  exact wwr
 have c1':qRr k=true:=by simpa using c1
 rw [if_pos c1',if_pos c1']
 obtain ⟨n,rfl,h1,h2⟩:=secF_get c1'
 have hp:=powerK_spec 4 n (by decide) (by omega)
 rw [Int.toNat_natCast]
 unfold qRx
 generalize 4 ^ n % pG=p at hp
 refine ww ?_
 refine wwc hp ?_
 refine ww ?_
 exact wwr
theorem qXf (x k:Nat) (hx:1≤x∧x < pG) (hk:k≤qG):Spec Tryz.prog 360 [.I (x:Int),.I (k:Int)] [] (fun r h'=>r=.tup [.I ((x ^ k % pG:Nat):Int),.I 0]∧h'=[]):=by
 have hq:=qG_val
 have hpg:pG=2147483579:=rfl
 have hr:=qJc (x:Int)
 rw [show qHk (x:Int)=true by unfold qHk;exact decide_eq_true (by omega)] at hr
 have hp:=powerK_spec x k hx.2 hk
 generalize x ^ k % pG=p at hp
 refine qAb hT Tryz.func360 rfl rfl rfl rfl ?_;intro E hE
 refine ww ?_
 refine wwc hr ?_
 refine ww ?_
 refine qAa rfl (fun c1=>?_) (fun c1=>?_)
 ·exact absurd c1 (by simp;omega)
 refine ww ?_
 refine wwc hp ?_
 refine ww ?_
 exact wwr
theorem numS_eq (n:Nat) (msg:List UInt8) (m:Nat):qRk n msg m=nbV ((qOt (qBi 4 n++msg)).take 7) % m:=rfl
theorem qJa (n:Nat) (msg:List UInt8) (m:Nat) (hn:n < 4294967296) (hl:msg.length≤700000) (hm:1≤m∧m≤4294967296):Spec Tryz.prog 359 [.I (n:Int),.d (.sl 1 (qAx msg)),.I (m:Int)] [] (fun r h'=>r=.I ((qRk n msg m:Nat):Int)∧h'=[]):=by
 have hoc:=qHb n 4 (by omega) (by omega)
 have hol:=octB_length 4 n
 have hfl:[qBi 4 n,msg].flatten=qBi 4 n++msg:=by simp
 have hc:=qLv [qBi 4 n,msg] (by simp) (by rw [hfl,List.length_append];omega) (by rw [hfl,List.length_append];omega)
 have hs:=qVv (qBi 4 n++msg) (by rw [List.length_append];omega)
 have he:=numS_eq n msg m
 rw [hfl] at hc
 have hsl:=sumW_length (qBi 4 n++msg)
 generalize qOt (qBi 4 n++msg)=sm1 at hs he hsl
 generalize qBi 4 n++msg=bm at hc hs
 have hnm:=qJl (sm1.take 7) (by rw [List.length_take];omega)
 rw [show vEm (sm1.take 7)=(((nbN (sm1.take 7):Nat):Int),0) by unfold vEm;rw [if_neg (by rw [List.length_take];omega)]] at hnm
 have hel:=encB_length sm1
 have hcut:(qAx sm1).take (7:Int).toNat=qAx (sm1.take 7):=encB_take _ _
 rw [nbV_eq] at he
 generalize nbN (sm1.take 7)=nb at hnm he
 generalize qRk n msg m=fin at he
 subst he
 refine qAb hT Tryz.func359 rfl rfl rfl rfl ?_;intro E hE
 refine ww ?_
 refine wwc hoc ?_
 refine ww ?_
 refine wwc hc ?_
 refine ww ?_
 refine wwc hs ?_
 refine ww ?_
 rw [hcut]
 refine wwc hnm ?_
 refine ww ?_
 refine rq ⟨rfl,rfl⟩ rfl (.int rfl)
def vGp (k:Int) (msg:List UInt8):Int:=if qRr k=true then (((qKo k.toNat msg).1:Nat):Int) else 0
def vGo (k:Int) (msg:List UInt8):Int:=if qRr k=true then (((qKo k.toNat msg).2:Nat):Int) else 0
theorem signS_eq (k:Nat) (msg:List UInt8):qKo k msg=(qRk (qRx (1+qRk k msg (qG-1))) msg qG,(1+qRk k msg (qG-1)+qRk (qRx (1+qRk k msg (qG-1))) msg qG*k) % qG):=rfl
theorem vAb (k:Int) (msg:List UInt8) (hl:msg.length≤700000):Spec Tryz.prog 253 [.I k,.d (.sl 1 (qAx msg))] [] (fun r h'=>r=.tup [.agg [.I (vGp k msg),.I (vGo k msg)],.I (qWh k)]∧h'=[]):=by
 have hp:=qLn k
 unfold vGp vGo
 refine qAb hT Tryz.func253 rfl rfl rfl rfl ?_;intro E hE
 refine ww ?_
 refine wwc hp ?_
 refine ww ?_
 refine qAa rfl (fun c1=>?_) (fun c1=>?_)
 ·have c1':¬ qRr k=true:=by intro h;unfold qWh at c1;rw [if_pos h] at c1;simp at c1
  rw [if_neg c1',if_neg c1']
  refine ww ?_
  exact wwr
 have c1':qRr k=true:=by
  rcases Bool.eq_false_or_eq_true (qRr k) with h | h
  ·exact h
  ·unfold qWh at c1;rw [if_neg (by simp [h])] at c1;simp at c1
 rw [if_pos c1',if_pos c1']
 have he0:qWh k=0:=by unfold qWh;rw [if_pos c1']
 rw [he0]
 obtain ⟨n,rfl,h1,h2⟩:=secF_get c1'
 rw [Int.toNat_natCast]
 have hq:=qG_val
 have hpg:pG=2147483579:=rfl
 have hn1:=qJa n msg (qG-1) (by omega) hl (by decide)
 have hsg:=signS_eq n msg
 have hlt1:=numS_lt n msg (m:=qG-1) (by decide)
 generalize qRk n msg (qG-1)=a at hn1 hsg hlt1
 have hpw:=qXf 4 (1+a) (by decide) (by omega)
 have hps:qRx (1+a)=4 ^ (1+a) % pG:=rfl
 rw [← hps] at hpw
 have hpl:=pubS_lt (1+a)
 generalize qRx (1+a)=r at hpw hsg hpl
 have hn2:=qJa r msg qG (by omega) hl (by decide)
 have hlt2:=numS_lt r msg (m:=qG) (by decide)
 generalize qRk r msg qG=e at hn2 hsg hlt2
 rw [hsg]
 have hmul:e*n≤1152921504606846976:=Nat.le_trans (Nat.mul_le_mul (Nat.le_of_lt hlt2) (Nat.le_of_lt h2)) (by decide)
 have hw1:IntKind.i64.wrap (1+(a:Int))=((1+a:Nat):Int):=by rw [qAf (by omega)];omega
 have hw2:IntKind.i64.wrap ((e:Int)*(n:Int))=((e*n:Nat):Int):=by rw [← Int.natCast_mul];exact qAf (by omega)
 refine ww ?_
 refine wwc hn1 ?_
 refine ww ?_
 refine wwc hpw ?_
 refine ww ?_
 refine wwc hn2 ?_
 refine ww ?_
 refine rq ⟨rfl,rfl⟩ rfl (AV.le.tup ⟨AV.le.agg ⟨.refl _,.int ?_,trivial⟩,.refl _,trivial⟩)
 show Int.tmod (IntKind.i64.wrap (IntKind.i64.wrap (1+(a:Int))+IntKind.i64.wrap ((e:Int)*(n:Int)))) 1073741789=_
 rw [hw1,hw2,qAf (by omega),← Int.natCast_add]
 rfl
theorem strAt_nat (s:List UInt8) (i:Nat):qFp s (i:Int)=bI (s.getD i 0):=by
 unfold qFp bI
 rw [Int.toNat_natCast,List.getD_eq_getElem?_getD]
theorem allUp_of {s:List UInt8} (h:∀ j,j < s.length→qZe (s.getD j 0)=true):s.all qZe=true:=by
 rw [List.all_eq_true]
 intro c hc
 obtain ⟨j,hj,rfl⟩:=List.getElem_of_mem hc
 have:=h j hj
 rwa [List.getD_eq_getElem?_getD,List.getElem?_eq_getElem hj] at this
theorem allUp_not {s:List UInt8} {i:Nat} (hi:i < s.length) (h:qZe (s.getD i 0)=false):s.all qZe=false:=by
 rcases Bool.eq_false_or_eq_true (s.all qZe) with ha | ha
 ·rw [List.all_eq_true] at ha
  have:=ha s[i] (List.getElem_mem hi)
  rw [List.getD_eq_getElem?_getD,List.getElem?_eq_getElem hi] at h
  simp only [Option.getD_some] at h
  rw [this] at h;cases h
 ·exact ha
theorem qIw (s:List UInt8) (hs:s.length≤1000000000):Spec Tryz.prog 171 [.d (.str s)] [] (fun r h'=>r=.d (.bool (qDi s))∧h'=[]):=by
 refine qAb hT Tryz.func171 rfl rfl rfl rfl ?_;intro E hE
 refine ww ?_
 refine qAa rfl (fun c1=>?_) (fun c1=>?_)
 ·have:qDi s=false:=by
   unfold qDi
   rw [decide_eq_false (by simp at c1;omega)];rfl
  rw [this]
  refine ww ?_
  exact wwr
 have hlen:1≤s.length∧s.length≤3:=by simp at c1;omega
 have hsf:qDi s=s.all qZe:=by unfold qDi;rw [decide_eq_true hlen];rfl
 rw [hsf]
 refine ww ?_
 refine qAm (ι:=Nat) (fun i=>[(0,.d (.str s)),(13,.I (s.length:Int)),(14,.I (i:Int))]) (fun _=>[]) (fun i=>i≤s.length∧∀ j,j < i→qZe (s.getD j 0)=true) (fun i=>s.length-i) 0 ⟨Nat.zero_le _,fun j h=>by omega⟩
  yf (HLe.refl _) ?_
 intro i ⟨hi,hup⟩
 have hat:=strAt_nat s i
 refine ww ?_
 refine qAa rfl (fun c2=>?_) (fun c2=>?_)
 ·have hi':i < s.length:=by simp at c2;omega
  refine ww ?_
  refine qAa rfl (fun c3=>?_) (fun c3=>?_)
  ·have:s.all qZe=false:=by
    refine allUp_not hi' ?_
    rw [hat] at c3
    unfold qZe
    simp only [Bool.or_eq_true,decide_eq_true_eq] at c3
    exact decide_eq_false (by omega)
   rw [this]
   refine ww ?_
   exact wwr
  refine ww ?_
  refine ⟨i+1,⟨hi',fun j hj=>?_⟩,by omega,⟨.refl _,.refl _,.int (by rw [qAf (by omega)];omega),trivial⟩,HLe.refl _⟩
  rcases Nat.lt_or_ge j i with h | h
  ·exact hup j h
  ·have:j=i:=by omega
   subst this
   rw [hat] at c3
   unfold qZe
   simp only [Bool.or_eq_false_iff,decide_eq_false_iff_not] at c3
   exact decide_eq_true (by omega)
 have hi':i=s.length:=by simp at c2;omega
 subst hi'
 rw [allUp_of hup]
 refine ww ?_
 exact wwr
theorem qHa (n:Int):Spec Tryz.prog 191 [.I n] [] (fun r h'=>r=.d (.bool (qDx n))∧h'=[]):=by
 refine qAb hT Tryz.func191 rfl rfl rfl rfl ?_;intro E hE
 refine ww ?_
 refine rq ⟨rfl,rfl⟩ rfl (.bool ?_)
 unfold qDx
 rw [Bool.eq_iff_iff]
 simp
theorem chk3 (a b d:Bool) (x y k:Int):((!a||!b||!d||!((x == y) == (k == 1)))=true)↔(a=false∨b=false∨d=false∨(decide (x=y)≠decide (k=1))):=by
 rw [show (x == y)=decide (x=y) from rfl,show (k == 1)=decide (k=1) from rfl]
 generalize decide (x=y)=u
 generalize decide (k=1)=v
 cases a <;> cases b <;> cases d <;> cases u <;> cases v <;> simp
theorem qXn (c:Nal) (hs:c.sta.length≤1000000000):Spec Tryz.prog 444 [vBt c] [] (fun r h'=>r=.I (qFd c)∧h'=[]):=by
 have hst:=qIw c.sta hs
 have h1:=qHa c.num
 have h2:=qHa c.iss
 have h3:=qHa c.own
 have hel:=qJm c.key
 unfold qFd
 refine qAb hT Tryz.func444 rfl rfl rfl rfl ?_;intro E hE
 refine ww ?_
 refine wwc hst ?_
 refine ww ?_
 refine qAa rfl (fun c1=>?_) (fun c1=>?_)
 ·rw [if_pos (by simpa using c1)]
  refine ww ?_
  exact wwr
 rw [if_neg (by simpa using c1)]
 refine ww ?_
 refine qAa rfl (fun c2=>?_) (fun c2=>?_)
 ·rw [if_pos (by simp at c2;omega)]
  refine ww ?_
  exact wwr
 rw [if_neg (by simp at c2;omega)]
 refine ww ?_
 refine wwc h1 ?_
 refine ww ?_
 refine wwgc h2 ?_
 refine ww ?_
 refine wwgc h3 ?_
 refine ww ?_
 refine qAa rfl (fun c3=>?_) (fun c3=>?_)
 ·rw [if_pos ((chk3 _ _ _ _ _ _).1 c3)]
  refine ww ?_
  exact wwr
 rw [if_neg (fun h=>by rw [(chk3 _ _ _ _ _ _).2 h] at c3;cases c3)]
 refine ww ?_
 refine wwc hel ?_
 refine ww ?_
 refine qAa rfl (fun c4=>?_) (fun c4=>?_)
 ·rw [if_pos (by simpa using c4)]
  refine ww ?_
  exact wwr
 rw [if_neg (by simpa using c4)]
 refine ww ?_
 refine qAa rfl (fun c5=>?_) (fun c5=>?_)
 ·rw [if_pos (by simp at c5;omega)]
  refine ww ?_
  exact wwr
 rw [if_neg (by simp at c5;omega)]
 refine ww ?_
 exact wwr
theorem octB_at:∀ (m n k:Nat),k < m→(qBi m n)[k]?=some (UInt8.ofNat (n / 256 ^ (m-1-k) % 256))
 | 0,n,k,h=>by omega
 | m+1,n,0,h=>by rw [octB_succ];simp
 | m+1,n,k+1,h=>by
  rw [octB_succ,List.getElem?_cons_succ,octB_at m n k (by omega),show m+1-1-(k+1)=m-1-k by omega]
theorem octB_take (m n k:Nat) (h:k < m):(qBi m n).take (k+1)=(qBi m n).take k++[UInt8.ofNat (n / 256 ^ (m-1-k) % 256)]:=by
 rw [List.take_add_one,octB_at m n k h];rfl
def qNg (m:Nat) (l:List Nat) (i:Nat):List UInt8:=((l.take i).map (qBi m)).flatten
theorem wideN_succ (m:Nat) {l:List Nat} {i:Nat} (h:i < l.length):qNg m l (i+1)=qNg m l i++qBi m (l.getD i 0):=by
 unfold qNg
 rw [List.take_add_one,List.map_append,List.flatten_append,List.getElem?_eq_getElem h]
 simp [h]
theorem wideN_length (m:Nat) (l:List Nat):∀ i,i≤l.length→(qNg m l i).length=m*i
 | 0,_=>rfl
 | i+1,h=>by rw [wideN_succ m (by omega),List.length_append,wideN_length m l i (by omega),octB_length,Nat.mul_succ]
def vBf (m:Nat) (l:List Nat):List UInt8:=qNg m l l.length
theorem qGi (m:Nat) (l:List Nat) (hm:m≤7) (hl:l.length≤1000) (hn:∀ n,n∈l→n < 9223372036854775808):Spec Tryz.prog 267 [.I (m:Int),.d (.sl 1 (encNs' l))] [] (fun r h'=>r=.d (.sl 1 (qAx (vBf m l)))∧h'=[]):=by
 have hll:(encNs' l).length=l.length:=by simp [encNs']
 unfold vBf
 refine qAb hT Tryz.func267 rfl rfl rfl rfl ?_;intro E hE
 refine qAt ?_
 refine qAg (qAd ?_)
 refine wws ?_
 refine qAg (qAd ?_)
 refine wws ?_
 refine qBj 5 1 0 (es:=[]) (.inr ⟨rfl,rfl⟩) rfl ?_
 refine ww ?_
 refine qAm (ι:=Nat) (fun i=>[(0,.I (m:Int)),(5,.sl 1 (qAx (qNg m l i)) (.right 0)),(9,.d (.sl 1 (encNs' l))),(10,.I (l.length:Int)),(11,.I (i:Int))]) (fun i=>[.right 1 (qAx (qNg m l i)).length]) (fun i=>i≤l.length) (fun i=>l.length-i) 0 (Nat.zero_le _)
  ⟨.refl _,.refl _,.refl _,.int (by rw [hll]),.refl _,trivial⟩ (HLe.refl _) ?_
 intro i hi
 have hwl:=wideN_length m l i hi
 have hml:m*i≤7*1000:=Nat.mul_le_mul hm (by omega)
 refine ww ?_
 refine qAa rfl (fun c1=>?_) (fun c1=>?_)
 ·have hi':i < l.length:=by simp at c1;omega
  have hat:=encNs'_at hi'
  have hsu:=wideN_succ m hi'
  have hnb:l.getD i 0 < 9223372036854775808:=by
   rw [List.getD_eq_getElem?_getD,List.getElem?_eq_getElem hi'];exact hn _ (List.getElem_mem hi')
  generalize l.getD i 0=n at hat hsu hnb
  generalize qNg m l i=pre at hwl hsu ⊢
  have hol:=octB_length m n
  refine ww ?_
  refine wwi hat ?_
  refine ww ?_
  refine qAm (ι:=Nat) (fun k=>[(0,.I (m:Int)),(5,.sl 1 (qAx (pre++(qBi m n).take k)) (.right 0)),(7,.I (n:Int)),(8,.I ((m:Int)-1-(k:Int))),(9,.d (.sl 1 (encNs' l))),(10,.I (l.length:Int)),(11,.I (i:Int))]) (fun k=>[.right 1 (qAx (pre++(qBi m n).take k)).length]) (fun k=>k≤m) (fun k=>m-k) 0 (Nat.zero_le _)
   ⟨.refl _,.slt (by rw [List.take_zero,List.append_nil]),.refl _,.int (by rw [qAf (by omega)];omega),.refl _,.refl _,.refl _,trivial⟩ ⟨⟨rfl,by rw [List.take_zero,List.append_nil]⟩,trivial⟩ ?_
  intro k hk
  have hlk:(qAx (pre++(qBi m n).take k)).length=pre.length+k:=by rw [encB_length,List.length_append,List.length_take,hol];omega
  refine ww ?_
  refine qAa rfl (fun c2=>?_) (fun c2=>?_)
  ·have hk':k < m:=by simp at c2;omega
   have hs:qAx (pre++(qBi m n).take (k+1))=qAx (pre++(qBi m n).take k)++[[.int .u8 ((UInt8.ofNat (n / 256 ^ (m-1-k) % 256)).toNat:Int)]]:=by
    rw [octB_take m n k hk',← List.append_assoc,encB_append];rfl
   have hw8:IntKind.i64.wrap (8*((m:Int)-1-(k:Int)))=((8*(m-1-k):Nat):Int):=by rw [qAf (by omega)];omega
   have hnn:0≤IntKind.i64.wrap (8*((m:Int)-1-(k:Int))):=by rw [hw8];omega
   have hbyte:IntKind.u8.wrap (Int.fdiv (n:Int) (2 ^ (min (IntKind.i64.wrap (8*((m:Int)-1-(k:Int)))).toNat IntKind.i64.bits)))=((UInt8.ofNat (n / 256 ^ (m-1-k) % 256)).toNat:Int):=by
    rw [hw8,qZj n (8*(m-1-k)) hnb,show min (8*(m-1-k)) 64=8*(m-1-k) by omega,Nat.pow_mul]
   refine ww ?_
   refine qAe (qAs (i:=0) hT rfl rfl rfl rfl rfl rfl (by show ((qAx (pre++(qBi m n).take k)).length+1)*(1+1)≤_;omega)) rfl ?_
   refine ww ?_
   exact ⟨k+1,hk',by omega,⟨.refl _,.slt (by rw [hs,← hbyte]),.refl _,.int (by rw [qAf (by omega)];omega),.refl _,.refl _,.refl _,trivial⟩,⟨⟨rfl,by rw [hs,← hbyte]⟩,trivial⟩⟩
  have hk':k=m:=by simp at c2;omega
  subst hk'
  have ht:pre++(qBi k n).take k=qNg k l (i+1):=by rw [hsu,List.take_of_length_le (by rw [hol];omega)]
  rw [ht]
  refine ww ?_
  exact ⟨i+1,hi',by omega,⟨.refl _,.refl _,.refl _,.refl _,.int (by rw [qAf (by omega)];omega),trivial⟩,HLe.refl _⟩
 have hi':i=l.length:=by simp at c1;omega
 subst hi'
 refine ww ?_
 refine rq ⟨rfl,rfl⟩ rfl AV.le.dat
end Tdoc
