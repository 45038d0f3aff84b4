/- Part 7 of the proof: the texts E4 E5 E6 E7 E8 E9 E10 E11 E12 E13 E14 E15 E16 E17 UA UB UC UD E18 E19 E20 E21 E22 E23 E24 E25 G1 G2 G3 Y4 Y7 YA Z1 Y2 Z2 ZM YB. -/
import Derived.Test.YtlfiejdnlcbpgaaGreatDoorCN6
import Derived.Test.YtlfiejdnlcbpgaaGreatDoorCN5
import Derived.Lib.TrimByte
import Derived.Lib.Replace
import Derived.Lib.CutLaws
set_option maxHeartbeats 8000000
set_option maxRecDepth 100000
set_option linter.unusedVariables false
set_option linter.unusedSimpArgs false
namespace Tdoc
open Go Go.Proofs
mutual
def fitN:Node→Prop
 | .mk t v k=>(-9223372036854775808≤t∧t≤9223372036854775807)∧v.length≤1000000000∧k.length≤1000000000∧vFq k
def vFq:List Node→Prop
 | []=>True
 | a::l=>fitN a∧vFq l
end
theorem fitL_at:∀ {l:List Node},vFq l→∀ n,n∈l→fitN n
 | [],_,n,h=>by cases h
 | a::l,h,n,hn=>by
  cases hn with
  | head=>exact h.1
  | tail _ hn=>exact fitL_at h.2 n hn
theorem sizeL_drop:∀ (l:List Node) (i:Nat) (h:i < l.length),qDj (l.drop i)=qKs l[i]+qDj (l.drop (i+1))
 | a::l,0,_=>rfl
 | a::l,i+1,h=>by simpa using sizeL_drop l i (by simpa using h)
theorem sizeL_drop_le:∀ (l:List Node) (i:Nat),qDj (l.drop i)≤qDj l
 | [],i=>by simp
 | a::l,0=>Nat.le_refl _
 | a::l,i+1=>by have:=sizeL_drop_le l i;simp only [List.drop_succ_cons,qDj];omega
theorem qNt {α:Type} (l:List α):decide ((l.length:Int) > 0)=true↔l≠[]:=by
 cases l with
 | nil=>simp
 | cons a l=>simp
theorem qXk:∀ (n d:Nat) (l:List Node) (c:Nat),qDj l≤n→vFq l→l.length≤1000000000→d≤1000→c+qDj l≤1000000000000 →
  Spec Tryz.prog 376 [.d (.sl 3 (encNs l)),.I (d:Int),.ptr 0 0] [.row [.I (c:Int)]] (fun r h'=>r=.d (.int .i64 (qIz d l c).1)∧h'=[.row [.I ((qIz d l c).2:Int)]]):=by
 intro n
 induction n using Nat.strongRecOn with
 | _ n ih =>
 intro d l c hsz hf hl hd hc
 have hlen:=encNs_length l
 refine qAb hT Tryz.func376 rfl rfl rfl rfl ?_
 intro E hE
 generalize hfin:qIz d l c=fin
 refine ww ?_
 refine qEs (ι:=Nat×Nat) (fun x=>[(1,.I (d:Int)),(2,.ptr 0 0),(11,.d (.sl 3 (encNs l))),(12,.d (.int .i64 (encNs l).length)),(13,.I (x.1:Int))]) (fun x=>[.row [.I (x.2:Int)]])
  (fun x=>x.1≤l.length∧x.2+qDj (l.drop x.1)≤1000000000000∧qIz d (l.drop x.1) x.2=fin) (fun x=>l.length-x.1) (0,c) ⟨by simp,by simpa using hc,by simpa using hfin⟩
  yf (HLe.refl _) ?_
 rintro ⟨i,ci⟩ ⟨hi,hci,hg⟩
 simp only at hi hci hg ⊢
 have hwr:IntKind.i64.wrap ((i:Int)+1)=((i+1:Nat):Int):=by rw [qAh (by omega)];simp
 have hwc:IntKind.i64.wrap ((ci:Int)+1)=((ci+1:Nat):Int):=by rw [qAh (by omega)];simp
 refine ww ?_
 refine qAa rfl (fun h1=>?_) (fun h1=>?_)
 ·have hlt:i < l.length:=by rw [hlen] at h1;simpa using h1
  have hdrop:l.drop i=l[i]::l.drop (i+1):=by simp
  have hel:(encNs l)[((i:Int)).toNat]?=some (vFt l[i]):=by simp [encNs_eq,hlt]
  have hsd:=sizeL_drop l i hlt
  have hsl:=sizeL_drop_le l i
  have hfi:=fitL_at hf l[i] (List.getElem_mem hlt)
  rw [hdrop,qIz] at hg
  generalize l[i]=x at hel hsd hfi hg
  obtain ⟨t,v,k⟩:=x
  rw [vFt] at hel
  have hv:=qNc t hfi.1
  have hcon:=qFx t hfi.1
  have hkl:=encNs_length k
  have hvl:=encB_length v
  have hsk:qKs (.mk t v k)=1+qDj k:=by rw [qKs]
  rw [qMn] at hg
  refine ww ?_
  refine qAd (qAe (indexAddr_ok hT rfl rfl rfl rfl (by omega) hel)) rfl ?_
  refine ww ?_
  refine qAd (qCf rfl rfl hcon rfl rfl rfl) rfl ?_
  refine ww ?_
  refine qAd (qCf rfl rfl hv rfl rfl rfl) rfl ?_
  refine ww ?_
  refine qAa rfl (fun h2=>?_) (fun h2=>?_)
  ·have h2':qIp t=false:=by simpa using h2
   simp only [if_pos h2',show ¬ (4:Int)=0 by omega,if_false] at hg
   subst hg
   rw [← hwc]
   refine ww ?_
   exact qAj rfl (.refl _) rfl rfl rfl rfl ⟨rfl,rfl⟩
  ·have h2':¬ qIp t=false:=by simpa using h2
   simp only [if_neg h2'] at hg
   clear hv hcon
   generalize hcn:qEg t=con at hg
   refine ww ?_
   refine qAa rfl (fun h3=>?_) (fun h3=>?_)
   ·have h3':con=false∧k≠[]:=by
     rw [Bool.and_eq_true,hkl,qNt] at h3
     exact ⟨by simpa using h3.1,h3.2⟩
    have hp:(con=false∧k≠[])∨(con=true∧v≠[]):=.inl h3'
    simp only [if_pos hp,show ¬ (1:Int)=0 by omega,if_false] at hg
    subst hg
    rw [← hwc]
    refine ww ?_
    refine qAa rfl (fun h4=>?_) (fun h4=>by rw [h3] at h4;cases h4)
    refine ww ?_
    exact qAj rfl (.refl _) rfl rfl rfl rfl ⟨rfl,rfl⟩
   ·have h3':¬ (con=false∧k≠[]):=fun hh=>by
     have:(!con&&decide ((k.length:Int) > 0))=true:=by rw [Bool.and_eq_true,qNt];exact ⟨by simp [hh.1],hh.2⟩
     rw [hkl,this] at h3;cases h3
    refine ww ?_
    refine qAa rfl (fun h4=>?_) (fun h4=>?_)
    ·have h4':con=true∧v≠[]:=by
      rw [Bool.and_eq_true,hvl,qNt] at h4
      exact h4
     have hp:(con=false∧k≠[])∨(con=true∧v≠[]):=.inr h4'
     simp only [if_pos hp,show ¬ (1:Int)=0 by omega,if_false] at hg
     subst hg
     rw [← hwc]
     refine ww ?_
     exact qAj rfl (.refl _) rfl rfl rfl rfl ⟨rfl,rfl⟩
    ·have h4':¬ (con=true∧v≠[]):=fun hh=>by
      have:(con&&decide ((v.length:Int) > 0))=true:=by rw [Bool.and_eq_true,qNt];exact hh
      rw [hvl,this] at h4;cases h4
     have hp:¬ ((con=false∧k≠[])∨(con=true∧v≠[])):=fun hh=>hh.elim h3' h4'
     simp only [if_neg hp] at hg
     refine ww ?_
     refine qAa rfl (fun h5=>?_) (fun h5=>?_)
     ·have h5':8 < d:=by simp at h5;omega
      simp only [if_pos h5',show ¬ (7:Int)=0 by omega,if_false] at hg
      subst hg
      rw [← hwc]
      refine ww ?_
      exact qAj rfl (.refl _) rfl rfl rfl rfl ⟨rfl,rfl⟩
     ·have h5':¬ 8 < d:=by simp at h5;omega
      simp only [if_neg h5'] at hg
      have hwd:IntKind.i64.wrap ((d:Int)+1)=((d+1:Nat):Int):=by rw [qAh (by omega)];simp
      have hrec:=ih (qDj k) (by omega) (d+1) k (ci+1) (Nat.le_refl _) hfi.2.2.2 hfi.2.2.1 (by omega) (by omega)
      have hcnt:=chkL_count (d+1) k (ci+1)
      rw [← hwc,← hwd] at hrec
      generalize qIz (d+1) k (ci+1)=q at hrec hcnt hg
      obtain ⟨e,c2⟩:=q
      simp only at hrec hcnt hg
      refine ww ?_
      refine qAd (qAk rfl rfl hrec [0] (by decide) rfl rfl rfl rfl rfl rfl rfl) rfl ?_
      refine ww ?_
      refine qAa rfl (fun h6=>?_) (fun h6=>?_)
      ·have h6':¬ e=0:=by simpa using h6
       rw [if_neg h6'] at hg
       subst hg
       refine ww ?_
       exact qAj rfl (.refl _) rfl rfl rfl rfl ⟨rfl,rfl⟩
      ·have h6':e=0:=by simpa using h6
       rw [if_pos h6'] at hg
       have hc2:=hcnt.2 h6'
       refine ww ?_
       exact ⟨(i+1,c2),[_],⟨by simp only;omega,by simp only;omega,hg⟩,by simp only;omega,⟨.refl _,.refl _,.refl _,.refl _,AV.le.eq (by show AV.d (.int .i64 (IntKind.i64.wrap ((i:Int)+1)))=_;rw [hwr]),trivial⟩,HLe.refl _,hE,rfl,rfl⟩
 ·have hge:i=l.length:=by rw [hlen] at h1;simp at h1;omega
  subst hge
  simp only [List.drop_length,qIz] at hg
  subst hg
  refine ww ?_
  exact qAj rfl (.refl _) rfl rfl rfl rfl ⟨rfl,rfl⟩
def qEz (cells:List AV) (i:Nat):List AV:=(List.range cells.length).map fun k=>(cells[if k < i∨cells.length-i≤k then cells.length-1-k else k]?).getD .any
theorem revAt_length (cells:List AV) (i:Nat):(qEz cells i).length=cells.length:=by simp [qEz]
theorem revAt_zero (cells:List AV):qEz cells 0=cells:=by
 apply List.ext_getElem?
 intro k
 by_cases h:k < cells.length
 ·simp only [qEz,List.getElem?_map,List.getElem?_range h,Option.map_some]
  rw [if_neg (by omega)]
  simp [h]
 ·rw [List.getElem?_eq_none (by rw [revAt_length];omega),List.getElem?_eq_none (by omega)]
theorem revAt_at {cells:List AV} {i k:Nat} (h:k < cells.length):(qEz cells i)[k]?=cells[if k < i∨cells.length-i≤k then cells.length-1-k else k]?:=by
 simp only [qEz,List.getElem?_map,List.getElem?_range h,Option.map_some]
 have hlt:(if k < i∨cells.length-i≤k then cells.length-1-k else k) < cells.length:=by split <;> omega
 rw [List.getElem?_eq_getElem hlt];rfl
theorem revAt_half {cells:List AV} {i:Nat} (h:cells.length≤2*i+1) (hi:2*i≤cells.length):qEz cells i=cells.reverse:=by
 apply List.ext_getElem?
 intro k
 by_cases hk:k < cells.length
 ·rw [revAt_at hk,List.getElem?_reverse hk]
  split
  ·rfl
  ·congr 1;omega
 ·rw [List.getElem?_eq_none (by rw [revAt_length];omega),List.getElem?_eq_none (by simp;omega)]
theorem revAt_succ {cells:List AV} {i:Nat} (h:2*i+1 < cells.length) {x y:AV} (hx:(qEz cells i)[cells.length-1-i]?=some x) (hy:(qEz cells i)[i]?=some y) :
  ((qEz cells i).set i x).set (cells.length-1-i) y=qEz cells (i+1):=by
 rw [revAt_at (by omega),if_neg (by omega)] at hx hy
 apply List.ext_getElem?
 intro k
 by_cases hk:k < cells.length
 ·rw [revAt_at hk,List.getElem?_set,List.getElem?_set]
  simp only [List.length_set,revAt_length]
  by_cases h1:cells.length-1-i=k
  ·rw [if_pos h1,if_pos (by omega),if_pos (by omega),← hy];congr 1;omega
  ·rw [if_neg h1]
   by_cases h2:i=k
   ·rw [if_pos h2,if_pos (by omega),if_pos (by omega),← hx];congr 1;omega
   ·rw [if_neg h2,revAt_at hk]
    congr 1
    by_cases h3:k < i∨cells.length-i≤k
    ·rw [if_pos h3,if_pos (by omega)]
    ·rw [if_neg h3,if_neg (by omega)]
 ·rw [List.getElem?_eq_none (by simp [revAt_length];omega),List.getElem?_eq_none (by rw [revAt_length];omega)]
theorem lowL_of {k:Nat}:∀ {l:List AV},(∀ c,c∈l→low k c=true)→qBl k l=true
 | [],_=>rfl
 | a::l,h=>by simp only [qBl,Bool.and_eq_true];exact ⟨h a (by simp),lowL_of fun c hc=>h c (by simp [hc])⟩
set_option maxHeartbeats 4000000 in
set_option maxRecDepth 100000 in
theorem qQu (cells:List AV) (hl:cells.length≤1000000000) (hsc:∀ c,c∈cells→qDd c=true) (hlow:∀ c,c∈cells→low 1 c=true) :
  Spec Tryz.prog 562 [.bm 0 cells.length] [.buf 1 cells.length cells] (fun r h'=>r=.tup []∧h'=[.buf 1 cells.length cells.reverse]):=by
 refine qAb hT Tryz.func562 rfl rfl rfl rfl ?_
 intro E hE
 generalize hn:cells.length=n at hl
 have hw1:IntKind.i64.wrap ((n:Int)-1)=(n:Int)-1:=qAh (by omega)
 refine ww ?_
 refine qAn (ι:=Nat) (fun i=>[(0,.bm 0 n),(2,.I (i:Int)),(3,.I ((n:Int)-1-i))]) (fun i=>[.buf 1 n (qEz cells i)]) (fun i=>2*i≤n+1∧(2*i≤n∨i=0)) (fun i=>n-i) 0 (by omega)
  ⟨.refl _,.refl _,AV.le.eq (by show AV.d (.int .i64 (IntKind.i64.wrap ((n:Int)-1)))=_;rw [hw1];simp),trivial⟩ ⟨⟨rfl,rfl,by rw [revAt_zero];exact AllLe.refl _⟩,trivial⟩ ?_
 intro i ⟨hi,hi2⟩
 have hwr:IntKind.i64.wrap ((i:Int)+1)=((i+1:Nat):Int):=by rw [qAh (by omega)];simp
 have hwr2:IntKind.i64.wrap ((n:Int)-1-i-1)=(n:Int)-1-((i+1:Nat):Int):=by rw [qAh (by omega)];omega
 refine ww ?_
 refine qAa rfl (fun h1=>?_) (fun h1=>?_)
 ·have h1':(i:Int) < (n:Int)-1-i:=by simpa using h1
  have hjn:((n:Int)-1-i).toNat=n-1-i:=by omega
  obtain ⟨x,hx⟩:∃ x,(qEz cells i)[n-1-i]?=some x:=⟨(qEz cells i)[n-1-i]'(by rw [revAt_length];omega),by simp⟩
  obtain ⟨y,hy⟩:∃ y,(qEz cells i)[i]?=some y:=⟨(qEz cells i)[i]'(by rw [revAt_length];omega),by simp⟩
  have hxs:qDd x=true:=by
   rw [revAt_at (by omega)] at hx;exact hsc x (List.mem_of_getElem? hx)
  have hys:qDd y=true:=by
   rw [revAt_at (by omega)] at hy;exact hsc y (List.mem_of_getElem? hy)
  have hsucc:=revAt_succ (cells:=cells) (i:=i) (by omega) (x:=x) (y:=y) (by rw [hn];exact hx) hy
  rw [hn] at hsucc
  have hlr:(qEz cells i).length=n:=by rw [revAt_length,hn]
  generalize qEz cells i=rc at hx hy hsucc hlr
  have hlo1:((i:Int)).toNat*1 < rc.length:=by rw [Nat.mul_one,Int.toNat_natCast,hlr];omega
  have hlo2:((n:Int)-1-i).toNat*1 < (rc.set (((i:Int)).toNat*1) x).length:=by rw [Nat.mul_one,hjn,List.length_set,hlr];omega
  refine wwn ?_
  refine qBu (fun i=>bif Nat.beq i 7||Nat.beq i 11||Nat.beq i 13||Nat.beq i 15 then [0] else []) (fun i=>bif Nat.beq i 13||Nat.beq i 15 then [0] else []) mixed (by kernel_rfl) ?_
  refine wwg ?_
  refine qAm (os:=[]) (fun k hk1 hk2=>qAe (bufAddr_ok (sz:=1) hT rfl rfl rfl rfl (by omega))) rfl ?_
  refine qAm (v:=x) (os:=[]) (fun k hk1 hk2=>bufLoad_ok hT rfl rfl ((hk2 0 List.mem_cons_self).trans rfl) rfl rfl (by rw [Nat.mul_one,hjn];exact hx)) rfl ?_
  refine wwg ?_
  refine qAm (os:=[]) (fun k hk1 hk2=>qAe (bufAddr_ok (sz:=1) hT rfl rfl rfl rfl (by omega))) rfl ?_
  refine qAm (v:=y) (os:=[]) (fun k hk1 hk2=>bufLoad_ok hT rfl rfl ((hk2 0 List.mem_cons_self).trans rfl) rfl rfl (by rw [Nat.mul_one,Int.toNat_natCast];exact hy)) rfl ?_
  refine qAm (os:=[]) (fun k hk1 hk2=>qAe (bufAddr_ok (sz:=1) hT rfl rfl rfl rfl (by omega))) rfl ?_
  refine qAm (v:=.any) (os:=[.buf 1 n (rc.set (((i:Int)).toNat*1) x)]) (fun k hk1 hk2=>qQk hT rfl rfl rfl ((hk2 0 List.mem_cons_self).trans rfl) rfl rfl hxs hlo1 rfl) rfl ?_
  refine qAm (os:=[]) (fun k hk1 hk2=>qAe (bufAddr_ok (sz:=1) hT rfl rfl rfl rfl (by omega))) rfl ?_
  refine qAm (v:=.any) (os:=[.buf 1 n ((rc.set (((i:Int)).toNat*1) x).set (((n:Int)-1-i).toNat*1) y)]) (fun k hk1 hk2=>qQk hT rfl rfl rfl ((hk2 0 List.mem_cons_self).trans rfl) rfl rfl hys hlo2 rfl) rfl ?_
  have e:(rc.set (((i:Int)).toNat*1) x).set (((n:Int)-1-i).toNat*1) y=qEz cells (i+1):=by rw [Nat.mul_one,Nat.mul_one,hjn,Int.toNat_natCast];exact hsucc
  refine wwg ?_
  refine ww ?_
  exact ⟨i+1,by omega,by omega,⟨.refl _,AV.le.eq (by show AV.d (.int .i64 (IntKind.i64.wrap ((i:Int)+1)))=_;rw [hwr]),AV.le.eq (by show AV.d (.int .i64 (IntKind.i64.wrap ((n:Int)-1-i-1)))=_;rw [hwr2]),trivial⟩,⟨⟨rfl,rfl,e▸AllLe.refl _⟩,trivial⟩⟩
 ·have h1':¬ (i:Int) < (n:Int)-1-i:=by simpa using h1
  have hfin:qEz cells i=cells.reverse:=by
   rcases hi2 with h | h
   ·exact revAt_half (by omega) (by omega)
   ·subst h
    rw [revAt_zero]
    have hn1:cells.length≤1:=by omega
    match cells,hn1 with
    | [],_=>rfl
    | [a],_=>rfl
  rw [hfin]
  refine ww ?_
  exact qIs rfl (.refl _) rfl rfl rfl (by show (qBl 1 cells.reverse&&true)=true;rw [Bool.and_true];exact lowL_of fun c hc=>hlow c (List.mem_reverse.1 hc)) ⟨rfl,rfl⟩
theorem byteAV_length (s:List UInt8):(qBf s).length=s.length:=by simp [qBf]
theorem byteAV_append (a b:List UInt8):qBf (a++b)=qBf a++qBf b:=by simp [qBf]
theorem byteAV_reverse (a:List UInt8):(qBf a).reverse=qBf a.reverse:=by simp [qBf,List.map_reverse]
theorem byteAV_scalar {s:List UInt8} {c:AV} (h:c∈qBf s):qDd c=true:=by
 simp only [qBf,List.mem_map] at h
 obtain ⟨b,_,rfl⟩:=h;rfl
theorem byteAV_low {k:Nat} {s:List UInt8} {c:AV} (h:c∈qBf s):low k c=true:=by
 simp only [qBf,List.mem_map] at h
 obtain ⟨b,_,rfl⟩:=h;rfl
theorem lowL_bytes (k:Nat) (s:List UInt8):qBl k (qBf s)=true:=lowL_of fun c hc=>byteAV_low hc
theorem lowH_bytes (k n:Nat) (s:List UInt8):qCn k [.buf 1 n (qBf s)]=true:=by show (qBl k (qBf s)&&true)=true;rw [Bool.and_true];exact lowL_bytes k s
theorem flatAV_encB (s:List UInt8):qEi (qBb s)=qBf s:=by
 induction s with
 | nil=>rfl
 | cons a s ih =>
  simp only [qEi,qBb,qBf,List.map_cons,List.flatten_cons,List.map_append] at ih ⊢
  rw [ih];rfl
theorem qGj (s:List UInt8):RowDat (qBf s) 0 1 (qBb s):=by
 refine ⟨fun e he=>?_,fun i e j d he hd=>?_⟩
 ·simp only [qBb,List.mem_map] at he
  obtain ⟨b,_,rfl⟩:=he;rfl
 ·simp only [qBb,List.getElem?_map,Option.map_eq_some_iff] at he
  obtain ⟨b,hb,rfl⟩:=he
  cases j with
  | zero=>simp at hd;subst hd;exact ⟨.d (.int .u8 (b.toNat:Int)),by simp [qBf,hb],rfl⟩
  | succ j=>simp at hd
theorem toNat_ofNat {n:Nat} (h:n < 256):(UInt8.ofNat n).toNat=n:=by simp;omega
set_option maxHeartbeats 4000000 in
set_option maxRecDepth 100000 in
theorem qSo (n:Nat) (hn:n≤1000000000000):Spec Tryz.prog 489 [.I (n:Int)] [] (fun r h'=>r=.d (.sl 1 (qBb (qSp n)))∧h'=[]):=by
 refine qAb hT Tryz.func489 rfl rfl rfl rfl ?_
 intro E hE
 refine ww ?_
 refine qAa rfl (fun h1=>?_) (fun h1=>?_)
 ·have h1':n < 128:=by simp at h1;omega
  have hw8:IntKind.u8.wrap (n:Int)=((UInt8.ofNat n).toNat:Int):=by rw [toNat_ofNat (by omega)];exact wrapu8 (by omega)
  have hL:qSp n=[UInt8.ofNat n]:=by unfold qSp;rw [if_pos h1']
  rw [hL,show qBb [UInt8.ofNat n]=[[.int .u8 (IntKind.u8.wrap (n:Int))]] by rw [hw8];rfl]
  refine ww ?_
  exact qAj rfl AV.le.dat rfl rfl rfl rfl ⟨rfl,rfl⟩
 ·have h1':¬ n < 128:=by simp at h1;omega
  have hL:qSp n=UInt8.ofNat (128+(digs 8 n).length)::digs 8 n:=by unfold qSp;rw [if_neg h1']
  have hdl:=digL_length 8 n
  generalize hfull:vCt 8 n=full at hdl
  have hL2:qSp n=(full++[UInt8.ofNat (128+full.length)]).reverse:=by rw [hL,digs,hfull];simp
  rw [hL2]
  refine qAq ?_
  refine wwe ?_
  refine qAf (qAc ?_)
  refine wws ?_
  refine vDp 3 1 0 (.inr rfl) rfl rfl ?_
  refine ww ?_
  refine qAn (ι:=List UInt8×Nat×Nat) (fun x=>[(0,.I (x.2.2:Int)),(3,.bm 0 x.1.length)]) (fun x=>[.buf 1 x.1.length (qBf x.1)])
   (fun x=>x.1.length+x.2.1≤8∧x.2.2 < 256 ^ x.2.1∧x.2.2≤1000000000000∧x.1++vCt x.2.1 x.2.2=full) (fun x=>x.2.1) ([],8,n) ⟨by simp,by simp only;omega,hn,by simpa using hfull⟩ yf (HLe.refl _) ?_
  rintro ⟨acc,m,k⟩ ⟨j1,j2,j3,j4⟩
  simp only at j1 j2 j3 j4 ⊢
  refine ww ?_
  refine qAa rfl (fun h2=>?_) (fun h2=>?_)
  ·have h2':0 < k:=by simp at h2;omega
   obtain ⟨m,rfl⟩:∃ m',m=m'+1:=⟨m-1,by
    rcases Nat.eq_zero_or_pos m with h0 | h0
    ·subst h0;simp at j2;omega
    ·omega⟩
   rw [vCt,if_neg (by omega)] at j4
   have hshr:Int.fdiv (k:Int) (2 ^ (min (8:Int).toNat IntKind.i64.bits))=((k / 256:Nat):Int):=qDt k 8
   have hb:IntKind.u8.wrap (k:Int)=((UInt8.ofNat (k % 256)).toNat:Int):=by rw [qEe,toNat_ofNat (Nat.mod_lt _ (by omega))];simp
   refine ww ?_
   refine qUw (bufApp_ok hT rfl rfl rfl rfl rfl rfl (by show (acc.length+1)*(1+1)≤_;omega)) rfl rfl ?_
   refine ww ?_
   refine ⟨(acc++[UInt8.ofNat (k % 256)],m,k / 256),⟨by simp only [List.length_append,List.length_singleton];omega,by rw [Nat.pow_succ] at j2;simp only;omega,by simp only;omega,by simpa using j4⟩,by simp only;omega,⟨AV.le.eq ?_,AV.le.eq ?_,trivial⟩,⟨⟨rfl,?_,?_⟩,trivial⟩⟩
   ·show AV.d (.int .i64 (Int.fdiv (k:Int) (2 ^ (min (8:Int).toNat IntKind.i64.bits))))=_
    rw [hshr]
   ·simp;rfl
   ·simp
   ·rw [byteAV_append]
    show AllLe (qBf acc++[AV.d (.int .u8 (IntKind.u8.wrap (k:Int)))]) _
    rw [hb]
    exact AllLe.refl _
  ·have h2':k=0:=by simp at h2;omega
   subst h2'
   rw [digL_zero,List.append_nil] at j4
   subst j4
   have hor:IntKind.u8.wrap ((BitVec.ofInt IntKind.u8.bits 128 ||| BitVec.ofInt IntKind.u8.bits (IntKind.u8.wrap (acc.length:Int))).toNat:Int)=((UInt8.ofNat (128+acc.length)).toNat:Int):=by
    rw [wrapu8 (n:=(acc.length:Int)) (by omega),toNat_ofNat (by omega)]
    have:=vEp (a:=128) (b:=acc.length) (by omega) (by omega)
    rw [show (128 ||| acc.length)=128+acc.length from vDt 1 acc.length 7 (by omega)] at this
    exact this
   have hrev:=qQu (qBf (acc++[UInt8.ofNat (128+acc.length)])) (by rw [byteAV_length];simp;omega) (fun c hc=>byteAV_scalar hc) (fun c hc=>byteAV_low hc)
   rw [byteAV_length,byteAV_reverse] at hrev
   refine wwe ?_
   refine qAf (qAc ?_)
   refine wws ?_
   refine qUw (bufApp_ok hT rfl rfl rfl rfl rfl rfl (by show (acc.length+1)*(1+1)≤_;omega)) rfl rfl ?_
   refine wws ?_
   refine qAi (l:=[(3,.bm 0 (acc++[UInt8.ofNat (128+acc.length)]).length)]) (h':=[.buf 1 (acc++[UInt8.ofNat (128+acc.length)]).length (qBf (acc++[UInt8.ofNat (128+acc.length)]))]) ⟨AV.le.eq (by simp;rfl),trivial⟩ ⟨⟨rfl,by simp,?_⟩,trivial⟩ ?_
   ·rw [byteAV_append]
    show AllLe (qBf acc++[AV.d (.int .u8 (IntKind.u8.wrap ((BitVec.ofInt IntKind.u8.bits 128 ||| BitVec.ofInt IntKind.u8.bits (IntKind.u8.wrap (acc.length:Int))).toNat:Int)))]) _
    rw [hor]
    exact AllLe.refl _
   generalize acc++[UInt8.ofNat (128+acc.length)]=s at hrev ⊢
   refine qAf (qAc ?_)
   refine wws ?_
   refine qUw (qAk rfl rfl hrev [0] (by decide) rfl rfl rfl (lowH_bytes _ _ _) (lowH_bytes _ _ _) rfl rfl) rfl rfl ?_
   refine wws ?_
   refine qJu 3 0 1 (qBb s.reverse) rfl rfl (by rw [encB_length,List.length_reverse]) (qGj _) rfl ?_
   refine ww ?_
   exact qAj rfl AV.le.dat rfl rfl rfl rfl ⟨rfl,rfl⟩
mutual
def vEi:Node→Prop
 | .mk t _ k=>qIp t=true∧qYi k
def qYi:List Node→Prop
 | []=>True
 | a::l=>vEi a∧qYi l
end
theorem tagsL_at:∀ {l:List Node},qYi l→∀ n,n∈l→vEi n
 | [],_,n,h=>by cases h
 | a::l,h,n,hn=>by
  cases hn with
  | head=>exact h.1
  | tail _ hn=>exact tagsL_at h.2 n hn
mutual
theorem chkN_tags (d:Nat):∀ (n:Node) (c:Nat),(qMn d n c).1=0→vEi n
 | .mk t v k,c,h=>by
  rw [qMn] at h
  split at h
  ·simp at h
  ·rename_i h1
   split at h
   ·simp at h
   ·split at h
    ·simp at h
    ·exact ⟨by simpa using h1,chkL_tags (d+1) k (c+1) h⟩
theorem chkL_tags (d:Nat):∀ (l:List Node) (c:Nat),(qIz d l c).1=0→qYi l
 | [],c,h=>trivial
 | a::l,c,h=>by
  rw [qIz] at h
  split at h
  ·rename_i h0
   exact ⟨chkN_tags d a c h0,chkL_tags d l _ h⟩
  ·rename_i h0
   exact absurd h h0
end
theorem wrL_append:∀ (a b:List Node),wrL (a++b)=wrL a++wrL b
 | [],b=>rfl
 | x::a,b=>by simp only [List.cons_append,wrL,wrL_append a b,List.append_assoc]
theorem wrL_take_succ {l:List Node} {i:Nat} (h:i < l.length):wrL (l.take (i+1))=wrL (l.take i)++wrN l[i]:=by
 rw [List.take_succ_eq_append_getElem h,wrL_append]
 simp [wrL]
theorem wrL_take_le (l:List Node) (i:Nat):(wrL (l.take i)).length≤(wrL l).length:=by
 have:=congrArg List.length (wrL_append (l.take i) (l.drop i))
 rw [List.take_append_drop,List.length_append] at this
 omega
theorem sizeN_mem:∀ {l:List Node} {n:Node},n∈l→qKs n≤qDj l
 | a::l,n,h=>by
  cases h with
  | head=>simp only [qDj];omega
  | tail _ h=>have:=sizeN_mem h;simp only [qDj];omega
theorem qWo:∀ (n:Nat) (l:List Node),qDj l≤n→qYi l→l.length≤1000000000→vFq l→(wrL l).length≤1000000000 →
  Spec Tryz.prog 377 [.d (.sl 3 (encNs l))] [] (fun r h'=>r=.d (.sl 1 (qBb (wrL l)))∧h'=[]):=by
 intro n
 induction n using Nat.strongRecOn with
 | _ n ih =>
 intro l hsz htg hl hf hw
 have hlen:=encNs_length l
 refine qAb hT Tryz.func377 rfl rfl rfl rfl ?_
 intro E hE
 refine qAq ?_
 refine qAf (qAc ?_)
 refine wws ?_
 refine qAf (qAc ?_)
 refine wws ?_
 refine qBc 3 1 0 (es:=[]) (.inr ⟨rfl,rfl⟩) rfl ?_
 refine ww ?_
 refine qEs (ι:=Nat) (fun i=>[(3,.sl 1 (qBb (wrL (l.take i))) (.right 0)),(7,.d (.sl 3 (encNs l))),(8,.d (.int .i64 (encNs l).length)),(9,.I (i:Int))]) (fun i=>[.right 1 (qBb (wrL (l.take i))).length])
  (fun i=>i≤l.length) (fun i=>l.length-i) 0 (by omega) yf (HLe.refl _) ?_
 intro i hi
 have hwr:IntKind.i64.wrap ((i:Int)+1)=((i+1:Nat):Int):=by rw [qAh (by omega)];simp
 refine ww ?_
 refine qAa rfl (fun h1=>?_) (fun h1=>?_)
 ·have hlt:i < l.length:=by rw [hlen] at h1;simpa using h1
  have hel:(encNs l)[((i:Int)).toNat]?=some (vFt l[i]):=by simp [encNs_eq,hlt]
  have hsucc:=wrL_take_succ hlt
  have hle:=wrL_take_le l (i+1)
  have hmem:l[i]∈l:=List.getElem_mem hlt
  have hsm:=sizeN_mem hmem
  have htm:=tagsL_at htg _ hmem
  have hfm:=fitL_at hf _ hmem
  generalize l[i]=x at hel hsucc hsm htm hfm
  obtain ⟨t,v,k⟩:=x
  rw [vFt] at hel
  rw [qKs] at hsm
  have htr:=tagOk_range htm.1
  obtain ⟨tn,rfl⟩:=Int.eq_ofNat_of_zero_le (show 0≤t by omega)
  have hcon:=qFx (tn:Int) (by omega)
  rw [wrN] at hsucc
  generalize hout:wrL (l.take i)=out at hsucc ⊢
  have hrec:qEg (tn:Int)=true→Spec Tryz.prog 377 [.d (.sl 3 (encNs k))] [] (fun r h'=>r=.d (.sl 1 (qBb (wrL k)))∧h'=[]):=fun hc=>ih (qDj k) (by omega) k (Nat.le_refl _) htm.2 hfm.2.2.1 hfm.2.2.2 (by
   rw [hsucc,if_pos hc] at hle
   simp only [List.length_append] at hle
   omega)
  generalize qEg (tn:Int)=con at hcon hsucc hrec
  generalize hc:(if con=true then wrL k else v)=c at hsucc
  have hcl:c.length≤1000000000:=by
   rw [hsucc] at hle;simp only [List.length_append] at hle;omega
  have hll:=encB_length c
  have hlsp:Spec Tryz.prog 489 [.I ((qBb c).length:Int)] [] (fun r h'=>r=.d (.sl 1 (qBb (qSp c.length)))∧h'=[]):=by rw [hll];exact qSo c.length (by omega)
  have hlb:out.length+((vGt (tn:Int)).length+(qSp c.length).length+c.length)≤1000000000:=by
   rw [hsucc] at hle;simp only [List.length_append] at hle;omega
  have hlo:IntKind.u8.wrap (tn:Int)=((UInt8.ofNat (tn % 256)).toNat:Int):=by rw [qEe,toNat_ofNat (Nat.mod_lt _ (by omega))];simp
  have hshr:Int.fdiv (tn:Int) (2 ^ (min (8:Int).toNat IntKind.i64.bits))=((tn / 256:Nat):Int):=qDt tn 8
  have hhi:IntKind.u8.wrap (Int.fdiv (tn:Int) (2 ^ (min (8:Int).toNat IntKind.i64.bits)))=((UInt8.ofNat (tn / 256 % 256)).toNat:Int):=by rw [hshr,qEe,toNat_ofNat (Nat.mod_lt _ (by omega))];simp
  generalize hhd:(if tn > 255 then [UInt8.ofNat (tn / 256 % 256)] else [])=hd
  have htb:vGt (tn:Int)=hd++[UInt8.ofNat (tn % 256)]:=by
   have e1:((tn:Int) / 256 % 256).toNat=tn / 256 % 256:=by omega
   have e2:((tn:Int) % 256).toNat=tn % 256:=by omega
   unfold vGt
   rw [e1,e2,← hhd]
   by_cases h9:tn > 255
   ·rw [if_pos (by omega),if_pos h9];rfl
   ·rw [if_neg (by omega),if_neg h9];rfl
  rw [htb] at hsucc hlb
  simp only [List.length_append,List.length_singleton] at hlb
  refine qDy ?_
  refine qAf (qGv (qAf (qAc ?_)))
  refine qAd (qAe (indexAddr_ok hT rfl rfl rfl rfl (by omega) hel)) rfl ?_
  refine wws ?_
  refine qAf (qAc ?_)
  refine wws ?_
  refine qFg (ι:=Unit) (fun _=>[(3,.sl 1 (qBb out) (.right 0)),(5,.ptr 1 0),(6,.d (.sl 1 (qBb c))),(7,.d (.sl 3 (encNs l))),(8,.d (.int .i64 (encNs l).length)),(9,.I (i:Int))])
   (fun _=>[.right 1 (qBb out).length,.row [.I (tn:Int),.d (.sl 1 (qBb v)),.d (.sl 3 (encNs k))]]) (fun _=>True) ?_ (fun _ _=>?_)
  ·refine ww ?_
   refine qAd (qCf rfl rfl hcon rfl rfl rfl) rfl ?_
   refine ww ?_
   refine qAa rfl (fun h2=>?_) (fun h2=>?_)
   ·refine ww ?_
    refine qAd (qCf rfl rfl (hrec h2) rfl rfl rfl) rfl ?_
    refine ww ?_
    exact ⟨(),trivial,⟨.refl _,.refl _,AV.le.eq (by rw [← hc,if_pos h2];rfl),.refl _,.refl _,.refl _,trivial⟩,HLe.refl _⟩
   ·have h2':¬ con=true:=by simp [h2]
    refine ww ?_
    exact ⟨(),trivial,⟨.refl _,.refl _,AV.le.eq (by rw [← hc,if_neg h2'];rfl),.refl _,.refl _,.refl _,trivial⟩,HLe.refl _⟩
  refine qFg (ι:=Unit) (fun _=>[(3,.sl 1 (qBb (out++hd)) (.right 0)),(5,.ptr 1 0),(6,.d (.sl 1 (qBb c))),(7,.d (.sl 3 (encNs l))),(8,.d (.int .i64 (encNs l).length)),(9,.I (i:Int))])
   (fun _=>[.right 1 (qBb (out++hd)).length,.row [.I (tn:Int),.d (.sl 1 (qBb v)),.d (.sl 3 (encNs k))]]) (fun _=>True) ?_ (fun _ _=>?_)
  ·refine ww ?_
   refine qAa rfl (fun h2=>?_) (fun h2=>?_)
   ·have h2':tn > 255:=by simp at h2;omega
    rw [if_pos h2'] at hhd
    subst hhd
    refine ww ?_
    refine qAd (qAs (i:=0) hT rfl rfl rfl rfl rfl rfl (by show ((qBb out).length+1)*(1+1)≤_;rw [encB_length];omega)) rfl ?_
    refine ww ?_
    refine ⟨(),trivial,⟨AV.le.eq ?_,.refl _,.refl _,.refl _,.refl _,.refl _,trivial⟩,⟨⟨rfl,?_⟩,ObLe.refl _,trivial⟩⟩
    ·show AV.sl 1 (qBb out++[[.int .u8 (IntKind.u8.wrap (Int.fdiv (tn:Int) (2 ^ (min (8:Int).toNat IntKind.i64.bits))))]]) (.right 0)=_
     rw [hhi,encB_append];rfl
    ·show (qBb out++[[Dat.int .u8 (IntKind.u8.wrap (Int.fdiv (tn:Int) (2 ^ (min (8:Int).toNat IntKind.i64.bits))))]]).length=_
     rw [hhi,encB_append];rfl
   ·have h2':¬ tn > 255:=by simp at h2;omega
    rw [if_neg h2'] at hhd
    subst hhd
    refine ww ?_
    refine ⟨(),trivial,⟨AV.le.eq (by rw [List.append_nil];rfl),.refl _,.refl _,.refl _,.refl _,.refl _,trivial⟩,⟨⟨rfl,by rw [List.append_nil]⟩,ObLe.refl _,trivial⟩⟩
  have hol:=encB_length (out++hd)
  rw [List.length_append] at hol
  have hlbl:=encB_length (qSp c.length)
  refine ww ?_
  refine qAd (qAs (i:=0) hT rfl rfl rfl rfl rfl rfl (by show ((qBb (out++hd)).length+1)*(1+1)≤_;omega)) rfl ?_
  refine ww ?_
  refine qAd (qCf rfl rfl hlsp rfl rfl rfl) rfl ?_
  refine qAd (qAs (i:=0) hT rfl rfl rfl rfl rfl rfl (by show ((qBb (out++hd)++[[Dat.int .u8 (IntKind.u8.wrap (tn:Int))]]).length+(qBb (qSp c.length)).length)*(1+1)≤_;rw [List.length_append,List.length_singleton];omega)) rfl ?_
  refine ww ?_
  refine qAd (qAs (i:=0) hT rfl rfl rfl rfl rfl rfl (by show ((qBb (out++hd)++[[Dat.int .u8 (IntKind.u8.wrap (tn:Int))]]++qBb (qSp c.length)).length+(qBb c).length)*(1+1)≤_;rw [List.length_append,List.length_append,List.length_singleton];omega)) rfl ?_
  refine ww ?_
  have hres:qBb (wrL (l.take (i+1)))=qBb (out++hd)++[[Dat.int .u8 (IntKind.u8.wrap (tn:Int))]]++qBb (qSp c.length)++qBb c:=by
   rw [hsucc,hlo];simp only [encB_append,List.append_assoc];rfl
  refine ⟨i+1,[_],by omega,by omega,⟨AV.le.eq (by rw [hres];rfl),.refl _,.refl _,AV.le.eq (by show AV.d (.int .i64 (IntKind.i64.wrap ((i:Int)+1)))=_;rw [hwr]),trivial⟩,⟨⟨rfl,by rw [hres]⟩,ObLe.refl _,trivial⟩,Env.below_mono hE (by simp),rfl,rfl⟩
 ·have hge:i=l.length:=by rw [hlen] at h1;simp at h1;omega
  subst hge
  rw [List.take_length]
  refine ww ?_
  exact qAj rfl AV.le.dat rfl rfl rfl rfl ⟨rfl,rfl⟩
set_option maxHeartbeats 4000000 in
set_option maxRecDepth 100000 in
theorem qUm (l:List Node) (hl:l.length≤1000000000) (hf:vFq l) (hsz:qDj l≤100000000) (hw:(wrL l).length≤1000000000) :
  Spec Tryz.prog 274 [.d (.sl 3 (encNs l))] [] (fun r h'=>r=.tup [.d (.sl 1 (qBb (qLl l).1)),.d (.int .i64 (qLl l).2)]∧h'=[]):=by
 have hchk:=qXk (qDj l) 1 l 0 (Nat.le_refl _) hf hl (by omega) (by omega)
 have htag:=chkL_tags 1 l 0
 have hcnt:=chkL_count 1 l 0
 unfold qLl
 generalize qIz 1 l 0=q at hchk htag hcnt
 obtain ⟨e,c⟩:=q
 simp only at hchk htag hcnt ⊢
 refine qAb hT Tryz.func274 rfl rfl rfl rfl ?_
 intro E hE
 refine ww ?_
 refine qAd (qAk rfl rfl hchk [0] (by decide) rfl rfl rfl rfl rfl rfl rfl) rfl ?_
 refine ww ?_
 refine qAa rfl (fun h1=>?_) (fun h1=>?_)
 ·have h1':e≠0:=by simpa using h1
  rw [if_pos h1']
  refine ww ?_
  exact qAj (r:=.tup [.d (.sl 1 (qBb [])),.I e]) rfl (AV.le.tup ⟨AV.le.nils,.refl _,trivial⟩) rfl rfl rfl rfl ⟨rfl,rfl⟩
 ·have h1':¬ e≠0:=by simpa using h1
  rw [if_neg h1']
  refine ww ?_
  refine qAa rfl (fun h2=>?_) (fun h2=>?_)
  ·have h2':c > 256:=by simp at h2;omega
   rw [if_pos h2']
   refine ww ?_
   exact qAj (r:=.tup [.d (.sl 1 (qBb [])),.I 2]) rfl (AV.le.tup ⟨AV.le.nils,.refl _,trivial⟩) rfl rfl rfl rfl ⟨rfl,rfl⟩
  ·have h2':¬ c > 256:=by simp at h2;omega
   rw [if_neg h2']
   have hwr:=qWo (qDj l) l (Nat.le_refl _) (htag (by omega)) hl hf hw
   have hwl:=encB_length (wrL l)
   generalize wrL l=s at hwr hwl
   refine ww ?_
   refine qAd (qCf rfl rfl hwr rfl rfl rfl) rfl ?_
   refine ww ?_
   refine qAa rfl (fun h3=>?_) (fun h3=>?_)
   ·have h3':s.length > 4096:=by rw [hwl] at h3;simp at h3;omega
    rw [if_pos h3']
    refine ww ?_
    exact qAj (r:=.tup [.d (.sl 1 (qBb [])),.I 2]) rfl (AV.le.tup ⟨AV.le.nils,.refl _,trivial⟩) rfl rfl rfl rfl ⟨rfl,rfl⟩
   ·have h3':¬ s.length > 4096:=by rw [hwl] at h3;simp at h3;omega
    rw [if_neg h3']
    refine ww ?_
    exact qAj rfl (.refl _) rfl rfl rfl rfl ⟨rfl,rfl⟩
mutual
theorem chkN_any (d:Nat):∀ (n:Node) (c c':Nat),(qMn d n c).1=(qMn d n c').1
 | .mk t v k,c,c'=>by
  rw [qMn,qMn]
  split
  ·rfl
  ·split
   ·rfl
   ·split
    ·rfl
    ·exact chkL_any (d+1) k _ _
theorem chkL_any (d:Nat):∀ (l:List Node) (c c':Nat),(qIz d l c).1=(qIz d l c').1
 | [],c,c'=>rfl
 | a::l,c,c'=>by
  rw [qIz,qIz,chkN_any d a c c']
  split
  ·exact chkL_any d l _ _
  ·exact chkN_any d a c c'
end
theorem tagB_le (t:Int):(vGt t).length≤2:=by unfold vGt;split <;> simp
theorem lenB_le (n:Nat):(qSp n).length≤9:=by
 have:(digs 8 n).length≤8:=by unfold digs;rw [List.length_reverse];exact digL_length 8 n
 unfold qSp
 split
 ·simp
 ·rw [List.length_cons];omega
theorem wrL_one_le (t:Int) (v:List UInt8) (l:List Node):(wrL [.mk t v l]).length≤11+v.length+(wrL l).length:=by
 have h1:=lenB_le (wrL l).length
 have h2:=lenB_le v.length
 have h3:=tagB_le t
 simp only [wrL,wrN,List.length_append,List.length_nil]
 split <;> omega
def vEb (b:List UInt8) (i:Nat):Nat:=(b.getD i 0).toNat
theorem encB_byte {b:List UInt8} {i:Nat} (h:i < b.length):(qBb b)[i]?=some [.int .u8 (vEb b i:Int)]:=by
 rw [encB_at h];unfold vEb;rw [List.getD_eq_getElem?_getD,List.getElem?_eq_getElem h];rfl
def qAl (l:List Int):List (List Dat):=l.map fun n=>[.int .i64 n]
theorem encI_length (l:List Int):(qAl l).length=l.length:=by simp [qAl]
theorem encI_at {l:List Int} {i:Nat} (h:i < l.length):(qAl l)[((i:Int)).toNat]?=some [.int .i64 l[i]]:=by simp [qAl,h]
theorem strAt_n (s:List UInt8) (i:Nat):qGa s (i:Int)=bI (s.getD i 0):=by
 unfold qGa bI
 rw [Int.toNat_natCast,List.getD_eq_getElem?_getD]
theorem namesC_spec:Spec Tryz.prog 24 [] [] (fun r h'=>r=.d (.sl 1 (qAg qBt))∧h'=[]):=by
 refine qAb hT Tryz.func24 rfl rfl rfl rfl ?_;intro E hE
 refine ww ?_
 exact rq ⟨rfl,rfl⟩ rfl (AV.le.dat' rfl)
theorem qZp (w:List UInt8):qPe qBt w+1=qBh w:=by
 by_cases h1:w=qAx 1
 ·subst h1;decide
 by_cases h2:w=qAx 2
 ·subst h2;decide
 by_cases h3:w=qAx 3
 ·subst h3;decide
 by_cases h4:w=qAx 4
 ·subst h4;decide
 by_cases h5:w=qAx 5
 ·subst h5;decide
 by_cases h6:w=qAx 6
 ·subst h6;decide
 by_cases h7:w=qAx 7
 ·subst h7;decide
 by_cases h8:w=qAx 8
 ·subst h8;decide
 by_cases h9:w=qAx 9
 ·subst h9;decide
 by_cases h10:w=qAx 10
 ·subst h10;decide
 by_cases h11:w=qAx 11
 ·subst h11;decide
 have hk:qBh w=0:=by unfold qBh;rw [if_neg h1,if_neg h2,if_neg h3,if_neg h4,if_neg h5,if_neg h6,if_neg h7,if_neg h8,if_neg h9,if_neg h10,if_neg h11]
 rw [hk,sIdx_none]
 ·rfl
 ·intro j hj
  have hm:qBt[j]∈qBt:=List.getElem_mem hj
  intro hh
  rw [hh] at hm
  simp only [qBt,List.mem_cons,List.not_mem_nil,or_false,h1,h2,h3,h4,h5,h6,h7,h8,h9,h10,h11] at hm
def betw (s:List UInt8):Bool:=s.all fun c=>decide (32≤c.toNat∧c.toNat≤126)
theorem qJl (s:List UInt8) (hs:s.length≤9223372036854775807):Spec Tryz.prog 51 [.d (.str s),.d (.int .u8 32)] [] (fun r h'=>r=.d (.bool (betw s))∧h'=[]):=by
 refine qAb hT Tryz.func51 rfl rfl rfl rfl ?_;intro E hE
 refine ww ?_
 refine qAn (ι:=Nat) (fun i=>[(0,.d (.str s)),(1,.d (.int .u8 32)),(7,.I (s.length:Int)),(8,.I (i:Int))]) (fun _=>[]) (fun i=>i≤s.length∧∀ j,j < i→32≤(s.getD j 0).toNat∧(s.getD j 0).toNat≤126) (fun i=>s.length-i) 0 ⟨Nat.zero_le _,fun j h=>by omega⟩
  yf (HLe.refl _) ?_
 rintro i ⟨hi,hall⟩
 have hat:=strAt_n s i
 have hb:0≤bI (s.getD i 0)∧bI (s.getD i 0) < 256:=by have:=(s.getD i 0).toNat_lt;unfold bI;omega
 refine ww ?_
 refine qAa rfl (fun c2=>?_) (fun c2=>?_)
 ·have hi':i < s.length:=by simp at c2;omega
  have hwr:IntKind.i64.wrap ((i:Int)+1)=((i+1:Nat):Int):=by rw [qAh (by omega)];simp
  refine ww ?_
  rw [hat]
  refine ww ?_
  refine qAa rfl (fun c3=>?_) (fun c3=>?_)
  ·have hno:betw s=false:=by
    unfold betw
    rw [List.all_eq_false]
    refine ⟨s[i],List.getElem_mem hi',?_⟩
    rw [show s.getD i 0=s[i] by simp [hi']] at c3
    unfold bI at c3
    simp at c3 ⊢
    omega
   rw [hno]
   refine ww ?_
   exact wwr
  ·refine ww ?_
   refine ⟨i+1,⟨hi',fun j hj=>?_⟩,by omega,⟨.refl _,.refl _,.refl _,.int hwr,trivial⟩,HLe.refl _⟩
   rcases Nat.lt_or_ge j i with h | h
   ·exact hall j h
   ·have:j=i:=by omega
    subst this
    unfold bI at c3
    simp at c3 ⊢
    omega
 ·have hi':i=s.length:=by simp at c2;omega
  subst hi'
  have hyes:betw s=true:=by
   unfold betw
   rw [List.all_eq_true]
   intro c hc
   obtain ⟨j,hj,rfl⟩:=List.mem_iff_getElem.1 hc
   have:=hall j hj
   rw [show s.getD j 0=s[j] by simp [hj]] at this
   simpa using this
  rw [hyes]
  refine ww ?_
  exact wwr
def vBg (n:Int):Bool:=decide (n < -1073741824)||decide (n > 1073741824)
theorem badN_spec (n:Int):Spec Tryz.prog 50 [.I n] [] (fun r h'=>r=.d (.bool (vBg n))∧h'=[]):=by
 refine qAb hT Tryz.func50 rfl rfl rfl rfl ?_;intro E hE
 refine ww ?_
 exact wwr
theorem badN_iff (n:Int):vBg n=false↔qAz n:=by
 unfold vBg qAz
 simp
theorem strsAV_length (l:List (List UInt8)):(qAg l).length=l.length:=by simp [qAg]
theorem strsAV_at {l:List (List UInt8)} {k:Nat} (h:k < l.length):(qAg l)[((k:Int)).toNat]?=some [.str l[k]]:=by simp [qAg,h]
def PredI (g:FuncId) (p:Int→Bool) (l:List (Int)):Prop:=∀ c,c∈l→Spec Tryz.prog g [.d (.int .i64 c)] [] (fun r h'=>r=.d (.bool (p c))∧h'=[])
theorem qLu {l:List (Int)} {g:FuncId} {p:Int→Bool} (hp:PredI g p l) (hl:l.length≤1000000000) :
  Spec Tryz.prog 88 [.d (.sl 1 (qAl l)),.fn (.func g) [] []] [] (fun r h'=>r=.I (qZv p l)∧h'=[]):=by
 refine qAb hT Tryz.func88 rfl rfl rfl rfl ?_;intro E hE
 have hlen:=encI_length l
 refine ww ?_
 refine qAn (ι:=Nat) (fun k=>[(0,.d (.sl 1 (qAl l))),(1,.fn (.func g) [] []),(7,.d (.int .i64 (qAl l).length)),(8,.I (k:Int))]) (fun _=>[]) (fun k=>k≤l.length∧∀ j,(hj:j < k)→(hj2:j < l.length)→p l[j]=false) (fun k=>l.length-k) 0
  ⟨by omega,fun j hj=>by omega⟩ yf (HLe.refl _) ?_
 rintro k ⟨hk,hb⟩
 refine ww ?_
 refine qAa rfl (fun h1=>?_) (fun h1=>?_)
 ·have hlt:k < l.length:=by rw [hlen] at h1;simpa using h1
  have hel:=encI_at hlt
  have hpk:=hp l[k] (List.getElem_mem hlt)
  have hfi:=@fIdx_at _ p l k hlt
  have hbk:p l[k]=false→∀ j,(hj:j < k+1)→(hj2:j < l.length)→p l[j]=false:=fun h j hj hj2=>by
   by_cases hjk:j=k
   ·subst hjk;exact h
   ·exact hb j (by omega) hj2
  generalize l[k]=c at hel hpk hfi hbk
  refine ww ?_
  refine wwi hel ?_
  refine ww ?_
  refine wwc hpk ?_
  refine ww ?_
  refine qAa rfl (fun h2=>?_) (fun h2=>?_)
  ·rw [hfi h2 hb]
   refine ww ?_
   exact wwr
  ·refine ww ?_
   exact ⟨k+1,⟨by omega,hbk (by simpa using h2)⟩,by omega,⟨.refl _,.refl _,.refl _,.int (by rw [qAh (by omega)];omega),trivial⟩,HLe.refl _⟩
 ·have hge:k=l.length:=by rw [hlen] at h1;simp at h1;omega
  rw [fIdx_none (fun j hj=>hb j (by omega) hj)]
  refine ww ?_
  exact wwr
theorem qIo {l:List (Int)} {g:FuncId} {p:Int→Bool} (hp:PredI g p l) (hl:l.length≤1000000000) :
  Spec Tryz.prog 49 [.d (.sl 1 (qAl l)),.fn (.func g) [] []] [] (fun r h'=>r=.d (.bool (l.any p))∧h'=[]):=by
 have hs:=qLu hp hl
 refine qAb hT Tryz.func49 rfl rfl rfl rfl ?_;intro E hE
 refine ww ?_
 refine wwc hs ?_
 refine ww ?_
 refine rq ⟨rfl,rfl⟩ rfl (AV.le.bool ?_)
 rw [← fIdx_any]
def PredS (g:FuncId) (p:List UInt8→Bool) (l:List (List UInt8)):Prop:=∀ c,c∈l→Spec Tryz.prog g [.d (.str c)] [] (fun r h'=>r=.d (.bool (p c))∧h'=[])
theorem qLt {l:List (List UInt8)} {g:FuncId} {p:List UInt8→Bool} (hp:PredS g p l) (hl:l.length≤1000000000) :
  Spec Tryz.prog 90 [.d (.sl 1 (qAg l)),.fn (.func g) [] []] [] (fun r h'=>r=.I (qZv p l)∧h'=[]):=by
 refine qAb hT Tryz.func90 rfl rfl rfl rfl ?_;intro E hE
 have hlen:=strsAV_length l
 refine ww ?_
 refine qAn (ι:=Nat) (fun k=>[(0,.d (.sl 1 (qAg l))),(1,.fn (.func g) [] []),(7,.d (.int .i64 (qAg l).length)),(8,.I (k:Int))]) (fun _=>[]) (fun k=>k≤l.length∧∀ j,(hj:j < k)→(hj2:j < l.length)→p l[j]=false) (fun k=>l.length-k) 0
  ⟨by omega,fun j hj=>by omega⟩ yf (HLe.refl _) ?_
 rintro k ⟨hk,hb⟩
 refine ww ?_
 refine qAa rfl (fun h1=>?_) (fun h1=>?_)
 ·have hlt:k < l.length:=by rw [hlen] at h1;simpa using h1
  have hel:=strsAV_at hlt
  have hpk:=hp l[k] (List.getElem_mem hlt)
  have hfi:=@fIdx_at _ p l k hlt
  have hbk:p l[k]=false→∀ j,(hj:j < k+1)→(hj2:j < l.length)→p l[j]=false:=fun h j hj hj2=>by
   by_cases hjk:j=k
   ·subst hjk;exact h
   ·exact hb j (by omega) hj2
  generalize l[k]=c at hel hpk hfi hbk
  refine ww ?_
  refine wwi hel ?_
  refine ww ?_
  refine wwc hpk ?_
  refine ww ?_
  refine qAa rfl (fun h2=>?_) (fun h2=>?_)
  ·rw [hfi h2 hb]
   refine ww ?_
   exact wwr
  ·refine ww ?_
   exact ⟨k+1,⟨by omega,hbk (by simpa using h2)⟩,by omega,⟨.refl _,.refl _,.refl _,.int (by rw [qAh (by omega)];omega),trivial⟩,HLe.refl _⟩
 ·have hge:k=l.length:=by rw [hlen] at h1;simp at h1;omega
  rw [fIdx_none (fun j hj=>hb j (by omega) hj)]
  refine ww ?_
  exact wwr
theorem qEq {l:List (List UInt8)} {g:FuncId} {p:List UInt8→Bool} (hp:PredS g p l) (hl:l.length≤1000000000) :
  Spec Tryz.prog 53 [.d (.sl 1 (qAg l)),.fn (.func g) [] []] [] (fun r h'=>r=.d (.bool (l.any p))∧h'=[]):=by
 have hs:=qLt hp hl
 refine qAb hT Tryz.func53 rfl rfl rfl rfl ?_;intro E hE
 refine ww ?_
 refine wwc hs ?_
 refine ww ?_
 refine rq ⟨rfl,rfl⟩ rfl (AV.le.bool ?_)
 rw [← fIdx_any]
def qKf (l:List Int):List AV:=l.map fun n=>.d (.int .i64 n)
def qSx (l:List (List Int)):List (List Dat):=l.map fun b=>[.sl 1 (qAl b)]
theorem encLI_length (l:List (List Int)):(qSx l).length=l.length:=by simp [qSx]
theorem encLI_at {l:List (List Int)} {i:Nat} (h:i < l.length):(qSx l)[((i:Int)).toNat]?=some [.sl 1 (qAl (l.getD i []))]:=by simp [qSx,h]
theorem rowI_length (l:List Int):(qKf l).length=l.length:=by simp [qKf]
theorem rowI_append (a b:List Int):qKf (a++b)=qKf a++qKf b:=by simp [qKf]
theorem flatAV_encI (l:List Int):qEi (qAl l)=qKf l:=by
 induction l with
 | nil=>rfl
 | cons a l ih =>
  simp only [qEi,qAl,qKf,List.map_cons,List.flatten_cons,List.map_append] at ih ⊢
  rw [ih];rfl
theorem qTn (s:List Int):RowDat (qKf s) 0 1 (qAl s):=by
 refine ⟨fun e he=>?_,fun i e j d he hd=>?_⟩
 ·simp only [qAl,List.mem_map] at he
  obtain ⟨b,_,rfl⟩:=he;rfl
 ·simp only [qAl,List.getElem?_map,Option.map_eq_some_iff] at he
  obtain ⟨b,hb,rfl⟩:=he
  cases j with
  | zero=>simp at hd;subst hd;exact ⟨.d (.int .i64 b),by simp [qKf,hb],rfl⟩
  | succ j=>simp at hd
theorem lowL_rowI (k:Nat) (l:List Int):qBl k (qKf l)=true:=lowL_of fun c hc=>by
 simp only [qKf,List.mem_map] at hc
 obtain ⟨b,_,rfl⟩:=hc;rfl
theorem lowH_rowI (k n:Nat) (s:List Int):qCn k [.buf 1 n (qKf s)]=true:=by show (qBl k (qKf s)&&true)=true;rw [Bool.and_true];exact lowL_rowI k s
theorem vGz (n:Nat):(List.replicate n [AV.d (.int .i64 0)]).flatten=qKf (List.replicate n 0):=by
 rw [qKj];unfold qKf;rw [List.map_replicate]
theorem qXv (n:Nat) (hn:1≤n∧n≤1000000):Spec Tryz.prog 87 [.nils,.I (n:Int)] [.room] (fun r h'=>∃ cap:Nat,n≤cap∧r=.row 0 0 0 cap∧h'=[.row (qKf (List.replicate cap 0))]):=by
 refine qAb hT Tryz.func87 rfl rfl rfl rfl ?_;intro E hE
 refine ww ?_
 refine qAa rfl (fun c1=>?_) (fun c1=>?_)
 ·exact absurd c1 (by simp)
 refine ww ?_
 refine qAd (qAe (capNil_ok (sz:=1) hT rfl rfl rfl)) rfl ?_
 refine ww ?_
 refine qAa rfl (fun c2=>?_) (fun c2=>?_)
 ·refine ww ?_
  refine qAd (qAe (capNil_ok (sz:=1) hT rfl rfl rfl)) rfl ?_
  refine qAd (qAe (nilCut_ok (sz:=1) hT rfl rfl rfl rfl)) rfl ?_
  refine ww ?_
  refine qDx (growMakeC_ok (k':=.i64) (n:=n) (i0:=0) (sz:=1) hT rfl rfl rfl (.inr rfl) ?_ ⟨by omega,by decide⟩ (by show n*(8+1)≤_;omega) rfl) rfl ?_
  ·exact congrArg (fun z=>AV.d (.int .i64 z)) (by show IntKind.i64.wrap ((n:Int)-IntKind.i64.wrap (0-0))=(n:Int);rw [show IntKind.i64.wrap ((0:Int)-0)=0 from rfl,qAh (by omega)];omega)
  rintro v h' ⟨cap,hcap,rfl,rfl⟩
  rw [vGz]
  refine ww ?_
  refine qAd (qAe (qYt (sz:=1) (l:=0) (r:=0) (v:=.row 0 0 0 cap) hT rfl rfl rfl rfl ⟨_,rfl⟩ (by omega) (by omega) (by simp))) rfl ?_
  refine ww ?_
  exact rq (h6:=by show (qBl 1 (qKf _)&&true)=true;rw [Bool.and_true];exact lowL_rowI _ _) ⟨cap,hcap,rfl,rfl⟩ rfl (.refl _)
 ·exfalso
  rw [qAh (n:=0-0) (by omega),qAh (by omega)] at c2
  simp at c2
  omega
def qJz (l:List (List Int)) (i:Nat):List Int:=(l.take i).flatten
theorem flatI_succ {l:List (List Int)} {i:Nat} (h:i < l.length):qJz l (i+1)=qJz l i++l.getD i []:=by
 unfold qJz
 rw [List.take_add_one,List.flatten_append,List.getElem?_eq_getElem h]
 simp [h]
theorem flatI_all (l:List (List Int)):qJz l l.length=l.flatten:=by unfold qJz;rw [List.take_length]
theorem flatI_le (l:List (List Int)):∀ (i:Nat),i≤l.length→(qJz l i).length≤l.flatten.length:=by
 intro i hi
 have h:l.flatten=qJz l i++(l.drop i).flatten:=by unfold qJz;rw [← List.flatten_append,List.take_append_drop]
 rw [h,List.length_append];omega
theorem qRg (l:List (List Int)) (hl:l.length≤10) (h0:1≤l.flatten.length) (hb:l.flatten.length≤900000):Spec Tryz.prog 48 [.d (.sl 1 (qSx l))] [.room] (fun r h'=>r=.bm 0 l.flatten.length∧h'=[.buf 1 l.flatten.length (qKf l.flatten)]):=by
 have hll:=encLI_length l
 have hle:=flatI_le l
 have hall:=flatI_all l
 have hsuc:∀ i,i < l.length→qJz l (i+1)=qJz l i++l.getD i []:=fun i h=>flatI_succ h
 have hz:qJz l 0=[]:=rfl
 have hg:=qXv l.flatten.length (by omega)
 have hat:∀ {i:Nat},i < l.length→(qSx l)[((i:Int)).toNat]?=some [.sl 1 (qAl (l.getD i []))]:=fun h=>encLI_at h
 generalize qJz l=fl at hle hall hsuc hz
 generalize l.flatten=tot at *
 generalize qSx l=el at hll hat ⊢
 refine qAb hT Tryz.func48 rfl rfl rfl rfl ?_;intro E hE
 refine ww ?_
 refine qAn (ι:=Nat) (fun i=>[(0,.d (.sl 1 el)),(3,.I ((fl i).length:Int)),(9,.d (.sl 1 el)),(10,.I (l.length:Int)),(11,.I (i:Int))]) (fun _=>[.room]) (fun i=>i≤l.length) (fun i=>l.length-i) 0 (Nat.zero_le _)
  ⟨.refl _,.int (by rw [hz];rfl),.refl _,.int (by rw [hll]),.refl _,trivial⟩ (HLe.refl _) ?_
 intro i hi
 refine ww ?_
 refine qAa rfl (fun c1=>?_) (fun c1=>?_)
 ·have hi':i < l.length:=by simp at c1;omega
  have hat:=hat hi'
  have h1:=hle (i+1) hi'
  have hs:=hsuc i hi'
  have hlen:(fl (i+1)).length=(fl i).length+(l.getD i []).length:=by rw [hs,List.length_append]
  generalize l.getD i []=s at hat hs hlen
  have hel:=encI_length s
  refine ww ?_
  refine wwi hat ?_
  refine ww ?_
  refine qAa rfl (fun c2=>?_) (fun c2=>?_)
  ·exfalso
   rw [hel,qAh (by omega)] at c2
   simp at c2
   omega
  refine ww ?_
  exact ⟨i+1,hi',by omega,⟨.refl _,.int (by rw [hel,hlen,qAh (by omega)];omega),.refl _,.refl _,.int (by rw [qAh (by omega)];omega),trivial⟩,HLe.refl _⟩
 have hi':i=l.length:=by simp at c1;omega
 subst hi'
 rw [hall]
 refine ww ?_
 refine qUv (vIk rfl rfl hg [0] (by decide) rfl rfl rfl rfl (fun _=>by show (qBl 0 (qKf _)&&true)=true;rw [Bool.and_true];exact lowL_rowI _ _) (fun _=>rfl) (fun _=>rfl)) rfl ?_
 intro cap hcap
 refine ww ?_
 refine qYb 6 0 1 (n:=0) (cap:=cap) rfl rfl (by rw [rowI_length,List.length_replicate,Nat.mul_one]) (Nat.zero_le _) rfl ?_
 refine qAn (ι:=Nat) (fun i=>[(6,.bm 0 (fl i).length),(25,.d (.sl 1 el)),(26,.I (l.length:Int)),(27,.I (i:Int))]) (fun i=>[.buf 1 (fl i).length (qKf (fl i))]) (fun i=>i≤l.length) (fun i=>l.length-i) 0 (Nat.zero_le _)
  ⟨by rw [hz];exact .refl _,.refl _,.int (by rw [hll]),.refl _,trivial⟩ (by rw [hz];exact HLe.refl _) ?_
 intro i hi
 refine ww ?_
 refine qAa rfl (fun c1=>?_) (fun c1=>?_)
 ·have hi':i < l.length:=by simp at c1;omega
  have hat:=hat hi'
  have h1:=hle (i+1) hi'
  have hs:=hsuc i hi'
  have hlen:(fl (i+1)).length=(fl i).length+(l.getD i []).length:=by rw [hs,List.length_append]
  generalize l.getD i []=s at hat hs hlen
  have hel:=encI_length s
  refine ww ?_
  refine wwi hat ?_
  refine ww ?_
  refine qAd (bufApp_ok (i:=0) (es2:=qAl s) hT rfl rfl rfl rfl rfl rfl (by show ((fl i).length+(qAl s).length)*(8+1)≤_;omega)) rfl ?_
  rw [flatAV_encI,← rowI_append,← hs,hel,← hlen]
  refine ww ?_
  exact ⟨i+1,hi',by omega,⟨.refl _,.refl _,.refl _,.int (by rw [qAh (by omega)];omega),trivial⟩,HLe.refl _⟩
 have hi':i=l.length:=by simp at c1;omega
 subst hi'
 rw [hall]
 refine ww ?_
 exact rq (h6:=lowH_rowI _ _ _) ⟨rfl,rfl⟩ rfl (.refl _)
def qAr (l:List Flp):List (List Dat):=l.map fun f=>[.int .i64 f.ap,.int .i64 f.byt,.int .i64 f.bit]
theorem encFp_length (l:List Flp):(qAr l).length=l.length:=by simp [qAr]
theorem encFp_at {l:List Flp} {i:Nat} (h:i < l.length):(qAr l)[((i:Int)).toNat]?=some [.int .i64 l[i].ap,.int .i64 l[i].byt,.int .i64 l[i].bit]:=by simp [qAr,h]
def qBn (x:Akt) (P:List (List Dat)):List AV:=[.d (.int .i64 x.kind),.d (.int .i64 x.a),.d (.int .i64 x.b),.d (.int .i64 x.n),.d (.str x.state),.d (.str x.text),
 .d (.str x.number),.d (.str x.sur),.d (.str x.giv),.d (.str x.nat),.d (.str x.bir),.d (.str x.sex),.I x.exp,.d (.sl 1 (qAl x.prots)),.d (.bool x.basic),.d (.sl 5 P),.I x.tday,.d (.sl 1 (qAl x.faults)),
 .d (.sl 1 (qAl x.cuts)),.d (.sl 3 (qAr x.flips))]
structure ActLen (x:Akt) (P:List (List Dat)):Prop where
 pts:P.length=x.pts
 nums:x.prots.length+x.faults.length+x.pts+x.cuts.length+x.flips.length≤3200
 txts:x.text.length+x.state.length+x.sur.length+x.giv.length+x.number.length+x.nat.length+x.bir.length+x.sex.length≤12000
theorem lowI (k n:Nat) (s:List Int) (t:List AObj):qCn k (.buf 1 n (qKf s)::t)=qCn k t:=by show (qBl k (qKf s)&&qCn k t)=_;rw [lowL_rowI];rfl
def qDf (l:List Flp):List Int:=(l.map fun f=>[f.ap,f.byt,f.bit]).flatten
theorem flipsN_snoc (l:List Flp) (f:Flp):qDf (l++[f])=qDf l++[f.ap,f.byt,f.bit]:=by simp [qDf]
theorem flipsN_len (l:List Flp):(qDf l).length=3*l.length:=by
 induction l with
 | nil=>rfl
 | cons f l ih=>simp only [qDf,List.map_cons,List.flatten_cons,List.length_append,List.length_cons,List.length_nil] at ih ⊢;omega
def qSg (x:Akt):List Int:=[[x.a,x.b,x.n,x.exp],x.prots,x.faults,x.cuts].flatten++qDf x.flips
theorem numsA_iff (x:Akt):(qSg x).any vBg=false↔qHp x:=by
 have h:∀ l:List Int,(l.any vBg=false)↔∀ n,n∈l→qAz n:=fun l=>by
  rw [List.any_eq_false]
  exact ⟨fun h n hn=>(badN_iff n).1 (by have:=h n hn;simpa using this),fun h n hn=>by rw [(badN_iff n).2 (h n hn)];simp⟩
 rw [h]
 unfold qSg qHp qDf
 simp only [List.flatten_cons,List.flatten_nil,List.append_nil,List.mem_append,List.mem_cons,List.not_mem_nil,or_false,List.mem_flatten,List.mem_map]
 constructor
 ·intro h
  refine ⟨h _ (.inl (.inl (.inl rfl))),h _ (.inl (.inl (.inr (.inl rfl)))),h _ (.inl (.inl (.inr (.inr (.inl rfl))))),h _ (.inl (.inl (.inr (.inr (.inr rfl))))),fun n hn=>h n (.inl (.inr (.inl hn))),fun n hn=>h n (.inl (.inr (.inr (.inl hn)))),fun n hn=>h n (.inl (.inr (.inr (.inr hn)))),fun f hf=>⟨?_,?_,?_⟩⟩
  ·exact h _ (.inr ⟨_,⟨f,hf,rfl⟩,by simp⟩)
  ·exact h _ (.inr ⟨_,⟨f,hf,rfl⟩,by simp⟩)
  ·exact h _ (.inr ⟨_,⟨f,hf,rfl⟩,by simp⟩)
 ·rintro ⟨h1,h2,h3,h4,h5,h6,h7,h8⟩ n hn
  rcases hn with (hn | hn | hn | hn) | ⟨l,⟨f,hf,rfl⟩,hn⟩
  ·rcases hn with rfl | rfl | rfl | rfl
   ·exact h1
   ·exact h2
   ·exact h3
   ·exact h4
  ·exact h5 n hn
  ·exact h6 n hn
  ·exact h7 n hn
  ·simp only [List.mem_cons,List.not_mem_nil,or_false] at hn
   rcases hn with rfl | rfl | rfl
   ·exact (h8 f hf).1
   ·exact (h8 f hf).2.1
   ·exact (h8 f hf).2.2
theorem smallC_spec (x:Akt) (P:List (List Dat)) (hx:ActLen x P):Spec Tryz.prog 25 [.agg (qBn x P)] [] (fun r h'=>r=.d (.bool (!(qSg x).any vBg))∧h'=[]):=by
 obtain ⟨tot,htot⟩:∃ t,t=([[x.a,x.b,x.n,x.exp],x.prots,x.faults,x.cuts]:List (List Int)).flatten:=⟨_,rfl⟩
 have htl:tot.length≤3204∧4≤tot.length:=by
  rw [htot]
  have:=hx.nums
  simp only [List.flatten_cons,List.flatten_nil,List.append_nil,List.length_append,List.length_cons,List.length_nil]
  omega
 have hC:=Spec.args (args:=[.sl 1 [[.sl 1 [[.int .i64 x.a],[.int .i64 x.b],[.int .i64 x.n],[.int .i64 x.exp]]],[.sl 1 (qAl x.prots)],[.sl 1 (qAl x.faults)],[.sl 1 (qAl x.cuts)]] .full]) (by exact ⟨.dat,trivial⟩)
  (qRg [[x.a,x.b,x.n,x.exp],x.prots,x.faults,x.cuts] (by simp) (by rw [← htot];omega) (by rw [← htot];omega))
 have hnum:qSg x=tot++qDf x.flips:=by rw [htot];rfl
 rw [← htot] at hC
 rw [hnum]
 clear htot hnum
 have hfl:x.flips.length≤3200:=by have:=hx.nums;omega
 have hfal:=encFp_length x.flips
 have hfat:∀ {i:Nat} (h:i < x.flips.length),(qAr x.flips)[((i:Int)).toNat]?=some [.int .i64 x.flips[i].ap,.int .i64 x.flips[i].byt,.int .i64 x.flips[i].bit]:=fun h=>encFp_at h
 have hF:=qIo (l:=tot++qDf x.flips) (g:=50) (p:=vBg) (fun c _=>badN_spec c) (by rw [List.length_append,flipsN_len];omega)
 clear hx
 obtain ⟨k,a,b,n,st,tx,nu,su,gi,na,bi,se,ex,pr,ba,pt,td,fa,cu,fl⟩:=x
 simp only at *
 unfold qBn
 simp only
 generalize qAr fl=ef at hfal hfat ⊢
 refine qAb hT Tryz.func25 rfl rfl rfl rfl ?_;intro E hE
 refine qAq ?_
 refine ww ?_
 refine qAd (qAk rfl rfl hC [0] (by decide) rfl rfl rfl rfl (lowH_rowI _ _ _) rfl rfl) rfl ?_
 refine ww ?_
 refine qEs (ι:=Nat) (fun i=>[(1,.ptr 1 0),(3,.bm 0 (tot++qDf (fl.take i)).length),(29,.d (.sl 3 ef)),(30,.I (fl.length:Int)),(31,.I (i:Int))]) (fun i=>[.buf 1 (tot++qDf (fl.take i)).length (qKf (tot++qDf (fl.take i))),.row [.I k,.I a,.I b,.I n,.d (.str st),.d (.str tx),.d (.str nu),.d (.str su),.d (.str gi),.d (.str na),.d (.str bi),.d (.str se),.I ex,.d (.sl 1 (qAl pr)),.d (.bool ba),.d (.sl 5 P),.I td,.d (.sl 1 (qAl fa)),.d (.sl 1 (qAl cu)),.d (.sl 3 ef)]]) (fun i=>i≤fl.length) (fun i=>fl.length-i) 0 (Nat.zero_le _)
  ⟨.refl _,AV.le.eq (by show AV.bm 0 tot.length=_;simp [qDf]),.refl _,.int (by rw [hfal]),.refl _,trivial⟩ ⟨by simp [qDf];exact .refl _,.refl _,trivial⟩ ?_
 intro i hi
 refine ww ?_
 refine qAa rfl (fun c1=>?_) (fun c1=>?_)
 ·have hi':i < fl.length:=by simp at c1;omega
  have hat:=hfat hi'
  have htk:fl.take (i+1)=fl.take i++[fl[i]]:=List.take_succ_eq_append_getElem hi'
  have hsn:=flipsN_snoc (fl.take i) fl[i]
  rw [← htk] at hsn
  have hln:(tot++qDf (fl.take i)).length≤20000:=by rw [List.length_append,flipsN_len,List.length_take];omega
  generalize fl[i]=f at hat hsn
  obtain ⟨f1,f2,f3⟩:=f
  simp only at hat hsn
  have he:tot++qDf (fl.take (i+1))=(tot++qDf (fl.take i))++[f1,f2,f3]:=by rw [hsn,List.append_assoc]
  generalize tot++qDf (fl.take i)=L at hln he ⊢
  refine ww ?_
  refine wwi hat ?_
  refine ww ?_
  refine qAd (bufApp_ok (i:=0) (es2:=qAl [f1,f2,f3]) hT rfl rfl rfl rfl rfl rfl (by show (L.length+3)*(8+1)≤_;omega)) rfl ?_
  rw [flatAV_encI,← rowI_append,encI_length,← List.length_append]
  refine ww ?_
  exact ⟨i+1,[_],hi',by omega,⟨.refl _,AV.le.eq (by rw [he];rfl),.refl _,.refl _,.int (by rw [qAh (by omega)];omega),trivial⟩,(by rw [he];exact HLe.refl _),Env.below_mono hE (by simp),rfl,(lowI _ _ _ _).trans rfl⟩
 have hi':i=fl.length:=by simp at c1;omega
 subst hi'
 rw [List.take_length]
 generalize tot++qDf fl=L at hF ⊢
 refine qBr ?_
 refine qJu 3 0 1 (qAl L) rfl rfl (encI_length L) (qTn L) rfl ?_
 refine qAi (l:=[(1,.ptr 1 0),(3,.d (.sl 1 (qAl L)))]) ⟨.refl _,.dat,trivial⟩ (HLe.refl _) ?_
 refine ww ?_
 refine wwc hF ?_
 refine ww ?_
 exact wwr
theorem wrL_cons_length (t:Int) (v:List UInt8) (k r:List Node):(wrL (.mk t v k::r)).length≤11+v.length+(wrL k).length+(wrL r).length:=by
 have h1:=wrL_one_le t v k
 have h2:=congrArg List.length (wrL_append [.mk t v k] r)
 rw [List.length_append] at h2
 have h3:[Node.mk t v k]++r=.mk t v k::r:=rfl
 rw [h3] at h2
 omega
def pG:Nat:=2147483579
def qVk:Nat→Nat→Nat→Nat→Nat
 | 0,x,k,out=>out
 | m+1,x,k,out=>if k=0 then out else qVk m (x*x % pG) (k / 2) (if k % 2=1 then out*x % pG else out)
theorem mulP_lt {a b:Nat} (ha:a < pG) (hb:b < pG):a*b≤4611686018427387904:=by
 have:=Nat.mul_le_mul (Nat.le_of_lt ha) (Nat.le_of_lt hb)
 exact Nat.le_trans this (by decide)
set_option maxHeartbeats 4000000 in
set_option maxRecDepth 100000 in
theorem qXt:Spec Tryz.prog 164 [.d (.int .u64 1073741789)] [] (fun r h'=>r=.I 30∧h'=[]):=by
 refine qAb hT Tryz.func164 rfl rfl rfl rfl ?_
 intro E hE
 refine ww ?_
 refine qAa rfl (fun h1=>?_) (fun h1=>?_)
 ·exact absurd h1 (by decide)
 ·refine ww ?_
  refine qAa rfl (fun h2=>?_) (fun h2=>?_)
  ·refine ww ?_
   refine qAa rfl (fun h3=>?_) (fun h3=>?_)
   ·refine ww ?_
    refine qOt hT rfl rfl (by decide) ?_
    refine ww ?_
    exact qAj (r:=.I 30) rfl (AV.le.eq (by rfl)) rfl rfl rfl rfl ⟨rfl,rfl⟩
   ·exact absurd h3 (by decide)
  ·exact absurd h2 (by decide)
set_option maxHeartbeats 4000000 in
set_option maxRecDepth 100000 in
theorem vDk:Spec Tryz.prog 449 [.d (.int .u64 1073741789)] [] (fun r h'=>r=.I 30∧h'=[]):=by
 refine qAb hT Tryz.func449 rfl rfl rfl rfl ?_
 intro E hE
 refine ww ?_
 refine qAa rfl (fun h1=>?_) (fun h1=>?_)
 ·exact absurd h1 (by decide)
 ·refine ww ?_
  refine qAd (qCf rfl rfl qXt rfl rfl rfl) rfl ?_
  refine ww ?_
  exact qAj rfl (.refl _) rfl rfl rfl rfl ⟨rfl,rfl⟩
theorem vEf (n:Nat):(List.replicate n [AV.d (.int .u8 0)]).flatten=qBf (List.replicate n 0):=by
 induction n with
 | zero=>rfl
 | succ n ih=>rw [List.replicate_succ,List.flatten_cons,ih];rfl
def qG:Nat:=1073741789
theorem qG_div:∀ {i:Nat},i < 30→qG / 2 ^ i≠0:=by
 have h:∀ i,i∈List.range 30→qG / 2 ^ i≠0:=by decide
 exact fun {i} hi=>h i (List.mem_range.2 hi)
theorem qWu (x:Nat) (hx:x < pG):Spec Tryz.prog 332 [.I (x:Int),.I 1073741789] [] (fun r h'=>r=.I (qVk 30 x qG 1:Int)∧h'=[]):=by
 have hlen:Spec Tryz.prog 449 [.d (.int .u64 (IntKind.u64.wrap 1073741789))] [] (fun r h'=>r=.I 30∧h'=[]):=by
  rw [show IntKind.u64.wrap 1073741789=1073741789 by decide];exact vDk
 generalize hfin:qVk 30 x qG 1=fin
 refine qAb hT Tryz.func332 rfl rfl rfl rfl ?_;intro E hE
 refine ww ?_
 refine wwc hlen ?_
 refine ww ?_
 refine qAn (ι:=Nat×Nat×Nat) (fun y=>[(0,.I (y.2.1:Int)),(1,.I 1073741789),(5,.I (y.2.2:Int)),(9,.I 30),(10,.I (y.1:Int))]) (fun _=>[])
  (fun y=>y.1≤30∧y.2.1 < pG∧y.2.2 < pG∧qVk (30-y.1) y.2.1 (qG / 2 ^ y.1) y.2.2=fin) (fun y=>30-y.1) (0,x,1) ⟨by omega,hx,show 1 < pG by decide,by simpa using hfin⟩ yf (HLe.refl _) ?_
 rintro ⟨i,x,out⟩ ⟨hi,hx,ho,hg⟩
 simp only at hi hx ho hg ⊢
 refine ww ?_
 refine qAa rfl (fun h1=>?_) (fun h1=>?_)
 ·have h1':i < 30:=by simp at h1;omega
  have hq:=qG_div h1'
  have hq2:qG / 2 ^ i < 9223372036854775808:=Nat.lt_of_le_of_lt (Nat.div_le_self _ _) (by decide)
  obtain ⟨m,hm⟩:∃ m,30-i=m+1:=⟨30-i-1,by omega⟩
  rw [hm,qVk,if_neg hq,Nat.div_div_eq_div_mul,← Nat.pow_succ] at hg
  have hm':m=30-(i+1):=by omega
  subst hm'
  have hsh:Int.fdiv 1073741789 (2 ^ (min ((i:Int)).toNat IntKind.i64.bits))=((qG / 2 ^ i:Nat):Int):=by
   rw [show min ((i:Int)).toNat IntKind.i64.bits=i by simp [IntKind.bits];omega]
   exact qDt qG i
  have hand:IntKind.i64.wrap ((BitVec.ofInt IntKind.i64.bits (Int.fdiv 1073741789 (2 ^ (min ((i:Int)).toNat IntKind.i64.bits))) &&& BitVec.ofInt IntKind.i64.bits 1).toNat:Int)=((qG / 2 ^ i % 2:Nat):Int):=by
   rw [hsh]
   have:=qTf (a:=qG / 2 ^ i) (b:=1) hq2 (by omega)
   rw [Nat.and_one_is_mod] at this
   exact this
  have hxx:=mulP_lt hx hx
  have hox:=mulP_lt ho hx
  have hm1:IntKind.i64.wrap ((x:Int)*(x:Int))=((x*x:Nat):Int):=by rw [← Int.natCast_mul];exact qAh (by omega)
  have hm2:IntKind.i64.wrap ((out:Int)*(x:Int))=((out*x:Nat):Int):=by rw [← Int.natCast_mul];exact qAh (by omega)
  have ht1:Int.tmod (IntKind.i64.wrap ((x:Int)*(x:Int))) 2147483579=((x*x % pG:Nat):Int):=by rw [hm1];rfl
  have ht2:Int.tmod (IntKind.i64.wrap ((out:Int)*(x:Int))) 2147483579=((out*x % pG:Nat):Int):=by rw [hm2];rfl
  have hwi:IntKind.i64.wrap ((i:Int)+1)=((i+1:Nat):Int):=by rw [qAh (by omega)];omega
  have hl1:x*x % pG < pG:=Nat.mod_lt _ (by decide)
  have hl2:out*x % pG < pG:=Nat.mod_lt _ (by decide)
  generalize qG / 2 ^ i % 2=bt at hand hg
  refine ww ?_
  refine qAa rfl (fun h2=>?_) (fun h2=>?_)
  ·have h2':bt=1:=by rw [hand] at h2;simp at h2;omega
   rw [if_pos h2'] at hg
   refine ww ?_
   exact ⟨(i+1,x*x % pG,out*x % pG),⟨h1',hl1,hl2,hg⟩,by simp only;omega,⟨.int ht1,.refl _,.int ht2,.refl _,.int hwi,trivial⟩,HLe.refl _⟩
  ·have h2':¬ bt=1:=by rw [hand] at h2;simp at h2;omega
   rw [if_neg h2'] at hg
   refine ww ?_
   exact ⟨(i+1,x*x % pG,out),⟨h1',hl1,ho,hg⟩,by simp only;omega,⟨.int ht1,.refl _,.refl _,.refl _,.int hwi,trivial⟩,HLe.refl _⟩
 ·have h1':i=30:=by simp at h1;omega
  subst h1'
  have hg':out=fin:=by rw [← hg];rfl
  subst hg'
  refine ww ?_
  exact wwr
def qHu (x:Int):Bool:=decide (0 < x∧x < 2147483579)
def qIy (x:Int):Bool:=qHu x&&decide (x≠1)&&decide (qVk 30 x.toNat qG 1=1)
theorem qJf (x:Int):Spec Tryz.prog 482 [.I x] [] (fun r h'=>r=.d (.bool (qHu x))∧h'=[]):=by
 refine qAb hT Tryz.func482 rfl rfl rfl rfl ?_;intro E hE
 refine ww ?_
 exact vHi ⟨rfl,rfl⟩ rfl (.bool (by unfold qHu;rw [Bool.decide_and])) rfl rfl rfl rfl
theorem vHm (x y:Int):(x != y)=decide (x≠y):=by rw [Bool.eq_iff_iff];simp
theorem vFs (n:Nat):((n:Int) == 1)=decide (n=1):=by rw [Bool.eq_iff_iff];simp;omega
theorem qJq (x:Int):Spec Tryz.prog 372 [.I x] [] (fun r h'=>r=.d (.bool (qIy x))∧h'=[]):=by
 have hres:=qJf x
 have hp:qHu x=true→Spec Tryz.prog 332 [.I x,.I 1073741789] [] (fun r h'=>r=.I (qVk 30 x.toNat qG 1:Int)∧h'=[]):=fun hr=>by
  have hr:0 < x∧x < 2147483579:=of_decide_eq_true hr
  have hp:=qWu x.toNat (by unfold pG;omega)
  rw [Int.toNat_of_nonneg (by omega)] at hp
  exact hp
 unfold qIy
 generalize qVk 30 x.toNat qG 1=pw at hp
 generalize qHu x=c at hp hres
 refine qAb hT Tryz.func372 rfl rfl rfl rfl ?_;intro E hE
 refine ww ?_
 refine wwc hres ?_
 refine ww ?_
 refine qCd (v:=.I (pw:Int)) rfl rfl rfl (fun hg=>⟨by first | exact True.intro | exact ⟨hg,True.intro⟩ | exact ⟨hg,hg,True.intro⟩,qCf rfl rfl (hp (by simp [gval] at hg;exact hg.1)) rfl rfl rfl⟩) ?_
 refine ww ?_
 exact vHi ⟨rfl,rfl⟩ rfl (.bool (by rw [vHm,vFs])) rfl rfl rfl rfl
theorem elemG_range {x:Int} (h:qIy x=true):0 < x∧x < 2147483579:=by
 unfold qIy qHu at h
 simp only [Bool.and_eq_true] at h
 exact of_decide_eq_true h.1.1
def qBp:Nat→Nat→List UInt8
 | 0,_=>[]
 | m+1,n=>qBp m (n / 256)++[UInt8.ofNat (n % 256)]
theorem octB_length:∀ (m n:Nat),(qBp m n).length=m
 | 0,_=>rfl
 | m+1,n=>by simp [qBp,octB_length m]
theorem octB_succ:∀ (m n:Nat),qBp (m+1) n=UInt8.ofNat (n / 256 ^ m % 256)::qBp m n
 | 0,n=>by simp [qBp]
 | m+1,n=>by
  have ih:=octB_succ m (n / 256)
  rw [qBp,ih,qBp,Nat.div_div_eq_div_mul,Nat.pow_succ,Nat.mul_comm (256 ^ m)]
  rfl
theorem qVe {α:Type} (z b:α) (l:List α):∀ (k:Nat),(List.replicate (k+1) z++l).set k b=List.replicate k z++b::l
 | 0=>rfl
 | k+1=>by
  have:=qVe z b l k
  rw [List.replicate_succ,List.cons_append,List.set_cons_succ,this,← List.cons_append,← List.replicate_succ]
theorem qHk (n m:Nat) (hm:m≤7) (hn:n < 256 ^ m):Spec Tryz.prog 218 [.I (n:Int),.I (m:Int)] [] (fun r h'=>r=.tup [.d (.sl 1 (qBb (qBp m n))),.I 0]∧h'=[]):=by
 have hn8:n < 2 ^ (8*m):=by rw [show (256:Nat)=2 ^ 8 by rfl,← Nat.pow_mul] at hn;exact hn
 have hn2:n < 72057594037927936:=Nat.lt_of_lt_of_le hn (Nat.le_trans (Nat.pow_le_pow_right (by omega) hm) (by decide))
 have hw8:IntKind.i64.wrap (8*(m:Int))=((8*m:Nat):Int):=by rw [qAh (by omega)];omega
 have hz:Int.fdiv (n:Int) (2 ^ (min (IntKind.i64.wrap (8*(m:Int))).toNat IntKind.i64.bits))=0:=by
  rw [hw8,show min (((8*m:Nat):Int)).toNat IntKind.i64.bits=8*m by simp [IntKind.bits];omega,qDt,Nat.div_eq_of_lt hn8];rfl
 refine qAb hT Tryz.func218 rfl rfl rfl rfl ?_;intro E hE
 refine ww ?_
 refine qAa rfl (fun h1=>?_) (fun h1=>?_)
 ·exact absurd h1 (by simp;omega)
 refine ww ?_
 refine qAa rfl (fun h2=>?_) (fun h2=>?_)
 ·refine absurd h2 ?_
  rw [hz];simp
 refine ww ?_
 refine qAd (makeRow_ok (n:=m) hT rfl rfl rfl rfl (by show 1*m≤_;omega) (by omega)) rfl ?_
 rw [vEf]
 refine ww ?_
 refine qAn (ι:=Nat) (fun i=>[(0,.I (n:Int)),(1,.I (m:Int)),(6,.row 0 0 m m),(25,.I (m:Int)),(26,.I (i:Int))]) (fun i=>[.row (qBf (List.replicate (m-i) 0++qBp i n))])
  (fun i=>i≤m) (fun i=>m-i) 0 (by omega) yf ⟨by simp [qBp];exact ObLe.refl _,trivial⟩ ?_
 intro i hi
 refine ww ?_
 refine qAa rfl (fun h3=>?_) (fun h3=>?_)
 ·have h3':i < m:=by simp at h3;omega
  have hwi:IntKind.i64.wrap ((i:Int)+1)=((i+1:Nat):Int):=by rw [qAh (by omega)];omega
  have hix:IntKind.i64.wrap (IntKind.i64.wrap ((m:Int)-1)-(i:Int))=((m-1-i:Nat):Int):=by rw [qAh (n:=(m:Int)-1) (by omega),qAh (by omega)];omega
  have hwb:IntKind.i64.wrap (8*(i:Int))=((8*i:Nat):Int):=by rw [qAh (by omega)];omega
  have hby:IntKind.u8.wrap (Int.fdiv (n:Int) (2 ^ (min (IntKind.i64.wrap (8*(i:Int))).toNat IntKind.i64.bits)))=((UInt8.ofNat (n / 256 ^ i % 256)).toNat:Int):=by
   rw [hwb,show min (((8*i:Nat):Int)).toNat IntKind.i64.bits=8*i by simp [IntKind.bits];omega,qDt,qEe,toNat_ofNat (Nat.mod_lt _ (by omega)),Nat.pow_mul];simp
  have hrow:(qBf (List.replicate (m-i) 0++qBp i n)).set (m-1-i) (AV.d (.int .u8 (IntKind.u8.wrap (Int.fdiv (n:Int) (2 ^ (min (IntKind.i64.wrap (8*(i:Int))).toNat IntKind.i64.bits))))))=qBf (List.replicate (m-(i+1)) 0++qBp (i+1) n):=by
   rw [hby,octB_succ,show m-i=(m-(i+1))+1 by omega,show m-1-i=m-(i+1) by omega]
   have:=qVe (0:UInt8) (UInt8.ofNat (n / 256 ^ i % 256)) (qBp i n) (m-(i+1))
   rw [← this]
   simp [qBf,List.map_set]
  have hlen:(qBf (List.replicate (m-i) 0++qBp i n)).length=m:=by rw [byteAV_length];simp [octB_length];omega
  generalize qBf (List.replicate (m-i) 0++qBp i n)=row at hrow hlen
  refine ww ?_
  refine qAd (qAe (rowAddr_ok (sz:=1) hT rfl rfl rfl rfl (by rw [hix];omega))) rfl ?_
  refine qAu (qHo hT rfl rfl rfl rfl rfl rfl (by rw [hix,hlen];simp;omega)) rfl ?_
  refine ww ?_
  refine ⟨i+1,by omega,by omega,⟨.refl _,.refl _,.refl _,.refl _,.int hwi,trivial⟩,⟨?_,trivial⟩⟩
  rw [← hrow]
  exact ObLe.row (by rw [hix,show 0+(((m-1-i:Nat):Int)).toNat*1=m-1-i by simp];rfl)
 ·have h3':i=m:=by simp at h3;omega
  subst h3'
  rw [Nat.sub_self,List.replicate_zero,List.nil_append]
  refine wwe ?_
  refine qMc 6 0 1 (qBb (qBp i n)) rfl rfl (by rw [encB_length,octB_length]) (Nat.le_refl _) (qGj _) ?_
  refine ww ?_
  exact wwr
theorem qRd (x:Int):Spec Tryz.prog 345 [.I x] [] (fun r h'=>r=.tup [.d (.sl 1 (qBb (if qIy x=true then qBp 4 x.toNat else []))),.I (if qIy x=true then 0 else 10)]∧h'=[]):=by
 have hel:=qJq x
 have hoc:qIy x=true→Spec Tryz.prog 218 [.I x,.I 4] [] (fun r h'=>r=.tup [.d (.sl 1 (qBb (qBp 4 x.toNat))),.I 0]∧h'=[]):=fun h=>by
  have hr:=elemG_range h
  have:=qHk x.toNat 4 (by omega) (by omega)
  rw [Int.toNat_of_nonneg (by omega)] at this
  exact this
 generalize qBp 4 x.toNat=bs at hoc
 generalize qIy x=c at hel hoc
 refine qAb hT Tryz.func345 rfl rfl rfl rfl ?_;intro E hE
 refine ww ?_
 refine wwc hel ?_
 refine ww ?_
 refine qAa rfl (fun h1=>?_) (fun h1=>?_)
 ·obtain rfl:c=false:=by simpa using h1
  refine ww ?_
  exact wwr
 ·obtain rfl:c=true:=by simpa using h1
  have hoc:=hoc rfl
  refine ww ?_
  refine wwc hoc ?_
  refine ww ?_
  exact wwr
theorem qZr (n k:Nat) (h:n < 9223372036854775808):IntKind.u8.wrap (Int.fdiv (n:Int) (2 ^ (min ((k:Int)).toNat IntKind.i64.bits)))=((UInt8.ofNat (n / 2 ^ (min k 64) % 256)).toNat:Int):=by
 rw [show min ((k:Int)).toNat IntKind.i64.bits=min k 64 by simp [IntKind.bits],qDt,qEe,toNat_ofNat (Nat.mod_lt _ (by omega))];simp
end Tdoc
namespace Tdoc
open Go
def nbN (v:List UInt8):Nat:=v.foldl (fun n c=>256*n+c.toNat) 0
theorem nbN_snoc (v:List UInt8) (c:UInt8):nbN (v++[c])=256*nbN v+c.toNat:=by simp [nbN]
theorem nbN_lt:∀ (v:List UInt8),nbN v < 256 ^ v.length:=fun v=>by
 suffices h:∀ (v:List UInt8) (n:Nat),v.foldl (fun n c=>256*n+c.toNat) n < (n+1)*256 ^ v.length by
  have:=h v 0;simpa [nbN] using this
 intro v
 induction v with
 | nil=>intro n;simp
 | cons c v ih =>
  intro n
  have h1:=ih (256*n+c.toNat)
  have h2:=UInt8.toNat_lt c
  rw [List.foldl_cons,List.length_cons,Nat.pow_succ,Nat.mul_comm (256 ^ v.length) 256,← Nat.mul_assoc]
  exact Nat.lt_of_lt_of_le h1 (Nat.mul_le_mul_right _ (by omega))
theorem index_one (x c:UInt8) (l:List UInt8):Lib.index (c::l) [x]=if c=x then 0 else if Lib.index l [x] = -1 then -1 else Lib.index l [x]+1:=by
 conv=>lhs;unfold Lib.index
 by_cases h:c=x
 ·subst h;simp [List.isPrefixOf]
 ·have hp:([x]:List UInt8).isPrefixOf (c::l)=false:=by
   simp only [List.isPrefixOf,Bool.and_true,beq_eq_false_iff_ne,ne_eq]
   exact fun e=>h e.symm
  rw [hp,if_neg h]
  by_cases hm:Lib.index l [x] = -1 <;> simp [hm]
theorem replaceK_miss (x y c:UInt8) (l:List UInt8) (h:c≠x):∀ n,Lib.replaceK [x] [y] n (c::l)=c::Lib.replaceK [x] [y] n l
 | 0=>rfl
 | n+1=>by
  have hi:=index_one x c l
  rw [if_neg h] at hi
  have hge:=Lib.index_ge l [x]
  unfold Lib.replaceK
  by_cases hm:Lib.index l [x] = -1
  ·rw [if_pos hm] at hi
   rw [hi,hm];rfl
  ·rw [if_neg hm] at hi
   have h1:¬ (Lib.index l [x] == -1)=true:=by simpa using hm
   have h2:¬ (Lib.index (c::l) [x] == -1)=true:=by rw [hi];simp;omega
   rw [if_neg h1,if_neg h2,hi]
   have ht:(Lib.index l [x]+1).toNat=(Lib.index l [x]).toNat+1:=by omega
   rw [ht]
   simp [Nat.add_right_comm]
theorem qZz (x c:UInt8) (l:List UInt8):Lib.count (c::l) [x]=(if c=x then 1 else 0)+Lib.count l [x]:=by
 have hi:=index_one x c l
 by_cases h:c=x
 ·rw [if_pos h] at hi
  rw [if_pos h,Lib.count_hit (i:=0) (by simp) (by rw [hi];rfl)]
  rfl
 ·rw [if_neg h] at hi
  have hge:=Lib.index_ge l [x]
  rw [if_neg h,Nat.zero_add]
  by_cases hm:Lib.index l [x] = -1
  ·rw [if_pos hm] at hi
   rw [Lib.count_miss hi,Lib.count_miss hm]
  ·rw [if_neg hm] at hi
   have h1:Lib.index l [x]=((Lib.index l [x]).toNat:Int):=by omega
   have h2:Lib.index (c::l) [x]=(((Lib.index l [x]).toNat+1:Nat):Int):=by omega
   rw [Lib.count_hit (by simp) h1,Lib.count_hit (by simp) h2]
   simp [Nat.add_right_comm]
theorem replaceK_all (x y:UInt8):∀ (s:List UInt8),Lib.replaceK [x] [y] (Lib.count s [x]) s=s.map fun c=>if c=x then y else c
 | []=>by
  have h:Lib.index ([]:List UInt8) [x] = -1:=rfl
  rw [Lib.count_miss h];rfl
 | c::l=>by
  have ih:=replaceK_all x y l
  rw [qZz,List.map_cons]
  by_cases h:c=x
  ·subst h
   rw [if_pos rfl,if_pos rfl,Nat.add_comm,Lib.replaceK_hit [c] [y] _ (c::l) 0 (by rw [index_one,if_pos rfl];rfl),← ih]
   simp
  ·rw [if_neg h,if_neg h,Nat.zero_add,replaceK_miss x y c l h,ih]
theorem qSb (x y:UInt8) (h:x≠y) (s:List UInt8):Lib.replaceAll s [x] [y]=s.map fun c=>if c=x then y else c:=by
 unfold Lib.replaceAll Lib.replace
 rw [if_neg (by simpa using h)]
 unfold Lib.replaceNum
 rw [if_pos (.inl (by decide)),replaceK_all]
open Go Go.Proofs
theorem chkL_of {d:Nat}:∀ {l:List Node} {c:Nat},(∀ n,n∈l→(qMn d n 0).1=0)→(qIz d l c).1=0
 | [],_,_=>rfl
 | a::l,c,h=>by
  rw [qIz,if_pos (by rw [chkN_any d a c 0];exact h a (by simp))]
  exact chkL_of fun n hn=>h n (by simp [hn])
end Tdoc
namespace Tdoc
open Go
end Tdoc
