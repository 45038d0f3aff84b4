/- The texts Z3 ZN ZC0 Z4 Z5 Z6 ZC ZO ZD ZR ZE ZP ZQ ZU XA P1 P2 P3 P4 P5 P6 P7 XB XC XD XE XF XG XH XI XJ XK OE Y8 Y9 XL XM OF YA: each says at its head what it shows. Part 4 of the proof; no conditions beyond the theorems' own. -/
import Derived.Test.YtnjanpmgonoeeaaGreatDoorKP3
import Derived.Test.YtnjanpmgonoeeaaGreatDoorKP2
import Derived.Lib.TrimByte
import Derived.Lib.Replace
import Derived.Lib.CutLaws
/- Dice: objects written with lengths of any form. -/
set_option maxHeartbeats 8000000
set_option maxRecDepth 100000
set_option linter.unusedVariables false
set_option linter.unusedSimpArgs false
namespace Tdoc
open Go Go.Proofs
theorem EncL.append {a b:List Node} {x y:List UInt8} (h:EncL a x) (h2:EncL b y):EncL (a++b) (x++y):=by
 induction h with
 | nil=>exact h2
 | prim h3 h4 h5 ih=>simp only [List.append_assoc,List.cons_append];exact .prim h3 h4 ih
 | cons h3 h4 h5 h6 _ ih=>simp only [List.append_assoc,List.cons_append];exact .cons h3 h4 h5 ih
 | free h3 h4 h5 _ ih=>simp only [List.append_assoc,List.cons_append];exact .free h3 h4 ih
theorem chkL_mem {d:Nat}:∀ {l:List Node} {n:Node},(chkL d l 0).1=0→n∈l→(chkN d n 0).1=0
 | a::l,n,h,hm=>by
  have h2:=chkL_inv h
  rcases List.mem_cons.1 hm with rfl | hm
  ·exact h2.1
  ·exact chkL_mem h2.2 hm
theorem qDe:∀ (l:List Node),l.length≤wgtL l
 | []=>by simp
 | .mk t v k::l=>by have:=qDe l;rw [wgtL,wgtN,List.length_cons];omega
def LooseP (L:List Int) (l:List Node) (x:List UInt8×Nat):Prop:=EncL l x.1∧x.1.length≤wgtL l∧x.2≤L.length
theorem tagB_cut (tn:Nat):tagB (tn:Int)=(if tn > 255 then [UInt8.ofNat (tn / 256 % 256)] else [])++[UInt8.ofNat (tn % 256)]:=by
 have e1:((tn:Int) / 256 % 256).toNat=tn / 256 % 256:=by omega
 have e2:((tn:Int) % 256).toNat=tn % 256:=by omega
 unfold tagB
 rw [e1,e2]
 by_cases h9:tn > 255
 ·rw [if_pos (by omega),if_pos h9];rfl
 ·rw [if_neg (by omega),if_neg h9];rfl
theorem u8_lo (n:Nat):IntKind.u8.wrap (n:Int)=((UInt8.ofNat (n % 256)).toNat:Int):=by rw [qBy,toNat_ofNat (Nat.mod_lt _ (by omega))];simp
theorem u8_hi (n:Nat):IntKind.u8.wrap (Int.fdiv (n:Int) (2 ^ (min (8:Int).toNat IntKind.i64.bits)))=((UInt8.ofNat (n / 256 % 256)).toNat:Int):=by
 rw [show Int.fdiv (n:Int) (2 ^ (min (8:Int).toNat IntKind.i64.bits))=((n / 256:Nat):Int) from shr_nat n 8,u8_lo]
theorem Loose_spec (L:List Int) (hL:L.length≤1000000):∀ (N d:Nat) (l:List Node) (a:Nat),wgtL l≤N→(chkL d l 0).1=0→wgtL l≤60000→a≤L.length →
  Spec Tryz.prog 14 [.ptr 0 0,.d (.sl 3 (encNs l))] [.row (diceR L a)] (fun r h'=>∃ x,LooseP L l x∧r=.d (.sl 1 (encB x.1))∧h'=[.row (diceR L x.2)]):=by
 intro N
 induction N using Nat.strongRecOn with
 | _ N ih =>
 intro d l a hN hchk hw ha
 have hlen:=qAh l
 have hlw:=qDe l
 have hN:=fun a ha n h1 hn=>qBr L hL a ha n h1 hn
 refine qAb hT Tryz.func14 rfl rfl rfl rfl ?_;intro E hE
 refine qAq ?_
 refine qAm (qAj ?_)
 refine wws ?_
 refine qAm (qAj ?_)
 refine wws ?_
 refine qAt 5 1 1 (es:=[]) (.inr ⟨rfl,rfl⟩) rfl ?_
 refine qAm ?_
 refine qAm (qAj ?_)
 refine wws ?_
 refine qCk ?_
 refine qBg (ι:=Nat×List UInt8×Nat) (fun x=>[(0,.ptr 0 0),(1,.d (.sl 3 (encNs l))),(5,.sl 1 (encB x.2.1) (.right 1)),(6,.d (.int .i64 (x.1:Int)))]) (fun x=>[.row (diceR L x.2.2),.right 1 (encB x.2.1).length])
  (fun x=>x.1≤l.length∧EncL (l.take x.1) x.2.1∧x.2.1.length≤wgtL (l.take x.1)∧x.2.2≤L.length) (fun x=>l.length-x.1) (0,[],a) ⟨by simp,.nil,by simp,ha⟩ ⟨.refl _,.refl _,.refl _,.refl _,trivial⟩ (HLe.refl _) ?_
 rintro ⟨i,out,a⟩ ⟨hi,henc,hol,ha⟩
 simp only at hi henc hol ha ⊢
 have hwr:IntKind.i64.wrap ((i:Int)+1)=((i+1:Nat):Int):=by rw [qAd (by omega)];simp
 have hob:=qAg out
 refine qAm ?_
 refine wws ?_
 refine qAm (qAj ?_)
 refine wws ?_
 refine qAa rfl (fun h1=>?_) (fun h1=>?_)
 ·have h1':i < l.length:=by rw [hlen] at h1;simpa using h1
  have hel:(encNs l)[((i:Int)).toNat]?=some (encN l[i]):=by simp [qBv,h1']
  have hmem:l[i]∈l:=List.getElem_mem h1'
  have hck:=chkL_mem hchk hmem
  have htk:l.take (i+1)=l.take i++[l[i]]:=List.take_succ_eq_append_getElem h1'
  have hwt:wgtL (l.take i)+wgtN l[i]+wgtL (l.drop (i+1))=wgtL l:=by
   have:=wgtL_append (l.take (i+1)) (l.drop (i+1))
   rw [List.take_append_drop,htk,wgtL_append,wgtL,wgtL] at this
   omega
  generalize l[i]=x at hel hck htk hwt
  obtain ⟨t,v,k⟩:=x
  rw [encN] at hel
  have hci:=chkN_inv hck
  have htr:=qCx hci.1
  rw [wgtN] at hwt
  obtain ⟨tn,rfl⟩:=Int.eq_ofNat_of_zero_le (show 0≤t by omega)
  have hcon:=qCc (tn:Int) (by omega)
  have hkc:(chkL (d+1) k 0).1=0:=by rw [qDh (d+1) k 0 (0+1)];exact hci.2.2.2.2
  have hp:tagCons (tn:Int)=false→∀ f,LenForm v.length f→EncL [.mk (tn:Int) v k] (tagB (tn:Int)++(f++(v++[]))):=fun h f hf=>.prim h hf .nil
  have hq:tagCons (tn:Int)=true→∀ f c,EncL k c→LenForm c.length f→EncL [.mk (tn:Int) v k] (tagB (tn:Int)++(f++(c++[]))):=fun h f c h1 hf=>.cons h h1 hf .nil
  have hfr:tagCons (tn:Int)=true→∀ c,EncL k c→EncL [.mk (tn:Int) v k] (tagB (tn:Int)++(128::(c++(0::0::[])))):=fun h c h1=>.free h h1 .nil
  have hrec:=fun a ha=>ih (wgtL k) (by omega) (d+1) k a (Nat.le_refl _) hkc (by omega) ha
  have htb:=tagB_cut tn
  generalize hhd:(if tn > 255 then [UInt8.ofNat (tn / 256 % 256)] else [])=hd at htb
  have hhl:hd.length≤1:=by rw [← hhd];split <;> simp
  have hlo:=u8_lo tn
  have hhi:=u8_hi tn
  generalize tagCons (tn:Int)=con at hcon hp hq hfr
  refine AW_skip ?_
  refine qAr (ι:=List UInt8×Nat) (fun x=>[(0,.ptr 0 0),(1,.d (.sl 3 (encNs l))),(5,.sl 1 (encB (out++x.1)) (.right 1)),(6,.d (.int .i64 (i:Int)))]) (fun x=>[.row (diceR L x.2),.right 1 (encB (out++x.1)).length])
   (fun x=>EncL [.mk (tn:Int) v k] x.1∧x.1.length≤11+v.length+wgtL k∧x.2≤L.length) ?_ ?_
  ·refine qCk ?_
   refine qAm (qAj ?_)
   refine wws ?_
   refine wwi hel ?_
   refine wws ?_
   refine qAr (ι:=Unit) (fun _=>[(0,.ptr 0 0),(1,.d (.sl 3 (encNs l))),(5,.sl 1 (encB (out++hd)) (.right 1)),(6,.d (.int .i64 (i:Int))),(7,.d (.int .i64 (tn:Int)))]) (fun _=>[.row (diceR L a),.right 1 (encB (out++hd)).length])
    (fun _=>True) ?_ (fun _ _=>?_)
   ·refine ww ?_
    refine qAa rfl (fun h2=>?_) (fun h2=>?_)
    ·have h2':tn > 255:=by simp at h2;omega
     rw [if_pos h2'] at hhd
     subst hhd
     refine ww ?_
     refine qAe (qAk (i:=1) hT rfl rfl rfl rfl rfl rfl (by show ((encB out).length+1)*(1+1)≤_;first | omega | (simp only [qAg,qAh,List.length_append,List.length_cons,List.length_nil];omega))) rfl ?_
     refine ww ?_
     have hres:encB (out++[UInt8.ofNat (tn / 256 % 256)])=encB out++[[Dat.int .u8 (IntKind.u8.wrap (Int.fdiv (tn:Int) (2 ^ (min (8:Int).toNat IntKind.i64.bits))))]]:=by rw [hhi,qBa];rfl
     exact ⟨(),trivial,⟨.refl _,.refl _,.slt hres.symm,.refl _,.refl _,trivial⟩,⟨ObLe.refl _,⟨rfl,by rw [hres]⟩,trivial⟩⟩
    ·have h2':¬ tn > 255:=by simp at h2;omega
     rw [if_neg h2'] at hhd
     subst hhd
     refine ww ?_
     rw [List.append_nil]
     exact ⟨(),trivial,⟨.refl _,.refl _,.refl _,.refl _,.refl _,trivial⟩,HLe.refl _⟩
   refine ww ?_
   refine qAe (qAk (i:=1) hT rfl rfl rfl rfl rfl rfl (by show ((encB (out++hd)).length+1)*(1+1)≤_;first | omega | (simp only [qAg,qAh,List.length_append,List.length_cons,List.length_nil];omega))) rfl ?_
   have hres:encB (out++hd)++[[Dat.int .u8 (IntKind.u8.wrap (tn:Int))]]=encB (out++tagB (tn:Int)):=by rw [hlo,htb,← List.append_assoc,qBa (out++hd)];rfl
   rw [hres]
   have htl:=tagB_le (tn:Int)
   generalize tagB (tn:Int)=tb at *
   refine ww ?_
   refine wwi hel ?_
   refine ww ?_
   refine wwc hcon ?_
   refine wws ?_
   refine qAr (ι:=List UInt8×Nat) (fun x=>[(0,.ptr 0 0),(1,.d (.sl 3 (encNs l))),(5,.sl 1 (encB (out++tb)) (.right 1)),(6,.d (.int .i64 (i:Int))),(8,.d (.sl 1 (encB x.1))),(9,.d (.bool con))]) (fun x=>[.row (diceR L x.2),.right 1 (encB (out++tb)).length])
    (fun x=>(con=true→EncL k x.1)∧(con=false→x.1=v)∧x.1.length≤v.length+wgtL k∧x.2≤L.length) ?_ ?_
   ·refine ww ?_
    refine qAa rfl (fun h3=>?_) (fun h3=>?_)
    ·subst h3
     refine ww ?_
     refine wwi hel ?_
     refine ww ?_
     refine qAo (callX rfl rfl (hrec a ha) [0] (by decide) rfl rfl rfl rfl (fun _=>rfl) (fun _=>rfl) (fun _=>rfl)) rfl ?_
     rintro ⟨cc,a2⟩ ⟨q1,q2,q3⟩
     simp only at q1 q2 q3 ⊢
     refine ww ?_
     exact ⟨(cc,a2),⟨fun _=>q1,(fun h=>by cases h),by simp only;omega,q3⟩,⟨.refl _,.refl _,.refl _,.refl _,.refl _,.refl _,trivial⟩,HLe.refl _⟩
    ·subst h3
     refine ww ?_
     exact ⟨(v,a),⟨(fun h=>by cases h),fun _=>rfl,by simp only;omega,ha⟩,⟨.refl _,.refl _,.refl _,.refl _,.refl _,.refl _,trivial⟩,HLe.refl _⟩
   ·rintro ⟨c,a2⟩ ⟨g1,g2,g3,g4⟩
    simp only at g1 g2 g3 g4 ⊢
    have hcl:=qAg c
    have hotl:=qAg (out++tb)
    rw [List.length_append] at hotl
    refine qAm (qAj ?_)
    refine wws ?_
    refine qAr (ι:=List UInt8×Nat) (fun x=>[(0,.ptr 0 0),(1,.d (.sl 3 (encNs l))),(5,.sl 1 (encB (out++tb++x.1)) (.right 1)),(6,.d (.int .i64 (i:Int))),(8,.d (.sl 1 (encB c)))]) (fun x=>[.row (diceR L x.2),.right 1 (encB (out++tb++x.1)).length])
     (fun x=>LenForm (encB c).length x.1∧x.1.length≤5∧x.2≤L.length) ?_ ?_
    ·refine qAm (qAj ?_)
     refine wws ?_
     refine qAo (callX rfl rfl (hN a2 g4 6 (by omega) (by omega)) [0] (by decide) rfl rfl rfl rfl (fun _=>rfl) (fun _=>rfl) (fun _=>rfl)) rfl ?_
     rintro ⟨m,a3⟩ ⟨q1,q2,q3⟩
     simp only at q1 q2 q3 ⊢
     have fin:∀ (f:List UInt8) (w:List (List Dat)) (τ:Nat→AV),encB f=w→LenForm (encB c).length f→f.length≤5→AV.le (τ 0) (.ptr 0 0)→AV.le (τ 1) (.d (.sl 3 (encNs l)))→AV.le (τ 5) (.sl 1 (encB (out++tb)++w) (.right 1))→AV.le (τ 6) (.d (.int .i64 (i:Int)))→AV.le (τ 8) (.d (.sl 1 (encB c))) →
       ∃ x:List UInt8×Nat,(LenForm (encB c).length x.1∧x.1.length≤5∧x.2≤L.length)∧SubL τ [(0,.ptr 0 0),(1,.d (.sl 3 (encNs l))),(5,.sl 1 (encB (out++tb++x.1)) (.right 1)),(6,.d (.int .i64 (i:Int))),(8,.d (.sl 1 (encB c)))]∧HLe [.row (diceR L a3),.right 1 (encB (out++tb)++w).length] [.row (diceR L x.2),.right 1 (encB (out++tb++x.1)).length]:=by
      rintro f w τ rfl h2 h3 k0 k1 k5 k6 k8
      rw [← qBa] at k5 ⊢
      exact ⟨(f,a3),⟨h2,h3,q3⟩,⟨k0,k1,k5,k6,k8,trivial⟩,HLe.refl _⟩
     have hn1:=u8_lo (encB c).length
     have hn2:=u8_hi (encB c).length
     refine ww ?_
     refine qAa rfl (fun e1=>?_) (fun e1=>?_)
     ·refine ww ?_
      refine qAe (qAk (i:=1) hT rfl rfl rfl rfl rfl rfl (by show ((encB (out++tb)).length+4)*(1+1)≤_;first | omega | (simp only [qAg,qAh,List.length_append,List.length_cons,List.length_nil];omega))) rfl ?_
      refine ww ?_
      exact fin _ _ _ (by rw [hn1,hn2];rfl) .four (by simp) (.refl _) (.refl _) (.refl _) (.refl _) (.refl _)
     ·refine ww ?_
      refine qAa rfl (fun e2=>?_) (fun e2=>?_)
      ·refine ww ?_
       refine qAe (qAk (i:=1) hT rfl rfl rfl rfl rfl rfl (by show ((encB (out++tb)).length+5)*(1+1)≤_;first | omega | (simp only [qAg,qAh,List.length_append,List.length_cons,List.length_nil];omega))) rfl ?_
       refine ww ?_
       exact fin _ _ _ (by rw [hn1,hn2];rfl) .five (by simp) (.refl _) (.refl _) (.refl _) (.refl _) (.refl _)
      ·refine ww ?_
       refine qAa rfl (fun e3=>?_) (fun e3=>?_)
       ·refine qAm ?_
        refine ww ?_
        refine qAa rfl (fun e4=>?_) (fun e4=>?_)
        ·subst e4
         have hfr:=hfr rfl c (g1 rfl)
         refine ww ?_
         refine qAe (qAk (i:=1) hT rfl rfl rfl rfl rfl rfl (by show ((encB (out++tb)).length+1)*(1+1)≤_;first | omega | (simp only [qAg,qAh,List.length_append,List.length_cons,List.length_nil];omega))) rfl ?_
         refine ww ?_
         refine qAe (qAk (i:=1) hT rfl rfl rfl rfl rfl rfl (by show ((encB (out++tb)++[[Dat.int .u8 128]]).length+(encB c).length)*(1+1)≤_;first | omega | (simp only [qAg,qAh,List.length_append,List.length_cons,List.length_nil];omega))) rfl ?_
         refine ww ?_
         refine qAe (qAk (i:=1) hT rfl rfl rfl rfl rfl rfl (by show ((encB (out++tb)++[[Dat.int .u8 128]]++encB c).length+2)*(1+1)≤_;first | omega | (simp only [qAg,qAh,List.length_append,List.length_cons,List.length_nil];omega))) rfl ?_
         refine ww ?_
         have hres:encB (out++(tb++(128::(c++(0::0::[])))))=encB (out++tb)++[[Dat.int .u8 128]]++encB c++[[Dat.int .u8 0],[Dat.int .u8 0]]:=by
          rw [show tb++(128::(c++(0::0::[])))=tb++([128]++(c++[0,0])) from rfl]
          simp only [qBa,List.append_assoc];rfl
         exact ⟨(tb++(128::(c++(0::0::[]))),a3),⟨hfr,by simp only [List.length_append,List.length_cons,List.length_nil];omega,q3⟩,⟨.refl _,.refl _,.slt hres.symm,.refl _,trivial⟩,⟨ObLe.refl _,⟨rfl,by rw [hres]⟩,trivial⟩⟩
        ·refine ww ?_
         refine qAe (qAk (i:=1) hT rfl rfl rfl rfl rfl rfl (by show ((encB (out++tb)).length+3)*(1+1)≤_;first | omega | (simp only [qAg,qAh,List.length_append,List.length_cons,List.length_nil];omega))) rfl ?_
         refine ww ?_
         exact fin _ _ _ (by rw [hn1,hn2];rfl) .three (by simp) (.refl _) (.refl _) (.refl _) (.refl _) (.refl _)
       ·refine ww ?_
        refine qAa rfl (fun e4=>?_) (fun e4=>?_)
        ·refine ww ?_
         refine qAa rfl (fun e5=>?_) (fun e5=>?_)
         ·have e5':(encB c).length < 256:=by simp at e5;omega
          rw [Nat.mod_eq_of_lt e5'] at hn1
          refine ww ?_
          refine qAe (qAk (i:=1) hT rfl rfl rfl rfl rfl rfl (by show ((encB (out++tb)).length+2)*(1+1)≤_;first | omega | (simp only [qAg,qAh,List.length_append,List.length_cons,List.length_nil];omega))) rfl ?_
          refine ww ?_
          exact fin _ _ _ (by rw [hn1];rfl) (.two e5') (by simp) (.refl _) (.refl _) (.refl _) (.refl _) (.refl _)
         ·refine ww ?_
          refine qAe (qAk (i:=1) hT rfl rfl rfl rfl rfl rfl (by show ((encB (out++tb)).length+3)*(1+1)≤_;first | omega | (simp only [qAg,qAh,List.length_append,List.length_cons,List.length_nil];omega))) rfl ?_
          refine ww ?_
          exact fin _ _ _ (by rw [hn1,hn2];rfl) .three (by simp) (.refl _) (.refl _) (.refl _) (.refl _) (.refl _)
        ·refine ww ?_
         refine qAa rfl (fun e5=>?_) (fun e5=>?_)
         ·have e5':(encB c).length < 128:=by simp at e5;omega
          rw [Nat.mod_eq_of_lt (by omega)] at hn1
          refine ww ?_
          refine qAe (qAk (i:=1) hT rfl rfl rfl rfl rfl rfl (by show ((encB (out++tb)).length+1)*(1+1)≤_;first | omega | (simp only [qAg,qAh,List.length_append,List.length_cons,List.length_nil];omega))) rfl ?_
          refine ww ?_
          exact fin _ _ _ (by rw [hn1];rfl) (.one e5') (by simp) (.refl _) (.refl _) (.refl _) (.refl _) (.refl _)
         ·refine ww ?_
          refine qAe (qAk (i:=1) hT rfl rfl rfl rfl rfl rfl (by show ((encB (out++tb)).length+3)*(1+1)≤_;first | omega | (simp only [qAg,qAh,List.length_append,List.length_cons,List.length_nil];omega))) rfl ?_
          refine ww ?_
          exact fin _ _ _ (by rw [hn1,hn2];rfl) .three (by simp) (.refl _) (.refl _) (.refl _) (.refl _) (.refl _)
    ·rintro ⟨f,a3⟩ ⟨q1,q2,q3⟩
     simp only at q1 q2 q3 ⊢
     have hof:=qAg (out++tb++f)
     rw [List.length_append,List.length_append] at hof
     refine ww ?_
     refine qAe (qAk (i:=1) hT rfl rfl rfl rfl rfl rfl (by show ((encB (out++tb++f)).length+(encB c).length)*(1+1)≤_;first | omega | (simp only [qAg,qAh,List.length_append,List.length_cons,List.length_nil];omega))) rfl ?_
     refine ww ?_
     have hres:encB (out++(tb++(f++(c++[]))))=encB (out++tb++f)++encB c:=by simp only [qBa,List.append_assoc,List.append_nil]
     refine ⟨(tb++(f++(c++[])),a3),⟨?_,by simp only [List.length_append,List.length_nil];omega,q3⟩,⟨.refl _,.refl _,.slt hres.symm,.refl _,trivial⟩,⟨ObLe.refl _,⟨rfl,by rw [hres]⟩,trivial⟩⟩
     rw [hcl] at q1
     cases con with
     | true=>exact hq rfl f c (g1 rfl) q1
     | false =>
      obtain rfl:=g2 rfl
      exact hp rfl f q1
  ·rintro ⟨y,a2⟩ ⟨g1,g2,g3⟩
   simp only at g1 g2 g3 ⊢
   have hxx:=EncL.append henc g1
   rw [← htk] at hxx
   refine ww ?_
   have hw2:wgtL (l.take (i+1))=wgtL (l.take i)+(11+v.length+wgtL k):=by rw [htk,wgtL_append,wgtL,wgtL,wgtN];omega
   exact ⟨(i+1,out++y,a2),[],⟨by simp only;omega,hxx,by simp only [List.length_append];omega,g3⟩,by simp only;omega,⟨.refl _,.refl _,.refl _,.int hwr,trivial⟩,HLe.refl _,Env.below_mono hE (by simp),rfl,rfl⟩
 ·have h1':i=l.length:=by rw [hlen] at h1;simp at h1;omega
  subst h1'
  rw [List.take_length] at henc hol
  refine ww ?_
  exact ret_q ⟨(out,a),⟨henc,hol,ha⟩,rfl,rfl⟩ rfl .dat rfl rfl rfl rfl
end Tdoc
/- The reference reads the list of groups. -/
set_option maxHeartbeats 8000000
set_option maxRecDepth 100000
set_option linter.unusedVariables false
set_option linter.unusedSimpArgs false
namespace Tdoc
open Go Go.Proofs
def WfN (d:Nat) (n:Node):Prop:=(chkN d n 0).1=0
theorem WfN.prim {d:Nat} {t:Int} {v:List UInt8} {k:List Node} (h:WfN d (.mk t v k)) (ht:tagCons t=false):k=[]:=(chkN_inv h).2.1 ht
theorem WfN.cons {d:Nat} {t:Int} {v:List UInt8} {k:List Node} (h:WfN d (.mk t v k)) (ht:tagCons t=true):v=[]:=(chkN_inv h).2.2.1 ht
theorem WfN.kids {d:Nat} {t:Int} {v:List UInt8} {k:List Node} (h:WfN d (.mk t v k)):∀ n,n∈k→WfN (d+1) n:=fun n hn=>by
 have h5:=(chkN_inv h).2.2.2.2
 exact chkL_mem (by rw [qDh (d+1) k 0 (0+1)];exact h5) hn
theorem openX_wf (b:List UInt8):∀ n,n∈(openX b).2.1→WfN 2 n:=by
 unfold openX
 split
 ·intro n hn;cases hn
 ·rename_i h
  have hg:=(qDj (b:=b) (st:=false) (by omega)).2.1
  split
  ·rename_i t v k hk
   rw [hk] at hg
   split
   ·intro n hn;cases hn
   ·exact fun n hn=>WfN.kids (show WfN 1 (.mk t v k) from (chkL_inv hg).1) n hn
  ·intro n hn;cases hn
theorem openZ_eq (b:List UInt8) (n:Int):(openZ b n n).2.1=(openY b n).1∧(openZ b n n).2.2=(openY b n).2:=by
 unfold openZ openY
 split
 ·exact ⟨rfl,rfl⟩
 ·by_cases h:(openX b).1=n
  ·rw [if_neg (by omega),if_neg (by omega)];exact ⟨rfl,rfl⟩
  ·rw [if_pos (by omega),if_pos h];exact ⟨rfl,rfl⟩
theorem openY_wf (b:List UInt8) (n:Int):∀ x,x∈(openY b n).1→WfN 2 x:=by
 unfold openY
 split
 ·intro x hx;cases hx
 split
 ·intro x hx;cases hx
 ·exact openX_wf b
def lastD (bf:Int):List Int→Int
 | []=>bf
 | n::l=>lastD n l
theorem lastD_snoc:∀ (bf:Int) (l:List Int) (n:Int),lastD bf (l++[n])=n
 | _,[],n=>rfl
 | bf,m::l,n=>lastD_snoc m l n
theorem ascX_snoc:∀ (bf:Int) (l:List Int) (n:Int),ascX bf l=0→ascX bf (l++[n])=if n < 1∨n > 16 then 3 else if n≤lastD bf l then 17 else 0
 | bf,[],n,_=>rfl
 | bf,m::l,n,h=>by
  rw [ascX] at h
  split at h
  ·simp at h
  rename_i h1
  split at h
  ·simp at h
  rename_i h2
  rw [List.cons_append,ascX,if_neg h1,if_neg h2,ascX_snoc m l n h,lastD]
theorem groupFrom_ge (t:Int):∀ (i:Nat) (l:List Int),(groupFrom t i l).2=0→1≤(groupFrom t i l).1
 | i,[],h=>by simp [groupFrom] at h
 | i,x::l,h=>by
  rw [groupFrom] at h ⊢
  split
  ·simp only;omega
  ·rename_i hx
   rw [if_neg hx] at h
   exact groupFrom_ge t (i+1) l h
theorem groupR_ge {t:Int} (h:(groupR t).2=0):1≤(groupR t).1:=groupFrom_ge t 0 _ h
theorem prim_tag {t:Int} (h:t=24321∨t=24374∨t=92):tagCons t=false:=by rcases h with rfl | rfl | rfl <;> rfl
theorem primF_len {t' t:Int} {v:List UInt8} {k:List Node} (s:Nat) (hk:t'=t→k=[]):primF (.mk t' v k) t (s:Int)=true↔t'=t∧v.length=s:=by
 rw [primF_iff]
 show (t'=t∧k=[]∧((s:Int) < 0∨(v.length:Int)=(s:Int)))↔_
 constructor
 ·rintro ⟨h1,_,h3⟩;exact ⟨h1,by omega⟩
 ·rintro ⟨h1,h2⟩;exact ⟨h1,hk h1,.inr (by omega)⟩
theorem primF_any {t' t:Int} {v:List UInt8} {k:List Node} (hk:t'=t→k=[]):primF (.mk t' v k) t (-1)=true↔t'=t:=by
 rw [primF_iff]
 exact ⟨fun h=>h.1,fun h=>⟨h,hk h,.inl (by omega)⟩⟩
theorem bool_of_iff {p:Bool} {q:Prop} [Decidable q] (h:p=true↔q):p=decide q:=by rw [Bool.eq_iff_iff,h];simp
theorem grp_cond {p0 p1 p2:Bool} {t0 t1 t2:Int} {v0 v1:List UInt8} (i0:p0=true↔t0=24321∧v0.length=4) (i1:p1=true↔t1=24374∧v1.length=6) (i2:p2=true↔t2=92) :
  (((3:Nat):Int) != 3||!p0||!v0 == [48,49,48,56]||!p1||!v1 == [48,52,48,48,48,48]||!p2)=true↔(t0≠24321∨v0≠[48,49,48,56]∨t1≠24374∨v1≠[48,52,48,48,48,48]∨t2≠92):=by
 rw [bool_of_iff i0,bool_of_iff i1,bool_of_iff i2]
 by_cases g0:t0=24321 <;> by_cases g1:v0=[48,49,48,56] <;> by_cases g2:t1=24374 <;> by_cases g3:v1=[48,52,48,48,48,48] <;> by_cases g4:t2=92 <;> simp [g0,g1,g2,g3,g4]
def grpOf (l:List Node):List Int×Int:=match l with
 | [.mk t0 v0 _,.mk t1 v1 _,.mk t2 v2 _]=>if t0≠24321∨v0≠[48,49,48,56]∨t1≠24374∨v1≠[48,52,48,48,48,48]∨t2≠92 then ([],1) else grpLoop v2 []
 | _=>([],1)
theorem grpOf_short {l:List Node} (h:l.length≠3):grpOf l=([],1):=by
 match l,h with
 | [],_=>rfl
 | [.mk _ _ _],_=>rfl
 | [.mk _ _ _,.mk _ _ _],_=>rfl
 | [a,b,c],h=>exact absurd rfl h
 | .mk _ _ _::.mk _ _ _::.mk _ _ _::d::r,_=>rfl
theorem groupsX_of (b:List UInt8):groupsX b=if (openY b 17).2≠0 then ([],(openY b 17).2) else grpOf (openY b 17).1:=rfl
theorem GroupsR_spec (b:List UInt8) (hb:b.length≤9223372036854775807):Spec Tryz.prog 80 [.d (.sl 1 (encB b))] []
  (fun r h'=>r=.tup [.d (.sl 1 (encI (groupsX b).1)),.d (.int .i64 (groupsX b).2)]∧h'=[]):=by
 have hop:=openR_spec b hb 17 17
 have hz:=openZ_eq b 17
 have hwf:=openY_wf b 17
 rw [groupsX_of]
 generalize openZ b 17 17=q at hop hz
 obtain ⟨nz,l,e⟩:=q
 simp only at hop hz
 rw [← hz.1,← hz.2]
 rw [← hz.1] at hwf
 clear hz
 have hlen:=qAh l
 by_cases h1:e=0
 case neg =>
  rw [if_pos h1]
  refine qAb hT Tryz.func80 rfl rfl rfl rfl ?_;intro E hE
  refine ww ?_
  refine wwc hop ?_
  refine ww ?_
  refine qAa rfl (fun c1=>?_) (fun c1=>?_)
  ·refine ww ?_
   exact qAf (r:=.tup [.d (.sl 1 (encI [])),.d (.int .i64 e)]) rfl (AV.le.tup ⟨AV.le.nils,.refl _,trivial⟩) rfl rfl rfl rfl ⟨rfl,rfl⟩
  ·exact absurd (by simpa using c1) h1
 subst h1
 rw [if_neg (by simp)]
 by_cases h3:l.length=3
 case neg =>
  have hn3:(((encNs l).length:Int) != 3)=true:=by rw [hlen];simp;omega
  have hres:=grpOf_short h3
  rw [hres]
  refine qAb hT Tryz.func80 rfl rfl rfl rfl ?_;intro E hE
  refine ww ?_
  refine wwc hop ?_
  refine ww ?_
  refine qAa rfl (fun c1=>?_) (fun c1=>?_)
  ·exact absurd c1 (by simp)
  refine ww ?_
  refine qAy (v:=.iptr [.int .i64 0,.sl 1 [],.sl 3 []]) rfl rfl rfl (fun hg=>absurd hg (by rw [hn3];simp [gval])) ?_
  refine ww ?_
  refine qAy (v:=.d (.bool false)) rfl rfl rfl (fun hg=>absurd hg (by rw [hn3];simp [gval])) ?_
  refine ww ?_
  refine qAy (v:=.iptr [.int .i64 0,.sl 1 [],.sl 3 []]) rfl rfl rfl (fun hg=>absurd hg (by rw [hn3];simp [gval])) ?_
  refine ww ?_
  refine qCo hT rfl rfl rfl rfl (fun hg=>⟨(sg (C:=True) hg).1,fun e he=>by cases he⟩) ?_
  refine ww ?_
  refine qAy (v:=.iptr [.int .i64 0,.sl 1 [],.sl 3 []]) rfl rfl rfl (fun hg=>absurd hg (by rw [hn3];simp [gval])) ?_
  refine ww ?_
  refine qAy (v:=.d (.bool false)) rfl rfl rfl (fun hg=>absurd hg (by rw [hn3];simp [gval])) ?_
  refine ww ?_
  refine qAy (v:=.iptr [.int .i64 0,.sl 1 [],.sl 3 []]) rfl rfl rfl (fun hg=>absurd hg (by rw [hn3];simp [gval])) ?_
  refine ww ?_
  refine qCo hT rfl rfl rfl rfl (fun hg=>⟨(sg (C:=True) hg).1,fun e he=>by cases he⟩) ?_
  refine ww ?_
  refine qAy (v:=.iptr [.int .i64 0,.sl 1 [],.sl 3 []]) rfl rfl rfl (fun hg=>absurd hg (by rw [hn3];simp [gval])) ?_
  refine ww ?_
  refine qAy (v:=.d (.bool false)) rfl rfl rfl (fun hg=>absurd hg (by rw [hn3];simp [gval])) ?_
  refine ww ?_
  refine qAa rfl (fun c2=>?_) (fun c2=>?_)
  ·refine ww ?_
   exact qAf (r:=.tup [.d (.sl 1 (encI [])),.d (.int .i64 1)]) rfl (AV.le.tup ⟨AV.le.nils,.refl _,trivial⟩) rfl rfl rfl rfl ⟨rfl,rfl⟩
  ·rw [hn3] at c2
   exact absurd c2 (by simp)
 match l,h3 with
 | [.mk t0 v0 k0,.mk t1 v1 k1,.mk t2 v2 k2],_ =>
  have w0:t0=24321→k0=[]:=fun h=>(hwf (.mk t0 v0 k0) (by simp)).prim (prim_tag (.inl h))
  have w1:t1=24374→k1=[]:=fun h=>(hwf (.mk t1 v1 k1) (by simp)).prim (prim_tag (.inr (.inl h)))
  have w2:t2=92→k2=[]:=fun h=>(hwf (.mk t2 v2 k2) (by simp)).prim (prim_tag (.inr (.inr h)))
  have hp0:=qBo (.mk t0 v0 k0) 24321 4
  have hp1:=qBo (.mk t1 v1 k1) 24374 6
  have hp2:=qBo (.mk t2 v2 k2) 92 (-1)
  have hp0':Spec Tryz.prog 143 [.agg [.d (.int .i64 t0),.d (.sl 1 (encB v0)),.d (.sl 3 (encNs k0))],.d (.int .i64 24321),.d (.int .i64 4)] [] (fun r h'=>r=.d (.bool (primF (.mk t0 v0 k0) 24321 4))∧h'=[]):=hp0
  have hp1':Spec Tryz.prog 143 [.agg [.d (.int .i64 t1),.d (.sl 1 (encB v1)),.d (.sl 3 (encNs k1))],.d (.int .i64 24374),.d (.int .i64 6)] [] (fun r h'=>r=.d (.bool (primF (.mk t1 v1 k1) 24374 6))∧h'=[]):=hp1
  have hp2':Spec Tryz.prog 143 [.agg [.d (.int .i64 t2),.d (.sl 1 (encB v2)),.d (.sl 3 (encNs k2))],.d (.int .i64 92),.d (.int .i64 (-1))] [] (fun r h'=>r=.d (.bool (primF (.mk t2 v2 k2) 92 (-1)))∧h'=[]):=hp2
  have i0:primF (.mk t0 v0 k0) 24321 4=true↔t0=24321∧v0.length=4:=primF_len 4 w0
  have i1:primF (.mk t1 v1 k1) 24374 6=true↔t1=24374∧v1.length=6:=primF_len 6 w1
  have i2:primF (.mk t2 v2 k2) 92 (-1)=true↔t2=92:=primF_any w2
  generalize primF (.mk t0 v0 k0) 24321 4=p0 at hp0' i0
  generalize primF (.mk t1 v1 k1) 24374 6=p1 at hp1' i1
  generalize primF (.mk t2 v2 k2) 92 (-1)=p2 at hp2' i2
  clear hp0 hp1 hp2
  have hel0:(encNs [.mk t0 v0 k0,.mk t1 v1 k1,.mk t2 v2 k2])[((0:Int)).toNat]?=some [.int .i64 t0,.sl 1 (encB v0),.sl 3 (encNs k0)]:=rfl
  have hel1:(encNs [.mk t0 v0 k0,.mk t1 v1 k1,.mk t2 v2 k2])[((1:Int)).toNat]?=some [.int .i64 t1,.sl 1 (encB v1),.sl 3 (encNs k1)]:=rfl
  have hel2:(encNs [.mk t0 v0 k0,.mk t1 v1 k1,.mk t2 v2 k2])[((2:Int)).toNat]?=some [.int .i64 t2,.sl 1 (encB v2),.sl 3 (encNs k2)]:=rfl
  have hcd:(((encNs [Node.mk t0 v0 k0,.mk t1 v1 k1,.mk t2 v2 k2]).length:Int) != 3||!p0||!bytesOf (encB v0) == (ByteArray.mk #[48,49,48,56]).data.toList||!p1||!bytesOf (encB v1) == (ByteArray.mk #[48,52,48,48,48,48]).data.toList||!p2)=true ↔
    (t0≠24321∨v0≠[48,49,48,56]∨t1≠24374∨v1≠[48,52,48,48,48,48]∨t2≠92):=by
   rw [qBc,qBc,hlen]
   exact grp_cond i0 i1 i2
  refine qAb hT Tryz.func80 rfl rfl rfl rfl ?_;intro E hE
  refine ww ?_
  refine wwc hop ?_
  refine ww ?_
  refine qAa rfl (fun c1=>?_) (fun c1=>?_)
  ·exact absurd c1 (by simp)
  refine ww ?_
  refine wwgi hel0 ?_
  refine ww ?_
  refine wwgc hp0' ?_
  refine ww ?_
  refine wwgi hel0 ?_
  refine ww ?_
  refine qCo hT rfl rfl rfl rfl (fun hg=>⟨(sg (C:=True) hg).1,qAv v0⟩) ?_
  refine ww ?_
  refine wwgi hel1 ?_
  refine ww ?_
  refine wwgc hp1' ?_
  refine ww ?_
  refine wwgi hel1 ?_
  refine ww ?_
  refine qCo hT rfl rfl rfl rfl (fun hg=>⟨(sg (C:=True) hg).1,qAv v1⟩) ?_
  refine ww ?_
  refine wwgi hel2 ?_
  refine ww ?_
  refine wwgc hp2' ?_
  refine ww ?_
  unfold grpOf
  simp only
  refine qAa rfl (fun c2=>?_) (fun c2=>?_)
  ·rw [if_pos (hcd.1 c2)]
   refine ww ?_
   exact qAf (r:=.tup [.d (.sl 1 (encI [])),.d (.int .i64 1)]) rfl (AV.le.tup ⟨AV.le.nils,.refl _,trivial⟩) rfl rfl rfl rfl ⟨rfl,rfl⟩
  rw [if_neg (fun hh=>by have:=hcd.2 hh;exact absurd (this.symm.trans c2) (by simp))]
  have hvl:=qAg v2
  generalize hfin:grpLoop v2 []=fin
  refine qAq ?_
  refine wwe ?_
  refine qAm (qAj ?_)
  refine wws ?_
  refine qAt 7 1 0 (es:=[]) (.inr ⟨rfl,rfl⟩) rfl ?_
  refine ww ?_
  refine qAn (ι:=Nat×List Int) (fun x=>[(5,.d (.sl 3 (encNs [Node.mk t0 v0 k0,.mk t1 v1 k1,.mk t2 v2 k2]))),(7,.sl 1 (encI x.2) (.right 0)),(8,.d (.int .i64 (lastD 0 x.2))),(9,.d (.int .i64 (x.1:Int)))]) (fun x=>[.right 1 (encI x.2).length])
   (fun x=>x.1≤v2.length∧x.2.length=x.1∧ascX 0 x.2=0∧grpLoop (v2.drop x.1) x.2=fin) (fun x=>v2.length-x.1) (0,[]) ⟨by simp,by simp,rfl,by simpa using hfin⟩ ⟨.refl _,.refl _,.refl _,.refl _,trivial⟩ (HLe.refl _) ?_
  rintro ⟨i,out⟩ ⟨hi,ho,hs,hg⟩
  simp only at hi ho hs hg ⊢
  have hol:=qCj out
  have h16:=ascX_len 0 out (by omega) hs
  have hwr:IntKind.i64.wrap ((i:Int)+1)=((i+1:Nat):Int):=by rw [qAd (by omega)];simp
  refine ww ?_
  refine wwi hel2 ?_
  refine ww ?_
  refine qAa rfl (fun c3=>?_) (fun c3=>?_)
  ·have c3':i < v2.length:=by rw [hvl] at c3;simpa using c3
   have hdrop:v2.drop i=v2[i]::v2.drop (i+1):=by simp
   have helc:(encB v2)[((i:Int)).toNat]?=some [.int .u8 (v2[i].toNat:Int)]:=by rw [Int.toNat_natCast];exact encB_at c3'
   rw [hdrop,grpLoop] at hg
   generalize v2[i]=ch at helc hg
   have hcw:IntKind.i64.wrap (ch.toNat:Int)=(ch.toNat:Int):=qAd (by have:=UInt8.toNat_lt ch;omega)
   have hgr:=GroupR_spec (ch.toNat:Int)
   rw [ascX_snoc 0 out _ hs] at hg
   have hge:=groupR_ge (t:=(ch.toNat:Int))
   generalize groupR (ch.toNat:Int)=gq at hgr hg hge
   obtain ⟨gn,ge⟩:=gq
   simp only at hgr hg hge
   rw [← hcw] at hgr
   refine ww ?_
   refine wwi hel2 ?_
   refine ww ?_
   refine wwi helc ?_
   refine ww ?_
   refine wwc hgr ?_
   refine ww ?_
   refine qAa rfl (fun c4=>?_) (fun c4=>?_)
   ·have c4':ge≠0∨gn > 16:=by simpa using c4
    rw [if_pos c4'] at hg
    subst hg
    refine ww ?_
    exact qAf (r:=.tup [.d (.sl 1 (encI [])),.d (.int .i64 4)]) rfl (AV.le.tup ⟨AV.le.nils,.refl _,trivial⟩) rfl rfl rfl rfl ⟨rfl,rfl⟩
   have c4':¬ (ge≠0∨gn > 16):=by simpa using c4
   have hg1:=hge (by omega)
   rw [if_neg c4',if_neg (show ¬ (gn < 1∨gn > 16) by omega)] at hg
   refine ww ?_
   refine qAa rfl (fun c5=>?_) (fun c5=>?_)
   ·have c5':gn≤lastD 0 out:=by simpa using c5
    rw [if_pos c5',if_pos (by simp)] at hg
    subst hg
    refine ww ?_
    exact qAf (r:=.tup [.d (.sl 1 (encI [])),.d (.int .i64 17)]) rfl (AV.le.tup ⟨AV.le.nils,.refl _,trivial⟩) rfl rfl rfl rfl ⟨rfl,rfl⟩
   have c5':¬ gn≤lastD 0 out:=by simpa using c5
   rw [if_neg c5',if_neg (by simp)] at hg
   refine ww ?_
   refine qAe (qAk (i:=0) hT rfl rfl rfl rfl rfl rfl (by show ((encI out).length+1)*(8+1)≤_;first | omega | (simp only [qAg,qAh,List.length_append,List.length_cons,List.length_nil];omega))) rfl ?_
   refine ww ?_
   have has:ascX 0 (out++[gn])=0:=by rw [ascX_snoc 0 out gn hs,if_neg (by omega),if_neg c5']
   exact ⟨(i+1,out++[gn]),⟨by simp only;omega,by simp only [List.length_append,List.length_singleton];omega,has,hg⟩,by simp only;omega,⟨.refl _,AV.le.eq (by rw [encI_append];rfl),.int (lastD_snoc 0 out gn).symm,.int hwr,trivial⟩,⟨⟨rfl,by rw [encI_append];rfl⟩,trivial⟩⟩
  ·have hge:i=v2.length:=by rw [hvl] at c3;simp at c3;omega
   subst hge
   rw [List.drop_length,grpLoop] at hg
   subst hg
   refine ww ?_
   exact qAf (r:=.tup [.d (.sl 1 (encI out)),.d (.int .i64 0)]) rfl (AV.le.tup ⟨AV.le.dat,.refl _,trivial⟩) rfl rfl rfl rfl ⟨rfl,rfl⟩
end Tdoc
/- The reference's objects of a byte or two. -/
set_option linter.unusedVariables false
set_option linter.unusedSimpArgs false
namespace Tdoc
open Go Go.Proofs
theorem PrimW_spec (t x:Int):Spec Tryz.prog 67 [.d (.int .i64 t),.d (.sl 1 [[.int .u8 (IntKind.u8.wrap x)]])] [] (fun r h'=>r=.agg [.d (.int .i64 t),.d (.sl 1 (encB [bOf x])),.d (.sl 3 [])]∧h'=[]):=by
 rw [bOf_wrap];exact Prim_spec t [bOf x] (by simp)
theorem PrimH_spec (t x:Int):Spec Tryz.prog 67 [.d (.int .i64 t),.d (.sl 1 [[.int .u8 (IntKind.u8.wrap (Int.fdiv x (2 ^ (min (8:Int).toNat IntKind.i64.bits))))],[.int .u8 (IntKind.u8.wrap x)]])] [] (fun r h'=>r=.agg [.d (.int .i64 t),.d (.sl 1 (encB [bOf (x / 256),bOf x])),.d (.sl 3 [])]∧h'=[]):=by
 rw [bOf_hi,bOf_wrap];exact Prim_spec t [bOf (x / 256),bOf x] (by simp)
theorem qDo (t:Int) (v:List UInt8) (hv:v.length≤1000000000):Spec Tryz.prog 67 [.d (.int .i64 t),.d (.sl 1 (encB v))] [] (fun r h'=>r=.agg [.d (.int .i64 t),.d (.sl 1 (encB v)),.d (.sl 3 [])]∧h'=[]):=Prim_spec t v hv
theorem ConsK_spec (t:Int) (k:List Node):Spec Tryz.prog 110 [.d (.int .i64 t),.d (.sl 3 (encNs k))] [] (fun r h'=>r=.agg [.d (.int .i64 t),.d (.sl 1 []),.d (.sl 3 (encNs k))]∧h'=[]):=Cons_spec t k
end Tdoc
/- The reference's characters, check digits and names. -/
set_option maxHeartbeats 8000000
set_option maxRecDepth 100000
set_option linter.unusedVariables false
set_option linter.unusedSimpArgs false
namespace Tdoc
open Go Go.Proofs
theorem qBu {s:List UInt8} {i:Nat} (h:i < s.length):strAt s (i:Int)=bI s[i]:=strAt_get h
theorem qCl {α:Type} {s:List α} {i:Nat} (h:i < s.length):s.drop i=s[i]::s.drop (i+1):=by simp
theorem Value_spec (n:Int) (hn:0≤n∧n < 256):Spec Tryz.prog 175 [.d (.int .u8 n)] [] (fun r h'=>r=.d (.int .i64 (valC n))∧h'=[]):=by
 unfold valC
 refine qAb hT Tryz.func175 rfl rfl rfl rfl ?_;intro E hE
 refine ww ?_
 refine qAa rfl (fun h1=>?_) (fun h1=>?_)
 ·have h1':48≤n∧n≤57:=by simpa using h1
  rw [if_pos h1']
  have hw:IntKind.i64.wrap (IntKind.u8.wrap (n-48))=n-48:=by rw [wrapu8 (by omega),qAd (by omega)]
  refine ww ?_
  exact wwr
 ·have h1':¬ (48≤n∧n≤57):=by simpa using h1
  rw [if_neg h1']
  refine ww ?_
  refine qAa rfl (fun h2=>?_) (fun h2=>?_)
  ·have h2':65≤n∧n≤90:=by simpa using h2
   rw [if_pos h2']
   have hw:IntKind.i64.wrap (IntKind.i64.wrap (IntKind.u8.wrap (n-65))+10)=n-55:=by rw [wrapu8 (by omega),qAd (n:=n-65) (by omega),qAd (by omega)];omega
   refine ww ?_
   exact wwr
  ·have h2':¬ (65≤n∧n≤90):=by simpa using h2
   rw [if_neg h2']
   refine ww ?_
   refine qAa rfl (fun h3=>?_) (fun h3=>?_)
   ·have h3':n=60:=by simpa using h3
    rw [if_pos h3']
    refine ww ?_
    exact wwr
   ·have h3':¬ n=60:=by simpa using h3
    rw [if_neg h3']
    refine ww ?_
    exact wwr
theorem ValidS_spec (s:List UInt8) (hs:s.length≤1000000):Spec Tryz.prog 174 [.d (.str s)] [] (fun r h'=>r=.d (.bool (validS s))∧h'=[]):=by
 generalize hfin:validS s=fin
 refine qAb hT Tryz.func174 rfl rfl rfl rfl ?_;intro E hE
 refine ww ?_
 refine qAn (ι:=Nat) (fun i=>[(0,.d (.str s)),(3,.d (.int .i64 (i:Int)))]) (fun _=>[]) (fun i=>i≤s.length∧validS (s.drop i)=fin) (fun i=>s.length-i) 0 ⟨by omega,by simpa using hfin⟩ ⟨.refl _,.refl _,trivial⟩ (HLe.refl _) ?_
 rintro i ⟨hi,hg⟩
 have hwr:IntKind.i64.wrap ((i:Int)+1)=((i+1:Nat):Int):=by rw [qAd (by omega)];simp
 refine ww ?_
 refine qAa rfl (fun h1=>?_) (fun h1=>?_)
 ·have h1':i < s.length:=by simpa using h1
  have hsa:=qBu h1'
  rw [qCl h1',validS] at hg
  have hr:=bI_range s[i]
  generalize s[i]=c at hsa hg hr
  have hv:=Value_spec (strAt s (i:Int)) (by rw [hsa];exact hr)
  rw [hsa] at hv
  rw [← hsa] at hv
  refine ww ?_
  refine wwc hv ?_
  refine ww ?_
  refine qAa rfl (fun h2=>?_) (fun h2=>?_)
  ·have h2':¬ 0≤valC (bI c):=by rw [hsa] at h2;simp at h2;omega
   rw [decide_eq_false h2',Bool.false_and] at hg
   subst hg
   refine ww ?_
   exact wwr
  ·have h2':0≤valC (bI c):=by rw [hsa] at h2;simp at h2;omega
   rw [decide_eq_true h2',Bool.true_and] at hg
   refine ww ?_
   exact ⟨i+1,⟨by omega,hg⟩,by omega,⟨.refl _,.int hwr,trivial⟩,HLe.refl _⟩
 ·have h1':i=s.length:=by simp at h1;omega
  subst h1'
  rw [List.drop_length,validS] at hg
  subst hg
  refine ww ?_
  exact wwr
theorem wgtC_at (i:Nat):([AV.d (.int .i64 7),.d (.int .i64 3),.d (.int .i64 1)]:List AV)[(Int.tmod (i:Int) 3).toNat]?=some (.d (.int .i64 (wgtC i))):=by
 rw [show Int.tmod (i:Int) 3=((i % 3:Nat):Int) from Int.ofNat_tmod i 3,Int.toNat_natCast]
 unfold wgtC
 have:i % 3=0∨i % 3=1∨i % 3=2:=by omega
 rcases this with h | h | h <;> rw [h] <;> rfl
theorem wgtC_range (i:Nat):1≤wgtC i∧wgtC i≤7:=by unfold wgtC;split <;> (try split) <;> omega
theorem digSum_snoc:∀ (i:Nat) (s:List UInt8) (c:UInt8),digSum i (s++[c])=digSum i s+wgtC (i+s.length)*valC (bI c)
 | i,[],c=>by simp [digSum]
 | i,x::s,c=>by
  rw [List.cons_append,digSum,digSum,digSum_snoc (i+1) s c,List.length_cons]
  rw [show i+1+s.length=i+(s.length+1) by omega];omega
theorem validS_take:∀ (s:List UInt8) (i:Nat),validS s=true→validS (s.take i)=true
 | [],i,h=>by simp [validS]
 | c::s,0,h=>rfl
 | c::s,i+1,h=>by
  simp only [validS,Bool.and_eq_true,List.take_succ_cons] at h ⊢
  exact ⟨h.1,validS_take s i h.2⟩
theorem validS_at:∀ {s:List UInt8} {c:UInt8},validS s=true→c∈s→0≤valC (bI c)
 | x::s,c,h,hm=>by
  simp only [validS,Bool.and_eq_true,decide_eq_true_eq] at h
  rcases List.mem_cons.1 hm with rfl | hm
  ·exact h.1
  ·exact validS_at h.2 hm
theorem Digit_spec (s:List UInt8) (hs:s.length≤1000000):Spec Tryz.prog 105 [.d (.str s)] [] (fun r h'=>r=.tup [.d (.str (digitF s).1),.d (.int .i64 (digitF s).2)]∧h'=[]):=by
 have hv:=ValidS_spec s hs
 unfold digitF
 generalize hvs:validS s=ok at hv
 refine qAb hT Tryz.func105 rfl rfl rfl rfl ?_;intro E hE
 refine ww ?_
 refine wwc hv ?_
 refine ww ?_
 refine qAa rfl (fun h1=>?_) (fun h1=>?_)
 ·have h1':ok=false:=by simpa using h1
  subst h1'
  refine ww ?_
  exact wwr
 ·have h1':ok=true:=by simpa using h1
  subst h1'
  rw [if_pos rfl]
  refine ww ?_
  refine qAn (ι:=Nat) (fun i=>[(0,.d (.str s)),(4,.d (.int .i64 (digSum 0 (s.take i)))),(5,.d (.int .i64 (i:Int)))]) (fun _=>[]) (fun i=>i≤s.length) (fun i=>s.length-i) 0 (by omega) ⟨.refl _,.refl _,.refl _,trivial⟩ (HLe.refl _) ?_
  rintro i hi
  have hwr:IntKind.i64.wrap ((i:Int)+1)=((i+1:Nat):Int):=by rw [qAd (by omega)];simp
  have hdr:=digSum_range 0 (s.take i) (validS_take s i hvs)
  rw [List.length_take] at hdr
  refine ww ?_
  refine qAa rfl (fun h2=>?_) (fun h2=>?_)
  ·have h2':i < s.length:=by simpa using h2
   have hsa:=qBu h2'
   have htk:s.take (i+1)=s.take i++[s[i]]:=List.take_succ_eq_append_getElem h2'
   have hsn:=digSum_snoc 0 (s.take i) s[i]
   rw [← htk,List.length_take,Nat.min_eq_left (by omega),Nat.zero_add] at hsn
   have hr:=bI_range s[i]
   have hval:=validS_at hvs (List.getElem_mem h2')
   generalize s[i]=c at hsa hsn hr hval
   have hval2:=valC_range (bI c)
   have hva:=Value_spec (strAt s (i:Int)) (by rw [hsa];exact hr)
   have hwg:=wgtC_range i
   have hix:=wgtC_at i
   have htm:0≤Int.tmod (i:Int) 3∧Int.tmod (i:Int) 3 < ((3:Nat):Int):=by rw [show Int.tmod (i:Int) 3=((i % 3:Nat):Int) from Int.ofNat_tmod i 3];omega
   have hprod:0≤valC (bI c)*wgtC i∧valC (bI c)*wgtC i≤35*7:=⟨Int.mul_nonneg hval (by omega),Int.mul_le_mul hval2.2 hwg.2 (by omega) (by omega)⟩
   have hww:IntKind.i64.wrap (digSum 0 (s.take i)+IntKind.i64.wrap (valC (strAt s (i:Int))*wgtC i))=digSum 0 (s.take (i+1)):=by
    rw [hsa,qAd (n:=valC (bI c)*wgtC i) (by omega),qAd (by omega),hsn,Int.mul_comm]
   refine ww ?_
   refine wwc hva ?_
   refine ww ?_
   refine qAs (qAc (arrIdx_ok hT rfl rfl rfl rfl htm hix)) rfl rfl ?_
   refine ww ?_
   exact ⟨i+1,by omega,by omega,⟨.refl _,.int hww,.int hwr,trivial⟩,HLe.refl _⟩
  ·have h2':i=s.length:=by simp at h2;omega
   subst h2'
   rw [List.take_length] at hdr ⊢
   have hm:Int.tmod (digSum 0 s) 10=digSum 0 s % 10:=Int.tmod_eq_emod_of_nonneg hdr.1
   have hm1:=Int.emod_nonneg (digSum 0 s) (b:=10) (by omega)
   have hm2:=Int.emod_lt_of_pos (digSum 0 s) (b:=10) (by omega)
   have hww:IntKind.u8.wrap (IntKind.i64.wrap (48+Int.tmod (digSum 0 s) 10))=48+digSum 0 s % 10:=by rw [hm,qAd (by omega),wrapu8 (by omega)]
   refine ww ?_
   refine qBn hT rfl rfl (fun e he=>⟨_,List.mem_singleton.1 he⟩) ?_
   refine ww ?_
   refine rq ⟨rfl,rfl⟩ rfl (AV.le.tup ⟨.str ?_,.refl _,trivial⟩)
   show [UInt8.ofNat (IntKind.u8.wrap (IntKind.i64.wrap (48+Int.tmod (digSum 0 s) 10))).toNat]=digitS s
   rw [hww];rfl
theorem nameL_cons (b:Bool) (c:UInt8) (l:List UInt8):nameL b (c::l)=(if c=32 then !b&&!l.isEmpty&&nameL true l else decide (65≤bI c∧bI c≤90)&&nameL false l):=rfl
theorem name_step {s:List UInt8} {i:Nat} (h:i < s.length) (hs:s.length≤1000000):nameL (decide (i=0)||decide (s[i-1]?=some 32)) (s.drop i) =
  (!((strAt s (i:Int) == 32&&((i:Int) == 0||(i:Int) == IntKind.i64.wrap ((s.length:Int)-1)||strAt s (IntKind.i64.wrap ((i:Int)-1)) == 32))||strAt s (i:Int) != 32&&(decide (strAt s (i:Int) < 65)||decide (strAt s (i:Int) > 90))) &&
   nameL (decide (i+1=0)||decide (s[i+1-1]?=some 32)) (s.drop (i+1))):=by
 have hsa:=qBu h
 have hsi:s[i+1-1]?=some s[i]:=by simp [h]
 have hwl:IntKind.i64.wrap ((s.length:Int)-1)=((s.length-1:Nat):Int):=by rw [qAd (by omega)];omega
 have hp:i≠0→(strAt s (IntKind.i64.wrap ((i:Int)-1)) == 32)=decide (s[i-1]?=some 32):=fun h0=>by
  rw [qAd (by omega),show (i:Int)-1=((i-1:Nat):Int) by omega,qBu (by omega),List.getElem?_eq_getElem (by omega:i-1 < s.length)]
  generalize s[i-1]'(by omega)=c
  have hc:bI c=32↔c=32:=byte_eq (c:=c) (d:=32)
  by_cases h1:c=32
  ·simp [h1];rfl
  ·have:=mt hc.1 h1
   simp [h1,this]
 have he:(s.drop (i+1)).isEmpty=((i:Int) == ((s.length-1:Nat):Int)):=by
  by_cases h1:i+1=s.length
  ·rw [show i=s.length-1 by omega];simp;omega
  ·have h2:¬ (i:Int)=((s.length-1:Nat):Int):=by omega
   have h3:s.drop (i+1)≠[]:=fun hh=>by have:=congrArg List.length hh;simp at this;omega
   rw [beq_eq_false_iff_ne.2 h2]
   cases hd:s.drop (i+1) with
   | nil=>exact absurd hd h3
   | cons a l=>rfl
 have hi0:((i:Int) == 0)=decide (i=0):=by
  by_cases h1:i=0
  ·simp [h1]
  ·simp [h1]
 rw [qCl h,nameL_cons,hwl,hsa,hsi,hi0,← he]
 generalize s[i]=c at *
 have hc:bI c=32↔c=32:=byte_eq (c:=c) (d:=32)
 have hn0:decide (i+1=0)=false:=by simp
 rw [hn0,Bool.false_or]
 by_cases h1:c=32
 ·rw [if_pos h1]
  have h32:bI c=32:=hc.2 h1
  subst h1
  by_cases h0:i=0
  ·simp [h32,h0]
  ·rw [hp h0,h32]
   have hd:decide (i=0)=false:=decide_eq_false h0
   rw [hd]
   generalize decide (s[i-1]?=some 32)=x
   generalize (s.drop (i+1)).isEmpty=y
   simp
   generalize nameL true (s.drop (i+1))=z
   revert x y z
   decide
 ·rw [if_neg h1]
  have h32:¬ bI c=32:=mt hc.1 h1
  have h2:decide (some c=some (32:UInt8))=false:=by simp [h1]
  rw [h2]
  have h3:(bI c == 32)=false:=by simpa using h32
  have h4:(bI c != 32)=true:=by simpa using h32
  rw [h3,h4]
  simp only [Bool.false_and,Bool.false_or,Bool.true_and]
  congr 1
  by_cases g1:65≤bI c <;> by_cases g2:bI c≤90 <;> simp [g1,g2] <;> omega
theorem Name_spec (s:List UInt8) (hs:s.length≤1000000):Spec Tryz.prog 167 [.d (.str s)] [] (fun r h'=>r=.d (.bool (nameL true s))∧h'=[]):=by
 generalize hfin:nameL true s=fin
 refine qAb hT Tryz.func167 rfl rfl rfl rfl ?_;intro E hE
 refine ww ?_
 refine qAn (ι:=Nat) (fun i=>[(0,.d (.str s)),(3,.d (.int .i64 (i:Int)))]) (fun _=>[]) (fun i=>i≤s.length∧nameL (decide (i=0)||decide (s[i-1]?=some 32)) (s.drop i)=fin) (fun i=>s.length-i) 0 ⟨by omega,by simpa using hfin⟩ ⟨.refl _,.refl _,trivial⟩ (HLe.refl _) ?_
 rintro i ⟨hi,hg⟩
 have hwr:IntKind.i64.wrap ((i:Int)+1)=((i+1:Nat):Int):=by rw [qAd (by omega)];simp
 refine ww ?_
 refine qAa rfl (fun h1=>?_) (fun h1=>?_)
 ·have h1':i < s.length:=by simpa using h1
  have hst:=name_step h1' hs
  have hwi:i≠0→IntKind.i64.wrap ((i:Int)-1)=((i-1:Nat):Int):=fun h=>by rw [qAd (by omega)];omega
  rw [hst] at hg
  refine ww ?_
  refine qAa rfl (fun h2=>?_) (fun h2=>?_)
  ·rw [h2] at hg
   subst hg
   refine ww ?_
   exact wwr
  ·rw [h2,Bool.not_false,Bool.true_and] at hg
   refine ww ?_
   exact ⟨i+1,⟨by omega,hg⟩,by omega,⟨.refl _,.int hwr,trivial⟩,HLe.refl _⟩
 ·have h1':i=s.length:=by simp at h1;omega
  subst h1'
  rw [List.drop_length,nameL] at hg
  subst hg
  refine ww ?_
  exact wwr
end Tdoc
/- The reference's names with fillers. -/
set_option maxHeartbeats 8000000
set_option maxRecDepth 100000
set_option linter.unusedVariables false
set_option linter.unusedSimpArgs false
namespace Tdoc
open Go Go.Proofs
theorem fillS_length (s:List UInt8):(fillS s).length=s.length:=by simp [fillS]
theorem byteAV_at {s:List UInt8} {i:Nat} (h:i < s.length):(byteAV s)[i]?=some (.d (.int .u8 (bI s[i]))):=by simp [byteAV,bI,h]
theorem byteAV_set (a:List UInt8) (c x:UInt8) (b:List UInt8):(byteAV (a++c::b)).set a.length (.d (.int .u8 (bI x)))=byteAV (a++x::b):=by
 simp [byteAV,bI]
theorem fill_spec (s:List UInt8) (hs:s.length≤1000000):Spec Tryz.prog 173 [.d (.str s)] [] (fun r h'=>r=.d (.str (fillS s))∧h'=[]):=by
 refine qAb hT Tryz.func173 rfl rfl rfl rfl ?_;intro E hE
 refine qAq ?_
 refine qAm (qAj ?_)
 refine wws ?_
 refine qAm (qAj ?_)
 refine wws ?_
 refine AWk_opR (strRow_ok (i0:=0) hT rfl rfl rfl rfl) rfl ?_
 rintro u k ⟨cap,hcap,rfl,rfl⟩
 refine ww ?_
 refine qAn (ι:=Nat) (fun i=>[(3,.row 0 0 s.length cap),(4,.d (.int .i64 (i:Int)))]) (fun i=>[.row (byteAV (fillS (s.take i)++s.drop i))]) (fun i=>i≤s.length) (fun i=>s.length-i) 0 (by omega) ⟨.refl _,.refl _,trivial⟩ (HLe.refl _) ?_
 rintro i hi
 have hwr:IntKind.i64.wrap ((i:Int)+1)=((i+1:Nat):Int):=by rw [qAd (by omega)];simp
 refine ww ?_
 refine qAa rfl (fun h1=>?_) (fun h1=>?_)
 ·have h1':i < s.length:=by simpa using h1
  have hdr:=qCl h1'
  have htk:s.take (i+1)=s.take i++[s[i]]:=List.take_succ_eq_append_getElem h1'
  have hfl:fillS (s.take (i+1))=fillS (s.take i)++[if s[i]=32 then 60 else s[i]]:=by rw [htk];unfold fillS;rw [List.map_append];rfl
  have hl:(fillS (s.take i)).length=i:=by rw [fillS_length,List.length_take];omega
  have hsl:(fillS (s.take i)++s.drop i).length=s.length:=by rw [List.length_append,hl,List.length_drop];omega
  have hat:(byteAV (fillS (s.take i)++s.drop i))[0+((i:Int)).toNat*1]?=some (.d (.int .u8 (bI s[i]))):=by
   rw [Int.toNat_natCast,Nat.mul_one,Nat.zero_add,byteAV_at (by rw [hsl];exact h1')]
   rw [List.getElem_append_right (by omega)]
   simp [hl]
  have hset:∀ x:UInt8,(byteAV (fillS (s.take i)++s.drop i)).set i (.d (.int .u8 (bI x)))=byteAV (fillS (s.take i)++x::s.drop (i+1)):=fun x=>by
   have:=byteAV_set (fillS (s.take i)) s[i] x (s.drop (i+1))
   rw [hl] at this
   rw [hdr];exact this
  have hbl:=qDc (fillS (s.take i)++s.drop i)
  rw [hsl] at hbl
  have hc:bI s[i]=32↔s[i]=32:=byte_eq (c:=s[i]) (d:=32)
  have hself:byteAV (fillS (s.take i)++s.drop i)=byteAV (fillS (s.take i)++s[i]::s.drop (i+1)):=by rw [hdr]
  generalize s[i]=c at hfl hat hc hself
  generalize byteAV (fillS (s.take i)++s.drop i)=row at hat hset hbl hself
  refine ww ?_
  refine qAe (qAc (rowAddr_ok (sz:=1) hT rfl rfl rfl rfl ⟨by omega,by omega⟩)) rfl ?_
  refine qAe (qBk hT rfl rfl rfl rfl rfl hat) rfl ?_
  refine ww ?_
  refine qAa rfl (fun h2=>?_) (fun h2=>?_)
  ·have h2':c=32:=by simp at h2;exact hc.1 h2
   rw [if_pos h2'] at hfl
   refine ww ?_
   refine qAe (qAc (rowAddr_ok (sz:=1) hT rfl rfl rfl rfl ⟨by omega,by omega⟩)) rfl ?_
   refine AWk_op0 (store1_ok hT rfl rfl rfl rfl rfl rfl (by rw [hbl];simp;omega)) rfl ?_
   refine ww ?_
   refine ⟨i+1,by omega,by omega,⟨.refl _,.int hwr,trivial⟩,⟨ObLe.row ?_,trivial⟩⟩
   rw [hfl,List.append_assoc]
   refine Eq.trans ?_ (hset 60)
   rw [show 0+((i:Int)).toNat*1=i by simp];rfl
  ·have h2':¬ c=32:=fun hh=>by have:=hc.2 hh;simp [this] at h2
   rw [if_neg h2'] at hfl
   refine ww ?_
   refine ⟨i+1,by omega,by omega,⟨.refl _,.int hwr,trivial⟩,⟨ObLe.row ?_,trivial⟩⟩
   rw [hfl,List.append_assoc]
   exact hself
 ·have h1':i=s.length:=by simp at h1;omega
  subst h1'
  rw [List.take_length,List.drop_length,List.append_nil]
  refine ww ?_
  refine qAe (rowStr_ok (s:=fillS s) hT rfl rfl rfl rfl (fillS_length s) (fun j c hj=>?_)) rfl ?_
  ·have hjl:=(List.getElem?_eq_some_iff.1 hj).1
   rw [Nat.zero_add,byteAV_at hjl]
   rw [List.getElem?_eq_getElem hjl] at hj
   cases hj;rfl
  refine ww ?_
  exact wwr
theorem wideS_self {s:List UInt8} {n:Nat} (h:n≤s.length):wideS s n=s:=by simp [wideS,Nat.sub_eq_zero_of_le h]
theorem wideS_one {s:List UInt8} {n:Nat} (h:s.length < n):wideS (s++[60]) n=wideS s n:=by
 unfold wideS
 rw [List.append_assoc,List.length_append,List.length_singleton,show n-s.length=(n-(s.length+1))+1 by omega,List.replicate_succ];rfl
theorem Wide_spec (s:List UInt8) (w:Nat) (hs:s.length≤1000000) (hw:w≤1000000):Spec Tryz.prog 101 [.d (.str s),.d (.int .i64 (w:Int))] [] (fun r h'=>r=.d (.str (wideS s w))∧h'=[]):=by
 generalize hfin:wideS s w=fin
 refine qAb hT Tryz.func101 rfl rfl rfl rfl ?_;intro E hE
 refine ww ?_
 refine qAn (ι:=List UInt8) (fun t=>[(0,.d (.str t)),(1,.d (.int .i64 (w:Int)))]) (fun _=>[]) (fun t=>t.length≤2000000∧wideS t w=fin) (fun t=>w-t.length) s ⟨by omega,hfin⟩ ⟨.refl _,.refl _,trivial⟩ (HLe.refl _) ?_
 rintro t ⟨hl,hg⟩
 refine ww ?_
 refine qAa rfl (fun h1=>?_) (fun h1=>?_)
 ·have h1':t.length < w:=by simpa using h1
  refine ww ?_
  exact ⟨t++[60],⟨by simp only [List.length_append,List.length_singleton];omega,by rw [wideS_one h1'];exact hg⟩,by simp only [List.length_append,List.length_singleton];omega,⟨.refl _,.refl _,trivial⟩,HLe.refl _⟩
 ·have h1':w≤t.length:=by simp at h1;omega
  rw [wideS_self h1'] at hg
  subst hg
  refine ww ?_
  exact wwr
theorem wide_any (s:List UInt8) (w:Int) (h1:0≤w) (hs:s.length≤1000000) (hw:w≤1000000):Spec Tryz.prog 101 [.d (.str s),.d (.int .i64 w)] [] (fun r h'=>r=.d (.str (wideS s w.toNat))∧h'=[]):=by
 obtain ⟨n,rfl⟩:=Int.eq_ofNat_of_zero_le h1
 exact Wide_spec s n hs (by omega)
theorem Names_spec (sur giv:List UInt8) (w:Int) (h1:sur.length≤10000) (h2:giv.length≤10000):Spec Tryz.prog 104 [.d (.str sur),.d (.str giv),.d (.int .i64 w)] [] (fun r h'=>r=.tup [.d (.str (namesF sur giv w).1),.d (.int .i64 (namesF sur giv w).2)]∧h'=[]):=by
 have hn1:=Name_spec sur (by omega)
 have hn2:=Name_spec giv (by omega)
 have hf1:=fill_spec sur (by omega)
 have hf2:=fill_spec giv (by omega)
 have hl1:=fillS_length sur
 have hl2:=fillS_length giv
 unfold namesF namesS
 generalize nameL true sur=n1 at hn1
 generalize nameL true giv=n2 at hn2
 generalize fillS sur=f1 at hf1 hl1
 generalize fillS giv=f2 at hf2 hl2
 refine qAb hT Tryz.func104 rfl rfl rfl rfl ?_;intro E hE
 refine ww ?_
 refine wwc hn1 ?_
 refine ww ?_
 refine wwgc hn2 ?_
 refine ww ?_
 refine qAa rfl (fun h3=>?_) (fun h3=>?_)
 ·have h3':n1=false∨n2=false∨sur=[]:=by
   cases n1 <;> cases n2 <;> simp_all
  rw [if_pos h3']
  refine ww ?_
  exact wwr
 ·have h3':¬ (n1=false∨n2=false∨sur=[]):=by
   cases n1 <;> cases n2 <;> simp_all
  rw [if_neg h3']
  refine ww ?_
  refine qAa rfl (fun h4=>?_) (fun h4=>?_)
  ·have h4':w < 1∨w > 64:=by simpa using h4
   rw [if_pos h4']
   refine ww ?_
   exact wwr
  ·have h4':¬ (w < 1∨w > 64):=by simpa using h4
   rw [if_neg h4']
   refine ww ?_
   refine wwc hf1 ?_
   refine wws ?_
   refine qAr (ι:=Unit) (fun _=>[(0,.d (.str sur)),(1,.d (.str giv)),(2,.d (.int .i64 w)),(8,.d (.str (f1++(if giv=[] then [] else [60,60]++f2))))]) (fun _=>[]) (fun _=>True) ?_ (fun _ _=>?_)
   ·refine ww ?_
    refine qAa rfl (fun h5=>?_) (fun h5=>?_)
    ·have h5':¬ giv=[]:=by simpa using h5
     rw [if_neg h5']
     refine ww ?_
     refine wwc hf2 ?_
     refine ww ?_
     exact ⟨(),trivial,⟨.refl _,.refl _,.refl _,.refl _,trivial⟩,HLe.refl _⟩
    ·have h5':giv=[]:=by simpa using h5
     rw [if_pos h5',List.append_nil]
     refine ww ?_
     exact ⟨(),trivial,⟨.refl _,.refl _,.refl _,.refl _,trivial⟩,HLe.refl _⟩
   ·have hnl:(f1++(if giv=[] then [] else [60,60]++f2)).length≤30000:=by
     rw [List.length_append];split <;> simp <;> omega
    generalize f1++(if giv=[] then [] else [60,60]++f2)=t at hnl
    have hwd:=wide_any t w (by omega) (by omega) (by omega)
    have hwl:=qBq t w.toNat
    generalize wideS t w.toNat=u at hwd hwl
    refine ww ?_
    refine wwc hwd ?_
    refine ww ?_
    exact wwr
end Tdoc
/- The reference's days. -/
set_option maxHeartbeats 8000000
set_option maxRecDepth 100000
set_option linter.unusedVariables false
set_option linter.unusedSimpArgs false
namespace Tdoc
open Go Go.Proofs
theorem leap_spec (y:Int):Spec Tryz.prog 238 [.d (.int .i64 y)] [] (fun r h'=>r=.d (.bool (leapR y))∧h'=[]):=by
 unfold leapR
 refine qAb hT Tryz.func238 rfl rfl rfl rfl ?_;intro E hE
 refine ww ?_
 refine rq ⟨rfl,rfl⟩ rfl (.bool ?_)
 by_cases h1:y.tmod 4=0 <;> by_cases h2:y=1900 <;> simp [h1,h2]
theorem longM_spec (y m:Int):Spec Tryz.prog 182 [.d (.int .i64 y),.d (.int .i64 m)] [] (fun r h'=>r=.d (.int .i64 (longR y m))∧h'=[]):=by
 have hl:=leap_spec y
 unfold longR
 generalize leapR y=lp at hl
 refine qAb hT Tryz.func182 rfl rfl rfl rfl ?_;intro E hE
 refine qAm (qAj ?_)
 refine wws ?_
 refine qAm (qAm (qAj ?_))
 refine wws ?_
 refine qCk ?_
 refine qAr (ι:=Unit) (fun _=>[(0,.d (.int .i64 y)),(1,.d (.int .i64 m)),(5,.d (.int .i64 m)),(6,.d (.bool (decide (m=4∨m=6∨m=9∨m=11))))]) (fun _=>[]) (fun _=>True) ?_ (fun _ _=>?_)
 ·refine ww ?_
  refine qAa rfl (fun a1=>?_) (fun a1=>?_)
  ·refine ww ?_
   exact ⟨(),trivial,⟨.refl _,.refl _,.refl _,.bool (by simp at a1;simp [a1]),trivial⟩,HLe.refl _⟩
  ·refine ww ?_
   refine qAa rfl (fun a2=>?_) (fun a2=>?_)
   ·refine ww ?_
    exact ⟨(),trivial,⟨.refl _,.refl _,.refl _,.bool (by simp at a2;simp [a2]),trivial⟩,HLe.refl _⟩
   ·refine ww ?_
    refine qAa rfl (fun a3=>?_) (fun a3=>?_)
    ·refine ww ?_
     exact ⟨(),trivial,⟨.refl _,.refl _,.refl _,.bool (by simp at a3;simp [a3]),trivial⟩,HLe.refl _⟩
    ·refine ww ?_
     exact ⟨(),trivial,⟨.refl _,.refl _,.refl _,.bool (by simp at a1 a2 a3;by_cases h:m=11 <;> simp [h,a1,a2,a3]),trivial⟩,HLe.refl _⟩
 ·refine ww ?_
  refine qAa rfl (fun a1=>?_) (fun a1=>?_)
  ·have a1':m=4∨m=6∨m=9∨m=11:=of_decide_eq_true a1
   rw [if_pos a1']
   refine ww ?_
   exact wwr
  ·have a1':¬ (m=4∨m=6∨m=9∨m=11):=of_decide_eq_false a1
   rw [if_neg a1']
   refine ww ?_
   refine qAa rfl (fun a2=>?_) (fun a2=>?_)
   ·have a2':m=2:=by simpa using a2
    rw [if_pos a2']
    refine ww ?_
    refine wwc hl ?_
    refine ww ?_
    refine qAa rfl (fun a3=>?_) (fun a3=>?_)
    ·rw [if_pos a3]
     refine ww ?_
     exact wwr
    ·rw [if_neg (by simp [a3])]
     refine ww ?_
     exact wwr
   ·have a2':¬ m=2:=by simpa using a2
    rw [if_neg a2']
    refine ww ?_
    exact wwr
theorem ValidD_spec (d:Int):Spec Tryz.prog 181 [.d (.int .i64 d)] [] (fun r h'=>r=.d (.bool (decide (0≤d∧d≤73048)))∧h'=[]):=by
 refine qAb hT Tryz.func181 rfl rfl rfl rfl ?_;intro E hE
 refine ww ?_
 refine rq ⟨rfl,rfl⟩ rfl (.bool ?_)
 by_cases h1:0≤d <;> by_cases h2:d≤73048 <;> simp [h1,h2]
theorem Of_spec (y m d:Int):Spec Tryz.prog 233 [.d (.int .i64 y),.d (.int .i64 m),.d (.int .i64 d)] [] (fun r h'=>r=.tup [.d (.int .i64 (ofF y m d).1),.d (.int .i64 (ofF y m d).2)]∧h'=[]):=by
 have hlg:=longM_spec y m
 unfold ofF
 have hlr:=qCy y m
 generalize hlm:longR y m=lm at hlg hlr
 refine qAb hT Tryz.func233 rfl rfl rfl rfl ?_;intro E hE
 refine ww ?_
 refine wwgc hlg ?_
 refine ww ?_
 refine qAa rfl (fun c1=>?_) (fun c1=>?_)
 ·have c1':y < 1900∨y > 2099∨m < 1∨m > 12∨d < 1∨d > lm:=by simp at c1;omega
  rw [if_pos c1']
  refine ww ?_
  exact wwr
 ·have c1':¬ (y < 1900∨y > 2099∨m < 1∨m > 12∨d < 1∨d > lm):=by simp at c1;omega
  rw [if_neg c1']
  obtain ⟨yn,rfl⟩:∃ yn:Nat,y=1900+(yn:Int):=⟨(y-1900).toNat,by omega⟩
  obtain ⟨mn,rfl⟩:∃ mn:Nat,m=(mn:Int)+1:=⟨(m-1).toNat,by omega⟩
  rw [show (1900+(yn:Int)-1900).toNat=yn by omega,show ((mn:Int)+1-1).toNat=mn by omega]
  have hwd:IntKind.i64.wrap (d-1)=d-1:=qAd (by omega)
  refine wwe ?_
  refine qAm (qAj ?_)
  refine wws ?_
  refine qAm ?_
  refine ww ?_
  refine qAn (ι:=Nat) (fun k=>[(0,.d (.int .i64 (1900+(yn:Int)))),(1,.d (.int .i64 ((mn:Int)+1))),(8,.d (.int .i64 (d-1+yearsR k))),(9,.d (.int .i64 (1900+(k:Int))))]) (fun _=>[]) (fun k=>k≤yn) (fun k=>yn-k) 0 (by omega) ⟨.refl _,.refl _,.int (by rw [hwd];simp [yearsR]),.refl _,trivial⟩ (HLe.refl _) ?_
  intro k hk
  have hyr:=yearsR_range k
  have hlp:=leap_spec (1900+(k:Int))
  have hw1:IntKind.i64.wrap (1900+(k:Int)+1)=1900+((k+1:Nat):Int):=by rw [qAd (by omega)];omega
  have hw2:IntKind.i64.wrap (d-1+yearsR k+365)=d-1+yearsR k+365:=qAd (by omega)
  have hw3:IntKind.i64.wrap (IntKind.i64.wrap (d-1+yearsR k+365)+1)=d-1+yearsR k+365+1:=by rw [hw2,qAd (by omega)]
  have hys:yearsR (k+1)=yearsR k+365+(if leapR (1900+(k:Int))=true then 1 else 0):=rfl
  generalize leapR (1900+(k:Int))=lp at hlp hys
  refine ww ?_
  refine qAa rfl (fun c2=>?_) (fun c2=>?_)
  ·have c2':k < yn:=by simp at c2;omega
   refine ww ?_
   refine wwc hlp ?_
   refine ww ?_
   refine qAa rfl (fun c3=>?_) (fun c3=>?_)
   ·rw [if_pos c3] at hys
    refine ww ?_
    exact ⟨k+1,by omega,by omega,⟨.refl _,.refl _,.int (by rw [hw3,hys];omega),.int hw1,trivial⟩,HLe.refl _⟩
   ·rw [if_neg (by simp [c3])] at hys
    refine ww ?_
    exact ⟨k+1,by omega,by omega,⟨.refl _,.refl _,.int (by rw [hw2,hys];omega),.int hw1,trivial⟩,HLe.refl _⟩
  ·have c2':k=yn:=by simp at c2;omega
   subst c2'
   refine wwe ?_
   refine qAm ?_
   refine ww ?_
   refine qAn (ι:=Nat) (fun i=>[(0,.d (.int .i64 (1900+(k:Int)))),(1,.d (.int .i64 ((mn:Int)+1))),(8,.d (.int .i64 (d-1+yearsR k+monthsR (1900+(k:Int)) i))),(10,.d (.int .i64 ((i:Int)+1)))]) (fun _=>[]) (fun i=>i≤mn) (fun i=>mn-i) 0 (by omega) ⟨.refl _,.refl _,.int (by simp [monthsR]),.refl _,trivial⟩ (HLe.refl _) ?_
   intro i hi
   have hmr:=monthsR_range (1900+(k:Int)) i
   have hlg:=longM_spec (1900+(k:Int)) ((i:Int)+1)
   have hlr2:=qCy (1900+(k:Int)) ((i:Int)+1)
   have hms:monthsR (1900+(k:Int)) (i+1)=monthsR (1900+(k:Int)) i+longR (1900+(k:Int)) ((i:Int)+1):=rfl
   generalize longR (1900+(k:Int)) ((i:Int)+1)=lg at hlg hlr2 hms
   have hw4:IntKind.i64.wrap ((i:Int)+1+1)=((i+1:Nat):Int)+1:=by rw [qAd (by omega)];omega
   have hw5:IntKind.i64.wrap (d-1+yearsR k+monthsR (1900+(k:Int)) i+lg)=d-1+yearsR k+monthsR (1900+(k:Int)) (i+1):=by rw [qAd (by omega),hms];omega
   refine ww ?_
   refine qAa rfl (fun c4=>?_) (fun c4=>?_)
   ·have c4':i < mn:=by simp at c4;omega
    refine ww ?_
    refine wwc hlg ?_
    refine ww ?_
    exact ⟨i+1,by omega,by omega,⟨.refl _,.refl _,.int hw5,.int hw4,trivial⟩,HLe.refl _⟩
   ·have c4':i=mn:=by simp at c4;omega
    subst c4'
    refine ww ?_
    exact wwr
theorem yearsR_mono {a b:Nat} (h:a≤b):yearsR a≤yearsR b:=by
 induction h with
 | refl=>exact Int.le_refl _
 | step h ih=>rw [yearsR];split <;> omega
theorem monthsR_mono (y:Int) {a b:Nat} (h:a≤b):monthsR y a≤monthsR y b:=by
 induction h with
 | refl=>exact Int.le_refl _
 | @step c h ih=>have:=qCy y ((c:Int)+1);rw [monthsR];omega
theorem monthsR_year (y:Int):monthsR y 12=365+(if leapR y=true then 1 else 0):=by
 simp only [monthsR,longR]
 cases leapR y <;> simp
theorem years100:yearsR 100=36524:=by decide +kernel
theorem years200:yearsR 200=73049:=by decide +kernel
def PartsP (day:Int) (x:Int×Int×Int):Prop:=1900≤x.1∧x.1≤2099∧1≤x.2.1∧x.2.1≤12∧1≤x.2.2∧x.2.2≤longR x.1 x.2.1∧(36524≤day→2000≤x.1)
theorem Parts_spec (day:Int) (h0:0≤day∧day≤73048):Spec Tryz.prog 117 [.d (.int .i64 day)] [] (fun r h'=>∃ x,PartsP day x∧r=.tup [.d (.int .i64 x.1),.d (.int .i64 x.2.1),.d (.int .i64 x.2.2),.d (.int .i64 0)]∧h'=[]):=by
 have hv:=ValidD_spec day
 rw [decide_eq_true h0] at hv
 refine qAb hT Tryz.func117 rfl rfl rfl rfl ?_;intro E hE
 refine ww ?_
 refine wwc hv ?_
 refine ww ?_
 refine qAa rfl (fun c1=>?_) (fun c1=>?_)
 ·exact absurd c1 (by simp)
 refine ww ?_
 refine qAn (ι:=Nat×Nat×Int) (fun x=>[(0,.d (.int .i64 x.2.2)),(6,.d (.int .i64 (1900+(x.1:Int)))),(7,.d (.int .i64 ((x.2.1:Int)+1)))]) (fun _=>[]) (fun x=>0≤x.2.2∧x.2.1≤11∧day=yearsR x.1+monthsR (1900+(x.1:Int)) x.2.1+x.2.2) (fun x=>x.2.2.toNat) (0,0,day) ⟨by simp only;omega,by simp,by simp [yearsR,monthsR]⟩ ⟨.refl _,.refl _,.refl _,trivial⟩ (HLe.refl _) ?_
 rintro ⟨yk,mk,rest⟩ ⟨g1,g2,g3⟩
 simp only at g1 g2 g3 ⊢
 have hmr:=monthsR_range (1900+(yk:Int)) mk
 have hyk:yk≤199:=by
  by_cases h:200≤yk
  ·have:=yearsR_mono h;rw [years200] at this;omega
  ·omega
 have hyr:=yearsR_range yk
 have hlg:=longM_spec (1900+(yk:Int)) ((mk:Int)+1)
 have hlr:=qCy (1900+(yk:Int)) ((mk:Int)+1)
 have hms:monthsR (1900+(yk:Int)) (mk+1)=monthsR (1900+(yk:Int)) mk+longR (1900+(yk:Int)) ((mk:Int)+1):=rfl
 have hend:rest < longR (1900+(yk:Int)) ((mk:Int)+1)→PartsP day (1900+(yk:Int),(mk:Int)+1,rest+1):=fun h=>by
  refine ⟨by simp only;omega,by simp only;omega,by simp only;omega,by simp only;omega,by simp only;omega,by simp only;omega,fun hd=>?_⟩
  simp only
  by_cases h9:100≤yk
  ·omega
  ·exfalso
   have m1:=monthsR_mono (1900+(yk:Int)) (show mk+1≤12 by omega)
   have m2:=yearsR_mono (show yk+1≤100 by omega)
   have m3:=monthsR_year (1900+(yk:Int))
   rw [years100,yearsR] at m2
   omega
 generalize longR (1900+(yk:Int)) ((mk:Int)+1)=lg at hlg hlr hms hend
 have hw1:IntKind.i64.wrap (rest-lg)=rest-lg:=qAd (by omega)
 have hw2:IntKind.i64.wrap ((mk:Int)+1+1)=((mk+1:Nat):Int)+1:=by rw [qAd (by omega)];omega
 have hw3:IntKind.i64.wrap (1900+(yk:Int)+1)=1900+((yk+1:Nat):Int):=by rw [qAd (by omega)];omega
 have hw4:IntKind.i64.wrap (rest+1)=rest+1:=qAd (by omega)
 refine ww ?_
 refine wwc hlg ?_
 refine ww ?_
 refine qAa rfl (fun c2=>?_) (fun c2=>?_)
 ·have c2':rest < lg:=by simpa using c2
  refine ww ?_
  exact rq ⟨_,hend c2',rfl,rfl⟩ rfl (AV.le.tup ⟨.refl _,.refl _,.int hw4,.refl _,trivial⟩)
 ·have c2':¬ rest < lg:=by simpa using c2
  refine ww ?_
  refine qAa rfl (fun c3=>?_) (fun c3=>?_)
  ·have c3':mk=11:=by rw [hw2] at c3;simp at c3;omega
   subst c3'
   refine ww ?_
   have m3:=monthsR_year (1900+(yk:Int))
   refine ⟨(yk+1,0,rest-lg),⟨by simp only;omega,by simp,?_⟩,by simp only;omega,⟨.int hw1,.int hw3,.refl _,trivial⟩,HLe.refl _⟩
   have hms2:monthsR (1900+(yk:Int)) 12=monthsR (1900+(yk:Int)) 11+lg:=hms
   show day=yearsR yk+365+(if leapR (1900+(yk:Int))=true then 1 else 0)+0+(rest-lg)
   generalize (if leapR (1900+(yk:Int))=true then (1:Int) else 0)=z at m3
   omega
  ·have c3':mk < 11:=by rw [hw2] at c3;simp at c3;omega
   refine ww ?_
   exact ⟨(yk,mk+1,rest-lg),⟨by simp only;omega,by simp only;omega,by simp only;omega⟩,by simp only;omega,⟨.int hw1,.refl _,.int hw2,trivial⟩,HLe.refl _⟩
def twoS (n:Int):List UInt8:=[UInt8.ofNat (48+n / 10).toNat,UInt8.ofNat (48+n % 10).toNat]
theorem two_spec (n:Int) (h0:0≤n∧n≤99):Spec Tryz.prog 118 [.d (.int .i64 n)] [] (fun r h'=>r=.d (.str (twoS n))∧h'=[]):=by
 have h1:n.tdiv 10=n / 10:=Int.tdiv_eq_ediv_of_nonneg h0.1
 have h2:n.tmod 10=n % 10:=Int.tmod_eq_emod_of_nonneg h0.1
 have w1:IntKind.u8.wrap (IntKind.i64.wrap (48+IntKind.i64.wrap (n.tdiv 10)))=48+n / 10:=by rw [h1,qAd (n:=n / 10) (by omega),qAd (by omega),wrapu8 (by omega)]
 have w2:IntKind.u8.wrap (IntKind.i64.wrap (48+n.tmod 10))=48+n % 10:=by rw [h2,qAd (by omega),wrapu8 (by omega)]
 refine qAb hT Tryz.func118 rfl rfl rfl rfl ?_;intro E hE
 refine ww ?_
 refine qBn hT rfl rfl (fun e he=>by simp at he;rcases he with rfl | rfl <;> exact ⟨_,rfl⟩) ?_
 refine ww ?_
 refine rq ⟨rfl,rfl⟩ rfl (.str ?_)
 show [UInt8.ofNat (IntKind.u8.wrap (IntKind.i64.wrap (48+IntKind.i64.wrap (n.tdiv 10)))).toNat,UInt8.ofNat (IntKind.u8.wrap (IntKind.i64.wrap (48+n.tmod 10))).toNat]=twoS n
 rw [w1,w2];rfl
def FormatP (day:Int) (s:List UInt8):Prop:=∃ x:Int×Int×Int,PartsP day x∧s=twoS (x.1 % 100)++twoS x.2.1++twoS x.2.2
theorem FormatD_spec (day:Int) (h0:0≤day∧day≤73048):Spec Tryz.prog 62 [.d (.int .i64 day)] [] (fun r h'=>∃ s,FormatP day s∧r=.tup [.d (.str s),.d (.int .i64 0)]∧h'=[]):=by
 have hp:=Parts_spec day h0
 refine qAb hT Tryz.func62 rfl rfl rfl rfl ?_;intro E hE
 refine ww ?_
 refine wwx hp ?_
 rintro ⟨y,m,d⟩ hx
 have hx':=hx
 obtain ⟨g1,g2,g3,g4,g5,g6,g7⟩:=hx
 simp only at g1 g2 g3 g4 g5 g6 g7 ⊢
 have hlr:=qCy y m
 have hm:y.tmod 100=y % 100:=Int.tmod_eq_emod_of_nonneg (by omega)
 have h1:=two_spec (y % 100) (by omega)
 rw [← hm] at h1
 have h2:=two_spec m (by omega)
 have h3:=two_spec d (by omega)
 have l1:(twoS (y.tmod 100)).length=2:=rfl
 have l2:(twoS m).length=2:=rfl
 have l3:(twoS d).length=2:=rfl
 have hfin:FormatP day (twoS (y.tmod 100)++twoS m++twoS d):=⟨(y,m,d),hx',by rw [hm]⟩
 generalize twoS (y.tmod 100)=s1 at *
 generalize twoS m=s2 at *
 generalize twoS d=s3 at *
 refine ww ?_
 refine qAa rfl (fun c1=>?_) (fun c1=>?_)
 ·exact absurd c1 (by simp)
 refine ww ?_
 refine wwc h1 ?_
 refine ww ?_
 refine wwc h2 ?_
 refine ww ?_
 refine wwc h3 ?_
 refine ww ?_
 exact rq ⟨_,hfin,rfl,rfl⟩ rfl (.refl _)
end Tdoc
/- The reference's templates: Valid, the object, Encode. -/
set_option maxHeartbeats 8000000
set_option maxRecDepth 100000
set_option linter.unusedVariables false
set_option linter.unusedSimpArgs false
namespace Tdoc
open Go Go.Proofs
theorem ValidT_spec (t:Tpl):Spec Tryz.prog 132 [tAV t] [] (fun r h'=>r=.d (.int .i64 (validT t))∧h'=[]):=by
 obtain ⟨kind,part,frm,til,fmt,qual,data⟩:=t
 have hv1:=ValidD_spec frm
 have hv2:=ValidD_spec til
 have hl:=qAg data
 generalize hfin:validT ⟨kind,part,frm,til,fmt,qual,data⟩=fin
 unfold validT dayOk at hfin
 unfold tAV tCells
 simp only at hfin ⊢
 generalize decide (0≤frm∧frm≤73048)=d1 at hv1 hfin
 generalize decide (0≤til∧til≤73048)=d2 at hv2 hfin
 generalize encB data=eb at hl
 refine qAb hT Tryz.func132 rfl rfl rfl rfl ?_;intro E hE
 refine qAq ?_
 refine qAm (qAj ?_)
 refine qAe (qBb (i0:=0) rfl rfl rfl) rfl ?_
 refine wws ?_
 refine qAm (qAj ?_)
 refine wws ?_
 refine qAr (ι:=Int) (fun m=>[(1,.ptr 0 0),(3,.d (.int .i64 m))]) (fun _=>[.row [.d (.int .i64 kind),.d (.int .i64 part),.d (.int .i64 frm),.d (.int .i64 til),.d (.int .i64 fmt),.d (.int .i64 qual),.d (.sl 1 eb)]]) (fun m=>(kind=1∨kind=2∨kind=3)∧m=mostT kind) ?_ ?_
 ·refine ww ?_
  refine qAa rfl (fun k1=>?_) (fun k1=>?_)
  ·have k1':kind=1:=by simpa using k1
   refine ww ?_
   refine wwe ?_
   exact ⟨0,⟨.inl k1',by rw [k1'];rfl⟩,⟨.refl _,.refl _,trivial⟩,HLe.refl _⟩
  have k1':¬ kind=1:=by simpa using k1
  refine ww ?_
  refine qAa rfl (fun k2=>?_) (fun k2=>?_)
  ·have k2':kind=2:=by simpa using k2
   refine ww ?_
   refine wwe ?_
   exact ⟨10,⟨.inr (.inl k2'),by rw [k2'];rfl⟩,⟨.refl _,.refl _,trivial⟩,HLe.refl _⟩
  have k2':¬ kind=2:=by simpa using k2
  refine ww ?_
  refine qAa rfl (fun k3=>?_) (fun k3=>?_)
  ·have k3':kind=3:=by simpa using k3
   refine ww ?_
   refine wwe ?_
   exact ⟨2,⟨.inr (.inr k3'),by rw [k3'];rfl⟩,⟨.refl _,.refl _,trivial⟩,HLe.refl _⟩
  have k3':¬ kind=3:=by simpa using k3
  rw [if_pos ⟨k1',k2',k3'⟩] at hfin
  subst hfin
  refine ww ?_
  exact wwr
 rintro m ⟨hk,hm⟩
 rw [if_neg (by omega),← hm] at hfin
 refine ww ?_
 refine qAa rfl (fun c1=>?_) (fun c1=>?_)
 ·have c1':part < 0∨part > m∨(m > 0∧part=0):=by simpa [or_assoc] using c1
  rw [if_pos c1'] at hfin
  subst hfin
  refine ww ?_
  exact wwr
 have c1':¬ (part < 0∨part > m∨(m > 0∧part=0)):=by
  intro hh
  have:(decide (part < 0)||decide (part > m)||(decide (m > 0)&&decide (part=0)))=true:=by simpa [or_assoc] using hh
  simp only [Bool.or_eq_false_iff,Bool.and_eq_false_iff,decide_eq_false_iff_not,beq_eq_false_iff_ne] at c1
  omega
 rw [if_neg c1'] at hfin
 refine ww ?_
 refine wwc hv1 ?_
 refine ww ?_
 refine wwgc hv2 ?_
 refine ww ?_
 refine qAa rfl (fun c2=>?_) (fun c2=>?_)
 ·have c2':d1=false∨d2=false∨frm > til:=by simpa [or_assoc] using c2
  rw [if_pos c2'] at hfin
  subst hfin
  refine ww ?_
  exact wwr
 have c2':¬ (d1=false∨d2=false∨frm > til):=by
  rintro (g | g | g)
  ·simp [g] at c2
  ·simp [g] at c2
  ·simp only [Bool.or_eq_false_iff,decide_eq_false_iff_not] at c2;omega
 rw [if_neg c2'] at hfin
 refine ww ?_
 refine qAa rfl (fun c3=>?_) (fun c3=>?_)
 ·have c3':fmt < 0∨fmt > 65535∨qual < 0∨qual > 100:=by simpa [or_assoc] using c3
  rw [if_pos c3'] at hfin
  subst hfin
  refine ww ?_
  exact wwr
 have c3':¬ (fmt < 0∨fmt > 65535∨qual < 0∨qual > 100):=by
  simp only [Bool.or_eq_false_iff,decide_eq_false_iff_not] at c3;omega
 rw [if_neg c3'] at hfin
 refine ww ?_
 refine qAa rfl (fun c4=>?_) (fun c4=>?_)
 ·have c4':data.length < 1∨data.length > 1024:=by simp only [Bool.or_eq_true,decide_eq_true_eq] at c4;omega
  rw [if_pos c4'] at hfin
  subst hfin
  refine ww ?_
  exact wwr
 have c4':¬ (data.length < 1∨data.length > 1024):=by simp only [Bool.or_eq_false_iff,decide_eq_false_iff_not] at c4;omega
 rw [if_neg c4'] at hfin
 subst hfin
 refine ww ?_
 exact wwr
theorem objT_spec (t:Tpl) (hv:validT t=0):Spec Tryz.prog 133 [tAV t] [] (fun r h'=>r=nAV (objT t)∧h'=[]):=by
 have ok:=validT_ok hv
 obtain ⟨kind,part,frm,til,fmt,qual,data⟩:=t
 simp only at ok
 obtain ⟨frm,rfl⟩:∃ n:Nat,frm=(n:Int):=⟨frm.toNat,by omega⟩
 obtain ⟨til,rfl⟩:∃ n:Nat,til=(n:Int):=⟨til.toNat,by omega⟩
 have hf1:=Four_spec frm (by omega)
 have hf2:=Four_spec til (by omega)
 have h1:=PrimW_spec 129 kind
 have h2:=PrimW_spec 130 part
 have h3:=qDo 131 (octB 4 frm) (by rw [octB_length];omega)
 have h4:=qDo 132 (octB 4 til) (by rw [octB_length];omega)
 have h5:=PrimW_spec 133 qual
 have h6:=PrimH_spec 136 fmt
 have h7:=qDo 24366 data (by omega)
 have hc1:=ConsK_spec 161 (headT ⟨kind,part,(frm:Int),(til:Int),fmt,qual,data⟩)
 have hc2:=ConsK_spec 32608 [.mk 161 [] (headT ⟨kind,part,(frm:Int),(til:Int),fmt,qual,data⟩),.mk 24366 data []]
 unfold objT
 simp only [headT,Int.toNat_natCast] at hc1 hc2 ⊢
 unfold tAV tCells
 simp only
 refine qAb hT Tryz.func133 rfl rfl rfl rfl ?_;intro E hE
 refine qAq ?_
 refine qAq ?_
 refine qAm (qAj ?_)
 refine qAe (qBb (i0:=0) rfl rfl rfl) rfl ?_
 refine qAe (qDn (i0:=1) hT rfl rfl rfl) rfl ?_
 refine ww ?_
 refine wwc h1 ?_
 refine ww ?_
 refine wwc h2 ?_
 refine ww ?_
 refine wwc hf1 ?_
 refine ww ?_
 refine wwc h3 ?_
 refine ww ?_
 refine wwc hf2 ?_
 refine ww ?_
 refine wwc h4 ?_
 refine ww ?_
 refine wwc h5 ?_
 refine ww ?_
 refine wwc h6 ?_
 refine wwn ?_
 refine qAz (fun i=>bif Nat.beq i 3 then [0] else bif Nat.beq i 7 then [1] else []) (fun i=>bif Nat.beq i 7 then [1] else []) mixed (by kernel_rfl) ?_
 refine wwg ?_
 refine wwdc hc1 ?_
 refine wwg ?_
 refine wwdc h7 ?_
 refine wwg ?_
 refine qBd (os:=[]) (fun k hk1 hk2=>qDm hT rfl rfl) rfl ?_
 refine wwg ?_
 refine wwdc hc2 ?_
 refine wwg ?_
 refine ww ?_
 exact wwr
theorem encTR_spec (l:List Tpl) (hl:l.length≤1000000):Spec Tryz.prog 71 [.d (.sl 7 (encTs l))] [] (fun r h'=>r=.tup [.d (.sl 3 (encNs (encTR l).1)),.d (.int .i64 (encTR l).2)]∧h'=[]):=by
 have hll:=qCg l
 have hp:=PrimW_spec 2 (l.length:Int)
 unfold encTR
 refine qAb hT Tryz.func71 rfl rfl rfl rfl ?_;intro E hE
 refine ww ?_
 refine qAa rfl (fun c1=>?_) (fun c1=>?_)
 ·have c1':l.length < 1∨l.length > 8:=by simp only [Bool.or_eq_true,decide_eq_true_eq] at c1;omega
  rw [if_pos c1']
  refine ww ?_
  exact wwr
 have c1':¬ (l.length < 1∨l.length > 8):=by simp only [Bool.or_eq_false_iff,decide_eq_false_iff_not] at c1;omega
 rw [if_neg c1']
 rw [← hll] at hp
 refine wwe ?_
 refine qAm (qAj ?_)
 refine wws ?_
 refine wwc hp ?_
 refine wws ?_
 refine qAq ?_
 refine qAt 4 3 0 (es:=encNs [.mk 2 [bOf (l.length:Int)] []]) (.inl (by rw [hll];rfl)) rfl ?_
 generalize hfin:firstT l=e
 refine ww ?_
 refine qAn (ι:=Nat) (fun i=>[(0,.d (.sl 7 (encTs l))),(4,.sl 3 (encNs (.mk 2 [bOf (l.length:Int)] []::(l.take i).map objT)) (.right 0)),(5,.d (.int .i64 (i:Int)))]) (fun i=>[.right 3 (encNs (.mk 2 [bOf (l.length:Int)] []::(l.take i).map objT)).length])
  (fun i=>i≤l.length∧firstT (l.drop i)=e) (fun i=>l.length-i) 0 ⟨by omega,by simpa using hfin⟩ ⟨.refl _,.refl _,.refl _,trivial⟩ (HLe.refl _) ?_
 rintro i ⟨hi,hg⟩
 have hwr:IntKind.i64.wrap ((i:Int)+1)=((i+1:Nat):Int):=by rw [qAd (by omega)];simp
 have hkl:(encNs (.mk 2 [bOf (l.length:Int)] []::(l.take i).map objT)).length≤9:=by rw [qAh];simp;omega
 refine ww ?_
 refine qAa rfl (fun c2=>?_) (fun c2=>?_)
 ·have c2':i < l.length:=by rw [hll] at c2;simpa using c2
  have hel:=encTs_at c2'
  have hdr:l.drop i=l[i]::l.drop (i+1):=List.drop_eq_getElem_cons c2'
  have htk:encNs (.mk 2 [bOf (l.length:Int)] []::(l.take (i+1)).map objT)=encNs (.mk 2 [bOf (l.length:Int)] []::(l.take i).map objT)++[encN (objT l[i])]:=by
   rw [List.take_succ_eq_append_getElem c2',List.map_append]
   show encNs ((.mk 2 [bOf (l.length:Int)] []::(l.take i).map objT)++[objT l[i]])=_
   rw [qCz];rfl
  rw [hdr,firstT] at hg
  have hv:=ValidT_spec l[i]
  have ho:=objT_spec l[i]
  generalize l[i]=t at hel hv ho hg htk
  generalize encNs (.mk 2 [bOf (l.length:Int)] []::(l.take i).map objT)=ks at hkl htk
  unfold tAV tCells at hv ho
  refine ww ?_
  refine wwi hel ?_
  refine ww ?_
  refine wwc hv ?_
  refine ww ?_
  refine qAa rfl (fun c3=>?_) (fun c3=>?_)
  ·have c3':validT t≠0:=by simpa using c3
   rw [if_pos c3'] at hg
   rw [if_pos (by rw [← hg];exact c3')]
   subst hg
   refine ww ?_
   exact wwr
  ·have c3':validT t=0:=by simpa using c3
   rw [if_neg (by simp [c3'])] at hg
   have ho:=ho c3'
   have ho':Spec Tryz.prog 133 [.agg [.d (.int .i64 t.kind),.d (.int .i64 t.part),.d (.int .i64 t.frm),.d (.int .i64 t.til),.d (.int .i64 t.fmt),.d (.int .i64 t.qual),.d (.sl 1 (encB t.data))]] [] (fun r h'=>r=.agg ((encN (objT t)).map .d)∧h'=[]):=ho
   generalize hnode:encN (objT t)=nd at ho' htk
   unfold objT at hnode
   rw [show encN (.mk 32608 [] [.mk 161 [] (headT t),.mk 24366 t.data []])=[.int .i64 32608,.sl 1 [],.sl 3 (encNs [.mk 161 [] (headT t),.mk 24366 t.data []])] from rfl] at hnode
   subst hnode
   refine ww ?_
   refine wwi hel ?_
   refine ww ?_
   refine wwc ho' ?_
   refine ww ?_
   refine qAe (qAk (i:=0) hT rfl rfl rfl rfl rfl rfl (by show (ks.length+1)*(56+1)≤_;first | omega | (simp only [qAg,qAh,List.length_append,List.length_cons,List.length_nil];omega))) rfl ?_
   refine ww ?_
   exact ⟨i+1,⟨by omega,hg⟩,by omega,⟨.refl _,AV.le.eq (by rw [htk];rfl),.int hwr,trivial⟩,⟨⟨rfl,by rw [htk]⟩,trivial⟩⟩
 ·have c2':i=l.length:=by rw [hll] at c2;simp at c2;omega
  subst c2'
  rw [List.drop_length,firstT] at hg
  subst hg
  rw [if_neg (by simp)]
  have hcs:=ConsK_spec 32609 (kidsT l)
  rw [List.take_length]
  unfold kidsT at hcs ⊢
  refine wwe ?_
  refine AW_subL (l:=[(4,.d (.sl 3 (encNs (.mk 2 [bOf (l.length:Int)] []::l.map objT))))]) (h':=[.right 3 (encNs (.mk 2 [bOf (l.length:Int)] []::l.map objT)).length]) ⟨AV.le.dat,trivial⟩ (HLe.refl _) ?_
  refine ww ?_
  refine wwc hcs ?_
  refine ww ?_
  exact wwr
end Tdoc
/- The reference reads templates. -/
set_option maxHeartbeats 8000000
set_option maxRecDepth 100000
set_option linter.unusedVariables false
set_option linter.unusedSimpArgs false
namespace Tdoc
open Go Go.Proofs
theorem decTs_many {l:List Node} (h:l.length≠1):decTs l=([],1):=by
 match l,h with
 | [],_=>rfl
 | [a],h=>exact absurd rfl h
 | a::b::r,_=>rfl
theorem qCe (t:Int) (v:List UInt8) (k:List Node):nAV (.mk t v k)=.agg [.d (.int .i64 t),.d (.sl 1 (encB v)),.d (.sl 3 (encNs k))]:=rfl
def decR (ks:List Node):List Tpl×Int:=match decL ks with
 | none=>([],1)
 | some out=>if (encTR out).2≠0 then ([],(encTR out).2) else (out,0)
theorem decTs_cons {x:Node} (h:consF x 32609 (-1)=false):decTs [x]=([],1):=by unfold decTs;simp only;rw [if_neg (by rw [h];simp)]
theorem decTs_nil {x:Node} (h:kidN x=[]):decTs [x]=([],1):=by unfold decTs;simp only;split;rw [h];rfl
theorem decTs_prim {x y:Node} {ks:List Node} (h:kidN x=y::ks) (h2:primF y 2 1=false):decTs [x]=([],1):=by
 unfold decTs;simp only;split
 ·rw [h];simp only;rw [if_neg (by rw [h2];simp)]
 ·rfl
theorem decTs_go {x y:Node} {ks:List Node} (h0:consF x 32609 (-1)=true) (h:kidN x=y::ks) (n:Int) (hn:((nbN (valN y):Nat):Int)=n) (h2:primF y 2 1=true):decTs [x]=if n=(ks.length:Int) then decR ks else ([],1):=by
 subst hn
 unfold decTs;simp only;rw [if_pos h0,h];simp only
 by_cases h3:((nbN (valN y):Nat):Int)=(ks.length:Int)
 ·rw [if_pos ⟨h2,h3⟩,if_pos h3];rfl
 ·rw [if_neg (fun hh=>h3 hh.2),if_neg h3]
def finT (out:List Tpl):List Tpl×Int:=if (encTR out).2≠0 then ([],(encTR out).2) else (out,0)
def contT (out:List Tpl) (rest:List Node):List Tpl×Int:=match decL rest with
 | none=>([],1)
 | some r=>finT (out++r)
theorem decR_eq (ks:List Node):decR ks=contT [] ks:=by unfold decR contT finT;cases decL ks <;> rfl
theorem contT_nil (out:List Tpl):contT out []=finT out:=by unfold contT decL;simp
theorem contT_none {out:List Tpl} {x:Node} {r:List Node} (h:decT x=none):contT out (x::r)=([],1):=by unfold contT decL;rw [h]
theorem contT_some {out:List Tpl} {x:Node} {r:List Node} {t:Tpl} (h:decT x=some t):contT out (x::r)=contT (out++[t]) r:=by
 unfold contT;rw [decL,h]
 simp only
 cases decL r <;> simp
theorem decT_n1 {x:Node} (h:consF x 32608 2=false):decT x=none:=by unfold decT;rw [if_neg (by rw [h];simp)]
theorem decT_n2 {x h d:Node} (hk:kidN x=[h,d]) (h2:consF h 161 6=false):decT x=none:=by
 unfold decT
 split
 ·rw [hk];simp only;rw [if_neg (by rw [h2];simp)]
 ·rfl
theorem decT_n3 {x h d:Node} (hk:kidN x=[h,d]) (h2:primF d 24366 (-1)=false):decT x=none:=by
 unfold decT
 split
 ·rw [hk];simp only;rw [if_neg (by rw [h2];simp)]
 ·rfl
theorem decT_n4 {x h d:Node} (hk:kidN x=[h,d]) (h2:hdrF fldT (kidN h)=none):decT x=none:=by
 unfold decT;rw [hk];simp only;rw [h2];simp
theorem decT_ok {x h d:Node} (h1:consF x 32608 2=true) (hk:kidN x=[h,d]) (h2:consF h 161 6=true) (h3:primF d 24366 (-1)=true) (a b c e q f:Int) (h4:hdrF fldT (kidN h)=some [a,b,c,e,q,f]) :
  decT x=some ⟨a,b,c,e,f,q,valN d⟩:=by
 unfold decT;rw [if_pos h1,hk];simp only;rw [if_pos ⟨h2,h3⟩,h4]
theorem hdrF_step {fs:List (Int×Int)} {hs:List Node} {k:Nat} {f:Int×Int} {y:Node} (hf:fs.drop k=f::fs.drop (k+1)) (hh:hs.drop k=y::hs.drop (k+1)) (h:primF y f.1 f.2=true) :
  hdrF (fs.drop k) (hs.drop k)=(hdrF (fs.drop (k+1)) (hs.drop (k+1))).map (((nbN (valN y):Nat):Int)::·):=by rw [hf,hh,hdrF,if_pos h]
theorem hdrF_bad {fs:List (Int×Int)} {hs:List Node} {k:Nat} {f:Int×Int} {y:Node} (hf:fs.drop k=f::fs.drop (k+1)) (hh:hs.drop k=y::hs.drop (k+1)) (h:primF y f.1 f.2=false) :
  hdrF (fs.drop k) (hs.drop k)=none:=by rw [hf,hh,hdrF,if_neg (by rw [h];simp)]
theorem wgt_mem {x:Node}:∀ {l:List Node},x∈l→wgtN x≤wgtL l
 | a::l,h=>by
  rw [wgtL]
  rcases List.mem_cons.1 h with rfl | h
  ·omega
  ·have:=wgt_mem h;omega
def accC (acc:List Int):List AV:=(acc.map fun z=>AV.d (.int .i64 z))++List.replicate (6-acc.length) (.d (.int .i64 0))
theorem accC_low (n:Nat) (acc:List Int):lowL n (accC acc)=true:=by
 have:accC acc=((acc.map fun z=>Dat.int .i64 z)++List.replicate (6-acc.length) (Dat.int .i64 0)).map AV.d:=by simp [accC,Function.comp_def]
 rw [this];exact lowL_d _
theorem accC_length {acc:List Int} (h:acc.length≤6):(accC acc).length=6:=by simp [accC];omega
theorem accC_set {acc:List Int} (h:acc.length < 6) (z:Int):(accC acc).set acc.length (.d (.int .i64 z))=accC (acc++[z]):=by
 unfold accC
 rw [List.set_append,if_neg (by simp),List.length_append,List.length_singleton,List.map_append,show 6-acc.length=(6-(acc.length+1))+1 by omega,List.replicate_succ]
 simp
theorem fldT_at:∀ {k:Nat},k < 6→∃ f:Int×Int,fldT.drop k=f::fldT.drop (k+1)∧([.d (.int .i64 129),.d (.int .i64 130),.d (.int .i64 131),.d (.int .i64 132),.d (.int .i64 133),.d (.int .i64 136)]:List AV)[((k:Int)).toNat]?=some (.d (.int .i64 f.1)) ∧
  ([.d (.int .i64 1),.d (.int .i64 1),.d (.int .i64 4),.d (.int .i64 4),.d (.int .i64 1),.d (.int .i64 2)]:List AV)[((k:Int)).toNat]?=some (.d (.int .i64 f.2))∧0≤f.2∧f.2≤4
 | 0,_=>⟨_,rfl,rfl,rfl,by decide,by decide⟩
 | 1,_=>⟨_,rfl,rfl,rfl,by decide,by decide⟩
 | 2,_=>⟨_,rfl,rfl,rfl,by decide,by decide⟩
 | 3,_=>⟨_,rfl,rfl,rfl,by decide,by decide⟩
 | 4,_=>⟨_,rfl,rfl,rfl,by decide,by decide⟩
 | 5,_=>⟨_,rfl,rfl,rfl,by decide,by decide⟩
 | n+6,h=>by omega
theorem DecodeT_spec (l:List Node) (hk:wgtL l≤1000000):Spec Tryz.prog 145 [.d (.sl 3 (encNs l))] []
  (fun r h'=>r=.tup [.d (.sl 7 (encTs (decTs l).1)),.d (.int .i64 (decTs l).2)]∧h'=[]):=by
 have hlen:=qAh l
 by_cases h1:l.length=1
 case neg =>
  rw [decTs_many h1]
  have hn:(((encNs l).length:Int) != 1)=true:=by rw [hlen];simp;omega
  refine qAb hT Tryz.func145 rfl rfl rfl rfl ?_;intro E hE
  refine wwk hn ?_
  refine qAa rfl (fun c1=>?_) (fun c1=>?_)
  ·refine ww ?_
   exact qAf (r:=.tup [.d (.sl 7 (encTs [])),.d (.int .i64 1)]) rfl (AV.le.tup ⟨AV.le.nils,.refl _,trivial⟩) rfl rfl rfl rfl ⟨rfl,rfl⟩
  ·rw [hn] at c1
   exact absurd c1 (by simp)
 match l,h1 with
 | [.mk t v k],_ =>
 have hC:=ConsF_spec (.mk t v k) 32609 (-1)
 rw [qCe] at hC
 have hel:(encNs [.mk t v k])[((0:Int)).toNat]?=some [.int .i64 t,.sl 1 (encB v),.sl 3 (encNs k)]:=rfl
 have hkk:k.length≤1000000:=by
  have h2:=qDe k
  simp only [wgtL,wgtN] at hk
  omega
 have hkw:wgtL k≤1000000:=by simp only [wgtL,wgtN] at hk;omega
 clear hk
 have hkl:=qAh k
 have d0:=decTs_cons (x:=.mk t v k)
 have d1:=decTs_nil (x:=.mk t v k)
 have d2:=fun y ks=>decTs_prim (x:=.mk t v k) (y:=y) (ks:=ks)
 have d3:=fun y ks=>decTs_go (x:=.mk t v k) (y:=y) (ks:=ks)
 generalize decTs [.mk t v k]=res at d0 d1 d2 d3 ⊢
 generalize consF (.mk t v k) 32609 (-1)=cv at hC d0 d3
 by_cases hcv:cv=true
 case neg =>
  have hn:cv=false:=by simpa using hcv
  rw [d0 hn]
  refine qAb hT Tryz.func145 rfl rfl rfl rfl ?_;intro E hE
  refine ww ?_
  refine wwgi hel ?_
  refine ww ?_
  refine wwgc hC ?_
  refine wwk hn ?_
  refine qAa rfl (fun c1=>?_) (fun c1=>?_)
  ·refine ww ?_
   exact qAf (r:=.tup [.d (.sl 7 (encTs [])),.d (.int .i64 1)]) rfl (AV.le.tup ⟨AV.le.nils,.refl _,trivial⟩) rfl rfl rfl rfl ⟨rfl,rfl⟩
  ·exact absurd c1 (by rw [hn];simp)
 subst hcv
 match k,hkl,hkk,hkw,hel,hC,d1,d2,d3 with
 | [],hkl,hkk,_,hel,hC,d1,_,_ =>
  rw [d1 rfl]
  have hkl:(decide (((encNs []).length:Int) < 1))=true:=rfl
  refine qAb hT Tryz.func145 rfl rfl rfl rfl ?_;intro E hE
  refine ww ?_
  refine wwgi hel ?_
  refine ww ?_
  refine wwgc hC ?_
  refine ww ?_
  refine wwgi hel ?_
  refine wwk hkl ?_
  refine qAa rfl (fun c1=>?_) (fun c1=>?_)
  ·refine ww ?_
   exact qAf (r:=.tup [.d (.sl 7 (encTs [])),.d (.int .i64 1)]) rfl (AV.le.tup ⟨AV.le.nils,.refl _,trivial⟩) rfl rfl rfl rfl ⟨rfl,rfl⟩
  ·exact absurd c1 (by rw [hkl];simp)
 | .mk ty vy ky::ks,hkl,hkk,hkw,hel,hC,_,d2,d3 =>
 have hkw:wgtL ks≤1000000:=by rw [wgtL] at hkw;omega
 have d2:=d2 _ _ rfl
 have d3:=d3 _ _ rfl rfl
 have hP:=qBo (.mk ty vy ky) 2 1
 rw [qCe] at hP
 have hpi:=primF_iff (x:=.mk ty vy ky) (t:=2) (n:=1)
 have hel2:(encNs (.mk ty vy ky::ks))[((0:Int)).toNat]?=some [.int .i64 ty,.sl 1 (encB vy),.sl 3 (encNs ky)]:=rfl
 simp only [valN] at hpi
 generalize primF (.mk ty vy ky) 2 1=pv at hP hpi d2 d3
 by_cases hpv:pv=true
 case neg =>
  have hn:pv=false:=by simpa using hpv
  rw [d2 hn]
  refine qAb hT Tryz.func145 rfl rfl rfl rfl ?_;intro E hE
  refine ww ?_
  refine wwgi hel ?_
  refine ww ?_
  refine wwgc hC ?_
  refine ww ?_
  refine wwgi hel ?_
  refine ww ?_
  refine wwgi hel ?_
  refine ww ?_
  refine wwgi hel2 ?_
  refine ww ?_
  refine wwgc hP ?_
  refine wwk hn ?_
  refine qAa rfl (fun c1=>?_) (fun c1=>?_)
  ·refine ww ?_
   exact qAf (r:=.tup [.d (.sl 7 (encTs [])),.d (.int .i64 1)]) rfl (AV.le.tup ⟨AV.le.nils,.refl _,trivial⟩) rfl rfl rfl rfl ⟨rfl,rfl⟩
  ·exact absurd c1 (by rw [hn];simp)
 subst hpv
 have hvl:vy.length=1:=by rcases (hpi.1 rfl).2.2 with h | h <;> omega
 match vy,hvl,d3,hP,hel2,hel,hkl with
 | [c],_,d3,hP,hel2,hel,hkl =>
 rw [d3 (c.toNat:Int) (by simp [nbN,valN]) rfl]
 clear d0 d2 d3
 have hcu:=UInt8.toNat_lt c
 have hel3:(encB [c])[((0:Int)).toNat]?=some [.int .u8 (c.toNat:Int)]:=rfl
 have hksl:(encNs (.mk ty [c] ky::ks)).length=ks.length+1:=by rw [hkl];rfl
 rw [List.length_cons] at hkk
 have he1:(encNs [.mk t v (.mk ty [c] ky::ks)]).length=1:=rfl
 have hwc:IntKind.i64.wrap (c.toNat:Int)=(c.toNat:Int):=qAd (by omega)
 have hwk:IntKind.i64.wrap (((encNs (.mk ty [c] ky::ks)).length:Int)-1)=(ks.length:Int):=by rw [hksl,qAd (by omega)];omega
 refine qAb hT Tryz.func145 rfl rfl rfl rfl ?_;intro E hE
 refine ww ?_
 refine wwgi hel ?_
 refine ww ?_
 refine wwgc hC ?_
 refine ww ?_
 refine wwgi hel ?_
 refine ww ?_
 refine wwgi hel ?_
 refine ww ?_
 refine wwgi hel2 ?_
 refine ww ?_
 refine wwgc hP ?_
 refine ww ?_
 refine wwgi hel ?_
 refine ww ?_
 refine wwgi hel2 ?_
 refine ww ?_
 refine wwgi hel3 ?_
 refine ww ?_
 refine wwgi hel ?_
 refine ww ?_
 refine qAa rfl (fun c1=>?_) (fun c1=>?_)
 ·have c1':¬ (c.toNat:Int)=(ks.length:Int):=by
   rw [hwc,hwk,hksl,he1] at c1
   simp only [Bool.or_eq_true,bne_iff_ne,decide_eq_true_eq,ne_eq] at c1
   rcases c1 with (((c1 | c1) | c1) | c1) | c1
   ·exact absurd rfl c1
   ·simp at c1
   ·omega
   ·simp at c1
   ·exact c1
  rw [if_neg c1']
  refine ww ?_
  exact qAf (r:=.tup [.d (.sl 7 (encTs [])),.d (.int .i64 1)]) rfl (AV.le.tup ⟨AV.le.nils,.refl _,trivial⟩) rfl rfl rfl rfl ⟨rfl,rfl⟩
 have c1':(c.toNat:Int)=(ks.length:Int):=by
  rw [hwc,hwk] at c1
  simp only [Bool.or_eq_false_iff,bne_eq_false_iff_eq] at c1
  exact c1.2
 rw [if_pos c1',decR_eq]
 generalize hfin:contT [] ks=fin
 refine qAq ?_
 refine wwe ?_
 refine qAm (qAj ?_)
 refine wws ?_
 refine qAt 4 7 0 (es:=[]) (.inr ⟨rfl,rfl⟩) rfl ?_
 refine ww ?_
 refine qBg (ι:=Nat×List Tpl) (fun x=>[(0,.d (.sl 3 (encNs [.mk t v (.mk ty [c] ky::ks)]))),(4,.sl 7 (encTs x.2) (.right 0)),(5,.d (.int .i64 (((x.1+1:Nat)):Int)))]) (fun x=>[.right 7 (encTs x.2).length])
  (fun x=>x.1≤ks.length∧x.2.length=x.1∧contT x.2 (ks.drop x.1)=fin) (fun x=>ks.length-x.1) (0,[]) ⟨by simp,rfl,by simpa using hfin⟩ ⟨.refl _,.refl _,.refl _,trivial⟩ (HLe.refl _) ?_
 rintro ⟨i,out⟩ ⟨hi,ho,hg⟩
 simp only at hi ho hg ⊢
 have hol:=qCg out
 have hwr:IntKind.i64.wrap (((i+1:Nat):Int)+1)=((i+1+1:Nat):Int):=by rw [qAd (by omega)];omega
 refine ww ?_
 refine wwi hel ?_
 refine ww ?_
 refine qAa rfl (fun c2=>?_) (fun c2=>?_)
 ·have c2':i < ks.length:=by rw [hksl] at c2;simp at c2;omega
  have helx:(encNs (.mk ty [c] ky::ks))[(((i+1:Nat):Int)).toNat]?=some (encN ks[i]):=by
   rw [Int.toNat_natCast]
   simp [qBv,c2']
  have hdr:ks.drop i=ks[i]::ks.drop (i+1):=List.drop_eq_getElem_cons c2'
  rw [hdr] at hg
  have hwx:=wgt_mem (List.getElem_mem c2')
  generalize ks[i]=x at helx hg hwx
  obtain ⟨tx,vx,kx⟩:=x
  have hCx:=ConsF_spec (.mk tx vx kx) 32608 2
  rw [qCe] at hCx
  rw [encN] at helx
  have n1:=decT_n1 (x:=.mk tx vx kx)
  by_cases hx:consF (.mk tx vx kx) 32608 2=true
  case neg =>
   have hn:consF (.mk tx vx kx) 32608 2=false:=by simpa using hx
   rw [contT_none (n1 hn)] at hg
   subst hg
   generalize consF (.mk tx vx kx) 32608 2=cx at hCx hn
   refine ww ?_
   refine wwi hel ?_
   refine ww ?_
   refine wwi helx ?_
   refine ww ?_
   refine wwc hCx ?_
   refine wwk hn ?_
   refine qAa rfl (fun c3=>?_) (fun c3=>?_)
   ·refine ww ?_
    exact qAf (r:=.tup [.d (.sl 7 (encTs [])),.d (.int .i64 1)]) rfl (AV.le.tup ⟨AV.le.nils,.refl _,trivial⟩) rfl rfl rfl rfl ⟨rfl,rfl⟩
   ·exact absurd c3 (by rw [hn];simp)
  rw [hx] at hCx
  have hkx:kx.length=2:=by have:=(consF_iff.1 hx).2.2;simp only [kidN] at this;omega
  match kx,hkx with
  | [.mk th vh kh,.mk td vd kd],_ =>
  have hvd:vd.length≤1000000:=by simp only [wgtL,wgtN] at hwx;omega
  have n2:=decT_n2 (x:=.mk tx vx [.mk th vh kh,.mk td vd kd]) rfl
  have n3:=decT_n3 (x:=.mk tx vx [.mk th vh kh,.mk td vd kd]) rfl
  have n4:=decT_n4 (x:=.mk tx vx [.mk th vh kh,.mk td vd kd]) rfl
  have n5:=fun h2 h3 a b c e q f=>decT_ok (x:=.mk tx vx [.mk th vh kh,.mk td vd kd]) hx rfl h2 h3 a b c e q f
  have hCh:=ConsF_spec (.mk th vh kh) 161 6
  have hPd:=qBo (.mk td vd kd) 24366 (-1)
  rw [qCe] at hCh hPd
  have helh:(encNs [.mk th vh kh,.mk td vd kd])[((0:Int)).toNat]?=some [.int .i64 th,.sl 1 (encB vh),.sl 3 (encNs kh)]:=rfl
  have held:(encNs [.mk th vh kh,.mk td vd kd])[((1:Int)).toNat]?=some [.int .i64 td,.sl 1 (encB vd),.sl 3 (encNs kd)]:=rfl
  have hch6:=consF_iff (x:=.mk th vh kh) (t:=161) (n:=6)
  generalize consF (.mk th vh kh) 161 6=ch at hCh n2 n5 hch6
  generalize primF (.mk td vd kd) 24366 (-1)=pd at hPd n3 n5
  by_cases hh:ch=true
  case neg =>
   have hn:ch=false:=by simpa using hh
   rw [contT_none (n2 hn)] at hg
   subst hg
   refine ww ?_
   refine wwi hel ?_
   refine ww ?_
   refine wwi helx ?_
   refine ww ?_
   refine wwc hCx ?_
   refine ww ?_
   refine wwgi helh ?_
   refine ww ?_
   refine wwgc hCh ?_
   refine wwk hn ?_
   refine qAa rfl (fun c3=>?_) (fun c3=>?_)
   ·refine ww ?_
    exact qAf (r:=.tup [.d (.sl 7 (encTs [])),.d (.int .i64 1)]) rfl (AV.le.tup ⟨AV.le.nils,.refl _,trivial⟩) rfl rfl rfl rfl ⟨rfl,rfl⟩
   ·exact absurd c3 (by rw [hn];simp)
  subst hh
  have hkh:kh.length=6:=by have:=(hch6.1 rfl).2.2;simp only [kidN] at this;omega
  by_cases hd:pd=true
  case neg =>
   have hn:pd=false:=by simpa using hd
   rw [contT_none (n3 hn)] at hg
   subst hg
   refine ww ?_
   refine wwi hel ?_
   refine ww ?_
   refine wwi helx ?_
   refine ww ?_
   refine wwc hCx ?_
   refine ww ?_
   refine wwgi helh ?_
   refine ww ?_
   refine wwgc hCh ?_
   refine ww ?_
   refine wwgi held ?_
   refine ww ?_
   refine wwgc hPd ?_
   refine ww ?_
   refine qAa rfl (fun c3=>?_) (fun c3=>?_)
   ·refine ww ?_
    exact qAf (r:=.tup [.d (.sl 7 (encTs [])),.d (.int .i64 1)]) rfl (AV.le.tup ⟨AV.le.nils,.refl _,trivial⟩) rfl rfl rfl rfl ⟨rfl,rfl⟩
   ·exact absurd c3 (by rw [hn];simp)
  subst hd
  have n5:=n5 rfl rfl
  simp only [kidN,valN] at n4 n5
  refine ww ?_
  refine wwi hel ?_
  refine ww ?_
  refine wwi helx ?_
  refine ww ?_
  refine wwc hCx ?_
  refine ww ?_
  refine wwgi helh ?_
  refine ww ?_
  refine wwgc hCh ?_
  refine ww ?_
  refine wwgi held ?_
  refine ww ?_
  refine wwgc hPd ?_
  refine ww ?_
  refine qAa rfl (fun c3=>?_) (fun c3=>?_)
  ·exact absurd c3 (by simp)
  refine ww ?_
  refine qBg (ι:=List Int) (fun acc=>[(0,.d (.sl 3 (encNs [.mk t v (.mk ty [c] ky::ks)]))),(4,.sl 7 (encTs out) (.right 0)),(5,.d (.int .i64 (((i+1:Nat)):Int))),(6,.ptr 1 0),(7,.ptr 2 0),(8,.d (.int .i64 (acc.length:Int)))])
   (fun acc=>[.right 7 (encTs out).length,.row [.d (.int .i64 tx),.d (.sl 1 (encB vx)),.d (.sl 3 (encNs [.mk th vh kh,.mk td vd kd]))],.row (accC acc)]) (fun acc=>acc.length≤6∧hdrF fldT kh=(hdrF (fldT.drop acc.length) (kh.drop acc.length)).map (acc++·)) (fun acc=>6-acc.length) [] ⟨by simp,by simp⟩ ⟨.refl _,.refl _,.refl _,.refl _,.refl _,.refl _,trivial⟩ (HLe.refl _) ?_
  rintro acc ⟨ha,hah⟩
  have hwa:IntKind.i64.wrap ((acc.length:Int)+1)=((acc.length+1:Nat):Int):=by rw [qAd (by omega)];omega
  have hacl:=accC_length ha
  refine ww ?_
  refine qAa rfl (fun c4=>?_) (fun c4=>?_)
  ·have c4':acc.length < 6:=by simp at c4;omega
   obtain ⟨⟨ft,fs⟩,hf,ha1,ha2,hf0,hf4⟩:=fldT_at c4'
   simp only at ha1 ha2 hf0 hf4
   have hky:kh.drop acc.length=kh[acc.length]'(by omega)::kh.drop (acc.length+1):=List.drop_eq_getElem_cons (by omega)
   have helk:(encNs kh)[((acc.length:Int)).toNat]?=some (encN (kh[acc.length]'(by omega))):=by rw [Int.toNat_natCast];simp [qBv,show acc.length < kh.length by omega]
   generalize kh[acc.length]'(by omega)=y at hky helk
   obtain ⟨t1,v1,k1⟩:=y
   rw [encN] at helk
   have hPy:=qBo (.mk t1 v1 k1) ft fs
   rw [qCe] at hPy
   have s1:=hdrF_step hf hky
   have s2:=hdrF_bad hf hky
   have s3:=primF_iff (x:=.mk t1 v1 k1) (t:=ft) (n:=fs)
   simp only [valN] at s1 s2 s3
   generalize primF (.mk t1 v1 k1) ft fs=pv at hPy s1 s2 s3
   have hset:=accC_set c4'
   generalize hrow:accC acc=row at hset hacl
   refine ww ?_
   refine wwi helh ?_
   refine ww ?_
   refine wwi helk ?_
   refine ww ?_
   refine qAs (qAc (arrIdx_ok hT rfl rfl rfl rfl (by show 0≤(acc.length:Int)∧(acc.length:Int) < 6;omega) ha1)) rfl rfl ?_
   refine ww ?_
   refine qAs (qAc (arrIdx_ok hT rfl rfl rfl rfl (by show 0≤(acc.length:Int)∧(acc.length:Int) < 6;omega) ha2)) rfl rfl ?_
   refine ww ?_
   refine wwc hPy ?_
   refine ww ?_
   refine qAa rfl (fun c5=>?_) (fun c5=>?_)
   ·have hn:pv=false:=by simpa using c5
    rw [s2 hn] at hah
    rw [contT_none (n4 hah)] at hg
    subst hg
    refine ww ?_
    exact qAf (r:=.tup [.d (.sl 7 (encTs [])),.d (.int .i64 1)]) rfl (AV.le.tup ⟨AV.le.nils,.refl _,trivial⟩) rfl rfl rfl rfl ⟨rfl,rfl⟩
   ·have hp:pv=true:=by simpa using c5
    have hl1:v1.length≤7:=by rcases (s3.1 hp).2.2 with h | h <;> omega
    rw [s1 hp] at hah
    have hNu:=NumberR_spec v1 hl1
    refine ww ?_
    refine wwc hNu ?_
    refine ww ?_
    refine qAe (qAc (qAl hT rfl rfl rfl rfl (by show 0≤(acc.length:Int)∧(acc.length:Int) < 6;omega))) rfl ?_
    refine AWk_op0 (store1_ok hT rfl rfl rfl rfl rfl rfl (by rw [hacl];simp;omega)) rfl ?_
    refine ww ?_
    have hrow2:row.set (0+((acc.length:Int)).toNat*1) (.d (.int .i64 ((nbN v1:Nat):Int)))=accC (acc++[((nbN v1:Nat):Int)]):=by rw [Int.toNat_natCast,Nat.mul_one,Nat.zero_add];exact hset _
    refine ⟨acc++[((nbN v1:Nat):Int)],[.row [.d (.int .i64 t1),.d (.sl 1 (encB v1)),.d (.sl 3 (encNs k1))]],⟨by rw [List.length_append,List.length_singleton];omega,?_⟩,by rw [List.length_append,List.length_singleton];omega,⟨.refl _,.refl _,.refl _,.refl _,.refl _,.int (by rw [List.length_append,List.length_singleton];exact hwa),trivial⟩,⟨ObLe.refl _,ObLe.refl _,ObLe.row hrow2,ObLe.refl _,trivial⟩,Env.below_mono hE (by simp),rfl,?_⟩
    ·rw [hah,Option.map_map,List.length_append,List.length_singleton]
     congr 1
     funext z
     simp
    ·show (true&&(lowL _ (accC _)&&true))=true
     rw [accC_low];rfl
  ·have c4':acc.length=6:=by simp at c4;omega
   have hfin6:hdrF fldT kh=some acc:=by
    rw [hah,c4',List.drop_eq_nil_of_le (by omega:kh.length≤6)]
    show (some []:Option (List Int)).map (acc++·)=some acc
    simp
   match acc,c4' with
   | [a0,a1,a2,a3,a4,a5],_ =>
   rw [contT_some (n5 _ _ _ _ _ _ hfin6)] at hg
   have hrow6:accC [a0,a1,a2,a3,a4,a5]=[.d (.int .i64 a0),.d (.int .i64 a1),.d (.int .i64 a2),.d (.int .i64 a3),.d (.int .i64 a4),.d (.int .i64 a5)]:=rfl
   rw [hrow6]
   have hdl:=qAg vd
   have hres:encTs (out++[⟨a0,a1,a2,a3,a5,a4,vd⟩])=encTs out++[[.int .i64 a0,.int .i64 a1,.int .i64 a2,.int .i64 a3,.int .i64 a5,.int .i64 a4,.sl 1 (encB vd)]]:=by rw [encTs_append];rfl
   refine wwn ?_
   refine qAz (fun i=>bif Nat.beq i 2 then [2] else bif Nat.beq i 4 then [2] else bif Nat.beq i 6 then [2] else bif Nat.beq i 8 then [2] else bif Nat.beq i 10 then [2] else bif Nat.beq i 12 then [2] else bif Nat.beq i 14 then [1] else bif Nat.beq i 21 then [0] else []) (fun i=>bif Nat.beq i 21 then [0] else []) mixed (by kernel_rfl) ?_
   refine wwg ?_
   refine qBl (qAl hT rfl rfl rfl rfl (by decide)) rfl rfl ?_
   refine wwg ?_
   refine qBl (qAl hT rfl rfl rfl rfl (by decide)) rfl rfl ?_
   refine wwg ?_
   refine qBl (qAl hT rfl rfl rfl rfl (by decide)) rfl rfl ?_
   refine wwg ?_
   refine qBl (qAl hT rfl rfl rfl rfl (by decide)) rfl rfl ?_
   refine wwg ?_
   refine qBl (qAl hT rfl rfl rfl rfl (by decide)) rfl rfl ?_
   refine wwg ?_
   refine qBl (qAl hT rfl rfl rfl rfl (by decide)) rfl rfl ?_
   refine wwg ?_
   refine qBl (qAi hT rfl rfl rfl rfl (by omega) held) rfl rfl ?_
   refine wwg ?_
   refine qBd (os:=[]) (fun k hk1 hk2=>qBi (es:=[]) (es2:=encB vd) hT rfl rfl rfl (.inr ⟨rfl,rfl⟩) rfl (by show (([]:List (List Dat)).length+(encB vd).length)*(1+1)≤140737488355328;simp;omega)) rfl ?_
   refine wwg ?_
   refine qBd (os:=[]) (fun k hk1 hk2=>qDm hT rfl rfl) rfl ?_
   refine wwg ?_
   refine qBd (v:=.sl 7 (encTs out++[[Dat.int .i64 a0,Dat.int .i64 a1,Dat.int .i64 a2,Dat.int .i64 a3,Dat.int .i64 a5,Dat.int .i64 a4,Dat.sl 1 (encB vd)]]) (.right 0)) (os:=[.right 7 (encTs out++[[Dat.int .i64 a0,Dat.int .i64 a1,Dat.int .i64 a2,Dat.int .i64 a3,Dat.int .i64 a5,Dat.int .i64 a4,Dat.sl 1 (encB vd)]]).length]) (fun k hk1 hk2=>qAk (i:=0) (sz:=7) (by_:=72) (es2:=[[Dat.int .i64 a0,Dat.int .i64 a1,Dat.int .i64 a2,Dat.int .i64 a3,Dat.int .i64 a5,Dat.int .i64 a4,Dat.sl 1 (encB vd)]]) hT rfl rfl rfl rfl (hk2 0 List.mem_cons_self) rfl (by show ((encTs out).length+1)*(72+1)≤_;omega)) rfl ?_
   refine wwg ?_
   refine ww ?_
   refine ⟨(i+1,out++[⟨a0,a1,a2,a3,a5,a4,vd⟩]),[_,_],⟨c2',by rw [List.length_append,List.length_singleton,ho],hg⟩,by simp only;omega,⟨.refl _,AV.le.eq (by rw [hres];rfl),.int hwr,trivial⟩,⟨⟨rfl,by rw [hres]⟩,ObLe.refl _,ObLe.refl _,trivial⟩,Env.below_mono hE (by simp),rfl,rfl⟩
 ·have c2':i=ks.length:=by rw [hksl] at c2;simp at c2;omega
  subst c2'
  rw [List.drop_length,contT_nil] at hg
  have hEn:=encTR_spec out (by omega)
  unfold finT at hg
  generalize encTR out=w at hEn hg
  obtain ⟨w,we⟩:=w
  simp only at hEn hg
  refine wwe ?_
  refine AW_subL (l:=[(4,.d (.sl 7 (encTs out)))]) (h':=[.right 7 (encTs out).length]) ⟨AV.le.dat,trivial⟩ (HLe.refl _) ?_
  refine ww ?_
  refine wwc hEn ?_
  refine ww ?_
  refine qAa rfl (fun c3=>?_) (fun c3=>?_)
  ·have c3':we≠0:=by simpa using c3
   rw [if_pos c3'] at hg
   subst hg
   refine ww ?_
   exact qAf (r:=.tup [.d (.sl 7 (encTs [])),.d (.int .i64 we)]) rfl (AV.le.tup ⟨AV.le.nils,.refl _,trivial⟩) rfl rfl rfl rfl ⟨rfl,rfl⟩
  have c3':¬ we≠0:=by simpa using c3
  rw [if_neg c3'] at hg
  subst hg
  refine ww ?_
  exact wwr
end Tdoc
/- The reference's infos: Valid, identifier, object, Set. -/
set_option maxHeartbeats 8000000
set_option maxRecDepth 100000
set_option linter.unusedVariables false
set_option linter.unusedSimpArgs false
namespace Tdoc
open Go Go.Proofs
theorem idB_spec (p:Int):Spec Tryz.prog 211 [.d (.int .i64 p)] [] (fun r h'=>r=.d (.sl 1 (encB (idB p)))∧h'=[]):=by
 unfold idB
 refine qAb hT Tryz.func211 rfl rfl rfl rfl ?_;intro E hE
 refine ww ?_
 refine qAa rfl (fun c1=>?_) (fun c1=>?_)
 ·rw [if_pos (show p=2 by simpa using c1)]
  refine ww ?_
  refine qAe (qBi (es:=encB [4,0,127,0,7,2,2]) hT rfl rfl rfl (.inl rfl) rfl (by decide)) rfl ?_
  refine ww ?_
  exact wwr
 rw [if_neg (show ¬ p=2 by simpa using c1)]
 refine ww ?_
 refine qAa rfl (fun c2=>?_) (fun c2=>?_)
 ·rw [if_pos (show p=3 by simpa using c2)]
  refine ww ?_
  refine qAe (qBi (es:=encB [4,0,127,0,7,2,2]) hT rfl rfl rfl (.inl rfl) rfl (by decide)) rfl ?_
  refine ww ?_
  exact wwr
 rw [if_neg (show ¬ p=3 by simpa using c2)]
 refine ww ?_
 refine qAa rfl (fun c3=>?_) (fun c3=>?_)
 ·rw [if_pos (show p=4 by simpa using c3)]
  refine ww ?_
  refine qAe (qBi (es:=encB [4,0,127,0,7,2,2]) hT rfl rfl rfl (.inl rfl) rfl (by decide)) rfl ?_
  refine ww ?_
  exact wwr
 rw [if_neg (show ¬ p=4 by simpa using c3)]
 refine ww ?_
 refine qAa rfl (fun c4=>?_) (fun c4=>?_)
 ·rw [if_pos (show p=5 by simpa using c4)]
  refine ww ?_
  refine qAe (qBi (es:=encB [4,0,127,0,7,2,2]) hT rfl rfl rfl (.inl rfl) rfl (by decide)) rfl ?_
  refine ww ?_
  exact wwr
 rw [if_neg (show ¬ p=5 by simpa using c4)]
 refine ww ?_
 refine qAe (qBi (es:=encB [4,0,127,0,7,2,2]) hT rfl rfl rfl (.inl rfl) rfl (by decide)) rfl ?_
 refine ww ?_
 exact wwr
theorem idB_length (p:Int):(idB p).length=9:=by unfold idB;split <;> (try split) <;> (try split) <;> (try split) <;> rfl
def KeyOk (x:Inf):Prop:=x.proto=4→0≤x.key∧x.key < 4611686018427387904
theorem objI_spec (x:Inf) (hk:KeyOk x):Spec Tryz.prog 140 [.agg (fCells x)] [] (fun r h'=>r=nAV (objI x)∧h'=[]):=by
 obtain ⟨p,ver,par,key,kid⟩:=x
 unfold KeyOk at hk
 simp only at hk
 unfold objI fCells
 simp only
 have h1:=idB_spec p
 have hil:=idB_length p
 have h2:=qDo 6 (idB p) (by omega)
 have h3:=PrimW_spec 2 ver
 have h4:=PrimW_spec 2 par
 have h5:=PrimW_spec 2 kid
 generalize idB p=ib at h1 h2
 generalize hx:(if p=2∨p=3 then [Node.mk 2 [bOf par] []] else if p=4 then [.mk 4 (octB 4 key.toNat) [],.mk 2 [bOf kid] []] else [])=ex
 have hc:=ConsK_spec 48 ([.mk 6 ib [],.mk 2 [bOf ver] []]++ex)
 refine qAb hT Tryz.func140 rfl rfl rfl rfl ?_;intro E hE
 refine qAq ?_
 refine qAq ?_
 refine qAm (qAj ?_)
 refine qAe (qBb (i0:=0) rfl rfl rfl) rfl ?_
 refine qAe (qDn (i0:=1) hT rfl rfl rfl) rfl ?_
 refine wws ?_
 refine qAm ?_
 refine wx mixed ?_
 refine wws ?_
 refine wwc h1 ?_
 refine wws ?_
 refine wwc h2 ?_
 refine wws ?_
 refine wwc h3 ?_
 refine wws ?_
 refine qAr (ι:=Unit) (fun _=>[(2,.ptr 1 0),(3,.d (.sl 3 (encNs ([.mk 6 ib [],.mk 2 [bOf ver] []]++ex))))]) (fun _=>[.row [.d (.int .i64 p),.d (.int .i64 ver),.d (.int .i64 par),.d (.int .i64 key),.d (.int .i64 kid)],.row [.d (.int .i64 0),.sl 1 [] .full,.sl 3 [] .full]]) (fun _=>True) ?_ ?_
 ·refine ww ?_
  refine qAa rfl (fun k1=>?_) (fun k1=>?_)
  ·have k1':p=2:=by simpa using k1
   rw [if_pos (.inl k1')] at hx
   subst hx
   refine ww ?_
   refine qAa rfl (fun k2=>?_) (fun k2=>?_)
   ·refine ww ?_
    refine wwc h4 ?_
    refine ww ?_
    refine qAe (qBi (es:=encNs [.mk 6 ib [],.mk 2 [bOf ver] []]) hT rfl rfl rfl (.inl rfl) rfl (by show (2+_)*(56+1)≤_;simp)) rfl ?_
    refine ww ?_
    refine wwe ?_
    exact ⟨(),trivial,⟨.refl _,.refl _,trivial⟩,HLe.refl _⟩
   ·exact absurd k2 (by simp [k1'])
  have k1':¬ p=2:=by simpa using k1
  refine ww ?_
  refine qAa rfl (fun k2=>?_) (fun k2=>?_)
  ·have k2':p=3:=by simpa using k2
   rw [if_pos (.inr k2')] at hx
   subst hx
   refine ww ?_
   refine wwc h4 ?_
   refine ww ?_
   refine qAe (qBi (es:=encNs [.mk 6 ib [],.mk 2 [bOf ver] []]) hT rfl rfl rfl (.inl rfl) rfl (by show (2+_)*(56+1)≤_;simp)) rfl ?_
   refine ww ?_
   refine wwe ?_
   exact ⟨(),trivial,⟨.refl _,.refl _,trivial⟩,HLe.refl _⟩
  have k2':¬ p=3:=by simpa using k2
  rw [if_neg (by omega)] at hx
  refine ww ?_
  refine qAa rfl (fun k3=>?_) (fun k3=>?_)
  ·have k3':p=4:=by simpa using k3
   rw [if_pos k3'] at hx
   subst hx
   obtain ⟨g1,g2⟩:=hk k3'
   obtain ⟨key,rfl⟩:∃ n:Nat,key=(n:Int):=⟨key.toNat,by omega⟩
   have hf:=Four_spec key (by omega)
   have h6:=qDo 4 (octB 4 key) (by rw [octB_length];omega)
   rw [Int.toNat_natCast]
   refine ww ?_
   refine wwc hf ?_
   refine ww ?_
   refine wwc h6 ?_
   refine ww ?_
   refine wwc h5 ?_
   refine ww ?_
   refine qAs (qBi (es:=encNs [.mk 6 ib [],.mk 2 [bOf ver] []]) hT rfl rfl rfl (.inl rfl) rfl (by show (2+_)*(56+1)≤_;simp)) rfl rfl ?_
   refine ww ?_
   refine wwe ?_
   exact ⟨(),trivial,⟨.refl _,.refl _,trivial⟩,HLe.refl _⟩
  ·have k3':¬ p=4:=by simpa using k3
   rw [if_neg k3'] at hx
   subst hx
   refine ww ?_
   refine wwe ?_
   exact ⟨(),trivial,⟨.refl _,AV.le.dat,trivial⟩,HLe.refl _⟩
 ·rintro _ _
  refine ww ?_
  refine wwc hc ?_
  refine ww ?_
  exact wwr
theorem setI_spec (l:List Inf) (hl:l.length≤1000000) (hk:∀ x∈l,KeyOk x):Spec Tryz.prog 78 [.d (.sl 5 (encFs l))] [] (fun r h'=>r=nAV (setI l)∧h'=[]):=by
 have hll:=qCh l
 have hc:=ConsK_spec 49 (l.map objI)
 unfold setI
 refine qAb hT Tryz.func78 rfl rfl rfl rfl ?_;intro E hE
 refine qAq ?_
 refine qAq ?_
 refine qAm (qAj ?_)
 refine qAe (qDn (i0:=0) hT rfl rfl rfl) rfl ?_
 refine wws ?_
 refine qAm (qAj ?_)
 refine wws ?_
 refine qAt 3 3 1 (es:=[]) (.inr ⟨rfl,rfl⟩) rfl ?_
 refine ww ?_
 refine qAn (ι:=Nat) (fun i=>[(0,.d (.sl 5 (encFs l))),(2,.ptr 0 0),(3,.sl 3 (encNs ((l.take i).map objI)) (.right 1)),(4,.d (.int .i64 (i:Int)))]) (fun i=>[.row [.d (.int .i64 0),.sl 1 [] .full,.sl 3 [] .full],.right 3 (encNs ((l.take i).map objI)).length])
  (fun i=>i≤l.length) (fun i=>l.length-i) 0 (by omega) ⟨.refl _,.refl _,.refl _,.refl _,trivial⟩ (HLe.refl _) ?_
 rintro i hi
 have hwr:IntKind.i64.wrap ((i:Int)+1)=((i+1:Nat):Int):=by rw [qAd (by omega)];simp
 have hkl:(encNs ((l.take i).map objI)).length≤1000000:=by rw [qAh];simp;omega
 refine ww ?_
 refine qAa rfl (fun c2=>?_) (fun c2=>?_)
 ·have c2':i < l.length:=by rw [hll] at c2;simpa using c2
  have hel:=encFs_at c2'
  have htk:encNs ((l.take (i+1)).map objI)=encNs ((l.take i).map objI)++[encN (objI l[i])]:=by
   rw [List.take_succ_eq_append_getElem c2',List.map_append,qCz];rfl
  have ho:=objI_spec l[i] (hk l[i] (List.getElem_mem _))
  generalize l[i]=x at hel ho htk
  generalize encNs ((l.take i).map objI)=ks at hkl htk
  unfold fCells at ho
  obtain ⟨kk,hkk,ho'⟩:∃ kk:List Node,encN (objI x)=[.int .i64 48,.sl 1 [],.sl 3 (encNs kk)]∧Spec Tryz.prog 140 [.agg [.d (.int .i64 x.proto),.d (.int .i64 x.ver),.d (.int .i64 x.par),.d (.int .i64 x.key),.d (.int .i64 x.kid)]] [] (fun r h'=>r=.agg [.d (.int .i64 48),.d (.sl 1 []),.d (.sl 3 (encNs kk))]∧h'=[]):=⟨_,rfl,ho⟩
  rw [hkk] at htk
  clear ho hkk
  refine ww ?_
  refine wwi hel ?_
  refine ww ?_
  refine wwc ho' ?_
  refine ww ?_
  refine qAe (qAk (i:=1) hT rfl rfl rfl rfl rfl rfl (by show (ks.length+1)*(56+1)≤_;first | omega | (simp only [qAg,qAh,List.length_append,List.length_cons,List.length_nil];omega))) rfl ?_
  refine ww ?_
  exact ⟨i+1,by omega,by omega,⟨.refl _,.refl _,AV.le.eq (by rw [htk];rfl),.int hwr,trivial⟩,⟨ObLe.refl _,⟨rfl,by rw [htk]⟩,trivial⟩⟩
 ·have c2':i=l.length:=by rw [hll] at c2;simp at c2;omega
  subst c2'
  rw [List.take_length]
  refine wwe ?_
  refine AW_subL (l:=[(2,.ptr 0 0),(3,.d (.sl 3 (encNs (l.map objI))))]) (h':=[.row [.d (.int .i64 0),.sl 1 [] .full,.sl 3 [] .full],.right 3 (encNs (l.map objI)).length]) ⟨.refl _,AV.le.dat,trivial⟩ (HLe.refl _) ?_
  refine ww ?_
  refine wwc hc ?_
  refine ww ?_
  exact wwr
def prevI (l:List Inf) (i:Nat):Option Inf:=if i=0 then none else l[i-1]?
theorem validI_spec (l:List Inf) (hl:l.length≤1000000):Spec Tryz.prog 77 [.d (.sl 5 (encFs l))] [] (fun r h'=>r=.d (.int .i64 (validI l))∧h'=[]):=by
 have hll:=qCh l
 unfold validI
 refine qAb hT Tryz.func77 rfl rfl rfl rfl ?_;intro E hE
 refine ww ?_
 refine qAa rfl (fun c1=>?_) (fun c1=>?_)
 ·have c1':l.length > 16:=by rw [hll] at c1;simp at c1;omega
  rw [if_pos c1']
  refine ww ?_
  exact wwr
 have c1':¬ l.length > 16:=by rw [hll] at c1;simp at c1;omega
 rw [if_neg c1']
 generalize hfin:infL none l=e
 refine ww ?_
 refine qBg (ι:=Nat) (fun i=>[(0,.d (.sl 5 (encFs l))),(3,.d (.int .i64 (i:Int)))]) (fun _=>[]) (fun i=>i≤l.length∧infL (prevI l i) (l.drop i)=e) (fun i=>l.length-i) 0 ⟨by omega,by simpa [prevI] using hfin⟩ ⟨.refl _,.refl _,trivial⟩ (HLe.refl _) ?_
 rintro i ⟨hi,hg⟩
 have hwr:IntKind.i64.wrap ((i:Int)+1)=((i+1:Nat):Int):=by rw [qAd (by omega)];simp
 refine ww ?_
 refine qAa rfl (fun c2=>?_) (fun c2=>?_)
 ·have c2':i < l.length:=by rw [hll] at c2;simpa using c2
  have hel:=encFs_at c2'
  have hdr:l.drop i=l[i]::l.drop (i+1):=List.drop_eq_getElem_cons c2'
  have hnx:prevI l (i+1)=some l[i]:=by unfold prevI;simp [c2']
  have hidx:∃ q:Inf,((i:Int) > 0→0≤IntKind.i64.wrap ((i:Int)-1)∧(encFs l)[(IntKind.i64.wrap ((i:Int)-1)).toNat]?=some (encF q))∧((i:Int) > 0→prevI l i=some q)∧(¬ (i:Int) > 0→prevI l i=none):=by
   cases i with
   | zero=>exact ⟨l[0],fun h=>absurd h (by simp),fun h=>absurd h (by simp),fun _=>rfl⟩
   | succ j =>
    have hj:IntKind.i64.wrap (((j+1:Nat):Int)-1)=(j:Int):=by rw [qAd (by omega)];omega
    refine ⟨l[j],fun _=>⟨by rw [hj];omega,by rw [hj];exact encFs_at (by omega)⟩,fun _=>?_,fun h=>absurd (by omega) h⟩
    unfold prevI;simp
  obtain ⟨q,hq1,hq2,hq3⟩:=hidx
  rw [hdr,infL_cons] at hg
  have hEl:=ElementR_spec (l[i]).key
  generalize l[i]=x at hel hg hnx hEl
  obtain ⟨p,ver,par,key,kid⟩:=x
  obtain ⟨qp,qv,qa,qk,qi⟩:=q
  unfold encF at hel hq1
  unfold infE at hg
  simp only at hel hq1 hg hEl
  generalize elemG key=el at hEl hg
  refine ww ?_
  refine wwi hel ?_
  refine ww ?_
  refine qAa rfl (fun c3=>?_) (fun c3=>?_)
  ·have c3':p < 2∨p > 6:=by simpa using c3
   rw [if_pos c3',if_pos (by simp)] at hg
   subst hg
   refine ww ?_
   exact wwr
  have c3':¬ (p < 2∨p > 6):=by simp only [Bool.or_eq_false_iff,decide_eq_false_iff_not] at c3;omega
  rw [if_neg c3'] at hg
  refine wwe ?_
  refine qAm (qAj ?_)
  refine wws ?_
  refine qAr (ι:=Unit) (fun _=>[(0,.d (.sl 5 (encFs l))),(3,.d (.int .i64 (i:Int))),(4,.ptr 0 0),(5,.d (.int .i64 (parI p))),(6,.d (.int .i64 0))]) (fun _=>[.row [.d (.int .i64 p),.d (.int .i64 ver),.d (.int .i64 par),.d (.int .i64 key),.d (.int .i64 kid)]]) (fun _=>True) ?_ ?_
  ·refine ww ?_
   refine qAa rfl (fun k1=>?_) (fun k1=>?_)
   ·have k1':p=2∨p=3:=by simpa using k1
    refine ww ?_
    exact ⟨(),trivial,⟨.refl _,.refl _,.refl _,.int (by unfold parI;rw [if_pos k1']),.refl _,trivial⟩,HLe.refl _⟩
   ·have k1':¬ (p=2∨p=3):=by rintro (g | g) <;> simp [g] at k1
    refine ww ?_
    exact ⟨(),trivial,⟨.refl _,.refl _,.refl _,.int (by unfold parI;rw [if_neg k1']),.refl _,trivial⟩,HLe.refl _⟩
  rintro _ _
  refine qAr (ι:=Unit) (fun _=>[(0,.d (.sl 5 (encFs l))),(3,.d (.int .i64 (i:Int))),(4,.ptr 0 0),(5,.d (.int .i64 (parI p))),(6,.d (.int .i64 (kidI p)))]) (fun _=>[.row [.d (.int .i64 p),.d (.int .i64 ver),.d (.int .i64 par),.d (.int .i64 key),.d (.int .i64 kid)]]) (fun _=>True) ?_ ?_
  ·refine ww ?_
   refine qAa rfl (fun k1=>?_) (fun k1=>?_)
   ·have k1':p=4:=by simpa using k1
    refine ww ?_
    exact ⟨(),trivial,⟨.refl _,.refl _,.refl _,.refl _,.int (by unfold kidI;rw [if_pos k1']),trivial⟩,HLe.refl _⟩
   ·have k1':¬ p=4:=by simpa using k1
    refine ww ?_
    exact ⟨(),trivial,⟨.refl _,.refl _,.refl _,.refl _,.int (by unfold kidI;rw [if_neg k1']),trivial⟩,HLe.refl _⟩
  rintro _ _
  generalize parI p=pp at hg ⊢
  generalize kidI p=kp at hg ⊢
  refine ww ?_
  refine qAa rfl (fun c4=>?_) (fun c4=>?_)
  ·have c4':ver < 1∨ver > 255∨par < 0∨par > pp∨kid < 0∨kid > kp:=by simpa [or_assoc] using c4
   rw [if_pos c4',if_pos (by simp)] at hg
   subst hg
   refine ww ?_
   exact wwr
  have c4':¬ (ver < 1∨ver > 255∨par < 0∨par > pp∨kid < 0∨kid > kp):=by simp only [Bool.or_eq_false_iff,decide_eq_false_iff_not] at c4;omega
  rw [if_neg c4'] at hg
  refine ww ?_
  refine wwgc hEl ?_
  refine ww ?_
  refine qAa rfl (fun c5=>?_) (fun c5=>?_)
  ·have c5':(p=4∧el=false)∨(p≠4∧key≠0):=by simpa using c5
   rw [if_pos c5',if_pos (by simp)] at hg
   subst hg
   refine ww ?_
   exact wwr
  have c5':¬ ((p=4∧el=false)∨(p≠4∧key≠0)):=by
   rintro (⟨g1,g2⟩ | ⟨g1,g2⟩)
   ·simp [g1,g2] at c5
   ·simp [g1,g2] at c5
  rw [if_neg c5',if_neg (by simp)] at hg
  refine ww ?_
  refine AWd_gop (v:=.iptr [.int .i64 qp,.int .i64 qv,.int .i64 qa,.int .i64 qk,.int .i64 qi]) rfl rfl rfl rfl (fun hg=>⟨(sg (C:=True) hg).1,qAc (qAi hT rfl rfl rfl rfl (hq1 (by simp [gval] at hg;omega)).1 (hq1 (by simp [gval] at hg;omega)).2)⟩) ?_
  refine ww ?_
  refine AWd_gop (v:=.iptr [.int .i64 qp,.int .i64 qv,.int .i64 qa,.int .i64 qk,.int .i64 qi]) rfl rfl rfl rfl (fun hg=>⟨(sg (C:=True) hg).1,qAc (qAi hT rfl rfl rfl rfl (hq1 (by simp [gval] at hg;omega)).1 (hq1 (by simp [gval] at hg;omega)).2)⟩) ?_
  refine ww ?_
  refine AWd_gop (v:=.iptr [.int .i64 qp,.int .i64 qv,.int .i64 qa,.int .i64 qk,.int .i64 qi]) rfl rfl rfl rfl (fun hg=>⟨(sg (C:=True) hg).1,qAc (qAi hT rfl rfl rfl rfl (hq1 (by simp [gval] at hg;omega)).1 (hq1 (by simp [gval] at hg;omega)).2)⟩) ?_
  refine ww ?_
  refine qAa rfl (fun c6=>?_) (fun c6=>?_)
  ·have c6':(i:Int) > 0∧(p < qp∨(p=qp∧kid≤qi)):=by
    simp only [Bool.and_eq_true,Bool.or_eq_true,decide_eq_true_eq,beq_iff_eq] at c6
    exact c6
   rw [hq2 c6'.1] at hg
   simp only at hg
   rw [if_pos (by unfold infO;exact decide_eq_true c6'.2)] at hg
   subst hg
   refine ww ?_
   exact wwr
  ·have hg':infL (some ⟨p,ver,par,key,kid⟩) (l.drop (i+1))=e:=by
    by_cases hi0:(i:Int) > 0
    ·rw [hq2 hi0] at hg
     simp only at hg
     rw [if_neg (by
      unfold infO
      intro hh
      have hh:=of_decide_eq_true hh
      simp only at hh
      have:(decide ((i:Int) > 0)&&(decide (p < qp)||(p == qp&&decide (kid≤qi))))=true:=by
       simp only [Bool.and_eq_true,Bool.or_eq_true,decide_eq_true_eq,beq_iff_eq]
       exact ⟨hi0,hh⟩
      exact absurd (c6.symm.trans this) (by simp))] at hg
     exact hg
    ·rw [hq3 hi0] at hg
     simpa using hg
   refine ww ?_
   exact ⟨i+1,[.row [.d (.int .i64 p),.d (.int .i64 ver),.d (.int .i64 par),.d (.int .i64 key),.d (.int .i64 kid)]],⟨by omega,by rw [hnx];exact hg'⟩,by omega,⟨.refl _,.int hwr,trivial⟩,HLe.refl _,hE,rfl,rfl⟩
 ·have c2':i=l.length:=by rw [hll] at c2;simp at c2;omega
  subst c2'
  rw [List.drop_length,infL_nil] at hg
  subst hg
  refine ww ?_
  exact wwr
end Tdoc
/- The reference reads an info. -/
set_option maxHeartbeats 8000000
set_option maxRecDepth 100000
set_option linter.unusedVariables false
set_option linter.unusedSimpArgs false
namespace Tdoc
open Go Go.Proofs
theorem bytes_ext {a b:List UInt8} (hl:a.length=b.length) (h:∀ i,i < a.length→byteAt a i=byteAt b i):a=b:=by
 apply List.ext_getElem hl
 intro i h1 h2
 have:=h i h1
 unfold byteAt at this
 rw [List.getD_eq_getElem?_getD,List.getD_eq_getElem?_getD,List.getElem?_eq_getElem h1,List.getElem?_eq_getElem h2] at this
 exact UInt8.toNat_inj.1 this
theorem SameB_spec (a b:List UInt8) (ha:a.length≤1000000000) (hb:b.length≤1000000000):Spec Tryz.prog 34 [.d (.sl 1 (encB a)),.d (.sl 1 (encB b))] [] (fun r h'=>r=.d (.bool (decide (a=b)))∧h'=[]):=by
 have hal:=qAg a
 have hbl:=qAg b
 refine qAb hT Tryz.func34 rfl rfl rfl rfl ?_;intro E hE
 refine ww ?_
 refine qAa rfl (fun c1=>?_) (fun c1=>?_)
 ·have c1':a.length≠b.length:=by rw [hal,hbl] at c1;simp at c1;omega
  rw [decide_eq_false (fun h=>c1' (by rw [h]))]
  refine ww ?_
  exact wwr
 have c1':a.length=b.length:=by rw [hal,hbl] at c1;simp at c1;omega
 refine ww ?_
 refine qAn (ι:=Nat) (fun i=>[(0,.d (.sl 1 (encB a))),(1,.d (.sl 1 (encB b))),(5,.d (.int .i64 (i:Int)))]) (fun _=>[]) (fun i=>i≤a.length∧∀ j,j < i→byteAt a j=byteAt b j) (fun i=>a.length-i) 0 ⟨by omega,fun j h=>by omega⟩ ⟨.refl _,.refl _,.refl _,trivial⟩ (HLe.refl _) ?_
 rintro i ⟨hi,hs⟩
 have hwr:IntKind.i64.wrap ((i:Int)+1)=((i+1:Nat):Int):=by rw [qAd (by omega)];simp
 refine ww ?_
 refine qAa rfl (fun c2=>?_) (fun c2=>?_)
 ·have c2':i < a.length:=by rw [hal] at c2;simpa using c2
  have hel:(encB a)[((i:Int)).toNat]?=some [.int .u8 (byteAt a i:Int)]:=qDa c2'
  have hel2:(encB b)[((i:Int)).toNat]?=some [.int .u8 (byteAt b i:Int)]:=qDa (by omega)
  refine ww ?_
  refine wwi hel ?_
  refine ww ?_
  refine wwi hel2 ?_
  refine ww ?_
  refine qAa rfl (fun c3=>?_) (fun c3=>?_)
  ·have c3':byteAt a i≠byteAt b i:=by simp at c3;omega
   rw [decide_eq_false (fun h=>c3' (by rw [h]))]
   refine ww ?_
   exact wwr
  ·have c3':byteAt a i=byteAt b i:=by simp at c3;omega
   refine ww ?_
   exact ⟨i+1,⟨by omega,fun j hj=>by
    rcases Nat.lt_or_ge j i with h | h
    ·exact hs j h
    ·rw [show j=i by omega];exact c3'⟩,by omega,⟨.refl _,.refl _,.int hwr,trivial⟩,HLe.refl _⟩
 ·have c2':i=a.length:=by rw [hal] at c2;simp at c2;omega
  subst c2'
  rw [decide_eq_true (bytes_ext c1' hs)]
  refine ww ?_
  exact wwr
def pU (v:List UInt8):Nat→Int
 | 0=>0
 | k+1=>if v=idB (2+(k:Int)) then 2+(k:Int) else pU v k
theorem pU_eq (v:List UInt8):pU v 5=protoF v:=by
 have d:idB 2≠idB 3∧idB 2≠idB 4∧idB 2≠idB 5∧idB 2≠idB 6∧idB 3≠idB 4∧idB 3≠idB 5∧idB 3≠idB 6∧idB 4≠idB 5∧idB 4≠idB 6∧idB 5≠idB 6:=by decide
 obtain ⟨d1,d2,d3,d4,d5,d6,d7,d8,d9,d10⟩:=d
 show (if v=idB 6 then (6:Int) else if v=idB 5 then 5 else if v=idB 4 then 4 else if v=idB 3 then 3 else if v=idB 2 then 2 else 0)=protoF v
 unfold protoF
 by_cases h2:v=idB 2
 ·subst h2;simp [d1,d2,d3,d4]
 by_cases h3:v=idB 3
 ·subst h3;simp [d1.symm,d5,d6,d7]
 by_cases h4:v=idB 4
 ·subst h4;simp [d2.symm,d5.symm,d8,d9]
 by_cases h5:v=idB 5
 ·subst h5;simp [d3.symm,d6.symm,d8.symm,d10]
 by_cases h6:v=idB 6
 ·subst h6;simp [d4.symm,d7.symm,d9.symm,d10.symm]
 simp [h2,h3,h4,h5,h6]
def infM (p ver:Int) (r:List Node):Option Inf :=
 if p=0 then none
 else if p=2∨p=3 then match r with
  | [q]=>if primF q 2 1=true then some ⟨p,ver,nbN (valN q),0,0⟩ else none
  | _=>none
 else if p=4 then match r with
  | [k,d]=>if primF k 4 4=true∧primF d 2 1=true then some ⟨4,ver,0,nbN (valN k),nbN (valN d)⟩ else none
  | _=>none
 else match r with
  | []=>some ⟨p,ver,0,0,0⟩
  | _=>none
theorem infX_n1 {x:Node} (h:consF x 48 (-1)=false):infX x=none:=by unfold infX;rw [if_neg (by rw [h];simp)]
theorem infX_n2 {x:Node} (h:(kidN x).length < 2):infX x=none:=by
 unfold infX
 split
 ·match hk:kidN x,h with
  | [],_=>rfl
  | [a],_=>rfl
  | a::b::r,h=>simp at h;omega
 ·rfl
theorem infX_n3 {x i v:Node} {r:List Node} (hk:kidN x=i::v::r) (h:primF i 6 9=false):infX x=none:=by
 unfold infX
 split
 ·rw [hk];simp only;rw [if_neg (by rw [h];simp)]
 ·rfl
theorem infX_n4 {x i v:Node} {r:List Node} (hk:kidN x=i::v::r) (h:primF v 2 1=false):infX x=none:=by
 unfold infX
 split
 ·rw [hk];simp only;rw [if_neg (by rw [h];simp)]
 ·rfl
theorem infX_go {x i v:Node} {r:List Node} (h0:consF x 48 (-1)=true) (hk:kidN x=i::v::r) (h1:primF i 6 9=true) (h2:primF v 2 1=true):infX x=infM (protoF (valN i)) (nbN (valN v)) r:=by
 unfold infX
 rw [if_pos h0,hk]
 simp only
 rw [if_pos ⟨h1,h2⟩]
 rfl
theorem infM_0 (ver:Int) (r:List Node):infM 0 ver r=none:=rfl
theorem infM_2n {p ver:Int} {r:List Node} (h:p=2∨p=3) (hr:r.length≠1):infM p ver r=none:=by
 unfold infM;rw [if_neg (by omega),if_pos h]
 match r,hr with
 | [],_=>rfl
 | [a],h=>exact absurd rfl h
 | _::_::_,_=>rfl
theorem infM_2 {p ver:Int} {q:Node} (h:p=2∨p=3):infM p ver [q]=if primF q 2 1=true then some ⟨p,ver,nbN (valN q),0,0⟩ else none:=by
 unfold infM;rw [if_neg (by omega),if_pos h]
theorem infM_4n {ver:Int} {r:List Node} (hr:r.length≠2):infM 4 ver r=none:=by
 unfold infM;rw [if_neg (by omega),if_neg (by omega),if_pos rfl]
 match r,hr with
 | [],_=>rfl
 | [a],_=>rfl
 | [a,b],h=>exact absurd rfl h
 | _::_::_::_,_=>rfl
theorem infM_4 {ver:Int} {k d:Node}:infM 4 ver [k,d]=if primF k 4 4=true∧primF d 2 1=true then some ⟨4,ver,0,nbN (valN k),nbN (valN d)⟩ else none:=by
 unfold infM;rw [if_neg (by omega),if_neg (by omega),if_pos rfl]
theorem infM_5n {p ver:Int} {r:List Node} (h:p≠0∧p≠2∧p≠3∧p≠4) (hr:r≠[]):infM p ver r=none:=by
 unfold infM;rw [if_neg h.1,if_neg (by omega),if_neg h.2.2.2]
 match r,hr with
 | [],h=>exact absurd rfl h
 | _::_,_=>rfl
theorem infM_5 {p ver:Int} (h:p≠0∧p≠2∧p≠3∧p≠4):infM p ver []=some ⟨p,ver,0,0,0⟩:=by
 unfold infM;rw [if_neg h.1,if_neg (by omega),if_neg h.2.2.2]
def InfP (x:Node) (y:Inf×Bool):Prop:=match infX x with
 | some z=>y=(z,true)
 | none=>y.2=false
theorem InfP.none {x:Node} {y:Inf} (h:infX x=none):InfP x (y,false):=by unfold InfP;rw [h]
theorem InfP.some {x:Node} {y:Inf} (h:infX x=some y):InfP x (y,true):=by unfold InfP;rw [h]
def inf0:Inf:=⟨0,0,0,0,0⟩
theorem info_spec (x:Node) (hw:wgtN x≤1000000):Spec Tryz.prog 217 [nAV x] [] (fun r h'=>∃ y:Inf×Bool,InfP x y∧r=.tup [.agg (fCells y.1),.d (.bool y.2)]∧h'=[]):=by
 obtain ⟨t,v,k⟩:=x
 rw [qCe]
 have hC:=ConsF_spec (.mk t v k) 48 (-1)
 rw [qCe] at hC
 have n1:=infX_n1 (x:=.mk t v k)
 have n2:=infX_n2 (x:=.mk t v k)
 have n3:=fun i v' r=>infX_n3 (x:=.mk t v k) (i:=i) (v:=v') (r:=r)
 have n4:=fun i v' r=>infX_n4 (x:=.mk t v k) (i:=i) (v:=v') (r:=r)
 have n5:=fun i v' r=>infX_go (x:=.mk t v k) (i:=i) (v:=v') (r:=r)
 have hkl:=qAh k
 have hlk:=qDe k
 have hkk:k.length≤1000000:=by rw [wgtN] at hw;omega
 simp only [kidN] at n2 n3 n4 n5
 generalize consF (.mk t v k) 48 (-1)=cv at hC n1 n5
 have bad:∀ {τ:Nat→AV},True:=fun {_}=>trivial
 by_cases hcv:cv=true
 case neg =>
  have hn:cv=false:=by simpa using hcv
  refine qAb hT Tryz.func217 rfl rfl rfl rfl ?_;intro E hE
  refine qAq ?_
  refine wwe ?_
  refine qAm (qAj ?_)
  refine qAe (qBb (i0:=0) rfl rfl rfl) rfl ?_
  refine ww ?_
  refine wwc hC ?_
  refine wwk hn ?_
  refine qAa rfl (fun c1=>?_) (fun c1=>?_)
  ·refine ww ?_
   exact rq ⟨(inf0,false),.none (n1 hn),rfl,rfl⟩ rfl (.refl _)
  ·exact absurd c1 (by rw [hn];simp)
 subst hcv
 by_cases hk2:k.length < 2
 case pos =>
  have hn:decide (((encNs k).length:Int) < 2)=true:=by rw [hkl];simp;omega
  refine qAb hT Tryz.func217 rfl rfl rfl rfl ?_;intro E hE
  refine qAq ?_
  refine wwe ?_
  refine qAm (qAj ?_)
  refine qAe (qBb (i0:=0) rfl rfl rfl) rfl ?_
  refine ww ?_
  refine wwc hC ?_
  refine wwk hn ?_
  refine qAa rfl (fun c1=>?_) (fun c1=>?_)
  ·refine ww ?_
   exact rq ⟨(inf0,false),.none (n2 hk2),rfl,rfl⟩ rfl (.refl _)
  ·exact absurd c1 (by rw [hn];simp)
 obtain ⟨ti,vi,ki,tv,vv,kv,r,rfl⟩:∃ ti vi ki tv vv kv r,k=.mk ti vi ki::.mk tv vv kv::r:=match k,hk2 with
  | .mk ti vi ki::.mk tv vv kv::r,_=>⟨ti,vi,ki,tv,vv,kv,r,rfl⟩
  | [_],h=>absurd (by simp) h
  | [],h=>absurd (by simp) h
 have n3:=n3 _ _ _ rfl
 have n4:=n4 _ _ _ rfl
 have n5:=n5 _ _ _ rfl rfl
 have hPi:=qBo (.mk ti vi ki) 6 9
 have hPv:=qBo (.mk tv vv kv) 2 1
 rw [qCe] at hPi hPv
 have hel0:(encNs (.mk ti vi ki::.mk tv vv kv::r))[((0:Int)).toNat]?=some [.int .i64 ti,.sl 1 (encB vi),.sl 3 (encNs ki)]:=rfl
 have hel1:(encNs (.mk ti vi ki::.mk tv vv kv::r))[((1:Int)).toNat]?=some [.int .i64 tv,.sl 1 (encB vv),.sl 3 (encNs kv)]:=rfl
 have hvi:vi.length≤1000000:=by simp only [wgtN,wgtL] at hw;omega
 have hwr0:wgtL r≤1000000:=by simp only [wgtN,wgtL] at hw;omega
 have hvi2:=primF_iff (x:=.mk tv vv kv) (t:=2) (n:=1)
 generalize primF (.mk ti vi ki) 6 9=pi at hPi n3 n5
 generalize primF (.mk tv vv kv) 2 1=pv at hPv n4 n5 hvi2
 by_cases hpi:pi=true
 case neg =>
  have hn:pi=false:=by simpa using hpi
  refine qAb hT Tryz.func217 rfl rfl rfl rfl ?_;intro E hE
  refine qAq ?_
  refine wwe ?_
  refine qAm (qAj ?_)
  refine qAe (qBb (i0:=0) rfl rfl rfl) rfl ?_
  refine ww ?_
  refine wwc hC ?_
  refine ww ?_
  refine wwgi hel0 ?_
  refine ww ?_
  refine wwgc hPi ?_
  refine wwk hn ?_
  refine qAa rfl (fun c1=>?_) (fun c1=>?_)
  ·refine ww ?_
   exact rq ⟨(inf0,false),.none (n3 hn),rfl,rfl⟩ rfl (.refl _)
  ·exact absurd c1 (by rw [hn];simp)
 subst hpi
 by_cases hpv:pv=true
 case neg =>
  have hn:pv=false:=by simpa using hpv
  refine qAb hT Tryz.func217 rfl rfl rfl rfl ?_;intro E hE
  refine qAq ?_
  refine wwe ?_
  refine qAm (qAj ?_)
  refine qAe (qBb (i0:=0) rfl rfl rfl) rfl ?_
  refine ww ?_
  refine wwc hC ?_
  refine ww ?_
  refine wwgi hel0 ?_
  refine ww ?_
  refine wwgc hPi ?_
  refine ww ?_
  refine wwgi hel1 ?_
  refine ww ?_
  refine wwgc hPv ?_
  refine ww ?_
  refine qAa rfl (fun c1=>?_) (fun c1=>?_)
  ·refine ww ?_
   exact rq ⟨(inf0,false),.none (n4 hn),rfl,rfl⟩ rfl (.refl _)
  ·exact absurd c1 (by rw [hn];simp)
 subst hpv
 have hgo:=n5 rfl rfl
 have hvl:vv.length=1:=by
  rcases (hvi2.1 rfl).2.2 with h | h
  ·omega
  ·have h':(vv.length:Int)=1:=h
   omega
 obtain ⟨c,rfl⟩:∃ c,vv=[c]:=match vv,hvl with
  | [c],_=>⟨c,rfl⟩
 have helc:(encB [c])[((0:Int)).toNat]?=some [.int .u8 (c.toNat:Int)]:=rfl
 have hcu:=UInt8.toNat_lt c
 have hcw:IntKind.i64.wrap (c.toNat:Int)=(c.toNat:Int):=qAd (by omega)
 have hnc:((nbN (valN (.mk tv [c] kv)):Nat):Int)=(c.toNat:Int):=by simp [nbN,valN]
 rw [hnc] at hgo
 simp only [valN] at hgo
 clear n1 n2 n3 n4 n5 hvi2
 have hc0:decide (((encNs (.mk ti vi ki::.mk tv [c] kv::r)).length:Int) < 2)=false:=by rw [hkl];simp;omega
 refine qAb hT Tryz.func217 rfl rfl rfl rfl ?_;intro E hE
 refine qAq ?_
 refine wwe ?_
 refine qAm (qAj ?_)
 refine qAe (qBb (i0:=0) rfl rfl rfl) rfl ?_
 refine ww ?_
 refine wwc hC ?_
 refine ww ?_
 refine wwgi hel0 ?_
 refine ww ?_
 refine wwgc hPi ?_
 refine ww ?_
 refine wwgi hel1 ?_
 refine ww ?_
 refine wwgc hPv ?_
 refine ww ?_
 refine qAa rfl (fun c1=>?_) (fun c1=>?_)
 ·exact absurd c1 (by rw [hc0];simp)
 refine ww ?_
 refine wwi hel1 ?_
 refine ww ?_
 refine wwi helc ?_
 refine ww ?_
 refine qAn (ι:=Nat) (fun k=>[(1,.ptr 0 0),(2,.ptr 1 0),(4,.ptr 2 0),(5,.d (.int .i64 (2+(k:Int))))]) (fun k=>[.row [.d (.int .i64 t),.d (.sl 1 (encB v)),.d (.sl 3 (encNs (.mk ti vi ki::.mk tv [c] kv::r)))],.row [.d (.int .i64 0),.d (.int .i64 0),.d (.int .i64 0),.d (.int .i64 0),.d (.int .i64 0)],.row [.d (.int .i64 (pU vi k)),.d (.int .i64 (c.toNat:Int)),.d (.int .i64 0),.d (.int .i64 0),.d (.int .i64 0)]])
  (fun k=>k≤5) (fun k=>5-k) 0 (by omega) ⟨.refl _,.refl _,.refl _,.refl _,trivial⟩ (by rw [hcw];exact HLe.refl _) ?_
 intro k hk
 have hwp:IntKind.i64.wrap (2+(k:Int)+1)=2+((k+1:Nat):Int):=by rw [qAd (by omega)];omega
 refine ww ?_
 refine qAa rfl (fun c2=>?_) (fun c2=>?_)
 ·have c2':k < 5:=by simp at c2;omega
  have hid:=idB_spec (2+(k:Int))
  have hil:=idB_length (2+(k:Int))
  have hSm:=SameB_spec vi (idB (2+(k:Int))) (by omega) (by omega)
  have hpu:pU vi (k+1)=if vi=idB (2+(k:Int)) then 2+(k:Int) else pU vi k:=rfl
  generalize idB (2+(k:Int))=ib at hid hSm hpu
  refine ww ?_
  refine wwi hel0 ?_
  refine ww ?_
  refine wwc hid ?_
  refine ww ?_
  refine wwc hSm ?_
  refine ww ?_
  refine qAa rfl (fun c3=>?_) (fun c3=>?_)
  ·have c3':vi=ib:=by simpa using c3
   rw [if_pos c3'] at hpu
   refine ww ?_
   exact ⟨k+1,by omega,by omega,⟨.refl _,.refl _,.refl _,.int hwp,trivial⟩,by rw [hpu];exact HLe.refl _⟩
  ·have c3':¬ vi=ib:=by simpa using c3
   rw [if_neg c3'] at hpu
   refine ww ?_
   exact ⟨k+1,by omega,by omega,⟨.refl _,.refl _,.refl _,.int hwp,trivial⟩,by rw [hpu];exact HLe.refl _⟩
 have c2':k=5:=by simp at c2;omega
 subst c2'
 rw [pU_eq]
 generalize protoF vi=p at hgo
 have hk2:((encNs (.mk ti vi ki::.mk tv [c] kv::r)).length:Int)=(r.length:Int)+2:=by rw [hkl];simp;omega
 refine ww ?_
 refine qAa rfl (fun d0=>?_) (fun d0=>?_)
 ·have d0':p=0:=by simpa using d0
  subst d0'
  refine ww ?_
  exact rq ⟨(inf0,false),.none hgo,rfl,rfl⟩ rfl (.refl _)
 have d0':¬ p=0:=by simpa using d0
 refine ww ?_
 refine qAa rfl (fun d2=>?_) (fun d2=>?_)
 ·have d2':p=2:=by simpa using d2
  refine ww ?_
  refine qAa rfl (fun d2b=>?_) (fun d2b=>?_)
  ·refine wwe ?_
   have h23:p=2∨p=3:=by omega
   by_cases hr:r.length=1
   case neg =>
    rw [infM_2n h23 hr] at hgo
    have hn:(((encNs (.mk ti vi ki::.mk tv [c] kv::r)).length:Int) != 3)=true:=by rw [hk2];simp;omega
    refine wwk hn ?_
    refine qAa rfl (fun e1=>?_) (fun e1=>?_)
    ·refine ww ?_
     exact rq ⟨(inf0,false),.none hgo,rfl,rfl⟩ rfl (.refl _)
    ·rw [hn] at e1
     exact absurd e1 (by simp)
   obtain ⟨tq,vq,kq,rfl⟩:∃ tq vq kq,r=[.mk tq vq kq]:=match r,hr with
    | [.mk tq vq kq],_=>⟨tq,vq,kq,rfl⟩
   have hPq:=qBo (.mk tq vq kq) 2 1
   rw [qCe] at hPq
   have hq:=primF_iff (x:=.mk tq vq kq) (t:=2) (n:=1)
   rw [infM_2 h23] at hgo
   simp only [valN] at hgo hq
   generalize primF (.mk tq vq kq) 2 1=pq at hPq hgo hq
   have helq:(encNs [.mk ti vi ki,.mk tv [c] kv,.mk tq vq kq])[((2:Int)).toNat]?=some [.int .i64 tq,.sl 1 (encB vq),.sl 3 (encNs kq)]:=rfl
   have hn3:(((encNs [.mk ti vi ki,.mk tv [c] kv,.mk tq vq kq]).length:Int) != 3)=false:=rfl
   refine ww ?_
   refine wwgi helq ?_
   refine ww ?_
   refine wwgc hPq ?_
   refine ww ?_
   refine qAa rfl (fun e1=>?_) (fun e1=>?_)
   ·have hn:pq=false:=by
     rw [hn3] at e1
     simpa using e1
    rw [if_neg (by rw [hn];simp)] at hgo
    refine ww ?_
    exact rq ⟨(inf0,false),.none hgo,rfl,rfl⟩ rfl (.refl _)
   have hn:pq=true:=by
    rw [hn3] at e1
    simpa using e1
   rw [if_pos hn] at hgo
   have hvq:vq.length=1:=by
    rcases (hq.1 hn).2.2 with h | h <;> omega
   obtain ⟨cq,rfl⟩:∃ cq,vq=[cq]:=match vq,hvq with
    | [cq],_=>⟨cq,rfl⟩
   have helcq:(encB [cq])[((0:Int)).toNat]?=some [.int .u8 (cq.toNat:Int)]:=rfl
   have hcqu:=UInt8.toNat_lt cq
   have hcq:IntKind.i64.wrap (cq.toNat:Int)=((nbN [cq]:Nat):Int):=by rw [qAd (by omega)];simp [nbN]
   refine ww ?_
   refine wwi helq ?_
   refine ww ?_
   refine wwi helcq ?_
   refine ww ?_
   exact rq ⟨(_,true),.some hgo,rfl,rfl⟩ rfl (AV.le.tup ⟨AV.le.agg ⟨.refl _,.refl _,.int hcq,.refl _,.refl _,trivial⟩,.refl _,trivial⟩)
  ·exact absurd d2 (by rw [d2b];simp)
 have d2':¬ p=2:=by simpa using d2
 refine ww ?_
 refine qAa rfl (fun d3=>?_) (fun d3=>?_)
 ·have d3':p=3:=by simpa using d3
  refine wwe ?_
  have h23:p=2∨p=3:=by omega
  by_cases hr:r.length=1
  case neg =>
   rw [infM_2n h23 hr] at hgo
   have hn:(((encNs (.mk ti vi ki::.mk tv [c] kv::r)).length:Int) != 3)=true:=by rw [hk2];simp;omega
   refine wwk hn ?_
   refine qAa rfl (fun e1=>?_) (fun e1=>?_)
   ·refine ww ?_
    exact rq ⟨(inf0,false),.none hgo,rfl,rfl⟩ rfl (.refl _)
   ·rw [hn] at e1
    exact absurd e1 (by simp)
  obtain ⟨tq,vq,kq,rfl⟩:∃ tq vq kq,r=[.mk tq vq kq]:=match r,hr with
   | [.mk tq vq kq],_=>⟨tq,vq,kq,rfl⟩
  have hPq:=qBo (.mk tq vq kq) 2 1
  rw [qCe] at hPq
  have hq:=primF_iff (x:=.mk tq vq kq) (t:=2) (n:=1)
  rw [infM_2 h23] at hgo
  simp only [valN] at hgo hq
  generalize primF (.mk tq vq kq) 2 1=pq at hPq hgo hq
  have helq:(encNs [.mk ti vi ki,.mk tv [c] kv,.mk tq vq kq])[((2:Int)).toNat]?=some [.int .i64 tq,.sl 1 (encB vq),.sl 3 (encNs kq)]:=rfl
  have hn3:(((encNs [.mk ti vi ki,.mk tv [c] kv,.mk tq vq kq]).length:Int) != 3)=false:=rfl
  refine ww ?_
  refine wwgi helq ?_
  refine ww ?_
  refine wwgc hPq ?_
  refine ww ?_
  refine qAa rfl (fun e1=>?_) (fun e1=>?_)
  ·have hn:pq=false:=by
    rw [hn3] at e1
    simpa using e1
   rw [if_neg (by rw [hn];simp)] at hgo
   refine ww ?_
   exact rq ⟨(inf0,false),.none hgo,rfl,rfl⟩ rfl (.refl _)
  have hn:pq=true:=by
   rw [hn3] at e1
   simpa using e1
  rw [if_pos hn] at hgo
  have hvq:vq.length=1:=by
   rcases (hq.1 hn).2.2 with h | h <;> omega
  obtain ⟨cq,rfl⟩:∃ cq,vq=[cq]:=match vq,hvq with
   | [cq],_=>⟨cq,rfl⟩
  have helcq:(encB [cq])[((0:Int)).toNat]?=some [.int .u8 (cq.toNat:Int)]:=rfl
  have hcqu:=UInt8.toNat_lt cq
  have hcq:IntKind.i64.wrap (cq.toNat:Int)=((nbN [cq]:Nat):Int):=by rw [qAd (by omega)];simp [nbN]
  refine ww ?_
  refine wwi helq ?_
  refine ww ?_
  refine wwi helcq ?_
  refine ww ?_
  exact rq ⟨(_,true),.some hgo,rfl,rfl⟩ rfl (AV.le.tup ⟨AV.le.agg ⟨.refl _,.refl _,.int hcq,.refl _,.refl _,trivial⟩,.refl _,trivial⟩)
 have d3':¬ p=3:=by simpa using d3
 refine ww ?_
 refine qAa rfl (fun d4=>?_) (fun d4=>?_)
 ·have d4':p=4:=by simpa using d4
  subst d4'
  by_cases hr:r.length=2
  case neg =>
   rw [infM_4n hr] at hgo
   have hn:(((encNs (.mk ti vi ki::.mk tv [c] kv::r)).length:Int) != 4)=true:=by rw [hk2];simp;omega
   refine wwk hn ?_
   refine qAa rfl (fun e1=>?_) (fun e1=>?_)
   ·refine ww ?_
    exact rq ⟨(inf0,false),.none hgo,rfl,rfl⟩ rfl (.refl _)
   ·rw [hn] at e1
    exact absurd e1 (by simp)
  obtain ⟨tq,vq,kq,ts,vs,kz,rfl⟩:∃ tq vq kq ts vs kz,r=[.mk tq vq kq,.mk ts vs kz]:=match r,hr with
   | [.mk tq vq kq,.mk ts vs kz],_=>⟨tq,vq,kq,ts,vs,kz,rfl⟩
  have hPq:=qBo (.mk tq vq kq) 4 4
  have hPs:=qBo (.mk ts vs kz) 2 1
  rw [qCe] at hPq hPs
  have hq:=primF_iff (x:=.mk tq vq kq) (t:=4) (n:=4)
  have hs:=primF_iff (x:=.mk ts vs kz) (t:=2) (n:=1)
  rw [infM_4] at hgo
  simp only [valN] at hgo hq hs
  generalize primF (.mk tq vq kq) 4 4=pq at hPq hgo hq
  generalize primF (.mk ts vs kz) 2 1=ps at hPs hgo hs
  have helq:(encNs [.mk ti vi ki,.mk tv [c] kv,.mk tq vq kq,.mk ts vs kz])[((2:Int)).toNat]?=some [.int .i64 tq,.sl 1 (encB vq),.sl 3 (encNs kq)]:=rfl
  have hels:(encNs [.mk ti vi ki,.mk tv [c] kv,.mk tq vq kq,.mk ts vs kz])[((3:Int)).toNat]?=some [.int .i64 ts,.sl 1 (encB vs),.sl 3 (encNs kz)]:=rfl
  have hn3:(((encNs [.mk ti vi ki,.mk tv [c] kv,.mk tq vq kq,.mk ts vs kz]).length:Int) != 4)=false:=rfl
  refine ww ?_
  refine wwgi helq ?_
  refine ww ?_
  refine wwgc hPq ?_
  refine ww ?_
  refine wwgi hels ?_
  refine ww ?_
  refine wwgc hPs ?_
  refine ww ?_
  refine qAa rfl (fun e1=>?_) (fun e1=>?_)
  ·have hn:¬ (pq=true∧ps=true):=by
    rintro ⟨g1,g2⟩
    rw [hn3,g1,g2] at e1
    simp at e1
   rw [if_neg hn] at hgo
   refine ww ?_
   exact rq ⟨(inf0,false),.none hgo,rfl,rfl⟩ rfl (.refl _)
  have hn:pq=true∧ps=true:=by
   rw [hn3] at e1
   simpa using e1
  rw [if_pos hn] at hgo
  have hvq:vq.length≤7:=by rcases (hq.1 hn.1).2.2 with h | h <;> omega
  have hvs:vs.length=1:=by rcases (hs.1 hn.2).2.2 with h | h <;> omega
  obtain ⟨cq,rfl⟩:∃ cq,vs=[cq]:=match vs,hvs with
   | [cq],_=>⟨cq,rfl⟩
  have helcq:(encB [cq])[((0:Int)).toNat]?=some [.int .u8 (cq.toNat:Int)]:=rfl
  have hcqu:=UInt8.toNat_lt cq
  have hcq:IntKind.i64.wrap (cq.toNat:Int)=((nbN [cq]:Nat):Int):=by rw [qAd (by omega)];simp [nbN]
  have hNu:=NumberR_spec vq hvq
  refine ww ?_
  refine wwi helq ?_
  refine ww ?_
  refine wwc hNu ?_
  refine ww ?_
  refine wwi hels ?_
  refine ww ?_
  refine wwi helcq ?_
  refine ww ?_
  exact rq ⟨(_,true),.some hgo,rfl,rfl⟩ rfl (AV.le.tup ⟨AV.le.agg ⟨.refl _,.refl _,.refl _,.refl _,.int hcq,trivial⟩,.refl _,trivial⟩)
 have d4':¬ p=4:=by simpa using d4
 have h5:p≠0∧p≠2∧p≠3∧p≠4:=⟨d0',d2',d3',d4'⟩
 refine wwn ?_
 refine qAz (fun i=>bif Nat.beq i 0 then [2] else bif Nat.beq i 2 then [0] else bif Nat.beq i 5 then [1] else []) (fun i=>bif Nat.beq i 5 then [1] else []) mixed (by kernel_rfl) ?_
 refine wwg ?_
 refine ww ?_
 by_cases hr:r=[]
 ·subst hr
  rw [infM_5 h5] at hgo
  exact rq ⟨(_,true),.some hgo,rfl,rfl⟩ rfl (.refl _)
 ·rw [infM_5n h5 hr] at hgo
  have hrl:0 < r.length:=by cases r with
   | nil=>exact absurd rfl hr
   | cons a l=>simp
  have hn:(((encNs (.mk ti vi ki::.mk tv [c] kv::r)).length:Int) == 2)=false:=by rw [hk2];simp;omega
  exact rq ⟨(⟨p,c.toNat,0,0,0⟩,false),.none hgo,rfl,rfl⟩ rfl (AV.le.tup ⟨.refl _,.bool hn,trivial⟩)
end Tdoc
/- The reference's files of templates, details and infos. -/
set_option maxHeartbeats 8000000
set_option maxRecDepth 100000
set_option linter.unusedVariables false
set_option linter.unusedSimpArgs false
namespace Tdoc
open Go Go.Proofs
theorem fitsT_spec (n:Int) (hn : -9223372036854775807≤n∧n≤9223372036854775807) (l:List Tpl) (hl:l.length≤1000000):Spec Tryz.prog 72 [.d (.int .i64 n),.d (.sl 7 (encTs l))] [] (fun r h'=>r=.d (.bool (fitsT n l))∧h'=[]):=by
 have hll:=qCg l
 have hwn:IntKind.i64.wrap (n-1)=n-1:=qAd (by omega)
 unfold fitsT
 generalize hfin:(l.all fun t=>decide (t.kind=n-1))=fin
 refine qAb hT Tryz.func72 rfl rfl rfl rfl ?_;intro E hE
 refine ww ?_
 refine qAn (ι:=Nat) (fun i=>[(0,.d (.int .i64 n)),(1,.d (.sl 7 (encTs l))),(5,.d (.int .i64 (i:Int)))]) (fun _=>[]) (fun i=>i≤l.length∧((l.drop i).all fun t=>decide (t.kind=n-1))=fin) (fun i=>l.length-i) 0 ⟨by omega,by simpa using hfin⟩ ⟨.refl _,.refl _,.refl _,trivial⟩ (HLe.refl _) ?_
 rintro i ⟨hi,hg⟩
 have hwr:IntKind.i64.wrap ((i:Int)+1)=((i+1:Nat):Int):=by rw [qAd (by omega)];simp
 refine ww ?_
 refine qAa rfl (fun c2=>?_) (fun c2=>?_)
 ·have c2':i < l.length:=by rw [hll] at c2;simpa using c2
  have hel:=encTs_at c2'
  have hdr:l.drop i=l[i]::l.drop (i+1):=List.drop_eq_getElem_cons c2'
  rw [hdr,List.all_cons] at hg
  generalize l[i]=t at hel hg
  refine ww ?_
  refine wwi hel ?_
  refine ww ?_
  refine qAa rfl (fun c3=>?_) (fun c3=>?_)
  ·have c3':¬ t.kind=n-1:=by rw [hwn] at c3;simpa using c3
   rw [decide_eq_false c3',Bool.false_and] at hg
   subst hg
   refine ww ?_
   exact wwr
  ·have c3':t.kind=n-1:=by rw [hwn] at c3;simpa using c3
   rw [decide_eq_true c3',Bool.true_and] at hg
   refine ww ?_
   exact ⟨i+1,⟨by omega,hg⟩,by omega,⟨.refl _,.refl _,.int hwr,trivial⟩,HLe.refl _⟩
 ·have c2':i=l.length:=by rw [hll] at c2;simp at c2;omega
  subst c2'
  rw [List.drop_length,List.all_nil] at hg
  subst hg
  refine ww ?_
  exact wwr
theorem bioF_spec (n:Int) (hn : -9223372036854775807≤n∧n≤9223372036854775807) (l:List Tpl) (hl:l.length≤1000000):Spec Tryz.prog 29 [.d (.int .i64 n),.d (.sl 7 (encTs l))] [] (fun r h'=>r=.tup [.d (.sl 1 (encB (bioF n l).1)),.d (.int .i64 (bioF n l).2)]∧h'=[]):=by
 have he:=encTR_spec l hl
 have hft:=fitsT_spec n hn l hl
 obtain ⟨f1,f2,f3⟩:=encTR_fit l
 have hw:=WrapR_spec n (by omega) (encTR l).1 (by omega) f1 (by omega)
 unfold bioF
 generalize encTR l=q at he hw
 obtain ⟨k,e⟩:=q
 simp only at he hw ⊢
 generalize fitsT n l=ft at hft
 generalize wrapG n k=w at hw
 obtain ⟨w,we⟩:=w
 simp only at hw ⊢
 generalize encNs k=ks at he hw
 generalize encTs l=ts at he hft
 refine qAb hT Tryz.func29 rfl rfl rfl rfl ?_;intro E hE
 refine ww ?_
 refine qAa rfl (fun c1=>?_) (fun c1=>?_)
 ·have c1':n < 2∨n > 4:=by simpa using c1
  rw [if_pos c1']
  refine ww ?_
  exact wwr
 have c1':¬ (n < 2∨n > 4):=by simp only [Bool.or_eq_false_iff,decide_eq_false_iff_not] at c1;omega
 rw [if_neg c1']
 refine ww ?_
 refine wwc he ?_
 refine ww ?_
 refine qAa rfl (fun c2=>?_) (fun c2=>?_)
 ·have c2':e≠0:=by simpa using c2
  rw [if_pos c2']
  refine ww ?_
  exact wwr
 have c2':¬ e≠0:=by simpa using c2
 rw [if_neg c2']
 refine ww ?_
 refine wwc hft ?_
 refine ww ?_
 refine qAa rfl (fun c3=>?_) (fun c3=>?_)
 ·have c3':ft=false:=by simpa using c3
  rw [if_pos c3']
  refine ww ?_
  exact wwr
 have c3':¬ ft=false:=by simpa using c3
 rw [if_neg c3']
 refine ww ?_
 refine wwc hw ?_
 refine ww ?_
 exact wwr
theorem belongs_spec (n t:Int):Spec Tryz.prog 75 [.d (.int .i64 n),.d (.int .i64 t)] [] (fun r h'=>r=.d (.bool (belongsF n t))∧h'=[]):=by
 unfold belongsF
 refine qAb hT Tryz.func75 rfl rfl rfl rfl ?_;intro E hE
 refine ww ?_
 refine qAa rfl (fun c1=>?_) (fun c1=>?_)
 ·rw [if_pos (show n=11 by simpa using c1)]
  refine ww ?_
  refine rq ⟨rfl,rfl⟩ rfl (.bool ?_)
  by_cases g1:t=24334 <;> by_cases g2:24336≤t <;> by_cases g3:t≤24341 <;> by_cases g4:t=24386 <;> simp [g1,g2,g3,g4] <;> omega
 ·rw [if_neg (show ¬ n=11 by simpa using c1)]
  refine ww ?_
  refine rq ⟨rfl,rfl⟩ rfl (.bool ?_)
  by_cases g1:t=24345 <;> by_cases g2:t=24358 <;> by_cases g3:t=24347 <;> by_cases g4:t=24405 <;> simp [g1,g2,g3,g4]
theorem detL_ok (n:Int):∀ (l seen:List Det),detL n seen l=0→∀ x∈l,belongsF n x.tag=true∧x.text.length≤99
 | [],_,_,x,hx=>by cases hx
 | a::l,seen,h,x,hx=>by
  rw [detL] at h
  split at h
  ·exact absurd h (by omega)
  split at h
  ·exact absurd h (by omega)
  split at h
  ·exact absurd h (by omega)
  rename_i h1 h2 h3
  rcases List.mem_cons.1 hx with rfl | hx
  ·exact ⟨by simpa using h1,by omega⟩
  ·exact detL_ok n l _ h x hx
theorem belongs_range {n t:Int} (h:belongsF n t=true):24334≤t∧t≤24405:=by
 unfold belongsF at h
 split at h
 ·rw [decide_eq_true_eq] at h;omega
 ·rw [decide_eq_true_eq] at h;omega
theorem kidsD_fit:∀ (l:List Det),(∀ x∈l,(24334≤x.tag∧x.tag≤24405)∧x.text.length≤99)→fitL (kidsD l)∧sizeL (kidsD l)=l.length∧(kidsD l).length=l.length
 | [],_=>⟨trivial,rfl,rfl⟩
 | x::l,h=>by
  obtain ⟨h1,h2,h3⟩:=kidsD_fit l fun y hy=>h y (by simp [hy])
  obtain ⟨g1,g2⟩:=h x (by simp)
  refine ⟨⟨⟨by omega,by omega,by simp,trivial⟩,h1⟩,?_,by simp [kidsD]⟩
  show sizeL (.mk x.tag x.text []::kidsD l)=_
  rw [sizeL,h2,sizeN,sizeL,List.length_cons];omega
theorem detF_spec (n:Int) (hn : -9223372036854775807≤n∧n≤9223372036854775807) (l:List Det) (hl:l.length≤1000000):Spec Tryz.prog 31 [.d (.int .i64 n),.d (.sl 2 (encDs l))] [] (fun r h'=>r=.tup [.d (.sl 1 (encB (detF n l).1)),.d (.int .i64 (detF n l).2)]∧h'=[]):=by
 have hll:=qBx l
 unfold detF
 refine qAb hT Tryz.func31 rfl rfl rfl rfl ?_;intro E hE
 refine ww ?_
 refine qAa rfl (fun c1=>?_) (fun c1=>?_)
 ·have c1':n≠11∧n≠12:=by simpa using c1
  rw [if_pos c1']
  refine ww ?_
  exact wwr
 have c1':¬ (n≠11∧n≠12):=by rintro ⟨g1,g2⟩;simp [g1,g2] at c1
 rw [if_neg c1']
 refine ww ?_
 refine qAa rfl (fun c2=>?_) (fun c2=>?_)
 ·have c2':l.length > 16:=by rw [hll] at c2;simp at c2;omega
  rw [if_pos c2']
  refine ww ?_
  exact wwr
 have c2':¬ l.length > 16:=by rw [hll] at c2;simp at c2;omega
 rw [if_neg c2']
 generalize hfin:detL n [] l=e
 refine wwe ?_
 refine qAm (qAj ?_)
 refine wws ?_
 refine qAm (qAj ?_)
 refine wws ?_
 refine qAq ?_
 refine qAq ?_
 refine qAt 6 1 0 (es:=[]) (.inr ⟨rfl,rfl⟩) rfl ?_
 refine qAt 7 3 1 (es:=[]) (.inr ⟨rfl,rfl⟩) rfl ?_
 refine ww ?_
 refine qAn (ι:=Nat) (fun i=>[(0,.d (.int .i64 n)),(1,.d (.sl 2 (encDs l))),(6,.sl 1 (encB (listD (l.take i))) (.right 0)),(7,.sl 3 (encNs (kidsD (l.take i))) (.right 1)),(8,.d (.int .i64 (i:Int)))])
  (fun i=>[.right 1 (encB (listD (l.take i))).length,.right 3 (encNs (kidsD (l.take i))).length]) (fun i=>i≤l.length∧detL n (l.take i) (l.drop i)=e) (fun i=>l.length-i) 0 ⟨by omega,by simpa using hfin⟩ ⟨.refl _,.refl _,.refl _,.refl _,.refl _,trivial⟩ (HLe.refl _) ?_
 rintro i ⟨hi,hg⟩
 have hwr:IntKind.i64.wrap ((i:Int)+1)=((i+1:Nat):Int):=by rw [qAd (by omega)];simp
 have hl1:(encB (listD (l.take i))).length≤32:=by rw [qAg,listD_length,List.length_take];omega
 have hl2:(encNs (kidsD (l.take i))).length≤16:=by rw [qAh];simp [kidsD];omega
 refine ww ?_
 refine qAa rfl (fun c3=>?_) (fun c3=>?_)
 ·have c3':i < l.length:=by rw [hll] at c3;simpa using c3
  have hel:=encDs_at c3'
  have hdr:l.drop i=l[i]::l.drop (i+1):=List.drop_eq_getElem_cons c3'
  have htk1:l.take (i+1)=l.take i++[l[i]]:=List.take_succ_eq_append_getElem c3'
  have ht1:encB (listD (l.take (i+1)))=encB (listD (l.take i))++[[.int .u8 (IntKind.u8.wrap (Int.fdiv (l[i]).tag (2 ^ (min (8:Int).toNat IntKind.i64.bits))))],[.int .u8 (IntKind.u8.wrap (l[i]).tag)]]:=by rw [htk1,listD_append,qBa,bOf_hi,bOf_wrap];rfl
  have ht2:encNs (kidsD (l.take (i+1)))=encNs (kidsD (l.take i))++[encN (.mk (l[i]).tag (l[i]).text [])]:=by rw [htk1,kidsD_append,qCz];rfl
  have hbe:=belongs_spec n (l[i]).tag
  rw [hdr,detL,← htk1] at hg
  have hseen:∀ k,k < i→l[k]?=(l.take i)[k]?:=fun k hk=>by rw [List.getElem?_take,if_pos hk]
  generalize hx:l[i]=x at hel hg ht1 ht2 hbe
  obtain ⟨tg,tx⟩:=x
  unfold encD at hel
  simp only at hel hg ht1 ht2 hbe
  generalize belongsF n tg=bl at hbe hg
  refine ww ?_
  refine wwi hel ?_
  refine ww ?_
  refine wwc hbe ?_
  refine ww ?_
  refine qAa rfl (fun c4=>?_) (fun c4=>?_)
  ·have c4':bl=false:=by simpa using c4
   rw [if_pos c4'] at hg
   subst hg
   rw [if_pos (by simp)]
   refine ww ?_
   exact wwr
  have c4':¬ bl=false:=by simpa using c4
  rw [if_neg c4'] at hg
  refine ww ?_
  generalize hsn:((l.take i).any fun y=>decide (y.tag=tg))=sn at hg
  generalize encB (listD (l.take i))=lb at hl1 ht1 ⊢
  generalize encNs (kidsD (l.take i))=kb at hl2 ht2 ⊢
  refine qAn (ι:=Nat) (fun k=>[(0,.d (.int .i64 n)),(1,.d (.sl 2 (encDs l))),(6,.sl 1 lb (.right 0)),(7,.sl 3 kb (.right 1)),(8,.d (.int .i64 (i:Int))),(9,.d (.int .i64 tg)),(10,.d (.int .i64 (k:Int)))])
   (fun _=>[.right 1 lb.length,.right 3 kb.length]) (fun k=>k≤i∧(((l.take i).drop k).any fun y=>decide (y.tag=tg))=sn) (fun k=>i-k) 0 ⟨by omega,by simpa using hsn⟩ ⟨.refl _,.refl _,.refl _,.refl _,.refl _,.refl _,.refl _,trivial⟩ (HLe.refl _) ?_
  rintro k ⟨hk,hkg⟩
  have hwk:IntKind.i64.wrap ((k:Int)+1)=((k+1:Nat):Int):=by rw [qAd (by omega)];simp
  refine ww ?_
  refine qAa rfl (fun c5=>?_) (fun c5=>?_)
  ·have c5':k < i:=by simpa using c5
   have hel2:=encDs_at (l:=l) (i:=k) (by omega)
   have hdr2:(l.take i).drop k=l[k]::(l.take i).drop (k+1):=by
    rw [List.drop_eq_getElem_cons (by rw [List.length_take];omega),List.getElem_take]
   rw [hdr2,List.any_cons] at hkg
   generalize l[k]=y at hel2 hkg
   obtain ⟨yt,yx⟩:=y
   unfold encD at hel2
   simp only at hel2 hkg
   refine ww ?_
   refine wwi hel2 ?_
   refine ww ?_
   refine qAa rfl (fun c6=>?_) (fun c6=>?_)
   ·have c6':yt=tg:=by simpa using c6
    rw [decide_eq_true c6',Bool.true_or] at hkg
    subst hkg
    rw [if_pos rfl] at hg
    subst hg
    rw [if_pos (by simp)]
    refine ww ?_
    exact wwr
   ·have c6':¬ yt=tg:=by simpa using c6
    rw [decide_eq_false c6',Bool.false_or] at hkg
    refine ww ?_
    exact ⟨k+1,⟨by omega,hkg⟩,by omega,⟨.refl _,.refl _,.refl _,.refl _,.refl _,.refl _,.int hwk,trivial⟩,HLe.refl _⟩
  ·have c5':k=i:=by simp at c5;omega
   subst c5'
   have hz:((l.take k).drop k)=[]:=List.drop_eq_nil_of_le (by rw [List.length_take];omega)
   rw [hz,List.any_nil] at hkg
   subst hkg
   rw [if_neg (by simp)] at hg
   refine ww ?_
   refine wwi hel ?_
   refine ww ?_
   refine wwgi hel ?_
   refine ww ?_
   refine qAa rfl (fun c7=>?_) (fun c7=>?_)
   ·have c7':tx.length < 1∨tx.length > 99:=by simp only [Bool.or_eq_true,decide_eq_true_eq] at c7;omega
    rw [if_pos c7'] at hg
    subst hg
    rw [if_pos (by simp)]
    refine ww ?_
    exact wwr
   have c7':¬ (tx.length < 1∨tx.length > 99):=by simp only [Bool.or_eq_false_iff,decide_eq_false_iff_not] at c7;omega
   rw [if_neg c7'] at hg
   have hp:=qDo tg tx (by omega)
   refine ww ?_
   refine qAe (qAk (i:=0) hT rfl rfl rfl rfl rfl rfl (by show (lb.length+2)*(1+1)≤_;first | omega | (simp only [qAg,qAh,List.length_append,List.length_cons,List.length_nil];omega))) rfl ?_
   refine ww ?_
   refine wwi hel ?_
   refine ww ?_
   refine qAe (strBytes_ok (s:=tx) hT rfl rfl rfl) rfl ?_
   refine ww ?_
   refine wwc hp ?_
   refine ww ?_
   refine qAe (qAk (i:=1) hT rfl rfl rfl rfl rfl rfl (by show (kb.length+1)*(56+1)≤_;first | omega | (simp only [qAg,qAh,List.length_append,List.length_cons,List.length_nil];omega))) rfl ?_
   refine ww ?_
   exact ⟨k+1,⟨by omega,hg⟩,by omega,⟨.refl _,.refl _,AV.le.eq (by rw [ht1];rfl),AV.le.eq (by rw [ht2];rfl),.int hwr,trivial⟩,⟨⟨rfl,by rw [ht1]⟩,⟨rfl,by rw [ht2];rfl⟩,trivial⟩⟩
 ·have c3':i=l.length:=by rw [hll] at c3;simp at c3;omega
  subst c3'
  rw [List.drop_length,detL] at hg
  subst hg
  rw [if_neg (by simp),List.take_length]
  have hok:=detL_ok n l [] hfin
  have hk:=kidsD_fit l fun x hx=>⟨belongs_range (hok x hx).1,(hok x hx).2⟩
  have hld:=listD_length l
  have hp:=qDo 92 (listD l) (by omega)
  have hw:=WrapR_spec n (by omega) (.mk 92 (listD l) []::kidsD l) (by rw [List.length_cons,hk.2.2];omega) ⟨⟨by omega,by omega,by simp,trivial⟩,hk.1⟩ (by rw [sizeL,sizeN,hk.2.1];simp [sizeL];omega)
  generalize wrapG n (.mk 92 (listD l) []::kidsD l)=w at hw
  obtain ⟨w,we⟩:=w
  simp only at hw ⊢
  refine wwe ?_
  refine AW_subL (l:=[(0,.d (.int .i64 n)),(6,.d (.sl 1 (encB (listD l)))),(7,.d (.sl 3 (encNs (kidsD l))))]) (h':=[.right 1 (encB (listD l)).length,.right 3 (encNs (kidsD l)).length]) ⟨.refl _,AV.le.dat,AV.le.dat,trivial⟩ (HLe.refl _) ?_
  have hkn:(encNs (kidsD l)).length≤16:=by rw [qAh,hk.2.2];omega
  refine ww ?_
  refine wwc hp ?_
  refine ww ?_
  refine qAe (qBi (es:=encNs [.mk 92 (listD l) []]) (es2:=encNs (kidsD l)) hT rfl rfl rfl (.inl rfl) rfl (by show (1+_)*(56+1)≤_;omega)) rfl ?_
  refine ww ?_
  refine wwc hw ?_
  refine ww ?_
  exact wwr
theorem infosF_spec (l:List Inf) (hl:l.length≤1000000) (hk:∀ x∈l,KeyOk x):Spec Tryz.prog 33 [.d (.sl 5 (encFs l))] [] (fun r h'=>r=.tup [.d (.sl 1 (encB (infosF l).1)),.d (.int .i64 (infosF l).2)]∧h'=[]):=by
 have hv:=validI_spec l hl
 have hs:=setI_spec l hl hk
 have hs':Spec Tryz.prog 78 [.d (.sl 5 (encFs l))] [] (fun r h'=>r=.agg [.d (.int .i64 49),.d (.sl 1 []),.d (.sl 3 (encNs (l.map objI)))]∧h'=[]):=hs
 unfold infosF
 by_cases h0:validI l=0
 ·rw [if_neg (by simp [h0])]
  have h16:l.length≤16:=by
   unfold validI at h0
   split at h0
   ·exact absurd h0 (by omega)
   ·omega
  have hf:=setI_fit h16
  have hw:=WrapR_spec 14 (by omega) [setI l] (by simp) hf.1 (by omega)
  rw [h0] at hv
  unfold setI at hw ⊢
  generalize wrapG 14 [.mk 49 [] (l.map objI)]=w at hw
  obtain ⟨w,we⟩:=w
  simp only at hw ⊢
  generalize encFs l=es at hv hs'
  refine qAb hT Tryz.func33 rfl rfl rfl rfl ?_;intro E hE
  refine ww ?_
  refine wwc hv ?_
  refine ww ?_
  refine qAa rfl (fun c1=>?_) (fun c1=>?_)
  ·exact absurd c1 (by simp)
  refine ww ?_
  refine wwc hs' ?_
  refine ww ?_
  refine wwc hw ?_
  refine ww ?_
  exact wwr
 ·rw [if_pos h0]
  generalize validI l=e at hv h0
  generalize encFs l=es at hv
  refine qAb hT Tryz.func33 rfl rfl rfl rfl ?_;intro E hE
  refine ww ?_
  refine wwc hv ?_
  refine ww ?_
  refine qAa rfl (fun c1=>?_) (fun c1=>?_)
  ·refine ww ?_
   exact wwr
  ·exact absurd (by simpa using c1) h0
end Tdoc
/- The reference opens a group of templates; templates that are the same. -/
set_option maxHeartbeats 8000000
set_option maxRecDepth 100000
set_option linter.unusedVariables false
set_option linter.unusedSimpArgs false
namespace Tdoc
open Go Go.Proofs
theorem openX_wg (b:List UInt8):wgtL (openX b).2.1≤45056:=by
 unfold openX
 split
 ·simp [wgtL]
 ·rename_i h
  have hg:=qDj (b:=b) (st:=false) (by omega)
  split
  ·rename_i t v k hk
   rw [hk] at hg
   have:wgtL [Node.mk t v k]=11+v.length+wgtL k:=by simp [wgtL,wgtN]
   split
   ·simp [wgtL]
   ·simp only;omega
  ·simp [wgtL]
theorem contT_ok {ks:List Node}:∀ (out:List Tpl),(∀ t,t∈(contT out ks).1→validT t=0)∧(contT out ks).1.length≤8:=fun out=>by
 have h0:(∀ t,t∈([]:List Tpl)→validT t=0)∧([]:List Tpl).length≤8:=⟨(fun t h=>by cases h),by simp⟩
 have hf:∀ o:List Tpl,(∀ t,t∈(finT o).1→validT t=0)∧(finT o).1.length≤8:=fun o=>by
  unfold finT
  split
  ·exact h0
  ·rename_i h
   have h:(encTR o).2=0:=by omega
   unfold encTR at h
   split at h
   ·exact absurd h (by omega)
   split at h
   ·rename_i h2;exact absurd h h2
   ·rename_i h1 h2
    exact ⟨fun t ht=>firstT_mem (l:=o) (by omega) t ht,by simp only;omega⟩
 unfold contT
 split
 ·exact h0
 ·exact hf _
theorem decTs_ok (l:List Node):(∀ t,t∈(decTs l).1→validT t=0)∧(decTs l).1.length≤8:=by
 have h0:(∀ t,t∈([]:List Tpl)→validT t=0)∧([]:List Tpl).length≤8:=⟨(fun t h=>by cases h),by simp⟩
 by_cases h1:l.length=1
 case neg=>rw [decTs_many h1];exact h0
 match l,h1 with
 | [x],_ =>
  by_cases hc:consF x 32609 (-1)=true
  case neg=>rw [decTs_cons (by simpa using hc)];exact h0
  match hk:kidN x with
  | []=>rw [decTs_nil hk];exact h0
  | y::ks =>
   by_cases hp:primF y 2 1=true
   case neg=>rw [decTs_prim hk (by simpa using hp)];exact h0
   rw [decTs_go hc hk _ rfl hp]
   split
   ·rw [decR_eq];exact contT_ok []
   ·exact h0
theorem OpenBioR_spec (b:List UInt8) (hb:b.length≤9223372036854775807):Spec Tryz.prog 83 [.d (.sl 1 (encB b))] []
  (fun r h'=>r=.tup [.d (.int .i64 (bioO b).1),.d (.sl 7 (encTs (bioO b).2.1)),.d (.int .i64 (bioO b).2.2)]∧h'=[]):=by
 have ho:=openR_spec b (by omega) 2 4
 have hD:=DecodeT_spec (openX b).2.1 (by have:=openX_wg b;omega)
 have hk:=(decTs_ok (openX b).2.1).2
 unfold bioO
 unfold openZ at ho
 generalize openX b=q at ho hD hk
 obtain ⟨n,l,e⟩:=q
 simp only at ho hD hk ⊢
 by_cases h1:e=0
 case neg =>
  rw [if_pos h1] at ho ⊢
  refine qAb hT Tryz.func83 rfl rfl rfl rfl ?_;intro E hE
  refine ww ?_
  refine wwc ho ?_
  refine ww ?_
  refine qAa rfl (fun c1=>?_) (fun c1=>?_)
  ·refine ww ?_
   exact wwr
  ·exact absurd (by simpa using c1) h1
 rw [if_neg (by omega)] at ho ⊢
 by_cases h2:n < 2∨n > 4
 case pos =>
  rw [if_pos h2] at ho ⊢
  refine qAb hT Tryz.func83 rfl rfl rfl rfl ?_;intro E hE
  refine ww ?_
  refine wwc ho ?_
  refine ww ?_
  refine qAa rfl (fun c1=>?_) (fun c1=>?_)
  ·refine ww ?_
   exact wwr
  ·exact absurd c1 (by simp)
 rw [if_neg h2] at ho ⊢
 have hF:=fitsT_spec n (by omega) (decTs l).1 (by omega)
 generalize decTs l=d at hD hF
 obtain ⟨d,de⟩:=d
 simp only at ho hD hF ⊢
 generalize fitsT n d=ft at hF
 refine qAb hT Tryz.func83 rfl rfl rfl rfl ?_;intro E hE
 refine ww ?_
 refine wwc ho ?_
 refine ww ?_
 refine qAa rfl (fun c1=>?_) (fun c1=>?_)
 ·exact absurd c1 (by simp)
 refine ww ?_
 refine wwc hD ?_
 refine ww ?_
 refine qAa rfl (fun c2=>?_) (fun c2=>?_)
 ·have c2':de≠0:=by simpa using c2
  rw [if_pos c2']
  refine ww ?_
  exact wwr
 have c2':¬ de≠0:=by simpa using c2
 rw [if_neg c2']
 refine ww ?_
 refine wwc hF ?_
 refine ww ?_
 refine qAa rfl (fun c3=>?_) (fun c3=>?_)
 ·have c3':ft=false:=by simpa using c3
  rw [if_pos c3']
  refine ww ?_
  exact wwr
 have c3':¬ ft=false:=by simpa using c3
 rw [if_neg c3']
 refine ww ?_
 exact wwr
theorem SameTpl_spec (l:List Tpl) (hl:l.length≤1000000) (hd:∀ t,t∈l→t.data.length≤1000000) :
  Spec Tryz.prog 47 [.d (.sl 7 (encTs l)),.d (.sl 7 (encTs l))] [] (fun r h'=>r=.d (.bool true)∧h'=[]):=by
 have hll:=qCg l
 refine qAb hT Tryz.func47 rfl rfl rfl rfl ?_;intro E hE
 refine ww ?_
 refine qAa rfl (fun c1=>?_) (fun c1=>?_)
 ·exact absurd c1 (by simp)
 refine ww ?_
 refine qBg (ι:=Nat) (fun i=>[(0,.d (.sl 7 (encTs l))),(1,.d (.sl 7 (encTs l))),(5,.d (.int .i64 (i:Int)))]) (fun _=>[]) (fun i=>i≤l.length) (fun i=>l.length-i) 0 (by omega) ⟨.refl _,.refl _,.refl _,trivial⟩ (HLe.refl _) ?_
 intro i hi
 have hwr:IntKind.i64.wrap ((i:Int)+1)=((i+1:Nat):Int):=by rw [qAd (by omega)];simp
 refine ww ?_
 refine qAa rfl (fun c2=>?_) (fun c2=>?_)
 ·have c2':i < l.length:=by rw [hll] at c2;simpa using c2
  have hel:=encTs_at c2'
  have hdl:=hd _ (List.getElem_mem c2')
  generalize l[i]=t at hel hdl
  obtain ⟨kind,part,frm,til,fmt,qual,data⟩:=t
  have hS:=SameSelf_spec data (by simp only at hdl;omega)
  unfold encT at hel
  simp only at hel
  refine wwe ?_
  refine qAq (qAq ?_)
  refine qAm ?_
  refine qCk ?_
  refine qAm ?_
  refine qAz (fun i=>bif Nat.beq i 8 then [0] else bif Nat.beq i 9 then [1] else bif Nat.beq i 10 then [0] else bif Nat.beq i 11 then [1] else []) (fun i=>bif Nat.beq i 8 then [0] else bif Nat.beq i 9 then [1] else bif Nat.beq i 10 then [0] else bif Nat.beq i 11 then [1] else []) mixed (by kernel_rfl) ?_
  refine wwg ?_
  refine qBl (qAi hT rfl rfl rfl rfl (by omega) hel) rfl rfl ?_
  refine wwg ?_
  refine qBl (qAi hT rfl rfl rfl rfl (by omega) hel) rfl rfl ?_
  refine wwg ?_
  refine qBd (v:=.ptr 0 0) (os:=[.row [.d (.int .i64 0),.d (.int .i64 0),.d (.int .i64 0),.d (.int .i64 0),.d (.int .i64 0),.d (.int .i64 0),.sl 1 [] .full]]) (fun k hk1 hk2=>qDn (i0:=0) (t:=50) (i:=⟨.struct [(0,1,false),(1,1,false),(2,1,false),(3,1,false),(4,1,false),(5,1,false),(6,1,false)],7,72,[.d (.int .i64 0),.d (.int .i64 0),.d (.int .i64 0),.d (.int .i64 0),.d (.int .i64 0),.d (.int .i64 0),.sl 1 [] .full]⟩) hT rfl rfl (hk2 0 List.mem_cons_self)) rfl ?_
  refine wwg ?_
  refine qBd (v:=.ptr 1 0) (os:=[.row [.d (.int .i64 0),.d (.int .i64 0),.d (.int .i64 0),.d (.int .i64 0),.d (.int .i64 0),.d (.int .i64 0),.sl 1 [] .full]]) (fun k hk1 hk2=>qDn (i0:=1) (t:=50) (i:=⟨.struct [(0,1,false),(1,1,false),(2,1,false),(3,1,false),(4,1,false),(5,1,false),(6,1,false)],7,72,[.d (.int .i64 0),.d (.int .i64 0),.d (.int .i64 0),.d (.int .i64 0),.d (.int .i64 0),.d (.int .i64 0),.sl 1 [] .full]⟩) hT rfl rfl (hk2 1 List.mem_cons_self)) rfl ?_
  refine wwg ?_
  refine ww ?_
  refine wwgc hS ?_
  refine ww ?_
  refine qAa rfl (fun c3=>?_) (fun c3=>?_)
  ·exact absurd c3 (by simp)
  ·refine ww ?_
   exact ⟨i+1,[_,_],by omega,by omega,⟨.refl _,.refl _,.int hwr,trivial⟩,HLe.refl _,Env.below_mono hE (by simp),rfl,rfl⟩
 ·refine ww ?_
  exact wwr
end Tdoc
/- The reference opens a group of details. -/
set_option maxHeartbeats 8000000
set_option maxRecDepth 100000
set_option linter.unusedVariables false
set_option linter.unusedSimpArgs false
namespace Tdoc
open Go Go.Proofs
def detG:List UInt8→List Node→Option (List Det)
 | [],[]=>some []
 | hi::lo::v,x::l=>if tagCons ((nbN [hi,lo]:Nat):Int)=true∨primF x ((nbN [hi,lo]:Nat):Int) (-1)=false then none else (detG v l).map (⟨((nbN [hi,lo]:Nat):Int),valN x⟩::·)
 | _,_=>none
def finD (n:Int) (out:List Det):Int×List Det×Int:=if (detF n out).2≠0 then (0,[],(detF n out).2) else (n,out,0)
def contD (n:Int) (out:List Det) (v:List UInt8) (rest:List Node):Int×List Det×Int:=match detG v rest with
 | none=>(0,[],1)
 | some r=>finD n (out++r)
theorem contD_nil (n:Int) (out:List Det):contD n out [] []=finD n out:=by unfold contD detG;simp
theorem contD_bad {n:Int} {out:List Det} {hi lo:UInt8} {v:List UInt8} {x:Node} {l:List Node} (h:tagCons ((nbN [hi,lo]:Nat):Int)=true∨primF x ((nbN [hi,lo]:Nat):Int) (-1)=false):contD n out (hi::lo::v) (x::l)=(0,[],1):=by
 unfold contD;rw [detG,if_pos h]
theorem contD_good {n:Int} {out:List Det} {hi lo:UInt8} {v:List UInt8} {x:Node} {l:List Node} (h:¬ (tagCons ((nbN [hi,lo]:Nat):Int)=true∨primF x ((nbN [hi,lo]:Nat):Int) (-1)=false)) :
  contD n out (hi::lo::v) (x::l)=contD n (out++[⟨((nbN [hi,lo]:Nat):Int),valN x⟩]) v l:=by
 unfold contD;rw [detG,if_neg h]
 cases detG v l <;> simp
def detB (n:Int) (l:List Node):Int×List Det×Int:=match l with
 | []=>(0,[],1)
 | x::r=>if primF x 92 (2*(r.length:Int))=true then contD n [] (valN x) r else (0,[],1)
def detO (b:List UInt8):Int×List Det×Int:=if (openZ b 11 12).2.2≠0 then (0,[],(openZ b 11 12).2.2) else detB (openZ b 11 12).1 (openZ b 11 12).2.1
theorem openZ_ok {b:List UInt8} {lo hi:Int} (h:(openZ b lo hi).2.2=0):lo≤(openZ b lo hi).1∧(openZ b lo hi).1≤hi∧(openZ b lo hi).2.1=(openX b).2.1∧(openX b).2.2=0∧(openZ b lo hi).1=(openX b).1:=by
 unfold openZ at h ⊢
 split at h
 ·rename_i h2;exact absurd h h2
 rename_i h2
 rw [if_neg h2]
 split at h
 ·simp at h
 rename_i h3
 rw [if_neg h3]
 exact ⟨by simp only;omega,by simp only;omega,rfl,by omega,rfl⟩
theorem detB_walk (b:List UInt8) (hb:b.length≤9223372036854775807) (n:Int) (l:List Node) (hn:11≤n∧n≤12) (hw:wgtL l≤1000000)
  (ho:Spec Tryz.prog 142 [.d (.sl 1 (encB b)),.d (.int .i64 11),.d (.int .i64 12)] [] (fun r h'=>r=.tup [.d (.int .i64 n),.d (.sl 3 (encNs l)),.d (.int .i64 0)]∧h'=[])) :
  Spec Tryz.prog 84 [.d (.sl 1 (encB b))] [] (fun r h'=>r=.tup [.d (.int .i64 (detB n l).1),.d (.sl 2 (encDs (detB n l).2.1)),.d (.int .i64 (detB n l).2.2)]∧h'=[]):=by
 have hlen:=qAh l
 match l,hlen with
 | [],hlen =>
  have hs:decide (((encNs []).length:Int) < 1)=true:=rfl
  unfold detB
  refine qAb hT Tryz.func84 rfl rfl rfl rfl ?_;intro E hE
  refine ww ?_
  refine wwc ho ?_
  refine ww ?_
  refine qAa rfl (fun c1=>?_) (fun c1=>?_)
  ·exact absurd c1 (by simp)
  refine wwk hs ?_
  refine qAa rfl (fun c2=>?_) (fun c2=>?_)
  ·refine ww ?_
   exact wwr
  ·exact absurd c2 (by rw [hs];simp)
 | .mk t v k::r,hlen =>
 have hP:=qBo (.mk t v k) 92 (2*(r.length:Int))
 rw [qCe] at hP
 have hrl:r.length≤1000000:=by have:=qDe r;rw [wgtL] at hw;omega
 have hvl:v.length≤1000000:=by rw [wgtL,wgtN] at hw;omega
 have hpi:=primF_iff (x:=.mk t v k) (t:=92) (n:=2*(r.length:Int))
 have hel:(encNs (.mk t v k::r))[((0:Int)).toNat]?=some [.int .i64 t,.sl 1 (encB v),.sl 3 (encNs k)]:=rfl
 rw [List.length_cons] at hlen
 have hw2:IntKind.i64.wrap (2*IntKind.i64.wrap (((encNs (.mk t v k::r)).length:Int)-1))=2*(r.length:Int):=by
  rw [hlen,qAd (n:=((r.length+1:Nat):Int)-1) (by omega),qAd (by omega)];omega
 unfold detB
 simp only
 generalize primF (.mk t v k) 92 (2*(r.length:Int))=pv at hP hpi
 rw [← hw2] at hP
 by_cases hp:pv=true
 case neg =>
  have hpn:pv=false:=by simpa using hp
  rw [if_neg hp]
  refine qAb hT Tryz.func84 rfl rfl rfl rfl ?_;intro E hE
  refine ww ?_
  refine wwc ho ?_
  refine ww ?_
  refine qAa rfl (fun c1=>?_) (fun c1=>?_)
  ·exact absurd c1 (by simp)
  refine ww ?_
  refine wwgi hel ?_
  refine ww ?_
  refine wwgc hP ?_
  refine ww ?_
  refine qAa rfl (fun c2=>?_) (fun c2=>?_)
  ·refine ww ?_
   exact wwr
  ·exact absurd c2 (by rw [hpn];simp)
 subst hp
 rw [if_pos rfl]
 have hv2:v.length=2*r.length:=by
  have h3:=(hpi.1 rfl).2.2
  simp only [valN] at h3
  omega
 simp only [valN]
 generalize hfin:contD n [] v r=fin
 have hc1:decide (((encNs (.mk t v k::r)).length:Int) < 1)=false:=by rw [hlen];simp;omega
 have hevl:=qAg v
 refine qAb hT Tryz.func84 rfl rfl rfl rfl ?_;intro E hE
 refine ww ?_
 refine wwc ho ?_
 refine ww ?_
 refine qAa rfl (fun c1=>?_) (fun c1=>?_)
 ·exact absurd c1 (by simp)
 refine ww ?_
 refine wwgi hel ?_
 refine ww ?_
 refine wwgc hP ?_
 refine ww ?_
 refine qAa rfl (fun c2=>?_) (fun c2=>?_)
 ·exact absurd c2 (by rw [hc1];simp)
 refine qAq ?_
 refine wwe ?_
 refine qAm (qAj ?_)
 refine wws ?_
 refine qAt 8 2 0 (es:=[]) (.inr ⟨rfl,rfl⟩) rfl ?_
 refine ww ?_
 refine qAn (ι:=Nat×List Det) (fun x=>[(5,.d (.int .i64 n)),(6,.d (.sl 3 (encNs (.mk t v k::r)))),(8,.sl 2 (encDs x.2) (.right 0)),(9,.d (.int .i64 ((x.1+1:Nat):Int)))]) (fun x=>[.right 2 (encDs x.2).length])
  (fun x=>x.1≤r.length∧x.2.length=x.1∧contD n x.2 (v.drop (2*x.1)) (r.drop x.1)=fin) (fun x=>r.length-x.1) (0,[]) ⟨by simp,rfl,by simpa using hfin⟩ ⟨.refl _,.refl _,.refl _,.refl _,trivial⟩ (HLe.refl _) ?_
 rintro ⟨i,out⟩ ⟨hi,hol,hg⟩
 simp only at hi hol hg ⊢
 have hel2:=qBx out
 have hwr:IntKind.i64.wrap (((i+1:Nat):Int)+1)=((i+1+1:Nat):Int):=by rw [qAd (by omega)];omega
 refine ww ?_
 refine qAa rfl (fun c3=>?_) (fun c3=>?_)
 ·have c3':i < r.length:=by rw [hlen] at c3;simp at c3;omega
  have hdr:r.drop i=r[i]::r.drop (i+1):=List.drop_eq_getElem_cons c3'
  have hdv:v.drop (2*i)=v[2*i]::v[2*i+1]::v.drop (2*(i+1)):=by
   rw [List.drop_eq_getElem_cons (by omega:2*i < v.length),List.drop_eq_getElem_cons (by omega:2*i+1 < v.length)]
   rfl
  have helx:(encNs (.mk t v k::r))[(((i+1:Nat):Int)).toNat]?=some (encN r[i]):=by
   rw [Int.toNat_natCast]
   simp [qBv,c3']
  have hwx:=wgt_mem (List.getElem_mem c3')
  have hwl:wgtL r≤1000000:=by rw [wgtL] at hw;omega
  rw [hdr,hdv] at hg
  have hcut0:((encB v).drop (2*i)).take 2=encB [v[2*i],v[2*i+1]]:=by
   unfold encB
   rw [← List.map_drop,hdv]
   rfl
  generalize v[2*i]=hi' at hg hcut0
  generalize v[2*i+1]=lo' at hg hcut0
  generalize r[i]=x at helx hg hwx
  obtain ⟨tx,vx,kx⟩:=x
  rw [encN] at helx
  have hvx:vx.length≤1000000:=by rw [wgtN] at hwx;omega
  have e1:IntKind.i64.wrap (2*((i+1:Nat):Int))=((2*i+2:Nat):Int):=by rw [qAd (by omega)];omega
  have e2:IntKind.i64.wrap (IntKind.i64.wrap (2*((i+1:Nat):Int))-2)=((2*i:Nat):Int):=by rw [e1,qAd (by omega)];omega
  have hcut:cutL (encB v) (IntKind.i64.wrap (IntKind.i64.wrap (2*((i+1:Nat):Int))-2)) (IntKind.i64.wrap (2*((i+1:Nat):Int)))=encB [hi',lo']:=by
   rw [e2,e1]
   unfold cutL
   rw [Int.toNat_natCast,Int.toNat_natCast,show 2*i+2-2*i=2 by omega]
   exact hcut0
  have hNu:=NumberR_spec [hi',lo'] (by simp)
  rw [← hcut] at hNu
  have hnl:=nbN_lt [hi',lo']
  have h2p:(256:Nat) ^ [hi',lo'].length=65536:=rfl
  rw [h2p] at hnl
  have hCo:=qCc ((nbN [hi',lo']:Nat):Int) (by omega)
  have hPx:=qBo (.mk tx vx kx) ((nbN [hi',lo']:Nat):Int) (-1)
  rw [qCe] at hPx
  have cb:=contD_bad (n:=n) (out:=out) (hi:=hi') (lo:=lo') (v:=v.drop (2*(i+1))) (x:=.mk tx vx kx) (l:=r.drop (i+1))
  have cg:=contD_good (n:=n) (out:=out) (hi:=hi') (lo:=lo') (v:=v.drop (2*(i+1))) (x:=.mk tx vx kx) (l:=r.drop (i+1))
  simp only [valN] at cb cg
  generalize tagCons ((nbN [hi',lo']:Nat):Int)=tc at hCo cb cg
  generalize primF (.mk tx vx kx) ((nbN [hi',lo']:Nat):Int) (-1)=px at hPx cb cg
  have hres:encDs (out++[⟨((nbN [hi',lo']:Nat):Int),vx⟩])=encDs out++[[Dat.int .i64 ((nbN [hi',lo']:Nat):Int),.str (bytesOf (encB vx))]]:=by rw [encDs_append,qBc];rfl
  refine ww ?_
  refine wwi hel ?_
  refine ww ?_
  refine wwc hNu ?_
  refine ww ?_
  refine wwc hCo ?_
  refine ww ?_
  refine wwgi helx ?_
  refine ww ?_
  refine wwgc hPx ?_
  refine ww ?_
  refine qAa rfl (fun c4=>?_) (fun c4=>?_)
  ·have c4':tc=true∨px=false:=by simpa using c4
   rw [cb c4'] at hg
   subst hg
   refine ww ?_
   exact wwr
  have c4':¬ (tc=true∨px=false):=by intro h;rcases h with h | h <;> simp [h] at c4
  rw [cg c4'] at hg
  refine ww ?_
  refine wwi helx ?_
  refine ww ?_
  refine qBn hT rfl rfl (qAv vx) ?_
  refine ww ?_
  refine qAe (qAk (i:=0) hT rfl rfl rfl rfl rfl rfl (by show ((encDs out).length+1)*(24+1)≤_;first | omega | (simp only [qAg,qAh,List.length_append,List.length_cons,List.length_nil];omega))) rfl ?_
  refine ww ?_
  exact ⟨(i+1,out++[⟨((nbN [hi',lo']:Nat):Int),vx⟩]),⟨c3',by rw [List.length_append,List.length_singleton,hol],hg⟩,by simp only;omega,⟨.refl _,.refl _,AV.le.eq (by rw [hres];rfl),.int hwr,trivial⟩,⟨⟨rfl,by rw [hres]⟩,trivial⟩⟩
 ·have c3':i=r.length:=by rw [hlen] at c3;simp at c3;omega
  subst c3'
  rw [List.drop_length,List.drop_eq_nil_of_le (by omega),contD_nil] at hg
  have hDe:=detF_spec n (by omega) out (by omega)
  unfold finD at hg
  generalize detF n out=w at hDe hg
  obtain ⟨w,we⟩:=w
  simp only at hDe hg
  refine wwe ?_
  refine AW_subL (l:=[(5,.d (.int .i64 n)),(8,.d (.sl 2 (encDs out)))]) (h':=[.right 2 (encDs out).length]) ⟨.refl _,AV.le.dat,trivial⟩ (HLe.refl _) ?_
  refine ww ?_
  refine wwc hDe ?_
  refine ww ?_
  refine qAa rfl (fun c5=>?_) (fun c5=>?_)
  ·have c5':we≠0:=by simpa using c5
   rw [if_pos c5'] at hg
   subst hg
   refine ww ?_
   exact wwr
  have c5':¬ we≠0:=by simpa using c5
  rw [if_neg c5'] at hg
  subst hg
  refine ww ?_
  exact wwr
theorem OpenDetR_spec (b:List UInt8) (hb:b.length≤9223372036854775807):Spec Tryz.prog 84 [.d (.sl 1 (encB b))] []
  (fun r h'=>r=.tup [.d (.int .i64 (detO b).1),.d (.sl 2 (encDs (detO b).2.1)),.d (.int .i64 (detO b).2.2)]∧h'=[]):=by
 have ho:=openR_spec b (by omega) 11 12
 unfold detO
 by_cases h1:(openZ b 11 12).2.2=0
 ·obtain ⟨g1,g2,g3,g4,g5⟩:=openZ_ok h1
  rw [if_neg (by omega)]
  rw [h1] at ho
  exact detB_walk b hb _ _ ⟨g1,g2⟩ (by rw [g3];have:=openX_wg b;omega) ho
 ·rw [if_pos h1]
  generalize openZ b 11 12=q at ho h1
  obtain ⟨n,l,e⟩:=q
  simp only at ho h1 ⊢
  refine qAb hT Tryz.func84 rfl rfl rfl rfl ?_;intro E hE
  refine ww ?_
  refine wwc ho ?_
  refine ww ?_
  refine qAa rfl (fun c1=>?_) (fun c1=>?_)
  ·refine ww ?_
   exact wwr
  ·exact absurd (by simpa using c1) h1
end Tdoc
/- The reference reads infos, opens a group of infos, and a group with a key. -/
set_option maxHeartbeats 8000000
set_option maxRecDepth 100000
set_option linter.unusedVariables false
set_option linter.unusedSimpArgs false
namespace Tdoc
open Go Go.Proofs
def finI (out:List Inf):List Inf×Int:=if validI out≠0 then ([],validI out) else (out,0)
def contI (out:List Inf) (rest:List Node):List Inf×Int:=match infXs rest with
 | none=>([],1)
 | some r=>finI (out++r)
theorem contI_nil (out:List Inf):contI out []=finI out:=by unfold contI infXs;simp
theorem contI_none {out:List Inf} {x:Node} {r:List Node} (h:infX x=none):contI out (x::r)=([],1):=by unfold contI infXs;rw [h]
theorem contI_some {out:List Inf} {x:Node} {r:List Node} {t:Inf} (h:infX x=some t):contI out (x::r)=contI (out++[t]) r:=by
 unfold contI;rw [infXs,h]
 simp only
 cases infXs r <;> simp
def decIL (l:List Node):List Inf×Int:=match l with
 | [x]=>if consF x 49 (-1)=true then contI [] (kidN x) else ([],1)
 | _=>([],1)
theorem decI_eq (b:List UInt8):decI b=if (parseX b true).2≠0 then ([],(parseX b true).2) else decIL (parseX b true).1:=by
 unfold decI decIL contI finI
 split
 ·rfl
 ·match (parseX b true).1 with
  | []=>rfl
  | [x] =>
   simp only
   split
   ·cases infXs (kidN x) <;> simp
   ·rfl
  | _::_::_=>rfl
theorem decIL_many {l:List Node} (h:l.length≠1):decIL l=([],1):=by
 match l,h with
 | [],_=>rfl
 | [a],h=>exact absurd rfl h
 | a::b::r,_=>rfl
theorem InfP_ok {x:Node} {y:Inf} (h:InfP x (y,true)):infX x=some y:=by
 unfold InfP at h
 split at h
 ·rename_i z hz;rw [hz];injection h with h1 h2;rw [h1]
 ·cases h
theorem InfP_no {x:Node} {y:Inf} (h:InfP x (y,false)):infX x=none:=by
 unfold InfP at h
 split at h
 ·injection h with h1 h2;cases h2
 ·assumption
theorem DecodeI_spec (b:List UInt8) (hb:b.length≤50000):Spec Tryz.prog 147 [.d (.sl 1 (encB b))] []
  (fun r h'=>r=.tup [.d (.sl 5 (encFs (decI b).1)),.d (.int .i64 (decI b).2)]∧h'=[]):=by
 have hps:=ParseR_spec b true (by omega)
 have hpe:(parseS b true).1=if (parseX b true).2≠0 then [] else (parseX b true).1:=rfl
 have hpf:(parseS b true).2=(parseX b true).2:=rfl
 have hwg:(parseX b true).2=0→wgtL (parseX b true).1≤1000000:=fun h=>by have:=(qDj h).2.2.2;omega
 rw [decI_eq]
 generalize parseS b true=s at hps hpe hpf
 generalize parseX b true=q at hpe hpf hwg
 obtain ⟨sl,se⟩:=s
 obtain ⟨l,e⟩:=q
 simp only at hps hpe hpf hwg ⊢
 subst hpf
 by_cases h1:se=0
 case neg =>
  rw [if_pos h1]
  refine qAb hT Tryz.func147 rfl rfl rfl rfl ?_;intro E hE
  refine ww ?_
  refine wwc hps ?_
  refine ww ?_
  refine qAa rfl (fun c1=>?_) (fun c1=>?_)
  ·refine ww ?_
   exact wwr
  ·exact absurd (by simpa using c1) h1
 rw [if_neg (by omega)] at hpe ⊢
 subst hpe
 have hwg:=hwg h1
 subst h1
 have hlen:=qAh sl
 by_cases h2:sl.length=1
 case neg =>
  rw [decIL_many h2]
  have hn:(((encNs sl).length:Int) != 1)=true:=by rw [hlen];simp;omega
  refine qAb hT Tryz.func147 rfl rfl rfl rfl ?_;intro E hE
  refine ww ?_
  refine wwc hps ?_
  refine ww ?_
  refine qAa rfl (fun c1=>?_) (fun c1=>?_)
  ·exact absurd c1 (by simp)
  refine wwk hn ?_
  refine qAa rfl (fun c2=>?_) (fun c2=>?_)
  ·refine ww ?_
   exact wwr
  ·rw [hn] at c2
   exact absurd c2 (by simp)
 obtain ⟨t,v,k,rfl⟩:∃ t v k,sl=[.mk t v k]:=match sl,h2 with
  | [.mk t v k],_=>⟨t,v,k,rfl⟩
 have hel:(encNs [.mk t v k])[((0:Int)).toNat]?=some [.int .i64 t,.sl 1 (encB v),.sl 3 (encNs k)]:=rfl
 have hC:=ConsF_spec (.mk t v k) 49 (-1)
 rw [qCe] at hC
 have hn1:(((encNs [.mk t v k]).length:Int) != 1)=false:=rfl
 have hwk:wgtL k≤1000000:=by have h:=hwg;rw [wgtL,wgtN] at h;omega
 have hkl:=qAh k
 have hkw:=qDe k
 unfold decIL
 simp only [kidN]
 generalize consF (.mk t v k) 49 (-1)=cv at hC
 by_cases hcv:cv=true
 case neg =>
  have hn:cv=false:=by simpa using hcv
  rw [if_neg hcv]
  refine qAb hT Tryz.func147 rfl rfl rfl rfl ?_;intro E hE
  refine ww ?_
  refine wwc hps ?_
  refine ww ?_
  refine qAa rfl (fun c1=>?_) (fun c1=>?_)
  ·exact absurd c1 (by simp)
  refine ww ?_
  refine wwgi hel ?_
  refine ww ?_
  refine wwgc hC ?_
  refine ww ?_
  refine qAa rfl (fun c2=>?_) (fun c2=>?_)
  ·refine ww ?_
   exact wwr
  ·exact absurd c2 (by rw [hn];simp)
 subst hcv
 rw [if_pos rfl]
 generalize hfin:contI [] k=fin
 refine qAb hT Tryz.func147 rfl rfl rfl rfl ?_;intro E hE
 refine ww ?_
 refine wwc hps ?_
 refine ww ?_
 refine qAa rfl (fun c1=>?_) (fun c1=>?_)
 ·exact absurd c1 (by simp)
 refine ww ?_
 refine wwgi hel ?_
 refine ww ?_
 refine wwgc hC ?_
 refine ww ?_
 refine qAa rfl (fun c2=>?_) (fun c2=>?_)
 ·exact absurd c2 (by rw [hn1];simp)
 refine qAq ?_
 refine wwe ?_
 refine qAm (qAj ?_)
 refine wws ?_
 refine qAt 6 5 0 (es:=[]) (.inr ⟨rfl,rfl⟩) rfl ?_
 refine ww ?_
 refine qBg (ι:=Nat×List Inf) (fun x=>[(4,.d (.sl 3 (encNs [.mk t v k]))),(6,.sl 5 (encFs x.2) (.right 0)),(7,.d (.int .i64 (x.1:Int)))]) (fun x=>[.right 5 (encFs x.2).length])
  (fun x=>x.1≤k.length∧x.2.length=x.1∧contI x.2 (k.drop x.1)=fin) (fun x=>k.length-x.1) (0,[]) ⟨by simp,rfl,by simpa using hfin⟩ ⟨.refl _,.refl _,.refl _,trivial⟩ (HLe.refl _) ?_
 rintro ⟨i,out⟩ ⟨hi,hol,hg⟩
 simp only at hi hol hg ⊢
 have hel2:=qCh out
 have hwr:IntKind.i64.wrap ((i:Int)+1)=((i+1:Nat):Int):=by rw [qAd (by omega)];omega
 refine ww ?_
 refine wwi hel ?_
 refine ww ?_
 refine qAa rfl (fun c3=>?_) (fun c3=>?_)
 ·have c3':i < k.length:=by rw [hkl] at c3;simpa using c3
  have helx:(encNs k)[((i:Int)).toNat]?=some (encN k[i]):=by rw [Int.toNat_natCast];simp [qBv,c3']
  have hdr:k.drop i=k[i]::k.drop (i+1):=List.drop_eq_getElem_cons c3'
  have hwx:=wgt_mem (List.getElem_mem c3')
  rw [hdr] at hg
  have hI:=info_spec k[i] (by omega)
  generalize k[i]=x at helx hg hI
  obtain ⟨tx,vx,kx⟩:=x
  rw [encN] at helx
  rw [qCe] at hI
  refine ww ?_
  refine wwi hel ?_
  refine ww ?_
  refine wwi helx ?_
  refine ww ?_
  refine wwx hI ?_
  rintro ⟨y,ok⟩ hy
  obtain ⟨y1,y2,y3,y4,y5⟩:=y
  unfold fCells
  simp only
  refine ww ?_
  refine qAa rfl (fun c4=>?_) (fun c4=>?_)
  ·have hn:ok=false:=by simpa using c4
   subst hn
   rw [contI_none (InfP_no hy)] at hg
   subst hg
   refine ww ?_
   exact wwr
  have hn:ok=true:=by simpa using c4
  subst hn
  rw [contI_some (InfP_ok hy)] at hg
  have hres:encFs (out++[⟨y1,y2,y3,y4,y5⟩])=encFs out++[[Dat.int .i64 y1,.int .i64 y2,.int .i64 y3,.int .i64 y4,.int .i64 y5]]:=by rw [encFs_append];rfl
  refine ww ?_
  refine qAe (qAk (i:=0) hT rfl rfl rfl rfl rfl rfl (by show ((encFs out).length+1)*(40+1)≤_;first | omega | (simp only [qAg,qAh,List.length_append,List.length_cons,List.length_nil];omega))) rfl ?_
  refine ww ?_
  exact ⟨(i+1,out++[⟨y1,y2,y3,y4,y5⟩]),[_],⟨c3',by rw [List.length_append,List.length_singleton,hol],hg⟩,by simp only;omega,⟨.refl _,AV.le.eq (by rw [hres];rfl),.int hwr,trivial⟩,⟨⟨rfl,by rw [hres]⟩,ObLe.refl _,trivial⟩,Env.below_mono hE (by simp),rfl,rfl⟩
 ·have c3':i=k.length:=by rw [hkl] at c3;simp at c3;omega
  subst c3'
  rw [List.drop_length,contI_nil] at hg
  have hV:=validI_spec out (by omega)
  unfold finI at hg
  generalize validI out=we at hV hg
  refine wwe ?_
  refine AW_subL (l:=[(6,.d (.sl 5 (encFs out)))]) (h':=[.right 5 (encFs out).length]) ⟨AV.le.dat,trivial⟩ (HLe.refl _) ?_
  refine ww ?_
  refine wwc hV ?_
  refine ww ?_
  refine qAa rfl (fun c5=>?_) (fun c5=>?_)
  ·have c5':we≠0:=by simpa using c5
   rw [if_pos c5'] at hg
   subst hg
   refine ww ?_
   exact wwr
  have c5':¬ we≠0:=by simpa using c5
  rw [if_neg c5'] at hg
  subst hg
  refine ww ?_
  exact wwr
mutual
theorem chkN_fit (d:Nat):∀ (n:Node),(chkN d n 0).1=0→wgtN n≤1000000000→fitN n∧sizeN n≤wgtN n
 | .mk t v k,h,hw=>by
  have hi:=chkN_inv h
  have hr:=qCx hi.1
  rw [wgtN] at hw ⊢
  have hk:=chkL_fit (d+1) k (by rw [qDh (d+1) k 0 (0+1)];exact hi.2.2.2.2) (by omega)
  have hl:=qDe k
  exact ⟨⟨by omega,by omega,by omega,hk.1⟩,by rw [sizeN];omega⟩
theorem chkL_fit (d:Nat):∀ (l:List Node),(chkL d l 0).1=0→wgtL l≤1000000000→fitL l∧sizeL l≤wgtL l
 | [],_,_=>⟨trivial,by simp [sizeL]⟩
 | a::l,h,hw=>by
  have hi:=chkL_inv h
  rw [wgtL] at hw ⊢
  have h1:=chkN_fit d a hi.1 (by omega)
  have h2:=chkL_fit d l hi.2 (by omega)
  exact ⟨⟨h1.1,h2.1⟩,by rw [sizeL];omega⟩
end
theorem openX_chk (b:List UInt8):(chkL 2 (openX b).2.1 0).1=0:=by
 unfold openX
 split
 ·rfl
 ·rename_i h
  have hg:=(qDj (b:=b) (st:=false) (by omega)).2.1
  split
  ·rename_i t v k hk
   rw [hk] at hg
   split
   ·rfl
   ·have:=(chkN_inv (chkL_inv hg).1).2.2.2.2
    rw [qDh 2 k 0 (0+1)];exact this
  ·rfl
theorem encP_len (l:List Node):(encodeP l).1.length≤4096:=by
 unfold encodeP
 split
 ·simp
 split
 ·simp
 split
 ·simp
 ·simp only;omega
theorem PlainR_spec (l:List Node) (hf:fitL l∧sizeL l≤wgtL l) (hw:wgtL l≤1000000):Spec Tryz.prog 148 [.d (.sl 3 (encNs l))] [] (fun r h'=>r=.d (.sl 1 (encB (encodeP l).1))∧h'=[]):=by
 have he:=EncodeR_spec l (by have:=qDe l;omega) hf.1 (by omega)
 generalize encodeP l=w at he
 obtain ⟨w,we⟩:=w
 simp only at he ⊢
 refine qAb hT Tryz.func148 rfl rfl rfl rfl ?_;intro E hE
 refine ww ?_
 refine wwc he ?_
 refine ww ?_
 exact wwr
def infoO (b:List UInt8):List Inf×Int:=if (openZ b 14 14).2.2≠0 then ([],(openZ b 14 14).2.2) else decI (encodeP (openZ b 14 14).2.1).1
theorem OpenInfR_spec (b:List UInt8) (hb:b.length≤9223372036854775807):Spec Tryz.prog 85 [.d (.sl 1 (encB b))] []
  (fun r h'=>r=.tup [.d (.sl 5 (encFs (infoO b).1)),.d (.int .i64 (infoO b).2)]∧h'=[]):=by
 have ho:=openR_spec b (by omega) 14 14
 have hch:=openX_chk b
 have hwg:=openX_wg b
 unfold infoO
 by_cases h1:(openZ b 14 14).2.2=0
 ·obtain ⟨g1,g2,g3,g4,g5⟩:=openZ_ok h1
  rw [if_neg (by omega)]
  rw [← g3] at hch hwg
  have hP:=PlainR_spec _ (chkL_fit 2 _ hch (by omega)) (by omega)
  have hD:=DecodeI_spec (encodeP (openZ b 14 14).2.1).1 (by have:=encP_len (openZ b 14 14).2.1;omega)
  rw [h1] at ho
  generalize (encodeP (openZ b 14 14).2.1).1=eb at hP hD
  generalize decI eb=w at hD
  generalize openZ b 14 14=q at ho hP
  obtain ⟨n,l,e⟩:=q
  obtain ⟨w,we⟩:=w
  simp only at ho hP hD ⊢
  refine qAb hT Tryz.func85 rfl rfl rfl rfl ?_;intro E hE
  refine ww ?_
  refine wwc ho ?_
  refine ww ?_
  refine qAa rfl (fun c1=>?_) (fun c1=>?_)
  ·exact absurd c1 (by simp)
  refine ww ?_
  refine wwc hP ?_
  refine ww ?_
  refine wwc hD ?_
  refine ww ?_
  exact wwr
 ·rw [if_pos h1]
  generalize openZ b 14 14=q at ho h1
  obtain ⟨n,l,e⟩:=q
  simp only at ho h1 ⊢
  refine qAb hT Tryz.func85 rfl rfl rfl rfl ?_;intro E hE
  refine ww ?_
  refine wwc ho ?_
  refine ww ?_
  refine qAa rfl (fun c1=>?_) (fun c1=>?_)
  ·refine ww ?_
   exact wwr
  ·exact absurd (by simpa using c1) h1
def keyD (v:List UInt8):Int×Int:=if v.length≠4 then (0,2) else if elemG ((nbN v:Nat):Int)=false then (0,10) else (((nbN v:Nat):Int),0)
theorem KeyD_spec (v:List UInt8) (hv:v.length≤1000000):Spec Tryz.prog 149 [.d (.sl 1 (encB v))] [] (fun r h'=>r=.tup [.d (.int .i64 (keyD v).1),.d (.int .i64 (keyD v).2)]∧h'=[]):=by
 have hl:=qAg v
 unfold keyD
 by_cases h4:v.length=4
 case neg =>
  rw [if_pos h4]
  refine qAb hT Tryz.func149 rfl rfl rfl rfl ?_;intro E hE
  refine ww ?_
  refine qAa rfl (fun c1=>?_) (fun c1=>?_)
  ·refine ww ?_
   exact wwr
  ·exfalso;rw [hl] at c1;simp at c1;omega
 rw [if_neg (by omega)]
 have hN:=NumberR_spec v (by omega)
 have hEl:=ElementR_spec ((nbN v:Nat):Int)
 generalize elemG ((nbN v:Nat):Int)=el at hEl
 refine qAb hT Tryz.func149 rfl rfl rfl rfl ?_;intro E hE
 refine ww ?_
 refine qAa rfl (fun c1=>?_) (fun c1=>?_)
 ·exfalso;rw [hl,h4] at c1;simp at c1
 refine ww ?_
 refine wwc hN ?_
 refine ww ?_
 refine wwc hEl ?_
 refine ww ?_
 refine qAa rfl (fun c2=>?_) (fun c2=>?_)
 ·have hn:el=false:=by simpa using c2
  rw [if_pos hn]
  refine ww ?_
  exact wwr
 have hn:¬ el=false:=by simpa using c2
 rw [if_neg hn]
 refine ww ?_
 exact wwr
def keyL (l:List Node):Int×Int:=match l with
 | [x]=>if primF x 4 (-1)=true then keyD (valN x) else (0,1)
 | _=>(0,1)
theorem keyL_many {l:List Node} (h:l.length≠1):keyL l=(0,1):=by
 match l,h with
 | [],_=>rfl
 | [a],h=>exact absurd rfl h
 | a::b::r,_=>rfl
def keyO (b:List UInt8):Int×Int:=if (openZ b 15 15).2.2≠0 then (0,(openZ b 15 15).2.2) else keyL (openZ b 15 15).2.1
theorem OpenActR_spec (b:List UInt8) (hb:b.length≤9223372036854775807):Spec Tryz.prog 86 [.d (.sl 1 (encB b))] []
  (fun r h'=>r=.tup [.d (.int .i64 (keyO b).1),.d (.int .i64 (keyO b).2)]∧h'=[]):=by
 have ho:=openR_spec b (by omega) 15 15
 have hwg:=openX_wg b
 unfold keyO
 by_cases h1:(openZ b 15 15).2.2=0
 case neg =>
  rw [if_pos h1]
  generalize openZ b 15 15=q at ho h1
  obtain ⟨n,l,e⟩:=q
  simp only at ho h1 ⊢
  refine qAb hT Tryz.func86 rfl rfl rfl rfl ?_;intro E hE
  refine ww ?_
  refine wwc ho ?_
  refine ww ?_
  refine qAa rfl (fun c1=>?_) (fun c1=>?_)
  ·refine ww ?_
   exact wwr
  ·exact absurd (by simpa using c1) h1
 obtain ⟨g1,g2,g3,g4,g5⟩:=openZ_ok h1
 rw [if_neg (by omega)]
 rw [← g3] at hwg
 rw [h1] at ho
 clear g1 g2 g3 g4 g5 h1
 generalize openZ b 15 15=q at ho hwg
 obtain ⟨n,l,e⟩:=q
 simp only at ho hwg ⊢
 have hlen:=qAh l
 by_cases h2:l.length=1
 case neg =>
  rw [keyL_many h2]
  have hn:(((encNs l).length:Int) != 1)=true:=by rw [hlen];simp;omega
  refine qAb hT Tryz.func86 rfl rfl rfl rfl ?_;intro E hE
  refine ww ?_
  refine wwc ho ?_
  refine ww ?_
  refine qAa rfl (fun c1=>?_) (fun c1=>?_)
  ·exact absurd c1 (by simp)
  refine wwk hn ?_
  refine qAa rfl (fun c2=>?_) (fun c2=>?_)
  ·refine ww ?_
   exact wwr
  ·rw [hn] at c2
   exact absurd c2 (by simp)
 obtain ⟨t,v,k,rfl⟩:∃ t v k,l=[.mk t v k]:=match l,h2 with
  | [.mk t v k],_=>⟨t,v,k,rfl⟩
 have hel:(encNs [.mk t v k])[((0:Int)).toNat]?=some [.int .i64 t,.sl 1 (encB v),.sl 3 (encNs k)]:=rfl
 have hP:=qBo (.mk t v k) 4 (-1)
 rw [qCe] at hP
 have hn1:(((encNs [.mk t v k]).length:Int) != 1)=false:=rfl
 have hv:v.length≤1000000:=by simp only [wgtL,wgtN] at hwg;omega
 unfold keyL
 simp only [valN]
 have hD:=KeyD_spec v hv
 generalize keyD v=w at hD
 obtain ⟨w,we⟩:=w
 simp only at hD
 generalize primF (.mk t v k) 4 (-1)=cv at hP
 refine qAb hT Tryz.func86 rfl rfl rfl rfl ?_;intro E hE
 refine ww ?_
 refine wwc ho ?_
 refine ww ?_
 refine qAa rfl (fun c1=>?_) (fun c1=>?_)
 ·exact absurd c1 (by simp)
 refine ww ?_
 refine wwgi hel ?_
 refine ww ?_
 refine wwgc hP ?_
 refine ww ?_
 refine qAa rfl (fun c2=>?_) (fun c2=>?_)
 ·have hn:cv=false:=by rw [hn1] at c2;simpa using c2
  rw [if_neg (by rw [hn];simp)]
  refine ww ?_
  exact wwr
 have hn:cv=true:=by rw [hn1] at c2;simpa using c2
 rw [if_pos hn]
 refine ww ?_
 refine wwi hel ?_
 refine ww ?_
 refine wwc hD ?_
 refine ww ?_
 exact wwr
end Tdoc
/- The program reads a number, one primitive object, a key; datagroups.OpenActive = keyO. -/
set_option maxHeartbeats 8000000
set_option maxRecDepth 100000
set_option linter.unusedVariables false
set_option linter.unusedSimpArgs false
namespace Tdoc
open Go Go.Proofs
def numO (v:List UInt8):Int×Int:=if 7 < v.length then (0,2) else (((nbN v:Nat):Int),0)
theorem NumberO_spec (v:List UInt8) (hv:v.length≤1000000):Spec Tryz.prog 165 [.d (.sl 1 (encB v))] [] (fun r h'=>r=.tup [.d (.int .i64 (numO v).1),.d (.int .i64 (numO v).2)]∧h'=[]):=by
 have hl:=qAg v
 unfold numO
 by_cases h7:7 < v.length
 ·rw [if_pos h7]
  refine qAb hT Tryz.func165 rfl rfl rfl rfl ?_;intro E hE
  refine ww ?_
  refine qAa rfl (fun c1=>?_) (fun c1=>?_)
  ·refine ww ?_
   exact wwr
  ·exfalso;rw [hl] at c1;simp at c1;omega
 rw [if_neg h7]
 refine qAb hT Tryz.func165 rfl rfl rfl rfl ?_;intro E hE
 refine ww ?_
 refine qAa rfl (fun c1=>?_) (fun c1=>?_)
 ·exfalso;rw [hl] at c1;simp at c1;omega
 refine ww ?_
 refine qAn (ι:=Nat) (fun i=>[(0,.d (.sl 1 (encB v))),(4,.d (.int .i64 ((nbN (v.take i):Nat):Int))),(10,.d (.sl 1 (encB v))),(11,.d (.int .i64 ((encB v).length:Int))),(12,.d (.int .i64 (i:Int)))]) (fun _=>[]) (fun i=>i≤v.length) (fun i=>v.length-i) 0 (by omega) ⟨.refl _,.refl _,.refl _,.refl _,.refl _,trivial⟩ (HLe.refl _) ?_
 intro i hi
 have hwr:IntKind.i64.wrap ((i:Int)+1)=((i+1:Nat):Int):=by rw [qAd (by omega)];simp
 refine ww ?_
 refine qAa rfl (fun c2=>?_) (fun c2=>?_)
 ·have c2':i < v.length:=by rw [hl] at c2;simpa using c2
  have hel:(encB v)[((i:Int)).toNat]?=some [.int .u8 (v[i].toNat:Int)]:=by simp [encB,c2']
  have htk:nbN (v.take (i+1))=256*nbN (v.take i)+v[i].toNat:=by rw [List.take_succ_eq_append_getElem c2',nbN_snoc]
  have hlt:nbN (v.take i) < 256 ^ 6:=Nat.lt_of_lt_of_le (nbN_lt _) (Nat.pow_le_pow_right (by omega) (by rw [List.length_take];omega))
  have h6:(256:Nat) ^ 6=281474976710656:=by decide
  rw [h6] at hlt
  have hc:=UInt8.toNat_lt v[i]
  generalize v[i]=c at hel htk hc
  generalize nbN (v.take i)=n at htk hlt
  have hb8:IntKind.i64.wrap (c.toNat:Int)=(c.toNat:Int):=qAd (by omega)
  have hs8:IntKind.i64.wrap ((n:Int)*2 ^ (min (Int.toNat 8) IntKind.i64.bits))=((n*2 ^ 8:Nat):Int):=by
   rw [show min (Int.toNat 8) IntKind.i64.bits=8 from rfl,qAd (by omega)];omega
  have hw1:IntKind.i64.wrap ((BitVec.ofInt IntKind.i64.bits (IntKind.i64.wrap ((n:Int)*2 ^ (min (Int.toNat 8) IntKind.i64.bits))) ||| BitVec.ofInt IntKind.i64.bits (IntKind.i64.wrap (c.toNat:Int))).toNat:Int)=((nbN (v.take (i+1)):Nat):Int):=by
   rw [hb8,hs8,or_nat (by omega) (by omega),shl_or n c.toNat 8 (by omega),htk];congr 1;omega
  refine ww ?_
  refine wwi hel ?_
  refine ww ?_
  exact ⟨i+1,by omega,by omega,⟨.refl _,.int hw1,.refl _,.refl _,.int hwr,trivial⟩,HLe.refl _⟩
 ·have c2':i=v.length:=by rw [hl] at c2;simp at c2;omega
  subst c2'
  rw [List.take_length]
  refine ww ?_
  exact wwr
theorem KeyG_spec (v:List UInt8) (hv:v.length≤1000000):Spec Tryz.prog 99 [.d (.sl 1 (encB v))] [] (fun r h'=>r=.tup [.d (.int .i64 (keyD v).1),.d (.int .i64 (keyD v).2)]∧h'=[]):=by
 have hl:=qAg v
 unfold keyD
 by_cases h4:v.length=4
 case neg =>
  rw [if_pos h4]
  refine qAb hT Tryz.func99 rfl rfl rfl rfl ?_;intro E hE
  refine ww ?_
  refine qAa rfl (fun c1=>?_) (fun c1=>?_)
  ·refine ww ?_
   exact wwr
  ·exfalso;rw [hl] at c1;simp at c1;omega
 rw [if_neg (by omega)]
 have hN:=NumberO_spec v (by omega)
 unfold numO at hN
 rw [if_neg (by omega)] at hN
 have hEl:=Element_spec ((nbN v:Nat):Int)
 generalize elemG ((nbN v:Nat):Int)=el at hEl
 refine qAb hT Tryz.func99 rfl rfl rfl rfl ?_;intro E hE
 refine ww ?_
 refine qAa rfl (fun c1=>?_) (fun c1=>?_)
 ·exfalso;rw [hl,h4] at c1;simp at c1
 refine ww ?_
 refine wwc hN ?_
 refine ww ?_
 refine wwc hEl ?_
 refine ww ?_
 refine qAa rfl (fun c2=>?_) (fun c2=>?_)
 ·have hn:el=false:=by simpa using c2
  rw [if_pos hn]
  refine ww ?_
  exact wwr
 have hn:¬ el=false:=by simpa using c2
 rw [if_neg hn]
 refine ww ?_
 exact wwr
def primL (l:List Node) (t:Int):List UInt8×Int:=match l with
 | [.mk t' v _]=>if t'=t then (v,0) else ([],1)
 | _=>([],1)
theorem primL_many {l:List Node} {t:Int} (h:l.length≠1):primL l t=([],1):=by
 match l,h with
 | [],_=>rfl
 | [a],h=>exact absurd rfl h
 | .mk _ _ _::b::r,_=>rfl
theorem primitive_spec (l:List Node) (t:Int):Spec Tryz.prog 88 [.d (.sl 3 (encNs l)),.d (.int .i64 t)] []
  (fun r h'=>r=.tup [.d (.sl 1 (encB (primL l t).1)),.d (.int .i64 (primL l t).2)]∧h'=[]):=by
 have hlen:=qAh l
 by_cases h2:l.length=1
 case neg =>
  rw [primL_many h2]
  have hn:(((encNs l).length:Int) != 1)=true:=by rw [hlen];simp;omega
  refine qAb hT Tryz.func88 rfl rfl rfl rfl ?_;intro E hE
  refine wwk hn ?_
  refine qAa rfl (fun c2=>?_) (fun c2=>?_)
  ·refine ww ?_
   exact wwr
  ·rw [hn] at c2
   exact absurd c2 (by simp)
 obtain ⟨t',v,k,rfl⟩:∃ t v k,l=[.mk t v k]:=match l,h2 with
  | [.mk t v k],_=>⟨t,v,k,rfl⟩
 have hel:(encNs [.mk t' v k])[((0:Int)).toNat]?=some [.int .i64 t',.sl 1 (encB v),.sl 3 (encNs k)]:=rfl
 have hn1:(((encNs [.mk t' v k]).length:Int) != 1)=false:=rfl
 unfold primL
 simp only
 refine qAb hT Tryz.func88 rfl rfl rfl rfl ?_;intro E hE
 refine ww ?_
 refine wwgi hel ?_
 refine ww ?_
 refine qAa rfl (fun c2=>?_) (fun c2=>?_)
 ·have hn:t'≠t:=by rw [hn1] at c2;simpa using c2
  rw [if_neg hn]
  refine ww ?_
  exact wwr
 have hn:t'=t:=by rw [hn1] at c2;simpa using c2
 rw [if_pos hn]
 refine ww ?_
 refine wwi hel ?_
 refine ww ?_
 exact wwr
theorem OpenActive_spec (b:List UInt8) (hb:b.length≤9223372036854775807):Spec Tryz.prog 44 [.d (.sl 1 (encB b))] []
  (fun r h'=>r=.tup [.d (.int .i64 (keyO b).1),.d (.int .i64 (keyO b).2)]∧h'=[]):=by
 have ho:=open_spec b 15 (by omega)
 have hz:=openZ_eq b 15
 have hwf:=openY_wf b 15
 have hwg:(openY b 15).2=0→wgtL (openY b 15).1≤45056:=fun h=>by
  rw [← hz.1,(openZ_ok (by rw [hz.2];exact h)).2.2.1];exact openX_wg b
 unfold keyO
 rw [hz.1,hz.2]
 generalize openY b 15=q at ho hwf hwg
 obtain ⟨l,e⟩:=q
 simp only at ho hwf hwg ⊢
 by_cases h1:e=0
 case neg =>
  rw [if_pos h1]
  refine qAb hT Tryz.func44 rfl rfl rfl rfl ?_;intro E hE
  refine ww ?_
  refine wwc ho ?_
  refine ww ?_
  refine qAa rfl (fun c1=>?_) (fun c1=>?_)
  ·refine ww ?_
   exact wwr
  ·exact absurd (by simpa using c1) h1
 have hwl:=hwg h1
 clear hwg
 subst h1
 rw [if_neg (by omega)]
 have hP:=primitive_spec l 4
 have hkl:keyL l=if (primL l 4).2≠0 then (0,1) else keyD (primL l 4).1:=by
  by_cases h2:l.length=1
  case neg=>rw [keyL_many h2,primL_many h2];rfl
  obtain ⟨t',v,k,rfl⟩:∃ t v k,l=[.mk t v k]:=match l,h2 with
   | [.mk t v k],_=>⟨t,v,k,rfl⟩
  have hw:=hwf _ (List.mem_singleton.mpr rfl)
  have hp:=primF_any (t':=t') (t:=4) (v:=v) (k:=k) (fun h=>hw.prim (by rw [h];rfl))
  unfold keyL primL
  simp only [valN]
  by_cases h4:t'=4
  ·rw [if_pos (hp.mpr h4),if_pos h4];rfl
  ·rw [if_neg (fun h=>h4 (hp.mp h)),if_neg h4];rfl
 have hpe:(primL l 4).2=0∨(primL l 4).2=1:=by
  unfold primL;split
  ·split <;> simp
  ·simp
 have hv:(primL l 4).1.length≤1000000:=by
  by_cases h2:l.length=1
  case neg=>rw [primL_many h2];simp
  obtain ⟨t',v,k,rfl⟩:∃ t v k,l=[.mk t v k]:=match l,h2 with
   | [.mk t v k],_=>⟨t,v,k,rfl⟩
  unfold primL
  simp only
  split
  ·simp only [wgtL,wgtN] at hwl;simp only;omega
  ·simp
 rw [hkl]
 generalize primL l 4=p at hP hpe hv
 obtain ⟨v,pe⟩:=p
 simp only at hP hpe hv ⊢
 have hD:=KeyG_spec v hv
 generalize keyD v=w at hD
 obtain ⟨w,we⟩:=w
 simp only at hD
 refine qAb hT Tryz.func44 rfl rfl rfl rfl ?_;intro E hE
 refine ww ?_
 refine wwc ho ?_
 refine ww ?_
 refine qAa rfl (fun c1=>?_) (fun c1=>?_)
 ·exact absurd c1 (by simp)
 refine ww ?_
 refine wwc hP ?_
 refine ww ?_
 refine qAa rfl (fun c2=>?_) (fun c2=>?_)
 ·have hn:pe≠0:=by simpa using c2
  rw [if_pos hn]
  have:pe=1:=by omega
  subst this
  refine ww ?_
  exact wwr
 have hn:¬ pe≠0:=by simpa using c2
 rw [if_neg hn]
 refine ww ?_
 refine wwc hD ?_
 refine ww ?_
 exact wwr
end Tdoc
/- The parser of package policy: blanks and words. -/
set_option linter.unusedVariables false
set_option linter.unusedSimpArgs false
namespace Tdoc
open Go Go.Proofs
end Tdoc
/- The parser of package policy: the next word. -/
set_option linter.unusedVariables false
set_option linter.unusedSimpArgs false
namespace Tdoc
open Go Go.Proofs
end Tdoc
/- The parser of package policy: names and their numbers, words that are passed over. -/
set_option linter.unusedVariables false
set_option linter.unusedSimpArgs false
namespace Tdoc
open Go Go.Proofs
end Tdoc
/- The parser of package policy: words that are passed over, and lists of conditions. -/
set_option linter.unusedVariables false
set_option linter.unusedSimpArgs false
namespace Tdoc
open Go Go.Proofs
end Tdoc
/- The parser of package policy: a series of conditions with a word between them. -/
set_option linter.unusedVariables false
set_option linter.unusedSimpArgs false
namespace Tdoc
open Go Go.Proofs
end Tdoc
/- The parser of package policy: conditions. -/
set_option linter.unusedVariables false
set_option linter.unusedSimpArgs false
namespace Tdoc
open Go Go.Proofs
end Tdoc
/- Package policy: which conditions are valid. -/
set_option linter.unusedVariables false
set_option linter.unusedSimpArgs false
namespace Tdoc
open Go Go.Proofs
def fIdx {α:Type} (p:α→Bool) (l:List α):Int:=match l.findIdx? p with
 | some i=>i
 | none=>-1
theorem fIdx_at {α:Type} {p:α→Bool} {l:List α} {k:Nat} (hk:k < l.length) (h:p l[k]=true) (hb:∀ j,(hj:j < k)→(hj2:j < l.length)→p l[j]=false):fIdx p l=k:=by
 unfold fIdx
 have:l.findIdx? p=some k:=by
  rw [List.findIdx?_eq_some_iff_getElem]
  exact ⟨hk,h,fun j hj=>by simpa using hb j hj (by omega)⟩
 rw [this]
theorem fIdx_none {α:Type} {p:α→Bool} {l:List α} (hb:∀ j,(hj:j < l.length)→p l[j]=false):fIdx p l = -1:=by
 unfold fIdx
 have:l.findIdx? p=none:=by
  rw [List.findIdx?_eq_none_iff]
  intro x hx
  obtain ⟨j,hj,rfl⟩:=List.mem_iff_getElem.1 hx
  simpa using hb j hj
 rw [this]
theorem fIdx_any {α:Type} (p:α→Bool) (l:List α):decide (fIdx p l≥0)=l.any p:=by
 unfold fIdx
 split
 ·rename_i i h
  obtain ⟨h1,h2,_⟩:=List.findIdx?_eq_some_iff_getElem.1 h
  have:l.any p=true:=List.any_eq_true.2 ⟨_,List.getElem_mem h1,h2⟩
  rw [this];simp
 ·rename_i h
  rw [List.findIdx?_eq_none_iff] at h
  have:l.any p=false:=by rw [List.any_eq_false];intro x hx;simpa using h x hx
  rw [this];decide
end Tdoc
/- The program's templates: their checks. -/
set_option maxHeartbeats 8000000
set_option maxRecDepth 100000
set_option linter.unusedVariables false
set_option linter.unusedSimpArgs false
namespace Tdoc
open Go Go.Proofs
def isF (x:Node) (t:Int):Bool:=if tagCons t=true then consF x t (-1) else primF x t (-1)
theorem is_spec (x:Node) (t:Int) (hw : -9223372036854775808≤t∧t≤9223372036854775807):Spec Tryz.prog 157 [nAV x,.d (.int .i64 t)] [] (fun r h'=>r=.d (.bool (isF x t))∧h'=[]):=by
 obtain ⟨t',v,k⟩:=x
 show Spec Tryz.prog 157 [.agg [.d (.int .i64 t'),.d (.sl 1 (encB v)),.d (.sl 3 (encNs k))],.d (.int .i64 t)] [] _
 have hv:=qAg v
 have hk:=qAh k
 have hC:=qCn t hw
 unfold isF
 rw [consF,primF,← hv,← hk]
 simp only [show decide ((-1:Int) < 0)=true from rfl,Bool.true_or,Bool.and_true]
 generalize encB v=ev at hv ⊢
 generalize encNs k=ek at hk ⊢
 generalize tagCons t=tc at hC
 refine qAb hT Tryz.func157 rfl rfl rfl rfl ?_;intro E hE
 refine qAq ?_
 refine qAm (qAj ?_)
 refine qAe (qBb (i0:=0) rfl rfl rfl) rfl ?_
 refine ww ?_
 refine wwc hC ?_
 refine ww ?_
 refine qAa rfl (fun c1=>?_) (fun c1=>?_)
 ·rw [if_pos c1]
  refine ww ?_
  exact wwr
 ·rw [if_neg (by rw [c1];simp)]
  refine ww ?_
  exact wwr
def partF (k p:Int):Bool:=if k=1 then p == 0 else if k=2 then decide (p≥1)&&decide (p≤10) else if k=3 then p == 1||p == 2 else false
theorem validT_part (t:Tpl):validT t=if partF t.kind t.part=false then 14
 else if dayOk t.frm=false∨dayOk t.til=false∨t.frm > t.til then 8
 else if t.fmt < 0∨t.fmt > 65535∨t.qual < 0∨t.qual > 100 then 3
 else if t.data.length < 1∨t.data.length > 1024 then 2 else 0:=by
 have h:partF t.kind t.part=false↔((t.kind≠1∧t.kind≠2∧t.kind≠3)∨(t.part < 0∨t.part > mostT t.kind∨(mostT t.kind > 0∧t.part=0))):=by
  unfold partF mostT
  split
  ·rename_i h1;rw [if_neg (by omega),if_neg (by omega)];simp;omega
  split
  ·simp;omega
  split
  ·simp;omega
  ·simp;omega
 unfold validT
 by_cases h1:t.kind≠1∧t.kind≠2∧t.kind≠3
 ·rw [if_pos h1,if_pos (h.2 (.inl h1))]
 rw [if_neg h1]
 by_cases h2:t.part < 0∨t.part > mostT t.kind∨(mostT t.kind > 0∧t.part=0)
 ·rw [if_pos h2,if_pos (h.2 (.inr h2))]
 have h3:¬ partF t.kind t.part=false:=fun hh=>(h.1 hh).elim h1 h2
 rw [if_neg h2,if_neg h3]
theorem part_spec (k p:Int):Spec Tryz.prog 248 [.d (.int .i64 k),.d (.int .i64 p)] [] (fun r h'=>r=.d (.bool (partF k p))∧h'=[]):=by
 unfold partF
 refine qAb hT Tryz.func248 rfl rfl rfl rfl ?_;intro E hE
 refine ww ?_
 refine qAa rfl (fun c1=>?_) (fun c1=>?_)
 ·rw [if_pos (by simpa using c1)]
  refine ww ?_
  exact wwr
 rw [if_neg (by simpa using c1)]
 refine ww ?_
 refine qAa rfl (fun c2=>?_) (fun c2=>?_)
 ·rw [if_pos (by simpa using c2)]
  refine ww ?_
  exact wwr
 rw [if_neg (by simpa using c2)]
 refine ww ?_
 refine qAa rfl (fun c3=>?_) (fun c3=>?_)
 ·rw [if_pos (by simpa using c3)]
  refine ww ?_
  exact wwr
 rw [if_neg (by simpa using c3)]
 refine ww ?_
 refine wwe ?_
 refine ww ?_
 exact wwr
theorem ValidDay_spec (n:Int):Spec Tryz.prog 249 [.d (.int .i64 n)] [] (fun r h'=>r=.d (.bool (dayOk n))∧h'=[]):=by
 unfold dayOk
 rw [Bool.decide_and]
 refine qAb hT Tryz.func249 rfl rfl rfl rfl ?_;intro E hE
 refine ww ?_
 exact wwr
theorem ValidB_spec (t:Tpl):Spec Tryz.prog 198 [tAV t] [] (fun r h'=>r=.d (.int .i64 (validT t))∧h'=[]):=by
 rw [validT_part]
 obtain ⟨kind,part,frm,til,fmt,qual,data⟩:=t
 have hp:=part_spec kind part
 have hv1:=ValidDay_spec frm
 have hv2:=ValidDay_spec til
 have hl:=qAg data
 unfold tAV tCells
 simp only
 generalize partF kind part=pf at hp
 generalize dayOk frm=d1 at hv1
 generalize dayOk til=d2 at hv2
 rw [← hl]
 generalize encB data=eb at hl
 refine qAb hT Tryz.func198 rfl rfl rfl rfl ?_;intro E hE
 refine qAq ?_
 refine qAm (qAj ?_)
 refine qAe (qBb (i0:=0) rfl rfl rfl) rfl ?_
 refine ww ?_
 refine wwc hp ?_
 refine ww ?_
 refine qAa rfl (fun c0=>?_) (fun c0=>?_)
 ·rw [if_pos (by simpa using c0)]
  refine ww ?_
  exact wwr
 rw [if_neg (by simpa using c0)]
 refine ww ?_
 refine wwc hv1 ?_
 refine ww ?_
 refine wwgc hv2 ?_
 refine ww ?_
 refine qAa rfl (fun c2=>?_) (fun c2=>?_)
 ·have c2':d1=false∨d2=false∨frm > til:=by simpa [or_assoc] using c2
  rw [if_pos c2']
  refine ww ?_
  exact wwr
 have c2':¬ (d1=false∨d2=false∨frm > til):=by
  intro hh
  simp only [Bool.or_eq_false_iff,Bool.and_eq_false_iff,decide_eq_false_iff_not] at c2
  rcases hh with h | h | h <;> simp [h] at c2
 rw [if_neg c2']
 refine ww ?_
 refine qAa rfl (fun c3=>?_) (fun c3=>?_)
 ·have c3':fmt < 0∨fmt > 65535∨qual < 0∨qual > 100:=by simpa [or_assoc] using c3
  rw [if_pos c3']
  refine ww ?_
  exact wwr
 have c3':¬ (fmt < 0∨fmt > 65535∨qual < 0∨qual > 100):=by
  simp only [Bool.or_eq_false_iff,decide_eq_false_iff_not] at c3
  omega
 rw [if_neg c3']
 refine ww ?_
 refine qAa rfl (fun c4=>?_) (fun c4=>?_)
 ·have c4':eb.length < 1∨eb.length > 1024:=by
   simp only [Bool.or_eq_true,decide_eq_true_eq] at c4
   omega
  rw [if_pos c4']
  refine ww ?_
  exact wwr
 have c4':¬ (eb.length < 1∨eb.length > 1024):=by
  simp only [Bool.or_eq_false_iff,decide_eq_false_iff_not] at c4
  omega
 rw [if_neg c4']
 refine ww ?_
 refine wwe ?_
 refine ww ?_
 exact wwr
end Tdoc
/- The program reads a header's fields, one by one. -/
set_option maxHeartbeats 8000000
set_option maxRecDepth 100000
set_option linter.unusedVariables false
set_option linter.unusedSimpArgs false
namespace Tdoc
open Go Go.Proofs
def fieldsE:List (List Dat):=fldT.map fun f=>[.int .i64 f.1,.int .i64 f.2]
theorem fields_spec:Spec Tryz.prog 199 [] [] (fun r h'=>r=.d (.sl 2 fieldsE)∧h'=[]):=by
 refine qAb hT Tryz.func199 rfl rfl rfl rfl ?_;intro E hE
 refine ww ?_
 exact wwr
def nxT (f:Int×Int) (hs:List Node) (ok:Bool):Int×List Node×Bool:=match hs with
 | []=>(0,[],false)
 | y::r=>if primF y f.1 f.2=true then (((nbN (valN y):Nat):Int),r,ok) else (0,y::r,false)
theorem primF_split (t' t n:Int) (v:List UInt8) (k:List Node) (hn:0≤n) (ht:tagCons t=false):primF (.mk t' v k) t n=(isF (.mk t' v k) t&&((v.length:Int) == n)):=by
 unfold isF
 rw [if_neg (by rw [ht];simp),primF,primF]
 simp only [show decide ((-1:Int) < 0)=true from rfl,Bool.true_or,Bool.and_true,show decide (n < 0)=false from by simp;omega,Bool.false_or]
theorem next_spec (t:Int) (v:List UInt8) (th:Int) (vh:List UInt8) (kh ks hs:List Node) (ok:Bool) (i:Nat) (f:Int×Int) (hf:fieldsE[((i:Nat):Int).toNat]?=some [.int .i64 f.1,.int .i64 f.2]) (hf2:0≤f.1∧f.1≤10000∧0≤f.2∧f.2≤4∧tagCons f.1=false)
  (hk:kh.length=6) (hh:hs.length+i=6) (hi:i < 6) (hw:∀ x∈hs,(valN x).length≤1000000) :
  Spec Tryz.prog 227 [.ptr 0 0,.ptr 1 0,.ptr 2 0] [.row [.d (.int .i64 t),.d (.sl 1 (encB v)),.d (.sl 3 (encNs (.mk th vh kh::ks)))],.row [.d (.sl 3 (encNs hs))],.row [.d (.bool ok)]]
   (fun r h'=>r=.d (.int .i64 (nxT f hs ok).1)∧h'=[.row [.d (.int .i64 t),.d (.sl 1 (encB v)),.d (.sl 3 (encNs (.mk th vh kh::ks)))],.row [.d (.sl 3 (encNs (nxT f hs ok).2.1))],.row [.d (.bool (nxT f hs ok).2.2)]]):=by
 have hF:=fields_spec
 obtain ⟨ft,fn⟩:=f
 simp only at hf hf2
 have hkl:=qAh kh
 have hel0:(encNs (.mk th vh kh::ks))[((0:Int)).toNat]?=some [.int .i64 th,.sl 1 (encB vh),.sl 3 (encNs kh)]:=rfl
 match hs,hh,hw with
 | [],hh,_=>exact absurd hh (by simp;omega)
 | .mk ty vy ky::r,hh,hw =>
 have hsl:=qAh (.mk ty vy ky::r)
 have hel1:(encNs (.mk ty vy ky::r))[((0:Int)).toNat]?=some [.int .i64 ty,.sl 1 (encB vy),.sl 3 (encNs ky)]:=rfl
 have hwi:IntKind.i64.wrap (((encNs kh).length:Int)-((encNs (.mk ty vy ky::r)).length:Int))=((i:Nat):Int):=by
  rw [hkl,hsl,hk,qAd (by omega)];omega
 have hvy:=hw _ (List.mem_cons_self ..)
 simp only [valN] at hvy
 have hI:=is_spec (.mk ty vy ky) ft (by omega)
 rw [qCe] at hI
 have hps:=primF_split ty ft fn vy ky (by omega) hf2.2.2.2.2
 have hvl:=qAg vy
 rw [List.length_cons] at hsl
 have hz:(((encNs (.mk ty vy ky::r)).length:Int) == 0)=false:=by rw [hsl];simp;omega
 unfold nxT
 simp only [valN]
 rw [hps]
 generalize isF (.mk ty vy ky) ft=b at hI
 generalize fieldsE=fe at hF hf
 refine qAb hT Tryz.func227 rfl rfl rfl rfl ?_;intro E hE
 refine ww ?_
 refine wwi hel0 ?_
 refine ww ?_
 refine wwc hF ?_
 refine ww ?_
 rw [hwi]
 refine wwi hf ?_
 refine ww ?_
 refine wwgi hel1 ?_
 refine ww ?_
 refine wwgc hI ?_
 refine ww ?_
 refine wwgi hel1 ?_
 refine ww ?_
 have hc:((((encNs (.mk ty vy ky::r)).length:Int) == 0)||!b||(((encB vy).length:Int) != fn))=!(b&&((vy.length:Int) == fn)):=by
  rw [hz,hvl];cases b <;> simp [bne]
 refine qAa rfl (fun c1=>?_) (fun c1=>?_)
 ·rw [hc] at c1
  have c1':¬ (b&&((vy.length:Int) == fn))=true:=fun hh=>by rw [hh] at c1;exact absurd c1 (by simp)
  rw [if_neg c1']
  refine ww ?_
  exact wwr
 rw [hc] at c1
 have c1':(b&&((vy.length:Int) == fn))=true:=by simpa using c1
 have h4:(vy.length:Int)=fn:=by simp only [Bool.and_eq_true,beq_iff_eq] at c1';exact c1'.2
 have hN:=NumberO_spec vy (by omega)
 unfold numO at hN
 rw [if_neg (by omega)] at hN
 rw [if_pos c1']
 refine ww ?_
 refine wwi hel1 ?_
 refine ww ?_
 refine wwc hN ?_
 refine ww ?_
 exact wwr
end Tdoc
/- What the program reads of one template. -/
set_option linter.unusedVariables false
set_option linter.unusedSimpArgs false
namespace Tdoc
open Go Go.Proofs
theorem consF_split (t' t n:Int) (v:List UInt8) (k:List Node) (hn:0≤n) (ht:tagCons t=true):consF (.mk t' v k) t n=(isF (.mk t' v k) t&&((k.length:Int) == n)):=by
 unfold isF
 rw [if_pos ht,consF,consF]
 simp only [show decide ((-1:Int) < 0)=true from rfl,Bool.true_or,Bool.and_true,show decide (n < 0)=false from by simp;omega,Bool.false_or]
def nxI (hs:List Node) (ok:Bool):Int×List Node×Bool:=nxT (fldT.getD (6-hs.length) (0,0)) hs ok
def nxR:Nat→List Node→Bool→List Int×List Node×Bool
 | 0,hs,ok=>([],hs,ok)
 | n+1,hs,ok=>((nxI hs ok).1::(nxR n (nxI hs ok).2.1 (nxI hs ok).2.2).1,(nxR n (nxI hs ok).2.1 (nxI hs ok).2.2).2)
theorem nxT_false (f:Int×Int) (hs:List Node):(nxT f hs false).2.2=false:=by
 unfold nxT;split
 ·rfl
 ·split <;> rfl
theorem nxR_false:∀ (n:Nat) (hs:List Node),(nxR n hs false).2.2=false
 | 0,_=>rfl
 | n+1,hs=>by
  have h:(nxI hs false).2.2=false:=nxT_false _ _
  rw [nxR];simp only;rw [h];exact nxR_false n _
theorem fldT_drop:∀ {k:Nat},k < 6→fldT.drop k=fldT.getD k (0,0)::fldT.drop (k+1)
 | 0,_=>rfl
 | 1,_=>rfl
 | 2,_=>rfl
 | 3,_=>rfl
 | 4,_=>rfl
 | 5,_=>rfl
 | n+6,h=>by omega
theorem nxR_hdr:∀ (hs:List Node),hs.length≤6→(match hdrF (fldT.drop (6-hs.length)) hs with
  | some l=>nxR hs.length hs true=(l,[],true)
  | none=>(nxR hs.length hs true).2.2=false)
 | [],_=>rfl
 | y::hs,h=>by
  rw [List.length_cons] at h
  have hd:=fldT_drop (k:=6-(hs.length+1)) (by omega)
  rw [List.length_cons,hd,hdrF,nxR]
  unfold nxI nxT
  simp only [List.length_cons]
  by_cases hp:primF y (fldT.getD (6-(hs.length+1)) (0,0)).1 (fldT.getD (6-(hs.length+1)) (0,0)).2=true
  ·rw [if_pos hp,if_pos hp]
   have ih:=nxR_hdr hs (by omega)
   rw [show 6-(hs.length+1)+1=6-hs.length by omega]
   simp only
   cases hh:hdrF (fldT.drop (6-hs.length)) hs with
   | none=>rw [hh] at ih;exact ih
   | some l=>rw [hh] at ih;simp only at ih;rw [ih];rfl
  ·rw [if_neg hp,if_neg hp]
   exact nxR_false _ _
theorem nxI_len (hs:List Node) (ok:Bool):hs.length≤(nxI hs ok).2.1.length+1∧(nxI hs ok).2.1.length≤hs.length∧∀ x∈(nxI hs ok).2.1,x∈hs:=by
 unfold nxI nxT
 split
 ·simp
 ·split
  ·simp;intro x hx;exact .inr hx
  ·simp
theorem fldE_at:∀ {k:Nat},k < 6→fieldsE[((k:Nat):Int).toNat]?=some [.int .i64 (fldT.getD k (0,0)).1,.int .i64 (fldT.getD k (0,0)).2] ∧
  (0≤(fldT.getD k (0,0)).1∧(fldT.getD k (0,0)).1≤10000∧0≤(fldT.getD k (0,0)).2∧(fldT.getD k (0,0)).2≤4∧tagCons (fldT.getD k (0,0)).1=false)
 | 0,_=>⟨rfl,by decide⟩
 | 1,_=>⟨rfl,by decide⟩
 | 2,_=>⟨rfl,by decide⟩
 | 3,_=>⟨rfl,by decide⟩
 | 4,_=>⟨rfl,by decide⟩
 | 5,_=>⟨rfl,by decide⟩
 | n+6,h=>by omega
theorem nextI_spec (t:Int) (v:List UInt8) (th:Int) (vh:List UInt8) (kh ks hs:List Node) (ok:Bool) (hk:kh.length=6) (h1:1≤hs.length∧hs.length≤6) (hw:∀ x∈hs,(valN x).length≤1000000) :
  Spec Tryz.prog 227 [.ptr 0 0,.ptr 1 0,.ptr 2 0] [.row [.d (.int .i64 t),.d (.sl 1 (encB v)),.d (.sl 3 (encNs (.mk th vh kh::ks)))],.row [.d (.sl 3 (encNs hs))],.row [.d (.bool ok)]]
   (fun r h'=>r=.d (.int .i64 (nxI hs ok).1)∧h'=[.row [.d (.int .i64 t),.d (.sl 1 (encB v)),.d (.sl 3 (encNs (.mk th vh kh::ks)))],.row [.d (.sl 3 (encNs (nxI hs ok).2.1))],.row [.d (.bool (nxI hs ok).2.2)]]):=by
 have hf:=fldE_at (k:=6-hs.length) (by omega)
 exact next_spec t v th vh kh ks hs ok (6-hs.length) _ hf.1 hf.2 hk (by omega) (by omega) hw
def TplX (x:Node) (y:Tpl×Bool):Prop:=match decT x with
 | some t=>y=(t,true)
 | none=>y.2=false
theorem TplX.none {x:Node} {y:Tpl} (h:decT x=none):TplX x (y,false):=by unfold TplX;rw [h]
theorem TplX.ok {x:Node} {y:Tpl} (h:TplX x (y,true)):decT x=some y:=by
 unfold TplX at h
 split at h
 ·rename_i z hz;rw [hz];injection h with h1 h2;rw [h1]
 ·cases h
theorem TplX.no {x:Node} {y:Tpl} (h:TplX x (y,false)):decT x=.none:=by
 unfold TplX at h
 split at h
 ·injection h with h1 h2;cases h2
 ·assumption
theorem decT_split (t:Int) (v:List UInt8) (th:Int) (vh:List UInt8) (kh:List Node) (td:Int) (vd:List UInt8) (kd:List Node) :
  decT (.mk t v [.mk th vh kh,.mk td vd kd])=if (isF (.mk t v [.mk th vh kh,.mk td vd kd]) 32608&&isF (.mk th vh kh) 161&&isF (.mk td vd kd) 24366&&((kh.length:Int) == 6))=true then
   (match hdrF fldT kh with | some [a,b,c,e,q,f]=>some ⟨a,b,c,e,f,q,vd⟩ | _=>none) else none:=by
 have h1:=consF_split t 32608 2 v [.mk th vh kh,.mk td vd kd] (by decide) rfl
 have h2:=consF_split th 161 6 vh kh (by decide) rfl
 have h3:primF (.mk td vd kd) 24366 (-1)=isF (.mk td vd kd) 24366:=by unfold isF;rw [if_neg (by decide)]
 rw [show (((([.mk th vh kh,.mk td vd kd]:List Node).length:Nat):Int) == 2)=true from rfl,Bool.and_true] at h1
 unfold decT
 rw [h1]
 simp only [kidN,valN]
 rw [h2,h3]
 generalize isF (.mk t v [.mk th vh kh,.mk td vd kd]) 32608=b0
 generalize isF (.mk th vh kh) 161=b1
 generalize isF (.mk td vd kd) 24366=b2
 generalize ((kh.length:Int) == 6)=b3
 cases b0 <;> cases b1 <;> cases b2 <;> cases b3 <;> simp <;> rfl
theorem tpl_fin {t:Int} {v:List UInt8} {th:Int} {vh:List UInt8} {kh:List Node} {td:Int} {vd:List UInt8} {kd:List Node} (h6:kh.length=6)
  (hb:(isF (.mk t v [.mk th vh kh,.mk td vd kd]) 32608&&isF (.mk th vh kh) 161&&isF (.mk td vd kd) 24366)=true) {p1 p2 p3 p4 p5 p6:Int×List Node×Bool}
  (e1:nxI kh true=p1) (e2:nxI p1.2.1 p1.2.2=p2) (e3:nxI p2.2.1 p2.2.2=p3) (e4:nxI p3.2.1 p3.2.2=p4) (e5:nxI p4.2.1 p4.2.2=p5) (e6:nxI p5.2.1 p5.2.2=p6) :
  TplX (.mk t v [.mk th vh kh,.mk td vd kd]) (⟨p1.1,p2.1,p3.1,p4.1,p6.1,p5.1,vd⟩,p6.2.2):=by
 have hR:=nxR_hdr kh (by omega)
 rw [h6] at hR
 have hX:nxR 6 kh true=([p1.1,p2.1,p3.1,p4.1,p5.1,p6.1],p6.2):=by
  subst e1;subst e2;subst e3;subst e4;subst e5;subst e6;rfl
 rw [hX] at hR
 unfold TplX
 rw [decT_split,hb,h6]
 simp only [show (((6:Nat):Int) == 6)=true from rfl,Bool.and_true,if_true]
 rw [show fldT.drop (6-6)=fldT from rfl] at hR
 cases hh:hdrF fldT kh with
 | none=>rw [hh] at hR;exact hR
 | some l =>
  rw [hh] at hR
  injection hR with g1 g2
  subst g1
  simp only
  rw [g2]
end Tdoc
/- The program reads one template. -/
set_option maxHeartbeats 8000000
set_option maxRecDepth 100000
set_option linter.unusedVariables false
set_option linter.unusedSimpArgs false
namespace Tdoc
open Go Go.Proofs
theorem template_spec (x:Node) (hw:wgtN x≤1000000):Spec Tryz.prog 158 [nAV x] [] (fun r h'=>∃ y:Tpl×Bool,TplX x y∧r=.tup [tAV y.1,.d (.bool y.2)]∧h'=[]):=by
 obtain ⟨t,v,k⟩:=x
 rw [qCe]
 have hI0:=is_spec (.mk t v k) 32608 (by decide)
 rw [qCe] at hI0
 have hkl:=qAh k
 have hlk:=qDe k
 have hkk:k.length≤1000000:=by rw [wgtN] at hw;omega
 by_cases hk2:k.length=2
 case neg =>
  have hn:(!isF (.mk t v k) 32608||(((encNs k).length:Int) != 2))=true:=by rw [hkl];simp;right;omega
  have hdec:decT (.mk t v k)=none:=decT_n1 (by
   rw [consF_split t 32608 2 v k (by decide) rfl,show ((k.length:Int) == 2)=false from by simp;omega,Bool.and_false])
  generalize isF (.mk t v k) 32608=b0 at hI0 hn
  refine qAb hT Tryz.func158 rfl rfl rfl rfl ?_;intro E hE
  refine qAq ?_
  refine wwe ?_
  refine qAm (qAj ?_)
  refine qAe (qBb (i0:=0) rfl rfl rfl) rfl ?_
  refine ww ?_
  refine wwc hI0 ?_
  refine wwk hn ?_
  refine qAa rfl (fun c1=>?_) (fun c1=>?_)
  ·refine ww ?_
   exact rq ⟨(⟨0,0,0,0,0,0,[]⟩,false),.none hdec,rfl,rfl⟩ rfl (AV.le.tup ⟨AV.le.agg ⟨.refl _,.refl _,.refl _,.refl _,.refl _,.refl _,AV.le.dat,trivial⟩,.refl _,trivial⟩)
  ·exact absurd c1 (by rw [hn];simp)
 obtain ⟨th,vh,kh,td,vd,kd,rfl⟩:∃ th vh kh td vd kd,k=[.mk th vh kh,.mk td vd kd]:=match k,hk2 with
  | [.mk th vh kh,.mk td vd kd],_=>⟨th,vh,kh,td,vd,kd,rfl⟩
 have hI1:=is_spec (.mk th vh kh) 161 (by decide)
 have hI2:=is_spec (.mk td vd kd) 24366 (by decide)
 rw [qCe] at hI1 hI2
 have hz:(((encNs [.mk th vh kh,.mk td vd kd]).length:Int) != 2)=false:=rfl
 have hel0:(encNs [.mk th vh kh,.mk td vd kd])[((0:Int)).toNat]?=some [.int .i64 th,.sl 1 (encB vh),.sl 3 (encNs kh)]:=rfl
 have hel1:(encNs [.mk th vh kh,.mk td vd kd])[((1:Int)).toNat]?=some [.int .i64 td,.sl 1 (encB vd),.sl 3 (encNs kd)]:=rfl
 have hvd:vd.length≤1000000:=by simp only [wgtN,wgtL] at hw;omega
 have hwk:wgtL kh≤1000000:=by simp only [wgtN,wgtL] at hw;omega
 have hkm:∀ x∈kh,(valN x).length≤1000000:=fun x hx=>by
  have:=wgt_mem hx
  obtain ⟨tx,vx,kx⟩:=x
  rw [wgtN] at this;simp only [valN];omega
 have hkhl:=qAh kh
 have hlkh:=qDe kh
 have hCl:=CloneB_spec (encB vd) (by rw [qAg];omega)
 have hF:=fields_spec
 have hsp:=decT_split t v th vh kh td vd kd
 have hfi:=@tpl_fin t v th vh kh td vd kd
 generalize isF (.mk t v [.mk th vh kh,.mk td vd kd]) 32608=b0 at hI0 hsp hfi
 generalize isF (.mk th vh kh) 161=b1 at hI1 hsp hfi
 generalize isF (.mk td vd kd) 24366=b2 at hI2 hsp hfi
 refine qAb hT Tryz.func158 rfl rfl rfl rfl ?_;intro E hE
 refine qAq ?_
 refine wwe ?_
 refine qAm (qAj ?_)
 refine qAe (qBb (i0:=0) rfl rfl rfl) rfl ?_
 refine ww ?_
 refine wwc hI0 ?_
 refine ww ?_
 refine wwgi hel0 ?_
 refine ww ?_
 refine wwgc hI1 ?_
 refine ww ?_
 refine wwgi hel1 ?_
 refine ww ?_
 refine wwgc hI2 ?_
 refine ww ?_
 refine qAa rfl (fun c1=>?_) (fun c1=>?_)
 ·have hdec:decT (.mk t v [.mk th vh kh,.mk td vd kd])=none:=by
   rw [hsp,if_neg]
   intro hh
   simp only [Bool.and_eq_true] at hh
   rw [hz,hh.1.1.1,hh.1.1.2,hh.1.2] at c1
   exact absurd c1 (by simp)
  refine ww ?_
  exact rq ⟨(⟨0,0,0,0,0,0,[]⟩,false),.none hdec,rfl,rfl⟩ rfl (AV.le.tup ⟨AV.le.agg ⟨.refl _,.refl _,.refl _,.refl _,.refl _,.refl _,AV.le.dat,trivial⟩,.refl _,trivial⟩)
 have hb:(b0&&b1&&b2)=true:=by
  rw [hz] at c1
  cases b0 <;> cases b1 <;> cases b2 <;> simp at c1 ⊢
 clear c1
 refine ww ?_
 refine wwi hel0 ?_
 refine ww ?_
 refine wwc hF ?_
 refine ww ?_
 refine qAa rfl (fun c2=>?_) (fun c2=>?_)
 ·have h6:¬ (kh.length:Int)=6:=by
   rw [hkhl,show ((fieldsE.length:Nat):Int)=6 from rfl] at c2
   simpa using c2
  have hdec:decT (.mk t v [.mk th vh kh,.mk td vd kd])=none:=by
   rw [hsp,if_neg]
   intro hh
   simp only [Bool.and_eq_true,beq_iff_eq] at hh
   exact h6 hh.2
  refine ww ?_
  exact rq ⟨(⟨0,0,0,0,0,0,[]⟩,false),.none hdec,rfl,rfl⟩ rfl (AV.le.tup ⟨AV.le.agg ⟨.refl _,.refl _,.refl _,.refl _,.refl _,.refl _,AV.le.dat,trivial⟩,.refl _,trivial⟩)
 have h6:kh.length=6:=by
  rw [hkhl,show ((fieldsE.length:Nat):Int)=6 from rfl] at c2
  have:(kh.length:Int)=6:=by simpa using c2
  omega
 have hfi:=fun p1 p2 p3 p4 p5 p6=>hfi (p1:=p1) (p2:=p2) (p3:=p3) (p4:=p4) (p5:=p5) (p6:=p6) h6 hb
 have hN:=nextI_spec t v th vh kh [.mk td vd kd]
 have hN1:=hN kh true h6 (by omega) hkm
 have hl1:=nxI_len kh true
 obtain ⟨p1,e1⟩:∃ p,nxI kh true=p:=⟨_,rfl⟩
 rw [e1] at hN1 hl1
 have hN2:=hN p1.2.1 p1.2.2 h6 (by omega) (fun x hx=>hkm x (hl1.2.2 x hx))
 have hl2:=nxI_len p1.2.1 p1.2.2
 obtain ⟨p2,e2⟩:∃ p,nxI p1.2.1 p1.2.2=p:=⟨_,rfl⟩
 rw [e2] at hN2 hl2
 have hm2:=fun x hx=>hl1.2.2 x (hl2.2.2 x hx)
 have hN3:=hN p2.2.1 p2.2.2 h6 (by omega) (fun x hx=>hkm x (hm2 x hx))
 have hl3:=nxI_len p2.2.1 p2.2.2
 obtain ⟨p3,e3⟩:∃ p,nxI p2.2.1 p2.2.2=p:=⟨_,rfl⟩
 rw [e3] at hN3 hl3
 have hm3:=fun x hx=>hm2 x (hl3.2.2 x hx)
 have hN4:=hN p3.2.1 p3.2.2 h6 (by omega) (fun x hx=>hkm x (hm3 x hx))
 have hl4:=nxI_len p3.2.1 p3.2.2
 obtain ⟨p4,e4⟩:∃ p,nxI p3.2.1 p3.2.2=p:=⟨_,rfl⟩
 rw [e4] at hN4 hl4
 have hm4:=fun x hx=>hm3 x (hl4.2.2 x hx)
 have hN5:=hN p4.2.1 p4.2.2 h6 (by omega) (fun x hx=>hkm x (hm4 x hx))
 have hl5:=nxI_len p4.2.1 p4.2.2
 obtain ⟨p5,e5⟩:∃ p,nxI p4.2.1 p4.2.2=p:=⟨_,rfl⟩
 rw [e5] at hN5 hl5
 have hm5:=fun x hx=>hm4 x (hl5.2.2 x hx)
 have hN6:=hN p5.2.1 p5.2.2 h6 (by omega) (fun x hx=>hkm x (hm5 x hx))
 obtain ⟨p6,e6⟩:∃ p,nxI p5.2.1 p5.2.2=p:=⟨_,rfl⟩
 rw [e6] at hN6
 have hfi:=hfi p1 p2 p3 p4 p5 p6 e1 e2 e3 e4 e5 e6
 clear e1 e2 e3 e4 e5 e6 hl1 hl2 hl3 hl4 hl5 hm2 hm3 hm4 hm5 hN hkm hsp
 refine ww ?_
 refine qAe (callS1 (H':=[.row [.d (.int .i64 t),.d (.sl 1 (encB v)),.d (.sl 3 (encNs [.mk th vh kh,.mk td vd kd]))],.row [.d (.int .i64 0),.d (.int .i64 0),.d (.int .i64 0),.d (.int .i64 0),.d (.int .i64 0),.d (.int .i64 0),.sl 1 [] .full],.row [.d (.sl 3 (encNs p1.2.1))],.row [.d (.bool p1.2.2)]]) rfl rfl hN1 [0,2,3] (by decide) rfl rfl rfl rfl rfl rfl rfl) rfl ?_
 refine ww ?_
 refine qAe (callS1 (H':=[.row [.d (.int .i64 t),.d (.sl 1 (encB v)),.d (.sl 3 (encNs [.mk th vh kh,.mk td vd kd]))],.row [.d (.int .i64 0),.d (.int .i64 0),.d (.int .i64 0),.d (.int .i64 0),.d (.int .i64 0),.d (.int .i64 0),.sl 1 [] .full],.row [.d (.sl 3 (encNs p2.2.1))],.row [.d (.bool p2.2.2)]]) rfl rfl hN2 [0,2,3] (by decide) rfl rfl rfl rfl rfl rfl rfl) rfl ?_
 refine ww ?_
 refine qAe (callS1 (H':=[.row [.d (.int .i64 t),.d (.sl 1 (encB v)),.d (.sl 3 (encNs [.mk th vh kh,.mk td vd kd]))],.row [.d (.int .i64 0),.d (.int .i64 0),.d (.int .i64 0),.d (.int .i64 0),.d (.int .i64 0),.d (.int .i64 0),.sl 1 [] .full],.row [.d (.sl 3 (encNs p3.2.1))],.row [.d (.bool p3.2.2)]]) rfl rfl hN3 [0,2,3] (by decide) rfl rfl rfl rfl rfl rfl rfl) rfl ?_
 refine ww ?_
 refine qAe (callS1 (H':=[.row [.d (.int .i64 t),.d (.sl 1 (encB v)),.d (.sl 3 (encNs [.mk th vh kh,.mk td vd kd]))],.row [.d (.int .i64 0),.d (.int .i64 0),.d (.int .i64 0),.d (.int .i64 0),.d (.int .i64 0),.d (.int .i64 0),.sl 1 [] .full],.row [.d (.sl 3 (encNs p4.2.1))],.row [.d (.bool p4.2.2)]]) rfl rfl hN4 [0,2,3] (by decide) rfl rfl rfl rfl rfl rfl rfl) rfl ?_
 refine ww ?_
 refine qAe (callS1 (H':=[.row [.d (.int .i64 t),.d (.sl 1 (encB v)),.d (.sl 3 (encNs [.mk th vh kh,.mk td vd kd]))],.row [.d (.int .i64 0),.d (.int .i64 0),.d (.int .i64 0),.d (.int .i64 0),.d (.int .i64 0),.d (.int .i64 0),.sl 1 [] .full],.row [.d (.sl 3 (encNs p5.2.1))],.row [.d (.bool p5.2.2)]]) rfl rfl hN5 [0,2,3] (by decide) rfl rfl rfl rfl rfl rfl rfl) rfl ?_
 refine ww ?_
 refine qAe (callS1 (H':=[.row [.d (.int .i64 t),.d (.sl 1 (encB v)),.d (.sl 3 (encNs [.mk th vh kh,.mk td vd kd]))],.row [.d (.int .i64 0),.d (.int .i64 0),.d (.int .i64 0),.d (.int .i64 0),.d (.int .i64 0),.d (.int .i64 0),.sl 1 [] .full],.row [.d (.sl 3 (encNs p6.2.1))],.row [.d (.bool p6.2.2)]]) rfl rfl hN6 [0,2,3] (by decide) rfl rfl rfl rfl rfl rfl rfl) rfl ?_
 refine ww ?_
 refine wwi hel1 ?_
 refine ww ?_
 refine wwc hCl ?_
 refine wwn ?_
 refine qAz (fun i=>bif Nat.beq i 0 then [4] else bif Nat.beq i 1 then [3] else bif Nat.beq i 2 then [1] else []) (fun i=>bif Nat.beq i 2 then [1] else []) mixed (by kernel_rfl) ?_
 refine wwg ?_
 refine ww ?_
 exact rq ⟨_,hfi,rfl,rfl⟩ rfl (.refl _)
end Tdoc
/- The program checks templates and their kinds. -/
set_option maxHeartbeats 8000000
set_option maxRecDepth 100000
set_option linter.unusedVariables false
set_option linter.unusedSimpArgs false
namespace Tdoc
open Go Go.Proofs
def chkTs (l:List Tpl):Int:=if l.length < 1∨l.length > 8 then 2 else firstT l
theorem chkTs_eq (l:List Tpl):(encTR l).2=chkTs l:=by
 unfold encTR chkTs
 split
 ·rfl
 split
 ·rfl
 ·rename_i h;simp only;omega
theorem checkT_spec (l:List Tpl) (hl:l.length≤1000000):Spec Tryz.prog 128 [.d (.sl 7 (encTs l))] [] (fun r h'=>r=.d (.int .i64 (chkTs l))∧h'=[]):=by
 have hll:=qCg l
 unfold chkTs
 by_cases h1:l.length < 1∨l.length > 8
 case pos =>
  rw [if_pos h1]
  refine qAb hT Tryz.func128 rfl rfl rfl rfl ?_;intro E hE
  refine ww ?_
  refine qAa rfl (fun c1=>?_) (fun c1=>?_)
  ·refine ww ?_
   exact wwr
  ·exfalso
   simp only [Bool.or_eq_false_iff,decide_eq_false_iff_not] at c1
   omega
 rw [if_neg h1]
 generalize hfin:firstT l=fin
 refine qAb hT Tryz.func128 rfl rfl rfl rfl ?_;intro E hE
 refine ww ?_
 refine qAa rfl (fun c1=>?_) (fun c1=>?_)
 ·exfalso
  simp only [Bool.or_eq_true,decide_eq_true_eq] at c1
  omega
 refine ww ?_
 refine qBg (ι:=Nat) (fun i=>[(14,.d (.sl 7 (encTs l))),(15,.d (.int .i64 ((encTs l).length:Int))),(16,.d (.int .i64 (i:Int)))]) (fun _=>[])
  (fun i=>i≤l.length∧firstT (l.drop i)=fin) (fun i=>l.length-i) 0 ⟨by omega,by simpa using hfin⟩ ⟨.refl _,.refl _,.refl _,trivial⟩ (HLe.refl _) ?_
 rintro i ⟨hi,hg⟩
 have hwr:IntKind.i64.wrap ((i:Int)+1)=((i+1:Nat):Int):=by rw [qAd (by omega)];simp
 refine ww ?_
 refine qAa rfl (fun c2=>?_) (fun c2=>?_)
 ·have c2':i < l.length:=by rw [hll] at c2;simpa using c2
  have hel:=encTs_at c2'
  have hdr:l.drop i=l[i]::l.drop (i+1):=List.drop_eq_getElem_cons c2'
  rw [hdr,firstT] at hg
  have hV:=ValidB_spec l[i]
  generalize validT l[i]=vt at hV hg
  generalize l[i]=t at hel hV
  obtain ⟨t1,t2,t3,t4,t5,t6,t7⟩:=t
  unfold tAV tCells at hV
  unfold encT at hel
  simp only at hV hel
  refine ww ?_
  refine wwi hel ?_
  refine ww ?_
  refine wwc hV ?_
  refine ww ?_
  refine qAa rfl (fun c3=>?_) (fun c3=>?_)
  ·have c3':vt≠0:=by simpa using c3
   rw [if_pos c3'] at hg
   subst hg
   refine ww ?_
   exact wwr
  have c3':¬ vt≠0:=by simpa using c3
  rw [if_neg c3'] at hg
  refine ww ?_
  exact ⟨i+1,[_],⟨c2',hg⟩,by omega,⟨.refl _,.refl _,.int hwr,trivial⟩,HLe.refl _,Env.below_mono hE (by simp),rfl,rfl⟩
 ·have c2':i=l.length:=by rw [hll] at c2;simp at c2;omega
  subst c2'
  rw [List.drop_length] at hg
  subst hg
  refine ww ?_
  exact wwr
end Tdoc
/- The program checks the kinds of templates, by a closure. -/
set_option maxHeartbeats 8000000
set_option maxRecDepth 100000
set_option linter.unusedVariables false
set_option linter.unusedSimpArgs false
namespace Tdoc
open Go Go.Proofs
def PredT (g:FuncId) (first cap:List AV) (H:List AObj) (p:Tpl→Bool) (l:List Tpl):Prop :=
 ∀ c,c∈l→Spec Tryz.prog g (first++([tAV c]++cap)) H (fun r h'=>r=.d (.bool (p c))∧h'=H)
theorem IndexFuncT_spec {l:List Tpl} {g:FuncId} {first cap:List AV} {H:List AObj} {p:Tpl→Bool} (hp:PredT g first cap H p l) (hH:lowH H.length H=true) (h1:lowL H.length first=true) (h2:lowL H.length cap=true) (hl:l.length≤1000000000) :
  Spec Tryz.prog 201 [.d (.sl 7 (encTs l)),.fn (.func g) first cap] H (fun r h'=>r=.d (.int .i64 (fIdx p l))∧h'=H):=by
 refine qAb hT Tryz.func201 rfl rfl rfl rfl ?_
 intro E hE
 have hlen:=qCg l
 refine ww ?_
 refine qAn (ι:=Nat) (fun k=>[(0,.d (.sl 7 (encTs l))),(1,.fn (.func g) first cap),(7,.d (.int .i64 (encTs l).length)),(8,.d (.int .i64 k))]) (fun _=>H) (fun k=>k≤l.length∧∀ j,(hj:j < k)→(hj2:j < l.length)→p l[j]=false) (fun k=>l.length-k) 0
  ⟨by omega,fun j hj=>by omega⟩ ⟨.refl _,.refl _,.refl _,.refl _,trivial⟩ (HLe.refl _) ?_
 intro k ⟨hk,hb⟩
 refine ww ?_
 refine qAa rfl (fun h1'=>?_) (fun h1'=>?_)
 ·have hlt:k < l.length:=by rw [hlen] at h1';simpa using h1'
  have hel:=encTs_at hlt
  have hpk:=hp l[k] (List.getElem_mem hlt)
  generalize hc:l[k]=c at hel hpk
  obtain ⟨c1,c2,c3,c4,c5,c6,c7⟩:=c
  unfold encT at hel
  simp only at hel
  refine ww ?_
  refine qAe (qAc (qAi hT rfl rfl rfl rfl (by omega) hel)) rfl ?_
  refine ww ?_
  refine AWk_opR (callSame (Q:=fun r h'=>r=.d (.bool (p ⟨c1,c2,c3,c4,c5,c6,c7⟩))∧h'=H) rfl rfl (hpk.mono (fun r h' ⟨q1,q2⟩=>⟨⟨q1,q2⟩,by rw [q1];rfl,by rw [q2];exact hH⟩)) hH rfl ?_) rfl ?_
  ·have:∀ (a b:List AV),lowL H.length a=true→lowL H.length b=true→lowL H.length (a++b)=true:=by
    intro a
    induction a with
    | nil=>intro b _ hb;exact hb
    | cons x a ih=>intro b ha hb;simp only [lowL,Bool.and_eq_true,List.cons_append] at ha ⊢;exact ⟨ha.1,ih b ha.2 hb⟩
   exact this _ _ h1 (this [_] _ (by simp [lowL,low,tAV,tCells]) h2)
  rintro v h' ⟨rfl,rfl⟩
  refine ww ?_
  refine qAa rfl (fun h2'=>?_) (fun h2'=>?_)
  ·refine ww ?_
   refine qAf rfl (.refl _) (by simp) rfl rfl hH ⟨?_,rfl⟩
   show AV.d (.int .i64 (k:Int))=_
   rw [fIdx_at hlt (by rw [hc];exact h2') (fun j hj hj2=>hb j hj hj2)]
  ·refine ww ?_
   refine ⟨k+1,⟨by omega,fun j hj hj2=>?_⟩,by omega,⟨.refl _,.refl _,.refl _,AV.le.eq ?_,trivial⟩,HLe.refl _⟩
   ·by_cases hjk:j=k
    ·subst hjk;rw [hc];exact h2'
    ·exact hb j (by omega) hj2
   ·show AV.d (.int .i64 (IntKind.i64.wrap ((k:Int)+1)))=_
    rw [qAd (by omega)];rfl
 ·have hge:k=l.length:=by rw [hlen] at h1';simp at h1';omega
  refine ww ?_
  refine qAf rfl (.refl _) (by simp) rfl rfl hH ⟨?_,rfl⟩
  show AV.d (.int .i64 (-1))=_
  rw [fIdx_none (fun j hj=>hb j (by omega) hj)]
theorem ContainsFuncT_spec {l:List Tpl} {g:FuncId} {first cap:List AV} {H:List AObj} {p:Tpl→Bool} (hp:PredT g first cap H p l) (hH:lowH H.length H=true) (h1:lowL H.length first=true) (h2:lowL H.length cap=true) (hl:l.length≤1000000000) :
  Spec Tryz.prog 130 [.d (.sl 7 (encTs l)),.fn (.func g) first cap] H (fun r h'=>r=.d (.bool (l.any p))∧h'=H):=by
 refine qAb hT Tryz.func130 rfl rfl rfl rfl ?_
 intro E hE
 have hs:=IndexFuncT_spec hp hH h1 h2 hl
 refine ww ?_
 refine AWk_opR (callSame (Q:=fun r h'=>r=.d (.int .i64 (fIdx p l))∧h'=H) rfl rfl (hs.mono (fun r h' ⟨q1,q2⟩=>⟨⟨q1,q2⟩,by rw [q1];rfl,by rw [q2];exact hH⟩)) hH rfl ?_) rfl ?_
 ·simp [lowL,low,h1,h2]
 rintro v h' ⟨rfl,rfl⟩
 refine ww ?_
 refine qAf rfl (.refl _) (by simp) rfl rfl hH ⟨?_,rfl⟩
 show AV.d (.bool (decide (fIdx p l≥0)))=_
 rw [fIdx_any]
theorem kinds1_spec (n:Int) (hn : -9223372036854775807≤n∧n≤9223372036854775807) (x:Tpl):Spec Tryz.prog 131 ([]++([tAV x]++[.ptr 0 0])) [.row [.d (.int .i64 n)]] (fun r h'=>r=.d (.bool (x.kind != n-1))∧h'=[.row [.d (.int .i64 n)]]):=by
 obtain ⟨c1,c2,c3,c4,c5,c6,c7⟩:=x
 unfold tAV tCells
 simp only
 have hwn:IntKind.i64.wrap (n-1)=n-1:=qAd (by omega)
 refine qAb hT Tryz.func131 rfl rfl rfl rfl ?_;intro E hE
 refine qAq ?_
 refine wwe ?_
 refine qAm (qAj ?_)
 refine qAe (qBb (i0:=1) rfl rfl rfl) rfl ?_
 refine ww ?_
 rw [hwn]
 exact qAf rfl (.refl _) rfl rfl rfl rfl ⟨rfl,rfl⟩
theorem kinds_spec (n:Int) (hn : -9223372036854775807≤n∧n≤9223372036854775807) (l:List Tpl) (hl:l.length≤1000000):Spec Tryz.prog 70 [.d (.int .i64 n),.d (.sl 7 (encTs l))] [] (fun r h'=>r=.d (.bool (fitsT n l))∧h'=[]):=by
 have c1:=ContainsFuncT_spec (p:=fun x=>x.kind != n-1) (l:=l) (fun x hx=>kinds1_spec n hn x) rfl rfl rfl (by omega)
 have hf:fitsT n l=!(l.any fun x=>x.kind != n-1):=by
  unfold fitsT
  rw [List.not_any_eq_all_not]
  congr 1
  funext x
  rw [Bool.eq_iff_iff];simp
 rw [hf]
 generalize (l.any fun x=>x.kind != n-1)=b at c1
 refine qAb hT Tryz.func70 rfl rfl rfl rfl ?_;intro E hE
 refine qAq ?_
 refine wwe ?_
 refine qAm (qAj ?_)
 refine qAe (qBb (i0:=0) rfl rfl rfl) rfl ?_
 refine ww ?_
 refine qAe (callS1 rfl rfl (c1) [0] (by decide) rfl rfl rfl rfl rfl rfl rfl) rfl ?_
 refine ww ?_
 exact wwr
end Tdoc
/- The program reads templates: biometrics.Decode = decTs. -/
set_option maxHeartbeats 8000000
set_option maxRecDepth 100000
set_option linter.unusedVariables false
set_option linter.unusedSimpArgs false
namespace Tdoc
open Go Go.Proofs
theorem decTs_two (t:Int) (v:List UInt8) (ty:Int) (vy:List UInt8) (ky ks:List Node) :
  decTs [.mk t v (.mk ty vy ky::ks)]=if (isF (.mk t v (.mk ty vy ky::ks)) 32609&&isF (.mk ty vy ky) 2&&((vy.length:Int) == 1)&&(((nbN vy:Nat):Int) == (ks.length:Int)))=true then contT [] ks else ([],1):=by
 have h1:consF (.mk t v (.mk ty vy ky::ks)) 32609 (-1)=isF (.mk t v (.mk ty vy ky::ks)) 32609:=by unfold isF;rw [if_pos (by decide)]
 have h2:=primF_split ty 2 1 vy ky (by decide) rfl
 have d1:=decTs_cons (x:=.mk t v (.mk ty vy ky::ks))
 have d2:=decTs_prim (x:=.mk t v (.mk ty vy ky::ks)) (y:=.mk ty vy ky) (ks:=ks) rfl
 have d3:consF (.mk t v (.mk ty vy ky::ks)) 32609 (-1)=true→primF (.mk ty vy ky) 2 1=true→decTs [.mk t v (.mk ty vy ky::ks)]=if ((nbN vy:Nat):Int)=(ks.length:Int) then decR ks else ([],1) :=
  fun h0 h3=>decTs_go (x:=.mk t v (.mk ty vy ky::ks)) (y:=.mk ty vy ky) (ks:=ks) h0 rfl ((nbN vy:Nat):Int) rfl h3
 rw [h1] at d1 d3
 rw [h2] at d2 d3
 generalize isF (.mk t v (.mk ty vy ky::ks)) 32609=b0 at *
 generalize isF (.mk ty vy ky) 2=b1 at *
 generalize ((vy.length:Int) == 1)=b2 at *
 cases b0
 ·rw [d1 rfl];simp
 cases b1
 ·rw [d2 (by simp)];simp
 cases b2
 ·rw [d2 (by simp)];simp
 rw [d3 rfl (by simp),decR_eq]
 simp only [Bool.true_and,beq_iff_eq]
theorem DecodeB_spec (l:List Node) (hk:wgtL l≤1000000):Spec Tryz.prog 91 [.d (.sl 3 (encNs l))] []
  (fun r h'=>r=.tup [.d (.sl 7 (encTs (decTs l).1)),.d (.int .i64 (decTs l).2)]∧h'=[]):=by
 have hlen:=qAh l
 by_cases h1:l.length=1
 case neg =>
  rw [decTs_many h1]
  have hn:(((encNs l).length:Int) != 1)=true:=by rw [hlen];simp;omega
  have hn2:(((encNs l).length:Int) != 1||false)=true:=by rw [hn];rfl
  refine qAb hT Tryz.func91 rfl rfl rfl rfl ?_;intro E hE
  refine wwk hn ?_
  refine wwk hn2 ?_
  refine qAa rfl (fun c1=>?_) (fun c1=>?_)
  ·refine ww ?_
   exact wwr
  ·exact absurd c1 (by rw [hn];simp)
 obtain ⟨t,v,k,rfl⟩:∃ t v k,l=[.mk t v k]:=match l,h1 with
  | [.mk t v k],_=>⟨t,v,k,rfl⟩
 have hI:=is_spec (.mk t v k) 32609 (by decide)
 rw [qCe] at hI
 have hel:(encNs [.mk t v k])[((0:Int)).toNat]?=some [.int .i64 t,.sl 1 (encB v),.sl 3 (encNs k)]:=rfl
 have hwk:wgtL k≤1000000:=by simp only [wgtL,wgtN] at hk;omega
 have hkl:=qAh k
 have hkk:=qDe k
 have he1:(((encNs [.mk t v k]).length:Int) != 1)=false:=rfl
 match k,hwk,hkl,hkk,hI,hel,he1 with
 | [],_,hkl,_,hI,hel,he1 =>
  rw [decTs_nil rfl]
  generalize isF (.mk t v []) 32609=b0 at hI
  refine qAb hT Tryz.func91 rfl rfl rfl rfl ?_;intro E hE
  refine ww ?_
  refine wwgi hel ?_
  refine ww ?_
  refine wwgc hI ?_
  refine ww ?_
  refine wwgi hel ?_
  refine ww ?_
  refine qAa rfl (fun c1=>?_) (fun c1=>?_)
  ·refine ww ?_
   exact wwr
  ·exfalso
   rw [show (((encNs []).length:Int) == 0)=true from rfl] at c1
   simp at c1
 | .mk ty vy ky::ks,hwk,hkl,hkk,hI,hel,he1 =>
 have hwks:wgtL ks≤1000000:=by rw [wgtL] at hwk;omega
 have hIy:=is_spec (.mk ty vy ky) 2 (by decide)
 rw [qCe] at hIy
 have hel2:(encNs (.mk ty vy ky::ks))[((0:Int)).toNat]?=some [.int .i64 ty,.sl 1 (encB vy),.sl 3 (encNs ky)]:=rfl
 have hz:(((encNs (.mk ty vy ky::ks)).length:Int) == 0)=false:=by rw [hkl];simp;omega
 rw [List.length_cons] at hkl hkk
 have hvl:=qAg vy
 have hksl:=qAh ks
 rw [decTs_two]
 generalize isF (.mk t v (.mk ty vy ky::ks)) 32609=b0 at hI
 generalize isF (.mk ty vy ky) 2=b1 at hIy
 generalize hfin:contT [] ks=fin
 refine qAb hT Tryz.func91 rfl rfl rfl rfl ?_;intro E hE
 refine ww ?_
 refine wwgi hel ?_
 refine ww ?_
 refine wwgc hI ?_
 refine ww ?_
 refine wwgi hel ?_
 refine ww ?_
 refine qAa rfl (fun c1=>?_) (fun c1=>?_)
 ·have hb0:b0=false:=by
   rw [he1,hz] at c1
   cases b0 <;> simp at c1 ⊢
  rw [hb0,if_neg (by simp)]
  refine ww ?_
  exact wwr
 have hb0:b0=true:=by
  rw [he1,hz] at c1
  cases b0 <;> simp at c1 ⊢
 subst hb0
 clear c1
 refine wwn ?_
 refine qAq (qAq ?_)
 refine qAz (fun i=>bif Nat.beq i 11 then [1] else bif Nat.beq i 12 then [1] else []) (fun i=>bif Nat.beq i 11 then [1] else bif Nat.beq i 12 then [1] else []) mixed (by kernel_rfl) ?_
 refine wwg ?_
 refine qBl (qAi hT rfl rfl rfl rfl (by omega) hel) rfl rfl ?_
 refine wwg ?_
 refine qBl (qAi hT rfl rfl rfl rfl (by omega) hel2) rfl rfl ?_
 refine wwg ?_
 refine qBl (qAi hT rfl rfl rfl rfl (by omega) hel) rfl rfl ?_
 refine wwg ?_
 refine qBd (v:=.ptr 1 0) (os:=[.row [.d (.int .i64 0),.sl 1 [] .full,.sl 3 [] .full]]) (fun k hk1 hk2=>qDn (i0:=1) (t:=92) (i:=⟨.struct [(0,1,false),(1,1,false),(2,1,false)],3,56,[.d (.int .i64 0),.sl 1 [] .full,.sl 3 [] .full]⟩) hT rfl rfl (hk2 1 List.mem_cons_self)) rfl ?_
 refine wwg ?_
 refine ww ?_
 refine wwc hIy ?_
 by_cases hv1:b1=true∧vy.length=1
 case neg =>
  have hn:(!b1||(((encB vy).length:Int) != 1))=true:=by
   rw [hvl]
   cases b1
   ·rfl
   ·have:¬ vy.length=1:=fun h=>hv1 ⟨rfl,h⟩
    simp;omega
  have hcf:¬ (true&&b1&&((vy.length:Int) == 1)&&(((nbN vy:Nat):Int) == (ks.length:Int)))=true:=by
   intro hh
   simp only [Bool.and_eq_true,beq_iff_eq] at hh
   exact hv1 ⟨hh.1.1.2,by omega⟩
  rw [if_neg hcf]
  refine wwk hn ?_
  refine qAa rfl (fun c2=>?_) (fun c2=>?_)
  ·refine ww ?_
   exact wwr
  ·exact absurd c2 (by rw [hn];simp)
 obtain ⟨hb1,hv1⟩:=hv1
 subst hb1
 match vy,hv1,hel,hel2,hvl,hkl,hz,hkk,he1 with
 | [c],_,hel,hel2,hvl,hkl,hz,hkk,he1 =>
 have hcu:=UInt8.toNat_lt c
 have hel3:(encB [c])[((0:Int)).toNat]?=some [.int .u8 (c.toNat:Int)]:=rfl
 have hwc:IntKind.i64.wrap (c.toNat:Int)=(c.toNat:Int):=qAd (by omega)
 have hdl:(encNs (.mk ty [c] ky::ks)).drop (Int.toNat 1)=encNs ks:=rfl
 refine ww ?_
 refine wwgi hel3 ?_
 refine ww ?_
 rw [hdl] at *
 refine qAa rfl (fun c2=>?_) (fun c2=>?_)
 ·have hcf:¬ (true&&true&&((([c]:List UInt8).length:Int) == 1)&&(((nbN [c]:Nat):Int) == (ks.length:Int)))=true:=by
   intro hh
   simp only [Bool.and_eq_true,beq_iff_eq] at hh
   have h2:(c.toNat:Int)=(ks.length:Int):=by simpa [nbN] using hh.2
   rw [hwc,hksl,h2,show ((encB [c]).length:Int)=1 from rfl] at c2
   simp at c2
  rw [if_neg hcf]
  refine ww ?_
  exact wwr
 have hct:(true&&true&&((([c]:List UInt8).length:Int) == 1)&&(((nbN [c]:Nat):Int) == (ks.length:Int)))=true:=by
  rw [hwc,hksl,show ((encB [c]).length:Int)=1 from rfl] at c2
  have h2:(c.toNat:Int)=(ks.length:Int):=by simpa using c2
  simp [nbN,h2]
 rw [if_pos hct]
 clear c2 hct
 refine wwe ?_
 refine qAm (qAj ?_)
 refine wws ?_
 refine qAt 6 7 0 (es:=[]) (.inr ⟨rfl,rfl⟩) rfl ?_
 refine ww ?_
 refine qBg (ι:=Nat×List Tpl) (fun x=>[(60,.d (.sl 3 (encNs ks))),(61,.d (.int .i64 ((encNs ks).length:Int))),(62,.d (.int .i64 (x.1:Int))),(6,.sl 7 (encTs x.2) (.right 0))]) (fun x=>[.right 7 (encTs x.2).length,.row [.d (.int .i64 ty),.d (.sl 1 (encB [c])),.d (.sl 3 (encNs ky))]])
  (fun x=>x.1≤ks.length∧x.2.length=x.1∧contT x.2 (ks.drop x.1)=fin) (fun x=>ks.length-x.1) (0,[]) ⟨by simp,rfl,by simpa using hfin⟩ ⟨.refl _,.refl _,.refl _,.refl _,trivial⟩ (HLe.refl _) ?_
 rintro ⟨i,out⟩ ⟨hi,hol,hg⟩
 simp only at hi hol hg ⊢
 have hel4:=qCg out
 have hwr:IntKind.i64.wrap ((i:Int)+1)=((i+1:Nat):Int):=by rw [qAd (by omega)];omega
 refine ww ?_
 refine qAa rfl (fun c3=>?_) (fun c3=>?_)
 ·have c3':i < ks.length:=by rw [hksl] at c3;simpa using c3
  have helx:(encNs ks)[((i:Int)).toNat]?=some (encN ks[i]):=by rw [Int.toNat_natCast];simp [qBv,c3']
  have hdr:ks.drop i=ks[i]::ks.drop (i+1):=List.drop_eq_getElem_cons c3'
  have hwx:=wgt_mem (List.getElem_mem c3')
  rw [hdr] at hg
  have hT2:=template_spec ks[i] (by omega)
  generalize ks[i]=x at helx hg hT2
  obtain ⟨tx,vx,kx⟩:=x
  rw [encN] at helx
  rw [qCe] at hT2
  refine ww ?_
  refine wwi helx ?_
  refine ww ?_
  refine wwx hT2 ?_
  rintro ⟨y,ok⟩ hy
  obtain ⟨y1,y2,y3,y4,y5,y6,y7⟩:=y
  unfold tAV tCells
  simp only
  refine ww ?_
  refine qAa rfl (fun c4=>?_) (fun c4=>?_)
  ·have hn:ok=false:=by simpa using c4
   subst hn
   rw [contT_none hy.no] at hg
   subst hg
   refine ww ?_
   exact wwr
  have hn:ok=true:=by simpa using c4
  subst hn
  rw [contT_some hy.ok] at hg
  have hres:encTs (out++[⟨y1,y2,y3,y4,y5,y6,y7⟩])=encTs out++[[Dat.int .i64 y1,.int .i64 y2,.int .i64 y3,.int .i64 y4,.int .i64 y5,.int .i64 y6,.sl 1 (encB y7)]]:=by rw [encTs_append];rfl
  refine ww ?_
  refine qAe (qAk (i:=0) hT rfl rfl rfl rfl rfl rfl (by show ((encTs out).length+1)*(72+1)≤_;first | omega | (simp only [qAg,qAh,List.length_append,List.length_cons,List.length_nil];omega))) rfl ?_
  refine ww ?_
  exact ⟨(i+1,out++[⟨y1,y2,y3,y4,y5,y6,y7⟩]),[_,_],⟨c3',by rw [List.length_append,List.length_singleton,hol],hg⟩,by simp only;omega,⟨.refl _,.refl _,.int hwr,AV.le.eq (by rw [hres];rfl),trivial⟩,⟨⟨rfl,by rw [hres]⟩,ObLe.refl _,ObLe.refl _,ObLe.refl _,trivial⟩,Env.below_mono hE (by simp),rfl,rfl⟩
 ·have c3':i=ks.length:=by rw [hksl] at c3;simp at c3;omega
  subst c3'
  rw [List.drop_length,contT_nil] at hg
  have hV:=checkT_spec out (by omega)
  unfold finT at hg
  rw [chkTs_eq] at hg
  generalize chkTs out=we at hV hg
  refine wwe ?_
  refine AW_subL (l:=[(6,.d (.sl 7 (encTs out)))]) (h':=[.right 7 (encTs out).length,.row [.d (.int .i64 ty),.d (.sl 1 (encB [c])),.d (.sl 3 (encNs ky))]]) ⟨AV.le.dat,trivial⟩ (HLe.refl _) ?_
  refine ww ?_
  refine wwc hV ?_
  refine ww ?_
  refine qAa rfl (fun c5=>?_) (fun c5=>?_)
  ·have c5':we≠0:=by simpa using c5
   rw [if_pos c5'] at hg
   subst hg
   refine ww ?_
   exact wwr
  have c5':¬ we≠0:=by simpa using c5
  rw [if_neg c5'] at hg
  subst hg
  refine ww ?_
  exact wwr
end Tdoc
/- The program opens a group of templates: datagroups.OpenBiometric = bioO. -/
set_option maxHeartbeats 8000000
set_option maxRecDepth 100000
set_option linter.unusedVariables false
set_option linter.unusedSimpArgs false
namespace Tdoc
open Go Go.Proofs
theorem biometric_spec (n:Int):Spec Tryz.prog 68 [.d (.int .i64 n)] [] (fun r h'=>r=.d (.bool (decide (n≥2)&&decide (n≤4)))∧h'=[]):=by
 refine qAb hT Tryz.func68 rfl rfl rfl rfl ?_;intro E hE
 refine ww ?_
 exact wwr
theorem OpenBio_spec (b:List UInt8) (hb:b.length≤9223372036854775807):Spec Tryz.prog 39 [.d (.sl 1 (encB b))] []
  (fun r h'=>r=.tup [.d (.int .i64 (bioO b).1),.d (.sl 7 (encTs (bioO b).2.1)),.d (.int .i64 (bioO b).2.2)]∧h'=[]):=by
 have ho:=Open_spec b (by omega)
 have hD:=DecodeB_spec (openX b).2.1 (by have:=openX_wg b;omega)
 have hk:=(decTs_ok (openX b).2.1).2
 unfold bioO
 generalize openX b=q at ho hD hk
 obtain ⟨n,l,e⟩:=q
 simp only at ho hD hk ⊢
 have hB:=biometric_spec n
 by_cases h1:e=0
 case neg =>
  have hn:(e == 0)=false:=by simpa using h1
  rw [if_pos h1]
  refine qAb hT Tryz.func39 rfl rfl rfl rfl ?_;intro E hE
  refine ww ?_
  refine wwc ho ?_
  refine wwk hn ?_
  refine qAa rfl (fun c1=>?_) (fun c1=>?_)
  ·exact absurd c1 (by rw [hn];simp)
  refine ww ?_
  refine qAa rfl (fun c2=>?_) (fun c2=>?_)
  ·refine ww ?_
   exact wwr
  ·exact absurd (by simpa using c2) h1
 subst h1
 rw [if_neg (by omega)]
 by_cases h2:n < 2∨n > 4
 case pos =>
  have hnb:(decide (n≥2)&&decide (n≤4))=false:=by simp;omega
  rw [hnb] at hB
  rw [if_pos h2]
  refine qAb hT Tryz.func39 rfl rfl rfl rfl ?_;intro E hE
  refine ww ?_
  refine wwc ho ?_
  refine ww ?_
  refine wwgc hB ?_
  refine ww ?_
  refine qAa rfl (fun c1=>?_) (fun c1=>?_)
  ·refine ww ?_
   refine qAa rfl (fun c2=>?_) (fun c2=>?_)
   ·refine ww ?_
    exact wwr
   ·exact absurd c2 (by simp)
  ·exact absurd c1 (by simp)
 have hnb:(decide (n≥2)&&decide (n≤4))=true:=by simp;omega
 rw [hnb] at hB
 rw [if_neg h2]
 have hF:=kinds_spec n (by omega) (decTs l).1 (by omega)
 generalize decTs l=d at hD hk hF
 obtain ⟨out,de⟩:=d
 simp only at hD hk hF ⊢
 generalize fitsT n out=ft at hF
 refine qAb hT Tryz.func39 rfl rfl rfl rfl ?_;intro E hE
 refine ww ?_
 refine wwc ho ?_
 refine ww ?_
 refine wwgc hB ?_
 refine ww ?_
 refine qAa rfl (fun c1=>?_) (fun c1=>?_)
 ·exact absurd c1 (by simp)
 refine ww ?_
 refine qAa rfl (fun c2=>?_) (fun c2=>?_)
 ·exact absurd c2 (by simp)
 refine ww ?_
 refine wwc hD ?_
 refine ww ?_
 refine qAa rfl (fun c3=>?_) (fun c3=>?_)
 ·rw [if_pos (by simpa using c3)]
  refine ww ?_
  exact wwr
 rw [if_neg (by simpa using c3)]
 refine ww ?_
 refine wwc hF ?_
 refine ww ?_
 refine qAa rfl (fun c4=>?_) (fun c4=>?_)
 ·have hn:ft=false:=by simpa using c4
  rw [if_pos hn]
  refine ww ?_
  exact wwr
 have hn:¬ ft=false:=by simpa using c4
 rw [if_neg hn]
 refine ww ?_
 exact wwr
end Tdoc
/- The program checks details. -/
set_option maxHeartbeats 8000000
set_option maxRecDepth 100000
set_option linter.unusedVariables false
set_option linter.unusedSimpArgs false
namespace Tdoc
open Go Go.Proofs
def deT (n:Int):List Int:=if n=11 then [24334,24336,24337,24386,24338,24339,24340,24341] else [24345,24358,24347,24405]
theorem deT_has (n t:Int):(deT n).any (fun x=>t == x)=belongsF n t:=by
 unfold deT belongsF
 split
 ·rw [Bool.eq_iff_iff];simp;omega
 ·rw [Bool.eq_iff_iff];simp
theorem detailed_spec (n:Int) (hn:n=11∨n=12):Spec Tryz.prog 73 [.d (.int .i64 n)] [] (fun r h'=>r=.d (.sl 1 (encI (deT n)))∧h'=[]):=by
 by_cases h:n=11
 ·subst h
  refine qAb hT Tryz.func73 rfl rfl rfl rfl ?_;intro E hE
  refine ww ?_
  refine qAa rfl (fun c1=>?_) (fun c1=>?_)
  ·refine ww ?_
   exact wwr
  ·exact absurd c1 (by simp)
 ·obtain rfl:n=12:=by omega
  refine qAb hT Tryz.func73 rfl rfl rfl rfl ?_;intro E hE
  refine ww ?_
  refine qAa rfl (fun c1=>?_) (fun c1=>?_)
  ·exact absurd c1 (by simp)
  refine ww ?_
  refine qAa rfl (fun c2=>?_) (fun c2=>?_)
  ·refine ww ?_
   exact wwr
  ·exact absurd c2 (by simp)
theorem detailed_none (n:Int) (hn:¬ (n=11∨n=12)):Spec Tryz.prog 73 [.d (.int .i64 n)] [] (fun r h'=>r=.nils∧h'=[]):=by
 refine qAb hT Tryz.func73 rfl rfl rfl rfl ?_;intro E hE
 refine ww ?_
 refine qAa rfl (fun c1=>?_) (fun c1=>?_)
 ·exfalso;have:n=11:=by simpa using c1
  omega
 refine ww ?_
 refine qAa rfl (fun c2=>?_) (fun c2=>?_)
 ·exfalso;have:n=12:=by simpa using c2
  omega
 refine wwe ?_
 refine ww ?_
 exact wwr
theorem IndexI_spec (l:List Int) (v:Int) (hl:l.length≤1000000):Spec Tryz.prog 202 [.d (.sl 1 (encI l)),.d (.int .i64 v)] [] (fun r h'=>r=.d (.int .i64 (fIdx (fun x=>v == x) l))∧h'=[]):=by
 have hlen:(encI l).length=l.length:=by simp [encI]
 refine qAb hT Tryz.func202 rfl rfl rfl rfl ?_;intro E hE
 refine ww ?_
 refine qAn (ι:=Nat) (fun k=>[(0,.d (.sl 1 (encI l))),(1,.d (.int .i64 v)),(7,.d (.int .i64 ((encI l).length:Int))),(8,.d (.int .i64 (k:Int)))]) (fun _=>[]) (fun k=>k≤l.length∧∀ j,(hj:j < k)→(hj2:j < l.length)→(v == l[j])=false) (fun k=>l.length-k) 0
  ⟨by omega,fun j hj=>by omega⟩ ⟨.refl _,.refl _,.refl _,.refl _,trivial⟩ (HLe.refl _) ?_
 rintro k ⟨hk,hb⟩
 have hwr:IntKind.i64.wrap ((k:Int)+1)=((k+1:Nat):Int):=by rw [qAd (by omega)];omega
 refine ww ?_
 refine qAa rfl (fun c1=>?_) (fun c1=>?_)
 ·have hlt:k < l.length:=by rw [hlen] at c1;simpa using c1
  have hel:(encI l)[((k:Int)).toNat]?=some [.int .i64 l[k]]:=by simp [encI,hlt]
  generalize hc:l[k]=c at hel
  refine ww ?_
  refine wwi hel ?_
  refine ww ?_
  refine qAa rfl (fun c2=>?_) (fun c2=>?_)
  ·refine ww ?_
   refine qAf rfl (.refl _) rfl rfl rfl rfl ⟨?_,rfl⟩
   show AV.d (.int .i64 (k:Int))=_
   rw [fIdx_at (p:=fun x=>v == x) hlt (by rw [hc];exact c2) (fun j hj hj2=>hb j hj hj2)]
  ·refine ww ?_
   refine ⟨k+1,⟨by omega,fun j hj hj2=>?_⟩,by omega,⟨.refl _,.refl _,.refl _,.int hwr,trivial⟩,HLe.refl _⟩
   by_cases hjk:j=k
   ·subst hjk;rw [hc];exact c2
   ·exact hb j (by omega) hj2
 ·have hge:k=l.length:=by rw [hlen] at c1;simp at c1;omega
  refine ww ?_
  refine qAf rfl (.refl _) rfl rfl rfl rfl ⟨?_,rfl⟩
  show AV.d (.int .i64 (-1))=_
  rw [fIdx_none (p:=fun x=>v == x) (fun j hj=>hb j (by omega) hj)]
theorem ContainsI_spec (l:List Int) (v:Int) (hl:l.length≤1000000):Spec Tryz.prog 134 [.d (.sl 1 (encI l)),.d (.int .i64 v)] [] (fun r h'=>r=.d (.bool (l.any fun x=>v == x))∧h'=[]):=by
 have hs:=IndexI_spec l v hl
 rw [← fIdx_any]
 generalize fIdx (fun x=>v == x) l=k at hs
 refine qAb hT Tryz.func134 rfl rfl rfl rfl ?_;intro E hE
 refine ww ?_
 refine wwc hs ?_
 refine ww ?_
 exact wwr
end Tdoc
/- The program checks details: datagroups.check. -/
set_option maxHeartbeats 8000000
set_option maxRecDepth 100000
set_option linter.unusedVariables false
set_option linter.unusedSimpArgs false
namespace Tdoc
open Go Go.Proofs
def dAV (x:Det):AV:=.agg [.d (.int .i64 x.tag),.d (.str x.text)]
def PredD (g:FuncId) (first cap:List AV) (H:List AObj) (p:Det→Bool) (l:List Det):Prop :=
 ∀ c,c∈l→Spec Tryz.prog g (first++([dAV c]++cap)) H (fun r h'=>r=.d (.bool (p c))∧h'=H)
theorem IndexFuncD_spec {l:List Det} {g:FuncId} {first cap:List AV} {H:List AObj} {p:Det→Bool} (hp:PredD g first cap H p l) (hH:lowH H.length H=true) (h1:lowL H.length first=true) (h2:lowL H.length cap=true) (hl:l.length≤1000000000) :
  Spec Tryz.prog 203 [.d (.sl 2 (encDs l)),.fn (.func g) first cap] H (fun r h'=>r=.d (.int .i64 (fIdx p l))∧h'=H):=by
 refine qAb hT Tryz.func203 rfl rfl rfl rfl ?_
 intro E hE
 have hlen:=qBx l
 refine ww ?_
 refine qAn (ι:=Nat) (fun k=>[(0,.d (.sl 2 (encDs l))),(1,.fn (.func g) first cap),(7,.d (.int .i64 (encDs l).length)),(8,.d (.int .i64 k))]) (fun _=>H) (fun k=>k≤l.length∧∀ j,(hj:j < k)→(hj2:j < l.length)→p l[j]=false) (fun k=>l.length-k) 0
  ⟨by omega,fun j hj=>by omega⟩ ⟨.refl _,.refl _,.refl _,.refl _,trivial⟩ (HLe.refl _) ?_
 intro k ⟨hk,hb⟩
 refine ww ?_
 refine qAa rfl (fun h1'=>?_) (fun h1'=>?_)
 ·have hlt:k < l.length:=by rw [hlen] at h1';simpa using h1'
  have hel:=encDs_at hlt
  have hpk:=hp l[k] (List.getElem_mem hlt)
  generalize hc:l[k]=c at hel hpk
  obtain ⟨c1,c2⟩:=c
  unfold encD at hel
  simp only at hel
  refine ww ?_
  refine qAe (qAc (qAi hT rfl rfl rfl rfl (by omega) hel)) rfl ?_
  refine ww ?_
  refine AWk_opR (callSame (Q:=fun r h'=>r=.d (.bool (p ⟨c1,c2⟩))∧h'=H) rfl rfl (hpk.mono (fun r h' ⟨q1,q2⟩=>⟨⟨q1,q2⟩,by rw [q1];rfl,by rw [q2];exact hH⟩)) hH rfl ?_) rfl ?_
  ·have:∀ (a b:List AV),lowL H.length a=true→lowL H.length b=true→lowL H.length (a++b)=true:=by
    intro a
    induction a with
    | nil=>intro b _ hb;exact hb
    | cons x a ih=>intro b ha hb;simp only [lowL,Bool.and_eq_true,List.cons_append] at ha ⊢;exact ⟨ha.1,ih b ha.2 hb⟩
   exact this _ _ h1 (this [_] _ (by simp [lowL,low,dAV]) h2)
  rintro v h' ⟨rfl,rfl⟩
  refine ww ?_
  refine qAa rfl (fun h2'=>?_) (fun h2'=>?_)
  ·refine ww ?_
   refine qAf rfl (.refl _) (by simp) rfl rfl hH ⟨?_,rfl⟩
   show AV.d (.int .i64 (k:Int))=_
   rw [fIdx_at hlt (by rw [hc];exact h2') (fun j hj hj2=>hb j hj hj2)]
  ·refine ww ?_
   refine ⟨k+1,⟨by omega,fun j hj hj2=>?_⟩,by omega,⟨.refl _,.refl _,.refl _,AV.le.eq ?_,trivial⟩,HLe.refl _⟩
   ·by_cases hjk:j=k
    ·subst hjk;rw [hc];exact h2'
    ·exact hb j (by omega) hj2
   ·show AV.d (.int .i64 (IntKind.i64.wrap ((k:Int)+1)))=_
    rw [qAd (by omega)];rfl
 ·have hge:k=l.length:=by rw [hlen] at h1';simp at h1';omega
  refine ww ?_
  refine qAf rfl (.refl _) (by simp) rfl rfl hH ⟨?_,rfl⟩
  show AV.d (.int .i64 (-1))=_
  rw [fIdx_none (fun j hj=>hb j (by omega) hj)]
theorem ContainsFuncD_spec {l:List Det} {g:FuncId} {first cap:List AV} {H:List AObj} {p:Det→Bool} (hp:PredD g first cap H p l) (hH:lowH H.length H=true) (h1:lowL H.length first=true) (h2:lowL H.length cap=true) (hl:l.length≤1000000000) :
  Spec Tryz.prog 135 [.d (.sl 2 (encDs l)),.fn (.func g) first cap] H (fun r h'=>r=.d (.bool (l.any p))∧h'=H):=by
 refine qAb hT Tryz.func135 rfl rfl rfl rfl ?_
 intro E hE
 have hs:=IndexFuncD_spec hp hH h1 h2 hl
 refine ww ?_
 refine AWk_opR (callSame (Q:=fun r h'=>r=.d (.int .i64 (fIdx p l))∧h'=H) rfl rfl (hs.mono (fun r h' ⟨q1,q2⟩=>⟨⟨q1,q2⟩,by rw [q1];rfl,by rw [q2];exact hH⟩)) hH rfl ?_) rfl ?_
 ·simp [lowL,low,h1,h2]
 rintro v h' ⟨rfl,rfl⟩
 refine ww ?_
 refine qAf rfl (.refl _) (by simp) rfl rfl hH ⟨?_,rfl⟩
 show AV.d (.bool (decide (fIdx p l≥0)))=_
 rw [fIdx_any]
theorem check1_spec (t:Int) (s:List UInt8) (x:Det):Spec Tryz.prog 136 ([]++([dAV x]++[.ptr 0 0])) [.row [.d (.int .i64 t),.d (.str s)]] (fun r h'=>r=.d (.bool (x.tag == t))∧h'=[.row [.d (.int .i64 t),.d (.str s)]]):=by
 obtain ⟨c1,c2⟩:=x
 unfold dAV
 simp only
 refine qAb hT Tryz.func136 rfl rfl rfl rfl ?_;intro E hE
 refine qAq ?_
 refine wwe ?_
 refine qAm (qAj ?_)
 refine qAe (qBb (i0:=1) rfl rfl rfl) rfl ?_
 refine ww ?_
 exact qAf rfl (.refl _) rfl rfl rfl rfl ⟨rfl,rfl⟩
def chkDs (n:Int) (l:List Det):Int:=if l.length > 16 then 2 else detL n [] l
theorem checkD_spec (n:Int) (hn:n=11∨n=12) (l:List Det) (hl:l.length≤1000000):Spec Tryz.prog 74 [.d (.int .i64 n),.d (.sl 2 (encDs l))] [] (fun r h'=>r=.d (.int .i64 (chkDs n l))∧h'=[]):=by
 have hll:=qBx l
 have hdt:=detailed_spec n hn
 have hdl:(deT n).length≤1000000:=by unfold deT;split <;> simp
 unfold chkDs
 by_cases h1:l.length > 16
 case pos =>
  rw [if_pos h1]
  refine qAb hT Tryz.func74 rfl rfl rfl rfl ?_;intro E hE
  refine ww ?_
  refine qAa rfl (fun c1=>?_) (fun c1=>?_)
  ·refine ww ?_
   exact wwr
  ·exfalso
   rw [hll] at c1
   simp at c1
   omega
 rw [if_neg h1]
 generalize hfin:detL n [] l=fin
 refine qAb hT Tryz.func74 rfl rfl rfl rfl ?_;intro E hE
 refine ww ?_
 refine qAa rfl (fun c1=>?_) (fun c1=>?_)
 ·exfalso
  rw [hll] at c1
  simp at c1
  omega
 refine ww ?_
 refine qBg (ι:=Nat) (fun i=>[(0,.d (.int .i64 n)),(1,.d (.sl 2 (encDs l))),(10,.d (.sl 2 (encDs l))),(11,.d (.int .i64 ((encDs l).length:Int))),(12,.d (.int .i64 (i:Int)))]) (fun _=>[])
  (fun i=>i≤l.length∧detL n (l.take i) (l.drop i)=fin) (fun i=>l.length-i) 0 ⟨by omega,by simpa using hfin⟩ ⟨.refl _,.refl _,.refl _,.refl _,.refl _,trivial⟩ (HLe.refl _) ?_
 rintro i ⟨hi,hg⟩
 have hwr:IntKind.i64.wrap ((i:Int)+1)=((i+1:Nat):Int):=by rw [qAd (by omega)];simp
 refine ww ?_
 refine qAa rfl (fun c2=>?_) (fun c2=>?_)
 ·have c2':i < l.length:=by rw [hll] at c2;simpa using c2
  have hel:=encDs_at c2'
  have hdr:l.drop i=l[i]::l.drop (i+1):=List.drop_eq_getElem_cons c2'
  have htk:l.take (i+1)=l.take i++[l[i]]:=List.take_succ_eq_append_getElem c2'
  rw [hdr,detL] at hg
  generalize l[i]=x at hel hg htk
  obtain ⟨xt,xs⟩:=x
  unfold encD at hel
  simp only at hel hg
  have hct:=ContainsI_spec (deT n) xt hdl
  rw [deT_has] at hct
  have hcf:=ContainsFuncD_spec (p:=fun y=>y.tag == xt) (l:=l.take i) (fun y hy=>check1_spec xt xs y) rfl rfl rfl (by rw [List.length_take];omega)
  rw [show ((l.take i).any fun y=>y.tag == xt)=((l.take i).any fun y=>decide (y.tag=xt)) from rfl] at hcf
  generalize belongsF n xt=b1 at hct hg
  generalize ((l.take i).any fun y=>decide (y.tag=xt))=b2 at hcf hg
  refine ww ?_
  refine wwi hel ?_
  refine ww ?_
  refine wwc hdt ?_
  refine ww ?_
  refine wwc hct ?_
  refine ww ?_
  refine qAa rfl (fun c3=>?_) (fun c3=>?_)
  ·have hn:b1=false:=by simpa using c3
   rw [if_pos hn] at hg
   subst hg
   refine ww ?_
   exact wwr
  have hn:¬ b1=false:=by simpa using c3
  rw [if_neg hn] at hg
  have hcl:(encDs l).take ((i:Int)).toNat=encDs (l.take i):=by
   rw [Int.toNat_natCast]
   simp [encDs,List.map_take]
  refine ww ?_
  rw [hcl]
  refine qAe (callS1 rfl rfl (hcf) [0] (by decide) rfl rfl rfl rfl rfl rfl rfl) rfl ?_
  refine ww ?_
  refine qAa rfl (fun c4=>?_) (fun c4=>?_)
  ·rw [if_pos c4] at hg
   subst hg
   refine ww ?_
   exact wwr
  rw [if_neg (by rw [c4];simp)] at hg
  refine ww ?_
  refine qAa rfl (fun c5=>?_) (fun c5=>?_)
  ·have c5':xs.length < 1∨xs.length > 99:=by
    simp only [Bool.or_eq_true,decide_eq_true_eq] at c5
    omega
   rw [if_pos c5'] at hg
   subst hg
   refine ww ?_
   exact wwr
  have c5':¬ (xs.length < 1∨xs.length > 99):=by
   simp only [Bool.or_eq_false_iff,decide_eq_false_iff_not] at c5
   omega
  rw [if_neg c5'] at hg
  refine ww ?_
  exact ⟨i+1,[_],⟨c2',by rw [htk];exact hg⟩,by omega,⟨.refl _,.refl _,.refl _,.refl _,.int hwr,trivial⟩,HLe.refl _,Env.below_mono hE (by simp),rfl,rfl⟩
 ·have c2':i=l.length:=by rw [hll] at c2;simp at c2;omega
  subst c2'
  rw [List.drop_length,detL] at hg
  subst hg
  refine ww ?_
  exact wwr
end Tdoc
/- securityinfo.identifier. -/
set_option maxHeartbeats 8000000
set_option maxRecDepth 100000
set_option linter.unusedVariables false
set_option linter.unusedSimpArgs false
namespace Tdoc
open Go Go.Proofs
theorem identifier_spec (p:Int) (hp:2≤p∧p≤6):Spec Tryz.prog 207 [.d (.int .i64 p)] [] (fun r h'=>r=.d (.sl 1 (encB (idB p)))∧h'=[]):=by
 have hp':p=2∨p=3∨p=4∨p=5∨p=6:=by omega
 rcases hp' with rfl | rfl | rfl | rfl | rfl
 all_goals
  refine qAb hT Tryz.func207 rfl rfl rfl rfl ?_;intro E hE
  refine qAq ?_
  refine wwn ?_
  refine qAz (fun i=>bif Nat.beq i 0 then [0] else bif Nat.beq i 1 then [0] else []) (fun i=>bif Nat.beq i 0 then [0] else bif Nat.beq i 1 then [0] else []) mixed (by kernel_rfl) ?_
  refine qBd (os:=[.opq (cbR [4,0,127,0,7,2,2])]) (fun k hk1 hk2=>buildCB_ok hT rfl rfl ((hk2 0 List.mem_cons_self).trans rfl)) rfl ?_
  refine qBd (os:=[.dead]) (fun k hk1 hk2=>markCB_ok hT rfl rfl rfl ((hk2 0 List.mem_cons_self).trans rfl) rfl) rfl ?_
  refine wwg ?_
  refine qBl (qCs hT rfl rfl rfl rfl (by decide)) rfl rfl ?_
  refine qBl (qCs hT rfl rfl rfl rfl (by decide)) rfl rfl ?_
  refine wwg ?_
  refine qBl (qCs hT rfl rfl rfl rfl (by decide)) rfl rfl ?_
  refine qBl (qCs hT rfl rfl rfl rfl (by decide)) rfl rfl ?_
  refine wwg ?_
  refine qBd (os:=[]) (fun k hk1 hk2=>qDm hT rfl rfl) rfl ?_
  refine qBd (os:=[]) (fun k hk1 hk2=>qBi hT rfl rfl rfl (.inl rfl) rfl (by decide)) rfl ?_
  refine wwg ?_
  refine ww ?_
  exact wwr
end Tdoc
/- Plain: what was read encodes to no more bytes than were read. -/
set_option linter.unusedVariables false
set_option linter.unusedSimpArgs false
namespace Tdoc
open Go
theorem digL_pow:∀ (k m n:Nat),n < 256 ^ m→(digL k n).length≤m
 | 0,m,n,h=>by simp [digL]
 | k+1,m,n,h=>by
  rw [digL]
  split
  ·simp
  ·rename_i h0
   match m,h with
   | 0,h=>exact absurd h (by simp;omega)
   | m+1,h =>
    have:=digL_pow k m (n / 256) (by rw [Nat.pow_succ] at h;omega)
    simp;omega
theorem lenB_pow {m n:Nat} (h:n < 256 ^ m):(lenB n).length≤1+m:=by
 unfold lenB
 split
 ·simp
 ·have:=digL_pow 8 m n h
  simp [digs];omega
theorem lenB_one {n:Nat} (h:n < 128):(lenB n).length=1:=by unfold lenB;rw [if_pos h];rfl
theorem tagX_wr {b:List UInt8} {e p:Nat} (h:(tagX b e p).2.1=0):(tagB (tagX b e p).1).length+p≤(tagX b e p).2.2:=by
 have hb:=qBj b p
 unfold tagX at h ⊢
 split at h
 ·exact absurd h (by simp)
 rename_i h1
 rw [if_neg h1]
 split at h
 ·rename_i h2
  rw [if_pos h2]
  split at h
  ·exact absurd h (by simp)
  rename_i h3
  rw [if_neg h3]
  split at h
  ·rename_i h4
   rw [if_pos h4]
   unfold tagB;split <;> simp <;> omega
  ·exact absurd h (by simp)
 ·rename_i h2
  rw [if_neg h2]
  split at h
  ·rename_i h4
   rw [if_pos h4]
   unfold tagB;rw [if_neg (by omega)];simp;omega
  ·exact absurd h (by simp)
theorem lenX_wr {b:List UInt8} {e p:Nat} {op st:Bool} (h:(lenX b e op st p).2.1=0) :
  ((lenX b e op st p).1 = -1∧p+1≤(lenX b e op st p).2.2)∨(0≤(lenX b e op st p).1∧∀ w:Nat,(w:Int)≤(lenX b e op st p).1→(lenB w).length+p≤(lenX b e op st p).2.2):=by
 unfold lenX at h ⊢
 split at h
 ·exact absurd h (by simp)
 rename_i h1
 rw [if_neg h1]
 split at h
 ·rename_i h2
  rw [if_pos h2]
  refine .inr ⟨by simp only;omega,fun w hw=>?_⟩
  simp only at hw ⊢
  rw [lenB_one (by omega)];omega
 rename_i h2
 rw [if_neg h2]
 split at h
 ·exact absurd h (by simp)
 rename_i h3
 rw [if_neg h3]
 split at h
 ·rename_i h4
  rw [if_pos h4]
  exact .inl ⟨rfl,by simp only;omega⟩
 rename_i h4
 rw [if_neg h4]
 split at h
 ·exact absurd h (by simp)
 rename_i h5
 rw [if_neg h5]
 split at h
 ·exact absurd h (by simp)
 rename_i h6
 rw [if_neg h6]
 refine .inr ⟨by simp only;omega,fun w hw=>?_⟩
 simp only at hw ⊢
 have hn:=numB_lt b (byteAt b p % 16) (p+1) 0 0 (by simp)
 rw [Nat.zero_add] at hn
 have:=lenB_pow (m:=byteAt b p % 16) (n:=w) (by omega)
 omega
def WrF (f:Rd) (e:Nat):Prop:=∀ p c,p≤e→c≤256→(f p c).2.1=0→(wrN (f p c).1).length+p≤(f p c).2.2.1
def WrLs (p x:Nat) (out:List Node) (r:List Node×Int×Nat×Nat):Prop:=r.2.1=0→∃ new,r.1=out++new∧(wrL new).length+p+x≤r.2.2.1
theorem WrLs.step {f:Rd} {e p c x:Nat} {out:List Node} {r:List Node×Int×Nat×Nat} (hf:WrF f e) (hp:p≤e) (hc:c≤256) (h0:(f p c).2.1=0) (h:WrLs (f p c).2.2.1 x (out++[(f p c).1]) r):WrLs p x out r:=by
 intro hr
 obtain ⟨new,h1,h2⟩:=h hr
 have g:=hf p c hp hc h0
 exact ⟨(f p c).1::new,by rw [h1];simp,by rw [wrL,List.length_append];omega⟩
theorem loopX_wr {f:Rd} {e:Nat} (hk:RdOk f e) (hf:WrF f e):∀ (m p c:Nat) (out:List Node),p≤e→c≤256→WrLs p 0 out (loopX f e m p c out)
 | 0,p,c,out,_,_=>fun _=>⟨[],by simp [loopX],by simp [loopX,wrL]⟩
 | m+1,p,c,out,hp,hc=>by
  rw [loopX]
  split
  ·split
   ·rename_i h;exact fun h0=>absurd h0 h
   ·rename_i h
    have h':(f p c).2.1=0:=by simpa using h
    have k:=hk p c hp hc
    exact WrLs.step hf hp hc h' (loopX_wr hk hf m _ _ _ k.2.1 (k.2.2.2 h').2)
  ·exact fun _=>⟨[],by simp,by simp [wrL]⟩
theorem kidsX_wr {b:List UInt8} {f:Rd} {e:Nat} (hk:RdOk f e) (hf:WrF f e):∀ (m p c:Nat) (out:List Node),p≤e→c≤256→WrLs p 2 out (kidsX b f e m p c out)
 | 0,p,c,out,_,_=>fun h=>absurd h (by simp [kidsX])
 | m+1,p,c,out,hp,hc=>by
  rw [kidsX]
  split
  ·exact fun h=>absurd h (by simp)
  ·split
   ·exact fun _=>⟨[],by simp,by simp [wrL]⟩
   ·split
    ·rename_i h;exact fun h0=>absurd h0 h
    ·rename_i h
     have h':(f p c).2.1=0:=by simpa using h
     have k:=hk p c hp hc
     exact WrLs.step hf hp hc h' (kidsX_wr hk hf m _ _ _ k.2.1 (k.2.2.2 h').2)
theorem objX_wr (b:List UInt8) (st:Bool) (hb:b.length≤4096):∀ (k e d:Nat),e≤4096→WrF (objX b st k e d) e
 | 0,e,d,_=>fun p c _ _ h=>by simp [objX] at h
 | k+1,e,d,he=>fun p c hp hc h=>by
  have ih:=fun e' (h:e'≤4096)=>objX_wr b st hb k e' (d+1) h
  have ik:=fun e'=>objX_ok b st k e' (d+1)
  rw [objX] at h ⊢
  by_cases ht:(tagX b e p).2.1≠0
  ·rw [if_pos ht] at h;exact absurd h ht
  rw [if_neg ht] at h ⊢
  have t1:=tagX_wr (b:=b) (e:=e) (p:=p) (by simpa using ht)
  have t2:=(tagX_ok b hp).2.1
  have l2:=lenX_ok b (tagCons (tagX b e p).1&&!st) st t2
  unfold objY at h ⊢
  by_cases hl:(lenX b e (tagCons (tagX b e p).1&&!st) st (tagX b e p).2.2).2.1≠0
  ·rw [if_pos hl] at h;exact absurd h hl
  have l1:=lenX_wr (by simpa using hl)
  rw [if_neg hl] at h ⊢
  generalize (tagX b e p).2.2=q at *
  generalize (tagX b e p).1=t at *
  generalize lenX b e (tagCons t&&!st) st q=n at *
  obtain ⟨n,e2,z⟩:=n
  simp only at h l1 l2 ⊢
  split at h
  ·exact absurd h (by simp)
  rename_i g1
  rw [if_neg g1]
  split at h
  ·exact absurd h (by simp)
  rename_i g2
  rw [if_neg g2]
  split at h
  ·exact absurd h (by simp)
  rename_i g3
  rw [if_neg g3]
  split at h
  ·rename_i g4
   rw [if_pos g4]
   have k1:=kidsX_ok (b:=b) (ik e) (e+1) z (c+1) [] l2.2.1 (by omega)
   obtain ⟨new,q1,q2⟩:=kidsX_wr (b:=b) (ik e) (ih e he) (e+1) z (c+1) [] l2.2.1 (by omega) h
   rw [List.nil_append] at q1
   simp only
   rw [q1,wrN]
   have hz:q+1≤z:=by
    rcases l1 with l1 | l1
    ·exact l1.2
    ·exact absurd g4 (by omega)
   split
   ·have:=lenB_pow (m:=2) (n:=(wrL new).length) (by omega)
    simp only [List.length_append];omega
   ·have:=lenB_one (n:=0) (by simp)
    simp only [List.length_append,List.length_nil,this];omega
  ·rename_i g4
   rw [if_neg g4]
   have l1:∀ w:Nat,(w:Int)≤n→(lenB w).length+q≤z:=by
    rcases l1 with l1 | l1
    ·exact absurd l1.1 g4
    ·exact l1.2
   have hle:z+n.toNat≤e:=by omega
   split at h
   ·rename_i g5
    rw [if_pos g5]
    have k1:=loopX_ok (ik (z+n.toNat)) (e+1) z (c+1) [] (by omega) (by omega)
    obtain ⟨new,q1,q2⟩:=loopX_wr (ik (z+n.toNat)) (ih (z+n.toNat) (by omega)) (e+1) z (c+1) [] (by omega) (by omega) h
    rw [List.nil_append] at q1
    simp only
    rw [q1,wrN,if_pos g5]
    have:=l1 (wrL new).length (by omega)
    simp only [List.length_append];omega
   ·rename_i g5
    rw [if_neg g5]
    simp only
    rw [wrN,if_neg g5]
    have hlen:((b.drop z).take n.toNat).length≤n.toNat:=by rw [List.length_take];omega
    have:=l1 ((b.drop z).take n.toNat).length (by omega)
    simp only [List.length_append];omega
theorem parseX_wr {b:List UInt8} {st:Bool} (h:(parseX b st).2=0):(wrL (parseX b st).1).length≤b.length:=by
 unfold parseX at h ⊢
 split at h
 ·exact absurd h (by simp)
 ·rename_i hb
  rw [if_neg hb]
  have hok:=loopX_ok (objX_ok b st 9 b.length 1) (b.length+1) 0 0 [] (by omega) (by omega)
  obtain ⟨new,h1,h2⟩:=loopX_wr (objX_ok b st 9 b.length 1) (objX_wr b st (by omega) 9 b.length 1 (by omega)) (b.length+1) 0 0 [] (by omega) (by omega) h
  rw [List.nil_append] at h1
  simp only
  rw [h1]
  omega
end Tdoc
/- Plain: the objects of a group that was opened can be encoded. -/
set_option linter.unusedVariables false
set_option linter.unusedSimpArgs false
namespace Tdoc
open Go
mutual
theorem chkN_up (d:Nat):∀ (n:Node),(chkN (d+1) n 0).1=0→(chkN d n 0).1=0
 | .mk t v k,h=>by
  have hi:=chkN_inv h
  have hk:=chkL_up (d+1) k (by rw [qDh (d+1+1) k 0 (0+1)];exact hi.2.2.2.2)
  rw [chkN,if_neg (by simp [hi.1]),if_neg ?_,if_neg (by have:=hi.2.2.2.1;omega)]
  ·rw [qDh (d+1) k (0+1) 0];exact hk
  ·cases hc:tagCons t
   ·simp [hi.2.1 hc]
   ·simp [hi.2.2.1 hc]
theorem chkL_up (d:Nat):∀ (l:List Node),(chkL (d+1) l 0).1=0→(chkL d l 0).1=0
 | [],_=>rfl
 | a::l,h=>by
  have hi:=chkL_inv h
  rw [chkL,if_pos (chkN_up d a hi.1),qDh d l _ 0]
  exact chkL_up d l hi.2
end
theorem openX_enc {b:List UInt8} (h:(openX b).2.2=0):encodeP (openX b).2.1=(wrL (openX b).2.1,0):=by
 have hc:=openX_chk b
 have hx:(wrL (openX b).2.1).length≤4096∧sizeL (openX b).2.1≤256:=by
  unfold openX at h ⊢
  split at h
  ·rename_i h2;exact absurd h h2
  rename_i h2
  rw [if_neg h2]
  have hg:=qDj (b:=b) (st:=false) (by omega)
  have hw:=parseX_wr (b:=b) (st:=false) (by omega)
  split
  ·rename_i t v k hk
   rw [hk] at hg hw
   split
   ·simp [wrL,sizeL]
   ·have hi:=chkN_inv (chkL_inv hg.2.1).1
    have h3:=hg.2.2.1
    simp only [wrL,wrN,sizeL,sizeN,List.length_append,List.length_nil] at hw h3 ⊢
    refine ⟨?_,by omega⟩
    cases hc:tagCons t
    ·rw [hi.2.1 hc];simp [wrL]
    ·rw [hc] at hw;simp only [if_true] at hw;omega
  ·simp [wrL,sizeL]
 have h1:=chkL_up 1 _ hc
 unfold encodeP
 rw [if_neg (by rw [h1];simp),if_neg ?_,if_neg (by omega)]
 have:=(chkL_count 1 (openX b).2.1 0).1
 omega
end Tdoc
/- The program opens a group of infos: datagroups.OpenInfos = infoO, given that securityinfo.Decode = decI. -/
set_option maxHeartbeats 8000000
set_option maxRecDepth 100000
set_option linter.unusedVariables false
set_option linter.unusedSimpArgs false
namespace Tdoc
open Go Go.Proofs
theorem OpenInf_walk (b:List UInt8) (hb:b.length≤9223372036854775807) (hD:∀ v:List UInt8,v.length≤4096→Spec Tryz.prog 95 [.d (.sl 1 (encB v))] [] (fun r h'=>r=.tup [.d (.sl 5 (encFs (decI v).1)),.d (.int .i64 (decI v).2)]∧h'=[])) :
  Spec Tryz.prog 41 [.d (.sl 1 (encB b))] [] (fun r h'=>r=.tup [.d (.sl 5 (encFs (infoO b).1)),.d (.int .i64 (infoO b).2)]∧h'=[]):=by
 have ho:=open_spec b 14 (by omega)
 have hz:=openZ_eq b 14
 have hch:=openX_chk b
 have hwg:=openX_wg b
 have hen:=openX_enc (b:=b)
 unfold infoO
 rw [hz.1,hz.2]
 by_cases h1:(openY b 14).2=0
 case neg =>
  rw [if_pos h1]
  generalize openY b 14=q at ho h1
  obtain ⟨l,e⟩:=q
  simp only at ho h1 ⊢
  refine qAb hT Tryz.func41 rfl rfl rfl rfl ?_;intro E hE
  refine ww ?_
  refine wwc ho ?_
  refine ww ?_
  refine qAa rfl (fun c1=>?_) (fun c1=>?_)
  ·refine ww ?_
   exact wwr
  ·exact absurd (by simpa using c1) h1
 have hk:=openZ_ok (b:=b) (lo:=14) (hi:=14) (by rw [hz.2];exact h1)
 rw [hz.1] at hk
 obtain ⟨k1,k2,k3,k4,k5⟩:=hk
 rw [if_neg (by omega)]
 have hen:=hen k4
 rw [← k3] at hen hch hwg
 have hf:=chkL_fit 2 _ hch (by omega)
 have hl:=qDe (openY b 14).1
 have hw4:(wrL (openY b 14).1).length≤4096:=by have:=encP_len (openY b 14).1;rw [hen] at this;exact this
 have hEc:=Encode_spec (openY b 14).1 (by omega) hf.1 (by omega) (by omega)
 have hD:=hD (encodeP (openY b 14).1).1 (encP_len _)
 rw [h1] at ho
 have he2:(encodeP (openY b 14).1).2=0:=by rw [hen]
 rw [he2] at hEc
 generalize (encodeP (openY b 14).1).1=eb at hEc hD
 generalize (openY b 14).1=l at ho hEc
 generalize decI eb=w at hD
 obtain ⟨w,we⟩:=w
 simp only at hD ⊢
 refine qAb hT Tryz.func41 rfl rfl rfl rfl ?_;intro E hE
 refine ww ?_
 refine wwc ho ?_
 refine ww ?_
 refine qAa rfl (fun c1=>?_) (fun c1=>?_)
 ·exact absurd c1 (by simp)
 refine ww ?_
 refine wwc hEc ?_
 refine ww ?_
 refine qAa rfl (fun c2=>?_) (fun c2=>?_)
 ·exact absurd c2 (by simp)
 refine ww ?_
 refine wwc hD ?_
 refine ww ?_
 exact wwr
end Tdoc
/- The program checks one info: securityinfo.check = infE. -/
set_option maxHeartbeats 8000000
set_option maxRecDepth 100000
set_option linter.unusedVariables false
set_option linter.unusedSimpArgs false
namespace Tdoc
open Go Go.Proofs
theorem known_spec (p:Int):Spec Tryz.prog 250 [.d (.int .i64 p)] [] (fun r h'=>r=.d (.bool (decide (p≥2)&&decide (p≤6)))∧h'=[]):=by
 refine qAb hT Tryz.func250 rfl rfl rfl rfl ?_;intro E hE
 refine ww ?_
 exact wwr
theorem mapped_spec (p:Int):Spec Tryz.prog 209 [.d (.int .i64 p)] [] (fun r h'=>r=.d (.bool (p == 2||p == 3))∧h'=[]):=by
 refine qAb hT Tryz.func209 rfl rfl rfl rfl ?_;intro E hE
 refine ww ?_
 exact wwr
theorem most_spec (b:Bool) (n:Int):Spec Tryz.prog 251 [.d (.bool b),.d (.int .i64 n)] [] (fun r h'=>r=.d (.int .i64 (if b=true then n else 0))∧h'=[]):=by
 refine qAb hT Tryz.func251 rfl rfl rfl rfl ?_;intro E hE
 refine ww ?_
 refine qAa rfl (fun c1=>?_) (fun c1=>?_)
 ·rw [if_pos c1]
  refine ww ?_
  exact wwr
 ·rw [if_neg (by rw [c1];simp)]
  refine ww ?_
  exact wwr
theorem checkI_spec (x:Inf):Spec Tryz.prog 204 [.agg (fCells x)] [] (fun r h'=>r=.d (.int .i64 (infE x))∧h'=[]):=by
 obtain ⟨p,v,a,k,d⟩:=x
 have hK:=known_spec p
 have hM:=mapped_spec p
 have hm1:=most_spec (p == 2||p == 3) 31
 have hm2:=most_spec (p == 4) 255
 have hE2:=Element_spec k
 have e1:(if (p == 2||p == 3)=true then (31:Int) else 0)=parI p:=by unfold parI;simp
 have e2:(if (p == 4)=true then (255:Int) else 0)=kidI p:=by unfold kidI;simp
 rw [e1] at hm1
 rw [e2] at hm2
 unfold infE fCells
 simp only
 generalize elemG k=el at hE2
 generalize parI p=pm at hm1
 generalize kidI p=km at hm2
 refine qAb hT Tryz.func204 rfl rfl rfl rfl ?_;intro E hE
 refine qAq ?_
 refine wwe ?_
 refine qAm (qAj ?_)
 refine qAe (qBb (i0:=0) rfl rfl rfl) rfl ?_
 refine ww ?_
 refine wwc hK ?_
 refine ww ?_
 refine qAa rfl (fun c1=>?_) (fun c1=>?_)
 ·have c1':p < 2∨p > 6:=by simp at c1;omega
  rw [if_pos c1']
  refine ww ?_
  exact wwr
 have c1':¬ (p < 2∨p > 6):=by simp at c1;omega
 rw [if_neg c1']
 refine ww ?_
 refine qAa rfl (fun c2=>?_) (fun c2=>?_)
 ·have c2':v < 1∨v > 255∨a < 0∨a > pm∨d < 0∨d > km:=by simp only [Bool.or_eq_true,decide_eq_true_eq] at c2;omega
  rw [if_pos c2']
  refine ww ?_
  exact wwr
 simp only [Bool.or_eq_false_iff,decide_eq_false_iff_not] at c2
 refine ww ?_
 refine wwgc hM ?_
 refine ww ?_
 refine wwgc hm1 ?_
 refine ww ?_
 refine qAa rfl (fun c3=>?_) (fun c3=>?_)
 ·have c3':v < 1∨v > 255∨a < 0∨a > pm∨d < 0∨d > km:=by simp only [Bool.or_eq_true,decide_eq_true_eq] at c3;omega
  rw [if_pos c3']
  refine ww ?_
  exact wwr
 simp only [Bool.or_eq_false_iff,decide_eq_false_iff_not] at c3
 refine ww ?_
 refine wwgc hm2 ?_
 refine ww ?_
 refine qAa rfl (fun c4=>?_) (fun c4=>?_)
 ·have c4':v < 1∨v > 255∨a < 0∨a > pm∨d < 0∨d > km:=by simp only [Bool.or_eq_true,decide_eq_true_eq] at c4;omega
  rw [if_pos c4']
  refine ww ?_
  exact wwr
 simp only [Bool.or_eq_false_iff,decide_eq_false_iff_not] at c4
 rw [if_neg (by omega)]
 refine ww ?_
 refine wwgc hE2 ?_
 refine ww ?_
 have hc:((p == 4&&!el)||(!(p == 4)&&k != 0))=decide ((p=4∧el=false)∨(p≠4∧k≠0)):=by
  by_cases h4:p=4 <;> cases el <;> by_cases hk:k=0 <;> simp [h4,hk]
 refine qAa rfl (fun c5=>?_) (fun c5=>?_)
 ·have c5':(p=4∧el=false)∨(p≠4∧k≠0):=by rw [hc] at c5;simpa using c5
  rw [if_pos c5']
  refine ww ?_
  exact wwr
 have c5':¬ ((p=4∧el=false)∨(p≠4∧k≠0)):=by rw [hc] at c5;exact of_decide_eq_false c5
 rw [if_neg c5']
 refine wwe ?_
 refine ww ?_
 exact wwr
end Tdoc
/- securityinfo.info, the plain side: what the program reads of an info. -/
set_option linter.unusedVariables false
set_option linter.unusedSimpArgs false
namespace Tdoc
open Go Go.Proofs
theorem primW {d:Nat} {x:Node} (hw:WfN d x) {t n:Int} (ht:tagCons t=false) (hn:0≤n):primF x t n=true↔(tagN x=t∧((valN x).length:Int)=n):=by
 rw [primF_iff]
 constructor
 ·rintro ⟨h1,h2,h3⟩
  exact ⟨h1,by omega⟩
 ·rintro ⟨h1,h2⟩
  obtain ⟨t',v,k⟩:=x
  exact ⟨h1,hw.prim (by rw [show t'=t from h1];exact ht),.inr h2⟩
theorem protoF_vals (v:List UInt8):protoF v=0∨protoF v=2∨protoF v=3∨protoF v=4∨protoF v=5∨protoF v=6:=by
 unfold protoF
 repeat' split
 all_goals omega
theorem protoF_len {v:List UInt8} (h:protoF v≠0):v.length=9:=by
 unfold protoF at h
 repeat' split at h
 all_goals first | (rename_i hv;rw [hv];exact idB_length _) | exact absurd rfl h
def fldsF (p:Int):List (Int×Int×Nat):=if p=2∨p=3 then [(2,1,1),(2,1,2)] else if p=4 then [(2,1,1),(4,4,3),(2,1,4)] else [(2,1,1)]
def fldL:List (Int×Int×Nat)→List Node→List Int→Option (List Int)
 | [],_,o=>some o
 | f::fs,x::xs,o=>if tagN x=f.1∧((valN x).length:Int)=f.2.1 then fldL fs xs (o.set f.2.2 ((nbN (valN x):Nat):Int)) else none
 | _::_,[],_=>none
def infQ (p:Int) (l:List Node):Option (List Int):=if l.length≠(fldsF p).length then none else fldL (fldsF p) l [p,0,0,0,0]
def InfR (x:Node):Option (List Int)→Prop
 | none=>infX x=none
 | some o=>∃ a b c d e,o=[a,b,c,d,e]∧infX x=some ⟨a,b,c,d,e⟩
theorem infQ_ok {d:Nat} {v:List UInt8} {i:Node} {l:List Node} (hw:WfN d (.mk 48 v (i::l))) (hi:tagN i=6) (hl:l≠[]) :
  (protoF (valN i)=0→infX (.mk 48 v (i::l))=none)∧(protoF (valN i)≠0→InfR (.mk 48 v (i::l)) (infQ (protoF (valN i)) l)):=by
 obtain ⟨w,r,rfl⟩:∃ w r,l=w::r:=match l,hl with
  | w::r,_=>⟨w,r,rfl⟩
  | [],h=>absurd rfl h
 have hv:v=[]:=hw.cons rfl
 have hC:consF (.mk 48 v (i::w::r)) 48 (-1)=true:=consF_iff.2 ⟨rfl,hv,.inl (by decide)⟩
 have hwi:WfN (d+1) i:=hw.kids i (by simp)
 have hww:WfN (d+1) w:=hw.kids w (by simp)
 have hwr:∀ q,q∈r→WfN (d+1) q:=fun q hq=>hw.kids q (by simp [hq])
 have hk:kidN (.mk 48 v (i::w::r))=i::w::r:=rfl
 have h2:=primW hww (t:=2) (n:=1) rfl (by omega)
 generalize hx:(Node.mk 48 v (i::w::r))=x at hC hk
 refine ⟨fun h0=>?_,fun h0=>?_⟩
 ·by_cases h6:primF i 6 9=true
  ·by_cases hp:primF w 2 1=true
   ·rw [infX_go hC hk h6 hp,h0,infM_0]
   ·exact infX_n4 hk (by simpa using hp)
  ·exact infX_n3 hk (by simpa using h6)
 ·have h6:primF i 6 9=true:=(primW hwi rfl (by omega)).2 ⟨hi,by have:=protoF_len h0;omega⟩
  have hgo:=infX_go (r:=r) hC hk h6
  have hvals:=protoF_vals (valN i)
  generalize protoF (valN i)=p at h0 hgo hvals
  by_cases hp:primF w 2 1=true
  case neg =>
   have hn:infX x=none:=infX_n4 hk (by simpa using hp)
   have hnf:¬ (tagN w=2∧((valN w).length:Int)=1):=fun h=>hp (h2.2 h)
   have hQ:infQ p (w::r)=none:=by
    unfold infQ
    split
    ·rfl
    ·unfold fldsF
     split
     ·rw [fldL,if_neg hnf]
     ·split
      ·rw [fldL,if_neg hnf]
      ·rw [fldL,if_neg hnf]
   rw [hQ]
   exact hn
  have hpt:=h2.1 hp
  have hgo:=hgo hp
  by_cases h23:p=2∨p=3
  ·have hf:fldsF p=[(2,1,1),(2,1,2)]:=if_pos h23
   unfold infQ
   rw [hf]
   by_cases hr:r.length=1
   ·obtain ⟨q,rfl⟩:∃ q,r=[q]:=match r,hr with
     | [q],_=>⟨q,rfl⟩
    rw [infM_2 h23] at hgo
    have hq:=primW (hwr q (by simp)) (t:=2) (n:=1) rfl (by omega)
    rw [if_neg (by simp),fldL,if_pos hpt,fldL]
    by_cases hqt:tagN q=2∧((valN q).length:Int)=1
    ·rw [if_pos hqt,fldL]
     rw [if_pos (hq.2 hqt)] at hgo
     exact ⟨_,_,_,_,_,rfl,hgo⟩
    ·rw [if_neg hqt]
     rw [if_neg (fun h=>hqt (hq.1 h))] at hgo
     exact hgo
   ·rw [if_pos (by simp;omega)]
    rw [infM_2n h23 hr] at hgo
    exact hgo
  by_cases h4:p=4
  ·subst h4
   have hf:fldsF 4=[(2,1,1),(4,4,3),(2,1,4)]:=rfl
   unfold infQ
   rw [hf]
   by_cases hr:r.length=2
   ·obtain ⟨q,s,rfl⟩:∃ q s,r=[q,s]:=match r,hr with
     | [q,s],_=>⟨q,s,rfl⟩
    rw [infM_4] at hgo
    have hq:=primW (hwr q (by simp)) (t:=4) (n:=4) rfl (by omega)
    have hs:=primW (hwr s (by simp)) (t:=2) (n:=1) rfl (by omega)
    rw [if_neg (by simp),fldL,if_pos hpt,fldL]
    by_cases hqt:tagN q=4∧((valN q).length:Int)=4
    ·rw [if_pos hqt,fldL]
     by_cases hst:tagN s=2∧((valN s).length:Int)=1
     ·rw [if_pos hst,fldL]
      rw [if_pos ⟨hq.2 hqt,hs.2 hst⟩] at hgo
      exact ⟨_,_,_,_,_,rfl,hgo⟩
     ·rw [if_neg hst]
      rw [if_neg (fun h=>hst (hs.1 h.2))] at hgo
      exact hgo
    ·rw [if_neg hqt]
     rw [if_neg (fun h=>hqt (hq.1 h.1))] at hgo
     exact hgo
   ·rw [if_pos (by simp;omega)]
    rw [infM_4n hr] at hgo
    exact hgo
  ·have hf:fldsF p=[(2,1,1)]:=by unfold fldsF;rw [if_neg h23,if_neg h4]
   have h5:p≠0∧p≠2∧p≠3∧p≠4:=⟨h0,fun h=>h23 (.inl h),fun h=>h23 (.inr h),h4⟩
   unfold infQ
   rw [hf]
   by_cases hr:r=[]
   ·subst hr
    rw [infM_5 h5] at hgo
    rw [if_neg (by simp),fldL,if_pos hpt,fldL]
    exact ⟨_,_,_,_,_,rfl,hgo⟩
   ·have hrl:0 < r.length:=List.length_pos_iff.2 hr
    rw [if_pos (by simp;omega)]
    rw [infM_5n h5 hr] at hgo
    exact hgo
def flatF (fs:List (Int×Int×Nat)):List AV:=(fs.map fun f=>[AV.d (.int .i64 f.1),AV.d (.int .i64 f.2.1),AV.ptr 2 f.2.2]).flatten
theorem flatF_length:∀ fs:List (Int×Int×Nat),(flatF fs).length=fs.length*3
 | []=>rfl
 | f::fs=>by
  have:=flatF_length fs
  unfold flatF at this ⊢
  rw [List.map_cons,List.flatten_cons,List.length_append,this]
  show 3+fs.length*3=(fs.length+1)*3
  omega
theorem flatF_at:∀ (fs:List (Int×Int×Nat)) (j:Nat) (h:j < fs.length),((flatF fs).drop (0+j*3)).take 3=[AV.d (.int .i64 fs[j].1),AV.d (.int .i64 fs[j].2.1),AV.ptr 2 fs[j].2.2]
 | f::fs,0,_=>by simp [flatF]
 | f::fs,j+1,h=>by
  have:=flatF_at fs j (by simpa using h)
  unfold flatF at this ⊢
  rw [List.map_cons,List.flatten_cons,show 0+(j+1)*3=3+(0+j*3) by omega]
  rw [← List.drop_drop]
  simpa using this
end Tdoc
/- Plain: the names of an optical zone, as the program and as the reference take them apart. -/
set_option linter.unusedVariables false
set_option linter.unusedSimpArgs false
namespace Tdoc
open Go
def trimF (s:List UInt8):List UInt8:=Lib.trimRightB s 60
def spaceF (s:List UInt8):List UInt8:=s.map fun c=>if c=60 then 32 else c
def wordsB (x:UInt8):Bool→List UInt8→Bool
 | _,[]=>true
 | b,c::l=>if c=x then !b&&!l.isEmpty&&wordsB x true l else isUp c&&wordsB x false l
theorem wordsB_name:∀ (b:Bool) (s:List UInt8),wordsB 32 b s=nameL b s
 | _,[]=>by simp [wordsB,nameL]
 | b,c::l=>by rw [wordsB,nameL,wordsB_name true l,wordsB_name false l];rfl
def cutR:List UInt8→List UInt8×List UInt8×Bool
 | []=>([],[],false)
 | c::l=>if c=60∧l.head?=some 60 then ([],l.tail,true) else (c::(cutR l).1,(cutR l).2.1,(cutR l).2.2)
theorem cutR_eq:∀ (s:List UInt8),Lib.cut s [60,60]=cutR s
 | []=>by simp [Lib.cut,cutR,Lib.index]
 | c::l=>by
  have ih:=cutR_eq l
  rw [cutR,← ih]
  have hge:=Lib.index_ge l [60,60]
  by_cases h:c=60∧l.head?=some 60
  ·obtain ⟨rfl,h⟩:=h
   match l,h with
   | d::m,h =>
    simp only [List.head?_cons,Option.some.injEq] at h
    subst h
    have hi:Lib.index (60::60::m) [60,60]=0:=by unfold Lib.index;simp
    simp [Lib.cut,hi]
  ·rw [if_neg h]
   have hp:([60,60]:List UInt8).isPrefixOf (c::l)=false:=by
    cases l with
    | nil=>simp [List.isPrefixOf]
    | cons d m =>
     simp only [List.head?_cons,Option.some.injEq] at h
     simp only [List.isPrefixOf,Bool.and_true,Bool.and_eq_false_iff,beq_eq_false_iff_ne,ne_eq]
     by_cases hc:c=60
     ·right;exact fun hh=>h ⟨hc,hh.symm⟩
     ·left;exact fun hh=>hc hh.symm
   have hi:Lib.index (c::l) [60,60]=if Lib.index l [60,60] == -1 then -1 else Lib.index l [60,60]+1:=by
    conv=>lhs;unfold Lib.index
    rw [hp];rfl
   by_cases hm:Lib.index l [60,60] = -1
   ·have h1:Lib.index (c::l) [60,60] = -1:=by rw [hi,hm];rfl
    unfold Lib.cut
    rw [h1,hm]
    simp
   ·have h1:Lib.index (c::l) [60,60]=Lib.index l [60,60]+1:=by rw [hi,if_neg (by simpa using hm)]
    unfold Lib.cut
    rw [h1,if_pos (by omega),if_pos (by omega)]
    have ht:(Lib.index l [60,60]+1).toNat=(Lib.index l [60,60]).toNat+1:=by omega
    rw [ht]
    simp [Nat.add_right_comm]
def splL:Nat→Bool→List UInt8→List UInt8→List UInt8→Option (List UInt8×List UInt8)
 | _,_,p0,p1,[]=>some (p0,p1)
 | r,a,p0,p1,c::l =>
  if c=60 then splL (r+1) a p0 p1 l
  else if r > 2∨(r > 0∧p0=[])∨(r=2∧a=true) then none
  else if r=2 then splL 0 true p0 (p1++[c]) l
  else if a=true then splL 0 true p0 (p1++(if r=1 then [32] else [])++[c]) l
  else splL 0 false (p0++(if r=1 then [32] else [])++[c]) p1 l
def isFld (s:List UInt8):Bool:=s.all fun c=>decide (c=60)||isUp c
def splitR (s:List UInt8):List UInt8×List UInt8×Int :=
 if s.length < 1∨s.length > 64 then ([],[],2) else if isFld s=false then ([],[],12)
 else match splL 0 false [] [] (trimF s) with
  | none=>([],[],1)
  | some (p0,p1)=>if p0=[] then ([],[],1) else (p0,p1,0)
def splitP (s:List UInt8):List UInt8×List UInt8×Int :=
 if s.length < 1∨s.length > 64 then ([],[],2) else if isFld s=false then ([],[],12)
 else if (Lib.cut (trimF s) [60,60]).1=[]∨((Lib.cut (trimF s) [60,60]).2.2=true∧(Lib.cut (trimF s) [60,60]).2.1=[])∨wordsB 60 true (Lib.cut (trimF s) [60,60]).1=false∨wordsB 60 true (Lib.cut (trimF s) [60,60]).2.1=false then ([],[],1)
 else (spaceF (Lib.cut (trimF s) [60,60]).1,spaceF (Lib.cut (trimF s) [60,60]).2.1,0)
def Endd (s:List UInt8):Prop:=s.getLast?≠some 60∧isFld s=true
theorem Endd.cons {c d:UInt8} {l:List UInt8} (h:Endd (c::d::l)):Endd (d::l):=⟨by have:=h.1;rwa [List.getLast?_cons_cons] at this,by have:=h.2;rw [isFld,List.all_cons,Bool.and_eq_true] at this;exact this.2⟩
theorem Endd.one {c:UInt8} (h:Endd [c]):c≠60:=fun e=>h.1 (by rw [e];rfl)
theorem Endd.tail {c:UInt8} {l:List UInt8} (h:Endd (c::l)):Endd l:=by
 cases l with
 | nil=>exact ⟨by simp,rfl⟩
 | cons d m=>exact h.cons
theorem Endd.up {c:UInt8} {l:List UInt8} (h:Endd (c::l)) (hc:c≠60):isUp c=true:=by
 have:=h.2
 rw [isFld,List.all_cons,Bool.and_eq_true] at this
 simpa [hc] using this.1
theorem Endd.ne {l:List UInt8} (h:Endd (60::l)):l≠[]:=fun e=>by subst e;exact h.one rfl
theorem splL_bad:∀ (l:List UInt8) (r:Nat) (a:Bool) (p0 p1:List UInt8),Endd l→l≠[]→(r > 2∨(r > 0∧p0=[])∨(r≥2∧a=true))→splL r a p0 p1 l=none
 | [],_,_,_,_,_,h,_=>absurd rfl h
 | c::l,r,a,p0,p1,h,_,hr=>by
  rw [splL]
  by_cases hc:c=60
  ·subst hc
   rw [if_pos rfl]
   exact splL_bad l (r+1) a p0 p1 h.tail h.ne (by
    rcases hr with hr | hr | hr
    ·exact .inl (by omega)
    ·exact .inr (.inl ⟨by omega,hr.2⟩)
    ·exact .inr (.inr ⟨by omega,hr.2⟩))
  ·rw [if_neg hc,if_pos]
   rcases hr with hr | hr | hr
   ·exact .inl hr
   ·exact .inr (.inl hr)
   ·by_cases h2:r=2
    ·exact .inr (.inr ⟨h2,hr.2⟩)
    ·exact .inl (by omega)
theorem spaceF_cons (c:UInt8) (l:List UInt8):spaceF (c::l)=(if c=60 then 32 else c)::spaceF l:=rfl
theorem splL_two (l:List UInt8):∀ (p0 p1:List UInt8),Endd l→p0≠[]→splL 0 true p0 p1 l=if wordsB 60 false l=true then some (p0,p1++spaceF l) else none:=by
 match l with
 | []=>intro p0 p1 h hp;simp [splL,wordsB,spaceF]
 | [c] =>
  intro p0 p1 h hp
  have hc:=h.one
  rw [splL,if_neg hc,if_neg (by simp),if_neg (by simp),if_pos rfl,splL,wordsB,if_neg hc,h.up hc]
  simp [wordsB,spaceF,hc]
 | c::d::m =>
  intro p0 p1 h hp
  have ih1:=splL_two (d::m)
  have ih2:=splL_two m
  by_cases hc:c=60
  ·subst hc
   rw [splL,if_pos rfl,wordsB,if_pos rfl]
   by_cases hd:d=60
   ·subst hd
    rw [splL,if_pos rfl,splL_bad m 2 true p0 p1 h.tail.tail h.tail.ne (.inr (.inr ⟨by omega,rfl⟩)),wordsB,if_pos rfl]
    simp
   ·rw [splL,if_neg hd,if_neg (by simp [hp]),if_neg (by omega),if_pos rfl,if_pos rfl,ih2 _ _ h.tail.tail hp,wordsB,if_neg hd,h.tail.up hd]
    simp [spaceF_cons,hd]
  ·rw [splL,if_neg hc,if_neg (by simp),if_neg (by omega),if_pos rfl,if_neg (by omega),ih1 _ _ h.tail hp]
   conv=>rhs;rw [wordsB,if_neg hc,h.up hc]
   simp [spaceF_cons,hc]
termination_by l.length
theorem splL_one (l:List UInt8):∀ (p0:List UInt8),Endd l→p0≠[]→splL 0 false p0 [] l =
  if wordsB 60 false (cutR l).1=true∧wordsB 60 true (cutR l).2.1=true∧((cutR l).2.2=true→(cutR l).2.1≠[]) then some (p0++spaceF (cutR l).1,spaceF (cutR l).2.1) else none:=by
 match l with
 | []=>intro p0 h hp;simp [splL,wordsB,spaceF,cutR]
 | [c] =>
  intro p0 h hp
  have hc:=h.one
  rw [splL,if_neg hc,if_neg (by simp),if_neg (by simp),if_neg (by simp),splL,cutR,if_neg (by simp)]
  simp [wordsB,spaceF,hc,cutR,h.up hc]
 | c::d::m =>
  intro p0 h hp
  have ih1:=splL_one (d::m)
  have ih2:=splL_one m
  by_cases hc:c=60
  ·subst hc
   by_cases hd:d=60
   ·subst hd
    have hcut:cutR (60::60::m)=([],m,true):=by rw [cutR,if_pos ⟨rfl,rfl⟩];rfl
    have hm:=h.tail.ne
    rw [splL,if_pos rfl,splL,if_pos rfl,hcut]
    match m,hm with
    | e::n,_ =>
     by_cases he:e=60
     ·subst he
      rw [splL,if_pos rfl,splL_bad n 3 false p0 [] h.tail.tail.tail h.tail.tail.ne (.inl (by omega))]
      simp [wordsB]
     ·rw [splL,if_neg he,if_neg (by simp [hp]),if_pos rfl,splL_two n p0 _ h.tail.tail.tail hp]
      simp [wordsB,he,h.tail.tail.up he,spaceF]
   ·have hcut:cutR (60::d::m)=(60::d::(cutR m).1,(cutR m).2.1,(cutR m).2.2):=by
     rw [cutR,if_neg (by simp [hd]),cutR,if_neg (by simp [hd])]
    rw [splL,if_pos rfl,splL,if_neg hd,if_neg (by simp [hp]),if_neg (by omega),if_neg (by simp),if_pos rfl,ih2 _ h.tail.tail (by simp),hcut]
    simp [wordsB,hd,h.tail.up hd,spaceF]
  ·have hcut:cutR (c::d::m)=(c::(cutR (d::m)).1,(cutR (d::m)).2.1,(cutR (d::m)).2.2):=by rw [cutR,if_neg (by simp [hc])]
   rw [splL,if_neg hc,if_neg (by simp),if_neg (by omega),if_neg (by simp),if_neg (by omega),ih1 _ h.tail (by simp),hcut]
   simp only [wordsB,if_neg hc,h.up hc,spaceF_cons,Bool.true_and]
   simp
termination_by l.length
theorem trimF_endd {s:List UInt8} (h:isFld s=true):Endd (trimF s):=by
 refine ⟨?_,?_⟩
 ·unfold trimF Lib.trimRightB
  rw [List.getLast?_reverse]
  intro hh
  generalize hd:s.reverse=t at hh
  clear hd h
  induction t with
  | nil=>simp at hh
  | cons a t ih =>
   rw [List.dropWhile_cons] at hh
   split at hh
   ·exact ih hh
   ·rename_i hn;simp at hh hn;exact hn hh
 ·unfold isFld at h ⊢
  rw [List.all_eq_true] at h ⊢
  intro x hx
  unfold trimF Lib.trimRightB at hx
  rw [List.mem_reverse] at hx
  exact h x (List.mem_reverse.1 ((List.dropWhile_sublist _).subset hx))
theorem split_agree (s:List UInt8):splitP s=splitR s:=by
 unfold splitP splitR
 split
 ·rfl
 split
 ·rfl
 rename_i h1 h2
 have hE:=trimF_endd (s:=s) (by simpa using h2)
 generalize trimF s=t at hE
 rw [cutR_eq]
 match t,hE with
 | [],_=>simp [cutR,splL]
 | c::l,hE =>
  by_cases hc:c=60
  ·subst hc
   rw [splL,if_pos rfl,splL_bad l 1 false [] [] hE.tail hE.ne (.inr (.inl ⟨by omega,rfl⟩))]
   simp only
   rw [if_pos]
   rw [cutR]
   split
   ·exact .inl rfl
   ·exact .inr (.inr (.inl (by simp [wordsB])))
  ·have hs:splL 0 false [] [] (c::l)=splL 0 false [c] [] l:=by rw [splL,if_neg hc];simp
   have hcut:cutR (c::l)=(c::(cutR l).1,(cutR l).2.1,(cutR l).2.2):=by rw [cutR,if_neg (by simp [hc])]
   have hw:∀ x,wordsB 60 true (c::x)=wordsB 60 false x:=fun x=>by rw [wordsB,if_neg hc,hE.up hc,Bool.true_and]
   have hsp:∀ x,spaceF (c::x)=c::spaceF x:=fun x=>by rw [spaceF_cons,if_neg hc]
   rw [hs,splL_one l _ hE.tail (by simp),hcut]
   simp only [hw,hsp]
   by_cases a1:wordsB 60 false (cutR l).1=true <;> by_cases a2:wordsB 60 true (cutR l).2.1=true <;> by_cases a3:(cutR l).2.2=true <;> by_cases a4:(cutR l).2.1=[] <;> simp [a1,a2,a3,a4] <;> simp_all [wordsB]
theorem index_one (x c:UInt8) (l:List UInt8):Lib.index (c::l) [x]=if c=x then 0 else if Lib.index l [x] = -1 then -1 else Lib.index l [x]+1:=by
 conv=>lhs;unfold Lib.index
 by_cases h:c=x
 ·subst h;simp [List.isPrefixOf]
 ·have hp:([x]:List UInt8).isPrefixOf (c::l)=false:=by
   simp only [List.isPrefixOf,Bool.and_true,beq_eq_false_iff_ne,ne_eq]
   exact fun e=>h e.symm
  rw [hp,if_neg h]
  by_cases hm:Lib.index l [x] = -1 <;> simp [hm]
theorem replaceK_miss (x y c:UInt8) (l:List UInt8) (h:c≠x):∀ n,Lib.replaceK [x] [y] n (c::l)=c::Lib.replaceK [x] [y] n l
 | 0=>rfl
 | n+1=>by
  have hi:=index_one x c l
  rw [if_neg h] at hi
  have hge:=Lib.index_ge l [x]
  unfold Lib.replaceK
  by_cases hm:Lib.index l [x] = -1
  ·rw [if_pos hm] at hi
   rw [hi,hm];rfl
  ·rw [if_neg hm] at hi
   have h1:¬ (Lib.index l [x] == -1)=true:=by simpa using hm
   have h2:¬ (Lib.index (c::l) [x] == -1)=true:=by rw [hi];simp;omega
   rw [if_neg h1,if_neg h2,hi]
   have ht:(Lib.index l [x]+1).toNat=(Lib.index l [x]).toNat+1:=by omega
   rw [ht]
   simp [Nat.add_right_comm]
theorem count_one (x c:UInt8) (l:List UInt8):Lib.count (c::l) [x]=(if c=x then 1 else 0)+Lib.count l [x]:=by
 have hi:=index_one x c l
 by_cases h:c=x
 ·rw [if_pos h] at hi
  rw [if_pos h,Lib.count_hit (i:=0) (by simp) (by rw [hi];rfl)]
  rfl
 ·rw [if_neg h] at hi
  have hge:=Lib.index_ge l [x]
  rw [if_neg h,Nat.zero_add]
  by_cases hm:Lib.index l [x] = -1
  ·rw [if_pos hm] at hi
   rw [Lib.count_miss hi,Lib.count_miss hm]
  ·rw [if_neg hm] at hi
   have h1:Lib.index l [x]=((Lib.index l [x]).toNat:Int):=by omega
   have h2:Lib.index (c::l) [x]=(((Lib.index l [x]).toNat+1:Nat):Int):=by omega
   rw [Lib.count_hit (by simp) h1,Lib.count_hit (by simp) h2]
   simp [Nat.add_right_comm]
theorem replaceK_all (x y:UInt8):∀ (s:List UInt8),Lib.replaceK [x] [y] (Lib.count s [x]) s=s.map fun c=>if c=x then y else c
 | []=>by
  have h:Lib.index ([]:List UInt8) [x] = -1:=rfl
  rw [Lib.count_miss h];rfl
 | c::l=>by
  have ih:=replaceK_all x y l
  rw [count_one,List.map_cons]
  by_cases h:c=x
  ·subst h
   rw [if_pos rfl,if_pos rfl,Nat.add_comm,Lib.replaceK_hit [c] [y] _ (c::l) 0 (by rw [index_one,if_pos rfl];rfl),← ih]
   simp
  ·rw [if_neg h,if_neg h,Nat.zero_add,replaceK_miss x y c l h,ih]
theorem replace_all (x y:UInt8) (h:x≠y) (s:List UInt8):Lib.replaceAll s [x] [y]=s.map fun c=>if c=x then y else c:=by
 unfold Lib.replaceAll Lib.replace
 rw [if_neg (by simpa using h)]
 unfold Lib.replaceNum
 rw [if_pos (.inl (by decide)),replaceK_all]
theorem replace_space (s:List UInt8):Lib.replaceAll s [60] [32]=spaceF s:=replace_all 60 32 (by decide) s
end Tdoc
